/-
  The field of 256 bytes in plain Lean: tables of powers and logs, products through them, the same products bit by bit, and the laws of a field. No program in sight.
-/
namespace Tri

/-- Is it so for every number below n? -/
def allB (n : Nat) (p : Nat → Bool) : Bool := match n with
  | 0 => true
  | k + 1 => p k && allB k p

theorem allB_of {n : Nat} {p : Nat → Bool} (h : allB n p = true) : ∀ k, k < n → p k = true := by
  induction n with
  | zero => intro k hk; omega
  | succ n ih =>
    simp only [allB, Bool.and_eq_true] at h
    intro k hk
    by_cases e : k = n
    · subst e; exact h.1
    · exact ih h.2 k (by omega)

/-- x times a byte. -/
def xt (b : Nat) : Nat := if b < 128 then 2 * b else (2 * b) ^^^ 285

def expT : List Nat := [
  1, 2, 4, 8, 16, 32, 64, 128, 29, 58, 116, 232, 205, 135, 19, 38, 76, 152, 45, 90, 180, 117, 234, 201, 143, 3, 6, 12, 24, 48, 96, 192, 157, 39, 78,
  156, 37, 74, 148, 53, 106, 212, 181, 119, 238, 193, 159, 35, 70, 140, 5, 10, 20, 40, 80, 160, 93, 186, 105, 210, 185, 111, 222, 161, 95, 190, 97,
  194, 153, 47, 94, 188, 101, 202, 137, 15, 30, 60, 120, 240, 253, 231, 211, 187, 107, 214, 177, 127, 254, 225, 223, 163, 91, 182, 113, 226, 217, 175,
  67, 134, 17, 34, 68, 136, 13, 26, 52, 104, 208, 189, 103, 206, 129, 31, 62, 124, 248, 237, 199, 147, 59, 118, 236, 197, 151, 51, 102, 204, 133, 23,
  46, 92, 184, 109, 218, 169, 79, 158, 33, 66, 132, 21, 42, 84, 168, 77, 154, 41, 82, 164, 85, 170, 73, 146, 57, 114, 228, 213, 183, 115, 230, 209,
  191, 99, 198, 145, 63, 126, 252, 229, 215, 179, 123, 246, 241, 255, 227, 219, 171, 75, 150, 49, 98, 196, 149, 55, 110, 220, 165, 87, 174, 65, 130,
  25, 50, 100, 200, 141, 7, 14, 28, 56, 112, 224, 221, 167, 83, 166, 81, 162, 89, 178, 121, 242, 249, 239, 195, 155, 43, 86, 172, 69, 138, 9, 18, 36,
  72, 144, 61, 122, 244, 245, 247, 243, 251, 235, 203, 139, 11, 22, 44, 88, 176, 125, 250, 233, 207, 131, 27, 54, 108, 216, 173, 71, 142]
def logT : List Nat := [
  0, 0, 1, 25, 2, 50, 26, 198, 3, 223, 51, 238, 27, 104, 199, 75, 4, 100, 224, 14, 52, 141, 239, 129, 28, 193, 105, 248, 200, 8, 76, 113, 5, 138, 101,
  47, 225, 36, 15, 33, 53, 147, 142, 218, 240, 18, 130, 69, 29, 181, 194, 125, 106, 39, 249, 185, 201, 154, 9, 120, 77, 228, 114, 166, 6, 191, 139, 98,
  102, 221, 48, 253, 226, 152, 37, 179, 16, 145, 34, 136, 54, 208, 148, 206, 143, 150, 219, 189, 241, 210, 19, 92, 131, 56, 70, 64, 30, 66, 182, 163,
  195, 72, 126, 110, 107, 58, 40, 84, 250, 133, 186, 61, 202, 94, 155, 159, 10, 21, 121, 43, 78, 212, 229, 172, 115, 243, 167, 87, 7, 112, 192, 247,
  140, 128, 99, 13, 103, 74, 222, 237, 49, 197, 254, 24, 227, 165, 153, 119, 38, 184, 180, 124, 17, 68, 146, 217, 35, 32, 137, 46, 55, 63, 209, 91,
  149, 188, 207, 205, 144, 135, 151, 178, 220, 252, 190, 97, 242, 86, 211, 171, 20, 42, 93, 158, 132, 60, 57, 83, 71, 109, 65, 162, 31, 45, 67, 216,
  183, 123, 164, 118, 196, 23, 73, 236, 127, 12, 111, 246, 108, 161, 59, 82, 41, 157, 85, 170, 251, 96, 134, 177, 187, 204, 62, 90, 203, 89, 95, 176,
  156, 169, 160, 81, 11, 245, 22, 235, 122, 117, 44, 215, 79, 174, 213, 233, 230, 231, 173, 232, 116, 214, 244, 234, 168, 80, 88, 175]

/-- The power of x. -/
def gexp (n : Nat) : Nat := expT.getD (n % 255) 0
/-- The log of a byte. -/
def glog (b : Nat) : Nat := logT.getD b 0
/-- The product. -/
def gmul (a b : Nat) : Nat := if a = 0 ∨ b = 0 then 0 else gexp (glog a + glog b)
/-- The inverse. -/
def ginv (a : Nat) : Nat := gexp (255 - glog a)

theorem gexp_zero : gexp 0 = 1 := by decide +kernel
theorem gexp_add_255 (n : Nat) : gexp (n + 255) = gexp n := by unfold gexp; rw [Nat.add_mod_right]
theorem gexp_mod (n : Nat) : gexp (n % 255) = gexp n := by unfold gexp; rw [Nat.mod_mod]
theorem gexp_succ (n : Nat) : gexp (n + 1) = xt (gexp n) := by
  have h : allB 255 (fun n => expT.getD ((n + 1) % 255) 0 == xt (expT.getD (n % 255) 0)) = true := by decide +kernel
  have := allB_of h (n % 255) (Nat.mod_lt _ (by omega))
  simp only [beq_iff_eq, Nat.mod_mod, Nat.mod_add_mod] at this
  exact this
theorem gexp_lt (n : Nat) : gexp n < 256 := by
  have h : allB 255 (fun n => decide (expT.getD n 0 < 256)) = true := by decide +kernel
  simpa [gexp] using allB_of h (n % 255) (Nat.mod_lt _ (by omega))
theorem gexp_pos (n : Nat) : 0 < gexp n := by
  have h : allB 255 (fun n => decide (0 < expT.getD n 0)) = true := by decide +kernel
  simpa [gexp] using allB_of h (n % 255) (Nat.mod_lt _ (by omega))
theorem gexp_ne (n : Nat) : gexp n ≠ 0 := by have := gexp_pos n; omega
theorem glog_lt (b : Nat) : glog b < 255 := by
  by_cases hb : b < 256
  · have h : allB 256 (fun n => decide (logT.getD n 0 < 255)) = true := by decide +kernel
    simpa [glog] using allB_of h b hb
  · unfold glog
    rw [List.getD_eq_getElem?_getD, List.getElem?_eq_none (by have : logT.length = 256 := by decide +kernel
                                                              omega)]
    decide
theorem gexp_glog (b : Nat) (h0 : b ≠ 0) (hb : b < 256) : gexp (glog b) = b := by
  have h : allB 256 (fun b => b == 0 || (expT.getD (logT.getD b 0 % 255) 0 == b)) = true := by decide +kernel
  have := allB_of h b hb
  simp only [Bool.or_eq_true, beq_iff_eq] at this
  rcases this with h | h
  · omega
  · exact h
theorem glog_gexp (n : Nat) : glog (gexp n) = n % 255 := by
  have h : allB 255 (fun n => logT.getD (expT.getD n 0) 0 == n) = true := by decide +kernel
  have := allB_of h (n % 255) (Nat.mod_lt _ (by omega))
  simpa [glog, gexp] using this
theorem glog_one : glog 1 = 0 := by decide +kernel
theorem gexp_inj {i j : Nat} (hi : i < 255) (hj : j < 255) (h : gexp i = gexp j) : i = j := by
  have := congrArg glog h
  rwa [glog_gexp, glog_gexp, Nat.mod_eq_of_lt hi, Nat.mod_eq_of_lt hj] at this

theorem gmul_zero (a : Nat) : gmul a 0 = 0 := by simp [gmul]
theorem zero_gmul (a : Nat) : gmul 0 a = 0 := by simp [gmul]
theorem gmul_comm (a b : Nat) : gmul a b = gmul b a := by simp only [gmul, Or.comm, Nat.add_comm]
theorem gmul_lt (a b : Nat) : gmul a b < 256 := by unfold gmul; split <;> simp [gexp_lt]
theorem gmul_gexp (i j : Nat) : gmul (gexp i) (gexp j) = gexp (i + j) := by
  unfold gmul
  rw [if_neg (by simp [gexp_ne]), glog_gexp, glog_gexp, ← gexp_mod, ← Nat.add_mod, gexp_mod]
theorem gmul_ne {a b : Nat} (ha : a ≠ 0) (hb : b ≠ 0) : gmul a b ≠ 0 := by unfold gmul; rw [if_neg (by omega)]; exact gexp_ne _
theorem gmul_eq_zero {a b : Nat} : gmul a b = 0 ↔ a = 0 ∨ b = 0 := by
  constructor
  · intro h
    by_cases e : a = 0 ∨ b = 0
    · exact e
    · exact absurd h (gmul_ne (by omega) (by omega))
  · rintro (rfl | rfl)
    · exact zero_gmul _
    · exact gmul_zero _
theorem gmul_one (a : Nat) (ha : a < 256) : gmul a 1 = a := by
  by_cases h : a = 0
  · simp [gmul, h]
  · unfold gmul; rw [if_neg (by omega), glog_one, Nat.add_zero, gexp_glog a h ha]
theorem one_gmul (a : Nat) (ha : a < 256) : gmul 1 a = a := by rw [gmul_comm, gmul_one a ha]
theorem gmul_assoc (a b c : Nat) : gmul (gmul a b) c = gmul a (gmul b c) := by
  by_cases ha : a = 0
  · subst ha; simp [zero_gmul]
  by_cases hb : b = 0
  · subst hb; simp [zero_gmul, gmul_zero]
  by_cases hc : c = 0
  · subst hc; simp [gmul_zero]
  have e1 : gmul a b = gexp (glog a + glog b) := by unfold gmul; rw [if_neg (by omega)]
  have e2 : gmul b c = gexp (glog b + glog c) := by unfold gmul; rw [if_neg (by omega)]
  rw [e1, e2]
  unfold gmul
  rw [if_neg (by simp [gexp_ne]; omega), if_neg (by simp [gexp_ne]; omega), glog_gexp, glog_gexp, ← gexp_mod, Nat.mod_add_mod, ← gexp_mod (glog a + _), Nat.add_mod_mod, Nat.add_assoc]
theorem gmul_left_comm (a b c : Nat) : gmul a (gmul b c) = gmul b (gmul a c) := by rw [← gmul_assoc, gmul_comm a b, gmul_assoc]
theorem ginv_lt (a : Nat) : ginv a < 256 := gexp_lt _
theorem ginv_ne (a : Nat) : ginv a ≠ 0 := gexp_ne _
theorem gmul_ginv (a : Nat) (h0 : a ≠ 0) : gmul a (ginv a) = 1 := by
  unfold gmul ginv
  rw [if_neg (by simp [gexp_ne]; omega), glog_gexp, ← gexp_mod, Nat.add_mod_mod, show glog a + (255 - glog a) = 0 + 255 from by have := glog_lt a; omega, gexp_mod, gexp_add_255, gexp_zero]

theorem xor_lt {a b : Nat} (ha : a < 256) (hb : b < 256) : a ^^^ b < 256 := Nat.xor_lt_two_pow (n := 8) ha hb
theorem bit_xor (p q s : Nat) : ((p ^^^ q) >>> s) % 2 = ((p >>> s) % 2 + (q >>> s) % 2) % 2 := by
  rw [Nat.shiftRight_xor_distrib]
  have := @Nat.xor_mod_two_eq_one (p >>> s) (q >>> s)
  omega
theorem xor_both (p q c : Nat) : (p ^^^ c) ^^^ (q ^^^ c) = p ^^^ q := by
  rw [Nat.xor_assoc, Nat.xor_comm q c, ← Nat.xor_assoc c c q, Nat.xor_self, Nat.zero_xor]
theorem xt_eq (a : Nat) (ha : a < 256) : xt a = if (a >>> 7) % 2 = 1 then (a <<< 1) ^^^ 285 else a <<< 1 := by
  unfold xt
  rw [Nat.shiftRight_eq_div_pow, Nat.shiftLeft_eq]
  by_cases h : a < 128
  · rw [if_pos h, if_neg (by omega)]; omega
  · rw [if_neg h, if_pos (by omega)]; congr 1; omega
/-- One step of a reduction is linear. -/
theorem step_xor (p q s c : Nat) (f : Nat → Nat) (hf : f (p ^^^ q) = f p ^^^ f q) :
    (if ((p ^^^ q) >>> s) % 2 = 1 then f (p ^^^ q) ^^^ c else f (p ^^^ q)) = (if (p >>> s) % 2 = 1 then f p ^^^ c else f p) ^^^ (if (q >>> s) % 2 = 1 then f q ^^^ c else f q) := by
  rw [bit_xor, hf]
  by_cases h1 : (p >>> s) % 2 = 1 <;> by_cases h2 : (q >>> s) % 2 = 1
  · rw [if_neg (by omega), if_pos h1, if_pos h2, xor_both]
  · rw [if_pos (by omega), if_pos h1, if_neg h2, Nat.xor_assoc, Nat.xor_assoc, Nat.xor_comm c]
  · rw [if_pos (by omega), if_neg h1, if_pos h2, Nat.xor_assoc]
  · rw [if_neg (by omega), if_neg h1, if_neg h2]
theorem xt_xor (a b : Nat) (ha : a < 256) (hb : b < 256) : xt (a ^^^ b) = xt a ^^^ xt b := by
  rw [xt_eq _ (xor_lt ha hb), xt_eq _ ha, xt_eq _ hb]
  exact step_xor a b 7 285 (fun x => x <<< 1) Nat.shiftLeft_xor_distrib
theorem gmul_gexp_succ (i b : Nat) : gmul (gexp (i + 1)) b = xt (gmul (gexp i) b) := by
  by_cases hb : b = 0
  · subst hb; simp [gmul_zero, xt]
  · unfold gmul
    rw [if_neg (by simp [gexp_ne]; omega), if_neg (by simp [gexp_ne]; omega), glog_gexp, glog_gexp, ← gexp_mod, Nat.mod_add_mod, gexp_mod, ← gexp_succ, ← gexp_mod (i % 255 + _ + 1),
      show (i % 255 + glog b + 1) % 255 = (i + 1 + glog b) % 255 from by omega, gexp_mod]
theorem gmul_xor_exp (i b c : Nat) (hb : b < 256) (hc : c < 256) : gmul (gexp i) (b ^^^ c) = gmul (gexp i) b ^^^ gmul (gexp i) c := by
  induction i with
  | zero => rw [gexp_zero, one_gmul _ (xor_lt hb hc), one_gmul _ hb, one_gmul _ hc]
  | succ i ih => rw [gmul_gexp_succ, gmul_gexp_succ, gmul_gexp_succ, ih, xt_xor _ _ (gmul_lt _ _) (gmul_lt _ _)]
theorem gmul_xor (a b c : Nat) (ha : a < 256) (hb : b < 256) (hc : c < 256) : gmul a (b ^^^ c) = gmul a b ^^^ gmul a c := by
  by_cases h : a = 0
  · subst h; simp [zero_gmul]
  · rw [← gexp_glog a h ha]; exact gmul_xor_exp _ _ _ hb hc
theorem xor_gmul (a b c : Nat) (ha : a < 256) (hb : b < 256) (hc : c < 256) : gmul (b ^^^ c) a = gmul b a ^^^ gmul c a := by
  rw [gmul_comm, gmul_xor a b c ha hb hc, gmul_comm a b, gmul_comm a c]

/-- The product bit by bit, as the document has it: first the sum of shifted factors .. -/
def rsum (a b : Nat) : Nat → Nat → Nat
  | 0, p => p
  | k + 1, p => rsum a b k (if (b >>> (7 - k)) % 2 = 1 then p ^^^ (a <<< (7 - k)) else p)
/-- .. then what is left of it. -/
def rred : Nat → Nat → Nat
  | 0, p => p
  | k + 1, p => rred k (if (p >>> (k + 8)) % 2 = 1 then p ^^^ (285 <<< k) else p)
def rmul (a b : Nat) : Nat := rred 7 (rsum a b 8 0)

theorem rred_xor (k : Nat) : ∀ p q, rred k (p ^^^ q) = rred k p ^^^ rred k q := by
  induction k with
  | zero => intro p q; rfl
  | succ k ih =>
    intro p q
    simp only [rred]
    rw [step_xor p q (k + 8) (285 <<< k) (fun x => x) rfl, ih]
theorem rsum_xor (a b c k : Nat) : ∀ p q, rsum a (b ^^^ c) k (p ^^^ q) = rsum a b k p ^^^ rsum a c k q := by
  induction k with
  | zero => intro p q; rfl
  | succ k ih =>
    intro p q
    simp only [rsum]
    rw [← ih]
    congr 1
    rw [bit_xor]
    by_cases h1 : (b >>> (7 - k)) % 2 = 1 <;> by_cases h2 : (c >>> (7 - k)) % 2 = 1
    · rw [if_neg (by omega), if_pos h1, if_pos h2, xor_both]
    · rw [if_pos (by omega), if_pos h1, if_neg h2, Nat.xor_assoc, Nat.xor_assoc, Nat.xor_comm q]
    · rw [if_pos (by omega), if_neg h1, if_pos h2, Nat.xor_assoc]
    · rw [if_neg (by omega), if_neg h1, if_neg h2]
theorem rmul_xor (a b c : Nat) : rmul a (b ^^^ c) = rmul a b ^^^ rmul a c := by
  unfold rmul
  rw [← rred_xor, ← rsum_xor, Nat.xor_self]
theorem lohi (b : Nat) (hb : b < 256) : (b % 16) ^^^ (16 * (b / 16)) = b := by
  have h : allB 256 (fun b => Nat.beq (Nat.xor (b % 16) (16 * (b / 16))) b) = true := by decide +kernel
  exact Nat.eq_of_beq_eq_true (allB_of h b hb)
theorem rmul_lt_of (a b : Nat) (ha : a < 256) (hb : b < 256) : rmul a b < 256 := by
  have h : allB 256 (fun a => allB 16 (fun b => Nat.blt (rmul a b) 256 && Nat.blt (rmul a (16 * b)) 256)) = true := by decide +kernel
  have h1 := allB_of (allB_of h a ha) (b % 16) (by omega)
  have h2 := allB_of (allB_of h a ha) (b / 16) (by omega)
  simp only [Bool.and_eq_true, Nat.blt_eq] at h1 h2
  rw [← lohi b hb, rmul_xor]
  exact xor_lt h1.1 h2.2
theorem rmul_xt (a b : Nat) (ha : a < 256) (hb : b < 256) : rmul a (xt b) = xt (rmul a b) := by
  have h : allB 256 (fun a => allB 16 (fun b => Nat.beq (rmul a (xt b)) (xt (rmul a b)) && Nat.beq (rmul a (xt (16 * b))) (xt (rmul a (16 * b))))) = true := by decide +kernel
  have h1 := allB_of (allB_of h a ha) (b % 16) (by omega)
  have h2 := allB_of (allB_of h a ha) (b / 16) (by omega)
  simp only [Bool.and_eq_true] at h1 h2
  have l1 : b % 16 < 256 := by omega
  have l2 : 16 * (b / 16) < 256 := by omega
  rw [← lohi b hb, rmul_xor, xt_xor _ _ l1 l2, rmul_xor, xt_xor _ _ (rmul_lt_of a _ ha l1) (rmul_lt_of a _ ha l2),
    Nat.eq_of_beq_eq_true h1.1, Nat.eq_of_beq_eq_true h2.2]
theorem rmul_exp (a i : Nat) (ha : a < 256) : rmul a (gexp i) = gmul a (gexp i) := by
  induction i with
  | zero =>
    have h : allB 256 (fun a => Nat.beq (rmul a 1) a) = true := by decide +kernel
    rw [gexp_zero, gmul_one a ha]
    exact Nat.eq_of_beq_eq_true (allB_of h a ha)
  | succ i ih => rw [gexp_succ, rmul_xt a _ ha (gexp_lt i), ih, gmul_comm, ← gmul_gexp_succ, gexp_succ, gmul_comm]
/-- Both products are one. -/
theorem rmul_eq (a b : Nat) (ha : a < 256) (hb : b < 256) : rmul a b = gmul a b := by
  by_cases h : b = 0
  · subst h
    have h : allB 256 (fun a => Nat.beq (rmul a 0) 0) = true := by decide +kernel
    rw [gmul_zero]
    exact Nat.eq_of_beq_eq_true (allB_of h a ha)
  · rw [← gexp_glog b h hb]; exact rmul_exp a _ ha
end Tri
