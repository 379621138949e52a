/-
  The check sum in plain Lean: one step of the register, eight of them, the table's way and the bit's way, and that it is linear and loses nothing. No program in sight.
-/
import Derived.Test.YtngkmlchblgmeaaGf0
namespace Tri

/-- One step of the register. -/
def cst (r : Nat) : Nat := if r % 2 = 1 then (r / 2) ^^^ 3988292384 else r / 2
/-- n steps. -/
def csts : Nat → Nat → Nat
  | 0, r => r
  | n + 1, r => csts n (cst r)
/-- The table. -/
def ctab (i : Nat) : Nat := csts 8 i
/-- The register behind a byte. -/
def cbyte (r b : Nat) : Nat := (r / 256) ^^^ ctab ((r ^^^ b) % 256)
/-- The register behind bytes. -/
def creg (r : Nat) (l : List Nat) : Nat := l.foldl cbyte r
/-- The sum of bytes. -/
def csum (l : List Nat) : Nat := 4294967295 - creg 4294967295 l

theorem shr1 (r : Nat) : r >>> 1 = r / 2 := by rw [Nat.shiftRight_eq_div_pow]
theorem cst_eq (r : Nat) : cst r = if (r >>> 0) % 2 = 1 then (r >>> 1) ^^^ 3988292384 else r >>> 1 := by
  unfold cst; rw [shr1, Nat.shiftRight_zero]
theorem cst_xor (a b : Nat) : cst (a ^^^ b) = cst a ^^^ cst b := by
  rw [cst_eq, cst_eq a, cst_eq b]
  exact step_xor a b 0 3988292384 (fun x => x >>> 1) Nat.shiftRight_xor_distrib
theorem csts_xor (n : Nat) : ∀ a b, csts n (a ^^^ b) = csts n a ^^^ csts n b := by
  induction n with
  | zero => intro a b; rfl
  | succ n ih => intro a b; simp only [csts]; rw [cst_xor, ih]
theorem csts_add (m n r : Nat) : csts (m + n) r = csts n (csts m r) := by
  induction m generalizing r with
  | zero => rw [Nat.zero_add]; rfl
  | succ m ih => rw [show m + 1 + n = (m + n) + 1 from by omega]; simp only [csts]; exact ih _
theorem cst_lt (r : Nat) (h : r < 2 ^ 32) : cst r < 2 ^ 32 := by
  unfold cst
  split
  · exact Nat.xor_lt_two_pow (by omega) (by omega)
  · omega
theorem csts_lt (n r : Nat) (h : r < 2 ^ 32) : csts n r < 2 ^ 32 := by
  induction n generalizing r with
  | zero => exact h
  | succ n ih => exact ih _ (cst_lt r h)
theorem xor_eq_zero {a b : Nat} (h : a ^^^ b = 0) : a = b := by
  have : (a ^^^ b) ^^^ b = b := by rw [h, Nat.zero_xor]
  rwa [Nat.xor_assoc, Nat.xor_self, Nat.xor_zero] at this
theorem cst_zero {r : Nat} (h : r < 2 ^ 32) (h0 : cst r = 0) : r = 0 := by
  unfold cst at h0
  split at h0
  · have := xor_eq_zero h0; omega
  · omega
theorem csts_zero {n r : Nat} (h : r < 2 ^ 32) (h0 : csts n r = 0) : r = 0 := by
  induction n generalizing r with
  | zero => exact h0
  | succ n ih => exact cst_zero h (ih (cst_lt r h) h0)
theorem csts_inj {n a b : Nat} (ha : a < 2 ^ 32) (hb : b < 2 ^ 32) (h : csts n a = csts n b) : a = b := by
  have : csts n (a ^^^ b) = 0 := by rw [csts_xor, h, Nat.xor_self]
  exact xor_eq_zero (csts_zero (Nat.xor_lt_two_pow ha hb) this)
theorem csts_shift (n h : Nat) : csts n (2 ^ n * h) = h := by
  induction n with
  | zero => simp [csts]
  | succ n ih =>
    simp only [csts]
    have : cst (2 ^ (n + 1) * h) = 2 ^ n * h := by
      unfold cst
      rw [Nat.pow_succ, Nat.mul_assoc, Nat.mul_comm 2 h, ← Nat.mul_assoc]
      generalize 2 ^ n * h = m
      rw [if_neg (by omega)]; omega
    rw [this, ih]
theorem hilo (x : Nat) : x = (256 * (x / 256)) ^^^ (x % 256) := by
  have h : 256 * (x / 256) = (x / 256) <<< 8 := by rw [Nat.shiftLeft_eq]; omega
  have h2 : (x / 256) <<< 8 ||| (x % 256) = (x / 256) <<< 8 + x % 256 := Nat.shiftLeft_add_eq_or_of_lt (by omega) _ |>.symm
  apply Nat.eq_of_testBit_eq
  intro i
  rw [Nat.testBit_xor, h, Nat.testBit_shiftLeft, show (256 : Nat) = 2 ^ 8 from rfl, Nat.testBit_mod_two_pow, Nat.testBit_div_two_pow]
  by_cases e : i < 8
  · simp [e, show ¬ 8 ≤ i from by omega]
  · simp [e, show 8 ≤ i from by omega]
theorem cbyte_eq (r b : Nat) (hb : b < 256) : cbyte r b = csts 8 (r ^^^ b) := by
  have h1 : (r ^^^ b) / 256 = r / 256 := by
    rw [show (256 : Nat) = 2 ^ 8 from rfl, Nat.xor_div_two_pow, show b / 2 ^ 8 = 0 from by omega, Nat.xor_zero]
  conv => rhs; rw [hilo (r ^^^ b), csts_xor, show 256 * ((r ^^^ b) / 256) = 2 ^ 8 * ((r ^^^ b) / 256) from rfl, csts_shift, h1]
  rfl
theorem cbyte_lt (r b : Nat) (hr : r < 2 ^ 32) (hb : b < 256) : cbyte r b < 2 ^ 32 := by
  rw [cbyte_eq r b hb]; exact csts_lt _ _ (Nat.xor_lt_two_pow hr (by omega))
theorem creg_lt (l : List Nat) (hl : ∀ b ∈ l, b < 256) (r : Nat) (hr : r < 2 ^ 32) : creg r l < 2 ^ 32 := by
  induction l generalizing r with
  | nil => exact hr
  | cons b l ih => exact ih (fun x hx => hl x (by simp [hx])) _ (cbyte_lt r b hr (hl b (by simp)))
theorem creg_append (l m : List Nat) (r : Nat) : creg r (l ++ m) = creg (creg r l) m := by unfold creg; rw [List.foldl_append]
theorem csum_lt (l : List Nat) (hl : ∀ b ∈ l, b < 256) : csum l < 2 ^ 32 := by unfold csum; omega

theorem not_xor (r : Nat) (h : r < 2 ^ 32) : 4294967295 ^^^ r = 4294967295 - r := by
  rw [show 4294967295 - r = 2 ^ 32 - (r + 1) from by omega]
  apply Nat.eq_of_testBit_eq
  intro i
  rw [Nat.testBit_xor, Nat.testBit_two_pow_sub_succ h, show (4294967295 : Nat) = 2 ^ 32 - 1 from rfl, Nat.testBit_two_pow_sub_one]
  by_cases e : i < 32
  · simp [e]
  · have : r.testBit i = false := Nat.testBit_lt_two_pow (Nat.lt_of_lt_of_le h (Nat.pow_le_pow_right (by omega) (by omega)))
    simp [e, this]

/-- The register behind a byte, bit by bit, as the document has it: what is left of the byte rides along. -/
def rbits : Nat → Nat → Nat → Nat
  | 0, r, _ => r
  | n + 1, r, c => rbits n (if r % 2 ≠ c % 2 then (r / 2) ^^^ 3988292384 else r / 2) (c / 2)
theorem rbits_eq (n : Nat) : ∀ r c, c < 2 ^ n → rbits n r c = csts n (r ^^^ c) := by
  induction n with
  | zero => intro r c hc; obtain rfl : c = 0 := by omega
            simp [rbits, csts]
  | succ n ih =>
    intro r c hc
    simp only [rbits, csts]
    rw [ih _ _ (by rw [Nat.pow_succ] at hc; omega)]
    congr 1
    unfold cst
    have hp := @Nat.xor_mod_two_eq_one r c
    have hd : (r ^^^ c) / 2 = r / 2 ^^^ c / 2 := by
      have := @Nat.xor_div_two_pow r c 1
      simpa using this
    by_cases e : r % 2 = c % 2
    · rw [if_neg (by omega), if_neg (by omega), hd]
    · rw [if_pos e, if_pos (by omega), hd, Nat.xor_assoc, Nat.xor_comm 3988292384, ← Nat.xor_assoc]
theorem cbyte_rbits (r b : Nat) (hb : b < 256) : rbits 8 r b = cbyte r b := by rw [cbyte_eq r b hb, rbits_eq 8 r b (by omega)]

/-! Linear: what turns three registers turns the fourth. -/
theorem cbyte_xor (r s a b : Nat) (ha : a < 256) (hb : b < 256) : cbyte (r ^^^ s) (a ^^^ b) = cbyte r a ^^^ cbyte s b := by
  rw [cbyte_eq _ _ (xor_lt ha hb), cbyte_eq r a ha, cbyte_eq s b hb, ← csts_xor]
  congr 1
  rw [Nat.xor_assoc, ← Nat.xor_assoc s a b, Nat.xor_comm s a, Nat.xor_assoc a s b, ← Nat.xor_assoc]
theorem creg_zip (l m : List Nat) (hl : ∀ b ∈ l, b < 256) (hm : ∀ b ∈ m, b < 256) (h : l.length = m.length) (r s : Nat) :
    creg (r ^^^ s) (List.zipWith (· ^^^ ·) l m) = creg r l ^^^ creg s m := by
  induction l generalizing m r s with
  | nil =>
    cases m with
    | nil => rfl
    | cons b m => simp at h
  | cons a l ih =>
    cases m with
    | nil => simp at h
    | cons b m =>
      simp only [List.zipWith_cons_cons, creg, List.foldl_cons]
      rw [cbyte_xor r s a b (hl a (by simp)) (hm b (by simp))]
      exact ih m (fun x hx => hl x (by simp [hx])) (fun x hx => hm x (by simp [hx])) (by simpa using h) _ _
theorem creg_inj {l : List Nat} (hl : ∀ b ∈ l, b < 256) {r s : Nat} (hr : r < 2 ^ 32) (hs : s < 2 ^ 32) (h : creg r l = creg s l) : r = s := by
  induction l generalizing r s with
  | nil => exact h
  | cons b l ih =>
    have hb := hl b (by simp)
    have := ih (fun x hx => hl x (by simp [hx])) (cbyte_lt r b hr hb) (cbyte_lt s b hs hb) h
    rw [cbyte_eq r b hb, cbyte_eq s b hb] at this
    have := csts_inj (Nat.xor_lt_two_pow hr (by omega)) (Nat.xor_lt_two_pow hs (by omega)) this
    have e : r ^^^ b ^^^ b = s ^^^ b ^^^ b := by rw [this]
    rwa [Nat.xor_assoc, Nat.xor_self, Nat.xor_zero, Nat.xor_assoc, Nat.xor_self, Nat.xor_zero] at e
end Tri
