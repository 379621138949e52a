/-
  Values of polynomials in plain Lean: of sums, products and shifts. No program in sight.
-/
import Derived.Test.YtlipedigmokgbaaPoly6
namespace Tri
/-- Powers. -/
def gp (x : Nat) : Nat → Nat
  | 0 => 1
  | k + 1 => gmul (gp x k) x
theorem gp_lt (x k : Nat) : gp x k < 256 := by
  cases k with
  | zero => exact (by decide : (1 : Nat) < 256)
  | succ k => exact gmul_lt _ _
theorem bytesL.tail {a : Nat} {l : List Nat} (h : bytesL (a :: l)) : bytesL l := fun x hx => h x (List.mem_cons_of_mem _ hx)
theorem bytesL.head {a : Nat} {l : List Nat} (h : bytesL (a :: l)) : a < 256 := h a (by simp)
theorem bytesL.take {l : List Nat} (h : bytesL l) (k : Nat) : bytesL (l.take k) := fun x hx => h x (List.mem_of_mem_take hx)
theorem bytesL.getD {l : List Nat} (h : bytesL l) (k : Nat) : l.getD k 0 < 256 := by
  by_cases hk : k < l.length
  · rw [List.getD_eq_getElem?_getD, List.getElem?_eq_getElem hk]; exact h _ (List.getElem_mem hk)
  · rw [List.getD_eq_getElem?_getD, List.getElem?_eq_none (by omega)]; exact (by decide : (0 : Nat) < 256)
theorem bytesL.zeros (n : Nat) : bytesL (List.replicate n 0) := fun x hx => by rw [List.mem_replicate] at hx; omega
theorem pevalFrom_bytes (x : Nat) {l : List Nat} (h : bytesL l) : ∀ s, s < 256 → pevalFrom x s l < 256 := by
  induction l with
  | nil => intro s hs; exact hs
  | cons a l ih => intro s hs; exact ih h.tail _ (xor_lt (gmul_lt _ _) h.head)
theorem peval_lt (x : Nat) {l : List Nat} (h : bytesL l) : peval x l < 256 := pevalFrom_bytes x h 0 (by decide)
theorem pevalFrom_eq (x : Nat) {l : List Nat} (h : bytesL l) : ∀ s, s < 256 → pevalFrom x s l = gmul s (gp x l.length) ^^^ peval x l := by
  induction l with
  | nil => intro s hs; show s = gmul s 1 ^^^ 0; rw [gmul_one s hs, Nat.xor_zero]
  | cons a l ih =>
    intro s hs
    have h0 : peval x (a :: l) = gmul a (gp x l.length) ^^^ peval x l := by
      show pevalFrom x (gmul 0 x ^^^ a) l = _
      rw [zero_gmul, Nat.zero_xor]
      exact ih h.tail a h.head
    rw [h0]
    show pevalFrom x (gmul s x ^^^ a) l = gmul s (gmul (gp x l.length) x) ^^^ _
    rw [ih h.tail _ (xor_lt (gmul_lt _ _) h.head), xor_gmul _ _ _ (gp_lt _ _) (gmul_lt _ _) h.head, gmul_assoc, gmul_comm x, Nat.xor_assoc]
theorem peval_cons (x a : Nat) {l : List Nat} (h : bytesL (a :: l)) : peval x (a :: l) = gmul a (gp x l.length) ^^^ peval x l := by
  show pevalFrom x (gmul 0 x ^^^ a) l = _
  rw [zero_gmul, Nat.zero_xor]
  exact pevalFrom_eq x h.tail a h.head
theorem pevalFrom_app (x : Nat) (l m : List Nat) : ∀ s, pevalFrom x s (l ++ m) = pevalFrom x (pevalFrom x s l) m := by
  induction l with
  | nil => intro s; rfl
  | cons a l ih => intro s; exact ih _
theorem peval_snoc (x a : Nat) (l : List Nat) : peval x (l ++ [a]) = gmul (peval x l) x ^^^ a := pevalFrom_app x l [a] 0
theorem peval_zeros (x k : Nat) : peval x (List.replicate k 0) = 0 := by
  induction k with
  | zero => rfl
  | succ k ih => rw [List.replicate_succ, peval_cons x 0 (by rw [← List.replicate_succ]; exact bytesL.zeros _), ih, zero_gmul]; rfl
theorem peval_shift (x k : Nat) {l : List Nat} (h : bytesL l) : peval x (l ++ List.replicate k 0) = gmul (peval x l) (gp x k) := by
  unfold peval
  rw [pevalFrom_app, pevalFrom_eq x (bytesL.zeros k) _ (pevalFrom_bytes x h 0 (by decide)), peval_zeros, List.length_replicate, Nat.xor_zero]
theorem peval_trim (x : Nat) (l : List Nat) : peval x (trim l) = peval x l := by
  induction l with
  | nil => rfl
  | cons a l ih =>
    by_cases e : a = 0
    · subst e
      show peval x (trim l) = pevalFrom x (gmul 0 x ^^^ 0) l
      rw [zero_gmul, ih]; rfl
    · simp only [trim, if_neg e]
theorem xor4 (a b c d : Nat) : (a ^^^ b) ^^^ (c ^^^ d) = (a ^^^ c) ^^^ (b ^^^ d) := by
  rw [Nat.xor_assoc, Nat.xor_assoc, ← Nat.xor_assoc b, Nat.xor_comm b c, Nat.xor_assoc c]
theorem peval_acc (x : Nat) (L : List Nat) (h : bytesL L) (v : Nat) (hv : v < 256) : ∀ j, j < L.length → peval x (acc L j v) = peval x L ^^^ gmul v (gp x (L.length - 1 - j)) := by
  induction L with
  | nil => intro j hj; simp at hj
  | cons a L ih =>
    intro j hj
    cases j with
    | zero =>
      have hb : bytesL ((a ^^^ v) :: L) := by
        intro y hy
        rcases List.mem_cons.1 hy with rfl | hy
        · exact xor_lt h.head hv
        · exact h.tail y hy
      show peval x ((a ^^^ v) :: L) = _
      rw [peval_cons x _ hb, peval_cons x _ h, xor_gmul _ _ _ (gp_lt _ _) h.head hv]
      simp only [List.length_cons, Nat.add_sub_cancel, Nat.sub_zero]
      rw [Nat.xor_assoc, Nat.xor_assoc, Nat.xor_comm (gmul v _)]
    | succ j =>
      simp only [List.length_cons] at hj
      have e : acc (a :: L) (j + 1) v = a :: acc L j v := by simp [acc]
      have hb : bytesL (a :: acc L j v) := by rw [← e]; exact acc_bytes h hv
      rw [e, peval_cons x _ hb, peval_cons x _ h, ih h.tail j (by omega), acc_length, Nat.xor_assoc]
      congr 4
      simp only [List.length_cons]
      omega
theorem take_getD (l : List Nat) (k : Nat) (h : k < l.length) : l.take (k + 1) = l.take k ++ [l.getD k 0] := by
  rw [List.take_succ_eq_append_getElem h]
  simp [h]
theorem peval_rowTo (x : Nat) (L : List Nat) (h : bytesL L) (i y : Nat) (hy : y < 256) (b : List Nat) (hb : bytesL b) : ∀ k, k ≤ b.length → i + k ≤ L.length →
    peval x (rowTo L i y b k) = peval x L ^^^ gmul y (gmul (peval x (b.take k)) (gp x (L.length - i - k))) := by
  intro k
  induction k with
  | zero => intro _ _; show peval x L = peval x L ^^^ gmul y (gmul 0 _); rw [zero_gmul, gmul_zero, Nat.xor_zero]
  | succ k ih =>
    intro hk hi
    have hm : ∃ m, L.length - i - (k + 1) = m ∧ L.length - i - k = m + 1 ∧ L.length - 1 - (i + k) = m := ⟨L.length - i - (k + 1), rfl, by omega, by omega⟩
    obtain ⟨m, e1, e2, e3⟩ := hm
    show peval x (acc (rowTo L i y b k) (i + k) (gmul y (b.getD k 0))) = _
    rw [peval_acc x _ (rowTo_bytes h _ _ _ _) _ (gmul_lt _ _) _ (by rw [rowTo_length]; omega), rowTo_length, ih (by omega) (by omega), e1, e2, e3, take_getD b k (by omega), peval_snoc]
    have h1 := peval_lt x (hb.take k)
    have h2 := hb.getD k
    show _ ^^^ gmul y (gmul _ (gmul (gp x m) x)) ^^^ _ = _
    rw [xor_gmul _ _ _ (gp_lt _ _) (gmul_lt _ _) h2, gmul_xor _ _ _ hy (gmul_lt _ _) (gmul_lt _ _), Nat.xor_assoc, gmul_comm (gp x m) x, gmul_assoc (peval x (b.take k)) x, gmul_assoc y (b.getD k 0)]
theorem peval_convTo (x : Nat) (L : List Nat) (h : bytesL L) (a b : List Nat) (ha : bytesL a) (hb : bytesL b) : ∀ i, i ≤ a.length → i + b.length ≤ L.length + 1 →
    peval x (convTo L a b i) = peval x L ^^^ gmul (peval x (a.take i)) (gmul (peval x b) (gp x (L.length + 1 - i - b.length))) := by
  intro i
  induction i with
  | zero => intro _ _; show peval x L = peval x L ^^^ gmul 0 _; rw [zero_gmul, Nat.xor_zero]
  | succ i ih =>
    intro hi hn
    have hm : ∃ m, L.length + 1 - (i + 1) - b.length = m ∧ L.length + 1 - i - b.length = m + 1 ∧ L.length - i - b.length = m := ⟨L.length - i - b.length, by omega, by omega, rfl⟩
    obtain ⟨m, e1, e2, e3⟩ := hm
    show peval x (rowTo (convTo L a b i) i (a.getD i 0) b b.length) = _
    rw [peval_rowTo x _ (convTo_bytes h _ _ _) _ _ (ha.getD i) b hb _ (Nat.le_refl _) (by rw [convTo_length]; omega), convTo_length, ih (by omega) (by omega), e1, e2, e3, take_getD a i (by omega), peval_snoc, List.take_length]
    have h1 := peval_lt x (ha.take i)
    show _ ^^^ gmul _ (gmul _ (gmul (gp x m) x)) ^^^ _ = _
    rw [xor_gmul _ _ _ (gmul_lt _ _) (gmul_lt _ _) (ha.getD i), Nat.xor_assoc, gmul_assoc (peval x (a.take i)) x, gmul_left_comm x, gmul_comm (gp x m) x]
theorem peval_ptwo (x : Nat) {a b : List Nat} (ha : bytesL a) (hb : bytesL b) : peval x (ptwo a b) = gmul (peval x a) (peval x b) := by
  unfold ptwo
  by_cases h : trim a = [] ∨ trim b = []
  · rw [if_pos h]
    rcases h with h | h
    · rw [← peval_trim x a, h]; exact (zero_gmul _).symm
    · rw [← peval_trim x b, h]; exact (gmul_zero _).symm
  · rw [if_neg h]
    have h1 : 0 < (trim a).length := List.length_pos_iff.2 fun e => h (.inl e)
    have h2 : 0 < (trim b).length := List.length_pos_iff.2 fun e => h (.inr e)
    rw [peval_convTo x _ (bytesL.zeros _) _ _ (trim_bytes ha) (trim_bytes hb) _ (Nat.le_refl _) (by rw [List.length_replicate]; omega), List.length_replicate, peval_zeros, Nat.zero_xor, List.take_length, peval_trim, peval_trim,
      show (trim a).length + (trim b).length - 1 + 1 - (trim a).length - (trim b).length = 0 from by omega]
    show gmul _ (gmul _ 1) = _
    rw [gmul_one _ (peval_lt x hb)]
theorem peval_rowAdd (x : Nat) (L : List Nat) (h : bytesL L) (j : Nat) (a : List Nat) (ha : bytesL a) : ∀ k, k ≤ a.length → j + k ≤ L.length →
    peval x (rowAdd L j a k) = peval x L ^^^ gmul (peval x (a.take k)) (gp x (L.length - j - k)) := by
  intro k
  induction k with
  | zero => intro _ _; show peval x L = peval x L ^^^ gmul 0 _; rw [zero_gmul, Nat.xor_zero]
  | succ k ih =>
    intro hk hi
    have hm : ∃ m, L.length - j - (k + 1) = m ∧ L.length - j - k = m + 1 ∧ L.length - 1 - (j + k) = m := ⟨L.length - j - (k + 1), rfl, by omega, by omega⟩
    obtain ⟨m, e1, e2, e3⟩ := hm
    show peval x (acc (rowAdd L j a k) (j + k) (a.getD k 0)) = _
    rw [peval_acc x _ (rowAdd_bytes h _ ha _) _ (ha.getD k) _ (by rw [rowAdd_length]; omega), rowAdd_length, ih (by omega) (by omega), e1, e2, e3, take_getD a k (by omega), peval_snoc]
    show _ ^^^ gmul _ (gmul (gp x m) x) ^^^ _ = _
    rw [xor_gmul _ _ _ (gp_lt _ _) (gmul_lt _ _) (ha.getD k), Nat.xor_assoc, gmul_comm (gp x m) x, gmul_assoc]
theorem peval_addAll (x n : Nat) (l : List (List Nat)) (hb : ∀ a ∈ l, bytesL a) (hn : ∀ a ∈ l, a.length ≤ n) : ∀ k, k ≤ l.length → peval x (addAll n (l.take k)) = (l.take k).foldl (fun s a => s ^^^ peval x a) 0 := by
  intro k
  induction k with
  | zero => intro _; exact peval_zeros x n
  | succ k ih =>
    intro hk
    have hm : l.getD k [] ∈ l := by rw [List.getD_eq_getElem?_getD, List.getElem?_eq_getElem (by omega)]; exact List.getElem_mem _
    obtain ⟨h1, h2⟩ := addAll_take n l hb k (by omega)
    have h3 := hn _ hm
    rw [take_snocR l k (by omega), addAll_snoc, peval_rowAdd x _ h2 _ _ (hb _ hm) _ (Nat.le_refl _) (by rw [h1]; omega), ih (by omega), h1, List.foldl_append, List.take_length,
      show n - (n - (l.getD k []).length) - (l.getD k []).length = 0 from by omega]
    show _ ^^^ gmul _ 1 = _
    rw [gmul_one _ (peval_lt x (hb _ hm))]
    rfl
theorem peval_padd (x : Nat) (l : List (List Nat)) (hb : ∀ a ∈ l, bytesL a) : peval x (padd l) = l.foldl (fun s a => s ^^^ peval x a) 0 := by
  have h := peval_addAll x (longest l) l hb (fun a ha => longest_ge l a ha) l.length (Nat.le_refl _)
  rw [List.take_length] at h
  unfold padd
  rw [peval_trim, h]
theorem gp_gexp (x k : Nat) (h0 : x ≠ 0) (hx : x < 256) : gp x k = gexp (glog x * k) := by
  induction k with
  | zero => exact gexp_zero.symm
  | succ k ih =>
    show gmul (gp x k) x = _
    rw [ih]
    conv => lhs; rw [← gexp_glog x h0 hx]
    rw [glog_gexp, Nat.mod_eq_of_lt (glog_lt x), gmul_gexp]
    rfl
end Tri
