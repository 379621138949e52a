/-
  The factors of sums, products and derivatives in plain Lean: the program's are the document's. No program in sight.
-/
import Derived.Test.YtlipedigmokgbaaRef5c
import Derived.Test.YtlipedigmokgbaaRef5d
namespace Tri
theorem XS_congr {f g : Nat → Nat} (n : Nat) (h : ∀ i, i < n → f i = g i) : XS f n = XS g n := by
  induction n with
  | zero => rfl
  | succ n ih => simp only [XS]; rw [ih fun i hi => h i (by omega), h n (by omega)]
theorem XS_zero (f : Nat → Nat) (n : Nat) (h : ∀ i, i < n → f i = 0) : XS f n = 0 := by
  induction n with
  | zero => rfl
  | succ n ih => simp only [XS]; rw [ih fun i hi => h i (by omega), h n (by omega)]; rfl
theorem XS_first (f : Nat → Nat) (n : Nat) : XS f (n + 1) = f 0 ^^^ XS (fun i => f (i + 1)) n := by
  induction n with
  | zero => simp [XS]
  | succ n ih => rw [XS, ih, XS, Nat.xor_assoc]
theorem XS_rev (f : Nat → Nat) (n : Nat) : XS f n = XS (fun i => f (n - 1 - i)) n := by
  induction n with
  | zero => rfl
  | succ n ih =>
    rw [XS_first (fun i => f (n + 1 - 1 - i)), XS, ih, Nat.xor_comm]
    congr 1
    exact XS_congr n fun i hi => by rw [show n - 1 - i = n + 1 - 1 - (i + 1) from by omega]
theorem co_getD (l : List Nat) (i : Nat) (h : i < l.length) : co l i = l.getD (l.length - 1 - i) 0 := by
  unfold co
  rw [List.getD_eq_getElem?_getD, List.getElem?_reverse h, ← List.getD_eq_getElem?_getD]
theorem co_rev (l : List Nat) (i : Nat) : co l.reverse i = l.getD i 0 := by unfold co; rw [List.reverse_reverse]
theorem getD_ge (l : List Nat) (i : Nat) (h : l.length ≤ i) : l.getD i 0 = 0 := by
  rw [List.getD_eq_getElem?_getD, List.getElem?_eq_none h]; rfl
theorem cutR_getD (l : List Nat) (i : Nat) : (cutR l).getD i 0 = l.getD i 0 := by
  have := co_trim l.reverse i
  rw [co_rev] at this
  exact this
theorem rof_getD (l : List Nat) (i : Nat) : (rof l).getD i 0 = co l i := by
  unfold rof; rw [cutR_getD]; rfl
theorem rof_eq (l : List Nat) : rof l = (trim l).reverse := by unfold rof cutR; rw [List.reverse_reverse]
theorem rbytes_eq (l : List Nat) : rbytes l = trim l.reverse := by unfold rbytes cutR; rw [List.reverse_reverse]
theorem rbytes_rof (l : List Nat) : rbytes (rof l) = trim l := by rw [rbytes_eq, rof_eq, List.reverse_reverse, trim_trim]
theorem rof_bytes {l : List Nat} (h : bytesL l) : bytesL (rof l) := by rw [rof_eq]; exact rev_bytes (trim_bytes h)
theorem rof_length (l : List Nat) : (rof l).length = (trim l).length := by rw [rof_eq, List.length_reverse]
/-- What stands for the same factors is the same. -/
theorem trim_of_getD {l m : List Nat} (h : ∀ i, co l i = m.getD i 0) : trim l = rbytes m := by
  rw [rbytes_eq]; exact trim_ext fun i => by rw [h, co_rev]
theorem trim_nz (l : List Nat) (h : l.getD 0 0 ≠ 0) : trim l = l := by
  cases l with
  | nil => exact absurd rfl h
  | cons a l => unfold trim; rw [if_neg (by simpa using h)]

/- values -/
theorem peval_XS (x : Nat) {l : List Nat} (h : bytesL l) : peval x l = XS (fun i => gmul (co l i) (gp x i)) l.length := by
  induction l with
  | nil => rfl
  | cons a l ih =>
    rw [peval_cons x a h, ih h.tail, List.length_cons, XS, co_top, Nat.xor_comm]
    congr 1
    exact XS_congr _ fun i hi => by rw [co_cons_lt a l i hi]
theorem reval_rof (x : Nat) {l : List Nat} (h : bytesL l) : reval (rof l) x = peval x l := by
  unfold reval
  rw [← peval_trim, peval_XS x (trim_bytes h), rof_length]
  exact XS_congr _ fun i _ => by rw [rof_getD, co_trim]

/- derivatives -/
theorem derTo_getD (L : List Nat) (n : Nat) : ∀ k, k ≤ L.length → ∀ j, (derTo L n k).getD j 0 = if j < k ∧ (n - 1 - j) % 2 = 0 then 0 else L.getD j 0 := by
  intro k
  induction k with
  | zero => intro _ j; rw [if_neg (by omega)]; rfl
  | succ k ih =>
    intro hk j
    unfold derTo
    by_cases he : (n - 1 - k) % 2 = 0
    · rw [if_pos he]
      by_cases hj : j = k
      · subst hj
        rw [if_pos ⟨by omega, he⟩, List.getD_eq_getElem?_getD, List.getElem?_set_self (by rw [derTo_length]; omega)]
        rfl
      · rw [List.getD_eq_getElem?_getD, List.getElem?_set_ne (by omega), ← List.getD_eq_getElem?_getD, ih (by omega)]
        by_cases h : j < k
        · by_cases h2 : (n - 1 - j) % 2 = 0
          · rw [if_pos ⟨h, h2⟩, if_pos ⟨by omega, h2⟩]
          · rw [if_neg (fun e => h2 e.2), if_neg (fun e => h2 e.2)]
        · rw [if_neg (fun e => h e.1), if_neg (by omega)]
    · rw [if_neg he, ih (by omega)]
      by_cases hj : j = k
      · subst hj
        rw [if_neg (by omega), if_neg (fun e => he e.2)]
      · by_cases h : j < k
        · by_cases h2 : (n - 1 - j) % 2 = 0
          · rw [if_pos ⟨h, h2⟩, if_pos ⟨by omega, h2⟩]
          · rw [if_neg (fun e => h2 e.2), if_neg (fun e => h2 e.2)]
        · rw [if_neg (fun e => h e.1), if_neg (by omega)]
theorem rderL_getD (l : List Nat) (i : Nat) : (rderL l).getD i 0 = if (i + 1) % 2 = 1 then l.getD (i + 1) 0 else 0 := by
  by_cases h : i < l.length - 1
  · unfold rderL
    rw [List.getD_eq_getElem?_getD, List.getElem?_map, List.getElem?_range h]
    rfl
  · rw [getD_ge _ _ (by rw [rderL_length]; omega), getD_ge l _ (by omega)]
    split <;> rfl
theorem pder_rder (l : List Nat) : pder l = rbytes (rder (rof l)) := by
  have h2 : rbytes (rder (rof l)) = rbytes (rderL (rof l)) := by
    rw [rbytes_eq, rbytes_eq]
    exact trim_ext fun i => by rw [co_rev, co_rev]; exact cutR_getD _ _
  rw [h2]
  unfold pder
  by_cases hl : l = []
  · subst hl; rfl
  · rw [if_neg hl]
    have h0 : 0 < l.length := List.length_pos_iff.2 hl
    refine trim_of_getD fun i => ?_
    rw [rderL_getD, rof_getD]
    have hD : (derTo (l.take (l.length - 1)) l.length (l.length - 1)).length = l.length - 1 := by rw [derTo_length, List.length_take]; omega
    by_cases hi : i < l.length - 1
    · rw [co_getD _ _ (by rw [hD]; exact hi), hD, derTo_getD _ _ _ (by rw [List.length_take]; omega), co_getD l (i + 1) (by omega), show l.length - 1 - (l.length - 1 - 1 - i) = i + 1 from by omega, show l.length - 1 - 1 - i = l.length - 1 - (i + 1) from by omega]
      by_cases he : (i + 1) % 2 = 1
      · rw [if_neg (by omega), if_pos he]
        simp only [List.getD_eq_getElem?_getD, List.getElem?_take]
        rw [if_pos (by omega)]
      · rw [if_pos ⟨by omega, by omega⟩, if_neg he]
    · rw [co_ge _ _ (by rw [hD]; omega), co_ge l (i + 1) (by omega)]
      split <;> rfl

/- sums -/
theorem getD_acc (L : List Nat) (j v : Nat) (h : j < L.length) (i : Nat) : (acc L j v).getD i 0 = L.getD i 0 ^^^ (if i = j then v else 0) := by
  unfold acc
  by_cases e : i = j
  · subst e
    rw [if_pos rfl, List.getD_eq_getElem?_getD, List.getElem?_set_self h]
    rfl
  · rw [if_neg e, Nat.xor_zero, List.getD_eq_getElem?_getD, List.getElem?_set_ne (fun h => e h.symm), ← List.getD_eq_getElem?_getD]
theorem getD_rowAdd (L : List Nat) (j : Nat) (a : List Nat) : ∀ k, j + k ≤ L.length → ∀ i, (rowAdd L j a k).getD i 0 = L.getD i 0 ^^^ (if j ≤ i ∧ i < j + k then a.getD (i - j) 0 else 0) := by
  intro k
  induction k with
  | zero => intro _ i; rw [if_neg (by omega), Nat.xor_zero]; rfl
  | succ k ih =>
    intro hk i
    show (acc (rowAdd L j a k) (j + k) (a.getD k 0)).getD i 0 = _
    rw [getD_acc _ _ _ (by rw [rowAdd_length]; omega), ih (by omega), Nat.xor_assoc]
    congr 1
    by_cases e : i = j + k
    · subst e
      rw [if_neg (by omega), if_pos rfl, if_pos (by omega), Nat.zero_xor, show j + k - j = k from by omega]
    · rw [if_neg e, Nat.xor_zero]
      by_cases h : j ≤ i ∧ i < j + k
      · rw [if_pos h, if_pos (by omega)]
      · rw [if_neg h, if_neg (by omega)]
theorem co_rowAdd (L a : List Nat) (h : a.length ≤ L.length) (i : Nat) : co (rowAdd L (L.length - a.length) a a.length) i = co L i ^^^ co a i := by
  by_cases hi : i < L.length
  · rw [co_getD _ _ (by rw [rowAdd_length]; exact hi), rowAdd_length, getD_rowAdd _ _ _ _ (by omega), ← co_getD L i hi]
    congr 1
    by_cases ha : i < a.length
    · rw [if_pos (by omega), co_getD a i ha]
      congr 1
      omega
    · rw [if_neg (by omega), co_ge a i (by omega)]
  · rw [co_ge _ _ (by rw [rowAdd_length]; omega), co_ge L i (by omega), co_ge a i (by omega)]
    rfl
theorem co_addAll (n : Nat) (l : List (List Nat)) (hb : ∀ a ∈ l, bytesL a) (hn : ∀ a ∈ l, a.length ≤ n) (i : Nat) : ∀ k, k ≤ l.length → co (addAll n (l.take k)) i = (l.take k).foldl (fun s a => s ^^^ co a i) 0 := by
  intro k
  induction k with
  | zero =>
    intro _
    have := co_zeros n [] i
    rw [List.append_nil] at this
    exact this
  | succ k ih =>
    intro hk
    have hm : l.getD k [] ∈ l := by rw [List.getD_eq_getElem?_getD, List.getElem?_eq_getElem (by omega)]; exact List.getElem_mem _
    obtain ⟨h1, _⟩ := addAll_take n l hb k (by omega)
    have h3 := hn _ hm
    rw [take_snocR l k (by omega), addAll_snoc, List.foldl_append]
    have h4 := co_rowAdd (addAll n (l.take k)) (l.getD k []) (by rw [h1]; exact h3) i
    rw [h1] at h4
    rw [h4, ih (by omega)]
    rfl
theorem radd_getD (a b : List Nat) (i : Nat) : (radd a b).getD i 0 = a.getD i 0 ^^^ b.getD i 0 := by
  unfold radd
  rw [cutR_getD]
  by_cases h : i < max a.length b.length
  · unfold raddL
    rw [List.getD_eq_getElem?_getD, List.getElem?_map, List.getElem?_range h]
    rfl
  · rw [getD_ge _ _ (by rw [raddL_length]; omega), getD_ge a i (by omega), getD_ge b i (by omega)]
    rfl
/-- The document's sum of many. -/
def rsumL (l : List (List Nat)) : List Nat := l.foldl (fun s a => radd s (rof a)) []
theorem rsumL_snoc (l : List (List Nat)) (a : List Nat) : rsumL (l ++ [a]) = radd (rsumL l) (rof a) := by unfold rsumL; rw [List.foldl_append]; rfl
theorem rsumL_getD (i : Nat) (l : List (List Nat)) : (rsumL l).getD i 0 = l.foldl (fun s a => s ^^^ co a i) 0 := by
  have key : ∀ (l : List (List Nat)) (s : List Nat) (t : Nat), s.getD i 0 = t → (l.foldl (fun s a => radd s (rof a)) s).getD i 0 = l.foldl (fun s a => s ^^^ co a i) t := by
    intro l
    induction l with
    | nil => intro s t h; exact h
    | cons a l ih => intro s t h; exact ih _ _ (by rw [radd_getD, h, rof_getD])
  exact key l [] 0 rfl
theorem padd_rsum (l : List (List Nat)) (hb : ∀ a ∈ l, bytesL a) : padd l = rbytes (rsumL l) := by
  unfold padd
  refine trim_of_getD fun i => ?_
  have h := co_addAll (longest l) l hb (fun a ha => longest_ge l a ha) i l.length (Nat.le_refl _)
  rw [List.take_length] at h
  rw [h, rsumL_getD]

/- products -/
theorem getD_rowTo (L : List Nat) (i y : Nat) (b : List Nat) : ∀ k, i + k ≤ L.length → ∀ j, (rowTo L i y b k).getD j 0 = L.getD j 0 ^^^ (if i ≤ j ∧ j < i + k then gmul y (b.getD (j - i) 0) else 0) := by
  intro k
  induction k with
  | zero => intro _ j; rw [if_neg (by omega), Nat.xor_zero]; rfl
  | succ k ih =>
    intro hk j
    show (acc (rowTo L i y b k) (i + k) (gmul y (b.getD k 0))).getD j 0 = _
    rw [getD_acc _ _ _ (by rw [rowTo_length]; omega), ih (by omega), Nat.xor_assoc]
    congr 1
    by_cases e : j = i + k
    · subst e
      rw [if_neg (by omega), if_pos rfl, if_pos (by omega), Nat.zero_xor, show i + k - i = k from by omega]
    · rw [if_neg e, Nat.xor_zero]
      by_cases h : i ≤ j ∧ j < i + k
      · rw [if_pos h, if_pos (by omega)]
      · rw [if_neg h, if_neg (by omega)]
/-- A term of a product's factor. -/
def cvt (f g : Nat → Nat) (j i : Nat) : Nat := if i ≤ j then gmul (f i) (g (j - i)) else 0
theorem getD_convTo (L a b : List Nat) : ∀ m, m + b.length ≤ L.length + 1 → ∀ j, (convTo L a b m).getD j 0 = L.getD j 0 ^^^ XS (cvt (fun i => a.getD i 0) (fun i => b.getD i 0) j) m := by
  intro m
  induction m with
  | zero => intro _ j; exact (Nat.xor_zero _).symm
  | succ m ih =>
    intro hm j
    show (rowTo (convTo L a b m) m (a.getD m 0) b b.length).getD j 0 = _
    rw [getD_rowTo _ _ _ _ _ (by rw [convTo_length]; omega), ih (by omega), XS, Nat.xor_assoc]
    congr 2
    unfold cvt
    by_cases h : m ≤ j
    · rw [if_pos h]
      by_cases h2 : j < m + b.length
      · rw [if_pos ⟨h, h2⟩]
      · rw [if_neg (by omega)]
        show 0 = gmul _ (b.getD (j - m) 0)
        rw [getD_ge b (j - m) (by omega), gmul_zero]
    · rw [if_neg (by omega), if_neg h]
theorem getD_zeros (n i : Nat) : (List.replicate n 0).getD i 0 = 0 := by
  rw [List.getD_eq_getElem?_getD, List.getElem?_replicate]; split <;> rfl
/-- The terms, told by the highest place first, are those told by the powers. -/
theorem conv_rev (A B : List Nat) (j : Nat) (hB : 0 < B.length) (hj : j < A.length + B.length - 1) :
    XS (cvt (fun i => A.getD i 0) (fun i => B.getD i 0) (A.length + B.length - 1 - 1 - j)) A.length = XS (cvt (co A) (co B) j) A.length := by
  rw [XS_rev]
  refine XS_congr _ fun i hi => ?_
  unfold cvt
  by_cases h : i ≤ j
  · rw [if_pos h]
    by_cases h2 : j - i < B.length
    · rw [if_pos (by omega), co_getD A i hi, co_getD B _ h2]
      congr 2
      omega
    · rw [if_neg (by omega), co_ge B _ (by omega), gmul_zero]
  · rw [if_neg h]
    split
    · show gmul _ (B.getD (A.length + B.length - 1 - 1 - j - (A.length - 1 - i)) 0) = 0
      rw [getD_ge B _ (by omega), gmul_zero]
    · rfl
theorem rmulL_getD (a b : List Nat) (j : Nat) : (rmulL a b).getD j 0 = XS (cvt (fun i => a.getD i 0) (fun i => b.getD i 0) j) a.length := by
  unfold rmulL
  rw [getD_convTo _ _ _ _ (by rw [List.length_replicate]; omega), getD_zeros, Nat.zero_xor]
theorem rmulP_getD (a b : List Nat) (j : Nat) : (rmulP a b).getD j 0 = XS (cvt (fun i => a.getD i 0) (fun i => b.getD i 0) j) a.length := by
  unfold rmulP; rw [cutR_getD, rmulL_getD]
/-- The product of two that aren't 0, by its factors; its first isn't 0. -/
theorem co_conv (A B : List Nat) (hA : 0 < A.length) (hB : 0 < B.length) (j : Nat) : co (convTo (List.replicate (A.length + B.length - 1) 0) A B A.length) j = XS (cvt (co A) (co B) j) A.length := by
  have hlen : (convTo (List.replicate (A.length + B.length - 1) 0) A B A.length).length = A.length + B.length - 1 := by rw [convTo_length, List.length_replicate]
  by_cases hj : j < A.length + B.length - 1
  · rw [co_getD _ _ (by rw [hlen]; exact hj), hlen, getD_convTo _ _ _ _ (by rw [List.length_replicate]; omega), getD_zeros, Nat.zero_xor, conv_rev A B j hB hj]
  · rw [co_ge _ _ (by rw [hlen]; omega), XS_zero]
    intro i hi
    unfold cvt
    split
    · rw [co_ge B _ (by omega), gmul_zero]
    · rfl
theorem conv_head (A B : List Nat) (hA : A.getD 0 0 ≠ 0) (hB : B.getD 0 0 ≠ 0) : (convTo (List.replicate (A.length + B.length - 1) 0) A B A.length).getD 0 0 ≠ 0 := by
  have hA0 : 0 < A.length := by cases A with | nil => exact absurd rfl hA | cons => simp
  have hB0 : 0 < B.length := by cases B with | nil => exact absurd rfl hB | cons => simp
  rw [getD_convTo _ _ _ _ (by rw [List.length_replicate]; omega), getD_zeros, Nat.zero_xor]
  obtain ⟨m, hm⟩ : ∃ m, A.length = m + 1 := ⟨A.length - 1, by omega⟩
  rw [hm, XS_first, XS_zero (fun i => cvt (fun i => A.getD i 0) (fun i => B.getD i 0) 0 (i + 1)) m (fun i _ => by unfold cvt; rw [if_neg (by omega)]), Nat.xor_zero]
  unfold cvt
  rw [if_pos (Nat.le_refl _)]
  exact gmul_ne hA hB
theorem ptwo_trim (a b : List Nat) : trim (ptwo a b) = ptwo a b := by
  unfold ptwo
  by_cases h : trim a = [] ∨ trim b = []
  · rw [if_pos h]; rfl
  · rw [if_neg h]
    exact trim_nz _ (conv_head _ _ (trim_head a fun e => h (.inl e)) (trim_head b fun e => h (.inr e)))
theorem co_ptwo (a b : List Nat) (j : Nat) : co (ptwo a b) j = XS (cvt (co a) (co b) j) (trim a).length := by
  have hc : ∀ n, XS (cvt (co a) (co b) j) n = XS (cvt (co (trim a)) (co (trim b)) j) n := fun n => XS_congr n fun i _ => by unfold cvt; rw [co_trim, co_trim]
  rw [hc]
  unfold ptwo
  by_cases h : trim a = [] ∨ trim b = []
  · rw [if_pos h]
    show 0 = _
    rw [XS_zero]
    intro i _
    unfold cvt
    rcases h with h | h
    · rw [h]; split
      · rw [co_ge [] _ (Nat.zero_le _), zero_gmul]
      · rfl
    · rw [h]; split
      · rw [co_ge [] _ (Nat.zero_le _), gmul_zero]
      · rfl
  · rw [if_neg h]
    exact co_conv _ _ (List.length_pos_iff.2 fun e => h (.inl e)) (List.length_pos_iff.2 fun e => h (.inr e)) j
theorem ptwo_rmul (a b : List Nat) (ha : trim a = a) : rmulP a.reverse (rof b) = (ptwo a b).reverse := by
  have h : trim (ptwo a b) = rbytes (rmulP a.reverse (rof b)) := by
    refine trim_of_getD fun i => ?_
    rw [co_ptwo, rmulP_getD, ha, List.length_reverse]
    exact XS_congr _ fun i _ => by
      unfold cvt
      split
      · show _ = gmul _ ((rof b).getD _ 0); rw [rof_getD]; rfl
      · rfl
  rw [ptwo_trim] at h
  rw [h]
  unfold rbytes
  rw [List.reverse_reverse]
  unfold rmulP cutR
  rw [List.reverse_reverse, trim_trim]
/-- The document's product of many. -/
def rprodL (l : List (List Nat)) : List Nat := l.foldl (fun s a => rmulP s (rof a)) [1]
theorem rprodL_snoc (l : List (List Nat)) (a : List Nat) : rprodL (l ++ [a]) = rmulP (rprodL l) (rof a) := by unfold rprodL; rw [List.foldl_append]; rfl
theorem rprodL_eq (l : List (List Nat)) : rprodL l = (pmul l).reverse ∧ trim (pmul l) = pmul l := by
  have key : ∀ (l : List (List Nat)) (s p : List Nat), s = p.reverse → trim p = p → l.foldl (fun s a => rmulP s (rof a)) s = (l.foldl ptwo p).reverse ∧ trim (l.foldl ptwo p) = l.foldl ptwo p := by
    intro l
    induction l with
    | nil => intro s p h1 h2; exact ⟨h1, h2⟩
    | cons a l ih => intro s p h1 h2; exact ih _ _ (by rw [h1]; exact ptwo_rmul p a h2) (ptwo_trim p a)
  exact key l [1] [1] rfl rfl
theorem pmul_rprod (l : List (List Nat)) : pmul l = rbytes (rprodL l) := by
  obtain ⟨h1, h2⟩ := rprodL_eq l
  rw [rbytes_eq, h1, List.reverse_reverse, h2]
end Tri
