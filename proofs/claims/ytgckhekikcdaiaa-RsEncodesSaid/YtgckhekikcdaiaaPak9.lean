/-
  The document's elimination in plain Lean: rows of a code's values at some places; it ends with just the word that is right and differs at these places alone. No program in sight.
  Rows of rows of whole numbers that the call itself has made: written in place, swapped, appended to.
  The document's own inverses and powers (the reference) are those of the tables. Conditions: factors are bytes.
  The document's answer for a word's values, and whether it is right.
  A block of the heap that is known whole.
  The solver's block; at, place, plus.
-/
import Derived.Test.YtgckhekikcdaiaaPak8
import Derived.Test.YtgckhekikcdaiaaPak3
import Derived.Test.YtgckhekikcdaiaaPak1
import Derived.RowKit3
import Derived.Test.YtgckhekikcdaiaaPak4
import Derived.Test.YtgckhekikcdaiaaPak7
import Derived.ProofKit
import Derived.Test.YtgckhekikcdaiaaPak2
import Derived.Deep.RegionHeld3
import Derived.Deep.CutRange
namespace Tri
open Go Go.RowKit Go.Proofs.Ytgckhekikcdaiaa
/-- A row's value. -/
def sumR (t : Nat) (row x : Nat → Nat) : Nat := XS (fun c => gmul (row c) (x c)) (t + 1)
theorem sumR_lt (t : Nat) (row x : Nat → Nat) : sumR t row x < 256 := XS_lt _ (fun _ => gmul_lt _ _) _
def Sol (r t : Nat) (M : Nat → Nat → Nat) (x : Nat → Nat) : Prop := ∀ i, i < r → sumR t (M i) x = 0
def bytesM (M : Nat → Nat → Nat) : Prop := ∀ i c, M i c < 256
def bytesX (x : Nat → Nat) : Prop := ∀ c, x c < 256
/- the three steps -/
def swapF {α : Type} (j a : Nat) (M : Nat → α) (i : Nat) : α := if i = j then M a else if i = a then M j else M i
def scTo (M : Nat → Nat → Nat) (j inv m i c : Nat) : Nat := if i = j ∧ c < m then gmul (M i c) inv else M i c
def elTo (M : Nat → Nat → Nat) (j i0 m i c : Nat) : Nat := if i ≠ j ∧ (i < i0 ∨ i = i0 ∧ c < m) then M i c ^^^ gmul (M i j) (M j c) else M i c
theorem swapF_bytes {M : Nat → Nat → Nat} (h : bytesM M) (j a : Nat) : bytesM (swapF j a M) := by
  intro i c; unfold swapF; split; exact h _ _; split <;> exact h _ _
theorem scTo_bytes {M : Nat → Nat → Nat} (h : bytesM M) (j inv m : Nat) : bytesM (scTo M j inv m) := by
  intro i c; unfold scTo; split; exact gmul_lt _ _; exact h _ _
theorem elTo_bytes {M : Nat → Nat → Nat} (h : bytesM M) (j i0 m : Nat) : bytesM (elTo M j i0 m) := by
  intro i c; unfold elTo; split; exact xor_lt (h _ _) (gmul_lt _ _); exact h _ _
theorem Sol_swap {r t j a : Nat} (M : Nat → Nat → Nat) (x : Nat → Nat) (hj : j < r) (ha : a < r) : Sol r t (swapF j a M) x ↔ Sol r t M x := by
  constructor
  · intro h i hi
    by_cases e1 : i = a
    · have := h j hj; unfold swapF at this; rw [if_pos rfl] at this; rw [e1]; exact this
    · by_cases e2 : i = j
      · have := h a ha
        unfold swapF at this
        by_cases e3 : a = j
        · exact absurd (e2.trans e3.symm) e1
        · rw [if_neg e3, if_pos rfl] at this; rw [e2]; exact this
      · have := h i hi; unfold swapF at this; rwa [if_neg e2, if_neg e1] at this
  · intro h i hi
    unfold swapF
    split
    · exact h a ha
    · split
      · exact h j hj
      · exact h i hi
theorem Sol_scale {r t j inv : Nat} (M : Nat → Nat → Nat) (x : Nat → Nat) (hj : j < r) (hi : inv < 256) (h0 : inv ≠ 0) : Sol r t (scTo M j inv (t + 1)) x ↔ Sol r t M x := by
  have key : ∀ i, sumR t (scTo M j inv (t + 1) i) x = if i = j then gmul inv (sumR t (M i) x) else sumR t (M i) x := by
    intro i
    unfold sumR
    split
    · rename_i e
      rw [← XS_mul inv hi _ (fun _ => gmul_lt _ _)]
      apply XS_congr
      intro c hc
      unfold scTo
      rw [if_pos ⟨e, hc⟩]
      simp only [gmul_comm, gmul_left_comm, gmul_assoc]
    · rename_i e
      apply XS_congr
      intro c _
      unfold scTo
      rw [if_neg (fun h => e h.1)]
  constructor
  · intro h i hir
    have := h i hir
    rw [key] at this
    split at this
    · exact (gmul_eq_zero.1 this).resolve_left h0
    · exact this
  · intro h i hir
    rw [key]
    split
    · rw [h i hir, gmul_zero]
    · exact h i hir
theorem Sol_elim {r t j : Nat} {M : Nat → Nat → Nat} (hM : bytesM M) {x : Nat → Nat} (hx : bytesX x) (hj : j < r) : Sol r t (elTo M j r 0) x ↔ Sol r t M x := by
  have key : ∀ i, i < r → sumR t (elTo M j r 0 i) x = if i = j then sumR t (M i) x else sumR t (M i) x ^^^ gmul (M i j) (sumR t (M j) x) := by
    intro i hi
    unfold sumR
    split
    · rename_i e
      apply XS_congr
      intro c _
      unfold elTo
      rw [if_neg (fun h => h.1 e)]
    · rename_i e
      rw [← XS_mul _ (hM i j) _ (fun _ => gmul_lt _ _), ← XS_add]
      apply XS_congr
      intro c _
      unfold elTo
      rw [if_pos ⟨e, .inl hi⟩, gmul_comm, gmul_comm (M i c)]
      rw [gmul_xor _ _ _ (hx c) (hM i c) (gmul_lt _ _)]
      congr 1
      simp only [gmul_comm, gmul_left_comm, gmul_assoc]
  constructor
  · intro h i hir
    have hjr := h j hj
    rw [key j hj, if_pos rfl] at hjr
    have := h i hir
    rw [key i hir] at this
    split at this
    · exact this
    · rwa [hjr, gmul_zero, Nat.xor_zero] at this
  · intro h i hir
    rw [key i hir]
    split
    · exact h i hir
    · rw [h i hir, h j hj, gmul_zero]; rfl
/-- How the rows stand ahead of column j. -/
structure ElI (r t j : Nat) (M0 M : Nat → Nat → Nat) : Prop where
  b : bytesM M
  diag : ∀ c, c < j → ∀ i, i < r → M i c = if i = c then 1 else 0
  sol : ∀ x, bytesX x → (Sol r t M x ↔ Sol r t M0 x)
theorem ElI.start {r t : Nat} {M0 : Nat → Nat → Nat} (h : bytesM M0) : ElI r t 0 M0 M0 := ⟨h, fun c hc => by omega, fun _ _ => Iff.rfl⟩
theorem ElI.step {r t j a : Nat} {M0 M : Nat → Nat → Nat} (h : ElI r t j M0 M) (hj : j < t) (htr : t ≤ r) (ha1 : j ≤ a) (ha2 : a < r) (hp : M a j ≠ 0) :
    ElI r t (j + 1) M0 (elTo (scTo (swapF j a M) j (ginv (M a j)) (t + 1)) j r 0) := by
  have hb1 := swapF_bytes h.b j a
  have hb2 := scTo_bytes hb1 j (ginv (M a j)) (t + 1)
  refine ⟨elTo_bytes hb2 _ _ _, fun c hc i hi => ?_, fun x hx => ?_⟩
  · have hS : ∀ c, c < j → ∀ i, i < r → swapF j a M i c = if i = c then 1 else 0 := by
      intro c hc i hi
      unfold swapF
      split
      · rename_i e
        rw [h.diag c hc a ha2, if_neg (by omega), if_neg (by omega)]
      · split
        · rename_i e1 e2
          rw [h.diag c hc j (by omega), if_neg (by omega), if_neg (by omega)]
        · exact h.diag c hc i hi
    have hC : ∀ c, c < j → ∀ i, i < r → scTo (swapF j a M) j (ginv (M a j)) (t + 1) i c = if i = c then 1 else 0 := by
      intro c hc i hi
      unfold scTo
      split
      · rename_i e
        rw [hS c hc i hi, if_neg (by omega), zero_gmul]
      · exact hS c hc i hi
    have hjj : scTo (swapF j a M) j (ginv (M a j)) (t + 1) j j = 1 := by
      unfold scTo swapF
      rw [if_pos ⟨rfl, by omega⟩, if_pos rfl, gmul_ginv _ hp]
    unfold elTo
    by_cases e : i = j
    · rw [if_neg (fun h => h.1 e)]
      by_cases ec : c = j
      · rw [e, ec, hjj, if_pos rfl]
      · exact hC c (by omega) i hi
    · rw [if_pos ⟨e, .inl hi⟩]
      by_cases ec : c = j
      · rw [ec, hjj, gmul_one _ (hb2 i j), Nat.xor_self, if_neg e]
      · rw [hC c (by omega) i hi, hC c (by omega) j (by omega), if_neg (show ¬ j = c by omega), gmul_zero, Nat.xor_zero]
  · rw [Sol_elim hb2 hx (by omega), Sol_scale _ _ (by omega) (ginv_lt _) (ginv_ne _), Sol_swap _ _ (by omega) ha2]
    exact h.sol x hx
theorem XS_two (f : Nat → Nat) (n a b : Nat) (ha : a < n) (hb : b < n) (hab : a ≠ b) (h : ∀ c, c < n → c ≠ a → c ≠ b → f c = 0) : XS f n = f a ^^^ f b := by
  have e : ∀ c, c < n → f c = (if c = a then f c else 0) ^^^ (if c = b then f c else 0) := by
    intro c hc
    by_cases h1 : c = a
    · rw [if_pos h1, if_neg (by omega), Nat.xor_zero]
    · rw [if_neg h1]
      by_cases h2 : c = b
      · rw [if_pos h2, Nat.zero_xor]
      · rw [if_neg h2, h c hc h1 h2]; rfl
  rw [XS_congr n e, XS_add, ← LS_range, ← LS_range, LS_single _ a _ List.nodup_range (List.mem_range.2 ha) (fun k _ hk => if_neg hk), LS_single _ b _ List.nodup_range (List.mem_range.2 hb) (fun k _ hk => if_neg hk), if_pos rfl, if_pos rfl]
theorem XS_one (f : Nat → Nat) (n a : Nat) (ha : a < n) (h : ∀ c, c < n → c ≠ a → f c = 0) : XS f n = f a := by
  rw [← LS_range, LS_single _ a _ List.nodup_range (List.mem_range.2 ha) fun k hk hne => h k (List.mem_range.1 hk) hne]
/-- A column without a pivot: something else than 0 is sent to 0. -/
theorem ElI.kernel {r t j : Nat} {M0 M : Nat → Nat → Nat} (h : ElI r t j M0 M) (hj : j < t) (hz : ∀ a, j ≤ a → a < r → M a j = 0) : ∃ x, bytesX x ∧ x j = 1 ∧ x t = 0 ∧ Sol r t M0 x := by
  have hx : bytesX (fun c => if c = j then 1 else if c < j then M c j else 0) := by
    intro c
    show (if c = j then 1 else if c < j then M c j else 0) < 256
    split
    · decide
    · split
      · exact h.b _ _
      · decide
  refine ⟨_, hx, if_pos rfl, ?_, (h.sol _ hx).1 fun i hi => ?_⟩
  · show (if t = j then 1 else if t < j then M t j else 0) = 0
    rw [if_neg (by omega), if_neg (by omega)]
  · unfold sumR
    by_cases hij : i < j
    · rw [XS_two _ (t + 1) i j (by omega) (by omega) (by omega)]
      · show gmul (M i i) (if i = j then 1 else if i < j then M i j else 0) ^^^ gmul (M i j) (if j = j then 1 else if j < j then M j j else 0) = 0
        rw [h.diag i hij i hi, if_pos rfl, if_neg (by omega), if_pos hij, if_pos rfl, one_gmul _ (h.b _ _), gmul_one _ (h.b _ _), Nat.xor_self]
      · intro c hc h1 h2
        show gmul (M i c) (if c = j then 1 else if c < j then M c j else 0) = 0
        rw [if_neg h2]
        split
        · rename_i hcj
          rw [h.diag c hcj i hi, if_neg (by omega), zero_gmul]
        · exact gmul_zero _
    · refine XS_zero _ _ fun c hc => ?_
      show gmul (M i c) (if c = j then 1 else if c < j then M c j else 0) = 0
      split
      · rename_i e
        rw [e, hz i (by omega) hi, zero_gmul]
      · split
        · rename_i hcj
          rw [h.diag c hcj i hi, if_neg (by omega), zero_gmul]
        · exact gmul_zero _
/-- What the rows tell behind all columns. -/
theorem ElI.sum {r t : Nat} {M0 M : Nat → Nat → Nat} (h : ElI r t t M0 M) {x : Nat → Nat} (hx : bytesX x) (h1 : x t = 1) {i : Nat} (hi : i < r) : sumR t (M i) x = (if i < t then x i else 0) ^^^ M i t := by
  unfold sumR
  by_cases hit : i < t
  · rw [if_pos hit, XS_two _ (t + 1) i t (by omega) (by omega) (by omega), h.diag i hit i hi, if_pos rfl, one_gmul _ (hx i), h1, gmul_one _ (h.b _ _)]
    intro c hc h2 h3
    rw [h.diag c (by omega) i hi, if_neg (by omega), zero_gmul]
  · rw [if_neg hit, Nat.zero_xor, XS_one _ (t + 1) t (by omega), h1, gmul_one _ (h.b _ _)]
    intro c hc h2
    rw [h.diag c (by omega) i hi, if_neg (by omega), zero_gmul]
theorem ElI.found {r t : Nat} {M0 M : Nat → Nat → Nat} (h : ElI r t t M0 M) (hz : ∀ i, t ≤ i → i < r → M i t = 0) : Sol r t M0 (fun c => if c < t then M c t else 1) := by
  have hx : bytesX (fun c => if c < t then M c t else 1) := by
    intro c
    show (if c < t then M c t else 1) < 256
    split
    · exact h.b _ _
    · decide
  refine (h.sol _ hx).1 fun i hi => ?_
  rw [h.sum hx (if_neg (by omega)) hi]
  by_cases hit : i < t
  · rw [if_pos hit]
    show (if i < t then M i t else 1) ^^^ _ = 0
    rw [if_pos hit, Nat.xor_self]
  · rw [if_neg hit, hz i (by omega) hi]; rfl
theorem ElI.must {r t : Nat} {M0 M : Nat → Nat → Nat} (h : ElI r t t M0 M) {x : Nat → Nat} (hx : bytesX x) (h1 : x t = 1) (hs : Sol r t M0 x) : ∀ i, t ≤ i → i < r → M i t = 0 := by
  intro i h2 hi
  have := (h.sol x hx).2 hs i hi
  rw [h.sum hx h1 hi, if_neg (by omega), Nat.zero_xor] at this
  exact this
/- the code's rows -/
def restL (pl word : List Nat) : List Nat := (List.range word.length).map fun i => if i ∈ pl then 0 else word.getD i 0
def M0F (n : Nat) (pl vals : List Nat) (i c : Nat) : Nat := if c < pl.length then gexp (i * ex n (pl.getD c 0)) else vals.getD i 0
theorem map_getD (f : Nat → Nat) (n i : Nat) (h : i < n) : ((List.range n).map f).getD i 0 = f i := by
  rw [List.getD_eq_getElem?_getD, List.getElem?_map, List.getElem?_range h]; rfl
theorem LS_perm {f : Nat → Nat} {a b : List Nat} (h : List.Perm a b) : LS f a = LS f b := by
  induction h with
  | nil => rfl
  | cons x _ ih => show f x ^^^ _ = f x ^^^ _; rw [ih]
  | swap x y l => show f y ^^^ (f x ^^^ LS f l) = f x ^^^ (f y ^^^ LS f l); rw [← Nat.xor_assoc, ← Nat.xor_assoc, Nat.xor_comm (f y)]
  | trans _ _ h1 h2 => rw [h1, h2]
theorem LS_index (f : Nat → Nat) (l : List Nat) : LS f l = XS (fun c => f (l.getD c 0)) l.length := by
  induction l with
  | nil => rfl
  | cons a l ih =>
    rw [List.length_cons, XS_first]
    show f a ^^^ LS f l = f a ^^^ _
    rw [ih]; rfl
theorem idx_getD {pl : List Nat} (h : pl.Nodup) {c : Nat} (hc : c < pl.length) : pl.idxOf (pl.getD c 0) = c := by
  rw [getD_of _ _ hc]
  exact h.idxOf_getElem c hc
/-- No other word of the places alone is 0 everywhere. -/
theorem M0F_inj {n r : Nat} (hn : n ≤ 255) {pl : List Nat} (hpl : pl.Nodup) (hm : ∀ i ∈ pl, i < n) (hr : pl.length ≤ r) (vals : List Nat) {x : Nat → Nat} (hx : bytesX x) (h0 : x pl.length = 0) (hs : Sol r pl.length (M0F n pl vals) x) : ∀ c, c < pl.length → x c = 0 := by
  have hz := sums_zero hn pl hpl hm (fun i => x (pl.idxOf i)) (fun i => hx _) 0 (fun m hmm => by
    have h1 := hs m (by omega)
    unfold sumR at h1
    have e : XS (fun c => gmul (M0F n pl vals m c) (x c)) (pl.length + 1) = XS (fun c => gmul (M0F n pl vals m c) (x c)) pl.length ^^^ gmul (M0F n pl vals m pl.length) (x pl.length) := rfl
    rw [e, h0, gmul_zero, Nat.xor_zero] at h1
    refine (LS_index _ _).trans (Eq.trans ?_ h1)
    apply XS_congr
    intro c hc
    rw [idx_getD hpl hc]
    unfold M0F
    rw [if_pos hc, Nat.zero_add, Nat.mul_comm, gmul_comm])
  intro c hc
  have := hz (pl.getD c 0) (by rw [getD_of _ _ hc]; exact List.getElem_mem hc)
  rwa [idx_getD hpl hc] at this
/-- The word whose places are filled. -/
def fillP (pl word : List Nat) (x : Nat → Nat) : List Nat := (List.range word.length).map fun i => if i ∈ pl then x (pl.idxOf i) else word.getD i 0
theorem fillP_bytes {pl word : List Nat} (hb : bytesL word) {x : Nat → Nat} (hx : bytesX x) : bytesL (fillP pl word x) := map_bytes (fun i => by split; exact hx _; exact getD_lt hb i) _
theorem restL_bytes {pl word : List Nat} (hb : bytesL word) : bytesL (restL pl word) := map_bytes (fun i => by split; decide; exact getD_lt hb i) _
theorem fillP_len (pl word : List Nat) (x : Nat → Nat) : (fillP pl word x).length = word.length := by unfold fillP; simp
theorem restL_len (pl word : List Nat) : (restL pl word).length = word.length := by unfold restL; simp
/-- The filled word's values. -/
theorem fill_sum {n p : Nat} {pl word : List Nat} (hb : bytesL word) (hl : word.length = n) (hpl : pl.Nodup) (hm : ∀ i ∈ pl, i < n) {x : Nat → Nat} (hx : bytesX x) (h1 : x pl.length = 1) {i : Nat} (hi : i < p) :
    sumR pl.length (M0F n pl (synd (restL pl word) p) i) x = peval (gexp i) (fillP pl word x) := by
  rw [peval_places (fillP_bytes hb hx), fillP_len, hl]
  unfold sumR
  have e : XS (fun c => gmul (M0F n pl (synd (restL pl word) p) i c) (x c)) (pl.length + 1) = XS (fun c => gmul (M0F n pl (synd (restL pl word) p) i c) (x c)) pl.length ^^^ gmul (M0F n pl (synd (restL pl word) p) i pl.length) (x pl.length) := rfl
  have hv : M0F n pl (synd (restL pl word) p) i pl.length = LS (fun k => gmul ((restL pl word).getD k 0) (gexp (ex n k * i))) (List.range n) := by
    unfold M0F
    rw [if_neg (by omega), synd_getD _ _ _ hi, peval_places (restL_bytes hb), restL_len, hl]
  rw [e, h1, hv, gmul_one _ (LS_lt _ (fun _ => gmul_lt _ _) _)]
  have hA : XS (fun c => gmul (M0F n pl (synd (restL pl word) p) i c) (x c)) pl.length = LS (fun k => if k ∈ pl then gmul (x (pl.idxOf k)) (gexp (ex n k * i)) else 0) (List.range n) := by
    have hp : List.Perm ((List.range n).filter fun k => decide (k ∈ pl)) pl := (List.perm_ext_iff_of_nodup (List.Pairwise.filter _ List.nodup_range) hpl).2 fun k => by
      rw [List.mem_filter, List.mem_range, decide_eq_true_eq]
      exact ⟨fun h => h.2, fun h => ⟨hm k h, h⟩⟩
    rw [← LS_filter _ (fun k => decide (k ∈ pl)) (List.range n) (fun k _ hk => if_neg (of_decide_eq_false hk)), LS_perm hp, LS_index]
    apply XS_congr
    intro c hc
    rw [if_pos (by rw [getD_of _ _ hc]; exact List.getElem_mem hc), idx_getD hpl hc]
    unfold M0F
    rw [if_pos hc, gmul_comm, Nat.mul_comm]
  rw [hA, ← LS_add]
  refine LS_congr _ fun k hk => ?_
  have hk := List.mem_range.1 hk
  unfold restL fillP
  rw [map_getD _ _ _ (by omega), map_getD _ _ _ (by omega)]
  split
  · rw [zero_gmul, Nat.xor_zero]
  · rw [Nat.zero_xor]
/-- What is found is right. -/
theorem found_right {n p : Nat} {pl word : List Nat} (hb : bytesL word) (hl : word.length = n) (hpl : pl.Nodup) (hm : ∀ i ∈ pl, i < n) {x : Nat → Nat} (hx : bytesX x) (h1 : x pl.length = 1) (hs : Sol p pl.length (M0F n pl (synd (restL pl word) p)) x) : rightB (fillP pl word x) p = true :=
  right_of fun i hi => by rw [← fill_sum hb hl hpl hm hx h1 hi]; exact hs i hi
/-- Where there is a right word that differs at the places alone it is found. -/
theorem must_find {n p : Nat} {pl word o : List Nat} (hb : bytesL word) (hl : word.length = n) (hpl : pl.Nodup) (hm : ∀ i ∈ pl, i < n) (hob : bytesL o) (hol : o.length = n) (ho : rightB o p = true) (hoff : ∀ i, i < n → i ∉ pl → o.getD i 0 = word.getD i 0) :
    ∃ x, bytesX x ∧ x pl.length = 1 ∧ Sol p pl.length (M0F n pl (synd (restL pl word) p)) x := by
  have hx : bytesX (fun c => if c < pl.length then o.getD (pl.getD c 0) 0 else 1) := by
    intro c
    show (if c < pl.length then o.getD (pl.getD c 0) 0 else 1) < 256
    split
    · exact getD_lt hob _
    · decide
  refine ⟨_, hx, if_neg (by omega), fun i hi => ?_⟩
  rw [fill_sum hb hl hpl hm hx (if_neg (by omega)) hi]
  have e : fillP pl word (fun c => if c < pl.length then o.getD (pl.getD c 0) 0 else 1) = o := by
    apply list_ext (by rw [fillP_len, hl, hol])
    intro k
    by_cases hk : k < n
    · unfold fillP
      rw [map_getD _ _ _ (by omega)]
      split
      · rename_i hin
        have hidx := List.idxOf_lt_length_of_mem hin
        show (if pl.idxOf k < pl.length then o.getD (pl.getD (pl.idxOf k) 0) 0 else 1) = o.getD k 0
        rw [if_pos hidx, getD_of _ _ hidx, List.getElem_idxOf hidx]
      · rename_i hin
        exact (hoff k hk hin).symm
    · rw [getD_ge _ _ (by rw [fillP_len]; omega), getD_ge _ _ (by omega)]
  rw [e]
  exact synd_zero ho i hi
end Tri

namespace Go.Proofs.Ytgckhekikcdaiaa
open Go.RowKit Tri

/-- Block b is a row of at least n cells of type t, none frozen. -/
def rowX (w : World) (b : Nat) (t : TypeId) (n : Nat) (f : Nat → Value) : Prop :=
  ∃ c : Array Value, w.heap[b]? = some (.cells c t (0, 0)) ∧ n ≤ c.size ∧ ∀ i, i < n → c[i]? = some (f i)
section
variable {w : World} {b : Nat} {t : TypeId} {n : Nat} {f g : Nat → Value}
theorem rowX.cell (h : rowX w b t n f) {i : Nat} (hi : i < n) : w.cell? ⟨b, i, none⟩ = some (f i) := by
  obtain ⟨c, hb, _, hc⟩ := h
  simp [World.cell?, hb, hc i hi]
theorem rowX.frozen (h : rowX w b t n f) (i : Nat) : w.frozen? ⟨b, i, none⟩ = false := by
  obtain ⟨c, hb, _, _⟩ := h
  simp [World.frozen?, hb]
theorem rowX.lt (h : rowX w b t n f) : b < w.heap.size := by
  obtain ⟨c, hb, _, _⟩ := h
  exact (Array.getElem?_eq_some_iff.1 hb).1
theorem rowX.congr (h : rowX w b t n f) (e : ∀ i, i < n → f i = g i) : rowX w b t n g := by
  obtain ⟨c, hb, hn, hc⟩ := h
  exact ⟨c, hb, hn, fun i hi => by rw [hc i hi, e i hi]⟩
theorem rowX.of_block {w' : World} (h : rowX w b t n f) (e : w'.heap[b]? = w.heap[b]?) : rowX w' b t n f := by
  obtain ⟨c, hb, hn, hc⟩ := h
  exact ⟨c, e.trans hb, hn, hc⟩
theorem rowX.below {w' : World} (h : rowX w b t n f) (hb : Below w.heap.size w w') : rowX w' b t n f := h.of_block (hb.block b h.lt)
theorem rowX.set (h : rowX w b t n f) (i : Nat) (v : Value) : rowX (w.setCell ⟨b, i, none⟩ v) b t n (fun j => if j = i then v else f j) := by
  obtain ⟨c, hb, hn, hc⟩ := h
  refine ⟨c.setIfInBounds i v, ?_, by simpa using hn, fun j hj => ?_⟩
  · simp [World.setCell, Array.getElem?_modify, hb]
  · rw [Array.getElem?_setIfInBounds]
    by_cases e : j = i
    · subst e
      rw [if_pos rfl, if_pos (by omega)]
      show some v = some (if j = j then v else f j)
      rw [if_pos rfl]
    · rw [if_neg (fun h => e h.symm)]
      show c[j]? = some (if j = i then v else f j)
      rw [if_neg e]
      exact hc j hj
theorem rowX.setOther (h : rowX w b t n f) {a : Addr} (ha : b ≠ a.block) (v : Value) : rowX (w.setCell a v) b t n f := h.of_block (heap_setCell_other w a b v ha)
theorem rowX.of_owns {base cap : Nat} {xs : List Value} (h : w.ownsRow base t 1 (.slice (some ⟨b, 0, none⟩) n cap) n xs) (hf : ∀ i, i < n → xs[i]? = some (f i)) : rowX w b t n f ∧ base ≤ b ∧ n ≤ cap := by
  rcases h.2 with ⟨h1, _⟩ | ⟨g', cap', cur, h1, h2, h3, h4, h5, h6, h7⟩
  · cases h1
  · simp only [Value.slice.injEq, Option.some.injEq, Addr.mk.injEq, and_true, true_and] at h1
    obtain ⟨rfl, rfl⟩ := h1
    refine ⟨⟨cur, h3, by omega, fun i hi => ?_⟩, h2, h4⟩
    have h8 : (cur.toList.take (n * 1))[i]? = xs[i]? := by rw [h7]
    rw [List.getElem?_take_of_lt (by omega), Array.getElem?_toList, hf i hi] at h8
    exact h8
end
theorem rowK_rowX {w : World} {base : Nat} {v : Value} {l : List Nat} (h : rowK w base 3 .i64 v l) (hl : l ≠ []) : ∃ b c, v = .slice (some ⟨b, 0, none⟩) l.length c ∧ rowX w b 3 l.length (fun i => .int .i64 (l.getD i 0 : Nat)) ∧ base ≤ b ∧ l.length ≤ c := by
  have h' := h
  rcases h.2 with ⟨_, h0⟩ | ⟨g, cap, cur, rfl, h2, h3, h4, h5, h6, h7⟩
  · exact absurd (List.eq_nil_of_length_eq_zero h0) hl
  · obtain ⟨a1, a2, a3⟩ := rowX.of_owns (f := fun i => .int .i64 (l.getD i 0 : Nat)) h' (fun i hi => by rw [List.getElem?_map, List.getElem?_eq_getElem hi, List.getD_eq_getElem?_getD, List.getElem?_eq_getElem hi]; rfl)
    exact ⟨g, cap, rfl, a1, a2, a3⟩
/-- Rows of whole numbers, one beside the other. -/
structure MatW (w : World) (base G r m : Nat) (B C : Nat → Nat) (M : Nat → Nat → Nat) : Prop where
  g : rowX w G 41 r (fun i => .slice (some ⟨B i, 0, none⟩) m (C i))
  row : ∀ i, i < r → rowX w (B i) 3 m (fun c => .int .i64 (M i c : Nat))
  inj : ∀ i j, i < r → j < r → B i = B j → i = j
  cap : ∀ i, i < r → m ≤ C i
  gb : base ≤ G
  bb : ∀ i, i < r → base ≤ B i
section
variable {w : World} {base G r m : Nat} {B C : Nat → Nat} {M : Nat → Nat → Nat}
theorem rowX.apart {w : World} {b b' n n' : Nat} {f f' : Nat → Value} (h : rowX w b 41 n f) (h' : rowX w b' 3 n' f') : b ≠ b' := by
  intro e
  subst e
  obtain ⟨c, h1, _⟩ := h
  obtain ⟨c', h2, _⟩ := h'
  rw [h1] at h2
  simp at h2
theorem MatW.below {w' : World} (h : MatW w base G r m B C M) (hb : Below w.heap.size w w') : MatW w' base G r m B C M := ⟨h.g.below hb, fun i hi => (h.row i hi).below hb, h.inj, h.cap, h.gb, h.bb⟩
theorem MatW.drew (h : MatW w base G r m B C M) : MatW w.drew base G r m B C M := ⟨h.g, h.row, h.inj, h.cap, h.gb, h.bb⟩
theorem MatW.congr {M' : Nat → Nat → Nat} (h : MatW w base G r m B C M) (e : ∀ i, i < r → ∀ c, c < m → M i c = M' i c) : MatW w base G r m B C M' :=
  ⟨h.g, fun i hi => (h.row i hi).congr fun c hc => by rw [e i hi c hc], h.inj, h.cap, h.gb, h.bb⟩
theorem MatW.set (h : MatW w base G r m B C M) {i : Nat} (hi : i < r) (c y : Nat) : MatW (w.setCell ⟨B i, c, none⟩ (.int .i64 (y : Nat))) base G r m B C (fun a b => if a = i ∧ b = c then y else M a b) := by
  refine ⟨h.g.setOther (h.g.apart (h.row i hi)) _, fun a ha => ?_, h.inj, h.cap, h.gb, h.bb⟩
  by_cases e : a = i
  · subst e
    refine ((h.row a ha).set c _).congr fun b _ => ?_
    show (if b = c then _ else _) = _
    by_cases hb : b = c
    · rw [if_pos hb, if_pos ⟨rfl, hb⟩]
    · rw [if_neg hb, if_neg (fun h => hb h.2)]
  · refine ((h.row a ha).setOther (fun hh => e (h.inj a i ha hi hh)) _).congr fun b _ => ?_
    rw [if_neg (fun h => e h.1)]
theorem MatW.other (h : MatW w base G r m B C M) {ob : Nat} (ho : ob < base) (i : Nat) (v : Value) : MatW (w.setCell ⟨ob, i, none⟩ v) base G r m B C M :=
  ⟨h.g.setOther (a := ⟨ob, i, none⟩) (by have := h.gb; show G ≠ ob; omega) v, fun k hk => (h.row k hk).setOther (a := ⟨ob, i, none⟩) (by have := h.bb k hk; show B k ≠ ob; omega) v, h.inj, h.cap, h.gb, h.bb⟩
theorem MatW.swap (h : MatW w base G r m B C M) {a b : Nat} (ha : a < r) (hb : b < r) :
    MatW ((w.setCell ⟨G, a, none⟩ (.slice (some ⟨B b, 0, none⟩) m (C b))).setCell ⟨G, b, none⟩ (.slice (some ⟨B a, 0, none⟩) m (C a))) base G r m (swapF a b B) (swapF a b C) (swapF a b M) := by
  have hlt : ∀ i, i < r → ∃ k, k < r ∧ swapF a b B i = B k ∧ swapF a b C i = C k ∧ swapF a b M i = M k := by
    intro i hi
    unfold swapF
    split
    · exact ⟨b, hb, rfl, rfl, rfl⟩
    · split
      · exact ⟨a, ha, rfl, rfl, rfl⟩
      · exact ⟨i, hi, rfl, rfl, rfl⟩
  refine ⟨?_, fun i hi => ?_, fun i j hi hj hij => ?_, fun i hi => ?_, h.gb, fun i hi => ?_⟩
  · refine ((h.g.set a _).set b _).congr fun i hi => ?_
    unfold swapF
    by_cases e1 : i = b
    · rw [if_pos e1]
      by_cases e2 : i = a
      · rw [if_pos e2, if_pos e2]
        have : a = b := by omega
        rw [this]
      · rw [if_neg e2, if_pos e1, if_neg e2, if_pos e1]
    · rw [if_neg e1]
      by_cases e2 : i = a
      · rw [if_pos e2, if_pos e2, if_pos e2]
      · rw [if_neg e2, if_neg e2, if_neg e1, if_neg e2, if_neg e1]
  · obtain ⟨k, hk, e1, e2, e3⟩ := hlt i hi
    rw [e1, e3]
    have hne := (h.g.apart (h.row k hk)).symm
    exact ((h.row k hk).setOther (a := ⟨G, a, none⟩) hne _).setOther (a := ⟨G, b, none⟩) hne _
  · unfold swapF at hij
    by_cases i1 : i = a <;> by_cases j1 : j = a
    · omega
    · rw [if_pos i1, if_neg j1] at hij
      split at hij
      · rename_i h2
        have := h.inj b a hb ha hij
        omega
      · rename_i h2
        have := h.inj b j hb hj hij
        omega
    · rw [if_neg i1, if_pos j1] at hij
      split at hij
      · have := h.inj a b ha hb hij
        omega
      · have := h.inj i b hi hb hij
        omega
    · rw [if_neg i1, if_neg j1] at hij
      split at hij
      · split at hij
        · omega
        · have := h.inj a j ha hj hij
          omega
      · split at hij
        · have := h.inj i a hi ha hij
          omega
        · exact h.inj i j hi hj hij
  · obtain ⟨k, hk, e1, e2, e3⟩ := hlt i hi
    rw [e2]; exact h.cap k hk
  · obtain ⟨k, hk, e1, e2, e3⟩ := hlt i hi
    rw [e1]; exact h.bb k hk
end
def updF {α : Type} (f : Nat → α) (i : Nat) (y : α) (k : Nat) : α := if k = i then y else f k
/-- Rows, as they are appended. -/
structure MatC (w : World) (base : Nat) (v : Value) (i m : Nat) (B C : Nat → Nat) (M : Nat → Nat → Nat) : Prop where
  o : w.ownsRow base 41 1 v i ((List.range i).map fun j => Value.slice (some ⟨B j, 0, none⟩) m (C j))
  nn : ∃ G cap, v = .slice (some ⟨G, 0, none⟩) i cap
  row : ∀ j, j < i → rowX w (B j) 3 m (fun c => .int .i64 (M j c : Nat))
  inj : ∀ j k, j < i → k < i → B j = B k → j = k
  cap : ∀ j, j < i → m ≤ C j
  bb : ∀ j, j < i → base ≤ B j
theorem MatC.start {w : World} {base : Nat} (hb : base ≤ w.heap.size) (m : Nat) (B C : Nat → Nat) (M : Nat → Nat → Nat) : MatC (w.alloc (.cells #[] 41)) base (.slice (some ⟨w.heap.size, 0, none⟩) 0 0) 0 m B C M :=
  ⟨World.ownsRow_lit w #[] 0 hb (by unfold maxLen; omega) rfl, ⟨_, _, rfl⟩, fun j hj => by omega, fun j k hj => by omega, fun j hj => by omega, fun j hj => by omega⟩
theorem MatC.mat {w : World} {base : Nat} {v : Value} {r m : Nat} {B C : Nat → Nat} {M : Nat → Nat → Nat} (h : MatC w base v r m B C M) : ∃ G cap, v = .slice (some ⟨G, 0, none⟩) r cap ∧ r ≤ cap ∧ MatW w base G r m B C M := by
  obtain ⟨G, cap, rfl⟩ := h.nn
  obtain ⟨h1, h2, h3⟩ := rowX.of_owns (f := fun j => Value.slice (some ⟨B j, 0, none⟩) m (C j)) h.o (fun i hi => by rw [List.getElem?_map, List.getElem?_range hi]; rfl)
  exact ⟨G, cap, rfl, h3, h1, h.row, h.inj, h.cap, h2, h.bb⟩
theorem MatC.below {w w' : World} {base : Nat} {v : Value} {r m : Nat} {B C : Nat → Nat} {M : Nat → Nat → Nat} (h : MatC w base v r m B C M) (hb : Below w.heap.size w w') : MatC w' base v r m B C M := by
  refine ⟨?_, h.nn, fun j hj => (h.row j hj).below hb, h.inj, h.cap, h.bb⟩
  refine ⟨h.o.1, h.o.2.imp id fun ⟨g, cap, cur, h4, h5, h6, h7⟩ => ⟨g, cap, cur, h4, h5, ?_, h7⟩⟩
  rw [hb.block g (Array.getElem?_eq_some_iff.1 h6).1]; exact h6
theorem Try.infoRI : (Try.prog.info? 41).map (fun i => (i.zero, i.size, i.bytes)) = some (some (.slice none 0 0), 1, 24) := by kernel_rfl
theorem wpList_pushM {wr : World} {ops : Array Oper} {rest : List Oper} {o : Oper} {a : Act} {Q : Exit → Act → World → Prop} (hgd : o.guard = none) (s x : Operand) (t : TypeId)
    (ho : o.op = .call { callee := .builtin .append, args := #[s, x], argTypes := #[t, t] })
    (base : Nat) (inf : TypeInfo) (ht : Try.prog.underlying t = some (.slice 41)) (hinf : Try.prog.info? 41 = some inf) (hz : inf.zero = some (.slice none 0 0)) (hsize : inf.size = 1) (hby : inf.bytes = 24)
    (v : Value) (i m : Nat) (B C : Nat → Nat) (M : Nat → Nat → Nat) (hM : MatC wr base v i m B C M) (hs : a.eval s = v)
    (b c : Nat) (R : Nat → Nat) (hr : rowX wr b 3 m (fun c => .int .i64 (R c : Nat))) (hnew : ∀ j, j < i → B j ≠ b) (hbb : base ≤ b) (hcap : m ≤ c)
    (g : Nat) (hx : a.eval x = .slice (some ⟨g, 0, none⟩) 1 1) (hg : g = wr.heap.size) (hlen : i ≤ 1000000) (hbase : base ≤ wr.heap.size)
    (h : ∀ v' w', MatC w' base v' (i + 1) m (updF B i b) (updF C i c) (updF M i R) → Below base wr w' → wpList Try.prog ops Q rest (a.put o.dst v') w') :
    wpList Try.prog ops Q (o :: rest) a (wr.alloc (.cells #[.slice (some ⟨b, 0, none⟩) m c] 41)) := by
  subst hg
  refine wpList_append_own (wr.alloc (.cells #[.slice (some ⟨b, 0, none⟩) m c] 41)) hgd s x t ho base 41 inf (.slice none 0 0) 1 24 ht hinf hz hsize hby rfl (by decide) v i _ hs (hM.o.alloc _)
    ⟨wr.heap.size, 0, none⟩ 1 1 [Value.slice (some ⟨b, 0, none⟩) m c] hx rfl ?_ ?_ ?_ ?_ ?_ ?_
  · intro j u hj
    match j with
    | 0 =>
      simp only [List.getElem?_cons_zero, Option.some.injEq] at hj
      subst hj
      exact World.cell?_alloc_new wr #[.slice (some ⟨b, 0, none⟩) m c] 41 0
    | j + 1 => simp at hj
  · intro u hu; simp only [List.mem_singleton] at hu; subst hu; rfl
  · unfold maxLen; omega
  · omega
  · simp; omega
  · intro v' w' h2 h3 h4
    have hkeep : ∀ {b' : Nat} {f : Nat → Value}, rowX wr b' 3 m f → rowX w' b' 3 m f := by
      intro b' f hr'
      refine hr'.of_block ?_
      have hlt := hr'.lt
      rw [h3.block b' (by simp; omega) ?_]
      · exact Below.heap_alloc wr _ b' hlt
      · intro e
        obtain ⟨G, cap, rfl⟩ := hM.nn
        simp only [Value.ownBlock, Option.some.injEq] at e
        subst e
        have h5 := rowX.of_owns (f := fun j => Value.slice (some ⟨B j, 0, none⟩) m (C j)) hM.o (fun i hi => by rw [List.getElem?_map, List.getElem?_range hi]; rfl)
        exact (h5.1.apart hr') rfl
    have hB : ∀ j, j < i → updF B i b j = B j := fun j hj => if_neg (by omega)
    have hC : ∀ j, j < i → updF C i c j = C j := fun j hj => if_neg (by omega)
    refine h v' w' ⟨?_, ?_, fun j hj => ?_, fun j k hj hk e => ?_, fun j hj => ?_, fun j hj => ?_⟩ ?_
    · rw [List.range_succ, List.map_append]
      have e1 : (List.range i).map (fun j => Value.slice (some ⟨updF B i b j, 0, none⟩) m (updF C i c j)) = (List.range i).map fun j => Value.slice (some ⟨B j, 0, none⟩) m (C j) := by
        apply List.map_congr_left
        intro j hj
        have hj := List.mem_range.1 hj
        rw [hB j hj, hC j hj]
      have e2 : [i].map (fun j => Value.slice (some ⟨updF B i b j, 0, none⟩) m (updF C i c j)) = [Value.slice (some ⟨b, 0, none⟩) m c] := by
        unfold updF
        simp
      rw [e1, e2]
      exact h2
    · rcases h2.2 with ⟨_, h0⟩ | ⟨g', cap', _, e, _⟩
      · omega
      · exact ⟨g', cap', e⟩
    · by_cases e : j = i
      · subst e
        unfold updF
        rw [if_pos rfl, if_pos rfl]
        exact hkeep hr
      · unfold updF
        rw [if_neg e, if_neg e]
        exact hkeep (hM.row j (by omega))
    · unfold updF at e
      by_cases e1 : j = i <;> by_cases e2 : k = i
      · omega
      · rw [if_pos e1, if_neg e2] at e
        exact absurd e.symm (hnew k (by omega))
      · rw [if_neg e1, if_pos e2] at e
        exact absurd e (hnew j (by omega))
      · rw [if_neg e1, if_neg e2] at e
        exact hM.inj j k (by omega) (by omega) e
    · unfold updF
      split
      · exact hcap
      · exact hM.cap j (by omega)
    · unfold updF
      split
      · exact hbb
      · exact hM.bb j (by omega)
    · have hb0 : Below base wr (wr.alloc (.cells #[.slice (some ⟨b, 0, none⟩) m c] 41)) := ((Below.refl _ _).alloc (Nat.le_refl _) _).mono hbase
      refine hb0.grown h3 (by simp; omega) ?_
      intro k hk
      exact (hM.o.lt k hk).1
end Go.Proofs.Ytgckhekikcdaiaa

namespace Go.Proofs.Ytgckhekikcdaiaa
open Go.RowKit Tri

/-- The inverse as it is tried. -/
def rinv (a : Nat) : Nat := if a = 0 then 0 else ginv a
theorem rinv_lt (a : Nat) : rinv a < 256 := by unfold rinv; split <;> simp [ginv_lt]
theorem ginv_uniq (a b : Nat) (hb : b < 256) (h : gmul a b = 1) : b = rinv a := by
  by_cases e : a = 0
  · subst e; rw [zero_gmul] at h; omega
  · unfold rinv
    rw [if_neg e, ← gmul_one (ginv a) (ginv_lt a), ← h, ← gmul_assoc, gmul_comm (ginv a) a, gmul_ginv a e, one_gmul b hb]
set_option maxHeartbeats 400000 in
set_option maxRecDepth 100000 in
theorem ref_Inv (a : Nat) (ha : a < 256) (w : World) :
    Calls Try.prog 65 #[.int .i64 a] w fun e w' => e = .returned (.int .i64 (rinv a)) ∧ w = w' := by
  go_enter Try.func65, Try.ntmps65
  go_wp2
  go_loop [3] (fun i => ∃ k : Nat, k ≤ 256 ∧ i = .int .i64 k ∧ ∀ j, j < k → gmul a j ≠ 1) (fun i => 256 - (intOf i).toNat)
  case atStart => exact ⟨0, by omega, rfl, fun j hj => by omega⟩
  case round =>
    obtain ⟨k, hk, rfl, hno⟩ := hrel
    have HN := hid hno
    clear hno
    by_cases hlt : k < 256
    · go_wp2_with fail
      go_call ref_Mul a k ha hlt _ as e w' ⟨rfl, rfl⟩
      by_cases h1 : gmul a k = 1
      · have h1' : ((gmul a k : Int) == 1) = true := by simp; omega
        have he : Hid (k = rinv a) := ginv_uniq a k hlt h1
        clear h1
        go_wp2
        go_ret
        exact ⟨by rw [← he.out]; rfl, rfl⟩
      · have h1' : ((gmul a k : Int) == 1) = false := by simp; omega
        have H1 := hid h1
        clear h1
        go_wp2
        go_round
        case rel => exact ⟨k + 1, by omega, by go_num, fun j hj => by
          by_cases e : j = k
          · rw [e]; exact H1.out
          · exact HN.out j (by omega)⟩
        case measure => simp [intOf]; omega
    · have he : Hid (rinv a = 0) := by
        show rinv a = 0
        by_cases e : a = 0
        · rw [e]; rfl
        · exact absurd (gmul_ginv a e) (HN.out _ (by have := ginv_lt a; omega))
      go_wp2
      go_ret
      exact ⟨by rw [he.out]; rfl, rfl⟩
theorem gexp_one : gexp 1 = 2 := by decide +kernel
set_option maxHeartbeats 400000 in
set_option maxRecDepth 100000 in
theorem ref_Exp (n : Nat) (hn : n < 9223372036854775808) (w : World) :
    Calls Try.prog 64 #[.int .i64 n] w fun e w' => e = .returned (.int .i64 (gexp n)) ∧ w = w' := by
  have hm : Hid (gexp (n % 255) = gexp n) := gexp_mod n
  have hmod : Hid ((n : Int).tmod 255 = ((n % 255 : Nat) : Int)) := by show _ = _; rw [Int.tmod_eq_emod_of_nonneg (by omega)]; omega
  go_enter Try.func64, Try.ntmps64
  go_wp2
  go_loop [3, 4] (fun p i => ∃ k : Nat, k ≤ n % 255 ∧ i = .int .i64 k ∧ p = .int .i64 (gexp k)) (fun _ i => 255 - (intOf i).toNat)
  case atStart => exact ⟨0, by omega, rfl, rfl⟩
  case round =>
    obtain ⟨k, hk, rfl, rfl⟩ := hrel
    by_cases hlt : k < n % 255
    · have hg := gexp_lt k
      have hs : Hid (gmul (gexp k) 2 = gexp (k + 1)) := by show _ = _; rw [← gexp_one, gmul_gexp]
      have ht : (k : Int) < (n : Int) % 255 := by omega
      go_wp2_with fail
      refine (ref_Mul (gexp k) 2 hg (by omega) _).mono ?_
      rintro e w' ⟨rfl, rfl⟩
      go_wp2
      go_round
      case rel => exact ⟨k + 1, by omega, by go_num, by rw [hs.out]⟩
      case measure => simp [intOf]; omega
    · have ht : ¬ (k : Int) < (n : Int) % 255 := by omega
      have he : Hid (k = n % 255) := (show k = n % 255 by omega)
      go_wp2
      go_ret
      exact ⟨by rw [← hm.out, ← he.out]; rfl, rfl⟩
end Go.Proofs.Ytgckhekikcdaiaa

namespace Tri
theorem gexp_two (i : Nat) : gmul (gexp i) 2 = gexp (i + 1) := by
  have h : (2 : Nat) = gexp 1 := by decide +kernel
  conv => lhs; rw [h]
  exact gmul_gexp i 1
end Tri
namespace Go.Proofs.Ytgckhekikcdaiaa
open Go.RowKit Tri

set_option maxHeartbeats 2000000 in
set_option maxRecDepth 100000 in
theorem ref6_Values (p : Option Addr) (n c : Nat) (word : List Nat) (many : Nat) (w : World) (hn : n = word.length) (hp : cellsB w p word) (hb : bytesL word) (hl : word.length ≤ 1000) (hm : many ≤ 1000) :
    Calls Try.prog 63 #[.slice p n c, .int .i64 many] w (RetI w (synd word many)) := by
  subst hn
  have HP := hid hp
  have HB := hid hb
  clear hp hb
  obtain ⟨i0, hi, hz0, hz1, hz2⟩ := info_parts Try.infoI
  have HST : Hid (∀ j, j < many → (synd word many).take (j + 1) = (synd word many).take j ++ [peval (gexp j) word]) := fun j hj => synd_take word many j hj
  have HSl := hid (synd_length word many)
  generalize synd word many = S at *
  (go_enter Try.func63, Try.ntmps63; try simp only [List.append])
  go_wp2_with ((with_reducible refine wpList_unguard ?_ ?_); (focus rfl))
  refine Calls.mono (ref5_Of p _ c word w rfl HP.out HB.out (by omega)) ?_
  rintro e w1 ⟨p1, c1, rfl, hle1, hc1, hbel⟩
  have HW1 := hid hc1
  have HBel := hid hbel
  have HWB := hid (rof_bytes HB.out)
  have HRv : Hid (∀ x, reval (rof word) x = peval x word) := fun x => reval_rof x HB.out
  have hwl : (rof word).length ≤ 1000 := by rw [rof_length]; have := trim_length_le word; omega
  clear hc1 hbel
  generalize rof word = W at *
  have hown0 : Hid (ownsI (w1.alloc (.cells #[] 3)) w1.heap.size (.slice (some ⟨w1.heap.size, 0, none⟩) 0 0) []) := World.ownsRow_lit w1 #[] 0 (Nat.le_refl _) (by unfold maxLen; omega) rfl
  have hb1 : Below w1.heap.size w1 (w1.alloc (.cells #[] 3)) := (Below.refl _ _).alloc (Nat.le_refl _) _
  have hB1 := hid hb1
  clear hb1
  go_wp2_with ((with_reducible refine wpList_unguard ?_ ?_); (focus rfl))
  go_loopw [6, 7, 8] (fun s t i wr => ∃ j : Nat, j ≤ many ∧ i = .int .i64 j ∧ t = .int .i64 (gexp j : Nat) ∧ ownsI wr w1.heap.size s (S.take j) ∧ Below w1.heap.size w1 wr) (fun _ _ i _ => many - (intOf i).toNat)
  case atStart => exact ⟨0, Nat.zero_le _, rfl, rfl, hown0.out, hB1.out⟩
  case round =>
    obtain ⟨j, hj, rfl, rfl, hO, hK1⟩ := hrel
    have HO := hid hO
    have K1 := hid hK1
    clear hO hK1 hown0 hB1
    by_cases hlt : j < many
    · have HS := hid (HST.out j hlt)
      have hgl := gexp_lt j
      have hkl : (S.take j).length ≤ 1000000 := by rw [List.length_take, HSl.out]; omega
      have HG := hid (gexp_two j)
      generalize hs2 : S.take (j + 1) = S2 at *
      have HS2 := hid hs2
      clear hs2
      generalize S.take j = S1 at *
      generalize hg2 : gexp (j + 1) = x2 at *
      have HG2 := hid hg2
      clear hg2
      generalize gexp j = x at *
      go_wp2_with ((with_reducible refine wpList_unguard ?_ ?_); (focus rfl))
      refine Calls.mono (ref5_Eval p1 _ c1 W x wr rfl (HW1.out.below K1.out) HWB.out hgl (by omega)) ?_; rintro e w' ⟨rfl, rfl⟩
      rw [HRv.out]
      generalize peval x word = y at *
      go_wp2_with (at_builtin; refine wpList_push rfl _ _ 41 rfl w1.heap.size 3 i0 .i64 8 Try.underlying41 hi hz0 hz1 hz2 (by decide) _ S1 y HO.out rfl _ rfl rfl hkl K1.out.size ?_)
      intro v' w' hown' hbel
      have hO' : Hid (ownsI w' w1.heap.size v' S2) := by show ownsI _ _ _ _; rw [HS.out]; exact hown'
      have K1' := hid (K1.out.trans hbel)
      clear hown' hbel
      go_wp2_with ((with_reducible refine wpList_unguard ?_ ?_); (focus rfl))
      refine Calls.mono (ref_Mul x 2 hgl (by omega) _) ?_; rintro e w' ⟨rfl, rfl⟩
      rw [HG.out]
      go_wp2_with ((with_reducible refine wpList_unguard ?_ ?_); (focus rfl))
      go_roundw
      case rel => exact ⟨j + 1, by omega, by go_num, by rw [HG2.out], by rw [HS2.out]; exact hO'.out, K1'.out⟩
      case measure => simp [intOf]; omega
    · have hT : Hid (S.take j = S) := by show _ = _; exact List.take_of_length_le (by rw [HSl.out]; omega)
      rw [hT.out] at HO
      obtain ⟨p', c', rfl, hle, hcr⟩ := HO.out.cells
      have HC := hid hcr
      clear hcr
      go_wp2_with ((with_reducible refine wpList_unguard ?_ ?_); (focus rfl))
      go_ret
      exact ⟨p', c', rfl, hle, HC.out, HBel.out.trans (K1.out.mono HBel.out.size)⟩
end Go.Proofs.Ytgckhekikcdaiaa

namespace Go.Proofs.Ytgckhekikcdaiaa
open Go.RowKit

def Blk (w : World) (B : Nat) (t : TypeId) (vs : Array Value) : Prop := w.heap[B]? = some (.cells vs t)
theorem Blk.lt {w : World} {B : Nat} {t : TypeId} {vs : Array Value} (h : Blk w B t vs) : B < w.heap.size := (Array.getElem?_eq_some_iff.1 h).1
theorem Blk.below {w w' : World} {B : Nat} {t : TypeId} {vs : Array Value} (h : Blk w B t vs) (hb : Below w.heap.size w w') : Blk w' B t vs := by
  unfold Blk; rw [hb.block B h.lt]; exact h
theorem Blk.belowN {w w' : World} {B n : Nat} {t : TypeId} {vs : Array Value} (h : Blk w B t vs) (hb : Below n w w') (hn : B < n) : Blk w' B t vs := by
  unfold Blk; rw [hb.block B hn]; exact h
theorem Blk.new (w : World) (t : TypeId) (vs : Array Value) : Blk (w.alloc (.cells vs t)) w.heap.size t vs := heap_alloc_new w _
theorem Blk.cell {w : World} {B : Nat} {t : TypeId} {vs : Array Value} (h : Blk w B t vs) (i : Nat) (v : Value) (hv : vs[i]? = some v) : w.cell? ⟨B, i, none⟩ = some v := by
  unfold World.cell?
  rw [show w.heap[B]? = _ from h]
  simpa using hv
theorem Blk.free {w : World} {B : Nat} {t : TypeId} {vs : Array Value} (h : Blk w B t vs) (i : Nat) : w.frozen? ⟨B, i, none⟩ = false := by
  unfold World.frozen?
  simp only
  rw [show w.heap[B]? = _ from h]
  simp
theorem Blk.set {w : World} {B : Nat} {t : TypeId} {vs : Array Value} (h : Blk w B t vs) (i : Nat) (v : Value) : Blk (w.setCell ⟨B, i, none⟩ v) B t (vs.setIfInBounds i v) := heap_setCell_same w B i _ _ v h
theorem Blk.setOther {w : World} {B : Nat} {t : TypeId} {vs : Array Value} (h : Blk w B t vs) (p : Addr) (v : Value) (hp : B ≠ p.block) : Blk (w.setCell p v) B t vs := by
  unfold Blk; rw [heap_setCell_other w p B v hp]; exact h
theorem Blk.drew {w : World} {B : Nat} {t : TypeId} {vs : Array Value} (h : Blk w B t vs) : Blk w.drew B t vs := h
end Go.Proofs.Ytgckhekikcdaiaa

namespace Go.Proofs.Ytgckhekikcdaiaa
open Go.RowKit Tri

/-- A solver. -/
def solC (f : Nat) (n p : Nat) (s era loc : Value) : Array Value := #[.pointer (some ⟨f, 0, none⟩), .int .i64 n, .int .i64 p, s, era, loc]
def isS (w : World) (V f n p : Nat) (s era loc : Value) : Prop := Blk w V 114 (solC f n p s era loc)
theorem isF.blw {w w' : World} {b : Nat} (h : isF w b) (hb : Below w.heap.size w w') : isF w' b := by
  have hl : b < w.heap.size := (Array.getElem?_eq_some_iff.1 h).1
  exact (hb.block b hl).trans h
theorem isS.below {w w' : World} {V f n p : Nat} {s era loc : Value} (h : isS w V f n p s era loc) (hb : Below w.heap.size w w') : isS w' V f n p s era loc := Blk.below h hb
theorem cell1_keep {w w' : World} {a : Addr} {v : Value} (h : w.cell? a = some v) (hb : Below w.heap.size w w') : w'.cell? a = some v := (hb.cell (p := a) (block_lt_of_cell h)).trans h
set_option maxHeartbeats 1000000 in
theorem sol_at (p : Option Addr) (n c : Nat) (a : List Nat) (i : Int) (w : World) (hn : n = a.length) (hp : cellsB w p a) (hl : a.length ≤ 1000000) :
    Calls Try.prog 105 #[.slice p n c, .int .i64 i] w fun e w' => e = .returned (.int .u8 (coZ a i : Nat)) ∧ w = w' := by
  subst hn
  have HP := hid hp
  clear hp
  by_cases h0 : i < 0
  · have q : decide (i < 0) = true := decide_eq_true h0
    have he : Hid (coZ a i = 0) := by show _ = _; unfold coZ; rw [if_neg (by omega)]
    (go_enter Try.func105, Try.ntmps105; try simp only [List.append])
    go_wp2_with ((with_reducible refine wpList_unguard ?_ ?_); (focus rfl))
    go_ret
    exact ⟨by rw [he.out]; rfl, rfl⟩
  · have q : decide (i < 0) = false := decide_eq_false h0
    by_cases h1 : (a.length : Int) ≤ i
    · have q1 : decide ((a.length : Int) ≤ i) = true := decide_eq_true h1
      have he : Hid (coZ a i = 0) := by show _ = _; unfold coZ; rw [if_neg (by omega)]
      (go_enter Try.func105, Try.ntmps105; try simp only [List.append])
      go_wp2_with ((with_reducible refine wpList_unguard ?_ ?_); (focus rfl))
      go_ret
      exact ⟨by rw [he.out]; rfl, rfl⟩
    · have q1 : decide ((a.length : Int) ≤ i) = false := decide_eq_false h1
      obtain ⟨j, rfl⟩ : ∃ j : Nat, i = j := ⟨i.toNat, by omega⟩
      have hj : j < a.length := by omega
      have he : Hid (coZ a (j : Int) = a.getD j 0) := coZ_nat a j
      obtain ⟨b, o, rfl, hc⟩ := HP.out j hj
      generalize a.getD j 0 = x at *
      (go_enter Try.func105, Try.ntmps105; try simp only [List.append])
      go_wp2_with ((with_reducible refine wpList_unguard ?_ ?_); (focus rfl))
      go_ret
      exact ⟨by rw [he.out]; rfl, rfl⟩
set_option maxHeartbeats 4000000 in
set_option maxRecDepth 100000 in
theorem sol_place (V f n p : Nat) (s era loc : Value) (i : Nat) (w : World) (hS : isS w V f n p s era loc) (hF : isF w f) (hn : n ≤ 255) (hi : i ≤ 1000000) :
    Calls Try.prog 99 #[.pointer (some ⟨V, 0, none⟩), .int .i64 i] w fun e w' => e = .returned (.int .u8 (plc n i : Nat)) ∧ Below w.heap.size w w' := by
  have c0 : w.cell? ⟨V, 0, none⟩ = some (.pointer (some ⟨f, 0, none⟩)) := hS.cell 0 _ rfl
  have c1 : w.cell? ⟨V, 1, none⟩ = some (.int .i64 n) := hS.cell 1 _ rfl
  have HF := hid hF
  clear hS hF
  have hE : ∀ (w : World) (x : Int), x = (n : Int) - 1 - i → isF w f → Hid (Calls Try.prog 34 #[.pointer (some ⟨f, 0, none⟩), .int .i64 x] w fun e w' => e = .returned (.int .u8 (gexpZ ((n : Int) - 1 - i) : Nat)) ∧ w = w') := by
    rintro w x rfl h
    exact gf_Exp f ((n : Int) - 1 - i) w h
  have hw : IntKind.i64.wrap (IntKind.i64.wrap ((n : Int) - 1) - i) = (n : Int) - 1 - i := by rw [IntKind.wrap_i64, IntKind.wrap_i64]; omega
  have hP : Hid (gexpZ ((n : Int) - 1 - i) = plc n i) := rfl
  (go_enter Try.func99, Try.ntmps99; try simp only [List.append])
  go_upto_region 1 with fail
  go_region_held3 (fun u => u.cell? ⟨V, 0, none⟩ = some (.pointer (some ⟨f, 0, none⟩)) ∧ u.cell? ⟨V, 1, none⟩ = some (.int .i64 n)) (first | assumption | go_keep) (first | (go_at_call 34; refine Calls.mono (hE _ _ (by first | omega | exact hw | (simp only [IntKind.wrap_i64]; omega)) HF.out.drew).out ?_; rintro e w2 ⟨rfl, rfl⟩))
  all_goals (go_wp2_with ((with_reducible refine wpList_unguard ?_ ?_); (focus rfl)))
  go_ret
  exact ⟨by rw [hP.out]; rfl, (Below.refl _ _).drew⟩
/-- For a region's condition: what lay below is there, and these cells. -/
theorem kk1 {w0 u : World} {a0 : Addr} {v0 : Value} (c0 : w0.cell? a0 = some v0) (h : Below w0.heap.size w0 u) : Below w0.heap.size w0 u ∧ u.cell? a0 = some v0 := ⟨h, cell1_keep c0 h⟩
theorem kk2 {w0 u : World} {a0 a1 : Addr} {v0 v1 : Value} (c0 : w0.cell? a0 = some v0) (c1 : w0.cell? a1 = some v1) (h : Below w0.heap.size w0 u) : Below w0.heap.size w0 u ∧ u.cell? a0 = some v0 ∧ u.cell? a1 = some v1 := ⟨h, cell1_keep c0 h, cell1_keep c1 h⟩
theorem kk3 {w0 u : World} {a0 a1 a2 : Addr} {v0 v1 v2 : Value} (c0 : w0.cell? a0 = some v0) (c1 : w0.cell? a1 = some v1) (c2 : w0.cell? a2 = some v2) (h : Below w0.heap.size w0 u) : Below w0.heap.size w0 u ∧ u.cell? a0 = some v0 ∧ u.cell? a1 = some v1 ∧ u.cell? a2 = some v2 := ⟨h, cell1_keep c0 h, cell1_keep c1 h, cell1_keep c2 h⟩
theorem kk4 {w0 u : World} {a0 a1 a2 a3 : Addr} {v0 v1 v2 v3 : Value} (c0 : w0.cell? a0 = some v0) (c1 : w0.cell? a1 = some v1) (c2 : w0.cell? a2 = some v2) (c3 : w0.cell? a3 = some v3) (h : Below w0.heap.size w0 u) : u.cell? a0 = some v0 ∧ u.cell? a1 = some v1 ∧ u.cell? a2 = some v2 ∧ u.cell? a3 = some v3 := ⟨cell1_keep c0 h, cell1_keep c1 h, cell1_keep c2 h, cell1_keep c3 h⟩
theorem kA {w0 u : World} {p : Prop} {o : Obj} (h : Below w0.heap.size w0 u ∧ p) : Below w0.heap.size w0 (u.alloc o) := h.1.alloc h.1.size o
theorem kS {w0 u : World} {p : Prop} {a : Addr} {v : Value} (ha : w0.heap.size ≤ a.block) (h : Below w0.heap.size w0 u ∧ p) : Below w0.heap.size w0 (u.setCell a v) := h.1.setCell ha v
theorem kC {w0 u u' : World} {p : Prop} (hb : Below u.heap.size u u') (h : Below w0.heap.size w0 u ∧ p) : Below w0.heap.size w0 u' := h.1.trans (hb.mono h.1.size)
theorem gf_Mul2S (w0 : World) (b s x y : Nat) (vx vy : Int) (w : World) (p : Prop) (hF : isF w0 b) (hK : Below w0.heap.size w0 w ∧ p) (hs : s = w.heap.size) (ex : vx = (x : Nat)) (ey : vy = (y : Nat)) (hx : x < 256) (hy : y < 256) (t : TypeId) :
    Calls Try.prog 52 #[.pointer (some ⟨b, 0, none⟩), .slice (some ⟨s, 0, none⟩) 2 2] (w.alloc (.cells #[.int .u8 vx, .int .u8 vy] t))
      fun e w' => e = .returned (.int .u8 (gmul x y : Nat)) ∧ w.alloc (.cells #[.int .u8 vx, .int .u8 vy] t) = w' := gf_Mul2 b s x y vx vy w (hF.blw hK.1) hs ex ey hx hy t
set_option maxHeartbeats 8000000 in
set_option maxRecDepth 100000 in
theorem sol_plus (V f n0 p0 : Nat) (sv era loc : Value) (p q : Option Addr) (n c m d : Nat) (a b : List Nat) (y : Nat) (w : World) (hS : isS w V f n0 p0 sv era loc) (hF : isF w f) (hn : n = a.length) (hp : cellsB w p a) (ha : bytesL a) (hla : a.length ≤ 10000) (hm : m = b.length) (hq : cellsB w q b) (hb : bytesL b) (hlb : b.length ≤ 10000) (hy : y < 256) :
    Calls Try.prog 80 #[.pointer (some ⟨V, 0, none⟩), .slice p n c, .slice q m d, .int .u8 y] w (RetC w (plusL a b y)) := by
  subst hn hm
  have c0 : w.cell? ⟨V, 0, none⟩ = some (.pointer (some ⟨f, 0, none⟩)) := hS.cell 0 _ rfl
  have HF := hid hF
  have HP := hid hp
  have HQ := hid hq
  have HA := hid ha
  have HBy := hid hb
  clear hS hF hp hq ha hb
  obtain ⟨N, hN⟩ : ∃ N, max a.length (b.length + 1) = N := ⟨_, rfl⟩
  have hNi : max (a.length : Int) ((b.length : Int) + 1) = (N : Int) := by omega
  have hN1 : N ≤ 10001 := by omega
  have HL : Hid (plusL a b y = (List.range N).map (plusF a b y)) := by show _ = _; unfold plusL; rw [hN]
  (go_enter Try.func80, Try.ntmps80; try simp only [List.append])
  go_upto_region 1 with fail
  go_cut [9] from 11 to 17 (fun v u => v = .slice (some ⟨w.heap.size, 0, none⟩) N N ∧ u = w.alloc (.cells (madeCells #[.int .u8 0] N) 5))
  case first =>
    by_cases h : (a.length : Int) < (b.length : Int) + 1
    · have hmk := run_make_row' (P := Try.prog) 22 5 (.int .u8 0) 1 Try.underlying22 Try.infoB rfl .i64 .i64 (b.length + 1) (by omega) (by omega)
      rw [show ((b.length + 1 : Nat) : Int) = (b.length : Int) + 1 from by omega] at hmk
      have hx : max (a.length : Int) ((b.length : Int) + 1) = (b.length : Int) + 1 := by omega
      have e : N = b.length + 1 := by omega
      clear hNi
      go_wp2_with ((with_reducible refine wpList_unguard ?_ ?_); (focus rfl))
      go_meet
      subst e
      exact ⟨rfl, rfl⟩
    · have hmk := run_make_row' (P := Try.prog) 22 5 (.int .u8 0) 1 Try.underlying22 Try.infoB rfl .i64 .i64 a.length (by omega) (by omega)
      have hx : max (a.length : Int) ((b.length : Int) + 1) = (a.length : Int) := by omega
      have e : N = a.length := by omega
      clear hNi
      go_wp2_with ((with_reducible refine wpList_unguard ?_ ?_); (focus rfl))
      go_meet
      subst e
      exact ⟨rfl, rfl⟩
  case rest =>
    obtain ⟨rfl, rfl⟩ := hcut
    have hbuf := bufB.made w N 5
    have hb0 : Below w.heap.size w (w.alloc (.cells (madeCells #[.int .u8 0] N) 5)) := (Below.refl _ _).alloc (Nat.le_refl _) _
    have hob : w.heap.size ≤ w.heap.size := Nat.le_refl _
    obtain ⟨ob, hoe⟩ : ∃ ob, w.heap.size = ob := ⟨_, rfl⟩
    have HOE := hid hoe
    have HOB : Hid (w.heap.size ≤ ob) := Nat.le_of_eq hoe
    rw [hoe] at hbuf ⊢
    generalize w.alloc (.cells (madeCells #[.int .u8 0] N) 5) = w1 at *
    have HBF := hid hbuf
    have HB := hid hb0
    clear hbuf hb0 hob hoe hNi hN
    go_wp2_with ((with_reducible refine wpList_unguard ?_ ?_); (focus rfl))
    go_loopw [20] (fun v wr => ∃ k : Nat, k ≤ N ∧ v = .int .i64 k ∧ bufB wr ob (fillF (plusF a b y) N k) ∧ Below w.heap.size w wr) (fun v _ => N - (intOf v).toNat)
    case atStart => exact ⟨0, Nat.zero_le _, rfl, by rw [fillF_zero]; exact HBF.out, HB.out⟩
    case round =>
      clear HBF HB
      obtain ⟨k, hk, rfl, hbuf, hB⟩ := hrel
      have HB := hid hB
      have HBF := hid hbuf
      clear hB hbuf
      by_cases hlt : k < N
      · have hbc := HBF.out.at k (by rw [fillF_len _ (by omega)]; exact hlt)
        rw [fillF_at _ hlt] at hbc
        have hbf := HBF.out.2 k (by rw [fillF_len _ (by omega)]; exact hlt)
        have hx1 : coZ a (k : Int) < 256 := coZ_lt HA.out _
        have hx2 : coZ b ((k : Int) - 1) < 256 := coZ_lt HBy.out _
        have hx3 : gmul y (coZ b ((k : Int) - 1)) < 256 := gmul_lt _ _
        have hAt1 := sol_at p a.length c a (k : Int) wr.drew rfl (HP.out.below HB.out.drew) (by omega)
        have hAt2 : ∀ (x : Int), x = (k : Int) - 1 → Calls Try.prog 105 #[.slice q b.length d, .int .i64 x] wr.drew fun e w' => e = .returned (.int .u8 (coZ b ((k : Int) - 1) : Nat)) ∧ wr.drew = w' := by
          rintro x rfl
          exact sol_at q _ d b _ wr.drew rfl (HQ.out.below HB.out.drew) (by omega)
        have hFd := hid (HF.out.blw HB.out.drew)
        have hVw : V < w.heap.size := block_lt_of_cell c0
        have hVob : V ≠ ob := by have := HOB.out; omega
        clear hVw
        obtain ⟨y2, hy2⟩ : ∃ y2, coZ b ((k : Int) - 1) = y2 := ⟨_, rfl⟩
        obtain ⟨y1, hy1⟩ : ∃ y1, coZ a (k : Int) = y1 := ⟨_, rfl⟩
        obtain ⟨y3, hy3⟩ : ∃ y3, gmul y (coZ b ((k : Int) - 1)) = y3 := ⟨_, rfl⟩
        have HF3 : Hid (plusF a b y k = y1 ^^^ y3) := by show _ = _; unfold plusF; rw [hy1, hy3]
        have hMul : ∀ s, s = wr.heap.size → Calls Try.prog 52 #[.pointer (some ⟨f, 0, none⟩), .slice (some ⟨s, 0, none⟩) 2 2] (wr.alloc (.cells #[.int .u8 (y : Nat), .int .u8 (y2 : Nat)] 5)).drew fun e w' => e = .returned (.int .u8 (y3 : Nat)) ∧ (wr.alloc (.cells #[.int .u8 (y : Nat), .int .u8 (y2 : Nat)] 5)).drew = w' := by
          rintro s rfl
          rw [← hy3, hy2]
          exact gf_Mul2 f _ y y2 _ _ wr.drew hFd.out rfl rfl rfl hy (hy2 ▸ hx2) _
        have hAdd : ∀ s, s = wr.heap.size + 1 → Calls Try.prog 51 #[.pointer (some ⟨f, 0, none⟩), .slice (some ⟨s, 0, none⟩) 2 2] ((wr.alloc (.cells #[.int .u8 (y : Nat), .int .u8 (y2 : Nat)] 5)).alloc (.cells #[.int .u8 (y1 : Nat), .int .u8 (y3 : Nat)] 5)).drew fun e w' => e = .returned (.int .u8 (y1 ^^^ y3 : Nat)) ∧ ((wr.alloc (.cells #[.int .u8 (y : Nat), .int .u8 (y2 : Nat)] 5)).alloc (.cells #[.int .u8 (y1 : Nat), .int .u8 (y3 : Nat)] 5)).drew = w' := by
          rintro s rfl
          exact gf_Add2 f _ y1 y3 _ _ (wr.alloc (.cells #[.int .u8 (y : Nat), .int .u8 (y2 : Nat)] 5)).drew (by simp) rfl rfl (hy1 ▸ hx1) (hy3 ▸ hx3) _
        have kb2 := fun o => cell1_keep c0 (HB.out.alloc HB.out.size o).drew
        have kb3 := fun o o2 => cell1_keep c0 ((HB.out.alloc HB.out.size o).alloc (HB.out.alloc HB.out.size o).size o2).drew
        have hsc : (((wr.alloc (.cells #[.int .u8 (y : Nat), .int .u8 (y2 : Nat)] 5)).alloc (.cells #[.int .u8 (y1 : Nat), .int .u8 (y3 : Nat)] 5)).drew).cell? ⟨ob, k, none⟩ = some (.int .u8 0) := cell1_keep hbc (((Below.refl wr.heap.size wr).alloc (Nat.le_refl _) _).alloc (by simp) _).drew
        have hsf : (((wr.alloc (.cells #[.int .u8 (y : Nat), .int .u8 (y2 : Nat)] 5)).alloc (.cells #[.int .u8 (y1 : Nat), .int .u8 (y3 : Nat)] 5)).drew).frozen? ⟨ob, k, none⟩ = false := by
          show ((wr.alloc _).alloc _).frozen? _ = false
          rw [frozen?_alloc_cells, frozen?_alloc_cells]; exact hbf
        clear hbc hbf
        have kb4 := fun o o2 v => cell1_keep c0 (((HB.out.alloc HB.out.size o).alloc (HB.out.alloc HB.out.size o).size o2).setCell (p := ⟨ob, k, none⟩) HOB.out v).drew
        have hst := hid (((HBF.out.alloc #[.int .u8 (y : Nat), .int .u8 (y2 : Nat)] 5).alloc #[.int .u8 (y1 : Nat), .int .u8 (y3 : Nat)] 5).set k (y1 ^^^ y3) (by rw [fillF_len _ (by omega)]; exact hlt)).drew
        rw [← HF3.out, fillF_set _ hlt] at hst
        have hBl := hid ((((HB.out.alloc HB.out.size (.cells #[.int .u8 (y : Nat), .int .u8 (y2 : Nat)] 5)).alloc (HB.out.alloc HB.out.size (.cells #[.int .u8 (y : Nat), .int .u8 (y2 : Nat)] 5)).size (.cells #[.int .u8 (y1 : Nat), .int .u8 (y3 : Nat)] 5)).setCell (p := ⟨ob, k, none⟩) HOB.out (.int .u8 (plusF a b y k : Nat))).drew)
        rw [HF3.out] at hst hBl
        rw [hy1] at hAt1
        rw [hy2] at hAt2
        clear hx1 hx2 hx3 hy1 hy2 hy3
        have hw1 : IntKind.i64.wrap ((k : Int) - 1) = (k : Int) - 1 := by rw [IntKind.wrap_i64]; omega
        go_upto_region 5 with fail
        go_region_held3 (fun u => u.cell? ⟨V, 0, none⟩ = some (.pointer (some ⟨f, 0, none⟩))) (first | with_reducible exact cell1_keep c0 HB.out.drew | with_reducible exact kb2 _ | with_reducible exact kb3 _ _ | with_reducible exact kb4 _ _ _ | go_keep) (first | (go_at_call 105; with_reducible refine Calls.mono hAt1 ?_; rintro e w2 ⟨rfl, rfl⟩) | (go_at_call 105; with_reducible refine Calls.mono (hAt2 _ (by first | with_reducible rfl | with_reducible exact hw1)) ?_; rintro e w2 ⟨rfl, rfl⟩) | (go_at_call 52; refine Calls.mono (hMul _ (by first | rfl | simp)) ?_; rintro e w2 ⟨rfl, rfl⟩) | (go_at_call 51; refine Calls.mono (hAdd _ (by first | rfl | simp)) ?_; rintro e w2 ⟨rfl, rfl⟩))
        go_wp2
        go_roundw
        case rel => exact ⟨k + 1, by omega, by go_num, hst.out, hBl.out⟩
        case measure => simp [intOf]; omega
      · obtain rfl : k = N := by omega
        rw [fillF_full] at HBF
        have hl : Hid ((plusL a b y).length = k) := by show _ = _; rw [HL.out]; simp
        rw [← HL.out] at HBF
        go_wp2_with ((with_reducible refine wpList_unguard ?_ ?_); (focus rfl))
        go_ret
        exact ⟨some ⟨ob, 0, none⟩, k, by rw [hl.out]; rfl, by rw [hl.out]; exact Nat.le_refl _, HBF.out.1, HB.out⟩
end Go.Proofs.Ytgckhekikcdaiaa
