/-
  Quotient and rest in plain Lean: what is divided is the quotient times the divisor, and the rest, whose degree is less. No program in sight.
-/
import Derived.Test.YtlipedigmokgbaaDiv
import Derived.Test.YtlipedigmokgbaaPolyW
namespace Tri
theorem divTo_succ (B Q A : List Nat) (k : Nat) : divTo B Q A (k + 1) = ((divTo B Q A k).1.set k (divC B (divTo B Q A k).2 k), rowTo (divTo B Q A k).2 k (divC B (divTo B Q A k).2 k) B B.length) := rfl
theorem getD_set_ne (l : List Nat) (i j v : Nat) (h : i ≠ j) : (l.set j v).getD i 0 = l.getD i 0 := by
  rw [List.getD_eq_getElem?_getD, List.getElem?_set_ne (fun e => h e.symm), ← List.getD_eq_getElem?_getD]
theorem getD_set_eq (l : List Nat) (i v : Nat) (h : i < l.length) : (l.set i v).getD i 0 = v := by
  rw [List.getD_eq_getElem?_getD, List.getElem?_set_self h]; rfl
theorem divTo_rest (B Q A : List Nat) (hq : Q.length + B.length = A.length + 1) : ∀ k, k ≤ Q.length → ∀ j, (divTo B Q A k).2.getD j 0 = A.getD j 0 ^^^ XS (cvt (fun i => (divTo B Q A k).1.getD i 0) (fun i => B.getD i 0) j) k := by
  intro k
  induction k with
  | zero => intro _ j; exact (Nat.xor_zero _).symm
  | succ k ih =>
    intro hk j
    obtain ⟨h1, h2⟩ := divTo_length B Q A k
    rw [divTo_succ]
    show (rowTo _ k _ B B.length).getD j 0 = _
    rw [getD_rowTo _ _ _ _ _ (by rw [h2]; omega), ih (by omega), XS, Nat.xor_assoc]
    have e1 : XS (cvt (fun i => (divTo B Q A k).1.getD i 0) (fun i => B.getD i 0) j) k = XS (cvt (fun i => ((divTo B Q A k).1.set k (divC B (divTo B Q A k).2 k)).getD i 0) (fun i => B.getD i 0) j) k :=
      XS_congr k fun i hi => by unfold cvt; simp only []; rw [getD_set_ne _ _ _ _ (by omega)]
    rw [e1]
    congr 2
    unfold cvt
    simp only []
    rw [getD_set_eq _ _ _ (by rw [h1]; omega)]
    by_cases h : k ≤ j
    · rw [if_pos h]
      by_cases h2 : j < k + B.length
      · rw [if_pos ⟨h, h2⟩]
      · rw [if_neg (by omega), getD_ge B (j - k) (by omega), gmul_zero]
    · rw [if_neg (by omega), if_neg h]
theorem gmul_div_cancel (r b : Nat) (hr : r < 256) (hb : b ≠ 0) : gmul (gmul r (ginv b)) b = r := by
  rw [gmul_assoc, gmul_comm (ginv b), gmul_ginv b hb, gmul_one r hr]
theorem divTo_zero (B Q A : List Nat) (hq : Q.length + B.length = A.length + 1) (hB : B.getD 0 0 ≠ 0) (hQb : bytesL Q) (hA : bytesL A) : ∀ k, k ≤ Q.length → ∀ j, j < k → (divTo B Q A k).2.getD j 0 = 0 := by
  have hB0 : 0 < B.length := by cases B with | nil => exact absurd rfl hB | cons => simp
  intro k
  induction k with
  | zero => intro _ j hj; omega
  | succ k ih =>
    intro hk j hj
    obtain ⟨h1, h2⟩ := divTo_length B Q A k
    rw [divTo_succ]
    show (rowTo _ k _ B B.length).getD j 0 = _
    rw [getD_rowTo _ _ _ _ _ (by rw [h2]; omega)]
    by_cases e : j = k
    · subst e
      rw [if_pos ⟨Nat.le_refl _, by omega⟩, Nat.sub_self]
      unfold divC
      rw [gmul_div_cancel _ _ (bytesL_getD (divTo_bytes hQb hA j).2 j) hB, Nat.xor_self]
    · rw [if_neg (by omega), Nat.xor_zero]
      exact ih (by omega) j (by omega)
theorem divTo_head (B Q A : List Nat) (hQ : 0 < Q.length) : ∀ k, (divTo B Q A (k + 1)).1.getD 0 0 = gmul (A.getD 0 0) (ginv (B.getD 0 0)) := by
  intro k
  induction k with
  | zero =>
    rw [divTo_succ]
    show (Q.set 0 _).getD 0 0 = _
    rw [getD_set_eq _ _ _ hQ]; rfl
  | succ k ih =>
    rw [divTo_succ]
    show (List.set _ (k + 1) _).getD 0 0 = _
    rw [getD_set_ne _ _ _ _ (by omega), ih]
theorem trim_short (R : List Nat) : ∀ n, n ≤ R.length → (∀ j, j < n → R.getD j 0 = 0) → (trim R).length ≤ R.length - n := by
  induction R with
  | nil => intro n _ _; exact Nat.zero_le _
  | cons a l ih =>
    intro n hn h
    cases n with
    | zero => exact trim_length_le _
    | succ n =>
      have h0 : a = 0 := h 0 (by omega)
      subst h0
      show (trim l).length ≤ _
      have := ih n (by simpa using hn) (fun j hj => h (j + 1) (by omega))
      simp only [List.length_cons]
      omega
/-- All that is wanted of a division. -/
structure IsDiv (a b q r : List Nat) : Prop where
  back : ∀ i, co a i = XS (cvt (co q) (co b) i) q.length ^^^ co r i
  qt : trim q = q
  rt : trim r = r
  deg : r.length < (trim b).length
  qb : bytesL q
  rb : bytesL r
  ql : q.length ≤ a.length
theorem pdivmod_is {a b : List Nat} (ha : bytesL a) (hb : bytesL b) (h0 : trim b ≠ []) : IsDiv a b (pdivmod a b).1 (pdivmod a b).2 := by
  have hcb : ∀ i n (q : List Nat), XS (cvt (co q) (co b) i) n = XS (cvt (co q) (co (trim b)) i) n := fun i n q => XS_congr n fun j _ => by unfold cvt; rw [co_trim]
  have hla := trim_length_le a
  unfold pdivmod divAB
  have hB := trim_head b h0
  have hbB := trim_bytes hb
  have hbA := trim_bytes ha
  have hBl : 0 < (trim b).length := List.length_pos_iff.2 h0
  by_cases hs : (trim a).length < (trim b).length
  · rw [if_pos hs]
    refine ⟨fun i => ?_, rfl, trim_trim a, hs, fun x hx => by simp at hx, hbA, Nat.zero_le _⟩
    show _ = 0 ^^^ co (trim a) i
    rw [Nat.zero_xor, co_trim]
  · rw [if_neg hs]
    simp only []
    have hAh : (trim a).getD 0 0 ≠ 0 := trim_head a (fun e => by rw [e] at hs; simp only [List.length_nil] at hs; omega)
    obtain ⟨N, hN⟩ : ∃ N, (trim a).length - (trim b).length = N := ⟨_, rfl⟩
    have hNl : (N + 1) + (trim b).length = (trim a).length + 1 := by omega
    rw [hN]
    have hAco : ∀ i, co a i = co (trim a) i := fun i => (co_trim a i).symm
    generalize trim a = A at *
    generalize hBe : trim b = B at *
    have hQ0 : (List.replicate (N + 1) 0).length = N + 1 := List.length_replicate
    have hz := bytesL.zeros (N + 1)
    generalize List.replicate (N + 1) 0 = Q0 at *
    obtain ⟨h1, h2⟩ := divTo_length B Q0 A (N + 1)
    have hrest := divTo_rest B Q0 A (by rw [hQ0]; exact hNl) (N + 1) (by omega)
    have hzero := divTo_zero B Q0 A (by rw [hQ0]; exact hNl) hB hz hbA (N + 1) (by omega)
    have hhead := divTo_head B Q0 A (by omega) N
    obtain ⟨hb1, hb2⟩ := divTo_bytes (B := B) hz hbA (N + 1)
    generalize (divTo B Q0 A (N + 1)).1 = Q at *
    generalize (divTo B Q0 A (N + 1)).2 = R at *
    rw [hQ0] at h1
    have hqt : trim Q = Q := trim_nz Q (by rw [hhead]; exact gmul_ne hAh (ginv_ne _))
    have hsh := trim_short R (N + 1) (by omega) hzero
    refine ⟨fun i => ?_, hqt, trim_trim R, by rw [hBe]; omega, hb1, trim_bytes hb2, by omega⟩
    rw [hcb, co_trim, hAco]
    by_cases hi : i < A.length
    · have h3 := hrest (A.length - 1 - i)
      rw [← h1] at h3
      have h4 := conv_rev Q B i (by omega) (by omega)
      rw [show Q.length + B.length - 1 - 1 - i = A.length - 1 - i from by omega] at h4
      rw [h4] at h3
      rw [co_getD A i hi, co_getD R i (by omega), h2, h3, Nat.xor_comm, Nat.xor_assoc, Nat.xor_self, Nat.xor_zero]
    · rw [co_ge A i (by omega), co_ge R i (by omega), XS_zero]
      · rfl
      intro j hj
      unfold cvt
      split
      · rw [co_ge B _ (by omega), gmul_zero]
      · rfl
end Tri
