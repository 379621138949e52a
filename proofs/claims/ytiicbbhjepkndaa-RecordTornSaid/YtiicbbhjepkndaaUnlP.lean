/-
  Plain: unlike records have unlike pages; a page in which one byte is turned is none's.
-/
import Derived.Test.YtiicbbhjepkndaaRec3
namespace Go.Proofs.Ytiicbbhjepkndaa
open Go.RowKit Tri

theorem one_turn : ∀ i, i < 12 → ∀ t, t < 256 → t ≠ 0 → csts (8 * (12 - i)) t ≠ 1 := by decide +kernel
theorem creg_zeros (n : Nat) (r : Nat) (hr : r < 2 ^ 32) : creg r (List.replicate n 0) = csts (8 * n) r := by
  induction n generalizing r with
  | zero => rfl
  | succ n ih =>
    have h1 : cbyte r 0 = csts 8 r := by rw [cbyte_eq r 0 (by omega), Nat.xor_zero]
    show creg (cbyte r 0) (List.replicate n 0) = _
    rw [h1, ih _ (csts_lt 8 r hr), ← csts_add]
    congr 1
    omega
theorem creg_err (i t : Nat) (hi : i < 12) (ht : t < 256) : creg 0 (List.replicate i 0 ++ t :: List.replicate (11 - i) 0) = csts (8 * (12 - i)) t := by
  rw [creg_append, creg_zeros i 0 (by omega)]
  have h0 : ∀ n, csts n 0 = 0 := by
    intro n
    induction n with
    | zero => rfl
    | succ n ih => show csts n (cst 0) = 0; exact ih
  rw [h0]
  show creg (cbyte 0 t) (List.replicate (11 - i) 0) = _
  rw [cbyte_eq 0 t ht, Nat.zero_xor, creg_zeros _ _ (csts_lt 8 t (by omega)), ← csts_add]
  congr 1
  omega
/-- One byte turned. -/
def turn1 (l : List Nat) (i t : Nat) : List Nat := l.set i (l.getD i 0 ^^^ t)
theorem turn1_zip (l : List Nat) (i t : Nat) (hl : l.length = 12) (hi : i < 12) : turn1 l i t = List.zipWith (· ^^^ ·) l (List.replicate i 0 ++ t :: List.replicate (11 - i) 0) := by
  apply List.ext_getElem
  · unfold turn1; simp; omega
  · intro j h1 h2
    have hj : j < 12 := by unfold turn1 at h1; simp at h1; omega
    simp only [turn1, List.getElem_set, List.getElem_zipWith]
    by_cases h : i = j
    · subst h
      simp [hi, hl]
    · rw [if_neg h]
      rcases Nat.lt_or_ge j i with h3 | h3
      · rw [List.getElem_append_left (by simpa using h3)]; simp
      · rw [List.getElem_append_right (by simpa using h3)]
        rw [List.getElem_cons]
        simp only [List.length_replicate]
        rw [dif_neg (by omega)]
        simp
theorem csum_turn1 (l : List Nat) (i t : Nat) (hb : ∀ y ∈ l, y < 256) (hl : l.length = 12) (hi : i < 12) (ht : t < 256) (h0 : t ≠ 0) : csum l ^^^ csum (turn1 l i t) ≠ 0 ∧ csum l ^^^ csum (turn1 l i t) ≠ 1 := by
  have he : ∀ y ∈ (List.replicate i 0 ++ t :: List.replicate (11 - i) 0), y < 256 := by
    intro y hy
    simp only [List.mem_append, List.mem_cons, List.mem_replicate] at hy
    omega
  have hz := creg_zip l (List.replicate i 0 ++ t :: List.replicate (11 - i) 0) hb he (by simp; omega) 4294967295 0
  rw [← turn1_zip l i t hl hi, Nat.xor_zero, creg_err i t hi ht] at hz
  have hm : ∀ y ∈ turn1 l i t, y < 256 := by
    intro y hy
    unfold turn1 at hy
    rcases List.mem_or_eq_of_mem_set hy with h | h
    · exact hb y h
    · subst h
      refine Nat.xor_lt_two_pow (n := 8) ?_ ht
      rw [List.getD_eq_getElem?_getD, List.getElem?_eq_getElem (by omega)]
      exact hb _ (List.getElem_mem _)
  have e1 : csum l = 4294967295 ^^^ creg 4294967295 l := by unfold csum; rw [not_xor _ (creg_lt l hb _ (by omega))]
  have e2 : csum (turn1 l i t) = 4294967295 ^^^ creg 4294967295 (turn1 l i t) := by unfold csum; rw [not_xor _ (creg_lt _ hm _ (by omega))]
  have e3 : csum l ^^^ csum (turn1 l i t) = csts (8 * (12 - i)) t := by
    rw [e1, e2, hz]
    apply Nat.eq_of_testBit_eq
    intro j
    simp only [Nat.testBit_xor]
    cases Nat.testBit 4294967295 j <;> cases (creg 4294967295 l).testBit j <;> cases (csts (8 * (12 - i)) t).testBit j <;> rfl
  rw [e3]
  exact ⟨fun h => h0 (csts_zero (by omega) h), one_turn i hi t ht h0⟩
theorem recSum_turn1 (l : List Nat) (i t : Nat) (hb : ∀ y ∈ l, y < 256) (hl : l.length = 12) (hi : i < 12) (ht : t < 256) (h0 : t ≠ 0) : recSum (turn1 l i t) ≠ recSum l := by
  intro h
  obtain ⟨h1, h2⟩ := csum_turn1 l i t hb hl hi ht h0
  have hc : ∀ m : List Nat, csum m ≤ 4294967295 := fun m => by unfold csum; omega
  have c1 := hc l
  have c2 := hc (turn1 l i t)
  unfold recSum at h
  generalize csum (turn1 l i t) = b at *
  generalize csum l = a at *
  by_cases e : a = b
  · subst e; simp at h1
  · rcases (show a = 4294967294 ∧ b = 4294967295 ∨ a = 4294967295 ∧ b = 4294967294 by omega) with ⟨rfl, rfl⟩ | ⟨rfl, rfl⟩
    · exact h2 (by decide)
    · exact h2 (by decide)
theorem putB4_inj' {x y : Nat} (hx : x < 2 ^ 32) (hy : y < 2 ^ 32) (h : putB 4 x = putB 4 y) : x = y := by
  simp [putB, List.range_succ] at h
  omega
theorem recSum_lt (l : List Nat) : recSum l < 2 ^ 32 := by unfold recSum; omega
/-- A turned page is none's. -/
theorem turn_none (k s n v k' s' n' v' i t : Nat) (hi : i < 16) (ht : t < 256) (h0 : t ≠ 0) : recP k' s' n' v' ≠ turn1 (recP k s n v) i t := by
  intro h
  have hL := recL_len k s n v
  have hL' := recL_len k' s' n' v'
  have hb := recL_lt k s n v
  unfold recP at h
  generalize recL k' s' n' v' = M at *
  generalize recL k s n v = L at *
  by_cases h12 : i < 12
  · have e : turn1 (L ++ putB 4 (recSum L)) i t = turn1 L i t ++ putB 4 (recSum L) := by
      unfold turn1
      rw [List.set_append_left _ _ (by omega)]
      congr 2
      rw [List.getD_eq_getElem?_getD, List.getD_eq_getElem?_getD, List.getElem?_append_left (by omega)]
    rw [e] at h
    have hlen : M.length = (turn1 L i t).length := by unfold turn1; simp; omega
    obtain ⟨e1, e2⟩ := List.append_inj h hlen
    subst e1
    exact recSum_turn1 L i t hb hL h12 ht h0 (putB4_inj' (recSum_lt _) (recSum_lt _) e2)
  · have e : turn1 (L ++ putB 4 (recSum L)) i t = L ++ (putB 4 (recSum L)).set (i - L.length) ((L ++ putB 4 (recSum L)).getD i 0 ^^^ t) := by
      unfold turn1
      rw [List.set_append_right _ _ (by omega)]
    rw [e] at h
    obtain ⟨e1, e2⟩ := List.append_inj h (by omega)
    subst e1
    have hi4 : i - M.length < (putB 4 (recSum M)).length := by rw [putB_length]; omega
    have e3 : (M ++ putB 4 (recSum M)).getD i 0 = (putB 4 (recSum M)).getD (i - M.length) 0 := by
      rw [List.getD_eq_getElem?_getD, List.getD_eq_getElem?_getD, List.getElem?_append_right (by omega)]
    rw [e3] at e2
    have e4 := congrArg (fun q => q.getD (i - M.length) 0) e2
    simp only [List.getD_eq_getElem?_getD, List.getElem?_set_self hi4] at e4
    rw [List.getElem?_eq_getElem hi4] at e4
    simp only [Option.getD_some] at e4
    have e5 := congrArg (fun q => (putB 4 (recSum M))[i - M.length] ^^^ q) e4
    simp only [← Nat.xor_assoc, Nat.xor_self, Nat.zero_xor] at e5
    exact h0 e5.symm
end Go.Proofs.Ytiicbbhjepkndaa
