/-
  What is told of an argument, opened: a slice of ints, with the bound that the form itself gives.
-/
import Derived.Test.YtiicbbhjepkndaaOpenS
import Derived.Test.YtiicbbhjepkndaaCz
namespace Go.Proofs.Ytiicbbhjepkndaa
open Go.ChangeShapes Go.WideShapes Go.ChangeAt Go.RowKit

def IsInts (w : World) (a : Option Addr) (len cap : Nat) (l : List Int) : Prop :=
  len = l.length ∧ len ≤ cap ∧ cap ≤ 140737488351232 ∧ cellsZ w a l ∧ ∀ x ∈ l, -9223372036854775808 ≤ x ∧ x ≤ 9223372036854775807
theorem open_intsZ {H : Type} {enc : TypeId × Value → H} {W : World} {base t e j len cap : Nat} {a : Option Addr} {d : DataW H} {p : List MemPlace} {ts : List TypeId} {ds : List (DataW H)}
    (hsz : (DataW.weightsEach Try.prog ts ds).all (· ≤ reachBytes) = true) (ht : ts[j]? = some t) (hd : ds[j]? = some d)
    (hu : Try.prog.underlying t = some (.slice e)) (he : Try.prog.underlying e = some (.int .i64)) (hc : Try.prog.cellsOf e = 1) (hb : Try.prog.bytesOf e = 8)
    (h : DataW.Trod enc Try.prog W base (fun _ => true) true t (.slice a len cap) d p) : ∃ l, IsInts W a len cap l := by
  obtain ⟨fuel, hf⟩ := h
  rcases open_ints hu he hc hf with ⟨hcs, _⟩ | ⟨x, l, c, zs, hcs, _, hl, hm, hz, hx, hcell, hw⟩
  · simp [Value.cells] at hcs
    obtain ⟨rfl, rfl, rfl⟩ := hcs
    exact ⟨[], rfl, Nat.le_refl _, by omega, cellsZ.nil _ _, by simp⟩
  · simp [Value.cells] at hcs
    obtain ⟨rfl, rfl, rfl⟩ := hcs
    simp only [if_true] at hz
    simp only [Prod.mk.injEq] at hx
    obtain ⟨rfl, -⟩ := hx
    have h1 := sized_slice hsz ht hd hu
    simp only [lits, List.length_map, List.length_take, List.length_drop, hb, reachBytes] at h1
    refine ⟨zs.take len, by rw [List.length_take]; omega, hl, by omega, ?_, ?_⟩
    · intro i hi
      rw [List.length_take] at hi
      have hi' : i < zs.length := by omega
      obtain ⟨hx1, hx2⟩ := spot_add (hcell 0 (by omega)) (hcell i hi')
      refine ⟨_, _, congrArg some hx1, ?_⟩
      rw [hx2, List.getD_eq_getElem?_getD, List.getD_eq_getElem?_getD, List.getElem?_take, if_pos (by omega)]
    · intro y hy
      have := bounds_i64 (hw y (List.mem_of_mem_take hy))
      omega
end Go.Proofs.Ytiicbbhjepkndaa
