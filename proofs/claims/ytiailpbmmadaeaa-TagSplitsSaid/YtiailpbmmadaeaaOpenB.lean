/-
  What is told of an argument, opened: a block's bytes by value.
-/
import Derived.Test.YtiailpbmmadaeaaOpenK
import Derived.Test.YtiailpbmmadaeaaCpy
namespace Go.Proofs.Ytiailpbmmadaeaa
open Go.ChangeShapes Go.WideShapes Go.ChangeAt Go.RowKit

set_option linter.constructorNameAsVariable false in
set_option maxRecDepth 1000000 in
theorem open_blk {H : Type} {enc : TypeId × Value → H} {W : World} {base t : Nat} {v : Value} {d : DataW H} {p : List MemPlace} (ht : Try.prog.underlying t = some (.array 60 5)) (hc : Try.prog.cellsOf t = 60)
    (hv : Value.okWide Try.prog W .any base t v) (h : DataW.Trod enc Try.prog W 0 (fun _ => true) true t v d p) :
    ∃ l : List Nat, v = .agg (blkB l) ∧ (l.length = 60 ∧ ∀ x ∈ l, x < 256) := by
  obtain ⟨l, hl, rfl, hw⟩ := open_bytesarr ht hc hv h
  refine ⟨l.map Int.toNat, ?_, by simpa using hl, ?_⟩
  · unfold blkB
    rw [List.map_map]
    congr 2
    apply List.map_congr_left
    intro x hx
    obtain ⟨n, _, rfl⟩ := u8_of (hw x hx)
    rfl
  · intro x hx
    obtain ⟨y, hy, rfl⟩ := List.mem_map.1 hx
    obtain ⟨n, hn, rfl⟩ := u8_of (hw y hy)
    simpa using hn
end Go.Proofs.Ytiailpbmmadaeaa
