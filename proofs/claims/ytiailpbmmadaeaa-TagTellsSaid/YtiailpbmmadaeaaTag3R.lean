/-
  TagTells, walked, as the row asks it.
-/
import Derived.Test.YtiailpbmmadaeaaTag3
import Derived.Test.YtiailpbmmadaeaaOpenB
namespace Go.Proofs.Ytiailpbmmadaeaa
open Go.RowKit

theorem tagTells.walk (l0 : List Nat) (a1 : Int) (a2 : Int) (w : World) (w0 : l0.length = 60 ∧ ∀ x ∈ l0, x < 256) (w1 : (Lit.int .u8 a1).wf = true) (w2 : (Lit.int .u8 a2).wf = true) :
    Calls Try.prog 4 #[.agg (blkB l0), .int .u8 a1, .int .u8 a2] w fun e w' => e = .returned (.bool true) ∧ Below w.heap.size w w' := by
  obtain ⟨i, hi, rfl⟩ := u8_of w1
  obtain ⟨t, ht, rfl⟩ := u8_of w2
  exact tagTells_main l0 i t w w0.1 w0.2 hi ht
end Go.Proofs.Ytiailpbmmadaeaa
