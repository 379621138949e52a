/-
  RecordUnlike, walked, as the row asks it.
-/
import Derived.Test.YtiailpbmmadaeaaUnlY
import Derived.Test.YtiailpbmmadaeaaOpenG
import Derived.Test.YtiailpbmmadaeaaOpenK
namespace Go.Proofs.Ytiailpbmmadaeaa
open Go.RowKit Tri

theorem recordUnlike.walk (x00 x01 x02 x03 : Int) (x10 x11 x12 x13 : Int) (x20 x21 : Int) (w : World) (w0 : (Lit.int .i64 x00).wf = true ∧ (Lit.int .i64 x01).wf = true ∧ (Lit.int .i64 x02).wf = true ∧ (Lit.int .i64 x03).wf = true) (w1 : (Lit.int .i64 x10).wf = true ∧ (Lit.int .i64 x11).wf = true ∧ (Lit.int .i64 x12).wf = true ∧ (Lit.int .i64 x13).wf = true) (w2 : (Lit.int .u8 x20).wf = true ∧ (Lit.int .u8 x21).wf = true) :
    Calls Try.prog 5 #[.agg #[.int .i64 x00, .int .i64 x01, .int .i64 x02, .int .i64 x03], .agg #[.int .i64 x10, .int .i64 x11, .int .i64 x12, .int .i64 x13], .agg #[.int .u8 x20, .int .u8 x21]] w fun e w' => e = .returned (.bool true) ∧ Below w.heap.size w w' :=
  recordUnlike.main x00 x01 x02 x03 x10 x11 x12 x13 x20 x21 w w2
end Go.Proofs.Ytiailpbmmadaeaa
