/-
  RecordVersions, walked, as the row asks it.
-/
import Derived.Test.YtiailpbmmadaeaaRecV
namespace Go.Proofs.Ytiailpbmmadaeaa
open Go.RowKit Tri

theorem recordVersions.walk (x00 x01 x02 : Int) (x10 x11 x12 : Int) (a2 : Int) (w : World) (w0 : (Lit.int .i64 x00).wf = true ∧ (Lit.int .i64 x01).wf = true ∧ (Lit.int .i64 x02).wf = true) (w1 : (Lit.int .i64 x10).wf = true ∧ (Lit.int .i64 x11).wf = true ∧ (Lit.int .i64 x12).wf = true) (w2 : (Lit.int .i64 a2).wf = true) :
    Calls Try.prog 3 #[.agg #[.int .i64 x00, .int .i64 x01, .int .i64 x02], .agg #[.int .i64 x10, .int .i64 x11, .int .i64 x12], .int .i64 a2] w fun e w' => e = .returned (.bool true) ∧ Below w.heap.size w w' :=
  recordVersions.main x00 x01 x02 x10 x11 x12 a2 w
end Go.Proofs.Ytiailpbmmadaeaa
