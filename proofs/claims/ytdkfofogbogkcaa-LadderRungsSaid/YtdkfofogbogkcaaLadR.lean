/-
  LadderRungs, walked, as the row asks it.
-/
import Derived.Test.YtdkfofogbogkcaaLad9
import Derived.Test.YtdkfofogbogkcaaOpenG
namespace Go.Proofs.Ytdkfofogbogkcaa
open Go.RowKit

theorem ladderRungs.walk (x0v0 x0v1 x0v2 x0v3 x0v4 x0v5 x0v6 x0v7 x0v8 x0v9 x0v10 x0v11 x0v12 : Int) (a1 : Int) (w : World) (w0 : True) (w1 : (Lit.int .i64 a1).wf = true) :
    Calls Try.prog 3 #[.agg #[.int .i64 x0v0, .int .i64 x0v1, .int .i64 x0v2, .int .i64 x0v3, .int .i64 x0v4, .int .i64 x0v5, .int .i64 x0v6, .int .i64 x0v7, .int .i64 x0v8, .int .i64 x0v9, .int .i64 x0v10, .int .i64 x0v11, .int .i64 x0v12], .int .i64 a1] w fun e w' => e = .returned (.bool true) ∧ Below w.heap.size w w' :=
  ladderRungs_main x0v0 x0v1 x0v2 x0v3 x0v4 x0v5 x0v6 x0v7 x0v8 x0v9 x0v10 x0v11 x0v12 a1 w
end Go.Proofs.Ytdkfofogbogkcaa
