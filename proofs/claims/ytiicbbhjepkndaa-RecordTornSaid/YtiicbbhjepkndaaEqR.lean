/-
  '==' of two records by value.
-/
import Derived.Test.YtiicbbhjepkndaaRecG
namespace Go.Proofs.Ytiicbbhjepkndaa
open Go.RowKit

def recEq (a b c d a' b' c' d' : Int) : Bool := decide (a = a' ∧ b = b' ∧ c = c' ∧ d = d')
set_option maxRecDepth 100000 in
theorem eql_rec (a b c d a' b' c' d' : Int) (w : World) :
    (binOp .eql 54 (.agg #[.int .i64 a, .int .i64 b, .int .i64 c, .int .i64 d]) (.agg #[.int .i64 a', .int .i64 b', .int .i64 c', .int .i64 d'])).run Try.prog w = .ok (.bool (recEq a b c d a' b' c' d')) w := by
  unfold recEq
  by_cases h1 : a = a' <;> by_cases h2 : b = b' <;> by_cases h3 : c = c' <;> by_cases h4 : d = d' <;> simp [go_sem, h1, h2, h3, h4]
end Go.Proofs.Ytiicbbhjepkndaa
