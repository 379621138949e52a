/-
  ladder.Sibling; meta.New.
-/
import Derived.Test.YtngkmlchblgmeaaLad1
import Derived.Test.YtngkmlchblgmeaaZ2
namespace Go.Proofs.Ytngkmlchblgmeaa
open Go.RowKit
set_option linter.unusedSimpArgs false

def sibI (s : Int) : Int := if s = 1 then 2 else if s = 2 then 1 else 0
def sibB (s : Int) : Bool := decide (s = 1 ∨ s = 2)
set_option maxHeartbeats 400000 in
theorem lad_Sibling (s : Int) (w : World) : Calls Try.prog 63 #[.int .i64 s] w fun e w' => e = .returned (.tuple #[.int .i64 (sibI s), .bool (sibB s)]) ∧ w = w' := by
  by_cases h1 : s = 1
  · subst h1
    (go_enter Try.func63, Try.ntmps63; try simp only [List.append])
    go_wp2_with ((with_reducible refine wpList_unguard ?_ ?_); (focus rfl))
    go_ret2
    exact ⟨rfl, rfl⟩
  · by_cases h2 : s = 2
    · subst h2
      (go_enter Try.func63, Try.ntmps63; try simp only [List.append])
      go_wp2_with ((with_reducible refine wpList_unguard ?_ ?_); (focus rfl))
      go_ret2
      exact ⟨rfl, rfl⟩
    · have e1 : (s == 1) = false := beq_eq_false_iff_ne.2 h1
      have e2 : (s == 2) = false := beq_eq_false_iff_ne.2 h2
      have e3 : sibI s = 0 := by unfold sibI; rw [if_neg h1, if_neg h2]
      have e4 : sibB s = false := decide_eq_false (by omega)
      rw [e3, e4]
      clear e3 e4
      (go_enter Try.func63, Try.ntmps63; try simp only [List.append])
      go_wp2_with ((with_reducible refine wpList_unguard ?_ ?_); (focus rfl))
      go_ret2
      exact ⟨rfl, rfl⟩
set_option maxHeartbeats 400000 in
set_option maxRecDepth 100000 in
theorem meta_New (w : World) :
    Calls Try.prog 39 #[] w fun e w' => e = .returned (.agg #[.int .i64 4, .int .i64 0, .int .i64 0, .int .i64 0, .int .i64 0, .int .i64 0, .int .i64 0, .int .i64 0, .int .i64 0, .int .i64 0, .int .i64 0, .int .i64 0, .int .i64 0]) ∧ Below w.heap.size w w' := by
  (go_enter Try.func39, Try.ntmps39; try simp only [List.append])
  go_wp2_with ((with_reducible refine wpList_unguard ?_ ?_); (focus rfl))
  refine bodyPost_ret (v := .agg #[.int .i64 4, .int .i64 0, .int .i64 0, .int .i64 0, .int .i64 0, .int .i64 0, .int .i64 0, .int .i64 0, .int .i64 0, .int .i64 0, .int .i64 0, .int .i64 0, .int .i64 0]) (by simp [results, Try.results39, go_sem]) rfl ⟨rfl, ?_⟩
  go_grown
end Go.Proofs.Ytngkmlchblgmeaa
