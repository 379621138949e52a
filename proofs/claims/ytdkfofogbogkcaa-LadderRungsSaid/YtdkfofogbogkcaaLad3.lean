/-
  ladder: Sibling, holds, distinct; meta.New, in the program; Has, Same in the references.
-/
import Derived.Test.YtdkfofogbogkcaaLad2
import Derived.Test.YtdkfofogbogkcaaZ2
namespace Go.Proofs.Ytdkfofogbogkcaa
open Go.RowKit
set_option linter.unusedSimpArgs false

def sibI (s : Int) : Int := if s = 1 then 2 else if s = 2 then 1 else 0
def sibB (s : Int) : Bool := decide (s = 1 ∨ s = 2)
set_option maxHeartbeats 400000 in
theorem lad_Sibling (s : Int) (w : World) : Calls Try.prog 20 #[.int .i64 s] w fun e w' => e = .returned (.tuple #[.int .i64 (sibI s), .bool (sibB s)]) ∧ w = w' := by
  by_cases h1 : s = 1
  · subst h1
    (go_enter Try.func20, Try.ntmps20; try simp only [List.append])
    go_wp2_with ((with_reducible refine wpList_unguard ?_ ?_); (focus rfl))
    go_ret2
    exact ⟨rfl, rfl⟩
  · by_cases h2 : s = 2
    · subst h2
      (go_enter Try.func20, Try.ntmps20; try simp only [List.append])
      go_wp2_with ((with_reducible refine wpList_unguard ?_ ?_); (focus rfl))
      go_ret2
      exact ⟨rfl, rfl⟩
    · have e1 : (s == 1) = false := beq_eq_false_iff_ne.2 h1
      have e2 : (s == 2) = false := beq_eq_false_iff_ne.2 h2
      have e3 : sibI s = 0 := by unfold sibI; rw [if_neg h1, if_neg h2]
      have e4 : sibB s = false := decide_eq_false (by omega)
      rw [e3, e4]
      clear e3 e4
      (go_enter Try.func20, Try.ntmps20; try simp only [List.append])
      go_wp2_with ((with_reducible refine wpList_unguard ?_ ?_); (focus rfl))
      go_ret2
      exact ⟨rfl, rfl⟩
def hasB (s : Int) : Bool := decide (2 ≤ s ∧ s ≤ 4)
set_option maxHeartbeats 400000 in
set_option maxRecDepth 100000 in
theorem lad_holds (s v b : Int) (w : World) :
    Calls Try.prog 58 #[.agg #[.int .i64 s, .int .i64 v, .int .i64 b]] w fun e w' => e = .returned (.bool (hasB s)) ∧ Below w.heap.size w w' := by
  have hb0 : Below w.heap.size w (w.alloc (.cells #[.int .i64 s, .int .i64 v, .int .i64 b] 23)) := (Below.refl _ _).alloc (Nat.le_refl _) _
  have hS := S3.new w s v b 23
  obtain ⟨w1, hw1⟩ : ∃ u, w.alloc (.cells #[.int .i64 s, .int .i64 v, .int .i64 b] 23) = u := ⟨_, rfl⟩
  rw [hw1] at hb0 hS
  have hb1 : Below w1.heap.size w1 (w1.alloc (.cells #[.int .i64 2, .int .i64 3, .int .i64 4] 3)) := (Below.refl _ _).alloc (Nat.le_refl _) _
  obtain ⟨a0, a1, a2⟩ := hS.below hb1
  have HC := hid (cellsZ.new w1 [2, 3, 4] #[.int .i64 2, .int .i64 3, .int .i64 4] 3 rfl)
  have HB1 := hid (hb0.trans (hb1.mono hb0.size))
  clear hb0 hb1 hS
  have HH : Hid (([2, 3, 4].any fun y => decide (s = y)) = hasB s) := by
    show _ = _
    unfold hasB
    rw [Bool.eq_iff_iff]
    simp
    omega
  (go_enter Try.func58, Try.ntmps58; try simp only [List.append])
  go_wp2_with ((with_reducible refine wpList_unguard ?_ ?_); (focus rfl))
  refine Calls.mono (sl_ContainsZ s _ 3 3 [2, 3, 4] _ rfl HC.out (by simp)) ?_; rintro e w' ⟨rfl, rfl⟩
  rw [HH.out]
  go_wp2_with ((with_reducible refine wpList_unguard ?_ ?_); (focus rfl))
  go_ret
  exact ⟨rfl, HB1.out⟩
set_option maxHeartbeats 400000 in
set_option maxRecDepth 100000 in
theorem ref23_Has (s v b : Int) (w : World) :
    Calls Try.prog 19 #[.agg #[.int .i64 s, .int .i64 v, .int .i64 b]] w fun e w' => e = .returned (.bool (hasB s)) ∧ Below w.heap.size w w' := by
  have hb0 : Below w.heap.size w (w.alloc (.cells #[.int .i64 s, .int .i64 v, .int .i64 b] 28)) := (Below.refl _ _).alloc (Nat.le_refl _) _
  obtain ⟨a0, a1, a2⟩ := S3.new w s v b 28
  obtain ⟨w1, hw1⟩ : ∃ u, w.alloc (.cells #[.int .i64 s, .int .i64 v, .int .i64 b] 28) = u := ⟨_, rfl⟩
  rw [hw1] at hb0 a0 a1 a2
  have HB1 := hid hb0
  clear hb0
  have H : Hid (∀ B : Bool, B = hasB s ↔ (B = true ↔ (2 ≤ s ∧ s ≤ 4))) := by
    intro B
    rw [Bool.eq_iff_iff]
    unfold hasB
    rw [decide_eq_true_iff]
  generalize hasB s = R at *
  (go_enter Try.func19, Try.ntmps19; try simp only [List.append])
  go_wp2_with ((with_reducible refine wpList_unguard ?_ ?_); (focus rfl))
  all_goals
    go_ret
    refine ⟨?_, HB1.out⟩
    refine congrArg (fun b => Ending.returned (Value.bool b)) ?_
    rw [H.out]
    clear H
    (simp only [bne_iff_ne, Bool.or_eq_true, Bool.and_eq_true, Bool.not_eq_true', Bool.or_eq_false_iff, Bool.and_eq_false_iff, bne_eq_false_iff_eq, beq_iff_eq, beq_eq_false_iff_ne, ne_eq, decide_eq_true_eq, decide_eq_false_iff_not, Bool.false_eq_true, true_iff, false_iff, iff_true, iff_false, reduceCtorEq, Bool.true_eq_false, true_and, and_true, or_true, true_or, false_or, or_false, and_false, false_and, forall_const, not_true_eq_false, not_false_eq_true, false_implies, implies_true] at * <;> omega)
set_option maxHeartbeats 400000 in
set_option maxRecDepth 100000 in
theorem meta_New (w : World) :
    Calls Try.prog 54 #[] w fun e w' => e = .returned (.agg #[.int .i64 4, .int .i64 0, .int .i64 0, .int .i64 0, .int .i64 0, .int .i64 0, .int .i64 0, .int .i64 0, .int .i64 0, .int .i64 0, .int .i64 0, .int .i64 0, .int .i64 0]) ∧ Below w.heap.size w w' := by
  (go_enter Try.func54, Try.ntmps54; try simp only [List.append])
  go_wp2_with ((with_reducible refine wpList_unguard ?_ ?_); (focus rfl))
  refine bodyPost_ret (v := .agg #[.int .i64 4, .int .i64 0, .int .i64 0, .int .i64 0, .int .i64 0, .int .i64 0, .int .i64 0, .int .i64 0, .int .i64 0, .int .i64 0, .int .i64 0, .int .i64 0, .int .i64 0]) (by simp [results, Try.results54, go_sem]) rfl ⟨rfl, ?_⟩
  go_grown
end Go.Proofs.Ytdkfofogbogkcaa
