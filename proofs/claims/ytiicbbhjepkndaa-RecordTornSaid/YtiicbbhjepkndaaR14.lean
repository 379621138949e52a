/-
  The reference of chapter 14: Right.
-/
import Derived.Test.YtiicbbhjepkndaaRec3
namespace Go.Proofs.Ytiicbbhjepkndaa
open Go.RowKit Tri

set_option maxHeartbeats 4000000 in
set_option maxRecDepth 100000 in
theorem ref14_Right (k s n v : Int) (w : World) :
    Calls Try.prog 35 #[.agg #[.int .i64 k, .int .i64 s, .int .i64 n, .int .i64 v]] w fun e w' => e = .returned (.bool (recOk k s n v)) ∧ Below w.heap.size w w' := by
  have hb0 : Below w.heap.size w (w.alloc (.cells #[.int .i64 k, .int .i64 s, .int .i64 n, .int .i64 v] 59)) := (Below.refl _ _).alloc (Nat.le_refl _) _
  have hT : ∀ u, w.alloc (.cells #[.int .i64 k, .int .i64 s, .int .i64 n, .int .i64 v] 59) = u → u.cell? ⟨w.heap.size, 0, none⟩ = some (.int .i64 k) ∧ u.cell? ⟨w.heap.size, 1, none⟩ = some (.int .i64 s) ∧ u.cell? ⟨w.heap.size, 2, none⟩ = some (.int .i64 n) ∧ u.cell? ⟨w.heap.size, 3, none⟩ = some (.int .i64 v) := by
    rintro u rfl
    exact ⟨by simp [go_sem], by simp [go_sem], by simp [go_sem], by simp [go_sem]⟩
  obtain ⟨w1, hw1⟩ : ∃ u, w.alloc (.cells #[.int .i64 k, .int .i64 s, .int .i64 n, .int .i64 v] 59) = u := ⟨_, rfl⟩
  obtain ⟨hk1, hs1, hn1, hv1⟩ := hT w1 hw1
  have hr : Hid (recOk k s n v = (decide (0 ≤ k ∧ k < 128) && (decide (0 ≤ s ∧ s < 4) && (decide (0 ≤ n ∧ n < 65536) && decide (0 ≤ v ∧ v < 281474976710656))))) := by
    show _ = _
    unfold recOk
    congr 1
    · exact decide_eq_decide.2 (by omega)
    · congr 1
      · exact decide_eq_decide.2 (by omega)
      · congr 1
        · exact decide_eq_decide.2 (by omega)
        · exact decide_eq_decide.2 (by omega)
  obtain ⟨R, hR⟩ : ∃ R, recOk k s n v = R := ⟨_, rfl⟩
  rw [hR] at hr ⊢
  clear hR hT
  rw [hw1] at hb0
  have HB := hid hb0
  clear hb0
  (go_enter Try.func35, Try.ntmps35; try simp only [List.append])
  go_wp2_with ((with_reducible refine wpList_unguard ?_ ?_); (focus rfl))
  all_goals
    go_ret
    refine ⟨?_, HB.out⟩
    refine congrArg (fun b => Ending.returned (Value.bool b)) ?_
    rw [hr.out, Bool.eq_iff_iff]
    simp
    try omega
end Go.Proofs.Ytiicbbhjepkndaa
