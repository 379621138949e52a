/-
  meta: Trial; a change's try, confirm, activate, drop, told, in the program.
-/
import Derived.Test.YtngkmlchblgmeaaMet1
namespace Tri
theorem Mt.tri_cases (m : Mt) : m.tri = 0 ∨ m.tri = 1 ∨ m.tri = 2 ∨ m.tri = -1 := by
  unfold Mt.tri
  by_cases h0 : m.s0 = 3
  · rw [if_pos h0]; simp
  · rw [if_neg h0]
    by_cases h1 : m.s1 = 3
    · rw [if_pos h1]; simp
    · rw [if_neg h1]
      by_cases h2 : m.s2 = 3
      · rw [if_pos h2]; simp
      · rw [if_neg h2]; simp
end Tri
namespace Go.Proofs.Ytngkmlchblgmeaa
open Go.RowKit Tri
set_option linter.unusedSimpArgs false

set_option maxHeartbeats 400000 in
theorem trial_1 (s v b : Int) (w : World) : Calls Try.prog 43 #[.agg #[.int .i64 s, .int .i64 v, .int .i64 b]] w fun e w' => e = .returned (.bool (s == 3)) ∧ Below w.heap.size w w' := by
  (go_enter Try.func43, Try.ntmps43; try simp only [List.append])
  go_wp2_with ((with_reducible refine wpList_unguard ?_ ?_); (focus rfl))
  go_ret
  exact ⟨rfl, by go_grown⟩
/-- Three slots in a block. -/
def S9 (w : World) (B : Nat) (m : Mt) : Prop :=
  w.cell? ⟨B, 0, none⟩ = some (.int .i64 m.s0) ∧ w.cell? ⟨B, 1, none⟩ = some (.int .i64 m.v0) ∧ w.cell? ⟨B, 2, none⟩ = some (.int .i64 m.b0) ∧
  w.cell? ⟨B, 3, none⟩ = some (.int .i64 m.s1) ∧ w.cell? ⟨B, 4, none⟩ = some (.int .i64 m.v1) ∧ w.cell? ⟨B, 5, none⟩ = some (.int .i64 m.b1) ∧
  w.cell? ⟨B, 6, none⟩ = some (.int .i64 m.s2) ∧ w.cell? ⟨B, 7, none⟩ = some (.int .i64 m.v2) ∧ w.cell? ⟨B, 8, none⟩ = some (.int .i64 m.b2)
theorem Blk.s9 {w : World} {B : Nat} {t : TypeId} {m : Mt} (h : Blk w B t (mtA m)) : S9 w B m :=
  ⟨h.cell 0 _ rfl, h.cell 1 _ rfl, h.cell 2 _ rfl, h.cell 3 _ rfl, h.cell 4 _ rfl, h.cell 5 _ rfl, h.cell 6 _ rfl, h.cell 7 _ rfl, h.cell 8 _ rfl⟩
set_option maxHeartbeats 2000000 in
set_option maxRecDepth 100000 in
theorem sl_IndexFuncT (m : Mt) (B : Nat) (t : TypeId) (w : World) (h : Blk w B t (mtA m)) :
    Calls Try.prog 42 #[.slice (some ⟨B, 0, none⟩) 3 3, .func (.func 43) #[] #[]] w
      fun e w' => e = .returned (.int .i64 m.tri) ∧ Below w.heap.size w w' := by
  have HM := hid h
  have HT : Hid (m.tri = if (m.s0 == 3) = true then 0 else if (m.s1 == 3) = true then 1 else if (m.s2 == 3) = true then 2 else -1) := by
    show _ = _
    unfold Mt.tri
    simp only [beq_iff_eq]
  clear h
  have H0 := fun w => hid (trial_1 m.s0 m.v0 m.b0 w)
  have H1 := fun w => hid (trial_1 m.s1 m.v1 m.b1 w)
  have H2 := fun w => hid (trial_1 m.s2 m.v2 m.b2 w)
  generalize (m.s0 == 3) = z0 at *
  generalize (m.s1 == 3) = z1 at *
  generalize (m.s2 == 3) = z2 at *
  obtain ⟨a0, a1, a2, a3, a4, a5, a6, a7, a8⟩ := HM.out.s9
  (go_enter Try.func42, Try.ntmps42; try simp only [List.append])
  go_wp2_with ((with_reducible refine wpList_unguard ?_ ?_); (focus rfl))
  refine wp_loop_rounds 4 ?_
  rw [rounds_succ]
  go_wp2_with ((with_reducible refine wpList_unguard ?_ ?_); (focus rfl))
  refine Calls.mono (H0 _).out ?_; rintro e w1 ⟨rfl, hb⟩
  have HB := hid hb
  replace HM := hid (HM.out.below hb)
  clear hb a0 a1 a2 a3 a4 a5 a6 a7 a8
  cases z0
  · obtain ⟨a0, a1, a2, a3, a4, a5, a6, a7, a8⟩ := HM.out.s9
    go_wp2_with ((with_reducible refine wpList_unguard ?_ ?_); (focus rfl))
    rw [rounds_succ]
    go_wp2_with ((with_reducible refine wpList_unguard ?_ ?_); (focus rfl))
    refine Calls.mono (H1 _).out ?_; rintro e w2 ⟨rfl, hb⟩
    (replace HM := hid (HM.out.below hb); replace HB := hid (HB.out.trans (hb.mono HB.out.size)); clear hb)
    clear a0 a1 a2 a3 a4 a5 a6 a7 a8
    cases z1
    · obtain ⟨a0, a1, a2, a3, a4, a5, a6, a7, a8⟩ := HM.out.s9
      go_wp2_with ((with_reducible refine wpList_unguard ?_ ?_); (focus rfl))
      rw [rounds_succ]
      go_wp2_with ((with_reducible refine wpList_unguard ?_ ?_); (focus rfl))
      refine Calls.mono (H2 _).out ?_; rintro e w3 ⟨rfl, hb⟩
      (replace HM := hid (HM.out.below hb); replace HB := hid (HB.out.trans (hb.mono HB.out.size)); clear hb)
      clear a0 a1 a2 a3 a4 a5 a6 a7 a8
      cases z2
      · go_wp2_with ((with_reducible refine wpList_unguard ?_ ?_); (focus rfl))
        rw [rounds_succ]
        go_wp2_with ((with_reducible refine wpList_unguard ?_ ?_); (focus rfl))
        go_ret
        exact ⟨by rw [HT.out]; rfl, HB.out⟩
      · go_wp2_with ((with_reducible refine wpList_unguard ?_ ?_); (focus rfl))
        go_ret
        exact ⟨by rw [HT.out]; rfl, HB.out⟩
    · go_wp2_with ((with_reducible refine wpList_unguard ?_ ?_); (focus rfl))
      go_ret
      exact ⟨by rw [HT.out]; rfl, HB.out⟩
  · go_wp2_with ((with_reducible refine wpList_unguard ?_ ?_); (focus rfl))
    go_ret
    exact ⟨by rw [HT.out]; rfl, HB.out⟩
set_option maxHeartbeats 2000000 in
set_option maxRecDepth 100000 in
theorem meta_Trial (m : Mt) (w : World) :
    Calls Try.prog 10 #[.agg (mtA m)] w fun e w' => e = .returned (.tuple #[.int .i64 (max m.tri 0), .bool (decide (0 ≤ m.tri))]) ∧ Below w.heap.size w w' := by
  have hb0 : Below w.heap.size w (w.alloc (.cells (mtA m) 29)) := (Below.refl _ _).alloc (Nat.le_refl _) _
  have hM := Blk.new w 29 (mtA m)
  have HB := hid hb0
  have HM := hid hM
  clear hb0 hM
  have ht := m.tri_cases
  have HI := hid (sl_IndexFuncT m w.heap.size 29 _ HM.out)
  generalize m.tri = T at *
  unfold mtA at *
  rcases ht with rfl | rfl | rfl | rfl
  all_goals
    (go_enter Try.func10, Try.ntmps10; try simp only [List.append])
    go_wp2_with ((with_reducible refine wpList_unguard ?_ ?_); (focus rfl))
    refine Calls.mono HI.out ?_; rintro e w' ⟨rfl, hb⟩
    (replace HB := hid (HB.out.trans (hb.mono HB.out.size)); clear hb)
    go_wp2_with ((with_reducible refine wpList_unguard ?_ ?_); (focus rfl))
    go_ret2
    exact ⟨rfl, HB.out⟩
end Go.Proofs.Ytngkmlchblgmeaa
