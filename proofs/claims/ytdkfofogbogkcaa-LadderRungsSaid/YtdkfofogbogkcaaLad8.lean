/-
  ladder.Same whatever it is asked; triptychlaw17.Plain; the example of chapter 23.
-/
import Derived.Test.YtdkfofogbogkcaaLad7
namespace Go.Proofs.Ytdkfofogbogkcaa
open Go.RowKit

set_option maxHeartbeats 4000000 in
set_option maxRecDepth 100000 in
theorem lad_Same_no (s0 v0 b0 s1 v1 b1 s2 v2 b2 ac fl cu it : Int) (j : Nat) (hj : j < 3) (w : World) (hh : hasB (pick3 s0 s1 s2 j) = false) :
    Calls Try.prog 18 #[.agg #[.int .i64 s0, .int .i64 v0, .int .i64 b0, .int .i64 s1, .int .i64 v1, .int .i64 b1, .int .i64 s2, .int .i64 v2, .int .i64 b2, .int .i64 ac, .int .i64 fl, .int .i64 cu, .int .i64 it], .int .i64 j] w fun e w' => retZ [] e w' ∧ Below w.heap.size w w' := by
  have hb0 : Below w.heap.size w (w.alloc (.cells #[.int .i64 s0, .int .i64 v0, .int .i64 b0, .int .i64 s1, .int .i64 v1, .int .i64 b1, .int .i64 s2, .int .i64 v2, .int .i64 b2, .int .i64 ac, .int .i64 fl, .int .i64 cu, .int .i64 it] 26)) := (Below.refl _ _).alloc (Nat.le_refl _) _
  have hM := Blk.new w 26 #[.int .i64 s0, .int .i64 v0, .int .i64 b0, .int .i64 s1, .int .i64 v1, .int .i64 b1, .int .i64 s2, .int .i64 v2, .int .i64 b2, .int .i64 ac, .int .i64 fl, .int .i64 cu, .int .i64 it]
  obtain ⟨w1, hw1⟩ : ∃ u, w.alloc (.cells #[.int .i64 s0, .int .i64 v0, .int .i64 b0, .int .i64 s1, .int .i64 v1, .int .i64 b1, .int .i64 s2, .int .i64 v2, .int .i64 b2, .int .i64 ac, .int .i64 fl, .int .i64 cu, .int .i64 it] 26) = u := ⟨_, rfl⟩
  rw [hw1] at hb0 hM
  have HB := hid hb0
  clear hb0
  obtain ⟨c0, c1, c2⟩ := hM.at3 hj
  have HH := hid hh
  clear hM hh
  have hj3 : (j : Int) < 3 := by omega
  have hj0 : (0 : Int) ≤ (j : Int) := by omega
  (go_enter Try.func18, Try.ntmps18; try simp only [List.append])
  go_wp2_with ((with_reducible refine wpList_unguard ?_ ?_); (focus rfl))
  refine Calls.mono (lad_holds _ _ _ w1) ?_; rintro e w2 ⟨rfl, hb⟩
  rw [HH.out]
  have HB2 := hid (HB.out.trans (hb.mono HB.out.size))
  clear c0 c1 c2 hw1 hb HB
  go_wp2
  go_ret
  exact ⟨⟨none, 0, rfl, Nat.le_refl _, cellsZ.nil _ _⟩, HB2.out⟩
set_option maxHeartbeats 4000000 in
set_option maxRecDepth 100000 in
theorem lad_Same_out (s0 v0 b0 s1 v1 b1 s2 v2 b2 ac fl cu it : Int) (s : Int) (hs : s < 0 ∨ 3 ≤ s) (w : World) :
    Calls Try.prog 18 #[.agg #[.int .i64 s0, .int .i64 v0, .int .i64 b0, .int .i64 s1, .int .i64 v1, .int .i64 b1, .int .i64 s2, .int .i64 v2, .int .i64 b2, .int .i64 ac, .int .i64 fl, .int .i64 cu, .int .i64 it], .int .i64 s] w fun e w' => retZ [] e w' ∧ Below w.heap.size w w' := by
  have hb0 : Below w.heap.size w (w.alloc (.cells #[.int .i64 s0, .int .i64 v0, .int .i64 b0, .int .i64 s1, .int .i64 v1, .int .i64 b1, .int .i64 s2, .int .i64 v2, .int .i64 b2, .int .i64 ac, .int .i64 fl, .int .i64 cu, .int .i64 it] 26)) := (Below.refl _ _).alloc (Nat.le_refl _) _
  have HB := hid hb0
  clear hb0
  rcases hs with hs | hs
  · (go_enter Try.func18, Try.ntmps18; try simp only [List.append])
    go_wp2
    go_ret
    exact ⟨⟨none, 0, rfl, Nat.le_refl _, cellsZ.nil _ _⟩, HB.out⟩
  · have hs' : ¬ s < 0 := by omega
    (go_enter Try.func18, Try.ntmps18; try simp only [List.append])
    go_wp2
    go_ret
    exact ⟨⟨none, 0, rfl, Nat.le_refl _, cellsZ.nil _ _⟩, HB.out⟩
theorem lad_Same (s0 v0 b0 s1 v1 b1 s2 v2 b2 ac fl cu it : Int) (s : Int) (w : World) :
    Calls Try.prog 18 #[.agg #[.int .i64 s0, .int .i64 v0, .int .i64 b0, .int .i64 s1, .int .i64 v1, .int .i64 b1, .int .i64 s2, .int .i64 v2, .int .i64 b2, .int .i64 ac, .int .i64 fl, .int .i64 cu, .int .i64 it], .int .i64 s] w fun e w' => retZ (sameL s0 v0 s1 v1 s2 v2 s) e w' ∧ Below w.heap.size w w' := by
  by_cases h : 0 ≤ s ∧ s < 3
  · obtain ⟨j, rfl⟩ : ∃ j : Nat, s = j := ⟨s.toNat, by omega⟩
    have hj : j < 3 := by omega
    unfold sameL
    rw [Int.toNat_natCast]
    rcases Bool.eq_false_or_eq_true (hasB (pick3 s0 s1 s2 j)) with hh | hh
    · rw [if_pos ⟨h.1, h.2, hh⟩]
      exact lad_Same_in s0 v0 b0 s1 v1 b1 s2 v2 b2 ac fl cu it j hj w hh
    · rw [if_neg (by rw [hh]; simp)]
      exact lad_Same_no s0 v0 b0 s1 v1 b1 s2 v2 b2 ac fl cu it j hj w hh
  · unfold sameL
    rw [if_neg (fun hh => h ⟨hh.1, hh.2.1⟩)]
    exact lad_Same_out s0 v0 b0 s1 v1 b1 s2 v2 b2 ac fl cu it s (by omega) w
set_option maxHeartbeats 4000000 in
set_option maxRecDepth 100000 in
theorem law17_Plain (s0 v0 b0 s1 v1 b1 s2 v2 b2 ac fl cu it : Int) (w : World) :
    Calls Try.prog 12 #[.agg #[.int .i64 s0, .int .i64 v0, .int .i64 b0, .int .i64 s1, .int .i64 v1, .int .i64 b1, .int .i64 s2, .int .i64 v2, .int .i64 b2, .int .i64 ac, .int .i64 fl, .int .i64 cu, .int .i64 it]] w fun e w' => e = .returned (.agg #[.int .i64 s0, .int .i64 v0, .int .i64 b0, .int .i64 s1, .int .i64 v1, .int .i64 b1, .int .i64 s2, .int .i64 v2, .int .i64 b2, .int .i64 ac, .int .i64 fl, .int .i64 cu, .int .i64 it]) ∧ Below w.heap.size w w' := by
  obtain ⟨i0, i1, i2⟩ := index3 _ s0 v0 b0 s1 v1 b1 s2 v2 b2 rfl
  (go_enter Try.func12, Try.ntmps12; try simp only [List.append])
  go_wp2
  refine wp_loop_rounds 4 ?_
  rw [rounds_succ]
  go_wp2
  rw [rounds_succ]
  go_wp2
  rw [rounds_succ]
  go_wp2
  rw [rounds_succ]
  go_wp2
  refine bodyPost_ret (v := .agg #[.int .i64 s0, .int .i64 v0, .int .i64 b0, .int .i64 s1, .int .i64 v1, .int .i64 b1, .int .i64 s2, .int .i64 v2, .int .i64 b2, .int .i64 ac, .int .i64 fl, .int .i64 cu, .int .i64 it]) (by simp [results, Try.results12, go_sem]) rfl ⟨rfl, ?_⟩
  go_grown
set_option maxHeartbeats 4000000 in
set_option maxRecDepth 100000 in
theorem law23_awake (w : World) : Calls Try.prog 11 #[] w fun e w' => e = .returned (.bool true) ∧ Below w.heap.size w w' := by
  have hok : metaOk 4 0 0 0 0 0 0 0 0 0 0 0 0 = true := by decide
  have HR : Hid (rungsL 4 0 0 0 0 0 0 0 0 0 0 0 0 = [0]) := by show _ = _; unfold rungsL; rw [if_pos hok]; rfl
  have HT : Hid (targI 4 0 0 0 0 0 0 0 0 0 0 0 0 = 1) := by show _ = _; unfold targI; rw [if_pos hok]; rfl
  have HO := hid hok
  clear hok
  (go_enter Try.func11, Try.ntmps11; try simp only [List.append])
  go_wp2_with ((with_reducible refine wpList_unguard ?_ ?_); (focus rfl))
  refine Calls.mono (meta_New w) ?_; rintro e w1 ⟨rfl, hb1⟩; have HB1 := hid hb1; clear hb1
  go_wp2_with ((with_reducible refine wpList_unguard ?_ ?_); (focus rfl))
  refine Calls.mono (lad_Rungs 4 0 0 0 0 0 0 0 0 0 0 0 0 w1) ?_; rintro e w2 ⟨⟨p, c, rfl, hle, hc⟩, hb2⟩
  rw [HR.out] at hc ⊢
  have HB2 := hid (HB1.out.trans (hb2.mono HB1.out.size))
  have HC := hid hc
  clear hb2 hc hle HB1
  go_wp2_with ((with_reducible refine wpList_unguard ?_ ?_); (focus rfl))
  refine Calls.mono (meta_New w2) ?_; rintro e w3 ⟨rfl, hb3⟩
  have HC3 := hid (HC.out.below hb3)
  have HB3 := hid (HB2.out.trans (hb3.mono HB2.out.size)); clear hb3 HC HB2
  go_wp2_with ((with_reducible refine wpList_unguard ?_ ?_); (focus rfl))
  refine Calls.mono (lad_Target 4 0 0 0 0 0 0 0 0 0 0 0 0 w3) ?_; rintro e w4 ⟨rfl, hb4⟩
  rw [HT.out, HO.out]
  have HC4 := hid (HC3.out.below hb4)
  have HB4 := hid (HB3.out.trans (hb4.mono HB3.out.size)); clear hb4 HC3 HB3
  obtain ⟨a, o, rfl, hcell⟩ := HC4.out 0 (by simp)
  rw [Nat.add_zero] at hcell
  simp only [List.getD_cons_zero, List.length_cons, List.length_nil, Nat.zero_add] at hcell ⊢
  go_wp2_with ((with_reducible refine wpList_unguard ?_ ?_); (focus rfl))
  go_ret
  exact ⟨rfl, HB4.out⟩
end Go.Proofs.Ytdkfofogbogkcaa
