/-
  The example of chapter 23.
-/
import Derived.Test.YtngkmlchblgmeaaLad5
namespace Go.Proofs.Ytngkmlchblgmeaa
open Go.RowKit

set_option maxHeartbeats 4000000 in
set_option maxRecDepth 100000 in
theorem law23_awake (w : World) : Calls Try.prog 8 #[] w fun e w' => e = .returned (.bool true) ∧ Below w.heap.size w w' := by
  have hok : metaOk 4 0 0 0 0 0 0 0 0 0 0 0 0 = true := by decide
  have HR : Hid (rungsL 4 0 0 0 0 0 0 0 0 0 0 0 0 = [0]) := by show _ = _; unfold rungsL; rw [if_pos hok]; rfl
  have HT : Hid (targI 4 0 0 0 0 0 0 0 0 0 0 0 0 = 1) := by show _ = _; unfold targI; rw [if_pos hok]; rfl
  have HO := hid hok
  clear hok
  (go_enter Try.func8, Try.ntmps8; try simp only [List.append])
  go_wp2_with ((with_reducible refine wpList_unguard ?_ ?_); (focus rfl))
  refine Calls.mono (meta_New w) ?_; rintro e w1 ⟨rfl, hb1⟩; have HB1 := hid hb1; clear hb1
  go_wp2_with ((with_reducible refine wpList_unguard ?_ ?_); (focus rfl))
  refine Calls.mono (lad_Rungs 4 0 0 0 0 0 0 0 0 0 0 0 0 w1) ?_; rintro e w2 ⟨⟨p, c, rfl, hle, hc⟩, hb2⟩
  rw [HR.out] at hc ⊢
  have HB2 := hid (HB1.out.trans (hb2.mono HB1.out.size))
  have HC := hid hc
  clear hb2 hc hle HB1
  go_wp2_with ((with_reducible refine wpList_unguard ?_ ?_); (focus rfl))
  refine Calls.mono (meta_New w2) ?_; rintro e w3 ⟨rfl, hb3⟩
  have HC3 := hid (HC.out.below hb3)
  have HB3 := hid (HB2.out.trans (hb3.mono HB2.out.size)); clear hb3 HC HB2
  go_wp2_with ((with_reducible refine wpList_unguard ?_ ?_); (focus rfl))
  refine Calls.mono (lad_Target 4 0 0 0 0 0 0 0 0 0 0 0 0 w3) ?_; rintro e w4 ⟨rfl, hb4⟩
  rw [HT.out, HO.out]
  have HC4 := hid (HC3.out.below hb4)
  have HB4 := hid (HB3.out.trans (hb4.mono HB3.out.size)); clear hb4 HC3 HB3
  obtain ⟨a, o, rfl, hcell⟩ := HC4.out 0 (by simp)
  rw [Nat.add_zero] at hcell
  simp only [List.getD_cons_zero, List.length_cons, List.length_nil, Nat.zero_add] at hcell ⊢
  go_wp2_with ((with_reducible refine wpList_unguard ?_ ?_); (focus rfl))
  go_ret
  exact ⟨rfl, HB4.out⟩
end Go.Proofs.Ytngkmlchblgmeaa
