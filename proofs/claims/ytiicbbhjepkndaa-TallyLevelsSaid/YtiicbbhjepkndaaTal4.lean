/-
  tally.Open.
-/
import Derived.Test.YtiicbbhjepkndaaTal3
import Derived.Test.YtiicbbhjepkndaaGeo2
import Derived.Test.YtiicbbhjepkndaaDev5
import Derived.BigRegion
namespace Go.Proofs.Ytiicbbhjepkndaa
open Go.RowKit Tri

set_option maxHeartbeats 4000000 in
set_option maxRecDepth 100000 in
theorem tal_Open_nil (d p st : Int) (w : World) :
    Calls Try.prog 40 #[.pointer none, .agg #[.int .i64 d, .int .i64 p, .int .i64 st]] w fun e w' => e = .returned (.tuple #[.pointer none, .int .i64 1]) ∧ Below w.heap.size w w' := by
  obtain ⟨w1, hw1, -, hG, hB⟩ := geo_box w 64 d p st
  have HB := hid hB
  clear hG hB
  (go_enter Try.func40, Try.ntmps40; try simp only [List.append])
  go_wp2_with ((with_reducible refine wpList_unguard ?_ ?_); (focus rfl))
  (refine wp_region_quietC (fun w' => Below (w1).heap.size w1 w') (by kernel_rfl) (by kernel_rfl) ((Below.refl _ _).drew) ?_; (repeat (first | go_big_quiet_skip | (go_big_quiet_want; first | (go_big_quiet_op; go_big_quiet_on) | (apply Exists.intro; refine And.intro (fun wq hq => ?_) ?_; (focus (skip; (try go_simp); first | done | rfl | (fail))); go_simp; go_big_quiet_on)))); refine quietC_nil _ rfl ?_; intro wE hE)
  have HE := hid (HB.out.trans (hE.mono HB.out.size))
  clear hE
  go_wp2_with ((with_reducible refine wpList_unguard ?_ ?_); (focus rfl))
  go_ret2
  exact ⟨rfl, HE.out⟩
set_option maxHeartbeats 4000000 in
set_option maxRecDepth 100000 in
theorem tal_Open_no (i : DI) (n : Nat) (s : FS) (d p st : Int) (w : World) (h : DevP w i n s) (hs : i64r st) (hno : geoOk d p st = false ∨ (n : Int) < allI d p st) :
    Calls Try.prog 40 #[.pointer (some ⟨i.D, 0, none⟩), .agg #[.int .i64 d, .int .i64 p, .int .i64 st]] w fun e w' => e = .returned (.tuple #[.pointer none, .int .i64 1]) ∧ Below w.heap.size w w' := by
  obtain ⟨w1, hw1, -, hG, hB⟩ := geo_box w 64 d p st
  have HB := hid hB
  have HD := hid (h.below hB)
  have c0 := hG.c0
  have c1 := hG.c1
  have c2 := hG.c2
  clear hG hB h
  have HA := fun w => hid (geo_All d p st w hs)
  cases hok : geoOk d p st with
  | false =>
    have HR := fun w => hid (geo_Right d p st w)
    rw [hok] at HR
    clear hno hok
    (go_enter Try.func40, Try.ntmps40; try simp only [List.append])
    go_wp2_with ((with_reducible refine wpList_unguard ?_ ?_); (focus rfl))
    (refine wp_region_quietC (fun w' => Below (w1).heap.size w1 w') (by kernel_rfl) (by kernel_rfl) ((Below.refl _ _).drew) ?_; (repeat (first | go_big_quiet_skip | (go_big_quiet_want; first | (go_big_quiet_op; go_big_quiet_on) | (apply Exists.intro; refine And.intro (fun wq hq => ?_) ?_; (focus ((have a0' := (hq.cell (block_lt_of_cell c0)).trans c0; have a1' := (hq.cell (block_lt_of_cell c1)).trans c1; have a2' := (hq.cell (block_lt_of_cell c2)).trans c2); (try go_simp); first | done | rfl | ((go_at_call 86; refine Calls.mono (HR _).out ?_; rintro e w6 ⟨rfl, hb5⟩; exact ⟨rfl, hq.trans (hb5.mono hq.size)⟩)))); go_simp; go_big_quiet_on)))); refine quietC_nil _ rfl ?_; intro wE hE)
    have HE := hid (HB.out.trans (hE.mono HB.out.size))
    clear hE
    go_wp2_with ((with_reducible refine wpList_unguard ?_ ?_); (focus rfl))
    go_ret2
    exact ⟨rfl, HE.out⟩
  | true =>
    have hlt : decide ((n : Int) < allI d p st) = true := decide_eq_true (by rcases hno with h | h; rw [hok] at h; cases h; exact h)
    have HR := fun w => hid (geo_Right d p st w)
    rw [hok] at HR
    clear hno hok
    generalize allI d p st = A at *
    (go_enter Try.func40, Try.ntmps40; try simp only [List.append])
    go_wp2_with ((with_reducible refine wpList_unguard ?_ ?_); (focus rfl))
    (refine wp_region_quietC (fun w' => Below (w1).heap.size w1 w') (by kernel_rfl) (by kernel_rfl) ((Below.refl _ _).drew) ?_; (repeat (first | go_big_quiet_skip | (go_big_quiet_want; first | (go_big_quiet_op; go_big_quiet_on) | (apply Exists.intro; refine And.intro (fun wq hq => ?_) ?_; (focus ((have a0' := (hq.cell (block_lt_of_cell c0)).trans c0; have a1' := (hq.cell (block_lt_of_cell c1)).trans c1; have a2' := (hq.cell (block_lt_of_cell c2)).trans c2); (try go_simp); first | done | rfl | ((first | (go_at_call 86; refine Calls.mono (HR _).out ?_; rintro e w6 ⟨rfl, hb5⟩; exact ⟨rfl, hq.trans (hb5.mono hq.size)⟩) | (go_at_call 30; refine Calls.mono (dev_Sectors i n s _ (HD.out.below hq)) ?_; rintro e w6 ⟨rfl, rfl⟩; exact ⟨rfl, hq⟩) | (go_at_call 47; refine Calls.mono (HA _).out ?_; rintro e w6 ⟨rfl, hb5⟩; exact ⟨rfl, hq.trans (hb5.mono hq.size)⟩))))); go_simp; go_big_quiet_on)))); refine quietC_nil _ rfl ?_; intro wE hE)
    have HE := hid (HB.out.trans (hE.mono HB.out.size))
    clear hE
    go_wp2_with ((with_reducible refine wpList_unguard ?_ ?_); (focus rfl))
    go_ret2
    exact ⟨rfl, HE.out⟩
end Go.Proofs.Ytiicbbhjepkndaa
