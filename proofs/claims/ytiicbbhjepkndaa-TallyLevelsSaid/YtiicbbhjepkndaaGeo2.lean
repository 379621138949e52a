/-
  Geometries: Wide, Slot, log, All, Tally, Half; the reference's Right; the statements' small geometry.
-/
import Derived.Test.YtiicbbhjepkndaaGeo
namespace Go.Proofs.Ytiicbbhjepkndaa
open Go.RowKit Tri

/-- What a method of a geometry lays first: the geometry in a block of its own. -/
theorem geo_box (w : World) (t : TypeId) (d p s : Int) : ∃ w1, w.alloc (.cells #[.int .i64 d, .int .i64 p, .int .i64 s] t) = w1 ∧ w1.heap.size = w.heap.size + 1 ∧ G3 w1 w.heap.size t d p s ∧ Below w.heap.size w w1 :=
  ⟨_, rfl, by simp, G3.new w t d p s, (Below.refl w.heap.size w).alloc (Nat.le_refl _) _⟩
def i64r (x : Int) : Prop := -9223372036854775808 ≤ x ∧ x ≤ 9223372036854775807
set_option maxHeartbeats 4000000 in
set_option maxRecDepth 100000 in
theorem geo_Wide (d p s : Int) (w : World) :
    Calls Try.prog 123 #[.agg #[.int .i64 d, .int .i64 p, .int .i64 s]] w fun e w' => e = .returned (.int .i64 (wideI d p s)) ∧ Below w.heap.size w w' := by
  obtain ⟨w1, hw1, -, hG, hB⟩ := geo_box w 64 d p s
  have c0 := hG.c0
  have c1 := hG.c1
  have c2 := hG.c2
  have HG := hid hG
  have HB := hid hB
  clear hG hB
  have HR := hid (geo_Right d p s w1)
  cases hok : geoOk d p s with
  | false =>
    have HE : Hid (wideI d p s = 0) := by show _ = _; unfold wideI; rw [hok]; rfl
    rw [hok] at HR
    (go_enter Try.func123, Try.ntmps123; try simp only [List.append])
    go_wp2_with ((with_reducible refine wpList_unguard ?_ ?_); (focus rfl))
    refine Calls.mono HR.out ?_; rintro e w3 ⟨rfl, hb⟩
    have HB3 := hid (HB.out.trans (hb.mono HB.out.size))
    clear hb HB
    go_wp2_with ((with_reducible refine wpList_unguard ?_ ?_); (focus rfl))
    go_ret
    rw [HE.out]
    exact ⟨rfl, HB3.out⟩
  | true =>
    have HE : Hid (wideI d p s = d + p) := by show _ = _; unfold wideI; rw [hok]; rfl
    obtain ⟨h1, h2, h3⟩ := geoOk_iff.1 hok
    rw [hok] at HR
    (go_enter Try.func123, Try.ntmps123; try simp only [List.append])
    go_wp2_with ((with_reducible refine wpList_unguard ?_ ?_); (focus rfl))
    refine Calls.mono HR.out ?_; rintro e w3 ⟨rfl, hb⟩
    have HG3 := HG.out.below hb
    have HB3 := hid (HB.out.trans (hb.mono HB.out.size))
    clear hb HB c0 c1 c2
    have c0 := HG3.c0
    have c1 := HG3.c1
    clear HG3
    go_wp2_with ((with_reducible refine wpList_unguard ?_ ?_); (focus rfl))
    go_ret
    rw [HE.out]
    exact ⟨rfl, HB3.out⟩
theorem slot_eq (d p s : Int) : wideI d p s * max s 0 = slotI d p s := by
  unfold wideI slotI
  cases h : geoOk d p s with
  | false => simp
  | true =>
    obtain ⟨_, _, h3⟩ := geoOk_iff.1 h
    rw [if_pos rfl, if_pos rfl, show max s 0 = s from by omega]
theorem slotI_range (d p s : Int) : 0 ≤ slotI d p s ∧ slotI d p s ≤ 112 := by
  unfold slotI
  cases h : geoOk d p s with
  | false => simp
  | true => have := slot_le h; rw [if_pos rfl]; omega
theorem wideI_range (d p s : Int) : 0 ≤ wideI d p s ∧ wideI d p s ≤ 14 := by
  unfold wideI
  cases h : geoOk d p s with
  | false => simp
  | true => obtain ⟨_, _, h3⟩ := geoOk_iff.1 h; rw [if_pos rfl]; omega
set_option maxHeartbeats 4000000 in
set_option maxRecDepth 100000 in
theorem geo_Slot (d p s : Int) (w : World) (hs : i64r s) :
    Calls Try.prog 113 #[.agg #[.int .i64 d, .int .i64 p, .int .i64 s]] w fun e w' => e = .returned (.int .i64 (slotI d p s)) ∧ Below w.heap.size w w' := by
  obtain ⟨w1, hw1, -, hG, hB⟩ := geo_box w 64 d p s
  have HG := hid hG
  have HB := hid hB
  clear hG hB
  have HE := hid (slot_eq d p s)
  have HR := slotI_range d p s
  have HWR := wideI_range d p s
  generalize slotI d p s = S at *
  generalize hWd : wideI d p s = W at *
  have HWd := hid hWd
  clear hWd
  have c0 := HG.out.c0
  have c1 := HG.out.c1
  have c2 := HG.out.c2
  rcases Int.lt_or_le s 0 with h0 | h0
  · have hm : max s 0 = 0 := by omega
    rw [hm, Int.mul_zero] at HE
    have HE2 : Hid (S = 0) := HE.out.symm
    clear hm HE
    (go_enter Try.func113, Try.ntmps113; try simp only [List.append])
    go_wp2_with ((with_reducible refine wpList_unguard ?_ ?_); (focus rfl))
    (refine wp_region_quietC (fun w' => Below (w1).heap.size w1 w') (by kernel_rfl) (by kernel_rfl) ((Below.refl _ _).drew) ?_; (repeat (first | go_big_quiet_skip | (go_big_quiet_want; first | (go_big_quiet_op; go_big_quiet_on) | (apply Exists.intro; refine And.intro (fun wq hq => ?_) ?_; (focus ((have a0' := (hq.cell (block_lt_of_cell c0)).trans c0; have a1' := (hq.cell (block_lt_of_cell c1)).trans c1; have a2' := (hq.cell (block_lt_of_cell c2)).trans c2); (try go_simp); first | done | rfl | ((go_at_call 123; refine Calls.mono (geo_Wide d p s _) ?_; rintro e w6 ⟨rfl, hb5⟩; exact ⟨by rw [HWd.out], hq.trans (hb5.mono hq.size)⟩)))); go_simp; go_big_quiet_on)))); refine quietC_nil _ rfl ?_; intro wE hE)
    have HE3 := hid (HB.out.trans (hE.mono HB.out.size))
    clear hE
    have hw0 : IntKind.i64.wrap 0 = 0 := by decide
    go_wp2_with ((with_reducible refine wpList_unguard ?_ ?_); (focus rfl))
    go_ret
    rw [HE2.out]
    exact ⟨rfl, HE3.out⟩
  · have hm : max s 0 = s := by omega
    rw [hm] at HE
    have hws : IntKind.i64.wrap (W * s) = S := by rw [HE.out, IntKind.wrap_i64]; omega
    clear hm
    (go_enter Try.func113, Try.ntmps113; try simp only [List.append])
    go_wp2_with ((with_reducible refine wpList_unguard ?_ ?_); (focus rfl))
    (refine wp_region_quietC (fun w' => Below (w1).heap.size w1 w') (by kernel_rfl) (by kernel_rfl) ((Below.refl _ _).drew) ?_; (repeat (first | go_big_quiet_skip | (go_big_quiet_want; first | (go_big_quiet_op; go_big_quiet_on) | (apply Exists.intro; refine And.intro (fun wq hq => ?_) ?_; (focus ((have a0' := (hq.cell (block_lt_of_cell c0)).trans c0; have a1' := (hq.cell (block_lt_of_cell c1)).trans c1; have a2' := (hq.cell (block_lt_of_cell c2)).trans c2); (try go_simp); first | done | rfl | ((go_at_call 123; refine Calls.mono (geo_Wide d p s _) ?_; rintro e w6 ⟨rfl, hb5⟩; exact ⟨by rw [HWd.out], hq.trans (hb5.mono hq.size)⟩)))); go_simp; go_big_quiet_on)))); refine quietC_nil _ rfl ?_; intro wE hE)
    have HE3 := hid (HB.out.trans (hE.mono HB.out.size))
    clear hE
    go_wp2_with ((with_reducible refine wpList_unguard ?_ ?_); (focus rfl))
    go_ret
    exact ⟨rfl, HE3.out⟩
set_option maxHeartbeats 4000000 in
set_option maxRecDepth 100000 in
theorem geo_log (d p s : Int) (w : World) (hs : i64r s) :
    Calls Try.prog 89 #[.agg #[.int .i64 d, .int .i64 p, .int .i64 s]] w fun e w' => e = .returned (.int .i64 (3 * slotI d p s)) ∧ Below w.heap.size w w' := by
  obtain ⟨w1, hw1, -, hG, hB⟩ := geo_box w 64 d p s
  have HB := hid hB
  have c0 := hG.c0
  have c1 := hG.c1
  have c2 := hG.c2
  clear hG hB
  have HR := slotI_range d p s
  have HS := hid (geo_Slot d p s w1 hs)
  generalize slotI d p s = S at *
  (go_enter Try.func89, Try.ntmps89; try simp only [List.append])
  go_wp2_with ((with_reducible refine wpList_unguard ?_ ?_); (focus rfl))
  refine Calls.mono HS.out ?_; rintro e w3 ⟨rfl, hb⟩
  have HB3 := hid (HB.out.trans (hb.mono HB.out.size))
  clear hb HB
  go_wp2_with ((with_reducible refine wpList_unguard ?_ ?_); (focus rfl))
  go_ret
  exact ⟨rfl, HB3.out⟩
set_option maxHeartbeats 4000000 in
set_option maxRecDepth 100000 in
theorem geo_All (d p s : Int) (w : World) (hs : i64r s) :
    Calls Try.prog 47 #[.agg #[.int .i64 d, .int .i64 p, .int .i64 s]] w fun e w' => e = .returned (.int .i64 (allI d p s)) ∧ Below w.heap.size w w' := by
  obtain ⟨w1, hw1, -, hG, hB⟩ := geo_box w 64 d p s
  have HB := hid hB
  have HG := hid hG
  have c0 := hG.c0
  have c1 := hG.c1
  have c2 := hG.c2
  clear hG hB
  have HR := hid (geo_Right d p s w1)
  cases hok : geoOk d p s with
  | false =>
    have HE : Hid (allI d p s = 0) := by show _ = _; unfold allI; rw [hok]; rfl
    rw [hok] at HR
    (go_enter Try.func47, Try.ntmps47; try simp only [List.append])
    go_wp2_with ((with_reducible refine wpList_unguard ?_ ?_); (focus rfl))
    refine Calls.mono HR.out ?_; rintro e w3 ⟨rfl, hb⟩
    have HB3 := hid (HB.out.trans (hb.mono HB.out.size))
    clear hb HB
    go_wp2_with ((with_reducible refine wpList_unguard ?_ ?_); (focus rfl))
    go_ret
    rw [HE.out]
    exact ⟨rfl, HB3.out⟩
  | true =>
    have HE : Hid (allI d p s = 3 * slotI d p s + 18) := by show _ = _; unfold allI slotI; rw [hok]; rfl
    have HSR := slotI_range d p s
    have HL := fun w => hid (geo_log d p s w hs)
    rw [hok] at HR
    generalize slotI d p s = S at *
    (go_enter Try.func47, Try.ntmps47; try simp only [List.append])
    go_wp2_with ((with_reducible refine wpList_unguard ?_ ?_); (focus rfl))
    refine Calls.mono HR.out ?_; rintro e w3 ⟨rfl, hb⟩
    have HG3 := HG.out.below hb
    have HB3 := hid (HB.out.trans (hb.mono HB.out.size))
    clear hb HB c0 c1 c2
    have c0 := HG3.c0
    have c1 := HG3.c1
    have c2 := HG3.c2
    clear HG3
    go_wp2_with ((with_reducible refine wpList_unguard ?_ ?_); (focus rfl))
    refine Calls.mono (HL w3).out ?_; rintro e w4 ⟨rfl, hb⟩
    have HB4 := hid (HB3.out.trans (hb.mono HB3.out.size))
    clear hb HB3
    go_wp2_with ((with_reducible refine wpList_unguard ?_ ?_); (focus rfl))
    go_ret
    rw [HE.out]
    refine ⟨?_, HB4.out⟩
    refine congrArg (fun x => Ending.returned (Value.int .i64 x)) ?_
    show _ + _ = _
    omega
def tallyI (d p s c : Int) : Int := if geoOk d p s && decide (0 ≤ c ∧ c ≤ 1) then allI d p s - 2 + c else 0
def tallyE (d p s c : Int) : Int := if geoOk d p s then (if 0 ≤ c ∧ c ≤ 1 then 0 else 2) else 1
set_option maxHeartbeats 4000000 in
set_option maxRecDepth 100000 in
theorem geo_Tally (d p s c : Int) (w : World) (hs : i64r s) :
    Calls Try.prog 85 #[.agg #[.int .i64 d, .int .i64 p, .int .i64 s], .int .i64 c] w fun e w' => e = .returned (.tuple #[.int .i64 (tallyI d p s c), .int .i64 (tallyE d p s c)]) ∧ Below w.heap.size w w' := by
  obtain ⟨w1, hw1, -, hG, hB⟩ := geo_box w 64 d p s
  have HB := hid hB
  have HG := hid hG
  have c0 := hG.c0
  have c1 := hG.c1
  have c2 := hG.c2
  clear hG hB
  have HR := hid (geo_Right d p s w1)
  cases hok : geoOk d p s with
  | false =>
    have HE : Hid (tallyI d p s c = 0) := by show _ = _; unfold tallyI; rw [hok]; rfl
    have HE2 : Hid (tallyE d p s c = 1) := by show _ = _; unfold tallyE; rw [hok]; rfl
    rw [hok] at HR
    (go_enter Try.func85, Try.ntmps85; try simp only [List.append])
    go_wp2_with ((with_reducible refine wpList_unguard ?_ ?_); (focus rfl))
    refine Calls.mono HR.out ?_; rintro e w3 ⟨rfl, hb⟩
    have HB3 := hid (HB.out.trans (hb.mono HB.out.size))
    clear hb HB
    go_wp2_with ((with_reducible refine wpList_unguard ?_ ?_); (focus rfl))
    go_ret2
    rw [HE.out, HE2.out]
    exact ⟨rfl, HB3.out⟩
  | true =>
    have HA := fun w => hid (geo_All d p s w hs)
    have HAR : Hid (27 ≤ allI d p s ∧ allI d p s ≤ 354) := by
      show _ ∧ _
      have := slot_le hok
      unfold allI
      rw [if_pos hok]
      omega
    have hAR := HAR.out
    rw [hok] at HR
    have HT : Hid (tallyI d p s c = if 0 ≤ c ∧ c ≤ 1 then allI d p s - 2 + c else 0) := by
      show _ = _
      unfold tallyI
      rw [hok]
      by_cases h : 0 ≤ c ∧ c ≤ 1 <;> simp [h]
    have HT2 : Hid (tallyE d p s c = if 0 ≤ c ∧ c ≤ 1 then 0 else 2) := by show _ = _; unfold tallyE; rw [hok]; rfl
    generalize allI d p s = A at *
    generalize tallyI d p s c = TI at *
    generalize tallyE d p s c = TE at *
    have hwb : withinB [0, c, 1] = decide (0 ≤ c ∧ c ≤ 1) := by simp only [withinB, Bool.and_true]
    by_cases hc : 0 ≤ c ∧ c ≤ 1
    · have HT' : Hid (TI = A - 2 + c) := by show _ = _; rw [HT.out, if_pos hc]
      have HT2' : Hid (TE = 0) := by show _ = _; rw [HT2.out, if_pos hc]
      rw [decide_eq_true hc] at hwb
      clear HT HT2
      (go_enter Try.func85, Try.ntmps85; try simp only [List.append])
      go_wp2_with ((with_reducible refine wpList_unguard ?_ ?_); (focus rfl))
      refine Calls.mono HR.out ?_; rintro e w3 ⟨rfl, hb⟩
      have HG3 := hid (HG.out.below hb)
      have HB3 := hid (HB.out.trans (hb.mono HB.out.size))
      have hb2 := (Below.refl w3.heap.size w3).alloc (Nat.le_refl _) (.cells ([0, c, 1].map fun x => Value.int .i64 x).toArray 3)
      have hz := cellsZ_new w3 [0, c, 1]
      have HG4 := hid (HG3.out.below hb2)
      have HB4 := hid (HB3.out.trans (hb2.mono HB3.out.size))
      have hwi := geo_within (some ⟨w3.heap.size, 0, none⟩) 3 3 [0, c, 1] _ rfl (Nat.le_refl _) hz (by simp) (by simp)
      rw [hwb] at hwi
      clear hb HB c0 c1 c2 hb2 hz HB3 HG3
      go_wp2_with ((with_reducible refine wpList_unguard ?_ ?_); (focus rfl))
      refine Calls.mono hwi ?_; rintro e w5 ⟨rfl, hb⟩
      have HG5 := HG4.out.below hb
      have HB5 := hid (HB4.out.trans (hb.mono HB4.out.size))
      clear hb HB4 HG4 hwi
      have c0 := HG5.c0
      have c1 := HG5.c1
      have c2 := HG5.c2
      clear HG5
      go_wp2_with ((with_reducible refine wpList_unguard ?_ ?_); (focus rfl))
      refine Calls.mono (HA w5).out ?_; rintro e w6 ⟨rfl, hb⟩
      have HB6 := hid (HB5.out.trans (hb.mono HB5.out.size))
      clear hb HB5
      go_wp2_with ((with_reducible refine wpList_unguard ?_ ?_); (focus rfl))
      go_ret2
      rw [HT'.out, HT2'.out]
      exact ⟨rfl, HB6.out⟩
    · have HT' : Hid (TI = 0) := by show _ = _; rw [HT.out, if_neg hc]
      have HT2' : Hid (TE = 2) := by show _ = _; rw [HT2.out, if_neg hc]
      rw [decide_eq_false hc] at hwb
      clear HT HT2
      (go_enter Try.func85, Try.ntmps85; try simp only [List.append])
      go_wp2_with ((with_reducible refine wpList_unguard ?_ ?_); (focus rfl))
      refine Calls.mono HR.out ?_; rintro e w3 ⟨rfl, hb⟩
      have HG3 := hid (HG.out.below hb)
      have HB3 := hid (HB.out.trans (hb.mono HB.out.size))
      have hb2 := (Below.refl w3.heap.size w3).alloc (Nat.le_refl _) (.cells ([0, c, 1].map fun x => Value.int .i64 x).toArray 3)
      have hz := cellsZ_new w3 [0, c, 1]
      have HB4 := hid (HB3.out.trans (hb2.mono HB3.out.size))
      have hwi := geo_within (some ⟨w3.heap.size, 0, none⟩) 3 3 [0, c, 1] _ rfl (Nat.le_refl _) hz (by simp) (by simp)
      rw [hwb] at hwi
      clear hb HB c0 c1 c2 hb2 hz HB3 HG3
      go_wp2_with ((with_reducible refine wpList_unguard ?_ ?_); (focus rfl))
      refine Calls.mono hwi ?_; rintro e w5 ⟨rfl, hb⟩
      have HB5 := hid (HB4.out.trans (hb.mono HB4.out.size))
      clear hb HB4 hwi
      go_wp2_with ((with_reducible refine wpList_unguard ?_ ?_); (focus rfl))
      go_ret2
      rw [HT'.out, HT2'.out]
      exact ⟨rfl, HB5.out⟩
set_option maxHeartbeats 4000000 in
set_option maxRecDepth 100000 in
theorem ref09_Right (d p s : Int) (w : World) :
    Calls Try.prog 46 #[.agg #[.int .i64 d, .int .i64 p, .int .i64 s]] w fun e w' => e = .returned (.bool (geoOk d p s)) ∧ Below w.heap.size w w' := by
  obtain ⟨w1, hw1, -, hG, hB⟩ := geo_box w 75 d p s
  have HB := hid hB
  have c0 := hG.c0
  have c1 := hG.c1
  have c2 := hG.c2
  clear hG hB
  obtain ⟨R, hR⟩ : ∃ R, geoOk d p s = R := ⟨_, rfl⟩
  rw [hR]
  have HR := hid hR
  clear hR
  (go_enter Try.func46, Try.ntmps46; try simp only [List.append])
  go_wp2_with ((with_reducible refine wpList_unguard ?_ ?_); (focus rfl))
  all_goals
    go_ret
    refine ⟨?_, HB.out⟩
    refine congrArg (fun b => Ending.returned (Value.bool b)) ?_
    rw [← HR.out, Bool.eq_iff_iff, geoOk_iff]
    simp
    try omega
theorem law15_Geo (w : World) : Calls Try.prog 38 #[] w fun e w' => e = .returned (.agg #[.int .i64 1, .int .i64 2, .int .i64 1]) ∧ Below w.heap.size w w' := by
  (go_enter Try.func38, Try.ntmps38; try simp only [List.append])
  go_wp2_with ((with_reducible refine wpList_unguard ?_ ?_); (focus rfl))
  go_returns
  exact ⟨rfl, (Below.refl w.heap.size w).alloc (Nat.le_refl _) _⟩
end Go.Proofs.Ytiicbbhjepkndaa
