/-
  TallyNone, walked.
-/
import Derived.Test.YtiicbbhjepkndaaTal7
namespace Go.Proofs.Ytiicbbhjepkndaa
open Go.RowKit Tri

set_option maxHeartbeats 4000000 in
set_option maxRecDepth 100000 in
theorem tallyNone.walk (x00 x01 x02 : Int) (w : World) (w0 : Tri.i64ok x00 ∧ Tri.i64ok x01 ∧ Tri.i64ok x02) :
    Calls Try.prog 9 #[.agg #[.int .i64 x00, .int .i64 x01, .int .i64 x02]] w fun e w' => e = .returned (.bool true) ∧ Below w.heap.size w w' := by
  obtain ⟨w1, hw1, -, hG, hB⟩ := geo_box w 64 x00 x01 x02
  have HB := hid hB
  have HG := hid hG
  have HS : Hid (i64r x02) := w0.2.2
  clear hG hB w0
  (go_enter Try.func9, Try.ntmps9; try simp only [List.append])
  go_wp2_with ((with_reducible refine wpList_unguard ?_ ?_); (focus rfl))
  refine Calls.mono (law16_awake w1) ?_; rintro e w2 ⟨rfl, hb⟩
  have HB2 := hid (HB.out.trans (hb.mono HB.out.size))
  have HG2 := hid (HG.out.below hb)
  clear hb HB HG
  go_wp2_with ((with_reducible refine wpList_unguard ?_ ?_); (focus rfl))
  refine Calls.mono (law15_Geo w2) ?_; rintro e w3 ⟨rfl, hb⟩
  have HB3 := hid (HB2.out.trans (hb.mono HB2.out.size))
  have HG3 := hid (HG2.out.below hb)
  clear hb HB2 HG2
  go_wp2_with ((with_reducible refine wpList_unguard ?_ ?_); (focus rfl))
  refine Calls.mono (tal_Open_nil 1 2 1 w3) ?_; rintro e w4 ⟨rfl, hb⟩
  have HB4 := hid (HB3.out.trans (hb.mono HB3.out.size))
  have HG4 := hid (HG3.out.below hb)
  clear hb HB3 HG3
  go_wp2_with ((with_reducible refine wpList_unguard ?_ ?_); (focus rfl))
  refine Calls.mono (law16_blank w4) ?_; rintro e w5 ⟨i, rfl, hwz, hD, hb⟩
  have HB5 := hid (HB4.out.trans (hb.mono HB4.out.size))
  have HG5 := hid (HG4.out.below hb)
  have HD5 := hid hD
  have hwi : w.heap.size ≤ i.lo := Nat.le_trans HB4.out.size hwz
  have hwl : w.heap.size < i.lo := Nat.lt_of_lt_of_le HG4.out.lt hwz
  clear hb HB4 HG4 hD hwz
  have c0 := HG5.out.c0
  have c1 := HG5.out.c1
  have c2 := HG5.out.c2
  go_wp2_with ((with_reducible refine wpList_unguard ?_ ?_); (focus rfl))
  cases hok : geoOk x00 x01 x02 with
  | false =>
    refine Calls.mono (tal_Open_no i 27 (newS 27) x00 x01 x02 w5 HD5.out HS.out (.inl hok)) ?_; rintro e w6 ⟨rfl, hb⟩
    have HB6 := hid (HB5.out.trans (hb.mono HB5.out.size))
    have HG6 := hid (HG5.out.below hb)
    have HD6 := hid (HD5.out.below hb)
    clear hb HB5 HG5 HD5 c0 c1 c2
    have c0 := HG6.out.c0
    have c1 := HG6.out.c1
    have c2 := HG6.out.c2
    have HR := hid (ref09_Right x00 x01 x02 w6)
    rw [hok] at HR
    clear hok
    go_wp2_with ((with_reducible refine wpList_unguard ?_ ?_); (focus rfl))
    refine Calls.mono HR.out ?_; rintro e w7 ⟨rfl, hb⟩
    have HB7 := hid (HB6.out.trans (hb.mono HB6.out.size))
    clear hb HB6 HR HG6
    go_wp2_with ((with_reducible refine wpList_unguard ?_ ?_); (focus rfl))
    refine Calls.mono (tal_Count_nil w7) ?_; rintro e w8 ⟨rfl, rfl⟩
    go_wp2_with ((with_reducible refine wpList_unguard ?_ ?_); (focus rfl))
    refine Calls.mono (tal_Bump_nil w7) ?_; rintro e w8 ⟨rfl, rfl⟩
    go_wp2_with ((with_reducible refine wpList_unguard ?_ ?_); (focus rfl))
    refine Calls.mono (tal_Reset_nil w7) ?_; rintro e w8 ⟨rfl, rfl⟩
    go_wp2_with ((with_reducible refine wpList_unguard ?_ ?_); (focus rfl))
    refine Calls.mono (tal_Even_nil w7) ?_; rintro e w8 ⟨rfl, rfl⟩
    go_wp2_with ((with_reducible refine wpList_unguard ?_ ?_); (focus rfl))
    go_ret
    exact ⟨rfl, HB7.out⟩
  | true =>
    have hA0 : 0 ≤ allI x00 x01 x02 := by have := slot_le hok; unfold allI; rw [if_pos hok]; omega
    obtain ⟨A, hA⟩ := Int.eq_ofNat_of_zero_le hA0
    clear hA0
    by_cases hAn : A ≤ 27
    · have hO := tal_Open_ok i 27 A (newS 27) x00 x01 x02 w5 HD5.out HS.out rfl hok hA hAn
      refine Calls.mono hO ?_; rintro e w6 ⟨T, rfl, hTw, hTl, -, hD, hOut⟩
      have HB6 := hid (hOut.belowB HB5.out hwi)
      have HG6 : Hid (G3 w6 w.heap.size 64 x00 x01 x02) := (hOut.block w.heap.size HG5.out.lt (.inl hwl)).trans HG5.out
      have HD6 := hid hD
      clear hO HB5 HG5 HD5 c0 c1 c2 hD hOut
      generalize opnS (newS 27) 27 (A - 2) (A - 1) = s1 at *
      have c0 := HG6.out.c0
      have c1 := HG6.out.c1
      have c2 := HG6.out.c2
      have HR := fun w => hid (ref09_Right x00 x01 x02 w)
      rw [hok] at HR
      have HAl := hid (geo_All x00 x01 x02 w6 HS.out)
      rw [hA] at HAl
      have q1 : decide ((A : Int) ≤ 27) = true := decide_eq_true (by omega)
      have q2 : decide (A ≤ 27) = true := decide_eq_true hAn
      have HS6 := fun w h => hid (dev_Sectors i 27 s1 w h)
      clear hok hAn
      go_wp2_with ((with_reducible refine wpList_unguard ?_ ?_); (focus rfl))
      refine Calls.mono (HR w6).out ?_; rintro e w7 ⟨rfl, hb⟩
      have HB7 := hid (HB6.out.trans (hb.mono HB6.out.size))
      have HG7 := hid (HG6.out.below hb)
      have HD7 := hid (HD6.out.below hb)
      clear hb HB6 HG6 HD6 c0 c1 c2 HAl
      have c0 := HG7.out.c0
      have c1 := HG7.out.c1
      have c2 := HG7.out.c2
      have HAl := hid (geo_All x00 x01 x02 w7 HS.out)
      rw [hA] at HAl
      go_wp2_with ((with_reducible refine wpList_unguard ?_ ?_); (focus rfl))
      refine Calls.mono HAl.out ?_; rintro e w8 ⟨rfl, hb⟩
      have HB8 := hid (HB7.out.trans (hb.mono HB7.out.size))
      have HD8 := hid (HD7.out.below hb)
      clear hb HB7 HG7 HD7 c0 c1 c2 HAl
      go_wp2_with ((with_reducible refine wpList_unguard ?_ ?_); (focus rfl))
      refine Calls.mono (HS6 w8 HD8.out).out ?_; rintro e w9 ⟨rfl, rfl⟩
      go_wp2_with ((with_reducible refine wpList_unguard ?_ ?_); (focus rfl))
      refine Calls.mono (tal_Count_nil w8) ?_; rintro e w9 ⟨rfl, rfl⟩
      go_wp2_with ((with_reducible refine wpList_unguard ?_ ?_); (focus rfl))
      refine Calls.mono (tal_Bump_nil w8) ?_; rintro e w9 ⟨rfl, rfl⟩
      go_wp2_with ((with_reducible refine wpList_unguard ?_ ?_); (focus rfl))
      refine Calls.mono (tal_Reset_nil w8) ?_; rintro e w9 ⟨rfl, rfl⟩
      go_wp2_with ((with_reducible refine wpList_unguard ?_ ?_); (focus rfl))
      refine Calls.mono (tal_Even_nil w8) ?_; rintro e w9 ⟨rfl, rfl⟩
      go_wp2_with ((with_reducible refine wpList_unguard ?_ ?_); (focus rfl))
      go_ret
      exact ⟨rfl, HB8.out⟩
    · have hA' : ((27 : Nat) : Int) < allI x00 x01 x02 := by rw [hA]; omega
      refine Calls.mono (tal_Open_no i 27 (newS 27) x00 x01 x02 w5 HD5.out HS.out (.inr hA')) ?_; rintro e w6 ⟨rfl, hb⟩
      have HB6 := hid (HB5.out.trans (hb.mono HB5.out.size))
      have HG6 := hid (HG5.out.below hb)
      have HD6 := hid (HD5.out.below hb)
      clear hb HB5 HG5 HD5 c0 c1 c2 hA'
      have c0 := HG6.out.c0
      have c1 := HG6.out.c1
      have c2 := HG6.out.c2
      have HR := hid (ref09_Right x00 x01 x02 w6)
      rw [hok] at HR
      have q1 : decide ((A : Int) ≤ 27) = false := decide_eq_false (by omega)
      have q2 : decide (A ≤ 27) = false := decide_eq_false hAn
      have HS6 := fun w h => hid (dev_Sectors i 27 (newS 27) w h)
      clear hok hAn
      go_wp2_with ((with_reducible refine wpList_unguard ?_ ?_); (focus rfl))
      refine Calls.mono HR.out ?_; rintro e w7 ⟨rfl, hb⟩
      have HB7 := hid (HB6.out.trans (hb.mono HB6.out.size))
      have HG7 := hid (HG6.out.below hb)
      have HD7 := hid (HD6.out.below hb)
      clear hb HB6 HG6 HD6 c0 c1 c2 HR
      have c0 := HG7.out.c0
      have c1 := HG7.out.c1
      have c2 := HG7.out.c2
      have HAl := hid (geo_All x00 x01 x02 w7 HS.out)
      rw [hA] at HAl
      go_wp2_with ((with_reducible refine wpList_unguard ?_ ?_); (focus rfl))
      refine Calls.mono HAl.out ?_; rintro e w8 ⟨rfl, hb⟩
      have HB8 := hid (HB7.out.trans (hb.mono HB7.out.size))
      have HD8 := hid (HD7.out.below hb)
      clear hb HB7 HG7 HD7 c0 c1 c2 HAl
      go_wp2_with ((with_reducible refine wpList_unguard ?_ ?_); (focus rfl))
      refine Calls.mono (HS6 w8 HD8.out).out ?_; rintro e w9 ⟨rfl, rfl⟩
      go_wp2_with ((with_reducible refine wpList_unguard ?_ ?_); (focus rfl))
      refine Calls.mono (tal_Count_nil w8) ?_; rintro e w9 ⟨rfl, rfl⟩
      go_wp2_with ((with_reducible refine wpList_unguard ?_ ?_); (focus rfl))
      refine Calls.mono (tal_Bump_nil w8) ?_; rintro e w9 ⟨rfl, rfl⟩
      go_wp2_with ((with_reducible refine wpList_unguard ?_ ?_); (focus rfl))
      refine Calls.mono (tal_Reset_nil w8) ?_; rintro e w9 ⟨rfl, rfl⟩
      go_wp2_with ((with_reducible refine wpList_unguard ?_ ?_); (focus rfl))
      refine Calls.mono (tal_Even_nil w8) ?_; rintro e w9 ⟨rfl, rfl⟩
      go_wp2_with ((with_reducible refine wpList_unguard ?_ ?_); (focus rfl))
      go_ret
      exact ⟨rfl, HB8.out⟩
end Go.Proofs.Ytiicbbhjepkndaa
