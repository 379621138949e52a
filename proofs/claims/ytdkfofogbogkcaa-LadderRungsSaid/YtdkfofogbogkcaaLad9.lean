/-
  LadderRungs, walked.
-/
import Derived.Test.YtdkfofogbogkcaaLad8
namespace Go.Proofs.Ytdkfofogbogkcaa
open Go.RowKit

theorem rungsL_facts (s0 v0 b0 s1 v1 b1 s2 v2 b2 ac fl cu it : Int) : 0 < (rungsL s0 v0 b0 s1 v1 b1 s2 v2 b2 ac fl cu it).length ∧ (rungsL s0 v0 b0 s1 v1 b1 s2 v2 b2 ac fl cu it).length ≤ 3 ∧ (rungsL s0 v0 b0 s1 v1 b1 s2 v2 b2 ac fl cu it).getD ((rungsL s0 v0 b0 s1 v1 b1 s2 v2 b2 ac fl cu it).length - 1) 0 = 0 := by
  unfold rungsL rungsOf
  repeat' split
  all_goals simp
theorem sameF_le (s0 v0 s1 v1 s2 v2 : Int) (slot : Int) : (sameL s0 v0 s1 v1 s2 v2 slot).length ≤ 3 := by
  unfold sameL
  split
  · exact sameF_len _ _ _ _ _ _ _ _
  · simp
set_option maxHeartbeats 8000000 in
set_option maxRecDepth 100000 in
theorem ladderRungs_main (s0 v0 b0 s1 v1 b1 s2 v2 b2 ac fl cu it : Int) (s : Int) (w : World) :
    Calls Try.prog 3 #[.agg #[.int .i64 s0, .int .i64 v0, .int .i64 b0, .int .i64 s1, .int .i64 v1, .int .i64 b1, .int .i64 s2, .int .i64 v2, .int .i64 b2, .int .i64 ac, .int .i64 fl, .int .i64 cu, .int .i64 it], .int .i64 s] w fun e w' => e = .returned (.bool true) ∧ Below w.heap.size w w' := by
  have hb0 : Below w.heap.size w (w.alloc (.cells #[.int .i64 s0, .int .i64 v0, .int .i64 b0, .int .i64 s1, .int .i64 v1, .int .i64 b1, .int .i64 s2, .int .i64 v2, .int .i64 b2, .int .i64 ac, .int .i64 fl, .int .i64 cu, .int .i64 it] 26)) := (Below.refl _ _).alloc (Nat.le_refl _) _
  have hM := Blk.new w 26 #[.int .i64 s0, .int .i64 v0, .int .i64 b0, .int .i64 s1, .int .i64 v1, .int .i64 b1, .int .i64 s2, .int .i64 v2, .int .i64 b2, .int .i64 ac, .int .i64 fl, .int .i64 cu, .int .i64 it]
  obtain ⟨w1, hw1⟩ : ∃ u, w.alloc (.cells #[.int .i64 s0, .int .i64 v0, .int .i64 b0, .int .i64 s1, .int .i64 v1, .int .i64 b1, .int .i64 s2, .int .i64 v2, .int .i64 b2, .int .i64 ac, .int .i64 fl, .int .i64 cu, .int .i64 it] 26) = u := ⟨_, rfl⟩
  rw [hw1] at hb0 hM
  have HM1 := hid hM
  have HB1 := hid hb0
  clear hb0 hM
  (go_enter Try.func3, Try.ntmps3; try simp only [List.append])
  go_wp2_with ((with_reducible refine wpList_unguard ?_ ?_); (focus rfl))
  refine Calls.mono (law23_awake w1) ?_; rintro e w2 ⟨rfl, hb⟩
  have HM2 := hid (HM1.out.below hb)
  have HB2 := hid (HB1.out.trans (hb.mono HB1.out.size))
  clear hb HM1 HB1 hw1
  obtain ⟨m0, m1, m2, m3, m4, m5, m6, m7, m8, m9, m10, m11, m12⟩ := Blk.mm HM2.out
  go_wp2_with ((with_reducible refine wpList_unguard ?_ ?_); (focus rfl))
  clear m0 m1 m2 m3 m4 m5 m6 m7 m8 m9 m10 m11 m12
  refine Calls.mono (law17_Plain s0 v0 b0 s1 v1 b1 s2 v2 b2 ac fl cu it w2) ?_; rintro e w3 ⟨rfl, hb⟩
  have hA : Below w3.heap.size w3 (w3.alloc (.cells #[.int .i64 s0, .int .i64 v0, .int .i64 b0, .int .i64 s1, .int .i64 v1, .int .i64 b1, .int .i64 s2, .int .i64 v2, .int .i64 b2, .int .i64 ac, .int .i64 fl, .int .i64 cu, .int .i64 it] 31)) := (Below.refl _ _).alloc (Nat.le_refl _) _
  have HB4 := hid ((HB2.out.trans (hb.mono HB2.out.size)).trans (hA.mono (HB2.out.trans (hb.mono HB2.out.size)).size))
  have hM4 := ((HM2.out.below hb).below hA)
  have HM4 := hid hM4
  have HK4 := hid (Blk.new w3 31 #[.int .i64 s0, .int .i64 v0, .int .i64 b0, .int .i64 s1, .int .i64 v1, .int .i64 b1, .int .i64 s2, .int .i64 v2, .int .i64 b2, .int .i64 ac, .int .i64 fl, .int .i64 cu, .int .i64 it])
  clear hb hA HM2 HB2
  obtain ⟨m0, m1, m2, m3, m4, m5, m6, m7, m8, m9, m10, m11, m12⟩ := Blk.mm hM4
  go_wp2_with ((with_reducible refine wpList_unguard ?_ ?_); (focus rfl))
  clear m0 m1 m2 m3 m4 m5 m6 m7 m8 m9 m10 m11 m12
  generalize w3.alloc (.cells #[.int .i64 s0, .int .i64 v0, .int .i64 b0, .int .i64 s1, .int .i64 v1, .int .i64 b1, .int .i64 s2, .int .i64 v2, .int .i64 b2, .int .i64 ac, .int .i64 fl, .int .i64 cu, .int .i64 it] 31) = w4 at *
  generalize w3.heap.size = R at *
  obtain ⟨hl0, hl3, hll⟩ := rungsL_facts s0 v0 b0 s1 v1 b1 s2 v2 b2 ac fl cu it
  refine Calls.mono (lad_Rungs s0 v0 b0 s1 v1 b1 s2 v2 b2 ac fl cu it w4) ?_; rintro e w5 ⟨⟨p, c, rfl, hle, hc⟩, hb⟩
  have HC5 := hid hc
  have HM5 := hid (HM4.out.below hb)
  have HK5 := hid (HK4.out.below hb)
  have HB5 := hid (HB4.out.trans (hb.mono HB4.out.size))
  have HLL := hid hll
  clear hb hc HM4 HB4 HK4 hll hM4 hle
  generalize hLe : rungsL s0 v0 b0 s1 v1 b1 s2 v2 b2 ac fl cu it = L at *
  have HLe := hid hLe
  clear hLe
  obtain ⟨m0, m1, m2, m3, m4, m5, m6, m7, m8, m9, m10, m11, m12⟩ := Blk.mm HM5.out
  go_wp2_with ((with_reducible refine wpList_unguard ?_ ?_); (focus rfl))
  clear m0 m1 m2 m3 m4 m5 m6 m7 m8 m9 m10 m11 m12
  refine Calls.mono (lad_Target s0 v0 b0 s1 v1 b1 s2 v2 b2 ac fl cu it w5) ?_; rintro e w6 ⟨rfl, hb⟩
  have HC6 := hid (HC5.out.below hb)
  have HM6 := hid (HM5.out.below hb)
  have HK6 := hid (HK5.out.below hb)
  have HB6 := hid (HB5.out.trans (hb.mono HB5.out.size))
  clear hb HC5 HM5 HK5 HB5
  have HT : Hid (targI s0 v0 b0 s1 v1 b1 s2 v2 b2 ac fl cu it = if metaOk s0 v0 b0 s1 v1 b1 s2 v2 b2 ac fl cu it = true then (if ac = 1 then 2 else 1) else 0) := rfl
  generalize targI s0 v0 b0 s1 v1 b1 s2 v2 b2 ac fl cu it = T at *
  generalize hBB : metaOk s0 v0 b0 s1 v1 b1 s2 v2 b2 ac fl cu it = B at *
  have HBB := hid hBB
  clear hBB
  obtain ⟨m0, m1, m2, m3, m4, m5, m6, m7, m8, m9, m10, m11, m12⟩ := Blk.mm HK6.out
  go_wp2_with ((with_reducible refine wpList_unguard ?_ ?_); (focus rfl))
  refine Calls.mono (ref23_Rungs s0 v0 b0 s1 v1 b1 s2 v2 b2 ac fl cu it w6) ?_; rintro e w7 ⟨⟨q, d, rfl, hle, hc⟩, hb⟩
  rw [HLe.out] at hc ⊢
  have HD7 := hid hc
  have HC7 := hid (HC6.out.below hb)
  have HM7 := hid (HM6.out.below hb)
  have HK7 := hid (HK6.out.below hb)
  have HB7 := hid (HB6.out.trans (hb.mono HB6.out.size))
  clear m0 m1 m2 m3 m4 m5 m6 m7 m8 m9 m10 m11 m12
  clear hb hc HC6 HM6 HK6 HB6 hle
  go_wp2_with ((with_reducible refine wpList_unguard ?_ ?_); (focus rfl))
  refine Calls.mono (ref01_Same p q _ _ c d L L w7 rfl rfl HC7.out HD7.out (by omega) (by omega)) ?_; rintro e w8 ⟨rfl, hb⟩
  rw [decide_eq_true (rfl : L = L)]
  have HM8 := hid (HM7.out.below hb)
  have HK8 := hid (HK7.out.below hb)
  have HB8 := hid (HB7.out.trans (hb.mono HB7.out.size))
  obtain ⟨pa, po, rfl, hcell⟩ := (HC7.out.below hb) (L.length - 1) (by omega)
  rw [HLL.out] at hcell
  clear hb HC7 HD7 HM7 HK7 HB7
  have e1 : (L.length : Int) - 1 = ((L.length - 1 : Nat) : Int) := by omega
  have e2 : ((L.length - 1 : Nat) : Int) < (L.length : Int) := by omega
  obtain ⟨m0, m1, m2, m3, m4, m5, m6, m7, m8, m9, m10, m11, m12⟩ := Blk.mm HK8.out
  go_wp2_with ((with_reducible refine wpList_unguard ?_ ?_); (focus rfl))
  refine Calls.mono (ref17_Right s0 v0 b0 s1 v1 b1 s2 v2 b2 ac fl cu it w8) ?_; rintro e w9 ⟨rfl, hb⟩
  rw [HBB.out]
  have HM9 := hid (HM8.out.below hb)
  have HK9 := hid (HK8.out.below hb)
  have HB9 := hid (HB8.out.trans (hb.mono HB8.out.size))
  clear m0 m1 m2 m3 m4 m5 m6 m7 m8 m9 m10 m11 m12
  clear hb HM8 HK8 HB8 hcell e1 e2
  have hBB : (B != B) = false := by cases B <;> rfl
  obtain ⟨z, hz⟩ : ∃ z, (ac == (1 : Int)) = z := ⟨_, rfl⟩
  have HT' : Hid (T = if B = true then (if z = true then 2 else 1) else 0) := by
    show _ = _
    rw [HT.out]
    cases B
    · rfl
    · rw [if_pos rfl, if_pos rfl, ← hz]
      by_cases h : ac = 1
      · rw [if_pos h, if_pos (by simpa using h)]
      · rw [if_neg h, if_neg (by simpa using h)]
  clear HT HBB HLL HLe
  obtain ⟨m0, m1, m2, m3, m4, m5, m6, m7, m8, m9, m10, m11, m12⟩ := Blk.mm HM9.out
  obtain ⟨u, hu⟩ : ∃ u : Int, u = T := ⟨_, rfl⟩
  have hcase : (B = true ∧ z = true ∧ T = 2) ∨ (B = true ∧ z = false ∧ T = 1) ∨ (B = false ∧ T = 0) := by
    have := HT'.out
    cases B <;> cases z <;> simp at this ⊢ <;> exact this
  clear HT' hu
  clear u
  rcases hcase with ⟨rfl, rfl, rfl⟩ | ⟨rfl, rfl, rfl⟩ | ⟨rfl, rfl⟩
  all_goals
    go_wp2_with ((with_reducible refine wpList_unguard ?_ ?_); (focus rfl))
    clear m0 m1 m2 m3 m4 m5 m6 m7 m8 m9 m10 m11 m12
    refine Calls.mono (lad_Same s0 v0 b0 s1 v1 b1 s2 v2 b2 ac fl cu it s w9) ?_; rintro e wa ⟨⟨p2, c2, rfl, hle, hc⟩, hb⟩
    have HCa := hid hc
    have HKa := hid (HK9.out.below hb)
    have HBa := hid (HB9.out.trans (hb.mono HB9.out.size))
    clear hb hc hle HM9 HK9 HB9 hz
    have HLs : Hid (sameL s0 v0 s1 v1 s2 v2 s = if 0 ≤ s ∧ s < 3 ∧ hasB (pick3 s0 s1 s2 s.toNat) = true then sameF s0 v0 s1 v1 s2 v2 s.toNat 3 else []) := rfl
    have hLn := sameF_le s0 v0 s1 v1 s2 v2 s
    generalize sameL s0 v0 s1 v1 s2 v2 s = S at *
    by_cases hs : 0 ≤ s ∧ s < 3
    · have hs3 : s = 0 ∨ s = 1 ∨ s = 2 := by omega
      clear hs
      rcases hs3 with rfl | rfl | rfl
      · have HSI : Hid (sibI 0 = 0) := rfl
        have HSB : Hid (sibB 0 = false) := rfl
        obtain ⟨d0, d1, d2⟩ := HKa.out.at3 (k := 0) (by omega)
        simp only [Nat.zero_mul, Nat.one_mul, Nat.zero_add, Nat.reduceMul, Nat.reduceAdd, Int.toNat_zero, Int.toNat_one, Int.reduceToNat] at d0 d1 d2 HLs
        go_wp2_with ((with_reducible refine wpList_unguard ?_ ?_); (focus rfl))
        refine Calls.mono (ref23_Has _ _ _ wa) ?_; rintro e wb ⟨rfl, hb⟩
        clear d0 d1 d2
        have HKb := hid (HKa.out.below hb)
        have HCb := hid (HCa.out.below hb)
        have HBb := hid (HBa.out.trans (hb.mono HBa.out.size))
        clear hb HKa HCa HBa
        rcases Bool.eq_false_or_eq_true (hasB (pick3 s0 s1 s2 0)) with hh | hh
        · have HJ : Hid (isSame s0 v0 s1 v1 s2 v2 0 = fun i => decide (i ≠ 0) && (hasB (pick3 s0 s1 s2 i) && decide (pick3 v0 v1 v2 i = pick3 v0 v1 v2 0))) := rfl
          have HX := fun k => hid (sameF_succ s0 v0 s1 v1 s2 v2 0 k)
          have HZ := hid (sameF_len s0 v0 s1 v1 s2 v2 0)
          rw [if_pos ⟨by omega, by omega, hh⟩] at HLs
          rw [hh]
          clear hh
          generalize hF : sameF s0 v0 s1 v1 s2 v2 0 = F at *
          have HF0 : Hid (F 0 = []) := by show _ = _; rw [← hF]; rfl
          clear hF
          obtain ⟨ii, hi, hz0, hz1, hz2⟩ := info_parts Try.infoZ
          go_wp2_with ((with_reducible refine wpList_unguard ?_ ?_); (focus rfl))
          go_loopw [12, 11] (fun i v wr => ∃ k : Nat, k ≤ 3 ∧ i = .int .i64 k ∧ rowZ wr wb.heap.size v (F k) ∧ Below wb.heap.size wb wr) (fun i _ _ => 3 - (intOf i).toNat)
          case atStart => exact ⟨0, by omega, rfl, by rw [HF0.out]; exact rowZ.nil _ _, Below.refl _ _⟩
          case round =>
            obtain ⟨k, hk, rfl, hrow, hbw⟩ := hrel
            have HR := hid hrow
            have HW := hid hbw
            have hszw := hbw.size
            clear hrow hbw
            by_cases hlt : k < 3
            · have HXk := HX k
              have hKw := HKb.out.below HW.out
              obtain ⟨k0, k1, k2⟩ := hKw.at3 hlt
              obtain ⟨d0, d1, d2⟩ := hKw.at3 (k := 0) (by omega)
              simp only [Nat.zero_mul, Nat.one_mul, Nat.zero_add, Nat.reduceMul, Nat.reduceAdd] at d0 d1 d2
              clear HX hKw
              have hlt' : (k : Int) < 3 := by omega
              by_cases hkj : k = 0
              · have hb : ((k : Int) != 0) = false := by rw [bne_eq_false_iff_eq]; omega
                have HFk : Hid (F (k + 1) = F k) := by
                  show _ = _
                  rw [HXk.out, HJ.out]
                  simp [hkj]
                clear HXk hkj
                go_wp2
                go_region
                go_wp2
                go_roundw
                case rel => exact ⟨k + 1, by omega, by go_num, by rw [HFk.out]; exact HR.out.drew, HW.out.drew⟩
                case measure => simp [intOf]; omega
              · have hb : ((k : Int) != 0) = true := by rw [bne_iff_ne]; omega
                rcases Bool.eq_false_or_eq_true (hasB (pick3 s0 s1 s2 k)) with hq | hq
                · by_cases hv : pick3 v0 v1 v2 k = pick3 v0 v1 v2 0
                  · have HFk : Hid (F (k + 1) = F k ++ [(k : Int)]) := by
                      show _ = _
                      rw [HXk.out, HJ.out]
                      simp [hq, hv, hkj]
                    have hve : (pick3 v0 v1 v2 k == pick3 v0 v1 v2 0) = true := beq_iff_eq.2 hv
                    have HQ := hid hq
                    have HLnk := hid (HZ.out k)
                    clear HXk hkj hq hv
                    go_wp2
                    (refine wp_region_quietC (fun w' => Below (wr).heap.size wr w') (by kernel_rfl) (by kernel_rfl) ((Below.refl _ _).drew) ?_; (repeat (first | go_big_quiet_skip | (go_big_quiet_want; first | (go_big_quiet_op; go_big_quiet_on) | (apply Exists.intro; refine And.intro (fun wq hq => ?_) ?_; (focus ((have k0' := (hq.cell (block_lt_of_cell k0)).trans k0; have k1' := (hq.cell (block_lt_of_cell k1)).trans k1; have k2' := (hq.cell (block_lt_of_cell k2)).trans k2; have d1' := (hq.cell (block_lt_of_cell d1)).trans d1); (try go_simp); first | done | rfl | ((refine Calls.mono (ref23_Has _ _ _ _) ?_; rintro e w6 ⟨rfl, hb5⟩; exact ⟨by rw [HQ.out], hq.trans (hb5.mono hq.size)⟩)))); go_simp; go_big_quiet_on)))); refine quietC_nil _ rfl ?_; intro wE hE)
                    have HRw := hid (HR.out.belowZ hE)
                    have HBE := hid (HW.out.trans (hE.mono HW.out.size))
                    have hszE := HBE.out.size
                    clear hE HR k0 k1 k2 d0 d1 d2
                    go_wp2_with (first | ((with_reducible refine wpList_unguard ?_ ?_); (focus rfl)) | (at_builtin; refine wpList_pushZ (by rfl) _ _ _ (by rfl) wb.heap.size ii Try.underlying33 hi hz0 hz1 hz2 _ (F k) k HRw.out (by rfl) _ (by rfl) (by rfl) (by have := HLnk.out; omega) hszE ?_))
                    intro v' w1 hrow1 hb1
                    have HR1 := hid hrow1
                    have HW1 := hid (HBE.out.trans hb1)
                    clear hrow1 hb1
                    go_wp2
                    go_roundw
                    case rel => exact ⟨k + 1, by omega, by go_num, by rw [HFk.out]; exact HR1.out, HW1.out⟩
                    case measure => simp [intOf]; omega
                  · have HFk : Hid (F (k + 1) = F k) := by
                      show _ = _
                      rw [HXk.out, HJ.out]
                      simp [hq, hv]
                    have hve : (pick3 v0 v1 v2 k == pick3 v0 v1 v2 0) = false := beq_eq_false_iff_ne.2 hv
                    have HQ := hid hq
                    clear HXk hkj hq hv
                    go_wp2
                    (refine wp_region_quietC (fun w' => Below (wr).heap.size wr w') (by kernel_rfl) (by kernel_rfl) ((Below.refl _ _).drew) ?_; (repeat (first | go_big_quiet_skip | (go_big_quiet_want; first | (go_big_quiet_op; go_big_quiet_on) | (apply Exists.intro; refine And.intro (fun wq hq => ?_) ?_; (focus ((have k0' := (hq.cell (block_lt_of_cell k0)).trans k0; have k1' := (hq.cell (block_lt_of_cell k1)).trans k1; have k2' := (hq.cell (block_lt_of_cell k2)).trans k2; have d1' := (hq.cell (block_lt_of_cell d1)).trans d1); (try go_simp); first | done | rfl | ((refine Calls.mono (ref23_Has _ _ _ _) ?_; rintro e w6 ⟨rfl, hb5⟩; exact ⟨by rw [HQ.out], hq.trans (hb5.mono hq.size)⟩)))); go_simp; go_big_quiet_on)))); refine quietC_nil _ rfl ?_; intro wE hE)
                    have HRw := hid (HR.out.belowZ hE)
                    go_wp2
                    go_roundw
                    case rel => exact ⟨k + 1, by omega, by go_num, by rw [HFk.out]; exact HRw.out, HW.out.trans (hE.mono HW.out.size)⟩
                    case measure => simp [intOf]; omega
                · have HFk : Hid (F (k + 1) = F k) := by
                    show _ = _
                    rw [HXk.out, HJ.out]
                    simp [hq]
                  have HQ := hid hq
                  clear HXk hkj hq
                  go_wp2
                  (refine wp_region_quietC (fun w' => Below (wr).heap.size wr w') (by kernel_rfl) (by kernel_rfl) ((Below.refl _ _).drew) ?_; (repeat (first | go_big_quiet_skip | (go_big_quiet_want; first | (go_big_quiet_op; go_big_quiet_on) | (apply Exists.intro; refine And.intro (fun wq hq => ?_) ?_; (focus ((have k0' := (hq.cell (block_lt_of_cell k0)).trans k0; have k1' := (hq.cell (block_lt_of_cell k1)).trans k1; have k2' := (hq.cell (block_lt_of_cell k2)).trans k2; have d1' := (hq.cell (block_lt_of_cell d1)).trans d1); (try go_simp); first | done | rfl | ((refine Calls.mono (ref23_Has _ _ _ _) ?_; rintro e w6 ⟨rfl, hb5⟩; exact ⟨by rw [HQ.out], hq.trans (hb5.mono hq.size)⟩)))); go_simp; go_big_quiet_on)))); refine quietC_nil _ rfl ?_; intro wE hE)
                  have HRw := hid (HR.out.belowZ hE)
                  go_wp2
                  go_roundw
                  case rel => exact ⟨k + 1, by omega, by go_num, by rw [HFk.out]; exact HRw.out, HW.out.trans (hE.mono HW.out.size)⟩
                  case measure => simp [intOf]; omega
            · have hS : S = F k := by rw [HLs.out, show k = 3 from by omega]
              subst hS
              clear HLs
              have h := HR.out
              obtain ⟨qq, cc, rfl, hle, hc⟩ := h.cells
              have HDz := hid hc
              have HCz := hid (HCb.out.below HW.out)
              have HBz := hid (HBb.out.trans (HW.out.mono HBb.out.size))
              clear h hle hc
              go_wp2_with ((with_reducible refine wpList_unguard ?_ ?_); (focus rfl))
              refine Calls.mono (lad_Sibling 0 wr) ?_; rintro e w' ⟨rfl, rfl⟩
              rw [HSI.out, HSB.out]
              go_wp2_with ((with_reducible refine wpList_unguard ?_ ?_); (focus rfl))
              refine Calls.mono (ref01_Same p2 qq _ _ c2 cc (F k) (F k) wr rfl rfl HCz.out HDz.out (by omega) (by omega)) ?_; rintro e wy ⟨rfl, hb⟩
              rw [decide_eq_true (rfl : F k = F k)]
              have HBy := hid (HBz.out.trans (hb.mono HBz.out.size))
              clear hb HBz HCz HDz HSI HSB
              go_wp2_with ((with_reducible refine wpList_unguard ?_ ?_); (focus rfl))
              go_ret
              exact ⟨rfl, HBy.out⟩
        · rw [hh]
          have HS0 : Hid (S = []) := by
            show _ = _
            rw [HLs.out, if_neg (by rw [hh]; simp)]
          have hS := HS0.out
          subst hS
          clear HLs hh HS0
          have HCz := HCb
          have HBz := HBb
          have HDz := hid (cellsZ.nil wb none)
          go_wp2_with ((with_reducible refine wpList_unguard ?_ ?_); (focus rfl))
          refine Calls.mono (lad_Sibling 0 wb) ?_; rintro e w' ⟨rfl, rfl⟩
          rw [HSI.out, HSB.out]
          go_wp2_with ((with_reducible refine wpList_unguard ?_ ?_); (focus rfl))
          refine Calls.mono (ref01_Same p2 none _ _ c2 0 [] [] wb rfl rfl HCz.out HDz.out (by omega) (by omega)) ?_; rintro e wy ⟨rfl, hb⟩
          rw [decide_eq_true (rfl : ([] : List Int) = [])]
          have HBy := hid (HBz.out.trans (hb.mono HBz.out.size))
          clear hb HBz HCz HDz HSI HSB
          go_wp2_with ((with_reducible refine wpList_unguard ?_ ?_); (focus rfl))
          go_ret
          exact ⟨rfl, HBy.out⟩
      · have HSI : Hid (sibI 1 = 2) := rfl
        have HSB : Hid (sibB 1 = true) := rfl
        obtain ⟨d0, d1, d2⟩ := HKa.out.at3 (k := 1) (by omega)
        simp only [Nat.zero_mul, Nat.one_mul, Nat.zero_add, Nat.reduceMul, Nat.reduceAdd, Int.toNat_zero, Int.toNat_one, Int.reduceToNat] at d0 d1 d2 HLs
        go_wp2_with ((with_reducible refine wpList_unguard ?_ ?_); (focus rfl))
        refine Calls.mono (ref23_Has _ _ _ wa) ?_; rintro e wb ⟨rfl, hb⟩
        clear d0 d1 d2
        have HKb := hid (HKa.out.below hb)
        have HCb := hid (HCa.out.below hb)
        have HBb := hid (HBa.out.trans (hb.mono HBa.out.size))
        clear hb HKa HCa HBa
        rcases Bool.eq_false_or_eq_true (hasB (pick3 s0 s1 s2 1)) with hh | hh
        · have HJ : Hid (isSame s0 v0 s1 v1 s2 v2 1 = fun i => decide (i ≠ 1) && (hasB (pick3 s0 s1 s2 i) && decide (pick3 v0 v1 v2 i = pick3 v0 v1 v2 1))) := rfl
          have HX := fun k => hid (sameF_succ s0 v0 s1 v1 s2 v2 1 k)
          have HZ := hid (sameF_len s0 v0 s1 v1 s2 v2 1)
          rw [if_pos ⟨by omega, by omega, hh⟩] at HLs
          rw [hh]
          clear hh
          generalize hF : sameF s0 v0 s1 v1 s2 v2 1 = F at *
          have HF0 : Hid (F 0 = []) := by show _ = _; rw [← hF]; rfl
          clear hF
          obtain ⟨ii, hi, hz0, hz1, hz2⟩ := info_parts Try.infoZ
          go_wp2_with ((with_reducible refine wpList_unguard ?_ ?_); (focus rfl))
          go_loopw [12, 11] (fun i v wr => ∃ k : Nat, k ≤ 3 ∧ i = .int .i64 k ∧ rowZ wr wb.heap.size v (F k) ∧ Below wb.heap.size wb wr) (fun i _ _ => 3 - (intOf i).toNat)
          case atStart => exact ⟨0, by omega, rfl, by rw [HF0.out]; exact rowZ.nil _ _, Below.refl _ _⟩
          case round =>
            obtain ⟨k, hk, rfl, hrow, hbw⟩ := hrel
            have HR := hid hrow
            have HW := hid hbw
            have hszw := hbw.size
            clear hrow hbw
            by_cases hlt : k < 3
            · have HXk := HX k
              have hKw := HKb.out.below HW.out
              obtain ⟨k0, k1, k2⟩ := hKw.at3 hlt
              obtain ⟨d0, d1, d2⟩ := hKw.at3 (k := 1) (by omega)
              simp only [Nat.zero_mul, Nat.one_mul, Nat.zero_add, Nat.reduceMul, Nat.reduceAdd] at d0 d1 d2
              clear HX hKw
              have hlt' : (k : Int) < 3 := by omega
              by_cases hkj : k = 1
              · have hb : ((k : Int) != 1) = false := by rw [bne_eq_false_iff_eq]; omega
                have HFk : Hid (F (k + 1) = F k) := by
                  show _ = _
                  rw [HXk.out, HJ.out]
                  simp [hkj]
                clear HXk hkj
                go_wp2
                go_region
                go_wp2
                go_roundw
                case rel => exact ⟨k + 1, by omega, by go_num, by rw [HFk.out]; exact HR.out.drew, HW.out.drew⟩
                case measure => simp [intOf]; omega
              · have hb : ((k : Int) != 1) = true := by rw [bne_iff_ne]; omega
                rcases Bool.eq_false_or_eq_true (hasB (pick3 s0 s1 s2 k)) with hq | hq
                · by_cases hv : pick3 v0 v1 v2 k = pick3 v0 v1 v2 1
                  · have HFk : Hid (F (k + 1) = F k ++ [(k : Int)]) := by
                      show _ = _
                      rw [HXk.out, HJ.out]
                      simp [hq, hv, hkj]
                    have hve : (pick3 v0 v1 v2 k == pick3 v0 v1 v2 1) = true := beq_iff_eq.2 hv
                    have HQ := hid hq
                    have HLnk := hid (HZ.out k)
                    clear HXk hkj hq hv
                    go_wp2
                    (refine wp_region_quietC (fun w' => Below (wr).heap.size wr w') (by kernel_rfl) (by kernel_rfl) ((Below.refl _ _).drew) ?_; (repeat (first | go_big_quiet_skip | (go_big_quiet_want; first | (go_big_quiet_op; go_big_quiet_on) | (apply Exists.intro; refine And.intro (fun wq hq => ?_) ?_; (focus ((have k0' := (hq.cell (block_lt_of_cell k0)).trans k0; have k1' := (hq.cell (block_lt_of_cell k1)).trans k1; have k2' := (hq.cell (block_lt_of_cell k2)).trans k2; have d1' := (hq.cell (block_lt_of_cell d1)).trans d1); (try go_simp); first | done | rfl | ((refine Calls.mono (ref23_Has _ _ _ _) ?_; rintro e w6 ⟨rfl, hb5⟩; exact ⟨by rw [HQ.out], hq.trans (hb5.mono hq.size)⟩)))); go_simp; go_big_quiet_on)))); refine quietC_nil _ rfl ?_; intro wE hE)
                    have HRw := hid (HR.out.belowZ hE)
                    have HBE := hid (HW.out.trans (hE.mono HW.out.size))
                    have hszE := HBE.out.size
                    clear hE HR k0 k1 k2 d0 d1 d2
                    go_wp2_with (first | ((with_reducible refine wpList_unguard ?_ ?_); (focus rfl)) | (at_builtin; refine wpList_pushZ (by rfl) _ _ _ (by rfl) wb.heap.size ii Try.underlying33 hi hz0 hz1 hz2 _ (F k) k HRw.out (by rfl) _ (by rfl) (by rfl) (by have := HLnk.out; omega) hszE ?_))
                    intro v' w1 hrow1 hb1
                    have HR1 := hid hrow1
                    have HW1 := hid (HBE.out.trans hb1)
                    clear hrow1 hb1
                    go_wp2
                    go_roundw
                    case rel => exact ⟨k + 1, by omega, by go_num, by rw [HFk.out]; exact HR1.out, HW1.out⟩
                    case measure => simp [intOf]; omega
                  · have HFk : Hid (F (k + 1) = F k) := by
                      show _ = _
                      rw [HXk.out, HJ.out]
                      simp [hq, hv]
                    have hve : (pick3 v0 v1 v2 k == pick3 v0 v1 v2 1) = false := beq_eq_false_iff_ne.2 hv
                    have HQ := hid hq
                    clear HXk hkj hq hv
                    go_wp2
                    (refine wp_region_quietC (fun w' => Below (wr).heap.size wr w') (by kernel_rfl) (by kernel_rfl) ((Below.refl _ _).drew) ?_; (repeat (first | go_big_quiet_skip | (go_big_quiet_want; first | (go_big_quiet_op; go_big_quiet_on) | (apply Exists.intro; refine And.intro (fun wq hq => ?_) ?_; (focus ((have k0' := (hq.cell (block_lt_of_cell k0)).trans k0; have k1' := (hq.cell (block_lt_of_cell k1)).trans k1; have k2' := (hq.cell (block_lt_of_cell k2)).trans k2; have d1' := (hq.cell (block_lt_of_cell d1)).trans d1); (try go_simp); first | done | rfl | ((refine Calls.mono (ref23_Has _ _ _ _) ?_; rintro e w6 ⟨rfl, hb5⟩; exact ⟨by rw [HQ.out], hq.trans (hb5.mono hq.size)⟩)))); go_simp; go_big_quiet_on)))); refine quietC_nil _ rfl ?_; intro wE hE)
                    have HRw := hid (HR.out.belowZ hE)
                    go_wp2
                    go_roundw
                    case rel => exact ⟨k + 1, by omega, by go_num, by rw [HFk.out]; exact HRw.out, HW.out.trans (hE.mono HW.out.size)⟩
                    case measure => simp [intOf]; omega
                · have HFk : Hid (F (k + 1) = F k) := by
                    show _ = _
                    rw [HXk.out, HJ.out]
                    simp [hq]
                  have HQ := hid hq
                  clear HXk hkj hq
                  go_wp2
                  (refine wp_region_quietC (fun w' => Below (wr).heap.size wr w') (by kernel_rfl) (by kernel_rfl) ((Below.refl _ _).drew) ?_; (repeat (first | go_big_quiet_skip | (go_big_quiet_want; first | (go_big_quiet_op; go_big_quiet_on) | (apply Exists.intro; refine And.intro (fun wq hq => ?_) ?_; (focus ((have k0' := (hq.cell (block_lt_of_cell k0)).trans k0; have k1' := (hq.cell (block_lt_of_cell k1)).trans k1; have k2' := (hq.cell (block_lt_of_cell k2)).trans k2; have d1' := (hq.cell (block_lt_of_cell d1)).trans d1); (try go_simp); first | done | rfl | ((refine Calls.mono (ref23_Has _ _ _ _) ?_; rintro e w6 ⟨rfl, hb5⟩; exact ⟨by rw [HQ.out], hq.trans (hb5.mono hq.size)⟩)))); go_simp; go_big_quiet_on)))); refine quietC_nil _ rfl ?_; intro wE hE)
                  have HRw := hid (HR.out.belowZ hE)
                  go_wp2
                  go_roundw
                  case rel => exact ⟨k + 1, by omega, by go_num, by rw [HFk.out]; exact HRw.out, HW.out.trans (hE.mono HW.out.size)⟩
                  case measure => simp [intOf]; omega
            · have hS : S = F k := by rw [HLs.out, show k = 3 from by omega]
              subst hS
              clear HLs
              have h := HR.out
              obtain ⟨qq, cc, rfl, hle, hc⟩ := h.cells
              have HDz := hid hc
              have HCz := hid (HCb.out.below HW.out)
              have HBz := hid (HBb.out.trans (HW.out.mono HBb.out.size))
              clear h hle hc
              go_wp2_with ((with_reducible refine wpList_unguard ?_ ?_); (focus rfl))
              refine Calls.mono (lad_Sibling 1 wr) ?_; rintro e w' ⟨rfl, rfl⟩
              rw [HSI.out, HSB.out]
              go_wp2_with ((with_reducible refine wpList_unguard ?_ ?_); (focus rfl))
              refine Calls.mono (ref01_Same p2 qq _ _ c2 cc (F k) (F k) wr rfl rfl HCz.out HDz.out (by omega) (by omega)) ?_; rintro e wy ⟨rfl, hb⟩
              rw [decide_eq_true (rfl : F k = F k)]
              have HBy := hid (HBz.out.trans (hb.mono HBz.out.size))
              clear hb HBz HCz HDz HSI HSB
              go_wp2_with ((with_reducible refine wpList_unguard ?_ ?_); (focus rfl))
              go_ret
              exact ⟨rfl, HBy.out⟩
        · rw [hh]
          have HS0 : Hid (S = []) := by
            show _ = _
            rw [HLs.out, if_neg (by rw [hh]; simp)]
          have hS := HS0.out
          subst hS
          clear HLs hh HS0
          have HCz := HCb
          have HBz := HBb
          have HDz := hid (cellsZ.nil wb none)
          go_wp2_with ((with_reducible refine wpList_unguard ?_ ?_); (focus rfl))
          refine Calls.mono (lad_Sibling 1 wb) ?_; rintro e w' ⟨rfl, rfl⟩
          rw [HSI.out, HSB.out]
          go_wp2_with ((with_reducible refine wpList_unguard ?_ ?_); (focus rfl))
          refine Calls.mono (ref01_Same p2 none _ _ c2 0 [] [] wb rfl rfl HCz.out HDz.out (by omega) (by omega)) ?_; rintro e wy ⟨rfl, hb⟩
          rw [decide_eq_true (rfl : ([] : List Int) = [])]
          have HBy := hid (HBz.out.trans (hb.mono HBz.out.size))
          clear hb HBz HCz HDz HSI HSB
          go_wp2_with ((with_reducible refine wpList_unguard ?_ ?_); (focus rfl))
          go_ret
          exact ⟨rfl, HBy.out⟩
      · have HSI : Hid (sibI 2 = 1) := rfl
        have HSB : Hid (sibB 2 = true) := rfl
        obtain ⟨d0, d1, d2⟩ := HKa.out.at3 (k := 2) (by omega)
        simp only [Nat.zero_mul, Nat.one_mul, Nat.zero_add, Nat.reduceMul, Nat.reduceAdd, Int.toNat_zero, Int.toNat_one, Int.reduceToNat] at d0 d1 d2 HLs
        go_wp2_with ((with_reducible refine wpList_unguard ?_ ?_); (focus rfl))
        refine Calls.mono (ref23_Has _ _ _ wa) ?_; rintro e wb ⟨rfl, hb⟩
        clear d0 d1 d2
        have HKb := hid (HKa.out.below hb)
        have HCb := hid (HCa.out.below hb)
        have HBb := hid (HBa.out.trans (hb.mono HBa.out.size))
        clear hb HKa HCa HBa
        rcases Bool.eq_false_or_eq_true (hasB (pick3 s0 s1 s2 2)) with hh | hh
        · have HJ : Hid (isSame s0 v0 s1 v1 s2 v2 2 = fun i => decide (i ≠ 2) && (hasB (pick3 s0 s1 s2 i) && decide (pick3 v0 v1 v2 i = pick3 v0 v1 v2 2))) := rfl
          have HX := fun k => hid (sameF_succ s0 v0 s1 v1 s2 v2 2 k)
          have HZ := hid (sameF_len s0 v0 s1 v1 s2 v2 2)
          rw [if_pos ⟨by omega, by omega, hh⟩] at HLs
          rw [hh]
          clear hh
          generalize hF : sameF s0 v0 s1 v1 s2 v2 2 = F at *
          have HF0 : Hid (F 0 = []) := by show _ = _; rw [← hF]; rfl
          clear hF
          obtain ⟨ii, hi, hz0, hz1, hz2⟩ := info_parts Try.infoZ
          go_wp2_with ((with_reducible refine wpList_unguard ?_ ?_); (focus rfl))
          go_loopw [12, 11] (fun i v wr => ∃ k : Nat, k ≤ 3 ∧ i = .int .i64 k ∧ rowZ wr wb.heap.size v (F k) ∧ Below wb.heap.size wb wr) (fun i _ _ => 3 - (intOf i).toNat)
          case atStart => exact ⟨0, by omega, rfl, by rw [HF0.out]; exact rowZ.nil _ _, Below.refl _ _⟩
          case round =>
            obtain ⟨k, hk, rfl, hrow, hbw⟩ := hrel
            have HR := hid hrow
            have HW := hid hbw
            have hszw := hbw.size
            clear hrow hbw
            by_cases hlt : k < 3
            · have HXk := HX k
              have hKw := HKb.out.below HW.out
              obtain ⟨k0, k1, k2⟩ := hKw.at3 hlt
              obtain ⟨d0, d1, d2⟩ := hKw.at3 (k := 2) (by omega)
              simp only [Nat.zero_mul, Nat.one_mul, Nat.zero_add, Nat.reduceMul, Nat.reduceAdd] at d0 d1 d2
              clear HX hKw
              have hlt' : (k : Int) < 3 := by omega
              by_cases hkj : k = 2
              · have hb : ((k : Int) != 2) = false := by rw [bne_eq_false_iff_eq]; omega
                have HFk : Hid (F (k + 1) = F k) := by
                  show _ = _
                  rw [HXk.out, HJ.out]
                  simp [hkj]
                clear HXk hkj
                go_wp2
                go_region
                go_wp2
                go_roundw
                case rel => exact ⟨k + 1, by omega, by go_num, by rw [HFk.out]; exact HR.out.drew, HW.out.drew⟩
                case measure => simp [intOf]; omega
              · have hb : ((k : Int) != 2) = true := by rw [bne_iff_ne]; omega
                rcases Bool.eq_false_or_eq_true (hasB (pick3 s0 s1 s2 k)) with hq | hq
                · by_cases hv : pick3 v0 v1 v2 k = pick3 v0 v1 v2 2
                  · have HFk : Hid (F (k + 1) = F k ++ [(k : Int)]) := by
                      show _ = _
                      rw [HXk.out, HJ.out]
                      simp [hq, hv, hkj]
                    have hve : (pick3 v0 v1 v2 k == pick3 v0 v1 v2 2) = true := beq_iff_eq.2 hv
                    have HQ := hid hq
                    have HLnk := hid (HZ.out k)
                    clear HXk hkj hq hv
                    go_wp2
                    (refine wp_region_quietC (fun w' => Below (wr).heap.size wr w') (by kernel_rfl) (by kernel_rfl) ((Below.refl _ _).drew) ?_; (repeat (first | go_big_quiet_skip | (go_big_quiet_want; first | (go_big_quiet_op; go_big_quiet_on) | (apply Exists.intro; refine And.intro (fun wq hq => ?_) ?_; (focus ((have k0' := (hq.cell (block_lt_of_cell k0)).trans k0; have k1' := (hq.cell (block_lt_of_cell k1)).trans k1; have k2' := (hq.cell (block_lt_of_cell k2)).trans k2; have d1' := (hq.cell (block_lt_of_cell d1)).trans d1); (try go_simp); first | done | rfl | ((refine Calls.mono (ref23_Has _ _ _ _) ?_; rintro e w6 ⟨rfl, hb5⟩; exact ⟨by rw [HQ.out], hq.trans (hb5.mono hq.size)⟩)))); go_simp; go_big_quiet_on)))); refine quietC_nil _ rfl ?_; intro wE hE)
                    have HRw := hid (HR.out.belowZ hE)
                    have HBE := hid (HW.out.trans (hE.mono HW.out.size))
                    have hszE := HBE.out.size
                    clear hE HR k0 k1 k2 d0 d1 d2
                    go_wp2_with (first | ((with_reducible refine wpList_unguard ?_ ?_); (focus rfl)) | (at_builtin; refine wpList_pushZ (by rfl) _ _ _ (by rfl) wb.heap.size ii Try.underlying33 hi hz0 hz1 hz2 _ (F k) k HRw.out (by rfl) _ (by rfl) (by rfl) (by have := HLnk.out; omega) hszE ?_))
                    intro v' w1 hrow1 hb1
                    have HR1 := hid hrow1
                    have HW1 := hid (HBE.out.trans hb1)
                    clear hrow1 hb1
                    go_wp2
                    go_roundw
                    case rel => exact ⟨k + 1, by omega, by go_num, by rw [HFk.out]; exact HR1.out, HW1.out⟩
                    case measure => simp [intOf]; omega
                  · have HFk : Hid (F (k + 1) = F k) := by
                      show _ = _
                      rw [HXk.out, HJ.out]
                      simp [hq, hv]
                    have hve : (pick3 v0 v1 v2 k == pick3 v0 v1 v2 2) = false := beq_eq_false_iff_ne.2 hv
                    have HQ := hid hq
                    clear HXk hkj hq hv
                    go_wp2
                    (refine wp_region_quietC (fun w' => Below (wr).heap.size wr w') (by kernel_rfl) (by kernel_rfl) ((Below.refl _ _).drew) ?_; (repeat (first | go_big_quiet_skip | (go_big_quiet_want; first | (go_big_quiet_op; go_big_quiet_on) | (apply Exists.intro; refine And.intro (fun wq hq => ?_) ?_; (focus ((have k0' := (hq.cell (block_lt_of_cell k0)).trans k0; have k1' := (hq.cell (block_lt_of_cell k1)).trans k1; have k2' := (hq.cell (block_lt_of_cell k2)).trans k2; have d1' := (hq.cell (block_lt_of_cell d1)).trans d1); (try go_simp); first | done | rfl | ((refine Calls.mono (ref23_Has _ _ _ _) ?_; rintro e w6 ⟨rfl, hb5⟩; exact ⟨by rw [HQ.out], hq.trans (hb5.mono hq.size)⟩)))); go_simp; go_big_quiet_on)))); refine quietC_nil _ rfl ?_; intro wE hE)
                    have HRw := hid (HR.out.belowZ hE)
                    go_wp2
                    go_roundw
                    case rel => exact ⟨k + 1, by omega, by go_num, by rw [HFk.out]; exact HRw.out, HW.out.trans (hE.mono HW.out.size)⟩
                    case measure => simp [intOf]; omega
                · have HFk : Hid (F (k + 1) = F k) := by
                    show _ = _
                    rw [HXk.out, HJ.out]
                    simp [hq]
                  have HQ := hid hq
                  clear HXk hkj hq
                  go_wp2
                  (refine wp_region_quietC (fun w' => Below (wr).heap.size wr w') (by kernel_rfl) (by kernel_rfl) ((Below.refl _ _).drew) ?_; (repeat (first | go_big_quiet_skip | (go_big_quiet_want; first | (go_big_quiet_op; go_big_quiet_on) | (apply Exists.intro; refine And.intro (fun wq hq => ?_) ?_; (focus ((have k0' := (hq.cell (block_lt_of_cell k0)).trans k0; have k1' := (hq.cell (block_lt_of_cell k1)).trans k1; have k2' := (hq.cell (block_lt_of_cell k2)).trans k2; have d1' := (hq.cell (block_lt_of_cell d1)).trans d1); (try go_simp); first | done | rfl | ((refine Calls.mono (ref23_Has _ _ _ _) ?_; rintro e w6 ⟨rfl, hb5⟩; exact ⟨by rw [HQ.out], hq.trans (hb5.mono hq.size)⟩)))); go_simp; go_big_quiet_on)))); refine quietC_nil _ rfl ?_; intro wE hE)
                  have HRw := hid (HR.out.belowZ hE)
                  go_wp2
                  go_roundw
                  case rel => exact ⟨k + 1, by omega, by go_num, by rw [HFk.out]; exact HRw.out, HW.out.trans (hE.mono HW.out.size)⟩
                  case measure => simp [intOf]; omega
            · have hS : S = F k := by rw [HLs.out, show k = 3 from by omega]
              subst hS
              clear HLs
              have h := HR.out
              obtain ⟨qq, cc, rfl, hle, hc⟩ := h.cells
              have HDz := hid hc
              have HCz := hid (HCb.out.below HW.out)
              have HBz := hid (HBb.out.trans (HW.out.mono HBb.out.size))
              clear h hle hc
              go_wp2_with ((with_reducible refine wpList_unguard ?_ ?_); (focus rfl))
              refine Calls.mono (lad_Sibling 2 wr) ?_; rintro e w' ⟨rfl, rfl⟩
              rw [HSI.out, HSB.out]
              go_wp2_with ((with_reducible refine wpList_unguard ?_ ?_); (focus rfl))
              refine Calls.mono (ref01_Same p2 qq _ _ c2 cc (F k) (F k) wr rfl rfl HCz.out HDz.out (by omega) (by omega)) ?_; rintro e wy ⟨rfl, hb⟩
              rw [decide_eq_true (rfl : F k = F k)]
              have HBy := hid (HBz.out.trans (hb.mono HBz.out.size))
              clear hb HBz HCz HDz HSI HSB
              go_wp2_with ((with_reducible refine wpList_unguard ?_ ?_); (focus rfl))
              go_ret
              exact ⟨rfl, HBy.out⟩
        · rw [hh]
          have HS0 : Hid (S = []) := by
            show _ = _
            rw [HLs.out, if_neg (by rw [hh]; simp)]
          have hS := HS0.out
          subst hS
          clear HLs hh HS0
          have HCz := HCb
          have HBz := HBb
          have HDz := hid (cellsZ.nil wb none)
          go_wp2_with ((with_reducible refine wpList_unguard ?_ ?_); (focus rfl))
          refine Calls.mono (lad_Sibling 2 wb) ?_; rintro e w' ⟨rfl, rfl⟩
          rw [HSI.out, HSB.out]
          go_wp2_with ((with_reducible refine wpList_unguard ?_ ?_); (focus rfl))
          refine Calls.mono (ref01_Same p2 none _ _ c2 0 [] [] wb rfl rfl HCz.out HDz.out (by omega) (by omega)) ?_; rintro e wy ⟨rfl, hb⟩
          rw [decide_eq_true (rfl : ([] : List Int) = [])]
          have HBy := hid (HBz.out.trans (hb.mono HBz.out.size))
          clear hb HBz HCz HDz HSI HSB
          go_wp2_with ((with_reducible refine wpList_unguard ?_ ?_); (focus rfl))
          go_ret
          exact ⟨rfl, HBy.out⟩
    · have HSI : Hid (sibI s = 0) := by show _ = _; unfold sibI; rw [if_neg (by omega), if_neg (by omega)]
      have HSB : Hid (sibB s = false) := decide_eq_false (by omega)
      have f1 : (s == 1) = false := beq_eq_false_iff_ne.2 (by omega)
      have f2 : (s == 2) = false := beq_eq_false_iff_ne.2 (by omega)
      have HS0 : Hid (S = []) := by
        show _ = _
        rw [HLs.out, if_neg (fun h => hs ⟨h.1, h.2.1⟩)]
      have hS := HS0.out
      subst hS
      have hs' : s < 0 ∨ 3 ≤ s := by omega
      clear HLs HS0 hs
      have HCz := HCa
      have HBz := HBa
      have HDz := hid (cellsZ.nil wa none)
      rcases hs' with hs' | hs'
      · go_wp2_with ((with_reducible refine wpList_unguard ?_ ?_); (focus rfl))
        refine Calls.mono (lad_Sibling s wa) ?_; rintro e w' ⟨rfl, rfl⟩
        rw [HSI.out, HSB.out]
        go_wp2_with ((with_reducible refine wpList_unguard ?_ ?_); (focus rfl))
        refine Calls.mono (ref01_Same p2 none _ _ c2 0 [] [] wa rfl rfl HCz.out HDz.out (by omega) (by omega)) ?_; rintro e wy ⟨rfl, hb⟩
        rw [decide_eq_true (rfl : ([] : List Int) = [])]
        have HBy := hid (HBz.out.trans (hb.mono HBz.out.size))
        clear hb HBz HCz HDz HSI HSB
        go_wp2_with ((with_reducible refine wpList_unguard ?_ ?_); (focus rfl))
        go_ret
        exact ⟨rfl, HBy.out⟩
      · have hs'' : ¬ s < 0 := by omega
        have hs3 : 0 ≤ s := by omega
        go_wp2_with ((with_reducible refine wpList_unguard ?_ ?_); (focus rfl))
        refine Calls.mono (lad_Sibling s wa) ?_; rintro e w' ⟨rfl, rfl⟩
        rw [HSI.out, HSB.out]
        go_wp2_with ((with_reducible refine wpList_unguard ?_ ?_); (focus rfl))
        refine Calls.mono (ref01_Same p2 none _ _ c2 0 [] [] wa rfl rfl HCz.out HDz.out (by omega) (by omega)) ?_; rintro e wy ⟨rfl, hb⟩
        rw [decide_eq_true (rfl : ([] : List Int) = [])]
        have HBy := hid (HBz.out.trans (hb.mono HBz.out.size))
        clear hb HBz HCz HDz HSI HSB
        go_wp2_with ((with_reducible refine wpList_unguard ?_ ?_); (focus rfl))
        go_ret
        exact ⟨rfl, HBy.out⟩
end Go.Proofs.Ytdkfofogbogkcaa
