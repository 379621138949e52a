/-
  ladder.Same in the program.
-/
import Derived.Test.YtdkfofogbogkcaaLad6
import Derived.Test.YtdkfofogbogkcaaQreg
import Derived.Deep.RegionWith
import Derived.Deep.RegionHeld3
namespace Go.Proofs.Ytdkfofogbogkcaa
open Go.RowKit

def pick3 (a b c : Int) (k : Nat) : Int := if k = 0 then a else if k = 1 then b else c
theorem rowZ.belowZ {w w' : World} {base : Nat} {v : Value} {l : List Int} (h : rowZ w base v l) (hb : Below w.heap.size w w') : rowZ w' base v l := by
  obtain ⟨h2, h3⟩ := h
  refine ⟨h2, h3.imp id fun ⟨g, cap, cur, h4, h5, h6, h7⟩ => ⟨g, cap, cur, h4, h5, ?_, h7⟩⟩
  rw [hb.block g (Array.getElem?_eq_some_iff.1 h6).1]; exact h6
theorem lt3 {k : Nat} (h : k < 3) : k = 0 ∨ k = 1 ∨ k = 2 := by omega
theorem Blk.at3 {w : World} {B : Nat} {t : TypeId} {s0 v0 b0 s1 v1 b1 s2 v2 b2 ac fl cu it : Int} (h : Blk w B t #[.int .i64 s0, .int .i64 v0, .int .i64 b0, .int .i64 s1, .int .i64 v1, .int .i64 b1, .int .i64 s2, .int .i64 v2, .int .i64 b2, .int .i64 ac, .int .i64 fl, .int .i64 cu, .int .i64 it]) {k : Nat} (hk : k < 3) :
    w.cell? ⟨B, k * 3, none⟩ = some (.int .i64 (pick3 s0 s1 s2 k)) ∧ w.cell? ⟨B, k * 3 + 1, none⟩ = some (.int .i64 (pick3 v0 v1 v2 k)) ∧ w.cell? ⟨B, k * 3 + 2, none⟩ = some (.int .i64 (pick3 b0 b1 b2 k)) := by
  rcases lt3 hk with rfl | rfl | rfl
  · exact ⟨h.cell 0 _ rfl, h.cell 1 _ rfl, h.cell 2 _ rfl⟩
  · exact ⟨h.cell 3 _ rfl, h.cell 4 _ rfl, h.cell 5 _ rfl⟩
  · exact ⟨h.cell 6 _ rfl, h.cell 7 _ rfl, h.cell 8 _ rfl⟩
theorem index_at (s0 v0 b0 s1 v1 b1 s2 v2 b2 : Int) {k : Nat} (hk : k < 3) (w : World) :
    (Instr.index 24 (.agg #[.int .i64 s0, .int .i64 v0, .int .i64 b0, .int .i64 s1, .int .i64 v1, .int .i64 b1, .int .i64 s2, .int .i64 v2, .int .i64 b2]) (.int .i64 k)).run Try.prog w = .ok (.agg #[.int .i64 (pick3 s0 s1 s2 k), .int .i64 (pick3 v0 v1 v2 k), .int .i64 (pick3 b0 b1 b2 k)]) w := by
  rcases lt3 hk with rfl | rfl | rfl
  · kernel_rfl
  · kernel_rfl
  · kernel_rfl
/-- Is the i-th slot one of those that have the j-th one's version? -/
def isSame (s0 v0 s1 v1 s2 v2 : Int) (j i : Nat) : Bool := decide (i ≠ j) && (hasB (pick3 s0 s1 s2 i) && decide (pick3 v0 v1 v2 i = pick3 v0 v1 v2 j))
def sameF (s0 v0 s1 v1 s2 v2 : Int) (j k : Nat) : List Int := ((List.range k).filter (isSame s0 v0 s1 v1 s2 v2 j)).map fun i => ((i : Nat) : Int)
theorem sameF_succ (s0 v0 s1 v1 s2 v2 : Int) (j k : Nat) : sameF s0 v0 s1 v1 s2 v2 j (k + 1) = if isSame s0 v0 s1 v1 s2 v2 j k = true then sameF s0 v0 s1 v1 s2 v2 j k ++ [(k : Int)] else sameF s0 v0 s1 v1 s2 v2 j k := by
  unfold sameF
  rw [List.range_succ, List.filter_append, List.map_append]
  by_cases h : isSame s0 v0 s1 v1 s2 v2 j k = true
  · rw [if_pos h]; simp [h]
  · rw [if_neg h]; simp [h]
theorem sameF_len (s0 v0 s1 v1 s2 v2 : Int) (j k : Nat) : (sameF s0 v0 s1 v1 s2 v2 j k).length ≤ k := by
  unfold sameF
  rw [List.length_map]
  have := List.length_filter_le (isSame s0 v0 s1 v1 s2 v2 j) (List.range k)
  simpa using this
def sameL (s0 v0 s1 v1 s2 v2 : Int) (slot : Int) : List Int := if 0 ≤ slot ∧ slot < 3 ∧ hasB (pick3 s0 s1 s2 slot.toNat) = true then sameF s0 v0 s1 v1 s2 v2 slot.toNat 3 else []
set_option maxHeartbeats 4000000 in
set_option maxRecDepth 100000 in
theorem lad_Same_in (s0 v0 b0 s1 v1 b1 s2 v2 b2 ac fl cu it : Int) (j : Nat) (hj : j < 3) (w : World) (hh : hasB (pick3 s0 s1 s2 j) = true) :
    Calls Try.prog 18 #[.agg #[.int .i64 s0, .int .i64 v0, .int .i64 b0, .int .i64 s1, .int .i64 v1, .int .i64 b1, .int .i64 s2, .int .i64 v2, .int .i64 b2, .int .i64 ac, .int .i64 fl, .int .i64 cu, .int .i64 it], .int .i64 j] w fun e w' => retZ (sameF s0 v0 s1 v1 s2 v2 j 3) e w' ∧ Below w.heap.size w w' := by
  have hb0 : Below w.heap.size w (w.alloc (.cells #[.int .i64 s0, .int .i64 v0, .int .i64 b0, .int .i64 s1, .int .i64 v1, .int .i64 b1, .int .i64 s2, .int .i64 v2, .int .i64 b2, .int .i64 ac, .int .i64 fl, .int .i64 cu, .int .i64 it] 26)) := (Below.refl _ _).alloc (Nat.le_refl _) _
  have hM := Blk.new w 26 #[.int .i64 s0, .int .i64 v0, .int .i64 b0, .int .i64 s1, .int .i64 v1, .int .i64 b1, .int .i64 s2, .int .i64 v2, .int .i64 b2, .int .i64 ac, .int .i64 fl, .int .i64 cu, .int .i64 it]
  obtain ⟨w1, hw1⟩ : ∃ u, w.alloc (.cells #[.int .i64 s0, .int .i64 v0, .int .i64 b0, .int .i64 s1, .int .i64 v1, .int .i64 b1, .int .i64 s2, .int .i64 v2, .int .i64 b2, .int .i64 ac, .int .i64 fl, .int .i64 cu, .int .i64 it] 26) = u := ⟨_, rfl⟩
  rw [hw1] at hb0 hM
  have HM := hid hM
  have HB := hid hb0
  clear hb0
  obtain ⟨c0, c1, c2⟩ := hM.at3 hj
  have HH := hid hh
  clear hM hh
  have HJ : Hid (isSame s0 v0 s1 v1 s2 v2 j = fun i => decide (i ≠ j) && (hasB (pick3 s0 s1 s2 i) && decide (pick3 v0 v1 v2 i = pick3 v0 v1 v2 j))) := rfl
  have HX := fun k => hid (sameF_succ s0 v0 s1 v1 s2 v2 j k)
  have HZ := hid (sameF_len s0 v0 s1 v1 s2 v2 j)
  generalize hF : sameF s0 v0 s1 v1 s2 v2 j = F at *
  have HF0 : Hid (F 0 = []) := by show _ = _; rw [← hF]; rfl
  clear hF
  have hj3 : (j : Int) < 3 := by omega
  have hj0 : (0 : Int) ≤ (j : Int) := by omega
  obtain ⟨ii, hi, hz0, hz1, hz2⟩ := info_parts Try.infoZ
  (go_enter Try.func18, Try.ntmps18; try simp only [List.append])
  go_wp2_with ((with_reducible refine wpList_unguard ?_ ?_); (focus rfl))
  refine Calls.mono (lad_holds _ _ _ w1) ?_; rintro e w2 ⟨rfl, hb⟩
  rw [HH.out]
  clear c0 c1 c2 hw1
  have HM2 := hid (HM.out.below hb)
  have HB2 := hid (HB.out.trans (hb.mono HB.out.size))
  clear HM HB hb
  obtain ⟨m0, m1, m2, m3, m4, m5, m6, m7, m8, m9, m10, m11, m12⟩ := Blk.mm HM2.out
  go_wp2
  clear m0 m1 m2 m3 m4 m5 m6 m7 m8 m9 m10 m11 m12
  go_loopw [24, 5] (fun i v wr => ∃ k : Nat, k ≤ 3 ∧ i = .int .i64 k ∧ Blk wr w.heap.size 26 #[.int .i64 s0, .int .i64 v0, .int .i64 b0, .int .i64 s1, .int .i64 v1, .int .i64 b1, .int .i64 s2, .int .i64 v2, .int .i64 b2, .int .i64 ac, .int .i64 fl, .int .i64 cu, .int .i64 it] ∧ rowZ wr (w.heap.size + 1) v (F k) ∧ Below w.heap.size w wr) (fun i _ _ => 3 - (intOf i).toNat)
  case atStart => exact ⟨0, by omega, rfl, HM2.out, by rw [HF0.out]; exact rowZ.nil _ _, HB2.out⟩
  case round =>
    obtain ⟨k, hk, rfl, hM, hrow, hbw⟩ := hrel
    clear HM2 HB2
    have HM := hid hM
    have HR := hid hrow
    have HB := hid hbw
    have hsz := hM.lt
    clear hM hrow hbw
    by_cases hlt : k < 3
    · have hix := fun w => index_at s0 v0 b0 s1 v1 b1 s2 v2 b2 hlt w
      have hSl : Below wr.heap.size wr (wr.alloc (.cells #[.int .i64 (pick3 s0 s1 s2 k), .int .i64 (pick3 v0 v1 v2 k), .int .i64 (pick3 b0 b1 b2 k)] 23)) := (Below.refl _ _).alloc (Nat.le_refl _) _
      have HM1 := hid (HM.out.below hSl)
      have HB1 := hid (HB.out.trans (hSl.mono HB.out.size))
      have HK1 := hid (Blk.new wr 23 #[.int .i64 (pick3 s0 s1 s2 k), .int .i64 (pick3 v0 v1 v2 k), .int .i64 (pick3 b0 b1 b2 k)])
      have HR1w := hid (HR.out.belowZ hSl)
      have HXk := HX k
      clear HX hSl
      by_cases hkj : k = j
      · have hb : ((k : Int) != (j : Int)) = false := by rw [bne_eq_false_iff_eq]; omega
        have HFk : Hid (F (k + 1) = F k) := by
          show _ = _
          rw [HXk.out, HJ.out]
          simp [hkj]
        clear HXk hkj
        go_wp2
        go_region
        go_wp2
        go_roundw
        case rel => exact ⟨k + 1, by omega, by go_num, HM1.out.drew, by rw [HFk.out]; exact (World.ownsRow.alloc HR.out _).drew, HB1.out.drew⟩
        case measure => simp [intOf]; omega
      · have hb : ((k : Int) != (j : Int)) = true := by rw [bne_iff_ne]; omega
        rcases Bool.eq_false_or_eq_true (hasB (pick3 s0 s1 s2 k)) with hq | hq
        · by_cases hv : pick3 v0 v1 v2 k = pick3 v0 v1 v2 j
          · have HFk : Hid (F (k + 1) = F k ++ [(k : Int)]) := by
              show _ = _
              rw [HXk.out, HJ.out]
              simp [hq, hv, hkj]
            have hve : (pick3 v0 v1 v2 k == pick3 v0 v1 v2 j) = true := beq_iff_eq.2 hv
            have HQ := hid hq
            have HLn := hid (HZ.out k)
            clear HXk hkj hq hv
            obtain ⟨d0, d1, d2⟩ := HM1.out.at3 hj
            have k0 : (wr.alloc (.cells #[.int .i64 (pick3 s0 s1 s2 k), .int .i64 (pick3 v0 v1 v2 k), .int .i64 (pick3 b0 b1 b2 k)] 23)).cell? ⟨wr.heap.size, 0, none⟩ = some (.int .i64 (pick3 s0 s1 s2 k)) := HK1.out.cell 0 _ rfl
            have k1 : (wr.alloc (.cells #[.int .i64 (pick3 s0 s1 s2 k), .int .i64 (pick3 v0 v1 v2 k), .int .i64 (pick3 b0 b1 b2 k)] 23)).cell? ⟨wr.heap.size, 1, none⟩ = some (.int .i64 (pick3 v0 v1 v2 k)) := HK1.out.cell 1 _ rfl
            have k2 : (wr.alloc (.cells #[.int .i64 (pick3 s0 s1 s2 k), .int .i64 (pick3 v0 v1 v2 k), .int .i64 (pick3 b0 b1 b2 k)] 23)).cell? ⟨wr.heap.size, 2, none⟩ = some (.int .i64 (pick3 b0 b1 b2 k)) := HK1.out.cell 2 _ rfl
            go_wp2
            generalize wr.alloc (.cells #[.int .i64 (pick3 s0 s1 s2 k), .int .i64 (pick3 v0 v1 v2 k), .int .i64 (pick3 b0 b1 b2 k)] 23) = w5 at *
            (refine wp_region_quietC (fun w' => Below (w5).heap.size w5 w') (by kernel_rfl) (by kernel_rfl) ((Below.refl _ _).drew) ?_; (repeat (first | go_big_quiet_skip | (go_big_quiet_want; first | (go_big_quiet_op; go_big_quiet_on) | (apply Exists.intro; refine And.intro (fun wq hq => ?_) ?_; (focus ((have k0' := (hq.cell (block_lt_of_cell k0)).trans k0; have k1' := (hq.cell (block_lt_of_cell k1)).trans k1; have k2' := (hq.cell (block_lt_of_cell k2)).trans k2; have d1' := (hq.cell (block_lt_of_cell d1)).trans d1); (try go_simp); first | done | rfl | ((refine Calls.mono (lad_holds _ _ _ _) ?_; rintro e w6 ⟨rfl, hb5⟩; exact ⟨by rw [HQ.out], hq.trans (hb5.mono hq.size)⟩)))); go_simp; go_big_quiet_on)))); refine quietC_nil _ rfl ?_; intro wE hE)
            have HRw := hid (HR1w.out.belowZ hE)
            have HME := hid (HM1.out.below hE)
            have HBE := hid (HB1.out.trans (hE.mono HB1.out.size))
            have hszE : w.heap.size + 1 ≤ wE.heap.size := HME.out.lt
            clear hE HR HM1 HB1 HK1 k0 k1 k2 d0 d1 d2
            go_wp2_with (first | ((with_reducible refine wpList_unguard ?_ ?_); (focus rfl)) | (at_builtin; refine wpList_pushZ (by rfl) _ _ _ (by rfl) (w.heap.size + 1) ii Try.underlying33 hi hz0 hz1 hz2 _ (F k) k HRw.out (by rfl) _ (by rfl) (by rfl) (by have := HLn.out; omega) hszE ?_))
            intro v' w1 hrow1 hb1
            have HR1 := hid hrow1
            have HB1 := hid (HBE.out.trans (hb1.mono (by omega)))
            have HM1 := hid (HME.out.belowN hb1 (by omega))
            clear hrow1 hb1
            go_wp2
            go_roundw
            case rel => exact ⟨k + 1, by omega, by go_num, HM1.out, by rw [HFk.out]; exact HR1.out, HB1.out⟩
            case measure => simp [intOf]; omega
          · have HFk : Hid (F (k + 1) = F k) := by
              show _ = _
              rw [HXk.out, HJ.out]
              simp [hq, hv]
            have hve : (pick3 v0 v1 v2 k == pick3 v0 v1 v2 j) = false := beq_eq_false_iff_ne.2 hv
            have HQ := hid hq
            clear HXk hkj hq hv
            obtain ⟨d0, d1, d2⟩ := HM1.out.at3 hj
            have k0 : (wr.alloc (.cells #[.int .i64 (pick3 s0 s1 s2 k), .int .i64 (pick3 v0 v1 v2 k), .int .i64 (pick3 b0 b1 b2 k)] 23)).cell? ⟨wr.heap.size, 0, none⟩ = some (.int .i64 (pick3 s0 s1 s2 k)) := HK1.out.cell 0 _ rfl
            have k1 : (wr.alloc (.cells #[.int .i64 (pick3 s0 s1 s2 k), .int .i64 (pick3 v0 v1 v2 k), .int .i64 (pick3 b0 b1 b2 k)] 23)).cell? ⟨wr.heap.size, 1, none⟩ = some (.int .i64 (pick3 v0 v1 v2 k)) := HK1.out.cell 1 _ rfl
            have k2 : (wr.alloc (.cells #[.int .i64 (pick3 s0 s1 s2 k), .int .i64 (pick3 v0 v1 v2 k), .int .i64 (pick3 b0 b1 b2 k)] 23)).cell? ⟨wr.heap.size, 2, none⟩ = some (.int .i64 (pick3 b0 b1 b2 k)) := HK1.out.cell 2 _ rfl
            go_wp2
            generalize wr.alloc (.cells #[.int .i64 (pick3 s0 s1 s2 k), .int .i64 (pick3 v0 v1 v2 k), .int .i64 (pick3 b0 b1 b2 k)] 23) = w5 at *
            (refine wp_region_quietC (fun w' => Below (w5).heap.size w5 w') (by kernel_rfl) (by kernel_rfl) ((Below.refl _ _).drew) ?_; (repeat (first | go_big_quiet_skip | (go_big_quiet_want; first | (go_big_quiet_op; go_big_quiet_on) | (apply Exists.intro; refine And.intro (fun wq hq => ?_) ?_; (focus ((have k0' := (hq.cell (block_lt_of_cell k0)).trans k0; have k1' := (hq.cell (block_lt_of_cell k1)).trans k1; have k2' := (hq.cell (block_lt_of_cell k2)).trans k2; have d1' := (hq.cell (block_lt_of_cell d1)).trans d1); (try go_simp); first | done | rfl | ((refine Calls.mono (lad_holds _ _ _ _) ?_; rintro e w6 ⟨rfl, hb5⟩; exact ⟨by rw [HQ.out], hq.trans (hb5.mono hq.size)⟩)))); go_simp; go_big_quiet_on)))); refine quietC_nil _ rfl ?_; intro wE hE)
            have HRw := hid (HR1w.out.belowZ hE)
            go_wp2
            go_roundw
            case rel => exact ⟨k + 1, by omega, by go_num, HM1.out.below hE, by rw [HFk.out]; exact HRw.out, HB1.out.trans (hE.mono HB1.out.size)⟩
            case measure => simp [intOf]; omega
        · have HFk : Hid (F (k + 1) = F k) := by
            show _ = _
            rw [HXk.out, HJ.out]
            simp [hq]
          have HQ := hid hq
          clear HXk hkj hq
          obtain ⟨d0, d1, d2⟩ := HM1.out.at3 hj
          have k0 : (wr.alloc (.cells #[.int .i64 (pick3 s0 s1 s2 k), .int .i64 (pick3 v0 v1 v2 k), .int .i64 (pick3 b0 b1 b2 k)] 23)).cell? ⟨wr.heap.size, 0, none⟩ = some (.int .i64 (pick3 s0 s1 s2 k)) := HK1.out.cell 0 _ rfl
          have k1 : (wr.alloc (.cells #[.int .i64 (pick3 s0 s1 s2 k), .int .i64 (pick3 v0 v1 v2 k), .int .i64 (pick3 b0 b1 b2 k)] 23)).cell? ⟨wr.heap.size, 1, none⟩ = some (.int .i64 (pick3 v0 v1 v2 k)) := HK1.out.cell 1 _ rfl
          have k2 : (wr.alloc (.cells #[.int .i64 (pick3 s0 s1 s2 k), .int .i64 (pick3 v0 v1 v2 k), .int .i64 (pick3 b0 b1 b2 k)] 23)).cell? ⟨wr.heap.size, 2, none⟩ = some (.int .i64 (pick3 b0 b1 b2 k)) := HK1.out.cell 2 _ rfl
          go_wp2
          generalize wr.alloc (.cells #[.int .i64 (pick3 s0 s1 s2 k), .int .i64 (pick3 v0 v1 v2 k), .int .i64 (pick3 b0 b1 b2 k)] 23) = w5 at *
          (refine wp_region_quietC (fun w' => Below (w5).heap.size w5 w') (by kernel_rfl) (by kernel_rfl) ((Below.refl _ _).drew) ?_; (repeat (first | go_big_quiet_skip | (go_big_quiet_want; first | (go_big_quiet_op; go_big_quiet_on) | (apply Exists.intro; refine And.intro (fun wq hq => ?_) ?_; (focus ((have k0' := (hq.cell (block_lt_of_cell k0)).trans k0; have k1' := (hq.cell (block_lt_of_cell k1)).trans k1; have k2' := (hq.cell (block_lt_of_cell k2)).trans k2; have d1' := (hq.cell (block_lt_of_cell d1)).trans d1); (try go_simp); first | done | rfl | ((refine Calls.mono (lad_holds _ _ _ _) ?_; rintro e w6 ⟨rfl, hb5⟩; exact ⟨by rw [HQ.out], hq.trans (hb5.mono hq.size)⟩)))); go_simp; go_big_quiet_on)))); refine quietC_nil _ rfl ?_; intro wE hE)
          have HRw := hid (HR1w.out.belowZ hE)
          go_wp2
          go_roundw
          case rel => exact ⟨k + 1, by omega, by go_num, HM1.out.below hE, by rw [HFk.out]; exact HRw.out, HB1.out.trans (hE.mono HB1.out.size)⟩
          case measure => simp [intOf]; omega
    · have HT : Hid (F k = F 3) := by show _ = _; rw [show k = 3 from by omega]
      go_wp2
      go_ret
      refine ⟨?_, HB.out⟩
      have h := HR.out
      rw [HT.out] at h
      obtain ⟨q, c, rfl, hle, hc⟩ := h.cells
      exact ⟨q, c, rfl, hle, hc⟩
end Go.Proofs.Ytdkfofogbogkcaa
