/-
  The reference of chapter 10: Text, Seal, Block, Right.
-/
import Derived.Test.YtiailpbmmadaeaaTag4
namespace Go.Proofs.Ytiailpbmmadaeaa
open Go.RowKit Tri

theorem Try.infoU8 : (Try.prog.info? 5).map (fun i => (i.zero, i.size, i.bytes)) = some (some (.int .u8 0), 1, 1) := by kernel_rfl
theorem rowK.cellsU {w : World} {base : Nat} {v : Value} {l : List Nat} (h : rowK w base 5 .u8 v l) : ∃ p c, v = .slice p l.length c ∧ cellsB w p l := by
  have h' := h
  unfold rowK at h'
  rcases h.2 with ⟨rfl, h0⟩ | ⟨g, cap, cur, rfl, _, _, hle, _, _, _⟩
  · refine ⟨none, 0, by rw [h0], ?_⟩
    rw [List.eq_nil_of_length_eq_zero h0]; exact cellsB.nil _ _
  · refine ⟨_, _, rfl, ?_⟩
    intro i hi
    refine ⟨_, _, rfl, ?_⟩
    rw [Nat.zero_add, h'.cellAt i (by omega), List.getElem?_map, List.getElem?_eq_getElem hi]
    simp [hi]
set_option maxHeartbeats 4000000 in
set_option maxRecDepth 100000 in
theorem ref10_Text (l : List Nat) (w : World) (hl : l.length = 60) :
    Calls Try.prog 27 #[.agg (blkB l)] w fun e w' => e = .returned (.string (ofB l)) ∧ Below w.heap.size w w' := by
  have hB0 := Blk.new w 31 (blkB l)
  have hb0 : Below w.heap.size w (w.alloc (.cells (blkB l) 31)) := (Below.refl _ _).alloc (Nat.le_refl _) _
  have HL := hid hl
  obtain ⟨ii, hi, hz0, hz1, hz2⟩ := info_parts Try.infoU8
  have hsz0 : (w.alloc (.cells (blkB l) 31)).heap.size = w.heap.size + 1 := by simp
  (go_enter Try.func27, Try.ntmps27; try simp only [List.append])
  go_wp2
  have hb1 : Below w.heap.size w ((w.alloc (.cells (blkB l) 31)).alloc (.cells #[] 5)) := hb0.alloc (by simp) _
  have hB1 : Blk ((w.alloc (.cells (blkB l) 31)).alloc (.cells #[] 5)) w.heap.size 31 (blkB l) := hB0.below ((Below.refl _ _).alloc (Nat.le_refl _) _)
  have hR1 : rowK ((w.alloc (.cells (blkB l) 31)).alloc (.cells #[] 5)) (w.heap.size + 1) 5 .u8 (.slice (some ⟨w.heap.size + 1, 0, none⟩) 0 0) [] := by
    refine ⟨rfl, .inr ⟨w.heap.size + 1, 0, #[], rfl, Nat.le_refl _, ?_, Nat.le_refl _, by unfold maxLen; omega, rfl, rfl⟩⟩
    have := Blk.new (w.alloc (.cells (blkB l) 31)) 5 #[]
    rw [hsz0] at this
    exact this
  generalize (w.alloc (.cells (blkB l) 31)).alloc (.cells #[] 5) = w1 at *
  have HB1 := hid hB1
  have Hb1 := hid hb1
  have HR1 := hid hR1
  clear hB0 hb0 hb1 hB1 hR1 hsz0 hl
  go_loopw [4, 3] (fun i v wr => ∃ k : Nat, k ≤ 60 ∧ i = .int .i64 k ∧ rowK wr (w.heap.size + 1) 5 .u8 v (l.take k) ∧ Blk wr w.heap.size 31 (blkB l) ∧ Below w.heap.size w wr) (fun i _ _ => 60 - (intOf i).toNat)
  case atStart => exact ⟨0, by omega, rfl, HR1.out, HB1.out, Hb1.out⟩
  case round =>
    obtain ⟨k, hk, rfl, hrow, hB, hb⟩ := hrel
    have HR := hid hrow
    have HB := hid hB
    have Hb := hid hb
    have hsz := hB.lt
    clear hrow hB hb HR1 HB1 Hb1
    by_cases hlt : k < 60
    · have hlt' : (k : Int) < 60 := by omega
      have hc : wr.cell? ⟨w.heap.size, k, none⟩ = some (.int .u8 (l.getD k 0 : Nat)) := by
        obtain ⟨a, o, e, hc⟩ := HB.out.cellsB k (by rw [HL.out]; exact hlt)
        simp only [Option.some.injEq, Addr.mk.injEq, and_true] at e
        obtain ⟨rfl, rfl⟩ := e
        rwa [Nat.zero_add] at hc
      have HT := hid (take_snocN l k (by rw [HL.out]; exact hlt))
      have hlen : (l.take k).length = k := by rw [List.length_take, HL.out]; omega
      have HLk := hid hlen
      clear hlen
      generalize l.getD k 0 = x at *
      go_wp2_with (first | ((with_reducible refine wpList_unguard ?_ ?_); (focus rfl)) | (at_builtin; refine wpList_push (by rfl) _ _ _ (by rfl) (w.heap.size + 1) 5 ii .u8 1 Try.underlying34 hi hz0 hz1 hz2 (by omega) _ (l.take k) x HR.out (by rfl) _ (by rfl) (by rfl) (by rw [HLk.out]; omega) (by omega) ?_))
      intro v' w1 hrow1 hb1
      have HR1 := hid hrow1
      have HB1 := hid (HB.out.belowN hb1 (by omega))
      have Hb1 := hid (Hb.out.trans (hb1.mono (by omega)))
      clear hrow1 hb1
      go_wp2
      go_roundw
      case rel => exact ⟨k + 1, by omega, by go_num, by rw [HT.out]; exact HR1.out, HB1.out, Hb1.out⟩
      case measure => simp [intOf]; omega
    · have hrow := HR.out
      rw [List.take_of_length_le (by rw [HL.out]; omega)] at hrow
      obtain ⟨q, c, rfl, hcl⟩ := hrow.cellsU
      have hconv := conv_str hcl l.length c rfl
      clear hrow hcl HR HB
      go_wp2
      go_ret
      exact ⟨rfl, Hb.out⟩
set_option maxHeartbeats 1000000 in
set_option maxRecDepth 100000 in
theorem ref10_Seal (l : List Nat) (w : World) (hl : l.length = 60) (hb : ∀ x ∈ l, x < 256) :
    Calls Try.prog 21 #[.agg (blkB l)] w fun e w' => e = .returned (.string (ofB (sealB l))) ∧ Below w.heap.size w w' := by
  have hB0 := Blk.new w 31 (blkB l)
  have hb0 : Below w.heap.size w (w.alloc (.cells (blkB l) 31)) := (Below.refl _ _).alloc (Nat.le_refl _) _
  obtain ⟨w1, hw1⟩ : ∃ u, w.alloc (.cells (blkB l) 31) = u := ⟨_, rfl⟩
  rw [hw1] at hB0 hb0
  have HB1 := hid hB0
  have Hb1 := hid hb0
  have HLb := hid hb
  clear hB0 hb0 hb
  (go_enter Try.func21, Try.ntmps21; try simp only [List.append])
  go_wp2_with (refine wpList_load_row (o := ⟨some 3, _, _, _, _, _⟩) (by rfl) 31 _ (by rfl) w.heap.size (by rfl) 31 (blkB l) (0, 0) _ HB1.out Try.underlying31 rfl (by rw [blkB_size, hl]; kernel_rfl) ?_)
  refine Calls.mono (ref10_Text l w1 hl) ?_; rintro e w2 ⟨rfl, hb⟩
  have Hb2 := hid (Hb1.out.trans (hb.mono Hb1.out.size))
  clear hb hw1
  go_wp2_with fail
  refine Calls.mono (ref2_Seal (ofB l) w2 (by rw [ofB_size, hl]; omega)) ?_; rintro e w3 ⟨rfl, hb⟩
  rw [sb_ofB l HLb.out]
  have Hb3 := hid (Hb2.out.trans (hb.mono Hb2.out.size))
  clear hb
  go_wp2
  go_ret
  exact ⟨rfl, Hb3.out⟩
set_option maxHeartbeats 1000000 in
set_option maxRecDepth 100000 in
theorem ref10_Right (s : ByteArray) (w : World) (hz : s.size ≤ 1000000) :
    Calls Try.prog 23 #[.string s] w fun e w' => e = .returned (.bool (openOk s)) ∧ Below w.heap.size w w' := by
  have HO : Hid (openOk s = (decide (s.size = 64) && decide (openE s = 0))) := rfl
  generalize openOk s = OO at *
  have c1 : ((s.size : Int) == 64) = decide (s.size = 64) := by rw [Bool.eq_iff_iff]; simp; omega
  have c2 : (((openE s : Nat) : Int) == 0) = decide (openE s = 0) := by rw [Bool.eq_iff_iff]; simp
  generalize decide (s.size = 64) = p at *
  generalize decide (openE s = 0) = q at *
  (go_enter Try.func23, Try.ntmps23; try simp only [List.append])
  go_wp2_with fail
  refine Calls.mono (ref2_Open s w hz) ?_; rintro e w2 ⟨rfl, hb⟩
  have Hb := hid hb
  clear hb
  cases p with
  | true =>
    go_wp2_with ((with_reducible refine wpList_unguard ?_ ?_); (focus rfl))
    go_ret
    exact ⟨by rw [HO.out]; cases q <;> rfl, Hb.out⟩
  | false =>
    go_wp2_with ((with_reducible refine wpList_unguard ?_ ?_); (focus rfl))
    go_ret
    exact ⟨by rw [HO.out]; rfl, Hb.out⟩
end Go.Proofs.Ytiailpbmmadaeaa
