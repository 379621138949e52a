/-
  tag.Seal, tag.Open in the program.
-/
import Derived.Test.YtiailpbmmadaeaaCpy
import Derived.Test.YtiailpbmmadaeaaOpen
import Derived.Laws.ResultCell
namespace Go.Proofs.Ytiailpbmmadaeaa
open Go.RowKit Tri

set_option maxHeartbeats 1000000 in
set_option maxRecDepth 100000 in
theorem tag_Seal (w0 : World) (b : Nat) (l : List Nat) (w : World) (K : KeepsC w0 b w) (hl : l.length = 60) (hb : ∀ x ∈ l, x < 256) :
    Calls Try.prog 15 #[.pointer (some ⟨b, 0, none⟩), .agg (blkB l)] w fun e w' => e = .returned (.string (ofB (sealB l))) ∧ KeepsC w0 b w' := by
  have hK1 := K.alloc (.cells (blkB l) 31)
  have hB1 := Blk.new w 31 (blkB l)
  have hconv := conv_str hB1.cellsB 60 60 hl.symm
  have HLn := hid hl
  have HLb := hid hb
  have K1 := hid hK1
  clear hl hb hK1 hB1
  (go_enter Try.func15, Try.ntmps15; try simp only [List.append])
  go_wp2_with fail
  refine Calls.mono (crc_Seal1 b _ (ofB l) _ _ K1.out.2 (by simp) (by rw [ofB_size, HLn.out]; omega)) ?_; rintro e w1 ⟨rfl, hb⟩
  rw [sb_ofB l HLb.out]
  have K2 := hid (K1.out.below hb)
  clear hb hconv
  go_wp2
  go_ret
  exact ⟨rfl, K2.out⟩
/-- A text's first bytes, with noughts behind them. -/
def padB (l : List Nat) (n : Nat) : List Nat := l.take n ++ List.replicate (n - l.length) 0
theorem padB_length (l : List Nat) (n : Nat) : (padB l n).length = n := by
  unfold padB
  rw [List.length_append, List.length_take, List.length_replicate]
  omega
def openOk (s : ByteArray) : Bool := decide (s.size = 64) && decide (openE s = 0)
set_option maxHeartbeats 4000000 in
set_option maxRecDepth 100000 in
theorem tag_Open (w0 : World) (b : Nat) (s : ByteArray) (w : World) (K : KeepsC w0 b w) (hz : s.size ≤ 1000000) :
    Calls Try.prog 16 #[.pointer (some ⟨b, 0, none⟩), .string s] w fun e w' => e = .returned (.tuple #[.agg (blkB (padB (sb s) 60)), .bool (openOk s)]) ∧ KeepsC w0 b w' := by
  have hK := hid K
  clear K
  have hb2 : Below w.heap.size w ((w.alloc (.cells #[.int .u8 0, .int .u8 0, .int .u8 0, .int .u8 0, .int .u8 0, .int .u8 0, .int .u8 0, .int .u8 0, .int .u8 0, .int .u8 0, .int .u8 0, .int .u8 0, .int .u8 0, .int .u8 0, .int .u8 0, .int .u8 0, .int .u8 0, .int .u8 0, .int .u8 0, .int .u8 0, .int .u8 0, .int .u8 0, .int .u8 0, .int .u8 0, .int .u8 0, .int .u8 0, .int .u8 0, .int .u8 0, .int .u8 0, .int .u8 0, .int .u8 0, .int .u8 0, .int .u8 0, .int .u8 0, .int .u8 0, .int .u8 0, .int .u8 0, .int .u8 0, .int .u8 0, .int .u8 0, .int .u8 0, .int .u8 0, .int .u8 0, .int .u8 0, .int .u8 0, .int .u8 0, .int .u8 0, .int .u8 0, .int .u8 0, .int .u8 0, .int .u8 0, .int .u8 0, .int .u8 0, .int .u8 0, .int .u8 0, .int .u8 0, .int .u8 0, .int .u8 0, .int .u8 0, .int .u8 0] 31)).alloc (.cells #[.int .u8 0, .int .u8 0, .int .u8 0, .int .u8 0, .int .u8 0, .int .u8 0, .int .u8 0, .int .u8 0, .int .u8 0, .int .u8 0, .int .u8 0, .int .u8 0, .int .u8 0, .int .u8 0, .int .u8 0, .int .u8 0, .int .u8 0, .int .u8 0, .int .u8 0, .int .u8 0, .int .u8 0, .int .u8 0, .int .u8 0, .int .u8 0, .int .u8 0, .int .u8 0, .int .u8 0, .int .u8 0, .int .u8 0, .int .u8 0, .int .u8 0, .int .u8 0, .int .u8 0, .int .u8 0, .int .u8 0, .int .u8 0, .int .u8 0, .int .u8 0, .int .u8 0, .int .u8 0, .int .u8 0, .int .u8 0, .int .u8 0, .int .u8 0, .int .u8 0, .int .u8 0, .int .u8 0, .int .u8 0, .int .u8 0, .int .u8 0, .int .u8 0, .int .u8 0, .int .u8 0, .int .u8 0, .int .u8 0, .int .u8 0, .int .u8 0, .int .u8 0, .int .u8 0, .int .u8 0] 31)) := ((Below.refl _ _).alloc (Nat.le_refl _) _).alloc (by simp) _
  have hB4 : Blk ((w.alloc (.cells #[.int .u8 0, .int .u8 0, .int .u8 0, .int .u8 0, .int .u8 0, .int .u8 0, .int .u8 0, .int .u8 0, .int .u8 0, .int .u8 0, .int .u8 0, .int .u8 0, .int .u8 0, .int .u8 0, .int .u8 0, .int .u8 0, .int .u8 0, .int .u8 0, .int .u8 0, .int .u8 0, .int .u8 0, .int .u8 0, .int .u8 0, .int .u8 0, .int .u8 0, .int .u8 0, .int .u8 0, .int .u8 0, .int .u8 0, .int .u8 0, .int .u8 0, .int .u8 0, .int .u8 0, .int .u8 0, .int .u8 0, .int .u8 0, .int .u8 0, .int .u8 0, .int .u8 0, .int .u8 0, .int .u8 0, .int .u8 0, .int .u8 0, .int .u8 0, .int .u8 0, .int .u8 0, .int .u8 0, .int .u8 0, .int .u8 0, .int .u8 0, .int .u8 0, .int .u8 0, .int .u8 0, .int .u8 0, .int .u8 0, .int .u8 0, .int .u8 0, .int .u8 0, .int .u8 0, .int .u8 0] 31)).alloc (.cells #[.int .u8 0, .int .u8 0, .int .u8 0, .int .u8 0, .int .u8 0, .int .u8 0, .int .u8 0, .int .u8 0, .int .u8 0, .int .u8 0, .int .u8 0, .int .u8 0, .int .u8 0, .int .u8 0, .int .u8 0, .int .u8 0, .int .u8 0, .int .u8 0, .int .u8 0, .int .u8 0, .int .u8 0, .int .u8 0, .int .u8 0, .int .u8 0, .int .u8 0, .int .u8 0, .int .u8 0, .int .u8 0, .int .u8 0, .int .u8 0, .int .u8 0, .int .u8 0, .int .u8 0, .int .u8 0, .int .u8 0, .int .u8 0, .int .u8 0, .int .u8 0, .int .u8 0, .int .u8 0, .int .u8 0, .int .u8 0, .int .u8 0, .int .u8 0, .int .u8 0, .int .u8 0, .int .u8 0, .int .u8 0, .int .u8 0, .int .u8 0, .int .u8 0, .int .u8 0, .int .u8 0, .int .u8 0, .int .u8 0, .int .u8 0, .int .u8 0, .int .u8 0, .int .u8 0, .int .u8 0] 31)) w.heap.size 31 (blkB (List.replicate 60 0)) := (Blk.new w 31 (blkB (List.replicate 60 0))).below ((Below.refl _ _).alloc (Nat.le_refl _) _)
  have hB6 : Blk ((w.alloc (.cells #[.int .u8 0, .int .u8 0, .int .u8 0, .int .u8 0, .int .u8 0, .int .u8 0, .int .u8 0, .int .u8 0, .int .u8 0, .int .u8 0, .int .u8 0, .int .u8 0, .int .u8 0, .int .u8 0, .int .u8 0, .int .u8 0, .int .u8 0, .int .u8 0, .int .u8 0, .int .u8 0, .int .u8 0, .int .u8 0, .int .u8 0, .int .u8 0, .int .u8 0, .int .u8 0, .int .u8 0, .int .u8 0, .int .u8 0, .int .u8 0, .int .u8 0, .int .u8 0, .int .u8 0, .int .u8 0, .int .u8 0, .int .u8 0, .int .u8 0, .int .u8 0, .int .u8 0, .int .u8 0, .int .u8 0, .int .u8 0, .int .u8 0, .int .u8 0, .int .u8 0, .int .u8 0, .int .u8 0, .int .u8 0, .int .u8 0, .int .u8 0, .int .u8 0, .int .u8 0, .int .u8 0, .int .u8 0, .int .u8 0, .int .u8 0, .int .u8 0, .int .u8 0, .int .u8 0, .int .u8 0] 31)).alloc (.cells #[.int .u8 0, .int .u8 0, .int .u8 0, .int .u8 0, .int .u8 0, .int .u8 0, .int .u8 0, .int .u8 0, .int .u8 0, .int .u8 0, .int .u8 0, .int .u8 0, .int .u8 0, .int .u8 0, .int .u8 0, .int .u8 0, .int .u8 0, .int .u8 0, .int .u8 0, .int .u8 0, .int .u8 0, .int .u8 0, .int .u8 0, .int .u8 0, .int .u8 0, .int .u8 0, .int .u8 0, .int .u8 0, .int .u8 0, .int .u8 0, .int .u8 0, .int .u8 0, .int .u8 0, .int .u8 0, .int .u8 0, .int .u8 0, .int .u8 0, .int .u8 0, .int .u8 0, .int .u8 0, .int .u8 0, .int .u8 0, .int .u8 0, .int .u8 0, .int .u8 0, .int .u8 0, .int .u8 0, .int .u8 0, .int .u8 0, .int .u8 0, .int .u8 0, .int .u8 0, .int .u8 0, .int .u8 0, .int .u8 0, .int .u8 0, .int .u8 0, .int .u8 0, .int .u8 0, .int .u8 0] 31)) (w.heap.size + 1) 31 (blkB (List.replicate 60 0)) := by
    have := Blk.new (w.alloc (.cells #[.int .u8 0, .int .u8 0, .int .u8 0, .int .u8 0, .int .u8 0, .int .u8 0, .int .u8 0, .int .u8 0, .int .u8 0, .int .u8 0, .int .u8 0, .int .u8 0, .int .u8 0, .int .u8 0, .int .u8 0, .int .u8 0, .int .u8 0, .int .u8 0, .int .u8 0, .int .u8 0, .int .u8 0, .int .u8 0, .int .u8 0, .int .u8 0, .int .u8 0, .int .u8 0, .int .u8 0, .int .u8 0, .int .u8 0, .int .u8 0, .int .u8 0, .int .u8 0, .int .u8 0, .int .u8 0, .int .u8 0, .int .u8 0, .int .u8 0, .int .u8 0, .int .u8 0, .int .u8 0, .int .u8 0, .int .u8 0, .int .u8 0, .int .u8 0, .int .u8 0, .int .u8 0, .int .u8 0, .int .u8 0, .int .u8 0, .int .u8 0, .int .u8 0, .int .u8 0, .int .u8 0, .int .u8 0, .int .u8 0, .int .u8 0, .int .u8 0, .int .u8 0, .int .u8 0, .int .u8 0] 31)) 31 (blkB (List.replicate 60 0))
    rw [show (w.alloc (.cells #[.int .u8 0, .int .u8 0, .int .u8 0, .int .u8 0, .int .u8 0, .int .u8 0, .int .u8 0, .int .u8 0, .int .u8 0, .int .u8 0, .int .u8 0, .int .u8 0, .int .u8 0, .int .u8 0, .int .u8 0, .int .u8 0, .int .u8 0, .int .u8 0, .int .u8 0, .int .u8 0, .int .u8 0, .int .u8 0, .int .u8 0, .int .u8 0, .int .u8 0, .int .u8 0, .int .u8 0, .int .u8 0, .int .u8 0, .int .u8 0, .int .u8 0, .int .u8 0, .int .u8 0, .int .u8 0, .int .u8 0, .int .u8 0, .int .u8 0, .int .u8 0, .int .u8 0, .int .u8 0, .int .u8 0, .int .u8 0, .int .u8 0, .int .u8 0, .int .u8 0, .int .u8 0, .int .u8 0, .int .u8 0, .int .u8 0, .int .u8 0, .int .u8 0, .int .u8 0, .int .u8 0, .int .u8 0, .int .u8 0, .int .u8 0, .int .u8 0, .int .u8 0, .int .u8 0, .int .u8 0] 31)).heap.size = w.heap.size + 1 from by simp] at this
    exact this
  have hpad : Hid ((List.replicate 60 0).take 0 ++ ((sb s).take (Nat.min s.size 60) ++ (List.replicate 60 0).drop (0 + Nat.min s.size 60)) = padB (sb s) 60) := by
    show _ = _
    unfold padB
    rw [List.take_zero, List.nil_append, Nat.zero_add, List.drop_replicate, sb_length]
    by_cases h : s.size ≤ 60
    · rw [show Nat.min s.size 60 = s.size from Nat.min_eq_left h, List.take_of_length_le (by rw [sb_length]; omega), List.take_of_length_le (by rw [sb_length]; omega)]
    · rw [show Nat.min s.size 60 = 60 from Nat.min_eq_right (by omega), show 60 - s.size = 0 from by omega]
  have hlen := padB_length (sb s) 60
  have HO : Hid (openOk s = (decide (s.size = 64) && decide (openE s = 0))) := rfl
  generalize openOk s = OO at *
  generalize padB (sb s) 60 = L at *
  have HB2 := hid hb2
  have HB4 := hid hB4
  have HB6 := hid hB6
  clear hb2 hB4 hB6
  (go_enter Try.func16, Try.ntmps16; try simp only [List.append])
  go_wp2_with (refine wpList_copy_str (o := ⟨some 11, _, _, _, _, _⟩) (by rfl) _ _ _ _ (by rfl) 5 31 Try.underlying34 Try.sizeOf5 (w.heap.size + 1) 0 60 60 (Nat.min s.size 60) s (List.replicate 60 0) (by rfl) (by rfl) (by rfl) HB6.out (by simp; exact Nat.min_le_right _ _) w.heap.size w HB2.out (by omega) L hpad.out ?_)
  intro w3 hB6 hb3 hfr
  have hK0 := hid hK.out.1
  have hbW := hK.out.2.lt
  have hB4 := hid (hfr.out _ _ _ (by omega) HB4.out)
  have hK3 := hid (hK.out.below hb3.out)
  clear hfr HB2 HB4 HB6 hK hpad
  go_wp2_with fail
  refine Calls.mono (crc_Open b s w3 hK3.out.2 hz) ?_; rintro e w4 ⟨rfl, hb⟩
  have hK4 := hid (hK3.out.below hb)
  have hB4' := hid (hB4.out.below hb)
  have hB6' := hid (hB6.out.below hb)
  have hb4 := hid (hb3.out.trans (hb.mono hb3.out.size))
  clear hb hK3 hB4 hB6 hb3
  have c1 : ((s.size : Int) == 64) = decide (s.size = 64) := by rw [Bool.eq_iff_iff]; simp; omega
  have c2 : (((openE s : Nat) : Int) == 0) = decide (openE s = 0) := by rw [Bool.eq_iff_iff]; simp
  rcases Bool.eq_false_or_eq_true (decide (s.size = 64)) with h64 | h64
  · rcases Bool.eq_false_or_eq_true (decide (openE s = 0)) with hE | hE
    · rw [h64] at c1
      rw [hE] at c2
      have HV : Hid (OO = true)
        := by show _ = _; rw [HO.out, h64]; first | rfl | (rw [hE]; rfl)
      go_wp2_with (first | ((with_reducible refine wpList_unguard ?_ ?_); (focus rfl)) | (refine wpList_load_row (o := ⟨some 18, _, _, _, _, _⟩) (by rfl) 31 _ (by rfl) (w.heap.size + 1) (by rfl) 31 (blkB L) (0, 0) _ hB6'.out Try.underlying31 rfl (by rw [blkB_size, hlen]; kernel_rfl) ?_) | (refine wpList_store_B (o := ⟨none, _, _, _, _, _⟩) (by rfl) 31 _ _ (by rfl) w.heap.size 31 L (List.replicate 60 0) (by rfl) (by rfl) hB4'.out (by rw [hlen]; rfl) (by rw [hlen]; kernel_rfl) w.heap.size w hb4.out (Nat.le_refl _) ?_))
      intro w5 hB5 hb5 hfr5
      have hK5 : Hid (KeepsC w0 b w5) := ⟨hK0.out.trans (hb5.out.mono hK0.out.size), hfr5.out b _ _ (by omega) hK4.out.2⟩
      go_wp2
      have hlv := run_loadVar_row (P := Try.prog) w5 w.heap.size 31 31 (blkB L) (0, 0) _ hB5.out Try.underlying31 rfl (by rw [blkB_size, hlen]; kernel_rfl)
      refine bodyPost_ret (v := .tuple #[.agg (blkB L), .bool true]) (by rw [results_cell_tmp (p := 4) (u := 5) (ty := 31) rfl]; show ((asAddr (.pointer (some ⟨w.heap.size, 0, none⟩))).run _ _).andThen _ = _; simp only [asAddr, Sem.run_pure, Result.andThen_ok, hlv]; rfl) rfl ⟨by rw [HV.out], hK5.out⟩
    · rw [h64] at c1
      rw [hE] at c2
      have HV : Hid (OO = false)
        := by show _ = _; rw [HO.out, h64]; first | rfl | (rw [hE]; rfl)
      go_wp2_with (first | ((with_reducible refine wpList_unguard ?_ ?_); (focus rfl)) | (refine wpList_load_row (o := ⟨some 18, _, _, _, _, _⟩) (by rfl) 31 _ (by rfl) (w.heap.size + 1) (by rfl) 31 (blkB L) (0, 0) _ hB6'.out Try.underlying31 rfl (by rw [blkB_size, hlen]; kernel_rfl) ?_) | (refine wpList_store_B (o := ⟨none, _, _, _, _, _⟩) (by rfl) 31 _ _ (by rfl) w.heap.size 31 L (List.replicate 60 0) (by rfl) (by rfl) hB4'.out (by rw [hlen]; rfl) (by rw [hlen]; kernel_rfl) w.heap.size w hb4.out (Nat.le_refl _) ?_))
      intro w5 hB5 hb5 hfr5
      have hK5 : Hid (KeepsC w0 b w5) := ⟨hK0.out.trans (hb5.out.mono hK0.out.size), hfr5.out b _ _ (by omega) hK4.out.2⟩
      go_wp2
      have hlv := run_loadVar_row (P := Try.prog) w5 w.heap.size 31 31 (blkB L) (0, 0) _ hB5.out Try.underlying31 rfl (by rw [blkB_size, hlen]; kernel_rfl)
      refine bodyPost_ret (v := .tuple #[.agg (blkB L), .bool false]) (by rw [results_cell_tmp (p := 4) (u := 5) (ty := 31) rfl]; show ((asAddr (.pointer (some ⟨w.heap.size, 0, none⟩))).run _ _).andThen _ = _; simp only [asAddr, Sem.run_pure, Result.andThen_ok, hlv]; rfl) rfl ⟨by rw [HV.out], hK5.out⟩
  · rw [h64] at c1
    clear c2
    have HV : Hid (OO = false)
      := by show _ = _; rw [HO.out, h64]; first | rfl | (rw [hE]; rfl)
    go_wp2_with (first | ((with_reducible refine wpList_unguard ?_ ?_); (focus rfl)) | (refine wpList_load_row (o := ⟨some 18, _, _, _, _, _⟩) (by rfl) 31 _ (by rfl) (w.heap.size + 1) (by rfl) 31 (blkB L) (0, 0) _ hB6'.out Try.underlying31 rfl (by rw [blkB_size, hlen]; kernel_rfl) ?_) | (refine wpList_store_B (o := ⟨none, _, _, _, _, _⟩) (by rfl) 31 _ _ (by rfl) w.heap.size 31 L (List.replicate 60 0) (by rfl) (by rfl) hB4'.out (by rw [hlen]; rfl) (by rw [hlen]; kernel_rfl) w.heap.size w hb4.out (Nat.le_refl _) ?_))
    intro w5 hB5 hb5 hfr5
    have hK5 : Hid (KeepsC w0 b w5) := ⟨hK0.out.trans (hb5.out.mono hK0.out.size), hfr5.out b _ _ (by omega) hK4.out.2⟩
    go_wp2
    have hlv := run_loadVar_row (P := Try.prog) w5 w.heap.size 31 31 (blkB L) (0, 0) _ hB5.out Try.underlying31 rfl (by rw [blkB_size, hlen]; kernel_rfl)
    refine bodyPost_ret (v := .tuple #[.agg (blkB L), .bool false]) (by rw [results_cell_tmp (p := 4) (u := 5) (ty := 31) rfl]; show ((asAddr (.pointer (some ⟨w.heap.size, 0, none⟩))).run _ _).andThen _ = _; simp only [asAddr, Sem.run_pure, Result.andThen_ok, hlv]; rfl) rfl ⟨by rw [HV.out], hK5.out⟩
end Go.Proofs.Ytiailpbmmadaeaa
