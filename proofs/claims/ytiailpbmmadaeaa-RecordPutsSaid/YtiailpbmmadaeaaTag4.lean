/-
  tag.Blank, tag.Open and tag.Seal of nil; the reference of chapter 10.
-/
import Derived.Test.YtiailpbmmadaeaaTag2
import Derived.Test.YtiailpbmmadaeaaRefC
import Derived.Test.YtiailpbmmadaeaaIntK
namespace Go.Proofs.Ytiailpbmmadaeaa
open Go.RowKit Tri

def repS (n x : Nat) : ByteArray := ofB (List.replicate n x)
theorem rep_of (x : Nat) (n : Nat) : (⟨(Lib.repeatL (⟨#[UInt8.ofNat x]⟩ : ByteArray).data.toList n).toArray⟩ : ByteArray) = repS n x := by
  have : ∀ n, Lib.repeatL [UInt8.ofNat x] n = (List.replicate n x).map UInt8.ofNat := by
    intro n
    induction n with
    | zero => rfl
    | succ n ih => rw [List.replicate_succ, List.map_cons, ← ih]; rfl
  unfold repS ofB
  rw [← this]
theorem strRep (x n : Nat) (w : World) (hn : n ≤ 100000) :
    Calls Try.prog 20 #[.string ⟨#[UInt8.ofNat x]⟩, .int .i64 n] w fun e w' => e = .returned (.string (repS n x)) ∧ Below w.heap.size w w' := by
  refine (Try.strings_Repeat ⟨#[UInt8.ofNat x]⟩ n w (by omega) ?_).mono fun e w' h => ⟨?_, h.2⟩
  · show 1 * n ≤ _; omega
  · rw [h.1, rep_of]
def isBlank (s : ByteArray) : Bool := decide (sb s = List.replicate 64 255)
set_option maxHeartbeats 400000 in
theorem tag_Blank (s : ByteArray) (w : World) :
    Calls Try.prog 24 #[.string s] w fun e w' => e = .returned (.bool (isBlank s)) ∧ Below w.heap.size w w' := by
  have hq := str_beq s (repS 64 255)
  rw [show sb (repS 64 255) = List.replicate 64 255 from sb_ofB _ (by decide)] at hq
  have HQ : Hid ((s.toList == (repS 64 255).toList) = isBlank s) := hq
  clear hq
  have HR := hid (strRep 255 64 w (by omega))
  generalize isBlank s = B at *
  generalize repS 64 255 = R at *
  (go_enter Try.func24, Try.ntmps24; try simp only [List.append])
  go_wp2_with fail
  refine Calls.mono HR.out ?_; rintro e w1 ⟨rfl, hb⟩
  have HB := hid hb
  have hq := HQ.out
  clear hb HR
  go_wp2
  go_ret
  exact ⟨rfl, HB.out⟩
set_option maxHeartbeats 1000000 in
set_option maxRecDepth 100000 in
theorem tag_Seal_nil (l : List Nat) (w : World) (hl : l.length = 60) :
    Calls Try.prog 15 #[.pointer none, .agg (blkB l)] w fun e w' => e = .returned (.string ⟨#[]⟩) ∧ Below w.heap.size w w' := by
  have hB1 := Blk.new w 31 (blkB l)
  have hconv := conv_str hB1.cellsB 60 60 hl.symm
  have HLn := hid hl
  clear hl hB1
  (go_enter Try.func15, Try.ntmps15; try simp only [List.append])
  go_wp2_with fail
  refine Calls.mono (crc_Seal_nil _ _ _ _) ?_; rintro e w1 ⟨rfl, rfl⟩
  go_wp2
  go_ret
  exact ⟨rfl, by go_grown⟩
set_option maxHeartbeats 4000000 in
set_option maxRecDepth 100000 in
theorem tag_Open_nil (s : ByteArray) (w : World) (hz : s.size ≤ 1000000) :
    Calls Try.prog 16 #[.pointer none, .string s] w fun e w' => e = .returned (.tuple #[.agg (blkB (padB (sb s) 60)), .bool false]) ∧ Below w.heap.size w w' := by
  have hb2 : Below w.heap.size w ((w.alloc (.cells #[.int .u8 0, .int .u8 0, .int .u8 0, .int .u8 0, .int .u8 0, .int .u8 0, .int .u8 0, .int .u8 0, .int .u8 0, .int .u8 0, .int .u8 0, .int .u8 0, .int .u8 0, .int .u8 0, .int .u8 0, .int .u8 0, .int .u8 0, .int .u8 0, .int .u8 0, .int .u8 0, .int .u8 0, .int .u8 0, .int .u8 0, .int .u8 0, .int .u8 0, .int .u8 0, .int .u8 0, .int .u8 0, .int .u8 0, .int .u8 0, .int .u8 0, .int .u8 0, .int .u8 0, .int .u8 0, .int .u8 0, .int .u8 0, .int .u8 0, .int .u8 0, .int .u8 0, .int .u8 0, .int .u8 0, .int .u8 0, .int .u8 0, .int .u8 0, .int .u8 0, .int .u8 0, .int .u8 0, .int .u8 0, .int .u8 0, .int .u8 0, .int .u8 0, .int .u8 0, .int .u8 0, .int .u8 0, .int .u8 0, .int .u8 0, .int .u8 0, .int .u8 0, .int .u8 0, .int .u8 0] 31)).alloc (.cells #[.int .u8 0, .int .u8 0, .int .u8 0, .int .u8 0, .int .u8 0, .int .u8 0, .int .u8 0, .int .u8 0, .int .u8 0, .int .u8 0, .int .u8 0, .int .u8 0, .int .u8 0, .int .u8 0, .int .u8 0, .int .u8 0, .int .u8 0, .int .u8 0, .int .u8 0, .int .u8 0, .int .u8 0, .int .u8 0, .int .u8 0, .int .u8 0, .int .u8 0, .int .u8 0, .int .u8 0, .int .u8 0, .int .u8 0, .int .u8 0, .int .u8 0, .int .u8 0, .int .u8 0, .int .u8 0, .int .u8 0, .int .u8 0, .int .u8 0, .int .u8 0, .int .u8 0, .int .u8 0, .int .u8 0, .int .u8 0, .int .u8 0, .int .u8 0, .int .u8 0, .int .u8 0, .int .u8 0, .int .u8 0, .int .u8 0, .int .u8 0, .int .u8 0, .int .u8 0, .int .u8 0, .int .u8 0, .int .u8 0, .int .u8 0, .int .u8 0, .int .u8 0, .int .u8 0, .int .u8 0] 31)) := ((Below.refl _ _).alloc (Nat.le_refl _) _).alloc (by simp) _
  have hB4 : Blk ((w.alloc (.cells #[.int .u8 0, .int .u8 0, .int .u8 0, .int .u8 0, .int .u8 0, .int .u8 0, .int .u8 0, .int .u8 0, .int .u8 0, .int .u8 0, .int .u8 0, .int .u8 0, .int .u8 0, .int .u8 0, .int .u8 0, .int .u8 0, .int .u8 0, .int .u8 0, .int .u8 0, .int .u8 0, .int .u8 0, .int .u8 0, .int .u8 0, .int .u8 0, .int .u8 0, .int .u8 0, .int .u8 0, .int .u8 0, .int .u8 0, .int .u8 0, .int .u8 0, .int .u8 0, .int .u8 0, .int .u8 0, .int .u8 0, .int .u8 0, .int .u8 0, .int .u8 0, .int .u8 0, .int .u8 0, .int .u8 0, .int .u8 0, .int .u8 0, .int .u8 0, .int .u8 0, .int .u8 0, .int .u8 0, .int .u8 0, .int .u8 0, .int .u8 0, .int .u8 0, .int .u8 0, .int .u8 0, .int .u8 0, .int .u8 0, .int .u8 0, .int .u8 0, .int .u8 0, .int .u8 0, .int .u8 0] 31)).alloc (.cells #[.int .u8 0, .int .u8 0, .int .u8 0, .int .u8 0, .int .u8 0, .int .u8 0, .int .u8 0, .int .u8 0, .int .u8 0, .int .u8 0, .int .u8 0, .int .u8 0, .int .u8 0, .int .u8 0, .int .u8 0, .int .u8 0, .int .u8 0, .int .u8 0, .int .u8 0, .int .u8 0, .int .u8 0, .int .u8 0, .int .u8 0, .int .u8 0, .int .u8 0, .int .u8 0, .int .u8 0, .int .u8 0, .int .u8 0, .int .u8 0, .int .u8 0, .int .u8 0, .int .u8 0, .int .u8 0, .int .u8 0, .int .u8 0, .int .u8 0, .int .u8 0, .int .u8 0, .int .u8 0, .int .u8 0, .int .u8 0, .int .u8 0, .int .u8 0, .int .u8 0, .int .u8 0, .int .u8 0, .int .u8 0, .int .u8 0, .int .u8 0, .int .u8 0, .int .u8 0, .int .u8 0, .int .u8 0, .int .u8 0, .int .u8 0, .int .u8 0, .int .u8 0, .int .u8 0, .int .u8 0] 31)) w.heap.size 31 (blkB (List.replicate 60 0)) := (Blk.new w 31 (blkB (List.replicate 60 0))).below ((Below.refl _ _).alloc (Nat.le_refl _) _)
  have hB6 : Blk ((w.alloc (.cells #[.int .u8 0, .int .u8 0, .int .u8 0, .int .u8 0, .int .u8 0, .int .u8 0, .int .u8 0, .int .u8 0, .int .u8 0, .int .u8 0, .int .u8 0, .int .u8 0, .int .u8 0, .int .u8 0, .int .u8 0, .int .u8 0, .int .u8 0, .int .u8 0, .int .u8 0, .int .u8 0, .int .u8 0, .int .u8 0, .int .u8 0, .int .u8 0, .int .u8 0, .int .u8 0, .int .u8 0, .int .u8 0, .int .u8 0, .int .u8 0, .int .u8 0, .int .u8 0, .int .u8 0, .int .u8 0, .int .u8 0, .int .u8 0, .int .u8 0, .int .u8 0, .int .u8 0, .int .u8 0, .int .u8 0, .int .u8 0, .int .u8 0, .int .u8 0, .int .u8 0, .int .u8 0, .int .u8 0, .int .u8 0, .int .u8 0, .int .u8 0, .int .u8 0, .int .u8 0, .int .u8 0, .int .u8 0, .int .u8 0, .int .u8 0, .int .u8 0, .int .u8 0, .int .u8 0, .int .u8 0] 31)).alloc (.cells #[.int .u8 0, .int .u8 0, .int .u8 0, .int .u8 0, .int .u8 0, .int .u8 0, .int .u8 0, .int .u8 0, .int .u8 0, .int .u8 0, .int .u8 0, .int .u8 0, .int .u8 0, .int .u8 0, .int .u8 0, .int .u8 0, .int .u8 0, .int .u8 0, .int .u8 0, .int .u8 0, .int .u8 0, .int .u8 0, .int .u8 0, .int .u8 0, .int .u8 0, .int .u8 0, .int .u8 0, .int .u8 0, .int .u8 0, .int .u8 0, .int .u8 0, .int .u8 0, .int .u8 0, .int .u8 0, .int .u8 0, .int .u8 0, .int .u8 0, .int .u8 0, .int .u8 0, .int .u8 0, .int .u8 0, .int .u8 0, .int .u8 0, .int .u8 0, .int .u8 0, .int .u8 0, .int .u8 0, .int .u8 0, .int .u8 0, .int .u8 0, .int .u8 0, .int .u8 0, .int .u8 0, .int .u8 0, .int .u8 0, .int .u8 0, .int .u8 0, .int .u8 0, .int .u8 0, .int .u8 0] 31)) (w.heap.size + 1) 31 (blkB (List.replicate 60 0)) := by
    have := Blk.new (w.alloc (.cells #[.int .u8 0, .int .u8 0, .int .u8 0, .int .u8 0, .int .u8 0, .int .u8 0, .int .u8 0, .int .u8 0, .int .u8 0, .int .u8 0, .int .u8 0, .int .u8 0, .int .u8 0, .int .u8 0, .int .u8 0, .int .u8 0, .int .u8 0, .int .u8 0, .int .u8 0, .int .u8 0, .int .u8 0, .int .u8 0, .int .u8 0, .int .u8 0, .int .u8 0, .int .u8 0, .int .u8 0, .int .u8 0, .int .u8 0, .int .u8 0, .int .u8 0, .int .u8 0, .int .u8 0, .int .u8 0, .int .u8 0, .int .u8 0, .int .u8 0, .int .u8 0, .int .u8 0, .int .u8 0, .int .u8 0, .int .u8 0, .int .u8 0, .int .u8 0, .int .u8 0, .int .u8 0, .int .u8 0, .int .u8 0, .int .u8 0, .int .u8 0, .int .u8 0, .int .u8 0, .int .u8 0, .int .u8 0, .int .u8 0, .int .u8 0, .int .u8 0, .int .u8 0, .int .u8 0, .int .u8 0] 31)) 31 (blkB (List.replicate 60 0))
    rw [show (w.alloc (.cells #[.int .u8 0, .int .u8 0, .int .u8 0, .int .u8 0, .int .u8 0, .int .u8 0, .int .u8 0, .int .u8 0, .int .u8 0, .int .u8 0, .int .u8 0, .int .u8 0, .int .u8 0, .int .u8 0, .int .u8 0, .int .u8 0, .int .u8 0, .int .u8 0, .int .u8 0, .int .u8 0, .int .u8 0, .int .u8 0, .int .u8 0, .int .u8 0, .int .u8 0, .int .u8 0, .int .u8 0, .int .u8 0, .int .u8 0, .int .u8 0, .int .u8 0, .int .u8 0, .int .u8 0, .int .u8 0, .int .u8 0, .int .u8 0, .int .u8 0, .int .u8 0, .int .u8 0, .int .u8 0, .int .u8 0, .int .u8 0, .int .u8 0, .int .u8 0, .int .u8 0, .int .u8 0, .int .u8 0, .int .u8 0, .int .u8 0, .int .u8 0, .int .u8 0, .int .u8 0, .int .u8 0, .int .u8 0, .int .u8 0, .int .u8 0, .int .u8 0, .int .u8 0, .int .u8 0, .int .u8 0] 31)).heap.size = w.heap.size + 1 from by simp] at this
    exact this
  have hpad : Hid ((List.replicate 60 0).take 0 ++ ((sb s).take (Nat.min s.size 60) ++ (List.replicate 60 0).drop (0 + Nat.min s.size 60)) = padB (sb s) 60) := by
    show _ = _
    unfold padB
    rw [List.take_zero, List.nil_append, Nat.zero_add, List.drop_replicate, sb_length]
    by_cases h : s.size ≤ 60
    · rw [show Nat.min s.size 60 = s.size from Nat.min_eq_left h, List.take_of_length_le (by rw [sb_length]; omega), List.take_of_length_le (by rw [sb_length]; omega)]
    · rw [show Nat.min s.size 60 = 60 from Nat.min_eq_right (by omega), show 60 - s.size = 0 from by omega]
  have hlen := padB_length (sb s) 60
  generalize padB (sb s) 60 = L at *
  have HB2 := hid hb2
  have HB4 := hid hB4
  have HB6 := hid hB6
  clear hb2 hB4 hB6
  (go_enter Try.func16, Try.ntmps16; try simp only [List.append])
  go_wp2_with (refine wpList_copy_str (o := ⟨some 11, _, _, _, _, _⟩) (by rfl) _ _ _ _ (by rfl) 5 31 Try.underlying34 Try.sizeOf5 (w.heap.size + 1) 0 60 60 (Nat.min s.size 60) s (List.replicate 60 0) (by rfl) (by rfl) (by rfl) HB6.out (by simp; exact Nat.min_le_right _ _) w.heap.size w HB2.out (by omega) L hpad.out ?_)
  intro w3 hB6 hb3 hfr
  have hB4 := hid (hfr.out _ _ _ (by omega) HB4.out)
  clear hfr HB2 HB4 HB6 hpad
  go_wp2_with fail
  refine Calls.mono (crc_Open_nil s w3) ?_; rintro e w4 ⟨rfl, rfl⟩
  have hB4' := hB4
  have hB6' := hB6
  have hb4 := hb3
  have c1 : ((s.size : Int) == 64) = decide (s.size = 64) := by rw [Bool.eq_iff_iff]; simp; omega
  rcases Bool.eq_false_or_eq_true (decide (s.size = 64)) with h64 | h64
  all_goals
    rw [h64] at c1
    go_wp2_with (first | ((with_reducible refine wpList_unguard ?_ ?_); (focus rfl)) | (refine wpList_load_row (o := ⟨some 18, _, _, _, _, _⟩) (by rfl) 31 _ (by rfl) (w.heap.size + 1) (by rfl) 31 (blkB L) (0, 0) _ hB6'.out Try.underlying31 rfl (by rw [blkB_size, hlen]; kernel_rfl) ?_) | (refine wpList_store_B (o := ⟨none, _, _, _, _, _⟩) (by rfl) 31 _ _ (by rfl) w.heap.size 31 L (List.replicate 60 0) (by rfl) (by rfl) hB4'.out (by rw [hlen]; rfl) (by rw [hlen]; kernel_rfl) w.heap.size w hb4.out (Nat.le_refl _) ?_))
    intro w5 hB5 hb5 hfr5
    go_wp2
    have hlv := run_loadVar_row (P := Try.prog) w5 w.heap.size 31 31 (blkB L) (0, 0) _ hB5.out Try.underlying31 rfl (by rw [blkB_size, hlen]; kernel_rfl)
    refine bodyPost_ret (v := .tuple #[.agg (blkB L), .bool false]) (by rw [results_cell_tmp (p := 4) (u := 5) (ty := 31) rfl]; show ((asAddr (.pointer (some ⟨w.heap.size, 0, none⟩))).run _ _).andThen _ = _; simp only [asAddr, Sem.run_pure, Result.andThen_ok, hlv]; rfl) rfl ⟨rfl, hb5.out⟩
end Go.Proofs.Ytiailpbmmadaeaa
