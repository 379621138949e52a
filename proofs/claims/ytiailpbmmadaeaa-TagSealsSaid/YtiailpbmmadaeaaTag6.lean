/-
  The reference of chapter 10: Block.
-/
import Derived.Test.YtiailpbmmadaeaaTag5
namespace Go.Proofs.Ytiailpbmmadaeaa
open Go.RowKit Tri

theorem sb_at (s : ByteArray) (k : Nat) (h : k < s.size) : (sb s).getD k 0 = (s[k]'h).toNat := by
  rw [sb_getD s k h, List.getD_eq_getElem?_getD, List.getElem?_eq_getElem (by simpa using h)]
  rfl
theorem pad_set (S : List Nat) (k : Nat) (hk : k < 60) (hs : k < S.length) : (padB (S.take k) 60).set k (S.getD k 0) = padB (S.take (k + 1)) 60 := by
  refine pad_ext _ _ (by rw [List.length_set, padB_length]) ?_
  intro j hj
  rw [List.getElem?_set, padB_length]
  by_cases e : k = j
  · subst e
    rw [if_pos rfl, if_pos hj, getD_take, if_pos (by omega)]
  · rw [if_neg e, padB_at _ _ _ hj, getD_take, getD_take]
    congr 1
    by_cases h : j < k
    · rw [if_pos h, if_pos (by omega)]
    · rw [if_neg h, if_neg (by omega)]
theorem pad_all (S : List Nat) (k : Nat) (h : k = 60 ∨ S.length ≤ k) : padB (S.take k) 60 = padB S 60 := by
  refine pad_ext _ _ (padB_length _ _) ?_
  intro j hj
  rw [padB_at _ _ _ hj, getD_take]
  congr 1
  split
  · rfl
  · rw [List.getD_eq_getElem?_getD, List.getElem?_eq_none (by omega)]
    rfl
theorem blkB_set (l : List Nat) (k x : Nat) : (blkB l).setIfInBounds k (.int .u8 (x : Nat)) = blkB (l.set k x) := by
  apply Array.ext'
  rw [Array.toList_setIfInBounds, blkB_toList, blkB_toList, List.map_set]
set_option maxHeartbeats 4000000 in
set_option maxRecDepth 100000 in
theorem ref10_Block (s : ByteArray) (w : World) (hz : s.size ≤ 1000000) :
    Calls Try.prog 22 #[.string s] w fun e w' => e = .returned (.agg (blkB (padB (sb s) 60))) ∧ Below w.heap.size w w' := by
  have hb2 : Below w.heap.size w ((w.alloc (.cells #[.int .u8 0, .int .u8 0, .int .u8 0, .int .u8 0, .int .u8 0, .int .u8 0, .int .u8 0, .int .u8 0, .int .u8 0, .int .u8 0, .int .u8 0, .int .u8 0, .int .u8 0, .int .u8 0, .int .u8 0, .int .u8 0, .int .u8 0, .int .u8 0, .int .u8 0, .int .u8 0, .int .u8 0, .int .u8 0, .int .u8 0, .int .u8 0, .int .u8 0, .int .u8 0, .int .u8 0, .int .u8 0, .int .u8 0, .int .u8 0, .int .u8 0, .int .u8 0, .int .u8 0, .int .u8 0, .int .u8 0, .int .u8 0, .int .u8 0, .int .u8 0, .int .u8 0, .int .u8 0, .int .u8 0, .int .u8 0, .int .u8 0, .int .u8 0, .int .u8 0, .int .u8 0, .int .u8 0, .int .u8 0, .int .u8 0, .int .u8 0, .int .u8 0, .int .u8 0, .int .u8 0, .int .u8 0, .int .u8 0, .int .u8 0, .int .u8 0, .int .u8 0, .int .u8 0, .int .u8 0] 31)).alloc (.cells #[.int .u8 0, .int .u8 0, .int .u8 0, .int .u8 0, .int .u8 0, .int .u8 0, .int .u8 0, .int .u8 0, .int .u8 0, .int .u8 0, .int .u8 0, .int .u8 0, .int .u8 0, .int .u8 0, .int .u8 0, .int .u8 0, .int .u8 0, .int .u8 0, .int .u8 0, .int .u8 0, .int .u8 0, .int .u8 0, .int .u8 0, .int .u8 0, .int .u8 0, .int .u8 0, .int .u8 0, .int .u8 0, .int .u8 0, .int .u8 0, .int .u8 0, .int .u8 0, .int .u8 0, .int .u8 0, .int .u8 0, .int .u8 0, .int .u8 0, .int .u8 0, .int .u8 0, .int .u8 0, .int .u8 0, .int .u8 0, .int .u8 0, .int .u8 0, .int .u8 0, .int .u8 0, .int .u8 0, .int .u8 0, .int .u8 0, .int .u8 0, .int .u8 0, .int .u8 0, .int .u8 0, .int .u8 0, .int .u8 0, .int .u8 0, .int .u8 0, .int .u8 0, .int .u8 0, .int .u8 0] 31)) := ((Below.refl _ _).alloc (Nat.le_refl _) _).alloc (by simp) _
  have hB4 : Blk ((w.alloc (.cells #[.int .u8 0, .int .u8 0, .int .u8 0, .int .u8 0, .int .u8 0, .int .u8 0, .int .u8 0, .int .u8 0, .int .u8 0, .int .u8 0, .int .u8 0, .int .u8 0, .int .u8 0, .int .u8 0, .int .u8 0, .int .u8 0, .int .u8 0, .int .u8 0, .int .u8 0, .int .u8 0, .int .u8 0, .int .u8 0, .int .u8 0, .int .u8 0, .int .u8 0, .int .u8 0, .int .u8 0, .int .u8 0, .int .u8 0, .int .u8 0, .int .u8 0, .int .u8 0, .int .u8 0, .int .u8 0, .int .u8 0, .int .u8 0, .int .u8 0, .int .u8 0, .int .u8 0, .int .u8 0, .int .u8 0, .int .u8 0, .int .u8 0, .int .u8 0, .int .u8 0, .int .u8 0, .int .u8 0, .int .u8 0, .int .u8 0, .int .u8 0, .int .u8 0, .int .u8 0, .int .u8 0, .int .u8 0, .int .u8 0, .int .u8 0, .int .u8 0, .int .u8 0, .int .u8 0, .int .u8 0] 31)).alloc (.cells #[.int .u8 0, .int .u8 0, .int .u8 0, .int .u8 0, .int .u8 0, .int .u8 0, .int .u8 0, .int .u8 0, .int .u8 0, .int .u8 0, .int .u8 0, .int .u8 0, .int .u8 0, .int .u8 0, .int .u8 0, .int .u8 0, .int .u8 0, .int .u8 0, .int .u8 0, .int .u8 0, .int .u8 0, .int .u8 0, .int .u8 0, .int .u8 0, .int .u8 0, .int .u8 0, .int .u8 0, .int .u8 0, .int .u8 0, .int .u8 0, .int .u8 0, .int .u8 0, .int .u8 0, .int .u8 0, .int .u8 0, .int .u8 0, .int .u8 0, .int .u8 0, .int .u8 0, .int .u8 0, .int .u8 0, .int .u8 0, .int .u8 0, .int .u8 0, .int .u8 0, .int .u8 0, .int .u8 0, .int .u8 0, .int .u8 0, .int .u8 0, .int .u8 0, .int .u8 0, .int .u8 0, .int .u8 0, .int .u8 0, .int .u8 0, .int .u8 0, .int .u8 0, .int .u8 0, .int .u8 0] 31)) w.heap.size 31 (blkB (List.replicate 60 0)) := (Blk.new w 31 (blkB (List.replicate 60 0))).below ((Below.refl _ _).alloc (Nat.le_refl _) _)
  have hB6 : Blk ((w.alloc (.cells #[.int .u8 0, .int .u8 0, .int .u8 0, .int .u8 0, .int .u8 0, .int .u8 0, .int .u8 0, .int .u8 0, .int .u8 0, .int .u8 0, .int .u8 0, .int .u8 0, .int .u8 0, .int .u8 0, .int .u8 0, .int .u8 0, .int .u8 0, .int .u8 0, .int .u8 0, .int .u8 0, .int .u8 0, .int .u8 0, .int .u8 0, .int .u8 0, .int .u8 0, .int .u8 0, .int .u8 0, .int .u8 0, .int .u8 0, .int .u8 0, .int .u8 0, .int .u8 0, .int .u8 0, .int .u8 0, .int .u8 0, .int .u8 0, .int .u8 0, .int .u8 0, .int .u8 0, .int .u8 0, .int .u8 0, .int .u8 0, .int .u8 0, .int .u8 0, .int .u8 0, .int .u8 0, .int .u8 0, .int .u8 0, .int .u8 0, .int .u8 0, .int .u8 0, .int .u8 0, .int .u8 0, .int .u8 0, .int .u8 0, .int .u8 0, .int .u8 0, .int .u8 0, .int .u8 0, .int .u8 0] 31)).alloc (.cells #[.int .u8 0, .int .u8 0, .int .u8 0, .int .u8 0, .int .u8 0, .int .u8 0, .int .u8 0, .int .u8 0, .int .u8 0, .int .u8 0, .int .u8 0, .int .u8 0, .int .u8 0, .int .u8 0, .int .u8 0, .int .u8 0, .int .u8 0, .int .u8 0, .int .u8 0, .int .u8 0, .int .u8 0, .int .u8 0, .int .u8 0, .int .u8 0, .int .u8 0, .int .u8 0, .int .u8 0, .int .u8 0, .int .u8 0, .int .u8 0, .int .u8 0, .int .u8 0, .int .u8 0, .int .u8 0, .int .u8 0, .int .u8 0, .int .u8 0, .int .u8 0, .int .u8 0, .int .u8 0, .int .u8 0, .int .u8 0, .int .u8 0, .int .u8 0, .int .u8 0, .int .u8 0, .int .u8 0, .int .u8 0, .int .u8 0, .int .u8 0, .int .u8 0, .int .u8 0, .int .u8 0, .int .u8 0, .int .u8 0, .int .u8 0, .int .u8 0, .int .u8 0, .int .u8 0, .int .u8 0] 31)) (w.heap.size + 1) 31 (blkB (List.replicate 60 0)) := by
    have := Blk.new (w.alloc (.cells #[.int .u8 0, .int .u8 0, .int .u8 0, .int .u8 0, .int .u8 0, .int .u8 0, .int .u8 0, .int .u8 0, .int .u8 0, .int .u8 0, .int .u8 0, .int .u8 0, .int .u8 0, .int .u8 0, .int .u8 0, .int .u8 0, .int .u8 0, .int .u8 0, .int .u8 0, .int .u8 0, .int .u8 0, .int .u8 0, .int .u8 0, .int .u8 0, .int .u8 0, .int .u8 0, .int .u8 0, .int .u8 0, .int .u8 0, .int .u8 0, .int .u8 0, .int .u8 0, .int .u8 0, .int .u8 0, .int .u8 0, .int .u8 0, .int .u8 0, .int .u8 0, .int .u8 0, .int .u8 0, .int .u8 0, .int .u8 0, .int .u8 0, .int .u8 0, .int .u8 0, .int .u8 0, .int .u8 0, .int .u8 0, .int .u8 0, .int .u8 0, .int .u8 0, .int .u8 0, .int .u8 0, .int .u8 0, .int .u8 0, .int .u8 0, .int .u8 0, .int .u8 0, .int .u8 0, .int .u8 0] 31)) 31 (blkB (List.replicate 60 0))
    rw [show (w.alloc (.cells #[.int .u8 0, .int .u8 0, .int .u8 0, .int .u8 0, .int .u8 0, .int .u8 0, .int .u8 0, .int .u8 0, .int .u8 0, .int .u8 0, .int .u8 0, .int .u8 0, .int .u8 0, .int .u8 0, .int .u8 0, .int .u8 0, .int .u8 0, .int .u8 0, .int .u8 0, .int .u8 0, .int .u8 0, .int .u8 0, .int .u8 0, .int .u8 0, .int .u8 0, .int .u8 0, .int .u8 0, .int .u8 0, .int .u8 0, .int .u8 0, .int .u8 0, .int .u8 0, .int .u8 0, .int .u8 0, .int .u8 0, .int .u8 0, .int .u8 0, .int .u8 0, .int .u8 0, .int .u8 0, .int .u8 0, .int .u8 0, .int .u8 0, .int .u8 0, .int .u8 0, .int .u8 0, .int .u8 0, .int .u8 0, .int .u8 0, .int .u8 0, .int .u8 0, .int .u8 0, .int .u8 0, .int .u8 0, .int .u8 0, .int .u8 0, .int .u8 0, .int .u8 0, .int .u8 0, .int .u8 0] 31)).heap.size = w.heap.size + 1 from by simp] at this
    exact this
  have HB2 := hid hb2
  have HB4 := hid hB4
  have HB6 := hid hB6
  clear hb2 hB4 hB6
  have hlen := padB_length (sb s) 60
  have HPA := hid (pad_all (sb s))
  generalize padB (sb s) 60 = L at *
  (go_enter Try.func22, Try.ntmps22; try simp only [List.append])
  go_wp2_with (refine wpList_store_B (o := ⟨none, _, _, _, _, _⟩) (by rfl) 31 _ _ (by rfl) (w.heap.size + 1) 31 (List.replicate 60 0) (List.replicate 60 0) (by rfl) (by rfl) HB6.out rfl (by kernel_rfl) w.heap.size w HB2.out (by omega) ?_)
  intro w1 hB1 hb1 hfr
  have HB3 := hid (hfr.out _ _ _ (by omega) HB4.out)
  clear HB2 HB4 HB6 hfr
  go_wp2
  go_loopw [4] (fun i wr => ∃ k : Nat, k ≤ 60 ∧ k ≤ s.size ∧ i = .int .i64 k ∧ Blk wr (w.heap.size + 1) 31 (blkB (padB ((sb s).take k) 60)) ∧ Blk wr w.heap.size 31 (blkB (List.replicate 60 0)) ∧ Below w.heap.size w wr) (fun i _ => 60 - (intOf i).toNat)
  case atStart => exact ⟨0, by omega, by omega, rfl, by simpa [padB] using hB1.out, HB3.out, hb1.out⟩
  case round =>
    obtain ⟨k, hk, hks, rfl, hB, hC, hb⟩ := hrel
    clear hB1 HB3 hb1
    have HB := hid hB
    have HC := hid hC
    have Hb := hid hb
    clear hB hC hb
    by_cases hlt : k < 60 ∧ k < s.size
    · obtain ⟨h60, hsz⟩ := hlt
      have hf := HB.out.free k
      have hc := HB.out.cell k (.int .u8 0) (by
        rw [← Array.getElem?_toList, blkB_toList, List.getElem?_map, padB_at _ _ _ h60, getD_take, if_neg (by omega)]; rfl)
      have HX := hid (sb_at s k hsz)
      have HS := hid (pad_set (sb s) k h60 (by rw [sb_length]; exact hsz))
      have hk60 : (k : Int) < 60 := by omega
      have hkz : (k : Int) < (s.size : Int) := by omega
      go_wp2
      go_roundw
      case rel =>
        refine ⟨k + 1, by omega, by omega, by go_num, ?_, HC.out.setOther _ _ (by show w.heap.size ≠ w.heap.size + 1; omega), Hb.out.setCell (p := ⟨w.heap.size + 1, k, none⟩) (by show w.heap.size ≤ w.heap.size + 1; omega) _⟩
        have h := HB.out.set k (.int .u8 ((sb s).getD k 0 : Nat))
        rw [blkB_set, HS.out, HX.out] at h
        exact h
      case measure => simp [intOf]; omega
    · have hEnd : k = 60 ∨ (k < 60 ∧ s.size ≤ k) := by omega
      have HB9 := HB.out
      rw [HPA.out k (by rw [sb_length]; omega)] at HB9
      have HB9 := hid HB9
      clear hlt HB HPA
      rcases hEnd with h60 | ⟨h60, hsz⟩
      all_goals
        have hk1 : (k : Int) ≤ 60 := by omega
        first | (have hk60 : (60 : Int) ≤ (k : Int) := by omega) | (have hk60 : (k : Int) < 60 := by omega)
        try clear h60
        go_wp2_with (first | ((with_reducible refine wpList_unguard ?_ ?_); (focus rfl)) | (refine wpList_load_row (o := ⟨some 21, _, _, _, _, _⟩) (by rfl) 31 _ (by rfl) (w.heap.size + 1) (by rfl) 31 (blkB L) (0, 0) _ HB9.out Try.underlying31 rfl (by rw [blkB_size, hlen]; kernel_rfl) ?_) | (refine wpList_store_B (o := ⟨none, _, _, _, _, _⟩) (by rfl) 31 _ _ (by rfl) w.heap.size 31 L (List.replicate 60 0) (by rfl) (by rfl) HC.out (by rw [hlen]; rfl) (by rw [hlen]; kernel_rfl) w.heap.size w Hb.out (Nat.le_refl _) ?_))
        intro w5 hB5 hb5 _
        go_wp2
        refine bodyPost_ret (v := .agg (blkB L)) (results_cell_row (p := 2) (ty := 31) rfl _ w5 w.heap.size 31 (blkB L) (0, 0) _ rfl hB5.out Try.underlying31 rfl (by rw [blkB_size, hlen]; kernel_rfl)) rfl ⟨rfl, hb5.out⟩
end Go.Proofs.Ytiailpbmmadaeaa
