/-
  CrcTells, walked: what is not played, and the whole.
-/
import Derived.Test.YtbghfhkhnmmcdaaCrcU
import Derived.ProofKit
import Derived.OpenShut
namespace Go.Proofs.Ytbghfhkhnmmcdaa
open Go.RowKit Tri

set_option maxHeartbeats 2000000 in
set_option maxRecDepth 100000 in
theorem tells_skip (s : ByteArray) (k : Int) (x0 x1 x2 x3 : Nat) (w : World) (hn : s.size ≤ 3000) (h0 : x0 < 256) (h1 : x1 < 256) (h2 : x2 < 256) (h3 : x3 < 256) (hk1 : -9223372036854775808 ≤ k) (hk2 : k ≤ 9223372036854775807)
    (D : Bool) (hD : Hid (D = decide ([x0, x1, x2, x3] = [0, 0, 0, 0])))
    (hcase : k < 0 ∨ (0 ≤ k ∧ (s.size : Int) < k) ∨ (0 ≤ k ∧ k < s.size ∧ (s.size : Int) < k + 4) ∨ (0 ≤ k ∧ k < s.size ∧ k + 4 ≤ s.size ∧ D = true) ∨ (0 ≤ k ∧ k ≤ s.size ∧ ¬ k < s.size ∧ D = true)) :
    Calls Try.prog 11 #[.string s, .int .i64 k, .agg #[.int .u8 x0, .int .u8 x1, .int .u8 x2, .int .u8 x3]] w fun e w' => e = .returned (.bool true) ∧ Below w.heap.size w w' := by
  have hd : decide (3000 < (s.size : Int)) = false := by simp; omega
  have hz : (ofB (sealB (sb s))).size = s.size + 4 := by rw [ofB_size, sealB_length, sb_length]
  have hzb : (((ofB (sealB (sb s))).size : Int) != (s.size : Int) + 4) = false := by rw [hz]; simp
  clear hz
  have hcv := fun (w : World) (s : ByteArray) => Lib.run_convert_string_bytes (P := Try.prog) w 9 23 5 s Try.underlying9 Try.underlying23 Try.underlying5
  have heq : ∀ w, (Op.equalIn 10000 57 (.agg #[.int .u8 x0, .int .u8 x1, .int .u8 x2, .int .u8 x3]) (.agg #[.int .u8 0, .int .u8 0, .int .u8 0, .int .u8 0])).run Try.prog w = .ok D w := by
    intro w
    rw [hD.out]
    exact run_eq_bytes 57 4 Try.underlying57 [x0, x1, x2, x3] [0, 0, 0, 0] (by simp [h0, h1, h2, h3]) (by simp) rfl rfl w
  (go_enter Try.func11, Try.ntmps11; try simp only [List.append])
  go_wp2_with ((with_reducible refine wpList_unguard ?_ ?_); (focus rfl))
  have hblk := hid (heap_alloc_new w (.cells #[.int .u8 x0, .int .u8 x1, .int .u8 x2, .int .u8 x3] 57))
  have hB0 := hid ((Below.refl w.heap.size w).alloc (Nat.le_refl _) (.cells #[.int .u8 x0, .int .u8 x1, .int .u8 x2, .int .u8 x3] 57))
  refine Calls.mono (law02_awake _) ?_; rintro e w1 ⟨rfl, hbA⟩
  have HBA := hid (hB0.out.trans (hbA.mono (by simp)))
  have hblk1 := hid ((hbA.block w.heap.size (by simp)).trans hblk.out)
  clear hbA hB0 hblk
  go_wp2_with ((with_reducible refine wpList_unguard ?_ ?_); (focus rfl))
  go_call crc_New _ as e w' ⟨rfl, rfl⟩
  have K : Hid (KeepsC w w1.heap.size (w1.alloc (.cells crcC 63))) := ⟨HBA.out.alloc HBA.out.size _, isC.new w1⟩
  have hblk2 := hid ((Below.heap_alloc w1 (.cells crcC 63) w.heap.size (Array.getElem?_eq_some_iff.1 hblk1.out).1).trans hblk1.out)
  clear hblk1
  generalize w1.alloc (.cells crcC 63) = w2 at *
  generalize w1.heap.size = b at *
  go_wp2_with ((with_reducible refine wpList_unguard ?_ ?_); (focus rfl))
  refine Calls.mono (crc_Seal1 b _ s w2 _ K.out.2 rfl (by omega)) ?_; rintro e w3 ⟨rfl, hb⟩
  have K3 := hid (K.out.below hb)
  have hblk3 := hid ((hb.block w.heap.size (Array.getElem?_eq_some_iff.1 hblk2.out).1).trans hblk2.out)
  clear hb K hblk2
  have hS : ∃ S, ofB (sealB (sb s)) = S := ⟨_, rfl⟩
  obtain ⟨S, hS⟩ := hS
  rw [hS] at hzb ⊢
  clear hS
  have hblk4 := hid ((Lib.bytesWorld_at_old w3 5 S _ (Array.getElem?_eq_some_iff.1 hblk3.out).1).trans hblk3.out)
  have f0 := cell_of_row _ _ 0 _ _ _ hblk4.out
  have f1 := cell_of_row _ _ 1 _ _ _ hblk4.out
  have f2 := cell_of_row _ _ 2 _ _ _ hblk4.out
  have f3 := cell_of_row _ _ 3 _ _ _ hblk4.out
  have hB4 := hid ((K3.out.1).trans ((bytes_below w3 5 S).mono K3.out.1.size))
  rcases hcase with hc | ⟨hc1, hc2⟩ | ⟨hc1, hc2, hc3⟩ | ⟨hc1, hc2, hc3, rfl⟩ | ⟨hc1, hc2, hc3, rfl⟩
  all_goals
    go_wp2_with ((with_reducible refine wpList_unguard ?_ ?_); (focus rfl))
    go_ret
    exact ⟨rfl, hB4.out⟩
set_option maxHeartbeats 1000000 in
theorem tells_long (s : ByteArray) (k : Int) (x0 x1 x2 x3 : Nat) (w : World) (hn : ¬ s.size ≤ 3000) (hs : s.size ≤ maxLen) :
    Calls Try.prog 11 #[.string s, .int .i64 k, .agg #[.int .u8 x0, .int .u8 x1, .int .u8 x2, .int .u8 x3]] w fun e w' => e = .returned (.bool true) ∧ Below w.heap.size w w' := by
  unfold maxLen at hs
  have hd : decide (3000 < (s.size : Int)) = true := by simp; omega
  (go_enter Try.func11, Try.ntmps11; try simp only [List.append])
  go_wp2_with ((with_reducible refine wpList_unguard ?_ ?_); (focus rfl))
  have hB0 := hid ((Below.refl w.heap.size w).alloc (Nat.le_refl _) (.cells #[.int .u8 x0, .int .u8 x1, .int .u8 x2, .int .u8 x3] 57))
  refine Calls.mono (law02_awake _) ?_; rintro e w1 ⟨rfl, hbA⟩
  have HBA := hid (hB0.out.trans (hbA.mono (by simp)))
  clear hbA hB0
  go_wp2_with ((with_reducible refine wpList_unguard ?_ ?_); (focus rfl))
  go_ret
  exact ⟨rfl, HBA.out⟩
theorem crcTells.walk (a0 : ByteArray) (a1 : Int) (x20 x21 x22 x23 : Int) (w : World) (w0 : a0.size ≤ maxLen) (w1 : (Lit.int .i64 a1).wf = true) (w2 : (Lit.int .u8 x20).wf = true ∧ (Lit.int .u8 x21).wf = true ∧ (Lit.int .u8 x22).wf = true ∧ (Lit.int .u8 x23).wf = true) :
    Calls Try.prog 11 #[.string a0, .int .i64 a1, .agg #[.int .u8 x20, .int .u8 x21, .int .u8 x22, .int .u8 x23]] w fun e w' => e = .returned (.bool true) ∧ Below w.heap.size w w' := by
  obtain ⟨x0, h0, rfl⟩ := u8_of w2.1
  obtain ⟨x1, h1, rfl⟩ := u8_of w2.2.1
  obtain ⟨x2, h2, rfl⟩ := u8_of w2.2.2.1
  obtain ⟨x3, h3, rfl⟩ := u8_of w2.2.2.2
  have hb := bounds_i64 w1
  by_cases hn : a0.size ≤ 3000
  · by_cases hz : [x0, x1, x2, x3] = [0, 0, 0, 0]
    · exact tells_skip a0 a1 x0 x1 x2 x3 w hn h0 h1 h2 h3 hb.1 hb.2 true (by show _ = _; rw [decide_eq_true hz]) (by simp only [and_true]; omega)
    · by_cases hk : 0 ≤ a1 ∧ (a1 = a0.size ∨ a1 + 4 ≤ a0.size)
      · obtain ⟨k, rfl⟩ := Int.eq_ofNat_of_zero_le hk.1
        exact tells_main a0 k x0 x1 x2 x3 w hn (by omega) h0 h1 h2 h3 (by rintro ⟨rfl, rfl, rfl, rfl⟩; exact hz rfl)
      · exact tells_skip a0 a1 x0 x1 x2 x3 w hn h0 h1 h2 h3 hb.1 hb.2 false (by show _ = _; rw [decide_eq_false hz]) (by omega)
  · exact tells_long a0 a1 x0 x1 x2 x3 w hn w0
end Go.Proofs.Ytbghfhkhnmmcdaa
