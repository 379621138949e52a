/-
  CrcOpens, walked: any bytes are opened as the document says, what is sealed comes back, and what isn't there opens nothing.
-/
import Derived.Test.YtbghfhkhnmmcdaaCrcS
namespace Go.Proofs.Ytbghfhkhnmmcdaa
open Go.RowKit Tri

theorem sealB_length (l : List Nat) : (sealB l).length = l.length + 4 := by unfold sealB; rw [List.length_append, putB_length]
theorem openE_seal (s : ByteArray) : openE (ofB (sealB (sb s))) = 0 := by
  unfold openE
  rw [ofB_size, sealB_length, sb_length, if_neg (by omega), sb_ofB _ (openS_lt _ (sb_lt s))]
  rw [if_pos]
  unfold sealB
  rw [List.take_left' (by rw [sb_length]; omega)]
theorem openT_seal (s : ByteArray) : openT (ofB (sealB (sb s))) = s := by
  unfold openT
  rw [if_pos (openE_seal s), ofB_size, sealB_length, sb_length, sb_ofB _ (openS_lt _ (sb_lt s))]
  unfold sealB
  rw [List.take_left' (by rw [sb_length]; omega), ofB_sb]

set_option maxHeartbeats 1000000 in
set_option maxRecDepth 100000 in
theorem opens_main (s : ByteArray) (w : World) (hn : s.size ≤ 3000) :
    Calls Try.prog 10 #[.string s] w fun e w' => e = .returned (.bool true) ∧ Below w.heap.size w w' := by
  have hd : decide (3000 < (s.size : Int)) = false := by simp; omega
  have h0 : Hid (openE (ofB (sealB (sb s))) = 0) := openE_seal s
  have h1 : Hid (openT (ofB (sealB (sb s))) = s) := openT_seal s
  have hz : (ofB (sealB (sb s))).size ≤ 1000000 := by rw [ofB_size, sealB_length, sb_length]; omega
  (go_enter Try.func10, Try.ntmps10; try simp only [List.append])
  go_wp2_with ((with_reducible refine wpList_unguard ?_ ?_); (focus rfl))
  (refine Calls.mono (law02_awake _) ?_; rintro e w1 ⟨rfl, hbA⟩; have HBA := hid hbA; clear hbA)
  go_wp2_with ((with_reducible refine wpList_unguard ?_ ?_); (focus rfl))
  refine Calls.mono (crc_NewK w w1 HBA.out) ?_; rintro e w2 ⟨b, rfl, K0⟩; have K := hid K0; clear K0
  go_wp2_with ((with_reducible refine wpList_unguard ?_ ?_); (focus rfl))
  refine Calls.mono (crc_Open b s w2 K.out.2 (by omega)) ?_; rintro e w3 ⟨rfl, hb⟩; have K3 := hid (K.out.below hb); clear hb K
  generalize hT : openT s = T
  generalize hE : openE s = E
  have HT := hid hT
  have HE := hid hE
  clear hT hE
  go_wp2_with ((with_reducible refine wpList_unguard ?_ ?_); (focus rfl))
  refine Calls.mono (ref2_Open s w3 (by omega)) ?_; rintro e w4 ⟨rfl, hb⟩; have K4 := hid (K3.out.below hb); clear hb K3
  rw [HT.out, HE.out]
  go_wp2_with ((with_reducible refine wpList_unguard ?_ ?_); (focus rfl))
  refine Calls.mono (crc_Seal1 b _ s w4 _ K4.out.2 rfl (by omega)) ?_; rintro e w5 ⟨rfl, hb⟩; have K5 := hid (K4.out.below hb); clear hb K4
  go_wp2_with ((with_reducible refine wpList_unguard ?_ ?_); (focus rfl))
  refine Calls.mono (crc_Open b _ w5 K5.out.2 hz) ?_; rintro e w6 ⟨rfl, hb⟩; have K6 := hid (K5.out.below hb); clear hb K5
  rw [h0.out, h1.out]
  go_wp2_with ((with_reducible refine wpList_unguard ?_ ?_); (focus rfl))
  refine Calls.mono (crc_Open_nil s w6) ?_; rintro e w' ⟨rfl, rfl⟩
  go_wp2_with ((with_reducible refine wpList_unguard ?_ ?_); (focus rfl))
  refine Calls.mono (crc_Sum_nil _ _ _ _) ?_; rintro e w' ⟨rfl, rfl⟩
  go_wp2_with ((with_reducible refine wpList_unguard ?_ ?_); (focus rfl))
  refine Calls.mono (crc_Seal_nil _ _ _ _) ?_; rintro e w' ⟨rfl, rfl⟩
  go_wp2_with ((with_reducible refine wpList_unguard ?_ ?_); (focus rfl))
  go_ret
  exact ⟨rfl, by have hB := K6.out.1; have hS := hB.size; go_grown⟩
theorem crcOpens.walk (a0 : ByteArray) (w : World) (w0 : a0.size ≤ maxLen) :
    Calls Try.prog 10 #[.string a0] w fun e w' => e = .returned (.bool true) ∧ Below w.heap.size w w' := by
  by_cases h : a0.size ≤ 3000
  · exact opens_main a0 w h
  · have hd : decide (3000 < (a0.size : Int)) = true := by simp; omega
    unfold maxLen at w0
    (go_enter Try.func10, Try.ntmps10; try simp only [List.append])
    go_wp2_with ((with_reducible refine wpList_unguard ?_ ?_); (focus rfl))
    (refine Calls.mono (law02_awake _) ?_; rintro e w1 ⟨rfl, hbA⟩; have HBA := hid hbA; clear hbA)
    go_wp2_with ((with_reducible refine wpList_unguard ?_ ?_); (focus rfl))
    go_ret
    exact ⟨rfl, HBA.out⟩
end Go.Proofs.Ytbghfhkhnmmcdaa
