/-
  CrcSums, walked: for any list of texts, the sum and the seal are the document's.
-/
import Derived.Test.YtbghfhkhnmmcdaaCrcO
import Derived.Test.YtbghfhkhnmmcdaaOpenS
namespace Go.Proofs.Ytbghfhkhnmmcdaa
open Go.RowKit Tri

theorem longS_false {l : List ByteArray} (h : longS l = false) : (lb l).length ≤ 3000 ∧ l.length ≤ 60 := by
  unfold longS at h
  simp at h
  omega

set_option maxHeartbeats 1000000 in
set_option maxRecDepth 100000 in
theorem crcSums.walk (a0 : Option Addr) (len0 cap0 : Nat) (l0 : List ByteArray) (w : World) (w0 : IsStrs w a0 len0 cap0 l0) :
    Calls Try.prog 9 #[.slice a0 len0 cap0] w fun e w' => e = .returned (.bool true) ∧ Below w.heap.size w w' := by
  obtain ⟨hn, hlc, hcap, hS, hss⟩ := w0
  have hl : l0.length ≤ 140737488351232 := by omega
  have HS := hid hS
  have HN := hid hn
  have HSS := hid hss
  clear hS hn hss hcap
  cases hq : longS l0 with
  | true =>
    have HQ := hid hq
    clear hq
    (go_enter Try.func9, Try.ntmps9; try simp only [List.append])
    go_wp2_with ((with_reducible refine wpList_unguard ?_ ?_); (focus rfl))
    (refine Calls.mono (law02_awake _) ?_; rintro e w1 ⟨rfl, hbA⟩; have HBA := hid hbA; clear hbA)
    go_wp2_with ((with_reducible refine wpList_unguard ?_ ?_); (focus rfl))
    refine Calls.mono (law02_Long _ _ _ l0 _ HN.out (HS.out.below HBA.out) hl HSS.out) ?_; rintro e w' ⟨rfl, rfl⟩
    rw [HQ.out]
    go_wp2_with ((with_reducible refine wpList_unguard ?_ ?_); (focus rfl))
    go_ret
    exact ⟨rfl, HBA.out⟩
  | false =>
    have hq2 := longS_false hq
    have HQ := hid hq
    clear hq
    have hsb : Hid (sb (ofB (lb l0)) = lb l0) := sb_ofB _ (lb_lt l0)
    have hz : Hid ((ofB (lb l0)).size ≤ 3000) := by show _ ≤ _; rw [ofB_size]; exact hq2.1
    (go_enter Try.func9, Try.ntmps9; try simp only [List.append])
    go_wp2_with ((with_reducible refine wpList_unguard ?_ ?_); (focus rfl))
    (refine Calls.mono (law02_awake _) ?_; rintro e w1 ⟨rfl, hbA⟩; have HBA := hid hbA; clear hbA)
    go_wp2_with ((with_reducible refine wpList_unguard ?_ ?_); (focus rfl))
    refine Calls.mono (law02_Long _ _ _ l0 _ HN.out (HS.out.below HBA.out) hl HSS.out) ?_; rintro e w' ⟨rfl, rfl⟩
    rw [HQ.out]
    go_wp2_with ((with_reducible refine wpList_unguard ?_ ?_); (focus rfl))
    refine Calls.mono (crc_NewK w w1 HBA.out) ?_; rintro e w2 ⟨b, rfl, K0⟩; have K := hid K0; clear K0
    go_wp2_with ((with_reducible refine wpList_unguard ?_ ?_); (focus rfl))
    refine Calls.mono (ref2_Joined _ _ _ l0 _ HN.out (HS.out.below K.out.1) (by omega) (by omega)) ?_; rintro e w' ⟨rfl, rfl⟩
    go_wp2_with ((with_reducible refine wpList_unguard ?_ ?_); (focus rfl))
    refine Calls.mono (crc_Sum b _ _ _ l0 w2 K.out.2 HN.out (HS.out.below K.out.1) hl HSS.out) ?_; rintro e w3 ⟨rfl, hb⟩; have K3 := hid (K.out.below hb); clear hb K
    go_wp2_with ((with_reducible refine wpList_unguard ?_ ?_); (focus rfl))
    refine Calls.mono (ref2_Sum _ w3 (by have := hz.out; omega)) ?_; rintro e w' ⟨rfl, rfl⟩
    rw [hsb.out]
    go_wp2_with ((with_reducible refine wpList_unguard ?_ ?_); (focus rfl))
    refine Calls.mono (crc_Seal b _ _ _ l0 w3 K3.out.2 HN.out hlc (HS.out.below K3.out.1) (by omega) (by omega)) ?_; rintro e w4 ⟨rfl, hb⟩; have K4 := hid (K3.out.below hb); clear hb K3
    go_wp2_with ((with_reducible refine wpList_unguard ?_ ?_); (focus rfl))
    refine Calls.mono (ref2_Seal _ w4 (by have := hz.out; omega)) ?_; rintro e w5 ⟨rfl, hb⟩; have K5 := hid (K4.out.below hb); clear hb K4
    rw [hsb.out]
    go_wp2_with ((with_reducible refine wpList_unguard ?_ ?_); (focus rfl))
    go_ret
    exact ⟨by simp, K5.out.1⟩
end Go.Proofs.Ytbghfhkhnmmcdaa
