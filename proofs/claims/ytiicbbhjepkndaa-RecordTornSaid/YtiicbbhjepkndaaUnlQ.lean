/-
  Plain: a record's page is read back; unlike records have unlike pages; what a turned page is.
-/
import Derived.Test.YtiicbbhjepkndaaRecG
import Derived.Test.YtiicbbhjepkndaaUnlP
namespace Go.Proofs.Ytiicbbhjepkndaa
open Go.RowKit Tri

theorem recP_eq (k s n v : Nat) : recP k s n v = [k % 256, s % 256, n / 256 % 256, n % 256, v / 1099511627776 % 256, v / 4294967296 % 256, v / 16777216 % 256, v / 65536 % 256, v / 256 % 256, v % 256] ++ (putB 2 0 ++ putB 4 (recSum (recL k s n v))) := by
  unfold recP
  rw [show recL k s n v = [k % 256, s % 256, n / 256 % 256, n % 256, v / 1099511627776 % 256, v / 4294967296 % 256, v / 16777216 % 256, v / 65536 % 256, v / 256 % 256, v % 256] ++ putB 2 0 from by simp [recL, putB, List.range_succ], List.append_assoc]
theorem pg_recP (k s n v : Nat) (hk : k ≤ 127) (hs : s ≤ 3) (hn : n ≤ 65535) (hv : v ≤ 281474976710655) :
    pgK (recP k s n v) = k ∧ pgS (recP k s n v) = s ∧ pgN (recP k s n v) = n ∧ pgV (recP k s n v) = v := by
  rw [recP_eq]
  generalize putB 2 0 ++ putB 4 (recSum (recL k s n v)) = R
  refine ⟨?_, ?_, ?_, ?_⟩
  · simp [pgK, numB]; omega
  · simp [pgS, numB]; omega
  · simp [pgN, numB]; omega
  · simp [pgV, numB]; omega
theorem getOk_recP (k s n v : Nat) (hk : k ≤ 127) (hs : s ≤ 3) (hn : n ≤ 65535) (hv : v ≤ 281474976710655) : getOk (recP k s n v) = true := by
  obtain ⟨h1, h2, h3, h4⟩ := pg_recP k s n v hk hs hn hv
  unfold getOk
  rw [h1, h2, h3, h4, recOk_iff.2 ⟨hk, hs, hn, hv⟩]
  simp
theorem recP_inj {k s n v k' s' n' v' : Nat} (hk : k ≤ 127) (hs : s ≤ 3) (hn : n ≤ 65535) (hv : v ≤ 281474976710655) (hk' : k' ≤ 127) (hs' : s' ≤ 3) (hn' : n' ≤ 65535) (hv' : v' ≤ 281474976710655)
    (h : recP k s n v = recP k' s' n' v') : k = k' ∧ s = s' ∧ n = n' ∧ v = v' := by
  obtain ⟨h1, h2, h3, h4⟩ := pg_recP k s n v hk hs hn hv
  obtain ⟨g1, g2, g3, g4⟩ := pg_recP k' s' n' v' hk' hs' hn' hv'
  rw [h] at h1 h2 h3 h4
  exact ⟨h1.symm.trans g1, h2.symm.trans g2, h3.symm.trans g3, h4.symm.trans g4⟩
theorem getOk_turn (k s n v i t : Nat) (hi : i < 16) (ht : t < 256) (h0 : t ≠ 0) : getOk (turn1 (recP k s n v) i t) = false := by
  unfold getOk
  rw [decide_eq_false (turn_none k s n v _ _ _ _ i t hi ht h0), Bool.and_false]
theorem turn1_zero (l : List Nat) (i : Nat) : turn1 l i 0 = l := by
  unfold turn1
  rw [Nat.xor_zero]
  by_cases h : i < l.length
  · rw [List.getD_eq_getElem?_getD, List.getElem?_eq_getElem h]; simp
  · rw [List.set_eq_of_length_le (by omega)]
end Go.Proofs.Ytiicbbhjepkndaa
