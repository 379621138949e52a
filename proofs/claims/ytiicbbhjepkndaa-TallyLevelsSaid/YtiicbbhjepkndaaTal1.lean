/-
  The reference's Count.
-/
import Derived.Test.YtiicbbhjepkndaaTal0
namespace Go.Proofs.Ytiicbbhjepkndaa
open Go.RowKit Tri

set_option maxHeartbeats 8000000 in
set_option maxRecDepth 100000 in
theorem ref16_Count (s : ByteArray) (w : World) (hs : s.size ≤ 1000000) :
    Calls Try.prog 45 #[.string s] w fun e w' => e = .returned (.int .i64 (lead (sb s) : Nat)) ∧ w = w' := by
  have hlen := sb_length s
  (go_enter Try.func45, Try.ntmps45; try simp only [List.append])
  go_wp2_with ((with_reducible refine wpList_unguard ?_ ?_); (focus rfl))
  go_loopw [3] (fun v wr => ∃ n : Nat, n ≤ 8 * s.size ∧ v = .int .i64 n ∧ (∀ m, m < n → (sb s).getD (m / 8) 0 / 2 ^ (7 - m % 8) % 2 = 0) ∧ w = wr) (fun v _ => 8 * s.size - (intOf v).toNat)
  case atStart => exact ⟨0, Nat.zero_le _, rfl, fun j hj => absurd hj (by omega), rfl⟩
  case round =>
    obtain ⟨n, hn, rfl, h0, rfl⟩ := hrel
    have H0 := hid h0
    clear h0
    by_cases hlt : n < 8 * s.size
    · have q1 : decide ((n : Int) < 8 * s.size) = true := decide_eq_true (by omega)
      have hd : Int.tdiv (n : Int) 8 = ((n / 8 : Nat) : Int) := by rw [Int.tdiv_eq_ediv_of_nonneg (by omega)]; omega
      have hr : Int.tmod (n : Int) 8 = ((n % 8 : Nat) : Int) := by rw [Int.tmod_eq_emod_of_nonneg (by omega)]; omega
      have hk : n / 8 < s.size := by omega
      have hsb := str_byte s (n / 8) hk
      have hc256 : (sb s).getD (n / 8) 0 < 256 := sb_lt s _ (getD_mem _ _ (by rw [hlen]; exact hk))
      have HBit : Hid (∀ z, (sb s).getD (n / 8) 0 / 2 ^ (7 - n % 8) % 2 = z → (sb s).getD (n / 8) 0 / 2 ^ (7 - n % 8) % 2 = z) := fun z h => h
      obtain ⟨c, hc⟩ : ∃ c, (sb s).getD (n / 8) 0 = c := ⟨_, rfl⟩
      rw [hc] at hsb hc256
      have HC := hid hc
      clear hc HBit
      go_wp2_with ((with_reducible refine wpList_unguard ?_ ?_); (focus rfl))
      go_loopw [5, 4] (fun v x wr => ∃ k : Nat, k ≤ 7 - n % 8 ∧ v = .int .i64 k ∧ x = .int .i64 ((c / 2 ^ k : Nat) : Int) ∧ w = wr) (fun v _ _ => 7 - n % 8 - (intOf v).toNat)
      case atStart => exact ⟨0, Nat.zero_le _, rfl, by go_num, rfl⟩
      case round =>
        obtain ⟨k, hk7, rfl, rfl, rfl⟩ := hrel
        have hq : c / 2 ^ k < 256 := Nat.lt_of_le_of_lt (Nat.div_le_self _ _) hc256
        by_cases hkl : k < 7 - n % 8
        · have q2 : decide ((k : Int) < 7 - (n : Int) % 8) = true := decide_eq_true (by omega)
          have HS : Hid (c / 2 ^ (k + 1) = c / 2 ^ k / 2) := by show _ = _; rw [Nat.pow_succ, Nat.div_div_eq_div_mul]
          generalize c / 2 ^ k = y at *
          go_wp2_with ((with_reducible refine wpList_unguard ?_ ?_); (focus rfl))
          go_roundw
          case rel => exact ⟨k + 1, by omega, by go_num, by rw [HS.out]; go_num, by first | rfl | trivial⟩
          case measure => simp [intOf]; omega
        · have hke : k = 7 - n % 8 := by omega
          have q2 : decide ((k : Int) < 7 - (n : Int) % 8) = false := decide_eq_false (by omega)
          have HE : Hid (∀ z, c / 2 ^ k % 2 = z → (sb s).getD (n / 8) 0 / 2 ^ (7 - n % 8) % 2 = z) := by
            intro z h
            rw [HC.out, ← hke]
            exact h
          clear hke
          generalize c / 2 ^ k = y at *
          have hr2 : Int.tmod (y : Int) 2 = ((y % 2 : Nat) : Int) := by rw [Int.tmod_eq_emod_of_nonneg (by omega)]; omega
          rcases Nat.mod_two_eq_zero_or_one y with hy | hy
          · have HB0 := hid (HE.out 0 hy)
            have q3 : ((y : Int) % 2 == 1) = false := by rw [beq_eq_false_iff_ne]; omega
            clear HE hy
            go_wp2_with ((with_reducible refine wpList_unguard ?_ ?_); (focus rfl))
            go_roundw
            case rel =>
              refine ⟨n + 1, by omega, by go_num, ?_, by first | rfl | trivial⟩
              intro m hm
              by_cases h : m < n
              · exact H0.out m h
              · rw [show m = n from by omega]; exact HB0.out
            case measure => simp [intOf]; omega
          · have HB1 := hid (HE.out 1 hy)
            have HL := hid (lead_of (sb s) n (by rw [hlen]; exact hn) H0.out (.inr HB1.out))
            have q3 : ((y : Int) % 2 == 1) = true := by rw [beq_iff_eq]; omega
            clear HE hy HB1
            go_wp2_with ((with_reducible refine wpList_unguard ?_ ?_); (focus rfl))
            go_ret
            rw [HL.out]
            exact ⟨rfl, rfl⟩
    · have hne : n = 8 * s.size := by omega
      have q1 : decide ((n : Int) < 8 * s.size) = false := decide_eq_false (by omega)
      have HL := hid (lead_of (sb s) n (by rw [hlen]; exact hn) H0.out (.inl (by rw [hlen]; exact hne)))
      clear hne
      go_wp2_with ((with_reducible refine wpList_unguard ?_ ?_); (focus rfl))
      go_ret
      rw [HL.out]
      exact ⟨rfl, rfl⟩
end Go.Proofs.Ytiicbbhjepkndaa
