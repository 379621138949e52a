/-
  tally.leading and the reference's Count: how many leading bits are 0.
-/
import Derived.Test.YtiicbbhjepkndaaTalP
import Derived.Test.YtiicbbhjepkndaaStr
import Derived.WalkKit
import Derived.Laws.BitsAllLaws
namespace Go.Proofs.Ytiicbbhjepkndaa
open Go.RowKit Tri

theorem lead_hit (l : List Nat) (i k : Nat) (hi : i < l.length) (hk : k < 8) (h0 : ∀ j, j < i → l.getD j 0 = 0) (h1 : l.getD i 0 < 2 ^ (k + 1)) (h2 : 2 ^ k ≤ l.getD i 0) : lead l = 8 * i + (7 - k) := by
  refine lead_of l _ (by omega) (fun m hm => ?_) (.inr ?_)
  · by_cases hmi : m / 8 < i
    · rw [h0 _ hmi, Nat.zero_div]
    · rw [show m / 8 = i from by omega, Nat.div_eq_of_lt]
      refine Nat.lt_of_lt_of_le h1 (Nat.pow_le_pow_right (by omega) (by omega))
  · rw [show (8 * i + (7 - k)) / 8 = i from by omega, show 7 - (8 * i + (7 - k)) % 8 = k from by omega]
    have : l.getD i 0 / 2 ^ k = 1 := by
      rw [Nat.div_eq_iff (Nat.two_pow_pos k)]
      rw [Nat.pow_succ] at h1
      omega
    rw [this]
theorem lead_all (l : List Nat) (h0 : ∀ j, j < l.length → l.getD j 0 = 0) : lead l = 8 * l.length := by
  refine lead_of l _ (Nat.le_refl _) (fun m hm => ?_) (.inl rfl)
  rw [h0 _ (by omega), Nat.zero_div]
theorem bitq (c P : Nat) (hP : 0 < P) (hc : c < 256) (h : c < 2 * P) : (bits .and .u8 ((c : Int) / (P : Int)) 1 == 1) = decide (P ≤ c) := by
  have hd : c / P < 2 := by rw [Nat.div_lt_iff_lt_mul hP]; exact h
  have e : ((c : Int) / (P : Int)) = ((c / P : Nat) : Int) := by omega
  have e1 : (1 : Int) = ((1 : Nat) : Int) := rfl
  rw [e, e1, u8_and_nat (c / P) 1 (by omega) (by omega)]
  by_cases hPc : P ≤ c
  · have : c / P = 1 := by
      have := (Nat.le_div_iff_mul_le hP (x := 1) (y := c)).2 (by omega)
      omega
    rw [this, decide_eq_true hPc]
    rfl
  · have : c / P = 0 := Nat.div_eq_of_lt (by omega)
    rw [this, decide_eq_false hPc]
    rfl
set_option maxHeartbeats 8000000 in
set_option maxRecDepth 100000 in
theorem tal_leading (s : ByteArray) (w : World) (hs : s.size ≤ 1000000) :
    Calls Try.prog 87 #[.string s] w fun e w' => e = .returned (.int .i64 (lead (sb s) : Nat)) ∧ Below w.heap.size w w' := by
  have hcv := fun (w : World) => Lib.run_convert_string_bytes (P := Try.prog) w 9 30 5 s Try.underlying9 Try.underlying30 Try.underlying5
  have hbb := bytes_below w 5 s
  have hcc := bytes_cells w 5 s
  have HB := hid hbb
  have HC := hid hcc
  have hlen := sb_length s
  clear hbb hcc
  (go_enter Try.func87, Try.ntmps87; try simp only [List.append])
  go_wp2_with ((with_reducible refine wpList_unguard ?_ ?_); (focus rfl))
  clear hcv
  generalize Lib.bytesWorld w 5 s = w1 at *
  go_loopw [10, 3] (fun v x wr => ∃ i : Nat, i ≤ s.size ∧ v = .int .i64 i ∧ x = .int .i64 ((8 * i : Nat) : Int) ∧ (∀ j, j < i → (sb s).getD j 0 = 0) ∧ w1 = wr) (fun v _ _ => s.size - (intOf v).toNat)
  case atStart => exact ⟨0, Nat.zero_le _, rfl, rfl, fun j hj => absurd hj (by omega), rfl⟩
  case round =>
    obtain ⟨i, hi, rfl, rfl, h0, rfl⟩ := hrel
    have H0 := hid h0
    clear h0
    by_cases hlt : i < s.size
    · have q1 : decide ((i : Int) < s.size) = true := decide_eq_true (by omega)
      obtain ⟨a', o', e', hcl⟩ := HC.out i (by rw [hlen]; exact hlt)
      simp only [Option.some.injEq, Addr.mk.injEq] at e'
      obtain ⟨rfl, rfl, _⟩ := e'
      rw [Nat.zero_add] at hcl
      have hc256 : (sb s).getD i 0 < 256 := sb_lt s _ (getD_mem _ i (by rw [hlen]; exact hlt))
      have HHit : Hid (∀ k, k < 8 → (sb s).getD i 0 < 2 ^ (k + 1) → 2 ^ k ≤ (sb s).getD i 0 → lead (sb s) = 8 * i + (7 - k)) := fun k hk h1 h2 => lead_hit _ i k (by rw [hlen]; exact hlt) hk H0.out h1 h2
      have HNext : Hid ((sb s).getD i 0 = 0 → ∀ j, j < i + 1 → (sb s).getD j 0 = 0) := by
        intro hz j hj
        by_cases h : j < i
        · exact H0.out j h
        · rw [show j = i from by omega]; exact hz
      generalize (sb s).getD i 0 = c at *
      clear H0
      go_wp2_with ((with_reducible refine wpList_unguard ?_ ?_); (focus rfl))
      go_loopw [6, 3] (fun v x wr => ∃ k : Nat, k ≤ 8 ∧ v = .int .i64 ((k : Int) - 1) ∧ x = .int .i64 ((8 * i + (8 - k) : Nat) : Int) ∧ c < 2 ^ k ∧ w1 = wr) (fun v _ _ => (intOf v + 1).toNat)
      case atStart => exact ⟨8, by omega, rfl, rfl, hc256, rfl⟩
      case round =>
        obtain ⟨k, hk, rfl, rfl, hck, rfl⟩ := hrel
        rcases (show k = 0 ∨ k = 1 ∨ k = 2 ∨ k = 3 ∨ k = 4 ∨ k = 5 ∨ k = 6 ∨ k = 7 ∨ k = 8 from by omega) with rfl | rfl | rfl | rfl | rfl | rfl | rfl | rfl | rfl
        · go_wp2_with ((with_reducible refine wpList_unguard ?_ ?_); (focus rfl))
          go_roundw
          case rel => exact ⟨i + 1, by omega, by go_num, by go_num, HNext.out (by omega), by first | rfl | trivial⟩
          case measure => simp [intOf]; omega
        · have hbq := bitq c 1 (by decide) hc256 (by omega)
          try rw [show ((c : Int) / ((1 : Nat) : Int)) = (c : Int) from by omega] at hbq
          rcases Nat.lt_or_ge c 1 with hge | hge
          · rw [decide_eq_false (by omega)] at hbq
            go_wp2_with ((with_reducible refine wpList_unguard ?_ ?_); (focus rfl))
            go_roundw
            case rel => exact ⟨0, by omega, by go_num, by go_num, by omega, by first | rfl | trivial⟩
            case measure => simp [intOf]
          · rw [decide_eq_true hge] at hbq
            go_wp2_with ((with_reducible refine wpList_unguard ?_ ?_); (focus rfl))
            go_ret
            rw [HHit.out 0 (by omega) (by omega) (by omega)]
            exact ⟨by simp, HB.out⟩
        · have hbq := bitq c 2 (by decide) hc256 (by omega)
          try rw [show ((c : Int) / ((2 : Nat) : Int)) = ((c : Int) / 2) from by omega] at hbq
          rcases Nat.lt_or_ge c 2 with hge | hge
          · rw [decide_eq_false (by omega)] at hbq
            go_wp2_with ((with_reducible refine wpList_unguard ?_ ?_); (focus rfl))
            go_roundw
            case rel => exact ⟨1, by omega, by go_num, by go_num, by omega, by first | rfl | trivial⟩
            case measure => simp [intOf]
          · rw [decide_eq_true hge] at hbq
            go_wp2_with ((with_reducible refine wpList_unguard ?_ ?_); (focus rfl))
            go_ret
            rw [HHit.out 1 (by omega) (by omega) (by omega)]
            exact ⟨by simp, HB.out⟩
        · have hbq := bitq c 4 (by decide) hc256 (by omega)
          try rw [show ((c : Int) / ((4 : Nat) : Int)) = ((c : Int) / 4) from by omega] at hbq
          rcases Nat.lt_or_ge c 4 with hge | hge
          · rw [decide_eq_false (by omega)] at hbq
            go_wp2_with ((with_reducible refine wpList_unguard ?_ ?_); (focus rfl))
            go_roundw
            case rel => exact ⟨2, by omega, by go_num, by go_num, by omega, by first | rfl | trivial⟩
            case measure => simp [intOf]
          · rw [decide_eq_true hge] at hbq
            go_wp2_with ((with_reducible refine wpList_unguard ?_ ?_); (focus rfl))
            go_ret
            rw [HHit.out 2 (by omega) (by omega) (by omega)]
            exact ⟨by simp, HB.out⟩
        · have hbq := bitq c 8 (by decide) hc256 (by omega)
          try rw [show ((c : Int) / ((8 : Nat) : Int)) = ((c : Int) / 8) from by omega] at hbq
          rcases Nat.lt_or_ge c 8 with hge | hge
          · rw [decide_eq_false (by omega)] at hbq
            go_wp2_with ((with_reducible refine wpList_unguard ?_ ?_); (focus rfl))
            go_roundw
            case rel => exact ⟨3, by omega, by go_num, by go_num, by omega, by first | rfl | trivial⟩
            case measure => simp [intOf]
          · rw [decide_eq_true hge] at hbq
            go_wp2_with ((with_reducible refine wpList_unguard ?_ ?_); (focus rfl))
            go_ret
            rw [HHit.out 3 (by omega) (by omega) (by omega)]
            exact ⟨by simp, HB.out⟩
        · have hbq := bitq c 16 (by decide) hc256 (by omega)
          try rw [show ((c : Int) / ((16 : Nat) : Int)) = ((c : Int) / 16) from by omega] at hbq
          rcases Nat.lt_or_ge c 16 with hge | hge
          · rw [decide_eq_false (by omega)] at hbq
            go_wp2_with ((with_reducible refine wpList_unguard ?_ ?_); (focus rfl))
            go_roundw
            case rel => exact ⟨4, by omega, by go_num, by go_num, by omega, by first | rfl | trivial⟩
            case measure => simp [intOf]
          · rw [decide_eq_true hge] at hbq
            go_wp2_with ((with_reducible refine wpList_unguard ?_ ?_); (focus rfl))
            go_ret
            rw [HHit.out 4 (by omega) (by omega) (by omega)]
            exact ⟨by simp, HB.out⟩
        · have hbq := bitq c 32 (by decide) hc256 (by omega)
          try rw [show ((c : Int) / ((32 : Nat) : Int)) = ((c : Int) / 32) from by omega] at hbq
          rcases Nat.lt_or_ge c 32 with hge | hge
          · rw [decide_eq_false (by omega)] at hbq
            go_wp2_with ((with_reducible refine wpList_unguard ?_ ?_); (focus rfl))
            go_roundw
            case rel => exact ⟨5, by omega, by go_num, by go_num, by omega, by first | rfl | trivial⟩
            case measure => simp [intOf]
          · rw [decide_eq_true hge] at hbq
            go_wp2_with ((with_reducible refine wpList_unguard ?_ ?_); (focus rfl))
            go_ret
            rw [HHit.out 5 (by omega) (by omega) (by omega)]
            exact ⟨by simp, HB.out⟩
        · have hbq := bitq c 64 (by decide) hc256 (by omega)
          try rw [show ((c : Int) / ((64 : Nat) : Int)) = ((c : Int) / 64) from by omega] at hbq
          rcases Nat.lt_or_ge c 64 with hge | hge
          · rw [decide_eq_false (by omega)] at hbq
            go_wp2_with ((with_reducible refine wpList_unguard ?_ ?_); (focus rfl))
            go_roundw
            case rel => exact ⟨6, by omega, by go_num, by go_num, by omega, by first | rfl | trivial⟩
            case measure => simp [intOf]
          · rw [decide_eq_true hge] at hbq
            go_wp2_with ((with_reducible refine wpList_unguard ?_ ?_); (focus rfl))
            go_ret
            rw [HHit.out 6 (by omega) (by omega) (by omega)]
            exact ⟨by simp, HB.out⟩
        · have hbq := bitq c 128 (by decide) hc256 (by omega)
          try rw [show ((c : Int) / ((128 : Nat) : Int)) = ((c : Int) / 128) from by omega] at hbq
          rcases Nat.lt_or_ge c 128 with hge | hge
          · rw [decide_eq_false (by omega)] at hbq
            go_wp2_with ((with_reducible refine wpList_unguard ?_ ?_); (focus rfl))
            go_roundw
            case rel => exact ⟨7, by omega, by go_num, by go_num, by omega, by first | rfl | trivial⟩
            case measure => simp [intOf]
          · rw [decide_eq_true hge] at hbq
            go_wp2_with ((with_reducible refine wpList_unguard ?_ ?_); (focus rfl))
            go_ret
            rw [HHit.out 7 (by omega) (by omega) (by omega)]
            exact ⟨by simp, HB.out⟩
    · obtain rfl : i = s.size := by omega
      have q1 : decide ((s.size : Int) < s.size) = false := decide_eq_false (by omega)
      have hL := lead_all (sb s) (by rw [hlen]; exact H0.out)
      rw [hlen] at hL
      have HL := hid hL
      clear hL
      go_wp2_with ((with_reducible refine wpList_unguard ?_ ?_); (focus rfl))
      go_ret
      rw [HL.out]
      exact ⟨rfl, HB.out⟩
end Go.Proofs.Ytiicbbhjepkndaa
