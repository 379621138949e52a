/-
  The document's own check sum (the reference): joined texts, sums, seals and openings are what the program's are told to be.
  Conditions: texts of at most 1000000 bytes.
-/
import Derived.Test.YtiailpbmmadaeaaOpen
namespace Go.Proofs.Ytiailpbmmadaeaa
open Go.RowKit Tri

set_option maxHeartbeats 1000000 in
set_option maxRecDepth 100000 in
theorem ref2_Sum (s : ByteArray) (w : World) (hz : s.size ≤ 9000000000) :
    Calls Try.prog 53 #[.string s] w fun e w' => e = .returned (.int .i64 (csum (sb s) : Nat)) ∧ w = w' := by
  go_enter Try.func53, Try.ntmps53
  go_wp2
  go_loop [3, 4] (fun r i => ∃ k : Nat, k ≤ s.size ∧ i = .int .i64 k ∧ r = .int .i64 (creg 4294967295 ((sb s).take k) : Nat)) (fun _ i => s.size - (intOf i).toNat)
  case atStart => exact ⟨0, Nat.zero_le _, rfl, rfl⟩
  case round =>
    obtain ⟨k, hk, rfl, rfl⟩ := hrel
    have hR : creg 4294967295 ((sb s).take k) < 4294967296 := creg_lt _ (fun x hx => sb_lt s x (List.mem_of_mem_take hx)) _ (by omega)
    by_cases hlt : k < s.size
    · have hb := str_byte s k hlt
      have hx : (sb s).getD k 0 < 256 := sb_lt s _ (getD_mem _ k (by rw [sb_length]; exact hlt))
      have hts : Hid (creg 4294967295 ((sb s).take (k + 1)) = rbits 8 (creg 4294967295 ((sb s).take k)) ((sb s).getD k 0)) := by
        show _ = _; rw [take_snocN _ _ (by rw [sb_length]; exact hlt), creg_append, cbyte_rbits _ _ hx]; rfl
      generalize (sb s).getD k 0 = x at *
      generalize creg 4294967295 ((sb s).take k) = R at *
      go_wp2
      go_loop [3, 5, 6, 7] (fun r c i _ => ∃ n : Nat, ∃ q y : Nat, n ≤ 8 ∧ i = .int .i64 n ∧ r = .int .i64 q ∧ c = .int .i64 y ∧ q < 4294967296 ∧ y < 256 ∧ rbits (8 - n) q y = rbits 8 R x) (fun _ _ i _ => 8 - (intOf i).toNat)
      case atStart => exact ⟨0, R, x, by omega, rfl, rfl, rfl, hR, hx, rfl⟩
      case round =>
        clear hR hx
        obtain ⟨n, q, y, hn, rfl, rfl, rfl, hq, hy, hr⟩ := hrel
        have HR := hid hr
        clear hr
        by_cases hn8 : n < 8
        · have hst : Hid (rbits (8 - n) q y = rbits (8 - (n + 1)) (if q % 2 ≠ y % 2 then (q / 2) ^^^ 3988292384 else q / 2) (y / 2)) := by
            show _ = _
            rw [show 8 - n = (8 - (n + 1)) + 1 from by omega]; rfl
          have hxl : (q / 2) ^^^ 3988292384 < 4294967296 := Nat.xor_lt_two_pow (n := 32) (by omega) (by omega)
          have hxr : bits .xor .i64 ((q : Int) / 2) 3988292384 = ((q / 2 ^^^ 3988292384 : Nat) : Int) := by
            have := i64_xor_nat (q / 2) 3988292384 (by omega) (by omega)
            rw [← this]; rfl
          by_cases hne : q % 2 ≠ y % 2
          · have hcmp : ((q : Int) % 2 != (y : Int) % 2) = true := by rw [bne_iff_ne]; omega
            have hif : Hid ((if q % 2 ≠ y % 2 then (q / 2) ^^^ 3988292384 else q / 2) = (q / 2) ^^^ 3988292384) := if_pos hne
            clear hne
            generalize (q / 2) ^^^ 3988292384 = q' at *
            go_wp2
            go_round
            case rel => exact ⟨n + 1, q', y / 2, by omega, by go_num, rfl, rfl, hxl, by omega, by rw [← HR.out, hst.out, hif.out]⟩
            case measure => simp [intOf]; omega
          · have hcmp : ((q : Int) % 2 != (y : Int) % 2) = false := by rw [bne_eq_false_iff_eq]; omega
            have hif : Hid ((if q % 2 ≠ y % 2 then (q / 2) ^^^ 3988292384 else q / 2) = q / 2) := if_neg hne
            clear hne hxr hxl
            go_wp2
            go_round
            case rel => exact ⟨n + 1, q / 2, y / 2, by omega, by go_num, rfl, rfl, by omega, by omega, by rw [← HR.out, hst.out, hif.out]⟩
            case measure => simp [intOf]; omega
        · have hq8 : Hid (q = rbits 8 R x) := by
            have := HR.out
            rw [show 8 - n = 0 from by omega] at this
            exact this
          clear HR
          go_wp2
          go_round
          case rel => exact ⟨k + 1, by omega, by go_num, by rw [hts.out, hq8.out]⟩
          case measure => simp [intOf]; omega
    · have hpe : Hid (csum (sb s) = 4294967295 - creg 4294967295 ((sb s).take k)) := by show _ = _; rw [List.take_of_length_le (by rw [sb_length]; omega)]; rfl
      generalize creg 4294967295 ((sb s).take k) = R at *
      go_wp2
      go_ret
      exact ⟨by rw [hpe.out, show ((4294967295 - R : Nat) : Int) = 4294967295 - (R : Int) from by omega]; rfl, rfl⟩
end Go.Proofs.Ytiailpbmmadaeaa
