/-
  The document's own products (the reference) are those of the tables.
  Conditions: factors are bytes.
-/
import Derived.Test.YtlipedigmokgbaaGf2
namespace Go.Proofs.Ytlipedigmokgbaa
open Go.RowKit Tri

theorem bit_int (b k : Nat) : (((b : Int) / 2 ^ k).tmod 2 == 1) = decide ((b >>> k) % 2 = 1) := by
  have h : ((b : Int) / 2 ^ k) = ((b / 2 ^ k : Nat) : Int) := by simp
  rw [h, Nat.shiftRight_eq_div_pow]
  generalize b / 2 ^ k = m
  rw [Int.tmod_eq_emod_of_nonneg (by omega)]
  by_cases e : m % 2 = 1
  · rw [decide_eq_true e]; simp; omega
  · rw [decide_eq_false e]; simp; omega
theorem shl_lt (a k n : Nat) (ha : a < 2 ^ n) (B : Nat) (h : n + k ≤ B) : a <<< k < 2 ^ B := by
  rw [Nat.shiftLeft_eq]
  calc a * 2 ^ k < 2 ^ n * 2 ^ k := Nat.mul_lt_mul_of_pos_right ha (Nat.two_pow_pos k)
    _ = 2 ^ (n + k) := (Nat.pow_add 2 n k).symm
    _ ≤ 2 ^ B := Nat.pow_le_pow_right (by omega) h
theorem xor_shl (q a k n : Nat) (hq : q < 2 ^ 62) (ha : a < 2 ^ n) (hk : n + k ≤ 62) :
    bits .xor .i64 (q : Int) (wrap64 ((a : Int) * 2 ^ k)) = ((q ^^^ (a <<< k) : Nat) : Int) := by
  have h := shl_lt a k n ha 62 hk
  have e : wrap64 ((a : Int) * 2 ^ k) = ((a <<< k : Nat) : Int) := by
    rw [Nat.shiftLeft_eq]
    rw [Nat.shiftLeft_eq] at h
    have e2 : ((a * 2 ^ k : Nat) : Int) = (a : Int) * 2 ^ k := by simp
    rw [← e2]
    generalize a * 2 ^ k = m at *
    unfold wrap64
    omega
  rw [e, i64_xor_nat _ _ hq h]

set_option maxHeartbeats 400000 in
theorem ref_Mul (a b : Nat) (ha : a < 256) (hb : b < 256) (w : World) :
    Calls Try.prog 53 #[.int .i64 a, .int .i64 b] w fun e w' => e = .returned (.int .i64 (gmul a b)) ∧ w = w' := by
  have hfin : Hid (rred 7 (rsum a b 8 0) = gmul a b) := rmul_eq a b ha hb
  go_enter Try.func53, Try.ntmps53
  go_wp2
  go_loop [5, 6] (fun p i => ∃ k : Nat, ∃ q : Nat, k ≤ 8 ∧ i = .int .i64 k ∧ p = .int .i64 q ∧ q < 32768 ∧ rsum a b (8 - k) q = rsum a b 8 0) (fun _ i => 8 - (intOf i).toNat)
  case atStart => exact ⟨0, 0, by omega, rfl, rfl, by omega, rfl⟩
  case round =>
    obtain ⟨k, q, hk, rfl, rfl, hq, hr⟩ := hrel
    have HR := hid hr
    clear hr
    by_cases hlt : k < 8
    · have hx := xor_shl q a k 8 (by omega) (by omega) (by omega)
      have hl : a <<< k < 2 ^ 15 := shl_lt a k 8 ha 15 (by omega)
      have hs : Hid (rsum a b (8 - k) q = rsum a b (8 - (k + 1)) (if (b >>> k) % 2 = 1 then q ^^^ (a <<< k) else q)) := by
        show rsum a b (8 - k) q = _
        rw [show 8 - k = (8 - (k + 1)) + 1 from by omega]
        simp only [rsum]
        rw [show 7 - (8 - (k + 1)) = k from by omega]
      have hb' := bit_int b k
      have hxl : q ^^^ (a <<< k) < 32768 := Nat.xor_lt_two_pow (n := 15) hq hl
      generalize q ^^^ (a <<< k) = q' at *
      by_cases hbit : (b >>> k) % 2 = 1
      · rw [decide_eq_true hbit] at hb'
        have Hb := hid hbit
        clear hbit hl
        go_wp2
        go_round
        case rel => exact ⟨k + 1, q', by omega, by go_num, rfl, hxl, by rw [← HR.out, hs.out, if_pos Hb.out]⟩
        case measure => simp [intOf]; omega
      · rw [decide_eq_false hbit] at hb'
        have Hb := hid hbit
        clear hbit hl
        go_wp2
        go_round
        case rel => exact ⟨k + 1, q, by omega, by go_num, rfl, hq, by rw [← HR.out, hs.out, if_neg Hb.out]⟩
        case measure => simp [intOf]; omega
    · obtain rfl : k = 8 := by omega
      have hq0 : Hid (q = rsum a b 8 0) := (show rsum a b 0 q = rsum a b 8 0 from HR.out)
      clear HR hlt hk
      go_wp2
      go_loop [5, 7] (fun p i => ∃ k : Nat, ∃ q : Nat, k ≤ 7 ∧ i = .int .i64 (k + 7 : Nat) ∧ p = .int .i64 q ∧ q < 32768 ∧ rred k q = gmul a b) (fun _ i => (intOf i).toNat)
      case atStart => exact ⟨7, q, by omega, rfl, rfl, hq, by rw [hq0.out]; exact hfin.out⟩
      case round =>
        clear hq0 hfin hq
        obtain ⟨k, q, hk, rfl, rfl, hq, hr⟩ := hrel
        have HR := hid hr
        clear hr
        by_cases hpos : 0 < k
        · obtain ⟨j, rfl⟩ : ∃ j, k = j + 1 := ⟨k - 1, by omega⟩
          have hx : bits .xor .i64 (q : Int) (wrap64 (285 * 2 ^ j)) = ((q ^^^ (285 <<< j) : Nat) : Int) := xor_shl q 285 j 9 (by omega) (by omega) (by omega)
          have hl : 285 <<< j < 2 ^ 15 := shl_lt 285 j 9 (by omega) 15 (by omega)
          have hs : Hid (rred (j + 1) q = rred j (if (q >>> (j + 8)) % 2 = 1 then q ^^^ (285 <<< j) else q)) := rfl
          have hb' := bit_int q (j + 8)
          have hxl : q ^^^ (285 <<< j) < 32768 := Nat.xor_lt_two_pow (n := 15) hq hl
          have hj : ((j + 1 + 7 : Nat) : Int) = (j : Int) + 8 := by omega
          have ht : ((j : Int) + 8).toNat = j + 8 := by omega
          have ht2 : ((j : Int) + 8 - 8).toNat = j := by omega
          rw [hj]
          clear hj
          generalize q ^^^ (285 <<< j) = q' at *
          by_cases hbit : (q >>> (j + 8)) % 2 = 1
          · rw [decide_eq_true hbit] at hb'
            have Hb := hid hbit
            clear hbit hl
            go_wp2
            go_round
            case rel => exact ⟨j, q', by omega, by go_num, rfl, hxl, by rw [← HR.out, hs.out, if_pos Hb.out]⟩
            case measure => simp [intOf]; omega
          · rw [decide_eq_false hbit] at hb'
            have Hb := hid hbit
            clear hbit hl
            go_wp2
            go_round
            case rel => exact ⟨j, q, by omega, by go_num, rfl, hq, by rw [← HR.out, hs.out, if_neg Hb.out]⟩
            case measure => simp [intOf]; omega
        · obtain rfl : k = 0 := by omega
          have hq0 : Hid (q = gmul a b) := HR.out
          clear HR hpos
          go_wp2
          go_ret
          exact ⟨by rw [← hq0.out]; rfl, rfl⟩
end Go.Proofs.Ytlipedigmokgbaa
