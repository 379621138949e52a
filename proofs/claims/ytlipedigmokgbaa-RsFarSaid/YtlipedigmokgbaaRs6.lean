/-
  The document's example (chapter 06), and which codes there are.
-/
import Derived.Test.YtlipedigmokgbaaRs5
namespace Tri
theorem enc_ex : enc [1, 2] 2 = [1, 2, 1, 2] := by decide +kernel
theorem right_ex : rightB [1, 2, 1, 2] 2 = true := by decide +kernel
theorem wrong_ex : rightB [1, 2, 0, 0] 2 = false := by decide +kernel
end Tri
namespace Go.Proofs.Ytlipedigmokgbaa
open Go.RowKit Tri

set_option maxHeartbeats 1000000 in
set_option maxRecDepth 100000 in
theorem law06_awake (w : World) : Calls Try.prog 38 #[] w fun e w' => e = .returned (.bool true) ∧ Below w.heap.size w w' := by
  (go_enter Try.func38, Try.ntmps38; try simp only [List.append])
  go_wp2_with ((with_reducible refine wpList_unguard ?_ ?_); (focus rfl))
  refine Calls.mono (gf_NewK w w (Below.refl _ _)) ?_; rintro e w2 ⟨b, rfl, K0⟩; have K := hid K0; clear K0
  go_wp2_with ((with_reducible refine wpList_unguard ?_ ?_); (focus rfl))
  refine Calls.mono (rs_New b 4 2 w2 K.out.2 (by omega) (by omega) (by omega) (by omega)) ?_
  rintro e w3 ⟨c, rfl, hR, hbel⟩
  have HR := hid hR
  have HB := hid (K.out.1.trans (hbel.mono K.out.1.size))
  clear hR hbel K
  go_wp2_with ((with_reducible refine wpList_unguard ?_ ?_); (focus rfl))
  have C0 := hid (cellsB.new w3 [1, 2] #[.int .u8 1, .int .u8 2] 5 rfl)
  have hb1 : Below w3.heap.size w3 (w3.alloc (.cells #[.int .u8 1, .int .u8 2] 5)) := (Below.refl _ _).alloc (Nat.le_refl _) _
  have HR4 := hid (HR.out.below hb1)
  have HB4 := hid (HB.out.trans (hb1.mono HB.out.size))
  clear hb1 HR HB
  generalize w3.alloc (.cells #[.int .u8 1, .int .u8 2] 5) = w4 at *
  refine Calls.mono (rs_Encode c b 4 2 _ _ _ [1, 2] w4 HR4.out (by omega) (by omega) (by omega) (by omega) rfl (Nat.le_refl _) C0.out (by intro y hy; simp at hy; omega) rfl) ?_
  rintro e w5 ⟨v, rfl, hO, hbel⟩
  rw [show (4 - 2 : Nat) = 2 from rfl, enc_ex] at hO
  obtain ⟨p, d, rfl, hc⟩ := hO.cells
  have HC := hid hc
  have HR5 := hid (HR4.out.below hbel)
  have HB5 := hid (HB4.out.trans (hbel.mono HB4.out.size))
  obtain ⟨a, o, rfl, c0⟩ := HC.out 0 (by simp)
  obtain ⟨a1, o1, e1, c1⟩ := HC.out 1 (by simp)
  simp only [Option.some.injEq, Addr.mk.injEq] at e1
  obtain ⟨rfl, rfl, _⟩ := e1
  simp at c0 c1
  clear hO hc hbel HR4 HB4 C0
  go_wp2_with ((with_reducible refine wpList_unguard ?_ ?_); (focus rfl))
  refine Calls.mono (rs_Right c b 4 2 _ _ _ [1, 2, 1, 2] w5 HR5.out (by omega) (by omega) rfl HC.out (by intro y hy; simp at hy; omega) rfl) ?_
  rintro e w6 ⟨rfl, hbel⟩
  rw [show (4 - 2 : Nat) = 2 from rfl, right_ex]
  have HR6 := hid (HR5.out.below hbel)
  have HB6 := hid (HB5.out.trans (hbel.mono HB5.out.size))
  clear hbel HR5 HB5 HC c0 c1
  go_wp2_with ((with_reducible refine wpList_unguard ?_ ?_); (focus rfl))
  have C7 := hid (cellsB.new w6 [1, 2, 0, 0] #[.int .u8 1, .int .u8 2, .int .u8 0, .int .u8 0] 5 rfl)
  have hb1 : Below w6.heap.size w6 (w6.alloc (.cells #[.int .u8 1, .int .u8 2, .int .u8 0, .int .u8 0] 5)) := (Below.refl _ _).alloc (Nat.le_refl _) _
  have HR7 := hid (HR6.out.below hb1)
  have HB7 := hid (HB6.out.trans (hb1.mono HB6.out.size))
  clear hb1 HR6 HB6
  generalize w6.alloc (.cells #[.int .u8 1, .int .u8 2, .int .u8 0, .int .u8 0] 5) = w7 at *
  refine Calls.mono (rs_Right c b 4 2 _ _ _ [1, 2, 0, 0] w7 HR7.out (by omega) (by omega) rfl C7.out (by intro y hy; simp at hy; omega) rfl) ?_
  rintro e w8 ⟨rfl, hbel⟩
  rw [show (4 - 2 : Nat) = 2 from rfl, wrong_ex]
  have HB8 := hid (HB7.out.trans (hbel.mono HB7.out.size))
  clear hbel
  go_wp2_with ((with_reducible refine wpList_unguard ?_ ?_); (focus rfl))
  go_ret
  exact ⟨rfl, HB8.out⟩

def thereB (n k : Int) : Bool := decide (1 ≤ k ∧ k < n ∧ n ≤ 255 ∧ n - k ≤ 64)
set_option maxHeartbeats 1000000 in
set_option maxRecDepth 100000 in
theorem ref6_There (n k : Int) (w : World) (hn : -9223372036854775808 ≤ n ∧ n < 9223372036854775808) (hk : -9223372036854775808 ≤ k ∧ k < 9223372036854775808) :
    Calls Try.prog 39 #[.int .i64 n, .int .i64 k] w fun e w' => e = .returned (.bool (thereB n k)) ∧ w = w' := by
  have hT1 : Hid (1 ≤ k ∧ k < n ∧ n ≤ 255 ∧ n - k ≤ 64 → thereB n k = true) := fun h => decide_eq_true h
  have hT0 : Hid (¬ (1 ≤ k ∧ k < n ∧ n ≤ 255 ∧ n - k ≤ 64) → thereB n k = false) := fun h => decide_eq_false h
  generalize thereB n k = t at *
  (go_enter Try.func39, Try.ntmps39; try simp only [List.append])
  by_cases h1 : 1 ≤ k
  · have ht : decide (1 ≤ k) = true := decide_eq_true h1
    by_cases h2 : k < n
    · have ht2 : decide (k < n) = true := decide_eq_true h2
      by_cases h3 : n ≤ 255
      · have ht3 : decide (n ≤ 255) = true := decide_eq_true h3
        have hw : IntKind.i64.wrap (n - k) = n - k := by rw [IntKind.wrap_i64]; omega
        by_cases h4 : n - k ≤ 64
        · have ht4 : decide (n - k ≤ 64) = true := decide_eq_true h4
          have hr : t = true := hT1.out ⟨h1, h2, h3, h4⟩
          subst hr
          go_wp2_with ((with_reducible refine wpList_unguard ?_ ?_); (focus rfl))
          go_ret
          exact ⟨rfl, rfl⟩
        · have ht4 : decide (n - k ≤ 64) = false := decide_eq_false h4
          have hr : t = false := hT0.out (by omega)
          subst hr
          go_wp2_with ((with_reducible refine wpList_unguard ?_ ?_); (focus rfl))
          go_ret
          exact ⟨rfl, rfl⟩
      · have ht3 : decide (n ≤ 255) = false := decide_eq_false h3
        have hr : t = false := hT0.out (by omega)
        subst hr
        go_wp2_with ((with_reducible refine wpList_unguard ?_ ?_); (focus rfl))
        go_ret
        exact ⟨rfl, rfl⟩
    · have ht2 : decide (k < n) = false := decide_eq_false h2
      have hr : t = false := hT0.out (by omega)
      subst hr
      go_wp2_with ((with_reducible refine wpList_unguard ?_ ?_); (focus rfl))
      go_ret
      exact ⟨rfl, rfl⟩
  · have ht : decide (1 ≤ k) = false := decide_eq_false h1
    have hr : t = false := hT0.out (by omega)
    subst hr
    go_wp2_with ((with_reducible refine wpList_unguard ?_ ?_); (focus rfl))
    go_ret
    exact ⟨rfl, rfl⟩
end Go.Proofs.Ytlipedigmokgbaa
