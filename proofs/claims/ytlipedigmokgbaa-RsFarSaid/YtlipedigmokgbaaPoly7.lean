/-
  The document's example (chapter 05), and what is too long to be played.
-/
import Derived.Test.YtlipedigmokgbaaPoly6
namespace Tri
theorem proots_example : proots [1, 2] = [1, 3, 2] := by decide +kernel
end Tri
namespace Go.Proofs.Ytlipedigmokgbaa
open Go.RowKit Tri

set_option maxHeartbeats 1000000 in
set_option maxRecDepth 100000 in
theorem law05_awake (w : World) : Calls Try.prog 16 #[] w fun e w' => e = .returned (.bool true) ∧ Below w.heap.size w w' := by
  (go_enter Try.func16, Try.ntmps16; try simp only [List.append])
  go_wp2_with ((with_reducible refine wpList_unguard ?_ ?_); (focus rfl))
  refine Calls.mono (gf_NewK w w (Below.refl _ _)) ?_; rintro e w2 ⟨b, rfl, K0⟩; have K := hid K0; clear K0
  go_wp2_with ((with_reducible refine wpList_unguard ?_ ?_); (focus rfl))
  have C0 := hid (cellsB.new w2 [1, 2] #[.int .u8 1, .int .u8 2] 5 rfl)
  have K3 := hid (K.out.alloc (.cells #[.int .u8 1, .int .u8 2] 5))
  generalize w2.alloc (.cells #[.int .u8 1, .int .u8 2] 5) = w3 at *
  refine Calls.mono (poly_Roots b _ _ _ [1, 2] w3 K3.out.2 rfl C0.out (by intro y hy; simp at hy; omega) (by simp)) ?_
  rintro e w4 ⟨p, c, rfl, hle, hc, hbel⟩
  rw [proots_example] at hle hc ⊢
  have HC := hid hc
  have K4 := hid (K3.out.1.trans (hbel.mono K3.out.1.size))
  obtain ⟨a, o, rfl, c0⟩ := HC.out 0 (by simp)
  obtain ⟨a1, o1, e1, c1⟩ := HC.out 1 (by simp)
  obtain ⟨a2, o2, e2, c2⟩ := HC.out 2 (by simp)
  simp only [Option.some.injEq, Addr.mk.injEq] at e1 e2
  obtain ⟨rfl, rfl, _⟩ := e1
  obtain ⟨rfl, rfl, _⟩ := e2
  simp at c0 c1 c2 hle
  clear hc hbel C0
  go_wp2_with ((with_reducible refine wpList_unguard ?_ ?_); (focus rfl))
  refine Calls.mono (poly_Degree (some ⟨a, o, none⟩) 3 c [1, 3, 2] w4 rfl hle HC.out (by simp)) ?_; rintro e w5 ⟨rfl, hb⟩
  have K5 := hid (K4.out.trans (hb.mono K4.out.size))
  rw [show (((trim [1, 3, 2]).length : Int) - 1) = 2 from rfl]
  clear hb
  go_wp2_with ((with_reducible refine wpList_unguard ?_ ?_); (focus rfl))
  go_ret
  exact ⟨rfl, K5.out⟩

/-- More than is played? -/
def longP (l : List (List Nat)) : Bool := l.any (fun a => decide (60 < a.length)) || decide (6 < l.length)
set_option maxHeartbeats 1000000 in
theorem law05_great (p : Option Addr) (n c : Nat) (l : List (List Nat)) (w : World) (hn : n = l.length) (hp : cellsR w p l) (hl : l.length ≤ 140737488351232) (hz : ∀ a ∈ l, a.length ≤ 140737488351232) :
    Calls Try.prog 17 #[.slice p n c] w fun e w' => e = .returned (.bool (longP l)) ∧ w = w' := by
  subst hn
  have HP := hid hp
  have HZ := hid hz
  clear hp hz
  go_enter Try.func17, Try.ntmps17
  go_wp2_with ((with_reducible refine wpList_unguard ?_ ?_); (focus rfl))
  go_loop [7] (fun i => ∃ k : Nat, k ≤ l.length ∧ i = .int .i64 k ∧ (l.take k).any (fun a => decide (60 < a.length)) = false) (fun i => l.length - (intOf i).toNat)
  case atStart => exact ⟨0, Nat.zero_le _, rfl, rfl⟩
  case round =>
    obtain ⟨k, hk, rfl, hA⟩ := hrel
    have HA := hid hA
    clear hA
    by_cases hlt : k < l.length
    · obtain ⟨a, o, q', c', rfl, hc, _, _⟩ := HP.out k hlt
      have hy := HZ.out (l.getD k []) (by rw [List.getD_eq_getElem?_getD, List.getElem?_eq_getElem hlt]; exact List.getElem_mem _)
      have HS : Hid (l.take (k + 1) = l.take k ++ [l.getD k []]) := take_snocR l k hlt
      have hmem : Hid (l.getD k [] ∈ l) := by show _ ∈ _; rw [List.getD_eq_getElem?_getD, List.getElem?_eq_getElem hlt]; exact List.getElem_mem _
      generalize l.getD k [] = y at *
      by_cases hbig : 60 < y.length
      · have hd : decide (60 < (y.length : Int)) = true := by simp; omega
        have hL : Hid (longP l = true) := by
          show _ = _; unfold longP; rw [List.any_eq_true.2 ⟨y, hmem.out, by simpa using hbig⟩]; rfl
        go_wp2
        go_ret
        exact ⟨by rw [hL.out]; rfl, rfl⟩
      · have hd : decide (60 < (y.length : Int)) = false := by simp; omega
        go_wp2
        go_round
        case rel => exact ⟨k + 1, by omega, by go_num, by rw [HS.out, List.any_append, HA.out]; simpa using hbig⟩
        case measure => simp [intOf]; omega
    · have hL : Hid (longP l = decide (6 < (l.length : Int))) := by
        show _ = _
        have h1 := HA.out
        rw [List.take_of_length_le (by omega)] at h1
        unfold longP; rw [h1, Bool.false_or]
        by_cases h : 6 < l.length
        · rw [decide_eq_true h, decide_eq_true (by omega)]
        · rw [decide_eq_false h, decide_eq_false (by omega)]
      go_wp2
      go_ret
      exact ⟨by rw [hL.out]; rfl, rfl⟩
end Go.Proofs.Ytlipedigmokgbaa
