/-
  num.wrong, slices.ContainsFunc of sizes, num.Size in the program: sizes from 1 to 7.
-/
import Derived.Test.YtngkmlchblgmeaaIntK
import Derived.ProofKit
namespace Go.Proofs.Ytngkmlchblgmeaa
open Go.RowKit

set_option maxHeartbeats 400000 in
theorem num_wrong (n : Nat) (w : World) (h1 : 1 ≤ n) (h7 : n ≤ 7) : Calls Try.prog 124 #[.int .i64 n] w fun e w' => e = .returned (.bool false) ∧ w = w' := by
  have e1 : decide ((n : Int) < 1) = false := decide_eq_false (by omega)
  have e2 : decide (7 < (n : Int)) = false := decide_eq_false (by omega)
  go_enter Try.func124, Try.ntmps124
  go_wp2_with ((with_reducible refine wpList_unguard ?_ ?_); (focus rfl))
  go_ret
  exact ⟨rfl, rfl⟩
def sizesL (l : List Nat) : Prop := ∀ x ∈ l, 1 ≤ x ∧ x ≤ 7
theorem sizesL.at {l : List Nat} (h : sizesL l) (k : Nat) (hk : k < l.length) : 1 ≤ l.getD k 0 ∧ l.getD k 0 ≤ 7 := by
  apply h
  rw [List.getD_eq_getElem?_getD, List.getElem?_eq_getElem hk]
  exact List.getElem_mem _
set_option maxHeartbeats 400000 in
set_option maxRecDepth 100000 in
theorem sl_IndexFuncI (p : Option Addr) (n c : Nat) (l : List Nat) (w : World) (hn : n = l.length) (hp : cellsI w p l) (hs : sizesL l) (hl : l.length ≤ 1000000) :
    Calls Try.prog 115 #[.slice p n c, .func (.func 124) #[] #[]] w
      fun e w' => e = .returned (.int .i64 (-1)) ∧ w = w' := by
  subst hn
  have HP := hid hp
  have HS := hid hs
  clear hp hs
  go_enter Try.func115, Try.ntmps115
  go_wp2
  go_loop [8] (fun i => ∃ k : Nat, k ≤ l.length ∧ i = .int .i64 k) (fun i => l.length - (intOf i).toNat)
  case atStart => exact ⟨0, Nat.zero_le _, rfl⟩
  case round =>
    obtain ⟨k, hk, rfl⟩ := hrel
    by_cases hlt : k < l.length
    · obtain ⟨a, o, rfl, hc⟩ := HP.out k hlt
      have hsk := HS.out.at k hlt
      generalize l.getD k 0 = x at *
      go_wp2_with fail
      refine Calls.mono (num_wrong x w hsk.1 hsk.2) ?_; rintro e w' ⟨rfl, rfl⟩
      go_wp2
      go_round
      case rel => exact ⟨k + 1, by omega, by go_num⟩
      case measure => simp [intOf]; omega
    · go_wp2
      go_ret
      exact ⟨rfl, rfl⟩
set_option maxHeartbeats 400000 in
set_option maxRecDepth 100000 in
theorem sl_ContainsFuncI (p : Option Addr) (n c : Nat) (l : List Nat) (w : World) (hn : n = l.length) (hp : cellsI w p l) (hs : sizesL l) (hl : l.length ≤ 1000000) :
    Calls Try.prog 95 #[.slice p n c, .func (.func 124) #[] #[]] w
      fun e w' => e = .returned (.bool false) ∧ w = w' := by
  subst hn
  have HPP := hid hp
  have HS := hid hs
  clear hp hs
  go_enter Try.func95, Try.ntmps95
  go_wp2_with ((with_reducible refine wpList_unguard ?_ ?_); (focus rfl))
  refine Calls.mono (sl_IndexFuncI p _ c l w rfl HPP.out HS.out hl) ?_; rintro e w' ⟨rfl, rfl⟩
  go_wp2_with ((with_reducible refine wpList_unguard ?_ ?_); (focus rfl))
  go_ret
  exact ⟨rfl, rfl⟩
def sumN (l : List Nat) : Nat := l.foldl (· + ·) 0
theorem sumN_take (l : List Nat) (k : Nat) (h : k < l.length) : sumN (l.take (k + 1)) = sumN (l.take k) + l.getD k 0 := by
  unfold sumN
  rw [List.take_succ_eq_append_getElem h, List.foldl_append]
  simp [h]
theorem sumN_le (l : List Nat) (h : sizesL l) (k : Nat) (hk : k ≤ l.length) : sumN (l.take k) ≤ 7 * k := by
  induction k with
  | zero => simp [sumN]
  | succ k ih =>
    rw [sumN_take l k hk]
    have := ih (by omega)
    have := (h.at k hk).2
    omega
set_option maxHeartbeats 400000 in
set_option maxRecDepth 100000 in
theorem num_Size (p : Option Addr) (n c : Nat) (l : List Nat) (w : World) (hn : n = l.length) (hp : cellsI w p l) (hs : sizesL l) (hl : l.length ≤ 1000000) :
    Calls Try.prog 125 #[.slice p n c] w fun e w' => e = .returned (.int .i64 (sumN l : Nat)) ∧ w = w' := by
  subst hn
  have HPP := hid hp
  have HS := hid hs
  clear hp hs
  go_enter Try.func125, Try.ntmps125
  go_wp2_with ((with_reducible refine wpList_unguard ?_ ?_); (focus rfl))
  refine Calls.mono (sl_ContainsFuncI p _ c l w rfl HPP.out HS.out hl) ?_; rintro e w' ⟨rfl, rfl⟩
  go_wp2_with ((with_reducible refine wpList_unguard ?_ ?_); (focus rfl))
  go_loop [10, 3] (fun i s => ∃ k : Nat, k ≤ l.length ∧ i = .int .i64 k ∧ s = .int .i64 (sumN (l.take k) : Nat)) (fun i _ => l.length - (intOf i).toNat)
  case atStart => exact ⟨0, Nat.zero_le _, rfl, rfl⟩
  case round =>
    obtain ⟨k, hk, rfl, rfl⟩ := hrel
    by_cases hlt : k < l.length
    · obtain ⟨a, o, rfl, hc⟩ := HPP.out k hlt
      have hsk := HS.out.at k hlt
      have hsl := sumN_le l HS.out k hk
      have ht := hid (sumN_take l k hlt)

      generalize sumN (l.take k) = t at *
      generalize l.getD k 0 = x at *
      go_wp2_with ((with_reducible refine wpList_unguard ?_ ?_); (focus rfl))
      go_round
      case rel => exact ⟨k + 1, by omega, by go_num, by have := ht.out; go_num⟩
      case measure => simp [intOf]; omega
    · have hT : Hid (l.take k = l) := by show _ = _; exact List.take_of_length_le (by omega)
      go_wp2_with ((with_reducible refine wpList_unguard ?_ ?_); (focus rfl))
      go_ret
      exact ⟨by rw [hT.out]; rfl, rfl⟩
end Go.Proofs.Ytngkmlchblgmeaa
