/-
  Rows of whole numbers (ints of either sign): slices.Index, Contains, IndexFunc, ContainsFunc of ints; what is told of a search.
-/
import Derived.Test.YtngkmlchblgmeaaBase
import Derived.Test.YtngkmlchblgmeaaCz
import Derived.ProofKit
namespace Go.Proofs.Ytngkmlchblgmeaa
open Go.RowKit

theorem any_take_succ (p : Int → Bool) (l : List Int) (k : Nat) (h : k < l.length) : (l.take (k + 1)).any p = ((l.take k).any p || p (l.getD k 0)) := by
  rw [List.take_succ_eq_append_getElem h, List.any_append]
  simp [h]
theorem any_of_at (p : Int → Bool) (l : List Int) (k : Nat) (h : k < l.length) (hp : p (l.getD k 0) = true) : l.any p = true := by
  rw [List.any_eq_true]
  refine ⟨l.getD k 0, ?_, hp⟩
  rw [List.getD_eq_getElem?_getD, List.getElem?_eq_getElem h]
  exact List.getElem_mem _
/-- What is told of a search: an index, 0 or more just if there is such a one. -/
def ixRet (p : Int → Bool) (l : List Int) (e : Ending) : Prop := ∃ r : Int, e = .returned (.int .i64 r) ∧ decide (0 ≤ r) = l.any p
set_option maxHeartbeats 400000 in
set_option maxRecDepth 100000 in
theorem sl_IndexZ (x : Int) (p : Option Addr) (n c : Nat) (l : List Int) (w : World) (hn : n = l.length) (hp : cellsZ w p l) (hl : l.length ≤ 1000000) :
    Calls Try.prog 84 #[.slice p n c, .int .i64 x] w
      fun e w' => ixRet (fun y => decide (x = y)) l e ∧ w = w' := by
  subst hn
  have HP := hid hp
  clear hp
  go_enter Try.func84, Try.ntmps84
  go_wp2
  go_loop [8] (fun i => ∃ k : Nat, k ≤ l.length ∧ i = .int .i64 k ∧ (l.take k).any (fun y => decide (x = y)) = false) (fun i => l.length - (intOf i).toNat)
  case atStart => exact ⟨0, Nat.zero_le _, rfl, rfl⟩
  case round =>
    obtain ⟨k, hk, rfl, ht⟩ := hrel
    have HT := hid ht
    clear ht
    by_cases hlt : k < l.length
    · obtain ⟨a, o, rfl, hc⟩ := HP.out k hlt
      have HS := hid (any_take_succ (fun y => decide (x = y)) l k hlt)
      have HA := hid (any_of_at (fun y => decide (x = y)) l k hlt)
      generalize l.getD k 0 = y at *
      by_cases hxy : x = y
      · have hb : (x == y) = true := beq_iff_eq.2 hxy
        go_wp2
        go_ret
        refine ⟨⟨k, rfl, ?_⟩, rfl⟩
        subst hxy
        rw [HA.out (decide_eq_true rfl)]
        exact decide_eq_true (by omega)
      · have hb : (x == y) = false := beq_eq_false_iff_ne.2 hxy
        go_wp2
        go_round
        case rel => exact ⟨k + 1, by omega, by go_num, by rw [HS.out, HT.out, decide_eq_false hxy]; rfl⟩
        case measure => simp [intOf]; omega
    · have HTT : Hid (l.any (fun y => decide (x = y)) = false) := by have := HT.out; rw [List.take_of_length_le (by omega)] at this; exact this
      go_wp2
      go_ret
      exact ⟨⟨-1, rfl, by rw [HTT.out]; rfl⟩, rfl⟩
set_option maxHeartbeats 400000 in
set_option maxRecDepth 100000 in
theorem sl_ContainsZ (x : Int) (p : Option Addr) (n c : Nat) (l : List Int) (w : World) (hn : n = l.length) (hp : cellsZ w p l) (hl : l.length ≤ 1000000) :
    Calls Try.prog 65 #[.slice p n c, .int .i64 x] w
      fun e w' => e = .returned (.bool (l.any fun y => decide (x = y))) ∧ w = w' := by
  subst hn
  have HP := hid hp
  clear hp
  go_enter Try.func65, Try.ntmps65
  go_wp2_with ((with_reducible refine wpList_unguard ?_ ?_); (focus rfl))
  refine Calls.mono (sl_IndexZ x p _ c l w rfl HP.out hl) ?_; rintro e w' ⟨⟨r, rfl, hr⟩, rfl⟩
  have HR := hid hr
  clear hr
  go_wp2_with ((with_reducible refine wpList_unguard ?_ ?_); (focus rfl))
  go_ret
  exact ⟨by rw [← HR.out]; rfl, rfl⟩
end Go.Proofs.Ytngkmlchblgmeaa
