/-
  TagSeals, walked, as the row asks it.
-/
import Derived.Test.YtiailpbmmadaeaaTag7
import Derived.Test.YtiailpbmmadaeaaOpenB
namespace Go.Proofs.Ytiailpbmmadaeaa
open Go.RowKit Tri

set_option maxHeartbeats 1000000 in
set_option maxRecDepth 100000 in
theorem tagSeals_long (L : List Nat) (s : ByteArray) (w : World) (hs : 1000 < s.size) (hm : s.size ≤ maxLen) :
    Calls Try.prog 6 #[.agg (blkB L), .string s] w fun e w' => e = .returned (.bool true) ∧ Below w.heap.size w w' := by
  have hb0 : Below w.heap.size w (w.alloc (.cells (blkB L) 31)) := (Below.refl _ _).alloc (Nat.le_refl _) _
  obtain ⟨w1, hw1⟩ : ∃ u, w.alloc (.cells (blkB L) 31) = u := ⟨_, rfl⟩
  rw [hw1] at hb0
  have Hb := hid hb0
  have hs' : 1000 < (s.size : Int) := by omega
  unfold maxLen at hm
  clear hb0
  (go_enter Try.func6, Try.ntmps6; try simp only [List.append])
  go_wp2_with fail
  refine Calls.mono (law10_awake w1) ?_; rintro e w2 ⟨rfl, hb⟩
  have Hb := hid (Hb.out.trans (hb.mono Hb.out.size)); clear hb hw1
  go_wp2
  go_ret
  exact ⟨rfl, Hb.out⟩
theorem tagSeals.walk (l0 : List Nat) (a1 : ByteArray) (w : World) (w0 : l0.length = 60 ∧ ∀ x ∈ l0, x < 256) (w1 : a1.size ≤ maxLen) :
    Calls Try.prog 6 #[.agg (blkB l0), .string a1] w fun e w' => e = .returned (.bool true) ∧ Below w.heap.size w w' := by
  by_cases h : a1.size ≤ 1000
  · exact tagSeals_main l0 a1 w w0.1 w0.2 h
  · exact tagSeals_long l0 a1 w (by omega) w1
end Go.Proofs.Ytiailpbmmadaeaa
