/-
  TagSplits, walked, as the row asks it.
-/
import Derived.Test.YtiailpbmmadaeaaSplits
import Derived.Test.YtiailpbmmadaeaaOpenC
namespace Go.Proofs.Ytiailpbmmadaeaa
open Go.RowKit Tri

set_option maxHeartbeats 1000000 in
set_option maxRecDepth 100000 in
theorem tagSplits_long (s : ByteArray) (many : Int) (p : Option Addr) (len cap : Nat) (w : World) (hm : s.size ≤ maxLen) (hc : len ≤ 140737488351232) (h : 5000 < s.size ∨ (s.size ≤ 5000 ∧ 100 < len)) :
    Calls Try.prog 7 #[.string s, .int .i64 many, .slice p len cap] w fun e w' => e = .returned (.bool true) ∧ Below w.heap.size w w' := by
  unfold maxLen at hm
  have HW : Hid (∀ w1 : World, Below w.heap.size w w1 → Below w.heap.size w w1) := fun _ h => h
  rcases h with h | ⟨h, h2⟩
  · have h' : 5000 < (s.size : Int) := by omega
    (go_enter Try.func7, Try.ntmps7; try simp only [List.append])
    go_wp2_with fail
    refine Calls.mono (law10_awake w) ?_; rintro e w1 ⟨rfl, hb⟩
    have Hb := hid hb; clear hb
    go_wp2
    go_ret
    exact ⟨rfl, Hb.out⟩
  · have h' : ¬ 5000 < (s.size : Int) := by omega
    have h3 : 100 < (len : Int) := by omega
    (go_enter Try.func7, Try.ntmps7; try simp only [List.append])
    go_wp2_with fail
    refine Calls.mono (law10_awake w) ?_; rintro e w1 ⟨rfl, hb⟩
    have Hb := hid hb; clear hb
    go_wp2
    go_ret
    exact ⟨rfl, Hb.out⟩
theorem tagSplits.walk (a0 : ByteArray) (a1 : Int) (a2 : Option Addr) (len2 cap2 : Nat) (l2 : List Nat) (w : World) (w0 : a0.size ≤ maxLen) (w1 : (Lit.int .i64 a1).wf = true) (w2 : IsBlks w a2 len2 cap2 l2) :
    Calls Try.prog 7 #[.string a0, .int .i64 a1, .slice a2 len2 cap2] w fun e w' => e = .returned (.bool true) ∧ Below w.heap.size w w' := by
  by_cases h1 : a0.size ≤ 5000
  · by_cases h2 : len2 ≤ 100
    · exact tagSplits_main a0 a1 a2 len2 cap2 l2 w h1 h2 w2.2.2.2.2 w2.2.2.1 w2.2.2.2.1
    · exact tagSplits_long a0 a1 a2 len2 cap2 w w0 (Nat.le_trans w2.1 w2.2.1) (.inr ⟨h1, by omega⟩)
  · exact tagSplits_long a0 a1 a2 len2 cap2 w w0 (Nat.le_trans w2.1 w2.2.1) (.inl (by omega))
end Go.Proofs.Ytiailpbmmadaeaa
