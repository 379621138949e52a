/-
  Records in the program: which may be, their pages; versions as values, and back.
-/
import Derived.Test.YtngkmlchblgmeaaRec0
import Derived.Test.YtngkmlchblgmeaaCrcK
import Derived.Test.YtngkmlchblgmeaaOpenI
namespace Tri
def recL (k s n v : Nat) : List Nat := Go.Proofs.Ytngkmlchblgmeaa.putB 1 k ++ Go.Proofs.Ytngkmlchblgmeaa.putB 1 s ++ Go.Proofs.Ytngkmlchblgmeaa.putB 2 n ++ Go.Proofs.Ytngkmlchblgmeaa.putB 6 v ++ Go.Proofs.Ytngkmlchblgmeaa.putB 2 0
def recSum (l : List Nat) : Nat := min (csum l) 4294967294
def recP (k s n v : Nat) : List Nat := recL k s n v ++ Go.Proofs.Ytngkmlchblgmeaa.putB 4 (recSum (recL k s n v))
end Tri
namespace Go.Proofs.Ytngkmlchblgmeaa
open Go.RowKit Tri

set_option maxHeartbeats 1000000 in
theorem rec_within (n m : Int) (w : World) : Calls Try.prog 85 #[.int .i64 n, .int .i64 m] w fun e w' => e = .returned (.bool (decide (0 ≤ n ∧ n ≤ m))) ∧ w = w' := by
  (go_enter Try.func85, Try.ntmps85; try simp only [List.append])
  by_cases h1 : 0 ≤ n
  · have ht : decide (0 ≤ n) = true := decide_eq_true h1
    by_cases h2 : n ≤ m
    · have ht2 : decide (n ≤ m) = true := decide_eq_true h2
      have hr : Hid (decide (0 ≤ n ∧ n ≤ m) = true) := decide_eq_true ⟨h1, h2⟩
      go_wp2_with ((with_reducible refine wpList_unguard ?_ ?_); (focus rfl))
      go_ret
      first | exact ⟨rfl, rfl⟩ | exact ⟨by rw [hr.out]; rfl, rfl⟩
    · have ht2 : decide (n ≤ m) = false := decide_eq_false h2
      have hr : Hid (decide (0 ≤ n ∧ n ≤ m) = false) := decide_eq_false (fun h => h2 h.2)
      go_wp2_with ((with_reducible refine wpList_unguard ?_ ?_); (focus rfl))
      go_ret
      first | exact ⟨rfl, rfl⟩ | exact ⟨by rw [hr.out]; rfl, rfl⟩
  · have ht : decide (0 ≤ n) = false := decide_eq_false h1
    have hr : Hid (decide (0 ≤ n ∧ n ≤ m) = false) := decide_eq_false (fun h => h1 h.1)
    go_wp2_with ((with_reducible refine wpList_unguard ?_ ?_); (focus rfl))
    go_ret
    first | exact ⟨rfl, rfl⟩ | exact ⟨by rw [hr.out]; rfl, rfl⟩
end Go.Proofs.Ytngkmlchblgmeaa
