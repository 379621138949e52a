/-
  RsNone, walked: a code that isn't there has no words.
-/
import Derived.Test.YtlipedigmokgbaaRs6
import Derived.Test.YtlipedigmokgbaaOpenS
namespace Go.Proofs.Ytlipedigmokgbaa
open Go.RowKit Tri

set_option maxHeartbeats 1000000 in
theorem rs_Size_nil (w : World) : Calls Try.prog 46 #[.pointer none] w fun e w' => e = .returned (.tuple #[.int .i64 0, .int .i64 0]) ∧ w = w' := by
  (go_enter Try.func46, Try.ntmps46; try simp only [List.append])
  go_wp2_with ((with_reducible refine wpList_unguard ?_ ?_); (focus rfl))
  refine bodyPost_ret (v := .tuple #[.int .i64 0, .int .i64 0]) (by simp [results, Try.results46, go_sem]) rfl ⟨rfl, rfl⟩
set_option maxHeartbeats 1000000 in
theorem rs_Over_nil (w : World) : Calls Try.prog 49 #[.pointer none] w fun e w' => e = .returned (.pointer none) ∧ w = w' := by
  (go_enter Try.func49, Try.ntmps49; try simp only [List.append])
  go_wp2_with ((with_reducible refine wpList_unguard ?_ ?_); (focus rfl))
  go_ret
  exact ⟨rfl, rfl⟩
set_option maxHeartbeats 2000000 in
set_option maxRecDepth 100000 in
theorem rsNone.walk (a0 : Option Addr) (len0 cap0 : Nat) (l0 : List Nat) (w : World) (w0 : IsBytes w a0 len0 cap0 l0) :
    Calls Try.prog 14 #[.slice a0 len0 cap0] w fun e w' => e = .returned (.bool true) ∧ Below w.heap.size w w' := by
  clear w0
  (go_enter Try.func14, Try.ntmps14; try simp only [List.append])
  go_wp2_with ((with_reducible refine wpList_unguard ?_ ?_); (focus rfl))
  (refine Calls.mono (law06_awake _) ?_; rintro e w2 ⟨rfl, hbA⟩; have HBA := hid hbA; clear hbA)
  go_wp2_with ((with_reducible refine wpList_unguard ?_ ?_); (focus rfl))
  refine Calls.mono (rs_Size_nil w2) ?_; rintro e w' ⟨rfl, rfl⟩
  go_wp2_with ((with_reducible refine wpList_unguard ?_ ?_); (focus rfl))
  refine Calls.mono (rs_Parity_nil a0 len0 cap0 w2) ?_; rintro e w' ⟨rfl, rfl⟩
  go_wp2_with ((with_reducible refine wpList_unguard ?_ ?_); (focus rfl))
  refine Calls.mono (rs_Encode_nil a0 len0 cap0 w2) ?_; rintro e w' ⟨rfl, rfl⟩
  go_wp2_with ((with_reducible refine wpList_unguard ?_ ?_); (focus rfl))
  refine Calls.mono (rs_Syndromes_nil a0 len0 cap0 w2) ?_; rintro e w' ⟨rfl, rfl⟩
  go_wp2_with ((with_reducible refine wpList_unguard ?_ ?_); (focus rfl))
  refine Calls.mono (rs_Right_nil a0 len0 cap0 w2) ?_; rintro e w' ⟨rfl, rfl⟩
  go_wp2_with ((with_reducible refine wpList_unguard ?_ ?_); (focus rfl))
  refine Calls.mono (rs_Over_nil w2) ?_; rintro e w' ⟨rfl, rfl⟩
  go_wp2_with ((with_reducible refine wpList_unguard ?_ ?_); (focus rfl))
  go_ret
  exact ⟨rfl, HBA.out⟩
end Go.Proofs.Ytlipedigmokgbaa
