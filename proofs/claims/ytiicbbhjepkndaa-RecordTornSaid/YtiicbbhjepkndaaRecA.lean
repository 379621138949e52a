/-
  The document's example of records holds in the program.
-/
import Derived.Test.YtiicbbhjepkndaaRec3
namespace Go.Proofs.Ytiicbbhjepkndaa
open Go.RowKit Tri

def exR : ByteArray := ⟨#[1, 2, 0, 3, 0, 0, 0, 0, 0, 4, 0, 0, 134, 152, 167, 216]⟩
set_option maxHeartbeats 1000000 in
set_option maxRecDepth 100000 in
theorem law14_awake (w : World) : Calls Try.prog 32 #[] w fun e w' => e = .returned (.bool true) ∧ Below w.heap.size w w' := by
  have e1 : verN 1 2 3 = 4295098371 := by decide +kernel
  have e2 : verOk 1 2 3 = true := by decide +kernel
  have e3 : ofB (recP 1 2 3 4) = exR := by
    have : recP 1 2 3 4 = [1, 2, 0, 3, 0, 0, 0, 0, 0, 4, 0, 0, 134, 152, 167, 216] := by decide +kernel
    rw [this]; rfl
  (go_enter Try.func32, Try.ntmps32; try simp only [List.append])
  go_wp2_with ((with_reducible refine wpList_unguard ?_ ?_); (focus rfl))
  refine Calls.mono (rec_Number 1 2 3 w) ?_; rintro e w1 ⟨rfl, hb⟩; have HB := hid hb; clear hb
  rw [e1, e2]
  go_wp2_with ((with_reducible refine wpList_unguard ?_ ?_); (focus rfl))
  refine Calls.mono (crc_NewK w w1 HB.out) ?_; rintro e w2 ⟨b, rfl, K0⟩; have K := hid K0; clear K0
  go_wp2_with ((with_reducible refine wpList_unguard ?_ ?_); (focus rfl))
  refine Calls.mono (rec_Put w b 1 2 3 4 w2 K.out (by omega) (by omega) (by omega) (by omega)) ?_; (clear K); rintro e w3 ⟨rfl, K0⟩; have K := hid K0; clear K0
  rw [e3]
  go_wp2_with ((with_reducible refine wpList_unguard ?_ ?_); (focus rfl))
  go_ret
  refine ⟨?_, K.out.1⟩
  have e4 : ((exR.extract 0 10).toList == [1, 2, 0, 3, 0, 0, 0, 0, 0, 4]) = true := by decide +kernel
  show Ending.returned (Value.bool ((exR.extract 0 10).toList == [1, 2, 0, 3, 0, 0, 0, 0, 0, 4])) = _
  rw [e4]
end Go.Proofs.Ytiicbbhjepkndaa
