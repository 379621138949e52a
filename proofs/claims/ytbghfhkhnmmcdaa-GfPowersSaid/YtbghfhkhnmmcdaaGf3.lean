/-
  The document's example of the field holds in the program: what the statements ask of themselves first.
-/
import Derived.Test.YtbghfhkhnmmcdaaGf2
namespace Go.Proofs.Ytbghfhkhnmmcdaa
open Go.RowKit Tri

set_option maxHeartbeats 400000 in
theorem law04_awake (w : World) : Calls Try.prog 15 #[] w fun e w' => e = .returned (.bool true) ∧ Below w.heap.size w w' := by
  go_enter Try.func15, Try.ntmps15
  go_wp2_with ((with_reducible refine wpList_unguard ?_ ?_); (focus rfl))
  have HBA := hid (Below.refl w.heap.size w)
  (refine Calls.mono (gf_NewK _ _ HBA.out) ?_; rintro e w' ⟨f, rfl, K0⟩; have K := hid K0; clear K0)
  go_wp2_with ((with_reducible refine wpList_unguard ?_ ?_); (focus rfl))
  (refine Calls.mono (gf_Mul2K _ _ _ 128 2 _ _ _ K.out ?_ ?_ ?_ ?_ ?_ _) ?_; (focus (first | rfl | (simp; done))); (rfl); (rfl); (focus (first | assumption | (exact gmul_lt _ _) | (exact ginv_lt _) | (exact gexp_lt _) | (exact gexpZ_lt _) | omega | (exact xor_lt (by first | assumption | (exact gmul_lt _ _) | omega) (by first | assumption | (exact gmul_lt _ _) | omega)))); (focus (first | assumption | (exact gmul_lt _ _) | (exact ginv_lt _) | (exact gexp_lt _) | (exact gexpZ_lt _) | omega | (exact xor_lt (by first | assumption | (exact gmul_lt _ _) | omega) (by first | assumption | (exact gmul_lt _ _) | omega)))); (clear K); rintro e w' ⟨rfl, K0⟩; have K := hid K0; clear K0)
  have e1 : gmul 128 2 = 29 := by decide +kernel
  go_wp2_with ((with_reducible refine wpList_unguard ?_ ?_); (focus rfl))
  refine Calls.mono (gf_Mul f none 0 0 [] _ K.out.2 rfl (cellsB.nil _ _) (by simp) (by simp)) ?_; rintro e w' ⟨rfl, rfl⟩
  have e2 : gprod [] = 1 := rfl
  go_wp2_with ((with_reducible refine wpList_unguard ?_ ?_); (focus rfl))
  (refine Calls.mono (gf_Add2K _ _ _ 3 5 _ _ _ K.out ?_ ?_ ?_ ?_ ?_ _) ?_; (focus (first | rfl | (simp; done))); (rfl); (rfl); (focus (first | assumption | (exact gmul_lt _ _) | (exact ginv_lt _) | (exact gexp_lt _) | (exact gexpZ_lt _) | omega | (exact xor_lt (by first | assumption | (exact gmul_lt _ _) | omega) (by first | assumption | (exact gmul_lt _ _) | omega)))); (focus (first | assumption | (exact gmul_lt _ _) | (exact ginv_lt _) | (exact gexp_lt _) | (exact gexpZ_lt _) | omega | (exact xor_lt (by first | assumption | (exact gmul_lt _ _) | omega) (by first | assumption | (exact gmul_lt _ _) | omega)))); (clear K); rintro e w' ⟨rfl, K0⟩; have K := hid K0; clear K0)
  go_wp2_with ((with_reducible refine wpList_unguard ?_ ?_); (focus rfl))
  go_ret
  exact ⟨rfl, by (exact K.out.1)⟩

set_option maxHeartbeats 400000 in
theorem gfNone.walk (a0 : Int) (a1 : Int) (a2 : Int) (w : World) (w0 : (Lit.int .u8 a0).wf = true) (w1 : (Lit.int .u8 a1).wf = true) (w2 : (Lit.int .i64 a2).wf = true) :
    Calls Try.prog 8 #[.int .u8 a0, .int .u8 a1, .int .i64 a2] w fun e w' => e = .returned (.bool true) ∧ Below w.heap.size w w' := by
  obtain ⟨a, ha, rfl⟩ := u8_of w0
  obtain ⟨b, hb, rfl⟩ := u8_of w1
  clear w0 w1 w2
  go_enter Try.func8, Try.ntmps8
  go_wp2_with ((with_reducible refine wpList_unguard ?_ ?_); (focus rfl))
  go_call law04_awake _ as e w1 ⟨rfl, hb1⟩
  have HB := hid hb1
  clear hb1
  go_wp2_with ((with_reducible refine wpList_unguard ?_ ?_); (focus rfl))
  go_call gf_Div_nil _ _ _ as e w' ⟨rfl, rfl⟩
  go_wp2_with ((with_reducible refine wpList_unguard ?_ ?_); (focus rfl))
  go_call gf_Inv_nil _ _ as e w' ⟨rfl, rfl⟩
  go_wp2_with ((with_reducible refine wpList_unguard ?_ ?_); (focus rfl))
  go_call gf_Log_nil _ _ as e w' ⟨rfl, rfl⟩
  go_wp2_with ((with_reducible refine wpList_unguard ?_ ?_); (focus rfl))
  refine Calls.mono (gf_Add2_nil _ a b _ _ _ rfl rfl rfl ha hb _) ?_; rintro e w' ⟨rfl, rfl⟩
  go_wp2_with ((with_reducible refine wpList_unguard ?_ ?_); (focus rfl))
  refine Calls.mono (gf_Mul2_nil _ a b _ _ _ (by simp) rfl rfl ha hb _) ?_; rintro e w' ⟨rfl, rfl⟩
  go_wp2_with ((with_reducible refine wpList_unguard ?_ ?_); (focus rfl))
  go_call gf_Exp_nil _ _ as e w' ⟨rfl, rfl⟩
  go_wp2_with ((with_reducible refine wpList_unguard ?_ ?_); (focus rfl))
  go_call gf_Pow_nil _ _ _ as e w' ⟨rfl, rfl⟩
  go_wp2_with ((with_reducible refine wpList_unguard ?_ ?_); (focus rfl))
  go_ret
  exact ⟨rfl, by have hB := HB.out; have hS := hB.size; go_grown⟩
end Go.Proofs.Ytbghfhkhnmmcdaa
