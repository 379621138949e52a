/-
  GfMuls and GfDivides, walked: products, sums, quotients and inverses are what the document says; what is divided, and multiplied again, is what it was.
-/
import Derived.Test.YtbghfhkhnmmcdaaGf3
import Derived.Test.YtbghfhkhnmmcdaaGf4
namespace Go.Proofs.Ytbghfhkhnmmcdaa
open Go.RowKit Tri

theorem rinv_pos (b : Nat) (h : b ≠ 0) : rinv b = ginv b := by unfold rinv; rw [if_neg h]
set_option maxHeartbeats 1000000 in
theorem gfMuls.walk (a0 : Int) (a1 : Int) (a2 : Int) (w : World) (w0 : (Lit.int .u8 a0).wf = true) (w1 : (Lit.int .u8 a1).wf = true) (w2 : (Lit.int .u8 a2).wf = true) :
    Calls Try.prog 6 #[.int .u8 a0, .int .u8 a1, .int .u8 a2] w fun e w' => e = .returned (.bool true) ∧ Below w.heap.size w w' := by
  obtain ⟨a, ha, rfl⟩ := u8_of w0
  obtain ⟨b, hb, rfl⟩ := u8_of w1
  obtain ⟨c, hc, rfl⟩ := u8_of w2
  clear w0 w1 w2
  have e1 : gmul a (gmul b c) = gmul (gmul a b) c := (gmul_assoc a b c).symm
  have e2 := xor_byte a b ha hb
  have e3 : bits .xor .u8 ((a ^^^ b : Nat) : Int) (c : Int) = ((a ^^^ (b ^^^ c) : Nat) : Int) := by
    rw [xor_byte _ c (xor_lt ha hb) hc, Nat.xor_assoc]
  have hab := gmul_lt a b
  have habc := gmul_lt (gmul a b) c
  by_cases h0 : b = 0
  · subst h0
    have hr : Hid (rinv 0 = 0) := rfl
    have e4 : gmul a 0 = 0 := gmul_zero a
    have e5 : gmul 0 c = 0 := zero_gmul c
    have e6 : bits .xor .u8 (a : Int) 0 = (a : Int) := by have := xor_byte a 0 ha (by omega); simpa using this
    have e7 := xor_byte a c ha hc
    clear e1 e2 e3 hab habc
    (go_enter Try.func6, Try.ntmps6; try simp only [List.append])
    go_wp2_with ((with_reducible refine wpList_unguard ?_ ?_); (focus rfl))
    (refine Calls.mono (law04_awake _) ?_; rintro e w1 ⟨rfl, hbA⟩; have HBA := hid hbA; clear hbA)
    go_wp2_with ((with_reducible refine wpList_unguard ?_ ?_); (focus rfl))
    (refine Calls.mono (gf_NewK _ _ HBA.out) ?_; rintro e w' ⟨f, rfl, K0⟩; have K := hid K0; clear K0)
    go_wp2_with ((with_reducible refine wpList_unguard ?_ ?_); (focus rfl))
    refine Calls.mono (ref_Inv 0 hb _) ?_; rintro e w' ⟨rfl, rfl⟩; rw [hr.out]
    go_wp2_with ((with_reducible refine wpList_unguard ?_ ?_); (focus rfl))
    go_call gf_Div_zero _ _ _ as e w' ⟨rfl, rfl⟩
    go_wp2_with ((with_reducible refine wpList_unguard ?_ ?_); (focus rfl))
    go_call gf_Inv_zero _ _ as e w' ⟨rfl, rfl⟩
    go_wp2_with ((with_reducible refine wpList_unguard ?_ ?_); (focus rfl))
    (refine Calls.mono (ref_Mul a 0 ?_ ?_ _) ?_; (focus (first | assumption | (exact gmul_lt _ _) | (exact ginv_lt _) | (exact gexp_lt _) | (exact gexpZ_lt _) | omega | (exact xor_lt (by first | assumption | (exact gmul_lt _ _) | omega) (by first | assumption | (exact gmul_lt _ _) | omega)))); (focus (first | assumption | (exact gmul_lt _ _) | (exact ginv_lt _) | (exact gexp_lt _) | (exact gexpZ_lt _) | omega | (exact xor_lt (by first | assumption | (exact gmul_lt _ _) | omega) (by first | assumption | (exact gmul_lt _ _) | omega)))); rintro e w' ⟨rfl, rfl⟩)
    go_wp2_with ((with_reducible refine wpList_unguard ?_ ?_); (focus rfl))
    (refine Calls.mono (gf_Mul2K _ _ _ a 0 _ _ _ K.out ?_ ?_ ?_ ?_ ?_ _) ?_; (focus (first | rfl | (simp; done))); (rfl); (rfl); (focus (first | assumption | (exact gmul_lt _ _) | (exact ginv_lt _) | (exact gexp_lt _) | (exact gexpZ_lt _) | omega | (exact xor_lt (by first | assumption | (exact gmul_lt _ _) | omega) (by first | assumption | (exact gmul_lt _ _) | omega)))); (focus (first | assumption | (exact gmul_lt _ _) | (exact ginv_lt _) | (exact gexp_lt _) | (exact gexpZ_lt _) | omega | (exact xor_lt (by first | assumption | (exact gmul_lt _ _) | omega) (by first | assumption | (exact gmul_lt _ _) | omega)))); (clear K); rintro e w' ⟨rfl, K0⟩; have K := hid K0; clear K0)
    go_wp2_with ((with_reducible refine wpList_unguard ?_ ?_); (focus rfl))
    (refine Calls.mono (gf_Mul3K _ _ _ a 0 c _ _ _ _ K.out ?_ ?_ ?_ ?_ ?_ ?_ ?_ _) ?_; (focus (first | rfl | (simp; done))); (rfl); (rfl); (rfl); (focus (first | assumption | (exact gmul_lt _ _) | (exact ginv_lt _) | (exact gexp_lt _) | (exact gexpZ_lt _) | omega | (exact xor_lt (by first | assumption | (exact gmul_lt _ _) | omega) (by first | assumption | (exact gmul_lt _ _) | omega)))); (focus (first | assumption | (exact gmul_lt _ _) | (exact ginv_lt _) | (exact gexp_lt _) | (exact gexpZ_lt _) | omega | (exact xor_lt (by first | assumption | (exact gmul_lt _ _) | omega) (by first | assumption | (exact gmul_lt _ _) | omega)))); (focus (first | assumption | (exact gmul_lt _ _) | (exact ginv_lt _) | (exact gexp_lt _) | (exact gexpZ_lt _) | omega | (exact xor_lt (by first | assumption | (exact gmul_lt _ _) | omega) (by first | assumption | (exact gmul_lt _ _) | omega)))); (clear K); rintro e w' ⟨rfl, K0⟩; have K := hid K0; clear K0)
    go_wp2_with ((with_reducible refine wpList_unguard ?_ ?_); (focus rfl))
    (refine Calls.mono (ref_Mul 0 c ?_ ?_ _) ?_; (focus (first | assumption | (exact gmul_lt _ _) | (exact ginv_lt _) | (exact gexp_lt _) | (exact gexpZ_lt _) | omega | (exact xor_lt (by first | assumption | (exact gmul_lt _ _) | omega) (by first | assumption | (exact gmul_lt _ _) | omega)))); (focus (first | assumption | (exact gmul_lt _ _) | (exact ginv_lt _) | (exact gexp_lt _) | (exact gexpZ_lt _) | omega | (exact xor_lt (by first | assumption | (exact gmul_lt _ _) | omega) (by first | assumption | (exact gmul_lt _ _) | omega)))); rintro e w' ⟨rfl, rfl⟩)
    go_wp2_with ((with_reducible refine wpList_unguard ?_ ?_); (focus rfl))
    (refine Calls.mono (gf_Add3K _ _ _ a 0 c _ _ _ _ K.out ?_ ?_ ?_ ?_ ?_ ?_ ?_ _) ?_; (focus (first | rfl | (simp; done))); (rfl); (rfl); (rfl); (focus (first | assumption | (exact gmul_lt _ _) | (exact ginv_lt _) | (exact gexp_lt _) | (exact gexpZ_lt _) | omega | (exact xor_lt (by first | assumption | (exact gmul_lt _ _) | omega) (by first | assumption | (exact gmul_lt _ _) | omega)))); (focus (first | assumption | (exact gmul_lt _ _) | (exact ginv_lt _) | (exact gexp_lt _) | (exact gexpZ_lt _) | omega | (exact xor_lt (by first | assumption | (exact gmul_lt _ _) | omega) (by first | assumption | (exact gmul_lt _ _) | omega)))); (focus (first | assumption | (exact gmul_lt _ _) | (exact ginv_lt _) | (exact gexp_lt _) | (exact gexpZ_lt _) | omega | (exact xor_lt (by first | assumption | (exact gmul_lt _ _) | omega) (by first | assumption | (exact gmul_lt _ _) | omega)))); (clear K); rintro e w' ⟨rfl, K0⟩; have K := hid K0; clear K0)
    go_wp2_with ((with_reducible refine wpList_unguard ?_ ?_); (focus rfl))
    (refine Calls.mono (ref_Mul a 0 ?_ ?_ _) ?_; (focus (first | assumption | (exact gmul_lt _ _) | (exact ginv_lt _) | (exact gexp_lt _) | (exact gexpZ_lt _) | omega | (exact xor_lt (by first | assumption | (exact gmul_lt _ _) | omega) (by first | assumption | (exact gmul_lt _ _) | omega)))); (focus (first | assumption | (exact gmul_lt _ _) | (exact ginv_lt _) | (exact gexp_lt _) | (exact gexpZ_lt _) | omega | (exact xor_lt (by first | assumption | (exact gmul_lt _ _) | omega) (by first | assumption | (exact gmul_lt _ _) | omega)))); rintro e w' ⟨rfl, rfl⟩)
    go_wp2_with ((with_reducible refine wpList_unguard ?_ ?_); (focus rfl))
    go_ret
    exact ⟨rfl, by (exact K.out.1)⟩
  · have h1 : ((b : Int) == 0) = false := by simp; omega
    have h1' : ((b : Int) != 0) = true := by simp; omega
    have hpos : 0 < b := by omega
    have hr : Hid (rinv b = ginv b) := rinv_pos b h0
    have hgi := ginv_lt b
    have hgai := gmul_lt a (ginv b)
    clear h0
    (go_enter Try.func6, Try.ntmps6; try simp only [List.append])
    go_wp2_with ((with_reducible refine wpList_unguard ?_ ?_); (focus rfl))
    (refine Calls.mono (law04_awake _) ?_; rintro e w1 ⟨rfl, hbA⟩; have HBA := hid hbA; clear hbA)
    go_wp2_with ((with_reducible refine wpList_unguard ?_ ?_); (focus rfl))
    (refine Calls.mono (gf_NewK _ _ HBA.out) ?_; rintro e w' ⟨f, rfl, K0⟩; have K := hid K0; clear K0)
    go_wp2_with ((with_reducible refine wpList_unguard ?_ ?_); (focus rfl))
    refine Calls.mono (ref_Inv b hb _) ?_; rintro e w' ⟨rfl, rfl⟩; rw [hr.out]
    go_wp2_with ((with_reducible refine wpList_unguard ?_ ?_); (focus rfl))
    (refine Calls.mono (gf_DivK _ _ a b _ _ _ K.out ?_ ?_ ?_ ?_ ?_) ?_; (rfl); (rfl); (focus (first | assumption | (exact gmul_lt _ _) | (exact ginv_lt _) | (exact gexp_lt _) | (exact gexpZ_lt _) | omega | (exact xor_lt (by first | assumption | (exact gmul_lt _ _) | omega) (by first | assumption | (exact gmul_lt _ _) | omega)))); (focus (first | assumption | (exact gmul_lt _ _) | (exact ginv_lt _) | (exact gexp_lt _) | (exact gexpZ_lt _) | omega | (exact xor_lt (by first | assumption | (exact gmul_lt _ _) | omega) (by first | assumption | (exact gmul_lt _ _) | omega)))); (focus (first | assumption | omega)); (clear K); rintro e w' ⟨rfl, K0⟩; have K := hid K0; clear K0)
    go_wp2_with ((with_reducible refine wpList_unguard ?_ ?_); (focus rfl))
    (refine Calls.mono (gf_InvK _ _ b _ _ K.out ?_ ?_ ?_) ?_; (rfl); (focus (first | assumption | (exact gmul_lt _ _) | (exact ginv_lt _) | (exact gexp_lt _) | (exact gexpZ_lt _) | omega | (exact xor_lt (by first | assumption | (exact gmul_lt _ _) | omega) (by first | assumption | (exact gmul_lt _ _) | omega)))); (focus (first | assumption | omega)); rintro e w' ⟨rfl, rfl⟩)
    go_wp2_with ((with_reducible refine wpList_unguard ?_ ?_); (focus rfl))
    (refine Calls.mono (ref_Mul a b ?_ ?_ _) ?_; (focus (first | assumption | (exact gmul_lt _ _) | (exact ginv_lt _) | (exact gexp_lt _) | (exact gexpZ_lt _) | omega | (exact xor_lt (by first | assumption | (exact gmul_lt _ _) | omega) (by first | assumption | (exact gmul_lt _ _) | omega)))); (focus (first | assumption | (exact gmul_lt _ _) | (exact ginv_lt _) | (exact gexp_lt _) | (exact gexpZ_lt _) | omega | (exact xor_lt (by first | assumption | (exact gmul_lt _ _) | omega) (by first | assumption | (exact gmul_lt _ _) | omega)))); rintro e w' ⟨rfl, rfl⟩)
    go_wp2_with ((with_reducible refine wpList_unguard ?_ ?_); (focus rfl))
    (refine Calls.mono (gf_Mul2K _ _ _ a b _ _ _ K.out ?_ ?_ ?_ ?_ ?_ _) ?_; (focus (first | rfl | (simp; done))); (rfl); (rfl); (focus (first | assumption | (exact gmul_lt _ _) | (exact ginv_lt _) | (exact gexp_lt _) | (exact gexpZ_lt _) | omega | (exact xor_lt (by first | assumption | (exact gmul_lt _ _) | omega) (by first | assumption | (exact gmul_lt _ _) | omega)))); (focus (first | assumption | (exact gmul_lt _ _) | (exact ginv_lt _) | (exact gexp_lt _) | (exact gexpZ_lt _) | omega | (exact xor_lt (by first | assumption | (exact gmul_lt _ _) | omega) (by first | assumption | (exact gmul_lt _ _) | omega)))); (clear K); rintro e w' ⟨rfl, K0⟩; have K := hid K0; clear K0)
    go_wp2_with ((with_reducible refine wpList_unguard ?_ ?_); (focus rfl))
    (refine Calls.mono (gf_Mul3K _ _ _ a b c _ _ _ _ K.out ?_ ?_ ?_ ?_ ?_ ?_ ?_ _) ?_; (focus (first | rfl | (simp; done))); (rfl); (rfl); (rfl); (focus (first | assumption | (exact gmul_lt _ _) | (exact ginv_lt _) | (exact gexp_lt _) | (exact gexpZ_lt _) | omega | (exact xor_lt (by first | assumption | (exact gmul_lt _ _) | omega) (by first | assumption | (exact gmul_lt _ _) | omega)))); (focus (first | assumption | (exact gmul_lt _ _) | (exact ginv_lt _) | (exact gexp_lt _) | (exact gexpZ_lt _) | omega | (exact xor_lt (by first | assumption | (exact gmul_lt _ _) | omega) (by first | assumption | (exact gmul_lt _ _) | omega)))); (focus (first | assumption | (exact gmul_lt _ _) | (exact ginv_lt _) | (exact gexp_lt _) | (exact gexpZ_lt _) | omega | (exact xor_lt (by first | assumption | (exact gmul_lt _ _) | omega) (by first | assumption | (exact gmul_lt _ _) | omega)))); (clear K); rintro e w' ⟨rfl, K0⟩; have K := hid K0; clear K0)
    go_wp2_with ((with_reducible refine wpList_unguard ?_ ?_); (focus rfl))
    (refine Calls.mono (ref_Mul (gmul a b) c ?_ ?_ _) ?_; (focus (first | assumption | (exact gmul_lt _ _) | (exact ginv_lt _) | (exact gexp_lt _) | (exact gexpZ_lt _) | omega | (exact xor_lt (by first | assumption | (exact gmul_lt _ _) | omega) (by first | assumption | (exact gmul_lt _ _) | omega)))); (focus (first | assumption | (exact gmul_lt _ _) | (exact ginv_lt _) | (exact gexp_lt _) | (exact gexpZ_lt _) | omega | (exact xor_lt (by first | assumption | (exact gmul_lt _ _) | omega) (by first | assumption | (exact gmul_lt _ _) | omega)))); rintro e w' ⟨rfl, rfl⟩)
    go_wp2_with ((with_reducible refine wpList_unguard ?_ ?_); (focus rfl))
    (refine Calls.mono (gf_Add3K _ _ _ a b c _ _ _ _ K.out ?_ ?_ ?_ ?_ ?_ ?_ ?_ _) ?_; (focus (first | rfl | (simp; done))); (rfl); (rfl); (rfl); (focus (first | assumption | (exact gmul_lt _ _) | (exact ginv_lt _) | (exact gexp_lt _) | (exact gexpZ_lt _) | omega | (exact xor_lt (by first | assumption | (exact gmul_lt _ _) | omega) (by first | assumption | (exact gmul_lt _ _) | omega)))); (focus (first | assumption | (exact gmul_lt _ _) | (exact ginv_lt _) | (exact gexp_lt _) | (exact gexpZ_lt _) | omega | (exact xor_lt (by first | assumption | (exact gmul_lt _ _) | omega) (by first | assumption | (exact gmul_lt _ _) | omega)))); (focus (first | assumption | (exact gmul_lt _ _) | (exact ginv_lt _) | (exact gexp_lt _) | (exact gexpZ_lt _) | omega | (exact xor_lt (by first | assumption | (exact gmul_lt _ _) | omega) (by first | assumption | (exact gmul_lt _ _) | omega)))); (clear K); rintro e w' ⟨rfl, K0⟩; have K := hid K0; clear K0)
    go_wp2_with ((with_reducible refine wpList_unguard ?_ ?_); (focus rfl))
    (refine Calls.mono (ref_Mul a (ginv b) ?_ ?_ _) ?_; (focus (first | assumption | (exact gmul_lt _ _) | (exact ginv_lt _) | (exact gexp_lt _) | (exact gexpZ_lt _) | omega | (exact xor_lt (by first | assumption | (exact gmul_lt _ _) | omega) (by first | assumption | (exact gmul_lt _ _) | omega)))); (focus (first | assumption | (exact gmul_lt _ _) | (exact ginv_lt _) | (exact gexp_lt _) | (exact gexpZ_lt _) | omega | (exact xor_lt (by first | assumption | (exact gmul_lt _ _) | omega) (by first | assumption | (exact gmul_lt _ _) | omega)))); rintro e w' ⟨rfl, rfl⟩)
    go_wp2_with ((with_reducible refine wpList_unguard ?_ ?_); (focus rfl))
    go_ret
    exact ⟨rfl, by (exact K.out.1)⟩

theorem log_mul (a b : Nat) (ha : a ≠ 0) (hb : b ≠ 0) : glog (gmul a b) = (glog a + glog b) % 255 := by
  unfold gmul; rw [if_neg (by omega), glog_gexp]
theorem div_mul (a b : Nat) (ha : a < 256) (hb : b ≠ 0) : gmul (gmul a (ginv b)) b = a := by
  rw [gmul_assoc, gmul_comm (ginv b) b, gmul_ginv b hb, gmul_one a ha]
set_option maxHeartbeats 1000000 in
theorem gfDivides.walk (a0 : Int) (a1 : Int) (w : World) (w0 : (Lit.int .u8 a0).wf = true) (w1 : (Lit.int .u8 a1).wf = true) :
    Calls Try.prog 7 #[.int .u8 a0, .int .u8 a1] w fun e w' => e = .returned (.bool true) ∧ Below w.heap.size w w' := by
  obtain ⟨a, ha, rfl⟩ := u8_of w0
  obtain ⟨b, hb, rfl⟩ := u8_of w1
  clear w0 w1
  by_cases h0 : b = 0
  · subst h0
    (go_enter Try.func7, Try.ntmps7; try simp only [List.append])
    go_wp2_with ((with_reducible refine wpList_unguard ?_ ?_); (focus rfl))
    (refine Calls.mono (law04_awake _) ?_; rintro e w1 ⟨rfl, hbA⟩; have HBA := hid hbA; clear hbA)
    go_wp2_with ((with_reducible refine wpList_unguard ?_ ?_); (focus rfl))
    (refine Calls.mono (gf_NewK _ _ HBA.out) ?_; rintro e w' ⟨f, rfl, K0⟩; have K := hid K0; clear K0)
    go_wp2_with ((with_reducible refine wpList_unguard ?_ ?_); (focus rfl))
    go_call gf_Div_zero _ _ _ as e w' ⟨rfl, rfl⟩
    go_wp2_with ((with_reducible refine wpList_unguard ?_ ?_); (focus rfl))
    go_ret
    exact ⟨rfl, by (exact K.out.1)⟩
  · have h1 : ((b : Int) == 0) = false := by simp; omega
    have hpos : 0 < b := by omega
    have hdm : gmul (gmul a (ginv b)) b = a := div_mul a b ha h0
    have hlb := glog_lt b
    have hmn := gmul_ne (a := a) (b := b)
    by_cases ha0 : a = 0
    · subst ha0
      have e4 : gmul 0 b = 0 := zero_gmul b
      have e5 : gmul 0 (ginv b) = 0 := zero_gmul _
      clear h0 hmn
      (go_enter Try.func7, Try.ntmps7; try simp only [List.append])
      go_wp2_with ((with_reducible refine wpList_unguard ?_ ?_); (focus rfl))
      (refine Calls.mono (law04_awake _) ?_; rintro e w1 ⟨rfl, hbA⟩; have HBA := hid hbA; clear hbA)
      go_wp2_with ((with_reducible refine wpList_unguard ?_ ?_); (focus rfl))
      (refine Calls.mono (gf_NewK _ _ HBA.out) ?_; rintro e w' ⟨f, rfl, K0⟩; have K := hid K0; clear K0)
      go_wp2_with ((with_reducible refine wpList_unguard ?_ ?_); (focus rfl))
      (refine Calls.mono (gf_DivK _ _ 0 b _ _ _ K.out ?_ ?_ ?_ ?_ ?_) ?_; (rfl); (rfl); (focus (first | assumption | (exact gmul_lt _ _) | (exact ginv_lt _) | (exact gexp_lt _) | (exact gexpZ_lt _) | omega | (exact xor_lt (by first | assumption | (exact gmul_lt _ _) | omega) (by first | assumption | (exact gmul_lt _ _) | omega)))); (focus (first | assumption | (exact gmul_lt _ _) | (exact ginv_lt _) | (exact gexp_lt _) | (exact gexpZ_lt _) | omega | (exact xor_lt (by first | assumption | (exact gmul_lt _ _) | omega) (by first | assumption | (exact gmul_lt _ _) | omega)))); (focus (first | assumption | omega)); (clear K); rintro e w' ⟨rfl, K0⟩; have K := hid K0; clear K0)
      go_wp2_with ((with_reducible refine wpList_unguard ?_ ?_); (focus rfl))
      (refine Calls.mono (gf_Mul2K _ _ _ 0 b _ _ _ K.out ?_ ?_ ?_ ?_ ?_ _) ?_; (focus (first | rfl | (simp; done))); (rfl); (rfl); (focus (first | assumption | (exact gmul_lt _ _) | (exact ginv_lt _) | (exact gexp_lt _) | (exact gexpZ_lt _) | omega | (exact xor_lt (by first | assumption | (exact gmul_lt _ _) | omega) (by first | assumption | (exact gmul_lt _ _) | omega)))); (focus (first | assumption | (exact gmul_lt _ _) | (exact ginv_lt _) | (exact gexp_lt _) | (exact gexpZ_lt _) | omega | (exact xor_lt (by first | assumption | (exact gmul_lt _ _) | omega) (by first | assumption | (exact gmul_lt _ _) | omega)))); (clear K); rintro e w' ⟨rfl, K0⟩; have K := hid K0; clear K0)
      go_wp2_with ((with_reducible refine wpList_unguard ?_ ?_); (focus rfl))
      go_call gf_Log_zero _ _ as e w' ⟨rfl, rfl⟩
      go_wp2_with ((with_reducible refine wpList_unguard ?_ ?_); (focus rfl))
      (refine Calls.mono (gf_LogK _ _ b _ _ K.out ?_ ?_ ?_) ?_; (rfl); (focus (first | assumption | (exact gmul_lt _ _) | (exact ginv_lt _) | (exact gexp_lt _) | (exact gexpZ_lt _) | omega | (exact xor_lt (by first | assumption | (exact gmul_lt _ _) | omega) (by first | assumption | (exact gmul_lt _ _) | omega)))); (focus (first | assumption | omega)); rintro e w' ⟨rfl, rfl⟩)
      go_wp2_with ((with_reducible refine wpList_unguard ?_ ?_); (focus rfl))
      (refine Calls.mono (gf_Mul2K _ _ _ 0 b _ _ _ K.out ?_ ?_ ?_ ?_ ?_ _) ?_; (focus (first | rfl | (simp; done))); (rfl); (rfl); (focus (first | assumption | (exact gmul_lt _ _) | (exact ginv_lt _) | (exact gexp_lt _) | (exact gexpZ_lt _) | omega | (exact xor_lt (by first | assumption | (exact gmul_lt _ _) | omega) (by first | assumption | (exact gmul_lt _ _) | omega)))); (focus (first | assumption | (exact gmul_lt _ _) | (exact ginv_lt _) | (exact gexp_lt _) | (exact gexpZ_lt _) | omega | (exact xor_lt (by first | assumption | (exact gmul_lt _ _) | omega) (by first | assumption | (exact gmul_lt _ _) | omega)))); (clear K); rintro e w' ⟨rfl, K0⟩; have K := hid K0; clear K0)
      go_wp2_with ((with_reducible refine wpList_unguard ?_ ?_); (focus rfl))
      go_call gf_Log_zero _ _ as e w' ⟨rfl, rfl⟩
      go_wp2_with ((with_reducible refine wpList_unguard ?_ ?_); (focus rfl))
      go_ret
      exact ⟨rfl, by (exact K.out.1)⟩
    · have hapos : 0 < a := by omega
      have h2 : ((a : Int) == 0) = false := by simp; omega
      have hml : Hid ((glog (gmul a b) : Int) = ((glog a : Int) + glog b) % 255) := by
        show _ = _; rw [log_mul a b ha0 h0]; omega
      have hla := glog_lt a
      have hmpos : 0 < gmul a b := by have := hmn ha0 h0; omega
      clear h0 ha0 hmn
      (go_enter Try.func7, Try.ntmps7; try simp only [List.append])
      go_wp2_with ((with_reducible refine wpList_unguard ?_ ?_); (focus rfl))
      (refine Calls.mono (law04_awake _) ?_; rintro e w1 ⟨rfl, hbA⟩; have HBA := hid hbA; clear hbA)
      go_wp2_with ((with_reducible refine wpList_unguard ?_ ?_); (focus rfl))
      (refine Calls.mono (gf_NewK _ _ HBA.out) ?_; rintro e w' ⟨f, rfl, K0⟩; have K := hid K0; clear K0)
      go_wp2_with ((with_reducible refine wpList_unguard ?_ ?_); (focus rfl))
      (refine Calls.mono (gf_DivK _ _ a b _ _ _ K.out ?_ ?_ ?_ ?_ ?_) ?_; (rfl); (rfl); (focus (first | assumption | (exact gmul_lt _ _) | (exact ginv_lt _) | (exact gexp_lt _) | (exact gexpZ_lt _) | omega | (exact xor_lt (by first | assumption | (exact gmul_lt _ _) | omega) (by first | assumption | (exact gmul_lt _ _) | omega)))); (focus (first | assumption | (exact gmul_lt _ _) | (exact ginv_lt _) | (exact gexp_lt _) | (exact gexpZ_lt _) | omega | (exact xor_lt (by first | assumption | (exact gmul_lt _ _) | omega) (by first | assumption | (exact gmul_lt _ _) | omega)))); (focus (first | assumption | omega)); (clear K); rintro e w' ⟨rfl, K0⟩; have K := hid K0; clear K0)
      go_wp2_with ((with_reducible refine wpList_unguard ?_ ?_); (focus rfl))
      (refine Calls.mono (gf_Mul2K _ _ _ (gmul a (ginv b)) b _ _ _ K.out ?_ ?_ ?_ ?_ ?_ _) ?_; (focus (first | rfl | (simp; done))); (rfl); (rfl); (focus (first | assumption | (exact gmul_lt _ _) | (exact ginv_lt _) | (exact gexp_lt _) | (exact gexpZ_lt _) | omega | (exact xor_lt (by first | assumption | (exact gmul_lt _ _) | omega) (by first | assumption | (exact gmul_lt _ _) | omega)))); (focus (first | assumption | (exact gmul_lt _ _) | (exact ginv_lt _) | (exact gexp_lt _) | (exact gexpZ_lt _) | omega | (exact xor_lt (by first | assumption | (exact gmul_lt _ _) | omega) (by first | assumption | (exact gmul_lt _ _) | omega)))); (clear K); rintro e w' ⟨rfl, K0⟩; have K := hid K0; clear K0)
      go_wp2_with ((with_reducible refine wpList_unguard ?_ ?_); (focus rfl))
      (refine Calls.mono (gf_LogK _ _ a _ _ K.out ?_ ?_ ?_) ?_; (rfl); (focus (first | assumption | (exact gmul_lt _ _) | (exact ginv_lt _) | (exact gexp_lt _) | (exact gexpZ_lt _) | omega | (exact xor_lt (by first | assumption | (exact gmul_lt _ _) | omega) (by first | assumption | (exact gmul_lt _ _) | omega)))); (focus (first | assumption | omega)); rintro e w' ⟨rfl, rfl⟩)
      go_wp2_with ((with_reducible refine wpList_unguard ?_ ?_); (focus rfl))
      (refine Calls.mono (gf_LogK _ _ b _ _ K.out ?_ ?_ ?_) ?_; (rfl); (focus (first | assumption | (exact gmul_lt _ _) | (exact ginv_lt _) | (exact gexp_lt _) | (exact gexpZ_lt _) | omega | (exact xor_lt (by first | assumption | (exact gmul_lt _ _) | omega) (by first | assumption | (exact gmul_lt _ _) | omega)))); (focus (first | assumption | omega)); rintro e w' ⟨rfl, rfl⟩)
      go_wp2_with ((with_reducible refine wpList_unguard ?_ ?_); (focus rfl))
      (refine Calls.mono (gf_Mul2K _ _ _ a b _ _ _ K.out ?_ ?_ ?_ ?_ ?_ _) ?_; (focus (first | rfl | (simp; done))); (rfl); (rfl); (focus (first | assumption | (exact gmul_lt _ _) | (exact ginv_lt _) | (exact gexp_lt _) | (exact gexpZ_lt _) | omega | (exact xor_lt (by first | assumption | (exact gmul_lt _ _) | omega) (by first | assumption | (exact gmul_lt _ _) | omega)))); (focus (first | assumption | (exact gmul_lt _ _) | (exact ginv_lt _) | (exact gexp_lt _) | (exact gexpZ_lt _) | omega | (exact xor_lt (by first | assumption | (exact gmul_lt _ _) | omega) (by first | assumption | (exact gmul_lt _ _) | omega)))); (clear K); rintro e w' ⟨rfl, K0⟩; have K := hid K0; clear K0)
      go_wp2_with ((with_reducible refine wpList_unguard ?_ ?_); (focus rfl))
      (refine Calls.mono (gf_LogK _ _ (gmul a b) _ _ K.out ?_ ?_ ?_) ?_; (rfl); (focus (first | assumption | (exact gmul_lt _ _) | (exact ginv_lt _) | (exact gexp_lt _) | (exact gexpZ_lt _) | omega | (exact xor_lt (by first | assumption | (exact gmul_lt _ _) | omega) (by first | assumption | (exact gmul_lt _ _) | omega)))); (focus (first | assumption | omega)); rintro e w' ⟨rfl, rfl⟩)
      rw [hml.out]
      go_wp2_with ((with_reducible refine wpList_unguard ?_ ?_); (focus rfl))
      go_ret
      exact ⟨rfl, by (exact K.out.1)⟩
end Go.Proofs.Ytbghfhkhnmmcdaa
