/-
  GfPowers, walked: powers and logs are what the document says; a power by a sum is the product of powers.
-/
import Derived.Test.YtbghfhkhnmmcdaaGf3
import Derived.Test.YtbghfhkhnmmcdaaGf4
namespace Go.Proofs.Ytbghfhkhnmmcdaa
open Go.RowKit Tri

theorem gexpZ_add (m : Int) (k : Nat) : gexpZ (m + k) = gmul (gexpZ m) (gexp k) := by
  unfold gexpZ
  rw [gmul_gexp]
  rw [← gexp_mod (_ + k), ← gexp_mod ((m + k) % 255).toNat]
  congr 1
  omega
theorem gpow_exp (a k : Nat) (n : Int) (h : n % 255 = k) : gpow a n = if n = 0 then 1 else if a = 0 then 0 else gexp (glog a * k) := by
  unfold gpow
  split
  · rfl
  split
  · rfl
  rw [← gexpZ_nat]
  apply gexpZ_congr
  rw [Int.mul_emod, h]
  have := glog_lt a
  simp [Int.mul_emod]
theorem emod_of (n : Int) (k : Nat) (h : n % 255 = k) : n.tmod 255 = k ∨ n.tmod 255 = (k : Int) - 255 ∧ 0 < k := by
  have h1 : n.tmod 255 = if 0 ≤ n then n % 255 else -((-n) % 255) := by
    split
    · exact Int.tmod_eq_emod_of_nonneg (by omega)
    · have : n = -(-n) := by omega
      rw [this, Int.neg_tmod, Int.tmod_eq_emod_of_nonneg (by omega), Int.neg_neg]
  rw [h1]
  split <;> omega

set_option maxHeartbeats 2000000 in
set_option maxRecDepth 100000 in
theorem powers_some (a k : Nat) (n m : Int) (w : World) (ha : a < 256) (ha0 : 0 < a) (hk : k < 255) (hm1 : -32768 ≤ m) (hm2 : m ≤ 32767) (hn : Hid (n % 255 = k)) (ht : n.tmod 255 = k ∨ n.tmod 255 = (k : Int) - 255 ∧ 0 < k) :
    Calls Try.prog 5 #[.int .u8 a, .int .i64 n, .int .i16 m] w fun e w' => e = .returned (.bool true) ∧ Below w.heap.size w w' := by
  have e1 : gexpZ (m + k) = gmul (gexpZ m) (gexp k) := gexpZ_add m k
  have e2 : gexpZ n = gexp k := by unfold gexpZ; rw [hn.out, Int.toNat_natCast]
  have e3 : gexpZ (k : Int) = gexp k := gexpZ_nat k
  have e4 : gexp (glog a) = a := gexp_glog a (by omega) ha
  have e5 : Hid (gpow a n = gexp (glog a * k)) := by
    show gpow a n = _
    rw [gpow_exp a k n hn.out]
    split
    · rename_i h
      have : k = 0 := by have := hn.out; omega
      subst this; rw [Nat.mul_zero, gexp_zero]
    · rw [if_neg (by omega)]
  have h2 : ((a : Int) == 0) = false := by simp; omega
  have hl := glog_lt a
  have hgk := gexp_lt k
  have hgm := gexpZ_lt m
  have hla : glog a < 9223372036854775808 := by omega
  rcases ht with ht | ⟨ht, hkp⟩
  all_goals
    (go_enter Try.func5, Try.ntmps5; try simp only [List.append])
    go_wp2_with ((with_reducible refine wpList_unguard ?_ ?_); (focus rfl))
    (refine Calls.mono (law04_awake _) ?_; rintro e w1 ⟨rfl, hbA⟩; have HBA := hid hbA; clear hbA)
    go_wp2_with ((with_reducible refine wpList_unguard ?_ ?_); (focus rfl))
    (refine Calls.mono (gf_NewK _ _ HBA.out) ?_; rintro e w' ⟨f, rfl, K0⟩; have K := hid K0; clear K0)
    go_wp2_with ((with_reducible refine wpList_unguard ?_ ?_); (focus rfl))
    (refine Calls.mono (gf_Exp _ _ _ K.out.2) ?_; rintro e w' ⟨rfl, rfl⟩)
    go_wp2_with ((with_reducible refine wpList_unguard ?_ ?_); (focus rfl))
    refine Calls.mono (ref_Exp k (by omega) _) ?_; rintro e w' ⟨rfl, rfl⟩
    go_wp2_with ((with_reducible refine wpList_unguard ?_ ?_); (focus rfl))
    (refine Calls.mono (gf_Exp _ _ _ K.out.2) ?_; rintro e w' ⟨rfl, rfl⟩)
    go_wp2_with ((with_reducible refine wpList_unguard ?_ ?_); (focus rfl))
    (refine Calls.mono (gf_Exp _ _ _ K.out.2) ?_; rintro e w' ⟨rfl, rfl⟩)
    go_wp2_with ((with_reducible refine wpList_unguard ?_ ?_); (focus rfl))
    (refine Calls.mono (gf_Exp _ _ _ K.out.2) ?_; rintro e w' ⟨rfl, rfl⟩)
    go_wp2_with ((with_reducible refine wpList_unguard ?_ ?_); (focus rfl))
    (refine Calls.mono (gf_Mul2K _ _ _ (gexpZ m) (gexp k) _ _ _ K.out ?_ ?_ ?_ ?_ ?_ _) ?_; (focus (first | rfl | (simp; done))); (rfl); (rfl); (focus (first | assumption | (exact gmul_lt _ _) | (exact ginv_lt _) | (exact gexp_lt _) | (exact gexpZ_lt _) | omega | (exact xor_lt (by first | assumption | (exact gmul_lt _ _) | omega) (by first | assumption | (exact gmul_lt _ _) | omega)))); (focus (first | assumption | (exact gmul_lt _ _) | (exact ginv_lt _) | (exact gexp_lt _) | (exact gexpZ_lt _) | omega | (exact xor_lt (by first | assumption | (exact gmul_lt _ _) | omega) (by first | assumption | (exact gmul_lt _ _) | omega)))); (clear K); rintro e w' ⟨rfl, K0⟩; have K := hid K0; clear K0)
    go_wp2_with ((with_reducible refine wpList_unguard ?_ ?_); (focus rfl))
    (refine Calls.mono (gf_LogK _ _ a _ _ K.out ?_ ?_ ?_) ?_; (rfl); (focus (first | assumption | (exact gmul_lt _ _) | (exact ginv_lt _) | (exact gexp_lt _) | (exact gexpZ_lt _) | omega | (exact xor_lt (by first | assumption | (exact gmul_lt _ _) | omega) (by first | assumption | (exact gmul_lt _ _) | omega)))); (focus (first | assumption | omega)); rintro e w' ⟨rfl, rfl⟩)
    go_wp2_with ((with_reducible refine wpList_unguard ?_ ?_); (focus rfl))
    refine Calls.mono (ref_Exp (glog a) hla _) ?_; rintro e w' ⟨rfl, rfl⟩
    go_wp2_with ((with_reducible refine wpList_unguard ?_ ?_); (focus rfl))
    go_loop [11, 12] (fun p i => ∃ j : Nat, j ≤ k ∧ i = .int .i64 j ∧ p = .int .i64 (gexp (glog a * j))) (fun _ i => k - (intOf i).toNat)
    case atStart => exact ⟨0, by omega, rfl, by rw [Nat.mul_zero, gexp_zero]; rfl⟩
    case round =>
      obtain ⟨j, hj, rfl, rfl⟩ := hrel
      clear e1 e2 e3
      have hg := gexp_lt (glog a * j)
      have hnx : Hid (gmul (gexp (glog a * j)) a = gexp (glog a * (j + 1))) := by
        show _ = _
        conv => lhs; rw [← e4]
        rw [gmul_gexp]
        rw [show glog (gexp (glog a)) * j + glog a = glog a * (j + 1) from by rw [e4, Nat.mul_add, Nat.mul_one]]
      generalize hG : gexp (glog a * j) = g at *
      by_cases hlt : j < k
      · clear hG e4
        go_wp2_with ((with_reducible refine wpList_unguard ?_ ?_); (focus rfl))
        (refine Calls.mono (ref_Mul g a ?_ ?_ _) ?_; (focus (first | assumption | (exact gmul_lt _ _) | (exact ginv_lt _) | (exact gexp_lt _) | (exact gexpZ_lt _) | omega | (exact xor_lt (by first | assumption | (exact gmul_lt _ _) | omega) (by first | assumption | (exact gmul_lt _ _) | omega)))); (focus (first | assumption | (exact gmul_lt _ _) | (exact ginv_lt _) | (exact gexp_lt _) | (exact gexpZ_lt _) | omega | (exact xor_lt (by first | assumption | (exact gmul_lt _ _) | omega) (by first | assumption | (exact gmul_lt _ _) | omega)))); rintro e w' ⟨rfl, rfl⟩)
        go_wp2_with ((with_reducible refine wpList_unguard ?_ ?_); (focus rfl))
        go_round
        case rel => exact ⟨j + 1, by omega, by go_num, by rw [hnx.out]⟩
        case measure => simp [intOf]; omega
      · have hjk : Hid (gpow a n = g) := by show gpow a n = g; rw [e5.out, ← hG]; congr 2; omega
        clear hG e4
        go_wp2_with ((with_reducible refine wpList_unguard ?_ ?_); (focus rfl))
        (refine Calls.mono (gf_PowK _ _ a _ _ _ K.out ?_ ?_) ?_; (rfl); (focus (first | assumption | (exact gmul_lt _ _) | (exact ginv_lt _) | (exact gexp_lt _) | (exact gexpZ_lt _) | omega | (exact xor_lt (by first | assumption | (exact gmul_lt _ _) | omega) (by first | assumption | (exact gmul_lt _ _) | omega)))); rintro e w' ⟨rfl, rfl⟩)
        rw [hjk.out]
        go_wp2_with ((with_reducible refine wpList_unguard ?_ ?_); (focus rfl))
        go_ret
        exact ⟨rfl, by (exact K.out.1)⟩

set_option maxHeartbeats 2000000 in
set_option maxRecDepth 100000 in
theorem powers_zero (k : Nat) (n m : Int) (w : World) (hk : k < 255) (hm1 : -32768 ≤ m) (hm2 : m ≤ 32767) (hn : Hid (n % 255 = k)) (ht : n.tmod 255 = k ∨ n.tmod 255 = (k : Int) - 255 ∧ 0 < k)
    (h0 : n = 0 ∨ (n == 0) = false) :
    Calls Try.prog 5 #[.int .u8 0, .int .i64 n, .int .i16 m] w fun e w' => e = .returned (.bool true) ∧ Below w.heap.size w w' := by
  have e1 : gexpZ (m + k) = gmul (gexpZ m) (gexp k) := gexpZ_add m k
  have e2 : gexpZ n = gexp k := by unfold gexpZ; rw [hn.out, Int.toNat_natCast]
  have e3 : gexpZ (k : Int) = gexp k := gexpZ_nat k
  have e5 : gpow 0 0 = 1 := rfl
  have e6 : n = 0 ∨ gpow 0 n = 0 := by
    rcases h0 with h | h
    · exact .inl h
    · have : n ≠ 0 := by simpa using h
      exact .inr (by unfold gpow; rw [if_neg this, if_pos rfl])
  have hgk := gexp_lt k
  have hgm := gexpZ_lt m
  rcases h0 with h0 | h0
  · subst h0
    have hk0 : k = 0 := by have := hn.out; omega
    subst hk0
    have ht' : (0 : Int).tmod 255 = 0 := rfl
    clear ht e6 hn e2 e3
    have e2 : gexpZ 0 = gexp 0 := rfl
    simp only [Int.natCast_zero, Int.add_zero] at e1
    replace e1 := e1.symm
    (go_enter Try.func5, Try.ntmps5; try simp only [List.append])
    go_wp2_with ((with_reducible refine wpList_unguard ?_ ?_); (focus rfl))
    (refine Calls.mono (law04_awake _) ?_; rintro e w1 ⟨rfl, hbA⟩; have HBA := hid hbA; clear hbA)
    go_wp2_with ((with_reducible refine wpList_unguard ?_ ?_); (focus rfl))
    (refine Calls.mono (gf_NewK _ _ HBA.out) ?_; rintro e w' ⟨f, rfl, K0⟩; have K := hid K0; clear K0)
    go_wp2_with ((with_reducible refine wpList_unguard ?_ ?_); (focus rfl))
    (refine Calls.mono (gf_Exp _ _ _ K.out.2) ?_; rintro e w' ⟨rfl, rfl⟩)
    go_wp2_with ((with_reducible refine wpList_unguard ?_ ?_); (focus rfl))
    refine Calls.mono (ref_Exp 0 (by omega) _) ?_; rintro e w' ⟨rfl, rfl⟩
    go_wp2_with ((with_reducible refine wpList_unguard ?_ ?_); (focus rfl))
    (refine Calls.mono (gf_Exp _ _ _ K.out.2) ?_; rintro e w' ⟨rfl, rfl⟩)
    go_wp2_with ((with_reducible refine wpList_unguard ?_ ?_); (focus rfl))
    (refine Calls.mono (gf_Exp _ _ _ K.out.2) ?_; rintro e w' ⟨rfl, rfl⟩)
    go_wp2_with ((with_reducible refine wpList_unguard ?_ ?_); (focus rfl))
    (refine Calls.mono (gf_Exp _ _ _ K.out.2) ?_; rintro e w' ⟨rfl, rfl⟩)
    go_wp2_with ((with_reducible refine wpList_unguard ?_ ?_); (focus rfl))
    (refine Calls.mono (gf_Mul2K _ _ _ (gexpZ m) (gexp 0) _ _ _ K.out ?_ ?_ ?_ ?_ ?_ _) ?_; (focus (first | rfl | (simp; done))); (rfl); (rfl); (focus (first | assumption | (exact gmul_lt _ _) | (exact ginv_lt _) | (exact gexp_lt _) | (exact gexpZ_lt _) | omega | (exact xor_lt (by first | assumption | (exact gmul_lt _ _) | omega) (by first | assumption | (exact gmul_lt _ _) | omega)))); (focus (first | assumption | (exact gmul_lt _ _) | (exact ginv_lt _) | (exact gexp_lt _) | (exact gexpZ_lt _) | omega | (exact xor_lt (by first | assumption | (exact gmul_lt _ _) | omega) (by first | assumption | (exact gmul_lt _ _) | omega)))); (clear K); rintro e w' ⟨rfl, K0⟩; have K := hid K0; clear K0)
    go_wp2_with ((with_reducible refine wpList_unguard ?_ ?_); (focus rfl))
    go_call gf_Log_zero _ _ as e w' ⟨rfl, rfl⟩
    go_wp2_with ((with_reducible refine wpList_unguard ?_ ?_); (focus rfl))
    (refine Calls.mono (gf_PowK _ _ 0 _ _ _ K.out ?_ ?_) ?_; (rfl); (focus (first | assumption | (exact gmul_lt _ _) | (exact ginv_lt _) | (exact gexp_lt _) | (exact gexpZ_lt _) | omega | (exact xor_lt (by first | assumption | (exact gmul_lt _ _) | omega) (by first | assumption | (exact gmul_lt _ _) | omega)))); rintro e w' ⟨rfl, rfl⟩)
    go_wp2_with ((with_reducible refine wpList_unguard ?_ ?_); (focus rfl))
    go_ret
    exact ⟨rfl, by (exact K.out.1)⟩
  · have e7 : gpow 0 n = 0 := by rcases e6 with h | h
                                 · rw [h] at h0; simp at h0
                                 · exact h
    clear e6
    rcases ht with ht | ⟨ht, hkp⟩
    all_goals
      (go_enter Try.func5, Try.ntmps5; try simp only [List.append])
      go_wp2_with ((with_reducible refine wpList_unguard ?_ ?_); (focus rfl))
      (refine Calls.mono (law04_awake _) ?_; rintro e w1 ⟨rfl, hbA⟩; have HBA := hid hbA; clear hbA)
      go_wp2_with ((with_reducible refine wpList_unguard ?_ ?_); (focus rfl))
      (refine Calls.mono (gf_NewK _ _ HBA.out) ?_; rintro e w' ⟨f, rfl, K0⟩; have K := hid K0; clear K0)
      go_wp2_with ((with_reducible refine wpList_unguard ?_ ?_); (focus rfl))
      (refine Calls.mono (gf_Exp _ _ _ K.out.2) ?_; rintro e w' ⟨rfl, rfl⟩)
      go_wp2_with ((with_reducible refine wpList_unguard ?_ ?_); (focus rfl))
      refine Calls.mono (ref_Exp k (by omega) _) ?_; rintro e w' ⟨rfl, rfl⟩
      go_wp2_with ((with_reducible refine wpList_unguard ?_ ?_); (focus rfl))
      (refine Calls.mono (gf_Exp _ _ _ K.out.2) ?_; rintro e w' ⟨rfl, rfl⟩)
      go_wp2_with ((with_reducible refine wpList_unguard ?_ ?_); (focus rfl))
      (refine Calls.mono (gf_Exp _ _ _ K.out.2) ?_; rintro e w' ⟨rfl, rfl⟩)
      go_wp2_with ((with_reducible refine wpList_unguard ?_ ?_); (focus rfl))
      (refine Calls.mono (gf_Exp _ _ _ K.out.2) ?_; rintro e w' ⟨rfl, rfl⟩)
      go_wp2_with ((with_reducible refine wpList_unguard ?_ ?_); (focus rfl))
      (refine Calls.mono (gf_Mul2K _ _ _ (gexpZ m) (gexp k) _ _ _ K.out ?_ ?_ ?_ ?_ ?_ _) ?_; (focus (first | rfl | (simp; done))); (rfl); (rfl); (focus (first | assumption | (exact gmul_lt _ _) | (exact ginv_lt _) | (exact gexp_lt _) | (exact gexpZ_lt _) | omega | (exact xor_lt (by first | assumption | (exact gmul_lt _ _) | omega) (by first | assumption | (exact gmul_lt _ _) | omega)))); (focus (first | assumption | (exact gmul_lt _ _) | (exact ginv_lt _) | (exact gexp_lt _) | (exact gexpZ_lt _) | omega | (exact xor_lt (by first | assumption | (exact gmul_lt _ _) | omega) (by first | assumption | (exact gmul_lt _ _) | omega)))); (clear K); rintro e w' ⟨rfl, K0⟩; have K := hid K0; clear K0)
      go_wp2_with ((with_reducible refine wpList_unguard ?_ ?_); (focus rfl))
      go_call gf_Log_zero _ _ as e w' ⟨rfl, rfl⟩
      go_wp2_with ((with_reducible refine wpList_unguard ?_ ?_); (focus rfl))
      (refine Calls.mono (gf_PowK _ _ 0 _ _ _ K.out ?_ ?_) ?_; (rfl); (focus (first | assumption | (exact gmul_lt _ _) | (exact ginv_lt _) | (exact gexp_lt _) | (exact gexpZ_lt _) | omega | (exact xor_lt (by first | assumption | (exact gmul_lt _ _) | omega) (by first | assumption | (exact gmul_lt _ _) | omega)))); rintro e w' ⟨rfl, rfl⟩)
      go_wp2_with ((with_reducible refine wpList_unguard ?_ ?_); (focus rfl))
      (refine Calls.mono (gf_PowK _ _ 0 _ _ _ K.out ?_ ?_) ?_; (rfl); (focus (first | assumption | (exact gmul_lt _ _) | (exact ginv_lt _) | (exact gexp_lt _) | (exact gexpZ_lt _) | omega | (exact xor_lt (by first | assumption | (exact gmul_lt _ _) | omega) (by first | assumption | (exact gmul_lt _ _) | omega)))); rintro e w' ⟨rfl, rfl⟩)
      go_wp2_with ((with_reducible refine wpList_unguard ?_ ?_); (focus rfl))
      go_ret
      exact ⟨rfl, by (exact K.out.1)⟩

theorem gfPowers.walk (a0 : Int) (a1 : Int) (a2 : Int) (w : World) (w0 : (Lit.int .u8 a0).wf = true) (w1 : (Lit.int .i64 a1).wf = true) (w2 : (Lit.int .i16 a2).wf = true) :
    Calls Try.prog 5 #[.int .u8 a0, .int .i64 a1, .int .i16 a2] w fun e w' => e = .returned (.bool true) ∧ Below w.heap.size w w' := by
  obtain ⟨a, ha, rfl⟩ := u8_of w0
  obtain ⟨k, hk⟩ : ∃ k : Nat, a1 % 255 = k := ⟨(a1 % 255).toNat, by omega⟩
  have hm := bounds_i16 w2
  by_cases h : a = 0
  · subst h
    exact powers_zero k a1 a2 w (by omega) hm.1 hm.2 hk (emod_of a1 k hk) (by
      by_cases e : a1 = 0
      · exact .inl e
      · exact .inr (by simp [e]))
  · exact powers_some a k a1 a2 w ha (by omega) (by omega) hm.1 hm.2 hk (emod_of a1 k hk)
end Go.Proofs.Ytbghfhkhnmmcdaa
