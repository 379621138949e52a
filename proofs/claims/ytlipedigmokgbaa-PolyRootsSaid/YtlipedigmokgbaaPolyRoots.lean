/-
  PolyRoots, walked: the polynomial of some roots is 0 just there, and has their number for its degree; where two roots are alike its derivative is 0 there, too.
-/
import Derived.Test.YtlipedigmokgbaaPolyR
import Derived.Test.YtlipedigmokgbaaPoly7
import Derived.Test.YtlipedigmokgbaaOpenS
namespace Go.Proofs.Ytlipedigmokgbaa
open Go.RowKit Tri

theorem Keeps.nxr {w0 w w' : World} {b : Nat} (h : Keeps w0 b w) (h' : Below w.heap.size w w') : Keeps w0 b w' :=
  ⟨h.1.trans (h'.mono h.1.size), h.2.below h' h.2.lt⟩
set_option maxHeartbeats 4000000 in
set_option maxRecDepth 100000 in
theorem polyRoots.walk (a0 : Option Addr) (len0 cap0 : Nat) (l0 : List Nat) (a1 : Int) (w : World) (w0 : IsBytes w a0 len0 cap0 l0) (w1 : (Lit.int .u8 a1).wf = true) :
    Calls Try.prog 4 #[.slice a0 len0 cap0, .int .u8 a1] w fun e w' => e = .returned (.bool true) ∧ Below w.heap.size w w' := by
  obtain ⟨x, hx, rfl⟩ := u8_of w1
  clear w1
  obtain ⟨hn, hlc, hcap, hS, hss⟩ := w0
  subst hn
  have HS := hid hS
  have HB : Hid (bytesL l0) := hid hss
  clear hS hss
  (go_enter Try.func4, Try.ntmps4; try simp only [List.append])
  go_wp2_with ((with_reducible refine wpList_unguard ?_ ?_); (focus rfl))
  (refine Calls.mono (law05_awake _) ?_; rintro e w2 ⟨rfl, hbA⟩; have HBA := hid hbA; clear hbA)
  by_cases hg : l0.length ≤ 30
  · have hgt : decide (30 < (l0.length : Int)) = false := decide_eq_false (by omega)
    go_wp2_with ((with_reducible refine wpList_unguard ?_ ?_); (focus rfl))
    refine Calls.mono (gf_NewK w w2 HBA.out) ?_; rintro e w4 ⟨b, rfl, K0⟩; have K := hid K0; clear K0 HBA
    go_wp2_with ((with_reducible refine wpList_unguard ?_ ?_); (focus rfl))
    refine Calls.mono (poly_Roots b a0 _ _ l0 w4 K.out.2 rfl (HS.out.below K.out.1) HB.out (by omega)) ?_
    rintro e w5 ⟨pr, cr, rfl, hle, hc, hbel⟩
    have K5 := hid (K.out.nxr hbel)
    have HR := hid hc
    obtain ⟨hrb, hrt, hrl, hr1, hr2, hr3⟩ := proots_is x hx l0 HB.out
    have HRB := hid hrb
    have HRT := hid hrt
    have HRL := hid hrl
    have H1 := hid hr1
    have H2 := hid hr2
    have H3 := hid hr3
    have hpl := peval_lt x hrb
    have hdl := peval_lt x (pder_bytes' hrb)
    have hdlen := pder_length_le (proots l0)
    have hrl31 : (proots l0).length ≤ 31 := by omega
    clear hrb hrt hrl hr1 hr2 hr3 hc hbel K
    generalize proots l0 = r at *
    go_wp2_with ((with_reducible refine wpList_unguard ?_ ?_); (focus rfl))
    have hcl : Hid (∀ k, k < l0.length → (l0.take (k + 1)).count x = (l0.take k).count x + if l0.getD k 0 = x then 1 else 0) := fun k hk => by
      rw [take_snocN l0 k hk, List.count_append, List.count_singleton]
      congr 1
      by_cases e : l0.getD k 0 = x
      · simp [e]
      · simp [e]
    go_loop [7, 22] (fun t i => ∃ k : Nat, k ≤ l0.length ∧ i = .int .i64 k ∧ t = .int .i64 ((l0.take k).count x : Nat) ∧ (l0.take k).count x ≤ k) (fun _ i => l0.length - (intOf i).toNat)
    case atStart => exact ⟨0, Nat.zero_le _, rfl, rfl, Nat.zero_le _⟩
    case round =>
      obtain ⟨k, hk, rfl, rfl, htk⟩ := hrel
      by_cases hlt : k < l0.length
      · obtain ⟨a, o, rfl, hc0⟩ := HS.out k hlt
        have hc : w5.cell? ⟨a, o + k, none⟩ = some (.int .u8 (l0.getD k 0 : Nat)) := by
          rw [K5.out.1.cell (p := ⟨a, o + k, none⟩) (block_lt_of_cell hc0)]; exact hc0
        have HC := hid (hcl.out k hlt)
        clear hc0
        generalize l0.getD k 0 = y at *
        generalize hs2 : (l0.take (k + 1)).count x = t2 at *
        have HS2 := hid hs2
        clear hs2
        generalize (l0.take k).count x = t at *
        by_cases hy : y = x
        · have ht2 : Hid (t2 = t + 1) := by show _ = _; rw [HC.out, if_pos hy]
          subst hy
          clear HC
          go_wp2_with ((with_reducible refine wpList_unguard ?_ ?_); (focus rfl))
          go_round
          case rel => exact ⟨k + 1, by omega, by go_num, by rw [HS2.out, ht2.out]; go_num, by rw [HS2.out, ht2.out]; omega⟩
          case measure => simp [intOf]; omega
        · have ht2 : Hid (t2 = t) := by show _ = _; rw [HC.out, if_neg hy]; rfl
          have hyx : ((y : Int) == (x : Int)) = false := by rw [beq_eq_false_iff_ne]; omega
          clear HC
          go_wp2_with ((with_reducible refine wpList_unguard ?_ ?_); (focus rfl))
          go_round
          case rel => exact ⟨k + 1, by omega, by go_num, by rw [HS2.out, ht2.out], by rw [HS2.out, ht2.out]; omega⟩
          case measure => simp [intOf]; omega
      · obtain rfl : k = l0.length := by omega
        rw [List.take_length] at htk ⊢
        generalize l0.count x = T at *
        clear hcl
        go_wp2_with ((with_reducible refine wpList_unguard ?_ ?_); (focus rfl))
        refine Calls.mono (poly_Derive b pr _ cr r w5 K5.out.2 rfl hle HR.out (by omega)) ?_
        rintro e w6 ⟨v6, rfl, hO, hbel⟩
        have K6 := hid (K5.out.nxr hbel)
        have HR6 := hid (HR.out.below hbel)
        obtain ⟨p6, c6, rfl, hc6⟩ := hO.cells
        have HD6 := hid hc6
        have HDB := hid (pder_bytes' HRB.out)
        clear hbel hO hc6 K5 HR
        go_wp2_with ((with_reducible refine wpList_unguard ?_ ?_); (focus rfl))
        generalize pder r = d at *
        refine Calls.mono (poly_Eval b p6 _ c6 d x w6 K6.out.2 rfl HD6.out HDB.out hx (by omega)) ?_; rintro e w7 ⟨rfl, hK⟩
        have K7 := hid (K6.out.nxr hK.1)
        have HR7 := hid (HR6.out.below hK.1)
        clear hK K6 HR6 HD6 HDB
        generalize peval x d = D at *
        go_wp2_with ((with_reducible refine wpList_unguard ?_ ?_); (focus rfl))
        refine Calls.mono (poly_Degree pr _ cr r w7 rfl hle HR7.out (by omega)) ?_
        rintro e w8 ⟨rfl, hbel⟩
        rw [HRT.out]
        have K8 := hid (K7.out.nxr hbel)
        have HR8 := hid (HR7.out.below hbel)
        have hdeg : ((r.length : Int) - 1 == (l0.length : Int)) = true := by have := HRL.out; rw [beq_iff_eq]; omega
        clear hbel K7 HR7
        go_wp2_with ((with_reducible refine wpList_unguard ?_ ?_); (focus rfl))
        refine Calls.mono (poly_Eval b pr _ cr r x w8 K8.out.2 rfl HR8.out HRB.out hx (by omega)) ?_; rintro e w9 ⟨rfl, hK⟩
        have K9 := hid (K8.out.nxr hK.1)
        clear hK K8 HR8
        generalize peval x r = PV at *
        rcases (show T = 0 ∨ T = 1 ∨ 2 ≤ T from by omega) with h | h | h
        · have hP : ((PV : Int) == 0) = false := by
            rw [beq_eq_false_iff_ne]
            intro e
            have := H1.out.1 (by omega)
            omega
          subst h
          go_wp2_with ((with_reducible refine wpList_unguard ?_ ?_); (focus rfl))
          go_ret
          exact ⟨rfl, K9.out.1⟩
        · have hP : PV = 0 := H1.out.2 (by omega)
          have hD : ((D : Int) == 0) = false := by
            rw [beq_eq_false_iff_ne]
            intro e
            exact H3.out h (by omega)
          have hD' : ((D : Int) != 0) = true := by
            rw [bne_iff_ne]
            intro e
            exact H3.out h (by omega)
          subst hP h
          go_wp2_with ((with_reducible refine wpList_unguard ?_ ?_); (focus rfl))
          go_ret
          exact ⟨rfl, K9.out.1⟩
        · have hP : PV = 0 := H1.out.2 (by omega)
          have hD : D = 0 := H2.out h
          obtain ⟨m, rfl⟩ : ∃ m, T = m + 2 := ⟨T - 2, by omega⟩
          have ht1 : decide (((m + 2 : Nat) : Int) < 2) = false := decide_eq_false (by omega)
          have ht2 : (((m + 2 : Nat) : Int) != 1) = true := by rw [bne_iff_ne]; omega
          have ht3 : decide (0 < ((m + 2 : Nat) : Int)) = true := decide_eq_true (by omega)
          obtain ⟨T, hT⟩ : ∃ T, m + 2 = T := ⟨_, rfl⟩
          rw [hT] at ht1 ht2 ht3 ⊢
          have hT2 : 2 ≤ T := by omega
          clear hT H1 H2 H3
          subst hP hD
          go_wp2_with ((with_reducible refine wpList_unguard ?_ ?_); (focus rfl))
          go_ret
          exact ⟨rfl, K9.out.1⟩
  · have hgt : decide (30 < (l0.length : Int)) = true := decide_eq_true (by omega)
    go_wp2_with ((with_reducible refine wpList_unguard ?_ ?_); (focus rfl))
    go_ret
    exact ⟨rfl, HBA.out⟩
end Go.Proofs.Ytlipedigmokgbaa
