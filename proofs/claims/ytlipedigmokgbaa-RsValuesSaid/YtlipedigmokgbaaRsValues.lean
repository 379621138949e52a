/-
  RsValues, walked: the values of any word are what the document says; it is right just if all are 0.
-/
import Derived.Test.YtlipedigmokgbaaRsV0
import Derived.Test.YtlipedigmokgbaaOpenS
namespace Go.Proofs.Ytlipedigmokgbaa
open Go.RowKit Tri

set_option maxHeartbeats 4000000 in
set_option maxRecDepth 100000 in
theorem rsValues.walk (a0 : Int) (a1 : Int) (a2 : Option Addr) (len2 cap2 : Nat) (l2 : List Nat) (w : World) (w0 : (Lit.int .i64 a0).wf = true) (w1 : (Lit.int .i64 a1).wf = true) (w2 : IsBytes w a2 len2 cap2 l2) :
    Calls Try.prog 10 #[.int .i64 a0, .int .i64 a1, .slice a2 len2 cap2] w fun e w' => e = .returned (.bool true) ∧ Below w.heap.size w w' := by
  obtain ⟨hn, hlc, hcap, hS, hss⟩ := w2
  subst hn
  have HS := hid hS
  have HB : Hid (bytesL l2) := hid hss
  have hb0 := bounds_i64 w0
  have hb1 := bounds_i64 w1
  clear hS hss w0 w1
  (go_enter Try.func10, Try.ntmps10; try simp only [List.append])
  go_wp2_with ((with_reducible refine wpList_unguard ?_ ?_); (focus rfl))
  (refine Calls.mono (law06_awake _) ?_; rintro e w2 ⟨rfl, hbA⟩; have HBA := hid hbA; clear hbA)
  by_cases h60 : 60 < a0
  · have ht : decide (60 < a0) = true := decide_eq_true h60
    go_wp2_with ((with_reducible refine wpList_unguard ?_ ?_); (focus rfl))
    go_ret
    exact ⟨rfl, HBA.out⟩
  · have ht : decide (60 < a0) = false := decide_eq_false h60
    go_wp2_with ((with_reducible refine wpList_unguard ?_ ?_); (focus rfl))
    refine Calls.mono (ref6_There a0 a1 w2 ⟨hb0.1, by omega⟩ ⟨hb1.1, by omega⟩) ?_; rintro e w' ⟨rfl, rfl⟩
    cases hth : thereB a0 a1 with
    | false =>
      go_wp2_with ((with_reducible refine wpList_unguard ?_ ?_); (focus rfl))
      go_ret
      exact ⟨rfl, HBA.out⟩
    | true =>
      have hthr : 1 ≤ a1 ∧ a1 < a0 ∧ a0 ≤ 255 ∧ a0 - a1 ≤ 64 := of_decide_eq_true hth
      obtain ⟨t1, t2, t3, t4⟩ := hthr
      obtain ⟨n, rfl⟩ : ∃ n : Nat, a0 = n := ⟨a0.toNat, by omega⟩
      obtain ⟨k, rfl⟩ : ∃ k : Nat, a1 = k := ⟨a1.toNat, by omega⟩
      clear hth hb0 hb1
      by_cases h300 : 300 < l2.length
      · have ht3 : decide (300 < (l2.length : Int)) = true := decide_eq_true (by omega)
        go_wp2_with ((with_reducible refine wpList_unguard ?_ ?_); (focus rfl))
        go_ret
        exact ⟨rfl, HBA.out⟩
      · have ht3 : decide (300 < (l2.length : Int)) = false := decide_eq_false (by omega)
        go_wp2_with ((with_reducible refine wpList_unguard ?_ ?_); (focus rfl))
        refine Calls.mono (gf_NewK w w2 HBA.out) ?_; rintro e w4 ⟨b, rfl, K0⟩; have K := hid K0; clear K0 HBA
        go_wp2_with ((with_reducible refine wpList_unguard ?_ ?_); (focus rfl))
        refine Calls.mono (rs_New b n k w4 K.out.2 (by omega) (by omega) (by omega) (by omega)) ?_
        rintro e w5 ⟨c, rfl, hR, hbel⟩
        have HR := hid hR
        have HB5 := hid (K.out.1.trans (hbel.mono K.out.1.size))
        clear hR hbel K
        go_wp2_with ((with_reducible refine wpList_unguard ?_ ?_); (focus rfl))
        by_cases hln : l2.length = n
        · have hlne : ((l2.length : Int) != (n : Int)) = false := by rw [bne_eq_false_iff_eq]; omega
          have HLN := hid hln
          clear hln
          refine Calls.mono (rs_Syndromes c b n k a2 _ cap2 l2 w5 HR.out (by omega) (by omega) rfl (HS.out.below HB5.out) HB.out HLN.out) ?_
          rintro e w6 ⟨v, rfl, hO, hbel⟩
          obtain ⟨p6, c6, rfl, hc6⟩ := hO.cells
          have HC6 := hid hc6
          have HR6 := hid (HR.out.below hbel)
          have HB6 := hid (HB5.out.trans (hbel.mono HB5.out.size))
          obtain ⟨q, hq⟩ : ∃ q, n - k = q := ⟨_, rfl⟩
          have hnk : (n : Int) - (k : Int) = (q : Int) := by omega
          have hwq : IntKind.i64.wrap (q : Int) = (q : Int) := by rw [IntKind.wrap_i64]; omega
          have hSl := synd_length l2 q
          have hSL : (synd l2 q).length ≤ 64 := by omega
          have HSB := hid (synd_bytes HB.out q)
          have HRB : Hid (rightB l2 q = (synd l2 q).all fun y => decide (y = 0)) := rfl
          rw [hq] at HC6 ⊢
          have HQ := hid hq
          clear hO hc6 hbel HR HB5 hq hSl
          go_wp2_with ((with_reducible refine wpList_unguard ?_ ?_); (focus rfl))
          refine Calls.mono (ref6_Values a2 _ cap2 l2 q w6 rfl (HS.out.below HB6.out) HB.out (by omega) (by omega)) ?_
          rintro e w7 ⟨p7, c7, rfl, hle7, hc7, hbel⟩
          have HC7 := hid hc7
          have HC6' := hid (HC6.out.below hbel)
          have HR7 := hid (HR6.out.below hbel)
          have HB7 := hid (HB6.out.trans (hbel.mono HB6.out.size))
          clear hc7 hbel HC6 HR6 HB6
          generalize synd l2 q = S at *
          go_wp2_with ((with_reducible refine wpList_unguard ?_ ?_); (focus rfl))
          go_loopw [12, 77] (fun z i wr => ∃ j : Nat, j ≤ S.length ∧ i = .int .i64 j ∧ z = .bool ((S.take j).all fun y => decide (y = 0)) ∧ Below w7.heap.size w7 wr) (fun _ i _ => S.length - (intOf i).toNat)
          case atStart => exact ⟨0, Nat.zero_le _, rfl, rfl, Below.refl _ _⟩
          case round =>
            obtain ⟨j, hj, rfl, rfl, hbw⟩ := hrel
            have HBW := hid hbw
            clear hbw
            by_cases hlt : j < S.length
            · obtain ⟨a, o, rfl, hc⟩ := HC6'.out.below HBW.out j hlt
              obtain ⟨a', o', rfl, hc'⟩ := HC7.out.below HBW.out j hlt
              have HS2 : Hid (S.take (j + 1) = S.take j ++ [S.getD j 0]) := take_snocN S j hlt
              have hy := HSB.out _ (getD_mem S j hlt)
              have HAS : Hid ((S.take (j + 1)).all (fun y => decide (y = 0)) = ((S.take j).all (fun y => decide (y = 0)) && decide (S.getD j 0 = 0))) := by show _ = _; rw [HS2.out, List.all_append]; simp
              generalize hz2 : (S.take (j + 1)).all (fun y => decide (y = 0)) = z2 at *
              have HZ2 := hid hz2
              clear hz2
              generalize (S.take j).all (fun y => decide (y = 0)) = z at *
              generalize S.getD j 0 = y at *
              have hwy : IntKind.i64.wrap (y : Int) = (y : Int) := by rw [IntKind.wrap_i64]; omega
              by_cases hy0 : y = 0
              · have HZ : Hid (z2 = z) := by show _ = _; rw [HAS.out, decide_eq_true hy0, Bool.and_true]
                subst hy0
                clear HAS
                go_wp2
                go_region
                cases z with
                | true =>
                  go_wp2_with ((with_reducible refine wpList_unguard ?_ ?_); (focus rfl))
                  go_roundw
                  case rel => exact ⟨j + 1, by omega, by go_num, by rw [HZ2.out, HZ.out], HBW.out.drew⟩
                  case measure => simp [intOf]; omega
                | false =>
                  go_wp2_with ((with_reducible refine wpList_unguard ?_ ?_); (focus rfl))
                  go_roundw
                  case rel => exact ⟨j + 1, by omega, by go_num, by rw [HZ2.out, HZ.out], HBW.out.drew⟩
                  case measure => simp [intOf]; omega
              · have HZ : Hid (z2 = false) := by show _ = _; rw [HAS.out, decide_eq_false hy0, Bool.and_false]
                have hyz : ((y : Int) == 0) = false := by rw [beq_eq_false_iff_ne]; omega
                clear HAS
                go_wp2
                go_region
                cases z with
                | true =>
                  go_wp2_with ((with_reducible refine wpList_unguard ?_ ?_); (focus rfl))
                  go_roundw
                  case rel => exact ⟨j + 1, by omega, by go_num, by rw [HZ2.out, HZ.out], HBW.out.drew⟩
                  case measure => simp [intOf]; omega
                | false =>
                  go_wp2_with ((with_reducible refine wpList_unguard ?_ ?_); (focus rfl))
                  go_roundw
                  case rel => exact ⟨j + 1, by omega, by go_num, by rw [HZ2.out, HZ.out], HBW.out.drew⟩
                  case measure => simp [intOf]; omega
            · have hT : Hid ((S.take j).all (fun y => decide (y = 0)) = rightB l2 q) := by show _ = _; rw [HRB.out, List.take_of_length_le (by omega)]
              rw [hT.out]
              have HR8 := hid (HR7.out.below HBW.out)
              have HB8 := hid (HB7.out.trans (HBW.out.mono HB7.out.size))
              have hl2 : l2.length ≤ 1000 := by omega
              have HRi := hid (rs_Right c b n k a2 _ cap2 l2 wr HR8.out (by omega) (by omega) rfl (HS.out.below HB8.out) HB.out HLN.out)
              have HRi2 := hid (fun w' (hb : Below wr.heap.size wr w') => ref6_Right a2 _ cap2 l2 n k w' rfl (HS.out.below (HB8.out.trans (hb.mono HB8.out.size))) HB.out hl2 (by omega) (by omega) HLN.out)
              rw [HQ.out] at HRi HRi2
              clear HRB hT
              generalize rightB l2 q = z at *
              go_wp2_with ((with_reducible refine wpList_unguard ?_ ?_); (focus rfl))
              refine Calls.mono HRi.out ?_; rintro e w9 ⟨rfl, hb9⟩
              have HB9 := hid hb9
              clear hb9
              cases z with
              | true =>
                go_wp2_with ((with_reducible refine wpList_unguard ?_ ?_); (focus rfl))
                refine Calls.mono (HRi2.out w9 HB9.out) ?_; rintro e w10 ⟨rfl, hb10⟩
                have HB10 := hid (HB8.out.trans ((HB9.out.trans (hb10.mono HB9.out.size)).mono HB8.out.size))
                clear hb10
                go_wp2_with ((with_reducible refine wpList_unguard ?_ ?_); (focus rfl))
                go_ret
                exact ⟨rfl, HB10.out⟩
              | false =>
                go_wp2_with ((with_reducible refine wpList_unguard ?_ ?_); (focus rfl))
                refine Calls.mono (HRi2.out w9 HB9.out) ?_; rintro e w10 ⟨rfl, hb10⟩
                have HB10 := hid (HB8.out.trans ((HB9.out.trans (hb10.mono HB9.out.size)).mono HB8.out.size))
                clear hb10
                go_wp2_with ((with_reducible refine wpList_unguard ?_ ?_); (focus rfl))
                go_ret
                exact ⟨rfl, HB10.out⟩
        · have hlne : ((l2.length : Int) != (n : Int)) = true := by rw [bne_iff_ne]; omega
          have HLN := hid hln
          refine Calls.mono (rs_Syndromes_bad c b n k a2 _ cap2 w5 HR.out HLN.out (by omega) (by omega)) ?_
          rintro e w' ⟨rfl, rfl⟩
          clear hln
          go_wp2_with ((with_reducible refine wpList_unguard ?_ ?_); (focus rfl))
          refine Calls.mono (rs_Right_bad c b n k a2 _ cap2 w5 HR.out HLN.out (by omega) (by omega)) ?_
          rintro e w' ⟨rfl, rfl⟩
          go_wp2_with ((with_reducible refine wpList_unguard ?_ ?_); (focus rfl))
          go_ret
          exact ⟨rfl, HB5.out⟩
end Go.Proofs.Ytlipedigmokgbaa
