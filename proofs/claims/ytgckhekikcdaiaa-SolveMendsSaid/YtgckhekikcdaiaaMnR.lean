/-
  SolveMends, walked: what is mended is what the document's own way mends.
-/
import Derived.Test.YtgckhekikcdaiaaPak16
namespace Go.Proofs.Ytgckhekikcdaiaa
open Go.RowKit Tri

set_option maxHeartbeats 4000000 in
set_option maxRecDepth 100000 in
theorem law07_small (n k : Int) (w : World) (hn : -9223372036854775808 ≤ n ∧ n < 9223372036854775808) (hk : -9223372036854775808 ≤ k ∧ k < 9223372036854775808) :
    Calls Try.prog 28 #[.int .i64 n, .int .i64 k] w fun e w' => e = .returned (.bool (decide (1 ≤ k ∧ k < n ∧ n ≤ 12 ∧ n - k ≤ 6))) ∧ w = w' := by
  have hT := hid (ref6_There n k w hn hk)
  by_cases h : 1 ≤ k ∧ k < n ∧ n ≤ 255 ∧ n - k ≤ 64
  · have hth : thereB n k = true := decide_eq_true h
    rw [hth] at hT
    obtain ⟨h1, h2, h3, h4⟩ := h
    have hw1 : IntKind.i64.wrap (n - k) = n - k := by rw [IntKind.wrap_i64]; omega
    have hE : Hid (decide (1 ≤ k ∧ k < n ∧ n ≤ 12 ∧ n - k ≤ 6) = (decide (n ≤ 12) && decide (n - k ≤ 6))) := by
      show _ = _
      rw [Bool.eq_iff_iff, decide_eq_true_eq, Bool.and_eq_true, decide_eq_true_eq, decide_eq_true_eq]
      exact ⟨fun h => ⟨h.2.2.1, h.2.2.2⟩, fun h => ⟨h1, h2, h.1, h.2⟩⟩
    rw [hE.out]
    by_cases g1 : n ≤ 12
    · have d1 : decide (n ≤ 12) = true := decide_eq_true g1
      by_cases g2 : n - k ≤ 6
      · have d2 : decide (n - k ≤ 6) = true := decide_eq_true g2
        rw [d1, d2]
        (go_enter Try.func28, Try.ntmps28; try simp only [List.append])
        go_wp2_with ((with_reducible refine wpList_unguard ?_ ?_); (focus rfl))
        refine Calls.mono hT.out ?_; rintro e w1 ⟨rfl, rfl⟩
        go_wp2_with ((with_reducible refine wpList_unguard ?_ ?_); (focus rfl))
        go_ret
        exact ⟨rfl, rfl⟩
      · have d2 : decide (n - k ≤ 6) = false := decide_eq_false g2
        rw [d1, d2]
        (go_enter Try.func28, Try.ntmps28; try simp only [List.append])
        go_wp2_with ((with_reducible refine wpList_unguard ?_ ?_); (focus rfl))
        refine Calls.mono hT.out ?_; rintro e w1 ⟨rfl, rfl⟩
        go_wp2_with ((with_reducible refine wpList_unguard ?_ ?_); (focus rfl))
        go_ret
        exact ⟨rfl, rfl⟩
    · have d1 : decide (n ≤ 12) = false := decide_eq_false g1
      rw [d1, Bool.false_and]
      (go_enter Try.func28, Try.ntmps28; try simp only [List.append])
      go_wp2_with ((with_reducible refine wpList_unguard ?_ ?_); (focus rfl))
      refine Calls.mono hT.out ?_; rintro e w1 ⟨rfl, rfl⟩
      go_wp2_with ((with_reducible refine wpList_unguard ?_ ?_); (focus rfl))
      go_ret
      exact ⟨rfl, rfl⟩
  · have hth : thereB n k = false := decide_eq_false h
    rw [hth] at hT
    have hE : Hid (decide (1 ≤ k ∧ k < n ∧ n ≤ 12 ∧ n - k ≤ 6) = false) := decide_eq_false fun h' => h ⟨h'.1, h'.2.1, by omega, by omega⟩
    rw [hE.out]
    (go_enter Try.func28, Try.ntmps28; try simp only [List.append])
    go_wp2_with ((with_reducible refine wpList_unguard ?_ ?_); (focus rfl))
    refine Calls.mono hT.out ?_; rintro e w1 ⟨rfl, rfl⟩
    go_wp2_with ((with_reducible refine wpList_unguard ?_ ?_); (focus rfl))
    go_ret
    exact ⟨rfl, rfl⟩
set_option maxHeartbeats 4000000 in
set_option maxRecDepth 100000 in
theorem solveMends.walk (a0 : Int) (a1 : Int) (a2 : Option Addr) (len2 cap2 : Nat) (l2 : List Nat) (b2 : Option Addr) (lem2 caq2 : Nat) (m2 : List Int) (w : World) (w0 : (Lit.int .i64 a0).wf = true) (w1 : (Lit.int .i64 a1).wf = true) (w2 : IsBytes w a2 len2 cap2 l2 ∧ IsInts w b2 lem2 caq2 m2) :
    Calls Try.prog 5 #[.int .i64 a0, .int .i64 a1, .agg #[.slice a2 len2 cap2, .slice b2 lem2 caq2]] w fun e w' => e = .returned (.bool true) ∧ Below w.heap.size w w' := by
  obtain ⟨⟨hn, hlc, hcap, hS, hss⟩, hn1, hlc1, hcap1, hS1, hss1⟩ := w2
  subst hn hn1
  have HS := hid hS
  have HB : Hid (bytesL l2) := hid hss
  have HS1 := hid hS1
  have hb0 := bounds_i64 w0
  have hb1 := bounds_i64 w1
  clear hS hss w0 w1 hS1 hss1
  (go_enter Try.func5, Try.ntmps5; try simp only [List.append])
  go_wp2_with ((with_reducible refine wpList_unguard ?_ ?_); (focus rfl))
  have hBx := hid (show Below w.heap.size w (w.alloc (.cells #[.slice a2 l2.length cap2, .slice b2 m2.length caq2] 50)) from (Below.refl _ _).alloc (Nat.le_refl _) _)
  have HX0 := hid (Blk.new w 50 #[.slice a2 l2.length cap2, .slice b2 m2.length caq2])
  generalize w.alloc (.cells #[.slice a2 l2.length cap2, .slice b2 m2.length caq2] 50) = wx at *
  refine Calls.mono (law07_awake wx) ?_; rintro e w3 ⟨rfl, hbA⟩
  have HX3 := hid (HX0.out.below hbA)
  have HBA := hid (hBx.out.trans (hbA.mono hBx.out.size))
  clear hbA hBx HX0
  obtain ⟨xb, hxb⟩ : ∃ xb, w.heap.size = xb := ⟨_, rfl⟩
  rw [hxb] at HX3 ⊢
  clear hxb
  go_wp2_with ((with_reducible refine wpList_unguard ?_ ?_); (focus rfl))
  refine Calls.mono (law07_small a0 a1 w3 ⟨hb0.1, by omega⟩ ⟨hb1.1, by omega⟩) ?_; rintro e w' ⟨rfl, rfl⟩
  cases hth : decide (1 ≤ a1 ∧ a1 < a0 ∧ a0 ≤ 12 ∧ a0 - a1 ≤ 6) with
  | false =>
    go_wp2_with ((with_reducible refine wpList_unguard ?_ ?_); (focus rfl))
    go_ret
    exact ⟨rfl, HBA.out⟩
  | true =>
    have hthr := of_decide_eq_true hth
    obtain ⟨t1, t2, t3, t4⟩ := hthr
    obtain ⟨n, rfl⟩ : ∃ n : Nat, a0 = n := ⟨a0.toNat, by omega⟩
    obtain ⟨k, rfl⟩ : ∃ k : Nat, a1 = k := ⟨a1.toNat, by omega⟩
    clear hth hb0 hb1
    have c0 : w3.cell? ⟨xb, 0, none⟩ = some (.slice a2 l2.length cap2) := HX3.out.cell 0 _ rfl
    have c1 : w3.cell? ⟨xb, 1, none⟩ = some (.slice b2 m2.length caq2) := HX3.out.cell 1 _ rfl
    by_cases hg1 : 100 < l2.length
    · have q1 : decide ((100 : Int) < (l2.length : Int)) = true := decide_eq_true (by omega)
      go_wp2_with ((with_reducible refine wpList_unguard ?_ ?_); (focus rfl))
      go_ret
      exact ⟨rfl, HBA.out⟩
    by_cases hg2 : 60 < m2.length
    · have q1 : decide ((100 : Int) < (l2.length : Int)) = false := decide_eq_false (by omega)
      have q2 : decide ((60 : Int) < (m2.length : Int)) = true := decide_eq_true (by omega)
      go_wp2_with ((with_reducible refine wpList_unguard ?_ ?_); (focus rfl))
      go_ret
      exact ⟨rfl, HBA.out⟩
    have q1 : decide ((100 : Int) < (l2.length : Int)) = false := decide_eq_false (by omega)
    have q2 : decide ((60 : Int) < (m2.length : Int)) = false := decide_eq_false (by omega)
    go_wp2_with ((with_reducible refine wpList_unguard ?_ ?_); (focus rfl))
    clear c0 c1
    refine Calls.mono (gf_NewK w3 w3 (Below.refl _ _)) ?_; rintro e w4 ⟨b, rfl, K0⟩
    have K := hid K0.2
    have HX4 := hid (HX3.out.below K0.1)
    have HB4 := hid (HBA.out.trans (K0.1.mono HBA.out.size))
    clear K0 HX3 HBA q1 q2
    go_wp2_with ((with_reducible refine wpList_unguard ?_ ?_); (focus rfl))
    refine Calls.mono (rs_New b n k w4 K.out (by omega) (by omega) (by omega) (by omega)) ?_
    rintro e w5 ⟨c, rfl, hR, hbel⟩
    have HR := hid hR
    have HX5 := hid (HX4.out.below hbel)
    have HB5 := hid (HB4.out.trans (hbel.mono HB4.out.size))
    have hxw := HX5.out.lt
    clear hR hbel K HX4 HB4
    have c0 : w5.cell? ⟨xb, 0, none⟩ = some (.slice a2 l2.length cap2) := HX5.out.cell 0 _ rfl
    have c1 : w5.cell? ⟨xb, 1, none⟩ = some (.slice b2 m2.length caq2) := HX5.out.cell 1 _ rfl
    have HM1 := hid (sol_Mend c b n k a2 cap2 l2 b2 caq2 m2 w5 HR.out (by omega) (by omega) (by omega) (HS.out.below HB5.out) HB.out (by omega) (HS1.out.below HB5.out) (by omega))
    have hL2n : Hid (∀ g E mny loc, (outO g (byR n (n - k) l2 E mny loc)).length ≤ 300) := fun g E mny loc => outO_le HB.out g 300 (by omega)
    go_wp2_with ((with_reducible refine wpList_unguard ?_ ?_); (focus rfl))
    refine Calls.mono HM1.out ?_; rintro e w6 ⟨hb, hm⟩
    obtain ⟨p1, d1, q1, e1, rfl, hl1, hl2, ho, hu⟩ := hm.uni
    have HO1 := hid ho
    have HU1 := hid hu.z
    have HB6 := hid (HB5.out.trans (hb.mono HB5.out.size))
    have HX6 := hid (HX5.out.below hb)
    have hr56 := hb.size
    clear hm hb ho hu HM1 HR HX5 HB5 c0 c1
    have hUl := outU_le n l2 (goodB n l2 m2) (mendW n (n - k) l2 (eraZ m2))
    have hOl : (outO (goodB n l2 m2) (mendW n (n - k) l2 (eraZ m2))).length ≤ 300 := hL2n.out _ _ _ _
    have c0 : w6.cell? ⟨xb, 0, none⟩ = some (.slice a2 l2.length cap2) := HX6.out.cell 0 _ rfl
    have c1 : w6.cell? ⟨xb, 1, none⟩ = some (.slice b2 m2.length caq2) := HX6.out.cell 1 _ rfl
    have HM2 := hid (ref7_Mend n k a2 cap2 l2 b2 caq2 m2 w6 (by omega) (by omega) (HS.out.below HB6.out) HB.out (by omega) (HS1.out.below HB6.out) (by omega))
    go_wp2_with ((with_reducible refine wpList_unguard ?_ ?_); (focus rfl))
    refine Calls.mono HM2.out ?_; rintro e w7 ⟨hb, hm⟩
    obtain ⟨p2, d2, q2, e2, rfl, hl3, hl4, ho2, hu2⟩ := hm.uni
    have HO2 := hid ho2
    have HU2 := hid hu2.z
    have HB7 := hid (HB6.out.trans (hb.mono HB6.out.size))
    have HO7 := hid (HO1.out.below hb)
    have HU7 := hid (HU1.out.below hb)
    clear hm hb ho2 hu2 HM2 HX6 HB6 HO1 HU1 c0 c1 hL2n
    generalize outU n l2 (goodB n l2 m2) (mendW n (n - k) l2 (eraZ m2)) = U at *
    generalize outX (goodB n l2 m2) (mendW n (n - k) l2 (eraZ m2)) = X at *
    generalize outO (goodB n l2 m2) (mendW n (n - k) l2 (eraZ m2)) = O at *
    have hs1 := conv_str HO7.out O.length d1 rfl
    have hs2 := conv_str HO2.out O.length d2 rfl
    have hSm := hid (ref01_Same q1 q2 U.length U.length e1 e2 (U.map fun x => ((x : Nat) : Int)) (U.map fun x => ((x : Nat) : Int)) w7 (by simp) (by simp) HU7.out HU2.out (by simp; omega) (by simp; omega))
    rw [show decide ((U.map fun x => ((x : Nat) : Int)) = (U.map fun x => ((x : Nat) : Int))) = true from decide_eq_true rfl] at hSm
    go_wp2_with ((with_reducible refine wpList_unguard ?_ ?_); (focus rfl))
    refine Calls.mono hSm.out ?_; rintro e w8 ⟨rfl, hb⟩
    have HB8 := hid (HB7.out.trans (hb.mono HB7.out.size))
    clear hSm hb hs1 hs2 HB7 HO7 HO2 HU7 HU2
    go_wp2_with ((with_reducible refine wpList_unguard ?_ ?_); (focus rfl))
    go_ret
    exact ⟨rfl, HB8.out⟩
end Go.Proofs.Ytgckhekikcdaiaa
