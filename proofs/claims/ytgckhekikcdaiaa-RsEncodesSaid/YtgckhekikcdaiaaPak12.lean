/-
  search of the solver (Berlekamp and Massey, as the program goes on).
  rs.Size and Over of a code that is there; Within; slices.ContainsFunc of ints by solve.by's closure.
-/
import Derived.Test.YtgckhekikcdaiaaPak10
import Derived.Test.YtgckhekikcdaiaaPak5
namespace Go.Proofs.Ytgckhekikcdaiaa
open Go.RowKit Tri

theorem ownsB.off {w : World} {base V : Nat} {v : Value} {l : List Nat} (h : ownsB w base v l) (hl : l ≠ []) (hV : V < base) : ∃ p c, v = .slice p l.length c ∧ l.length ≤ c ∧ cellsB w p l ∧ offV p V := by
  obtain ⟨g, cap, rfl, hg, hc, hb⟩ := h.buf2 hl
  exact ⟨some ⟨g, 0, none⟩, cap, rfl, hc, hb.1, fun a o s e => by simp only [Option.some.injEq, Addr.mk.injEq] at e; omega⟩
/-- How it stands between two rounds of the search. -/
structure SrI (V f n p0 : Nat) (ps : Option Addr) (ns cs : Nat) (pe : Option Addr) (ne ce : Nat) (x : SrS) (vl vq : Value) (w wr : World) : Prop where
  loc : ∃ pl cl, isS wr V f n p0 (.slice ps ns cs) (.slice pe ne ce) (.slice pl x.loc.length cl) ∧ cellsB wr pl x.loc ∧ offV pl V
  last : ∃ pq cq, vq = .slice pq x.last.length cq ∧ x.last.length ≤ cq ∧ cellsB wr pq x.last ∧ offV pq V
  l : vl = .int .i64 (x.l : Nat)
  out : OutV V w wr
theorem srStep_ne {s : List Nat} {e r : Nat} {x : SrS} (h1 : x.loc ≠ []) (h2 : x.last ≠ []) : (srStep s e r x).loc ≠ [] ∧ (srStep s e r x).last ≠ [] := by
  unfold srStep
  split
  · exact ⟨h1, List.cons_ne_nil _ _⟩
  · split
    · refine ⟨plusL_ne _ _ _, ?_⟩
      intro h
      have := congrArg List.length h
      rw [show (⟨r + e - x.l, plusL x.loc x.last (gapL s x.loc r), scaledL x.loc (inv0 (gapL s x.loc r))⟩ : SrS).last = scaledL x.loc (inv0 (gapL s x.loc r)) from rfl, scaledL_len] at this
      exact h1 (List.eq_nil_of_length_eq_zero this)
    · exact ⟨plusL_ne _ _ _, List.cons_ne_nil _ _⟩
theorem srRun_ne (s : List Nat) (e : Nat) (loc : List Nat) (h : loc ≠ []) : ∀ k, (srRun s e loc k).loc ≠ [] ∧ (srRun s e loc k).last ≠ []
  | 0 => ⟨h, h⟩
  | k + 1 => srStep_ne (srRun_ne s e loc h k).1 (srRun_ne s e loc h k).2
set_option maxHeartbeats 8000000 in
set_option maxRecDepth 100000 in
theorem sol_search (V f n p0 : Nat) (ps : Option Addr) (cs : Nat) (s : List Nat) (pe : Option Addr) (ce e : Nat) (pl : Option Addr) (cl : Nat) (loc : List Nat) (w : World) (hS : isS w V f n p0 (.slice ps s.length cs) (.slice pe e ce) (.slice pl loc.length cl)) (hF : isF w f)
    (hs : cellsB w ps s) (hbs : bytesL s) (hls : s.length ≤ 1000) (hsV : offV ps V) (hl : cellsB w pl loc) (hbl : bytesL loc) (hll : loc.length = e + 1) (hlV : offV pl V) (hep : e ≤ p0) (hp64 : p0 ≤ 64) :
    Calls Try.prog 56 #[.pointer (some ⟨V, 0, none⟩)] w fun e' w' => e' = .returned (.int .i64 ((srRun s e loc (p0 - e)).l : Nat)) ∧ OutV V w w' ∧
      ∃ pl' cl', isS w' V f n p0 (.slice ps s.length cs) (.slice pe e ce) (.slice pl' (srRun s e loc (p0 - e)).loc.length cl') ∧ cellsB w' pl' (srRun s e loc (p0 - e)).loc ∧ offV pl' V := by
  have c2 : w.cell? ⟨V, 2, none⟩ = some (.int .i64 p0) := hS.cell 2 _ rfl
  have c4 : w.cell? ⟨V, 4, none⟩ = some (.slice pe e ce) := hS.cell 4 _ rfl
  have c5 : w.cell? ⟨V, 5, none⟩ = some (.slice pl loc.length cl) := hS.cell 5 _ rfl
  have hVw := hS.lt
  have HS := hid hS
  have HF := hid hF
  have HP := hid hs
  have HBS := hid hbs
  have HSV := hid hsV
  have HL := hid hl
  have HBL := hid hbl
  have HLV := hid hlV
  have HfV : Hid (f ≠ V) := isS_F hS hF
  have hne : loc ≠ [] := fun h => by rw [h] at hll; simp at hll
  have HNE := hid hne
  have HCl := hid (sl_CloneAny pl _ cl loc w rfl hl (by omega) (.inl hne))
  have HLL := hid hll
  clear hll
  clear hS hF hs hbs hsV hl hbl hlV hne
  (go_enter Try.func56, Try.ntmps56; try simp only [List.append])
  go_wp2_with ((with_reducible refine wpList_unguard ?_ ?_); (focus rfl))
  refine Calls.mono HCl.out ?_; rintro e' w1 ⟨v, rfl, hO, hB⟩
  have HI0 : Hid (SrI V f n p0 ps s.length cs pe e ce (srRun s e loc 0) (.int .i64 (e : Nat)) v w w1) := ⟨⟨pl, cl, HS.out.below hB, HL.out.below hB, HLV.out⟩, hO.off HNE.out hVw, rfl, OutV.of hB⟩
  clear hO hB HCl c2 c4 c5
  go_wp2_with ((with_reducible refine wpList_unguard ?_ ?_); (focus rfl))
  go_loopw [6, 4, 5] (fun r vl vq wr => ∃ k : Nat, k ≤ p0 - e ∧ r = .int .i64 ((e + 1 + k : Nat) : Int) ∧ SrI V f n p0 ps s.length cs pe e ce (srRun s e loc k) vl vq w wr) (fun r _ _ _ => p0 + 1 - (intOf r).toNat)
  case atStart => exact ⟨0, Nat.zero_le _, by simp, HI0.out⟩
  case round =>
    clear HI0
    obtain ⟨k, hk, rfl, hI⟩ := hrel
    obtain ⟨⟨pa, ca, hSa, hca, hpa⟩, ⟨pq, cq, rfl, hlq, hcq, hpq⟩, rfl, hO⟩ := hI
    have HS := hid hSa
    have HA := hid hca
    have HPA := hid hpa
    have HQ := hid hcq
    have HPQ := hid hpq
    have HO := hid hO
    obtain ⟨i1, i2, i3, i4, i5⟩ := srRun_inv s e loc HBL.out HLL.out k
    obtain ⟨j1, j2⟩ := srRun_ne s e loc HNE.out k
    have HX : Hid (srRun s e loc (k + 1) = srStep s e (e + 1 + k) (srRun s e loc k)) := rfl
    have HSTOP : Hid (k = p0 - e → srRun s e loc (p0 - e) = srRun s e loc k) := fun h => by rw [h]
    generalize srRun s e loc k = x at *
    obtain ⟨xl, xa, xq⟩ := x
    simp only at i1 i2 i3 i4 i5 j1 j2 hlq
    have HI1 := hid i1
    have HI2 := hid i2
    have HJ1 := hid j1
    have HJ2 := hid j2
    have c2 : wr.cell? ⟨V, 2, none⟩ = some (.int .i64 p0) := HS.out.cell 2 _ rfl
    have hVw' := HS.out.lt
    have HFr := hid (HF.out.outV HO.out HfV.out)
    have HPs := hid (HP.out.outV HO.out HSV.out)
    clear hSa hca hpa hcq hpq hO i1 i2 j1 j2
    obtain ⟨R, hR⟩ : ∃ R, e + 1 + k = R := ⟨_, rfl⟩
    rw [hR] at HX ⊢
    by_cases hlt : k < p0 - e
    · have q : decide ((R : Int) ≤ (p0 : Int)) = true := decide_eq_true (by omega)
      have hg := hid (sol_gap V f n p0 ps cs s _ pa ca xa R wr HS.out HFr.out HPs.out HBS.out (by omega) HA.out HI1.out (by omega) (by omega))
      have hgl := gapL_lt s xa R
      have HST : Hid (srStep s e R ⟨xl, xa, xq⟩ = if gapL s xa R = 0 then ⟨xl, xa, 0 :: xq⟩ else if 2 * xl ≤ R + e - 1 then ⟨R + e - xl, plusL xa xq (gapL s xa R), scaledL xa (inv0 (gapL s xa R))⟩ else ⟨xl, plusL xa xq (gapL s xa R), 0 :: xq⟩) := rfl
      generalize gapL s xa R = d at *
      go_wp2_with ((with_reducible refine wpList_unguard ?_ ?_); (focus rfl))
      refine Calls.mono hg.out ?_; rintro e' w2 ⟨rfl, hb⟩
      replace HS := hid (HS.out.below hb)
      replace HA := hid (HA.out.below hb)
      replace HQ := hid (HQ.out.below hb)
      replace HO := hid (HO.out.trans (OutV.of hb))
      replace HFr := hid (HFr.out.blw hb)
      have hV2 := HS.out.lt
      clear hg hb c2
      by_cases hd : d = 0
      · have qd : ((d : Int) == 0) = true := by rw [beq_iff_eq]; omega
        have hA : Below w2.heap.size w2 (w2.alloc (.cells #[.int .u8 0] 5)) := (Below.refl _ _).alloc (Nat.le_refl _) _
        have hown : ownsB (w2.alloc (.cells #[.int .u8 0] 5)) w2.heap.size (.slice (some ⟨w2.heap.size, 0, none⟩) 1 1) [0] := World.ownsRow_lit w2 #[.int .u8 0] 1 (Nat.le_refl _) (by unfold maxLen; omega) rfl
        have hqa := HQ.out.below hA
        go_wp2_with (at_builtin; refine wpList_pushB rfl _ _ rfl w2.heap.size _ [0] xq pq cq hown hqa HJ2.out rfl _ rfl rfl (by simp) (by omega) hA.size ?_)
        intro v' w' hq' hb'
        have hB2 := hid (hA.trans hb')
        obtain ⟨p3, c3, rfl, hc3, hcc, hoff⟩ := ownsB.off hq' (by simp) hV2
        have HN : Hid (SrI V f n p0 ps s.length cs pe e ce (srRun s e loc (k + 1)) (.int .i64 (xl : Nat)) (.slice p3 ([0] ++ xq).length c3) w w') := by
          show SrI _ _ _ _ _ _ _ _ _ _ _ _ _ _ _
          rw [HX.out, HST.out, if_pos hd]
          exact ⟨⟨pa, ca, HS.out.below hB2.out, HA.out.below hB2.out, HPA.out⟩, ⟨p3, c3, rfl, hc3, hcc, hoff⟩, rfl, HO.out.trans (OutV.of hB2.out)⟩
        clear hA hown hqa hq' hb' hc3 hcc hoff
        go_wp2_with ((with_reducible refine wpList_unguard ?_ ?_); (focus rfl))
        go_roundw
        case rel => exact ⟨k + 1, by omega, by rw [← hR]; go_num, HN.out⟩
        case measure => simp [intOf]; omega
      · have qd : ((d : Int) == 0) = false := by rw [beq_eq_false_iff_ne]; omega
        have c5 : w2.cell? ⟨V, 5, none⟩ = some (.slice pa xa.length ca) := HS.out.cell 5 _ rfl
        have hPl := hid (sol_plus V f n p0 _ _ _ pa pq _ ca _ cq xa xq d w2 HS.out HFr.out rfl HA.out HI1.out (by omega) rfl HQ.out HI2.out (by omega) hgl)
        rw [if_neg hd] at HST
        clear hd
        go_wp2_with ((with_reducible refine wpList_unguard ?_ ?_); (focus rfl))
        refine Calls.mono hPl.out ?_; rintro e' w3 ⟨p3, c3, rfl, hc3, hcell3, hb⟩
        replace HS := hid (HS.out.below hb)
        replace HA := hid (HA.out.below hb)
        replace HQ := hid (HQ.out.below hb)
        replace HO := hid (HO.out.trans (OutV.of hb))
        replace HFr := hid (HFr.out.blw hb)
        have hV3 := HS.out.lt
        have HC3 := hid hcell3
        have HP3 := hid (isS_off HS.out hcell3 (plusL_ne xa xq d))
        clear hPl hb hcell3 c5 hV2
        by_cases hl2 : 2 * xl ≤ R + e - 1
        · have q2 : decide (2 * (xl : Int) ≤ (R : Int) + (e : Int) - 1) = true := decide_eq_true (by omega)
          rw [if_pos hl2] at HST
          have hIn := hid (sol_Inv f d w3 HFr.out hgl)
          have hiv := inv0_lt d
          generalize inv0 d = iv at *
          have hSc := hid (sol_scaled V f n p0 _ _ _ pa _ ca xa iv w3 HS.out HFr.out rfl HA.out HI1.out (by omega) HJ1.out hiv)
          have c0 : w3.cell? ⟨V, 0, none⟩ = some (.pointer (some ⟨f, 0, none⟩)) := HS.out.cell 0 _ rfl
          have c5 : w3.cell? ⟨V, 5, none⟩ = some (.slice pa xa.length ca) := HS.out.cell 5 _ rfl
          go_wp2_with ((with_reducible refine wpList_unguard ?_ ?_); (focus rfl))
          refine Calls.mono hIn.out ?_; rintro e' w4 ⟨rfl, rfl⟩
          go_wp2_with ((with_reducible refine wpList_unguard ?_ ?_); (focus rfl))
          refine Calls.mono hSc.out ?_; rintro e' w4 ⟨p4, c4, rfl, hc4, hcell4, hb⟩
          have HS4 := hid (HS.out.below hb)
          have c5d : w4.cell? ⟨V, 5, none⟩ = some (.slice pa xa.length ca) := HS4.out.cell 5 _ rfl
          have f5d : w4.frozen? ⟨V, 5, none⟩ = false := HS4.out.free 5
          have hsne : scaledL xa iv ≠ [] := fun h => HJ1.out (by have := congrArg List.length h; rw [scaledL_len] at this; exact List.eq_nil_of_length_eq_zero this)
          have HP4 := isS_off HS4.out hcell4 hsne
          have HOS : OutV V w4 (w4.setCell ⟨V, 5, none⟩ (.slice p3 (plusL xa xq d).length c3)) := (OutV.of (Below.refl _ _)).set 5 _
          have HN : Hid (SrI V f n p0 ps s.length cs pe e ce (srRun s e loc (k + 1)) (.int .i64 ((R : Int) + (e : Int) - (xl : Int))) (.slice p4 (scaledL xa iv).length c4) w (w4.setCell ⟨V, 5, none⟩ (.slice p3 (plusL xa xq d).length c3))) := by
            show SrI _ _ _ _ _ _ _ _ _ _ _ _ _ _ _
            rw [HX.out, HST.out]
            exact ⟨⟨p3, c3, HS4.out.setLoc _, (HC3.out.below hb).outV HOS HP3.out, HP3.out⟩, ⟨p4, c4, rfl, hc4, hcell4.outV HOS HP4, HP4⟩, congrArg (Value.int .i64) (by show (R : Int) + e - xl = ((R + e - xl : Nat) : Int); omega), (HO.out.trans (OutV.of hb)).trans HOS⟩
          clear hIn hSc c0 c5 hb HS4 hsne HP4 HOS hcell4
          go_wp2_with ((with_reducible refine wpList_unguard ?_ ?_); (focus rfl))
          go_roundw
          case rel => exact ⟨k + 1, by omega, by rw [← hR]; go_num, HN.out⟩
          case measure => simp [intOf]; omega
        · have q2 : decide (2 * (xl : Int) ≤ (R : Int) + (e : Int) - 1) = false := decide_eq_false (by omega)
          rw [if_neg hl2] at HST
          have hA : Below w3.heap.size w3 (w3.alloc (.cells #[.int .u8 0] 5)) := (Below.refl _ _).alloc (Nat.le_refl _) _
          have hown : ownsB (w3.alloc (.cells #[.int .u8 0] 5)) w3.heap.size (.slice (some ⟨w3.heap.size, 0, none⟩) 1 1) [0] := World.ownsRow_lit w3 #[.int .u8 0] 1 (Nat.le_refl _) (by unfold maxLen; omega) rfl
          have hqa := HQ.out.below hA
          go_wp2_with (at_builtin; refine wpList_pushB rfl _ _ rfl w3.heap.size _ [0] xq pq cq hown hqa HJ2.out rfl _ rfl rfl (by simp) (by omega) hA.size ?_)
          intro v' w4 hq' hb'
          have hb := hA.trans hb'
          obtain ⟨p4, c4, rfl, hc4, hcell4, HP4⟩ := ownsB.off hq' (by simp) hV3
          have HS4 := hid (HS.out.below hb)
          have c5d : w4.cell? ⟨V, 5, none⟩ = some (.slice pa xa.length ca) := HS4.out.cell 5 _ rfl
          have f5d : w4.frozen? ⟨V, 5, none⟩ = false := HS4.out.free 5
          have HOS : OutV V w4 (w4.setCell ⟨V, 5, none⟩ (.slice p3 (plusL xa xq d).length c3)) := (OutV.of (Below.refl _ _)).set 5 _
          have HN : Hid (SrI V f n p0 ps s.length cs pe e ce (srRun s e loc (k + 1)) (.int .i64 (xl : Nat)) (.slice p4 ([0] ++ xq).length c4) w (w4.setCell ⟨V, 5, none⟩ (.slice p3 (plusL xa xq d).length c3))) := by
            show SrI _ _ _ _ _ _ _ _ _ _ _ _ _ _ _
            rw [HX.out, HST.out]
            exact ⟨⟨p3, c3, HS4.out.setLoc _, (HC3.out.below hb).outV HOS HP3.out, HP3.out⟩, ⟨p4, c4, rfl, hc4, hcell4.outV HOS HP4, HP4⟩, rfl, (HO.out.trans (OutV.of hb)).trans HOS⟩
          clear hA hown hqa hq' hb' hb HS4 HP4 HOS hcell4 hc4
          go_wp2_with ((with_reducible refine wpList_unguard ?_ ?_); (focus rfl))
          go_roundw
          case rel => exact ⟨k + 1, by omega, by rw [← hR]; go_num, HN.out⟩
          case measure => simp [intOf]; omega
    · have q : decide ((R : Int) ≤ (p0 : Int)) = false := decide_eq_false (by omega)
      have HST0 := hid (HSTOP.out (by omega))
      go_wp2_with ((with_reducible refine wpList_unguard ?_ ?_); (focus rfl))
      go_ret
      rw [HST0.out]
      exact ⟨rfl, HO.out, pa, ⟨ca, HS.out⟩, HA.out, HPA.out⟩
end Go.Proofs.Ytgckhekikcdaiaa

namespace Go.Proofs.Ytgckhekikcdaiaa
open Go.RowKit Tri

set_option maxHeartbeats 2000000 in
set_option maxRecDepth 100000 in
theorem rs_Size (c f n k : Nat) (w : World) (hR : isR w c f n k) :
    Calls Try.prog 14 #[.pointer (some ⟨c, 0, none⟩)] w fun e w' => e = .returned (.tuple #[.int .i64 (n : Nat), .int .i64 (k : Nat)]) ∧ Below w.heap.size w w' := by
  have c1 := hR.n
  have c2 := hR.k
  clear hR
  (go_enter Try.func14, Try.ntmps14; try simp only [List.append])
  go_upto_region 3 with fail
  go_region
  go_wp2_with ((with_reducible refine wpList_unguard ?_ ?_); (focus rfl))
  go_ret2
  exact ⟨rfl, (Below.refl _ _).drew⟩
set_option maxHeartbeats 2000000 in
set_option maxRecDepth 100000 in
theorem rs_Over (c f n k : Nat) (w : World) (hR : isR w c f n k) :
    Calls Try.prog 75 #[.pointer (some ⟨c, 0, none⟩)] w fun e w' => e = .returned (.pointer (some ⟨f, 0, none⟩)) ∧ w = w' := by
  have c0 := hR.field
  clear hR
  (go_enter Try.func75, Try.ntmps75; try simp only [List.append])
  go_wp2_with ((with_reducible refine wpList_unguard ?_ ?_); (focus rfl))
  go_ret
  exact ⟨rfl, rfl⟩
set_option maxHeartbeats 2000000 in
set_option maxRecDepth 100000 in
theorem sol_outside (N n0 : Nat) (x : Int) (w : World) (hN : w.cell? ⟨N, 0, none⟩ = some (.int .i64 (n0 : Nat))) :
    Calls Try.prog 70 #[.int .i64 x, .pointer (some ⟨N, 0, none⟩)] w fun e w' => e = .returned (.bool (decide (x < 0 ∨ (n0 : Int) ≤ x))) ∧ w = w' := by
  by_cases h : x < 0
  · have q : decide (x < 0) = true := decide_eq_true h
    have hr : Hid (decide (x < 0 ∨ (n0 : Int) ≤ x) = true) := decide_eq_true (.inl h)
    clear h
    (go_enter Try.func70, Try.ntmps70; try simp only [List.append])
    go_wp2_with ((with_reducible refine wpList_unguard ?_ ?_); (focus rfl))
    go_ret
    exact ⟨by rw [hr.out]; rfl, rfl⟩
  · have q : decide (x < 0) = false := decide_eq_false h
    obtain ⟨z, hz⟩ : ∃ z, decide ((n0 : Int) ≤ x) = z := ⟨_, rfl⟩
    have hr : Hid (decide (x < 0 ∨ (n0 : Int) ≤ x) = z) := by
      show _ = _
      rw [← hz, Bool.eq_iff_iff, decide_eq_true_eq, decide_eq_true_eq]
      exact ⟨fun h1 => h1.resolve_left h, .inr⟩
    clear h
    (go_enter Try.func70, Try.ntmps70; try simp only [List.append])
    go_wp2_with ((with_reducible refine wpList_unguard ?_ ?_); (focus rfl))
    go_ret
    exact ⟨by rw [hr.out]; rfl, rfl⟩
set_option maxHeartbeats 2000000 in
set_option maxRecDepth 100000 in
theorem sl_IndexFuncO (N n0 : Nat) (p : Option Addr) (n c : Nat) (l : List Int) (w : World) (hn : n = l.length) (hp : cellsZ w p l) (hl : l.length ≤ 1000000) (hN : w.cell? ⟨N, 0, none⟩ = some (.int .i64 (n0 : Nat))) :
    Calls Try.prog 95 #[.slice p n c, .func (.func 70) #[] #[.pointer (some ⟨N, 0, none⟩)]] w
      fun e w' => ixRet (fun i => decide (i < 0 ∨ (n0 : Int) ≤ i)) l e ∧ w = w' := by
  subst hn
  have HP := hid hp
  clear hp
  (go_enter Try.func95, Try.ntmps95; try simp only [List.append])
  go_wp2_with ((with_reducible refine wpList_unguard ?_ ?_); (focus rfl))
  go_loopw [8] (fun v wr => ∃ k : Nat, k ≤ l.length ∧ v = .int .i64 k ∧ wr = w ∧ (l.take k).any (fun i => decide (i < 0 ∨ (n0 : Int) ≤ i)) = false) (fun v _ => l.length - (intOf v).toNat)
  case atStart => exact ⟨0, Nat.zero_le _, rfl, rfl, rfl⟩
  case round =>
    obtain ⟨k, hk, rfl, rfl, ht⟩ := hrel
    have HT := hid ht
    clear ht
    by_cases hlt : k < l.length
    · obtain ⟨b, o, rfl, hc⟩ := HP.out k hlt
      have HX : Hid ((l.take (k + 1)).any (fun i => decide (i < 0 ∨ (n0 : Int) ≤ i)) = ((l.take k).any (fun i => decide (i < 0 ∨ (n0 : Int) ≤ i)) || decide (l.getD k 0 < 0 ∨ (n0 : Int) ≤ l.getD k 0))) := by
        show _ = _
        rw [List.take_succ_eq_append_getElem hlt, List.any_append, List.getD_eq_getElem?_getD, List.getElem?_eq_getElem hlt, Option.getD_some]
        simp
      have HM : Hid (decide (l.getD k 0 < 0 ∨ (n0 : Int) ≤ l.getD k 0) = true → l.any (fun i => decide (i < 0 ∨ (n0 : Int) ≤ i)) = true) := by
        intro h
        rw [List.any_eq_true]
        refine ⟨l[k], List.getElem_mem hlt, ?_⟩
        rw [List.getD_eq_getElem?_getD, List.getElem?_eq_getElem hlt, Option.getD_some] at h
        exact h
      have hCo := sol_outside N n0 (l.getD k 0) wr hN
      generalize l.getD k 0 = x at *
      obtain ⟨z, hz⟩ : ∃ z, decide (x < 0 ∨ (n0 : Int) ≤ x) = z := ⟨_, rfl⟩
      rw [hz] at hCo HX HM
      rw [HT.out] at HX
      clear hz
      go_wp2_with ((with_reducible refine wpList_unguard ?_ ?_); (focus rfl))
      refine Calls.mono hCo ?_; rintro e w2 ⟨rfl, rfl⟩
      clear hCo
      cases z with
      | true =>
        go_wp2_with ((with_reducible refine wpList_unguard ?_ ?_); (focus rfl))
        go_ret
        exact ⟨⟨k, rfl, by rw [HM.out trivial]; exact decide_eq_true (by omega)⟩, rfl⟩
      | false =>
        go_wp2_with ((with_reducible refine wpList_unguard ?_ ?_); (focus rfl))
        go_roundw
        case rel => exact ⟨k + 1, by omega, by go_num, trivial, by rw [HX.out]; rfl⟩
        case measure => simp [intOf]; omega
    · have hk2 : l.take k = l := List.take_of_length_le (by omega)
      have HA : Hid (l.any (fun i => decide (i < 0 ∨ (n0 : Int) ≤ i)) = false) := by have := HT.out; rw [hk2] at this; exact this
      clear hk2
      go_wp2_with ((with_reducible refine wpList_unguard ?_ ?_); (focus rfl))
      go_ret
      exact ⟨⟨-1, rfl, by rw [HA.out]; rfl⟩, rfl⟩
set_option maxHeartbeats 2000000 in
set_option maxRecDepth 100000 in
theorem sl_ContainsFuncO (N n0 : Nat) (p : Option Addr) (n c : Nat) (l : List Int) (w : World) (hn : n = l.length) (hp : cellsZ w p l) (hl : l.length ≤ 1000000) (hN : w.cell? ⟨N, 0, none⟩ = some (.int .i64 (n0 : Nat))) :
    Calls Try.prog 71 #[.slice p n c, .func (.func 70) #[] #[.pointer (some ⟨N, 0, none⟩)]] w
      fun e w' => e = .returned (.bool (l.any fun i => decide (i < 0 ∨ (n0 : Int) ≤ i))) ∧ w = w' := by
  subst hn
  have hI := hid (sl_IndexFuncO N n0 p _ c l w rfl hp hl hN)
  clear hp
  (go_enter Try.func71, Try.ntmps71; try simp only [List.append])
  go_wp2_with ((with_reducible refine wpList_unguard ?_ ?_); (focus rfl))
  refine Calls.mono hI.out ?_; rintro e w' ⟨⟨r, rfl, hr⟩, rfl⟩
  have HR := hid hr
  clear hr hI
  go_wp2_with ((with_reducible refine wpList_unguard ?_ ?_); (focus rfl))
  go_ret
  exact ⟨by rw [← HR.out]; rfl, rfl⟩
set_option maxHeartbeats 1000000 in
theorem sol_Within_nil (a b : Int) (w : World) (hR : Calls Try.prog 14 #[.pointer none] w fun e w' => e = .returned (.tuple #[.int .i64 0, .int .i64 0]) ∧ w = w') :
    Calls Try.prog 32 #[.pointer none, .int .i64 a, .int .i64 b] w fun e w' => e = .returned (.bool false) ∧ w = w' := by
  (go_enter Try.func32, Try.ntmps32; try simp only [List.append])
  go_wp2_with ((with_reducible refine wpList_unguard ?_ ?_); (focus rfl))
  refine Calls.mono hR ?_; rintro e w' ⟨rfl, rfl⟩
  go_wp2_with ((with_reducible refine wpList_unguard ?_ ?_); (focus rfl))
  go_ret
  exact ⟨rfl, rfl⟩
end Go.Proofs.Ytgckhekikcdaiaa
