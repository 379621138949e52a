/-
  PolyValues, walked: values, derivatives, degrees and shifts of any polynomial are what the document says.
-/
import Derived.Test.YtlipedigmokgbaaPolyW
import Derived.Test.YtlipedigmokgbaaPolyT
namespace Tri
theorem trim_pshift (l : List Nat) (k : Int) : trim (pshift l k) = pshift l k := by
  unfold pshift
  split
  · rfl
  · rename_i h
    refine trim_nz _ ?_
    have h2 := trim_head l h
    have h3 : 0 < (trim l).length := List.length_pos_iff.2 h
    simp only [List.getD_eq_getElem?_getD] at h2 ⊢
    rwa [List.getElem?_append_left h3]
theorem pshift_tail (l : List Nat) (k : Int) (i : Nat) (h : (rof l).length ≤ i) : (pshift l k).getD i 0 = 0 := by
  rw [rof_length] at h
  unfold pshift
  split
  · rfl
  · rw [List.getD_eq_getElem?_getD, List.getElem?_append_right h, ← List.getD_eq_getElem?_getD, getD_zeros]
theorem pshift_length (l : List Nat) (k : Int) : (pshift l k).length = if (rof l).length = 0 then 0 else (rof l).length + shiftN k := by
  rw [rof_length]
  unfold pshift
  by_cases h : trim l = []
  · rw [if_pos h, h]; rfl
  · rw [if_neg h, if_neg (by intro e; exact h (List.eq_nil_of_length_eq_zero e)), List.length_append, List.length_replicate]
theorem pder_bytes {l : List Nat} (h : bytesL l) : bytesL (pder l) := by
  rw [pder_rder, rbytes_eq]; exact trim_bytes (rev_bytes (rder_bytes (rof_bytes h)))
theorem pder_len (l : List Nat) : (pder l).length ≤ l.length := by
  rw [pder_rder, rbytes_eq]
  have h1 := trim_length_le (rder (rof l)).reverse
  have h2 := rder_length (rof l)
  have h3 := rof_length l
  have h4 := trim_length_le l
  rw [List.length_reverse] at h1
  omega
end Tri
namespace Go.Proofs.Ytlipedigmokgbaa
open Go.RowKit Tri

theorem cellsR.single {w : World} {p : Option Addr} {c : Nat} {a : List Nat} (t : TypeId) (hp : cellsB w p a) (hle : a.length ≤ c) : cellsR (w.alloc (.cells #[.slice p a.length c] t)) (some ⟨w.heap.size, 0, none⟩) [a] := by
  intro i hi
  match i, hi with
  | 0, _ => exact ⟨_, _, p, c, rfl, by rw [World.cell?_alloc_new]; rfl, hle, hp.alloc _⟩

theorem ownsB.le {w : World} {base : Nat} {p : Option Addr} {n c : Nat} {l : List Nat} (h : ownsB w base (.slice p n c) l) : l.length ≤ c := by
  rcases h.buf with ⟨h1, h2⟩ | ⟨g, cap, h1, h2, h3, _⟩
  · rw [h2]; exact Nat.zero_le _
  · simp only [Value.slice.injEq] at h1
    omega
set_option maxHeartbeats 4000000 in
set_option maxRecDepth 100000 in
theorem polyValues.walk (a0 : Option Addr) (len0 cap0 : Nat) (l0 : List Nat) (a1 : Int) (a2 : Int) (w : World) (w0 : IsBytes w a0 len0 cap0 l0) (w1 : (Lit.int .u8 a1).wf = true) (w2 : (Lit.int .i64 a2).wf = true) :
    Calls Try.prog 5 #[.slice a0 len0 cap0, .int .u8 a1, .int .i64 a2] w fun e w' => e = .returned (.bool true) ∧ Below w.heap.size w w' := by
  obtain ⟨x, hx, rfl⟩ := u8_of w1
  clear w1 w2
  obtain ⟨hn, hlc, hcap, hS, hss⟩ := w0
  subst hn
  have HS := hid hS
  have HB : Hid (bytesL l0) := hid hss
  clear hS hss
  have hll : l0.length ≤ 140737488351232 := by omega
  (go_enter Try.func5, Try.ntmps5; try simp only [List.append])
  go_wp2_with ((with_reducible refine wpList_unguard ?_ ?_); (focus rfl))
  (refine Calls.mono (law05_awake _) ?_; rintro e w2 ⟨rfl, hbA⟩; have HBA := hid hbA; clear hbA)
  go_wp2_with ((with_reducible refine wpList_unguard ?_ ?_); (focus rfl))
  have C1 := hid (cellsR.single 28 (HS.out.below HBA.out) hlc)
  have hB := hid (HBA.out.alloc HBA.out.size (.cells #[.slice a0 l0.length cap0] 28))
  clear HBA
  generalize w2.alloc (.cells #[.slice a0 l0.length cap0] 28) = w3 at *
  refine Calls.mono (law05_great _ _ _ [l0] w3 rfl C1.out (by simp) (by intro a ha; simp only [List.mem_singleton] at ha; subst ha; exact hll)) ?_; rintro e w' ⟨rfl, rfl⟩
  by_cases hg : l0.length ≤ 60
  · have hL : longP [l0] = false := by unfold longP; simp; omega
    rw [hL]
    clear hL C1 hll
    go_wp2_with ((with_reducible refine wpList_unguard ?_ ?_); (focus rfl))
    refine Calls.mono (gf_NewK w w3 hB.out) ?_; rintro e w4 ⟨b, rfl, K0⟩; have K := hid K0; clear K0 hB
    go_wp2_with ((with_reducible refine wpList_unguard ?_ ?_); (focus rfl))
    refine Calls.mono (ref5_Of a0 _ _ l0 w4 rfl (HS.out.below K.out.1) HB.out (by omega)) ?_
    rintro e w5 ⟨pw, cw, rfl, hlew, hcw, hbel⟩
    have K5 := hid (K.out.next hbel)
    have HW := hid hcw
    clear hbel hcw K
    have HWB := hid (rof_bytes HB.out)
    have hWt := rof_length l0
    have htl := trim_length_le l0
    have hKI : Hid ((shiftN a2 : Int) = min (max a2 0) 1000) := by show _ = _; unfold shiftN; omega
    obtain ⟨m0, hm0⟩ : ∃ m0 : Int, (if a2 < 0 then 0 else a2) = m0 := ⟨_, rfl⟩
    have hX : (if 1000 < m0 then 1000 else m0) = (shiftN a2 : Int) := by
      have := hKI.out
      rw [← hm0]
      by_cases h : a2 < 0
      · rw [if_pos h]; simp; omega
      · rw [if_neg h]; split <;> omega
    have hKle := shiftN_le a2
    have HSL := hid (pshift_length l0 a2)
    have HST := hid (trim_pshift l0 a2)
    have HSZ := hid (pshift_tail l0 a2)
    have HEV := hid (reval_rof x HB.out)
    have HDR := hid (pder_rder l0)
    have HTR : Hid (trim l0 = rbytes (rof l0)) := (rbytes_rof l0).symm
    have HDB := hid (rder_bytes (rof_bytes HB.out))
    have hdl := rder_length (rof l0)
    have hdl2 := pder_len l0
    have HWT := hid hWt
    clear hWt
    generalize rof l0 = W at *
    generalize shiftN a2 = K at *
    have hW60 : W.length ≤ 60 := by have := HWT.out; omega
    go_wp2_with ((with_reducible refine wpList_unguard ?_ ?_); (focus rfl))
    refine Calls.mono (poly_Shift a0 _ _ l0 a2 w5 rfl hlc (HS.out.below K5.out.1) (by omega)) ?_
    rintro e w6 ⟨v6, rfl, hO, hbel⟩
    have K6 := hid (K5.out.next hbel)
    have HW6 := hid (HW.out.below hbel)
    obtain ⟨ps, cs, rfl, hcs⟩ := hO.cells
    have hscc : (pshift l0 a2).length ≤ cs := hO.le
    have HSC := hid hcs
    have hsl := pshift_len l0 a2
    clear hbel hO hcs K5 HW hX hm0
    generalize pshift l0 a2 = S at *
    by_cases h0 : W.length = 0
    · have hS0 : S.length = 0 := by rw [HSL.out, if_pos h0]
      have HnW : Hid (0 = W.length) := h0.symm
      rw [h0, hS0]
      have h0' := hid h0
      clear h0 hS0
      go_wp2_with ((with_reducible refine wpList_unguard ?_ ?_); (focus rfl))
      go_loop [60] (fun i => i = .int .i64 0) (fun i => 0)
      case atStart => rfl
      case round =>
        subst hrel
        go_wp2_with ((with_reducible refine wpList_unguard ?_ ?_); (focus rfl))
        refine Calls.mono (poly_Eval b _ _ _ l0 x w6 K6.out.2 rfl (HS.out.below K6.out.1) HB.out hx (by omega)) ?_; rintro e w7 ⟨rfl, hK⟩
        have K7 := hid (K6.out.next hK.1)
        have HW7 := hid (HW6.out.below hK.1)
        have hP := peval_lt x HB.out
        clear hK
        have HEV' := HEV
        generalize peval x l0 = P at *
        have hwP : IntKind.i64.wrap (P : Int) = (P : Int) := by rw [IntKind.wrap_i64]; omega
        have hwx : IntKind.i64.wrap (x : Int) = (x : Int) := by rw [IntKind.wrap_i64]; omega
        go_wp2_with ((with_reducible refine wpList_unguard ?_ ?_); (focus rfl))
        refine Calls.mono (ref5_Eval pw _ cw W x w7 HnW.out HW7.out HWB.out hx (by omega)) ?_; rintro e w' ⟨rfl, rfl⟩
        rw [HEV'.out]
        go_wp2_with ((with_reducible refine wpList_unguard ?_ ?_); (focus rfl))
        refine Calls.mono (poly_Derive b a0 _ _ l0 w7 K7.out.2 rfl hlc (HS.out.below K7.out.1) (by omega)) ?_
        rintro e w8 ⟨v8, rfl, hO, hbel⟩
        have K8 := hid (K7.out.next hbel)
        have HW8 := hid (HW7.out.below hbel)
        obtain ⟨p8, c8, rfl, hc8⟩ := hO.cells
        have HC8 := hid hc8
        clear hbel hO hc8
        go_wp2_with ((with_reducible refine wpList_unguard ?_ ?_); (focus rfl))
        refine Calls.mono (ref5_Derive pw _ cw W w8 HnW.out HW8.out HWB.out (by omega)) ?_
        rintro e w9 ⟨p9, c9, rfl, hle9, hc9, hbel⟩
        have K9 := hid (K8.out.next hbel)
        have HW9 := hid (HW8.out.below hbel)
        have HC9 := hid hc9
        have HD9 := hid (HC8.out.below hbel)
        clear hbel hc9
        have hdl' : (rder W).length ≤ 100000 := by omega
        go_wp2_with ((with_reducible refine wpList_unguard ?_ ?_); (focus rfl))
        refine Calls.mono (ref5_Same p8 p9 _ c8 _ c9 (pder l0) (rder W) w9 rfl HD9.out rfl hle9 HC9.out HDB.out (by omega) hdl') ?_
        rintro e w10 ⟨rfl, hbel⟩
        rw [decide_eq_true HDR.out]
        have K10 := hid (K9.out.next hbel)
        have HW10 := hid (HW9.out.below hbel)
        clear hbel
        go_wp2_with ((with_reducible refine wpList_unguard ?_ ?_); (focus rfl))
        refine Calls.mono (poly_Degree a0 _ _ l0 w10 rfl hlc (HS.out.below K10.out.1) (by omega)) ?_
        rintro e w11 ⟨rfl, hbel⟩
        rw [← HWT.out, h0'.out]
        have K11 := hid (K10.out.next hbel)
        have HW11 := hid (HW10.out.below hbel)
        clear hbel
        have hwl : IntKind.i64.wrap ((W.length : Int) - 1) = (W.length : Int) - 1 := by rw [IntKind.wrap_i64]; omega
        go_wp2_with ((with_reducible refine wpList_unguard ?_ ?_); (focus rfl))
        refine Calls.mono (poly_Trim a0 _ _ l0 w11 rfl hlc (HS.out.below K11.out.1) (by omega)) ?_
        rintro e w12 ⟨v12, rfl, hO, hbel⟩
        have K12 := hid (K11.out.next hbel)
        have HW12 := hid (HW11.out.below hbel)
        obtain ⟨p12, c12, rfl, hc12⟩ := hO.cells
        have HC12 := hid hc12
        clear hbel hO hc12
        go_wp2_with ((with_reducible refine wpList_unguard ?_ ?_); (focus rfl))
        refine Calls.mono (ref5_Same p12 pw _ c12 _ cw (trim l0) W w12 rfl HC12.out HnW.out (Nat.zero_le _) HW12.out HWB.out (by omega) (by omega)) ?_
        rintro e w13 ⟨rfl, hbel⟩
        rw [decide_eq_true HTR.out]
        have K13 := hid (K12.out.next hbel)
        clear hbel
        go_wp2_with ((with_reducible refine wpList_unguard ?_ ?_); (focus rfl))
        go_ret
        exact ⟨rfl, K13.out.1⟩
    · have hS0 : Hid (S.length = W.length + K) := by show _ = _; rw [HSL.out, if_neg h0]
      have ht1 : decide (0 < (W.length : Int)) = true := decide_eq_true (by omega)
      have hw1 : IntKind.i64.wrap ((W.length : Int) + (K : Int)) = (W.length : Int) + (K : Int) := by rw [IntKind.wrap_i64]; omega
      have hw2 : IntKind.i64.wrap ((W.length : Int) - 1) = (W.length : Int) - 1 := by rw [IntKind.wrap_i64]; omega
      have hw3 : IntKind.i64.wrap ((W.length : Int) - 1 + (K : Int)) = (W.length : Int) - 1 + (K : Int) := by rw [IntKind.wrap_i64]; omega
      have ht2 : ((W.length : Int) == 0) = false := by rw [beq_eq_false_iff_ne]; omega
      have ht3 : ((S.length : Int) != (W.length : Int) + (K : Int)) = false := by have := hS0.out; rw [bne_eq_false_iff_eq]; omega
      have ht4 : ((S.length : Int) - 1 != (W.length : Int) - 1 + (K : Int)) = false := by have := hS0.out; rw [bne_eq_false_iff_eq]; omega
      go_wp2_with ((with_reducible refine wpList_unguard ?_ ?_); (focus rfl))
      refine Calls.mono (poly_Degree ps _ cs S w6 rfl hscc HSC.out (by omega)) ?_
      rintro e w6' ⟨rfl, hbel⟩
      rw [HST.out]
      replace K6 := hid (K6.out.next hbel)
      replace HW6 := hid (HW6.out.below hbel)
      replace HSC := hid (HSC.out.below hbel)
      clear hbel
      go_wp2_with ((with_reducible refine wpList_unguard ?_ ?_); (focus rfl))
      go_loop [60] (fun i => ∃ k : Nat, k ≤ S.length ∧ i = .int .i64 k) (fun i => S.length - (intOf i).toNat)
      case atStart => exact ⟨0, Nat.zero_le _, rfl⟩
      case round =>
        obtain ⟨k, hk, rfl⟩ := hrel
        by_cases hlt : k < S.length
        · by_cases hge : W.length ≤ k
          · obtain ⟨a, o, rfl, hc⟩ := HSC.out k hlt
            rw [HSZ.out k hge] at hc
            have hge' : decide ((W.length : Int) ≤ (k : Int)) = true := by simpa using hge
            go_wp2_with ((with_reducible refine wpList_unguard ?_ ?_); (focus rfl))
            go_round
            case rel => exact ⟨k + 1, by omega, by go_num⟩
            case measure => simp [intOf]; omega
          · have hge' : decide ((W.length : Int) ≤ (k : Int)) = false := by simpa using hge
            go_wp2_with ((with_reducible refine wpList_unguard ?_ ?_); (focus rfl))
            go_round
            case rel => exact ⟨k + 1, by omega, by go_num⟩
            case measure => simp [intOf]; omega
        · go_wp2_with ((with_reducible refine wpList_unguard ?_ ?_); (focus rfl))
          refine Calls.mono (poly_Eval b _ _ _ l0 x w6' K6.out.2 rfl (HS.out.below K6.out.1) HB.out hx (by omega)) ?_; rintro e w7 ⟨rfl, hK⟩
          have K7 := hid (K6.out.next hK.1)
          have HW7 := hid (HW6.out.below hK.1)
          have hP := peval_lt x HB.out
          clear hK
          have HEV' := HEV
          generalize peval x l0 = P at *
          have hwP : IntKind.i64.wrap (P : Int) = (P : Int) := by rw [IntKind.wrap_i64]; omega
          have hwx : IntKind.i64.wrap (x : Int) = (x : Int) := by rw [IntKind.wrap_i64]; omega
          go_wp2_with ((with_reducible refine wpList_unguard ?_ ?_); (focus rfl))
          refine Calls.mono (ref5_Eval pw _ cw W x w7 rfl HW7.out HWB.out hx (by omega)) ?_; rintro e w' ⟨rfl, rfl⟩
          rw [HEV'.out]
          go_wp2_with ((with_reducible refine wpList_unguard ?_ ?_); (focus rfl))
          refine Calls.mono (poly_Derive b a0 _ _ l0 w7 K7.out.2 rfl hlc (HS.out.below K7.out.1) (by omega)) ?_
          rintro e w8 ⟨v8, rfl, hO, hbel⟩
          have K8 := hid (K7.out.next hbel)
          have HW8 := hid (HW7.out.below hbel)
          obtain ⟨p8, c8, rfl, hc8⟩ := hO.cells
          have HC8 := hid hc8
          clear hbel hO hc8
          go_wp2_with ((with_reducible refine wpList_unguard ?_ ?_); (focus rfl))
          refine Calls.mono (ref5_Derive pw _ cw W w8 rfl HW8.out HWB.out (by omega)) ?_
          rintro e w9 ⟨p9, c9, rfl, hle9, hc9, hbel⟩
          have K9 := hid (K8.out.next hbel)
          have HW9 := hid (HW8.out.below hbel)
          have HC9 := hid hc9
          have HD9 := hid (HC8.out.below hbel)
          clear hbel hc9
          have hdl' : (rder W).length ≤ 100000 := by omega
          go_wp2_with ((with_reducible refine wpList_unguard ?_ ?_); (focus rfl))
          refine Calls.mono (ref5_Same p8 p9 _ c8 _ c9 (pder l0) (rder W) w9 rfl HD9.out rfl hle9 HC9.out HDB.out (by omega) hdl') ?_
          rintro e w10 ⟨rfl, hbel⟩
          rw [decide_eq_true HDR.out]
          have K10 := hid (K9.out.next hbel)
          have HW10 := hid (HW9.out.below hbel)
          clear hbel
          go_wp2_with ((with_reducible refine wpList_unguard ?_ ?_); (focus rfl))
          refine Calls.mono (poly_Degree a0 _ _ l0 w10 rfl hlc (HS.out.below K10.out.1) (by omega)) ?_
          rintro e w11 ⟨rfl, hbel⟩
          rw [← HWT.out]
          have K11 := hid (K10.out.next hbel)
          have HW11 := hid (HW10.out.below hbel)
          clear hbel
          have hwl : IntKind.i64.wrap ((W.length : Int) - 1) = (W.length : Int) - 1 := by rw [IntKind.wrap_i64]; omega
          go_wp2_with ((with_reducible refine wpList_unguard ?_ ?_); (focus rfl))
          refine Calls.mono (poly_Trim a0 _ _ l0 w11 rfl hlc (HS.out.below K11.out.1) (by omega)) ?_
          rintro e w12 ⟨v12, rfl, hO, hbel⟩
          have K12 := hid (K11.out.next hbel)
          have HW12 := hid (HW11.out.below hbel)
          obtain ⟨p12, c12, rfl, hc12⟩ := hO.cells
          have HC12 := hid hc12
          clear hbel hO hc12
          go_wp2_with ((with_reducible refine wpList_unguard ?_ ?_); (focus rfl))
          refine Calls.mono (ref5_Same p12 pw _ c12 _ cw (trim l0) W w12 rfl HC12.out rfl hlew HW12.out HWB.out (by omega) (by omega)) ?_
          rintro e w13 ⟨rfl, hbel⟩
          rw [decide_eq_true HTR.out]
          have K13 := hid (K12.out.next hbel)
          clear hbel
          go_wp2_with ((with_reducible refine wpList_unguard ?_ ?_); (focus rfl))
          go_ret
          exact ⟨rfl, K13.out.1⟩
  · have hL : longP [l0] = true := by unfold longP; simp; omega
    rw [hL]
    clear hL C1
    go_wp2_with ((with_reducible refine wpList_unguard ?_ ?_); (focus rfl))
    go_ret
    exact ⟨rfl, hB.out⟩
end Go.Proofs.Ytlipedigmokgbaa
