/-
  The greatest common divisor in the program.
  Conditions: polynomials of at most 50000 bytes.
-/
import Derived.Test.YtlipedigmokgbaaGcdP
import Derived.Test.YtlipedigmokgbaaRef5b
namespace Go.Proofs.Ytlipedigmokgbaa
open Go.RowKit Tri

theorem ownsB.le' {w : World} {base : Nat} {p : Option Addr} {n c : Nat} {l : List Nat} (h : ownsB w base (.slice p n c) l) : l.length ≤ c := by
  rcases h.buf with ⟨h1, h2⟩ | ⟨g, cap, h1, h2, h3, _⟩
  · rw [h2]; exact Nat.zero_le _
  · simp only [Value.slice.injEq] at h1
    omega
set_option maxHeartbeats 1000000 in
theorem poly_monic (f : Nat) (p : Option Addr) (n c : Nat) (g : List Nat) (w : World) (hF : isF w f) (hn : n = g.length) (hnc : n ≤ c) (hp : cellsB w p g) (hb : bytesL g) (ht : trim g = g) (hl : g.length ≤ 50000) :
    Calls Try.prog 62 #[.pointer (some ⟨f, 0, none⟩), .slice p n c] w (RetC w (pmonic g)) := by
  subst hn
  have HP := hid hp
  have HF := hid hF
  have HB := hid hb
  have HM0 : Hid (g = [] → pmonic g = []) := fun h => by unfold pmonic; rw [if_pos h]
  have HM1 : Hid (g ≠ [] → pmonic g = ptwo g [ginv (g.getD 0 0)]) := fun h => by unfold pmonic; rw [if_neg h]
  have HH : Hid (g ≠ [] → g.getD 0 0 ≠ 0) := fun h => by have := trim_head g (by rw [ht]; exact h); rwa [ht] at this
  clear hp hF hb ht
  generalize pmonic g = G at *
  go_enter Try.func62, Try.ntmps62
  by_cases h0 : g.length = 0
  · have he : Hid (G = []) := HM0.out (List.eq_nil_of_length_eq_zero h0)
    rw [h0]
    clear HM0 HM1
    go_wp2_with ((with_reducible refine wpList_unguard ?_ ?_); (focus rfl))
    go_ret
    exact ⟨none, 0, by rw [he.out]; rfl, by rw [he.out]; exact Nat.le_refl _, by rw [he.out]; exact cellsB.nil _ _, Below.refl _ _⟩
  · have hne : g ≠ [] := fun e => h0 (by rw [e]; rfl)
    have he := hid (HM1.out hne)
    have hh := HH.out hne
    have hlz : ((g.length : Int) == 0) = false := by rw [beq_eq_false_iff_ne]; omega
    have hl0 : 0 < g.length := by omega
    obtain ⟨a, o, rfl, hc0⟩ := HP.out 0 hl0
    have hx : g.getD 0 0 < 256 := HB.out _ (getD_mem g 0 hl0)
    rw [Nat.add_zero] at hc0
    clear HM0 HM1 HH hne
    generalize g.getD 0 0 = x at *
    go_wp2_with ((with_reducible refine wpList_unguard ?_ ?_); (focus rfl))
    refine Calls.mono (gf_Inv f x w HF.out hx (by omega)) ?_; rintro e w' ⟨rfl, rfl⟩
    have hi := ginv_lt x
    generalize ginv x = y at *
    go_wp2_with ((with_reducible refine wpList_unguard ?_ ?_); (focus rfl))
    have hC := cellsB.new w [y] #[.int .u8 (y : Nat)] 5 rfl
    have K : Keeps w f (w.alloc (.cells #[.int .u8 (y : Nat)] 5)) := Keeps.alloc ⟨Below.refl _ _, HF.out⟩ _
    refine Calls.mono (poly_two f _ _ _ c _ 1 g [y] _ K.2 rfl hnc (HP.out.below K.1) rfl (Nat.le_refl _) hC HB.out (one_bytes hi) (by omega) (by simp)) ?_
    rintro e w2 ⟨q2, d2, rfl, hle2, hq2, hbel⟩
    rw [← he.out] at hle2 hq2 ⊢
    have HQ := hid hq2
    have HBel := hid (K.1.trans (hbel.mono K.1.size))
    clear hq2 hbel hC K
    go_wp2_with ((with_reducible refine wpList_unguard ?_ ?_); (focus rfl))
    go_ret
    exact ⟨q2, d2, rfl, hle2, HQ.out, HBel.out⟩

set_option maxHeartbeats 4000000 in
set_option maxRecDepth 100000 in
theorem poly_Gcd (f : Nat) (p : Option Addr) (n c : Nat) (l : List (List Nat)) (w : World) (hF : isF w f) (hn : n = l.length) (hp : cellsR w p l) (hb : ∀ a ∈ l, bytesL a) (hl : l.length ≤ 100000) (hz : ∀ a ∈ l, a.length ≤ 50000) :
    Calls Try.prog 37 #[.pointer (some ⟨f, 0, none⟩), .slice p n c] w (RetC w (pmonic (gcds l))) := by
  subst hn
  have HP := hid hp
  have HB := hid hb
  have HZ := hid hz
  have HF := hid hF
  have HG := hid (gcds_take l hb 50000 hz)
  have hmem : Hid (∀ k, k < l.length → l.getD k [] ∈ l) := fun k hk => by rw [List.getD_eq_getElem?_getD, List.getElem?_eq_getElem hk]; exact List.getElem_mem _
  have HGS : Hid (∀ k, k < l.length → gcds (l.take (k + 1)) = gcd2 (gcds (l.take k)) (trim (l.getD k []))) := fun k hk => by rw [take_snocR l k hk, gcds_snoc]
  clear hp hb hz hF
  go_enter Try.func37, Try.ntmps37
  go_wp2_with ((with_reducible refine wpList_unguard ?_ ?_); (focus rfl))
  go_loopw [5, 17] (fun s i wr => ∃ (k : Nat) (q : Option Addr) (d : Nat), k ≤ l.length ∧ i = .int .i64 k ∧ s = .slice q (gcds (l.take k)).length d ∧ (gcds (l.take k)).length ≤ d ∧ cellsB wr q (gcds (l.take k)) ∧ Keeps w f wr) (fun _ i _ => l.length - (intOf i).toNat)
  case atStart => exact ⟨0, none, 0, Nat.zero_le _, rfl, rfl, Nat.le_refl _, cellsB.nil _ _, Below.refl _ _, HF.out⟩
  case round =>
    obtain ⟨k, q, d, hk, rfl, rfl, hle, hq, hK⟩ := hrel
    have HQ := hid hq
    have K := hid hK
    clear hq hK
    obtain ⟨g1, g2, g3, _, _⟩ := HG.out k hk
    have HG1 := hid g1
    have HG2 := hid g2
    clear g1 g2
    by_cases hlt : k < l.length
    · obtain ⟨a, o, q', c', rfl, hc0, hcc, hq'⟩ := HP.out k hlt
      have hc : wr.cell? ⟨a, o + k, none⟩ = some (.slice q' (l.getD k []).length c') := by
        rw [K.out.1.cell (p := ⟨a, o + k, none⟩) (block_lt_of_cell hc0)]; exact hc0
      have HQ' := hid (hq'.below K.out.1)
      have HYB := hid (HB.out _ (hmem.out k hlt))
      have hyl := HZ.out _ (hmem.out k hlt)
      have HS := hid (HGS.out k hlt)
      clear hc0 hq'
      generalize l.getD k [] = y at *
      generalize hg' : gcds (l.take (k + 1)) = G2 at *
      have HG' := hid hg'
      clear hg'
      generalize gcds (l.take k) = G at *
      go_wp2_with ((with_reducible refine wpList_unguard ?_ ?_); (focus rfl))
      refine Calls.mono (poly_Trim q' _ c' y wr rfl hcc HQ'.out (by omega)) ?_; rintro e w1 ⟨v, rfl, hO, hB⟩
      have K1 := hid (K.out.nx hB)
      have HQ1 := hid (HQ.out.below hB)
      obtain ⟨p1, c1, rfl, hc1⟩ := hO.cells
      have hle1 := hO.le'
      have HC1 := hid hc1
      have htl := trim_length_le y
      have HTB := hid (trim_bytes HYB.out)
      have HTT := hid (trim_trim y)
      clear hO hB hc1 K HQ HQ'
      generalize trim y = T at *
      go_wp2_with ((with_reducible refine wpList_unguard ?_ ?_); (focus rfl))
      go_loopw [8, 9] (fun s t wr => ∃ (A B : List Nat) (p1 p2 : Option Addr) (c1 c2 : Nat), s = .slice p1 A.length c1 ∧ t = .slice p2 B.length c2 ∧ A.length ≤ c1 ∧ B.length ≤ c2 ∧ cellsB wr p1 A ∧ cellsB wr p2 B ∧ bytesL A ∧ bytesL B ∧ trim A = A ∧ trim B = B ∧
        A.length ≤ 50000 ∧ B.length ≤ 50000 ∧ gcd2 A B = G2 ∧ Keeps w f wr) (fun _ t _ => sliceN t)
      case atStart => exact ⟨G, T, q, p1, d, c1, rfl, rfl, hle, hle1, HQ1.out, HC1.out, HG1.out, HTB.out, HG2.out, HTT.out, g3, by omega, HS.out.symm, K1.out⟩
      case round =>
        clear K1 HQ1 HC1
        obtain ⟨XA, B, p1, p2, c1, c2, rfl, rfl, hl1, hl2, h1, h2, h3, h4, h5, h6, h7, h8, h9, hK⟩ := hrel
        have H1 := hid h1
        have H2 := hid h2
        have H3 := hid h3
        have H4 := hid h4
        have H5 := hid h5
        have H6 := hid h6
        have H9 := hid h9
        have K := hid hK
        clear h1 h2 h3 h4 h5 h6 h9 hK
        by_cases hB0 : B.length = 0
        · have hBn : B = [] := List.eq_nil_of_length_eq_zero hB0
          subst hBn
          have hAG : Hid (XA = G2) := H9.out
          clear H9
          go_wp2_with ((with_reducible refine wpList_unguard ?_ ?_); (focus rfl))
          go_roundw
          case rel => exact ⟨k + 1, p1, c1, by omega, by go_num, by rw [HG'.out, ← hAG.out], by rw [HG'.out, ← hAG.out]; exact hl1, by rw [HG'.out, ← hAG.out]; exact H1.out, K.out⟩
          case measure => simp [intOf]; omega
        · have hBn : B ≠ [] := fun e => hB0 (by rw [e]; rfl)
          have htb : trim B ≠ [] := by rw [H6.out]; exact hBn
          have HD := hid (pdivmod_is H3.out H4.out htb)
          have HN := hid (gcd2_step (a := XA) H3.out H4.out H6.out hBn)
          have hdeg := HD.out.deg
          rw [H6.out] at hdeg
          have HTB' := hid htb
          have hgt : 0 < B.length := by omega
          clear hBn htb
          go_wp2_with ((with_reducible refine wpList_unguard ?_ ?_); (focus rfl))
          refine Calls.mono (poly_DivMod f p1 p2 _ c1 _ c2 XA B wr K.out.2 rfl hl1 H1.out rfl hl2 H2.out H3.out H4.out (by omega) (by omega) HTB'.out) ?_
          rintro e w5 ⟨pq, cq, pr, cr, rfl, hlq, hlr, hcq, hcr, hbel⟩
          have K5 := hid (K.out.nx hbel)
          have HR5 := hid hcr
          have HB5 := hid (H2.out.below hbel)
          have HRR := hid (show gcd2 B (pdivmod XA B).2 = G2 from by rw [← HN.out, H9.out])
          clear hbel hcq hcr HN H9 K
          generalize (pdivmod XA B).1 = q1 at *
          generalize (pdivmod XA B).2 = r1 at *
          go_wp2_with ((with_reducible refine wpList_unguard ?_ ?_); (focus rfl))
          go_roundw
          case rel => exact ⟨B, r1, p2, pr, c2, cr, rfl, rfl, hl2, hlr, HB5.out, HR5.out, H4.out, HD.out.rb, H6.out, HD.out.rt, h8, by omega, HRR.out, K5.out⟩
          case measure => simp [sliceN]; omega
    · have hT : Hid (l.take k = l) := by show _ = _; exact List.take_of_length_le (by omega)
      rw [hT.out] at hle HQ HG1 HG2 g3 ⊢
      generalize gcds l = G at *
      go_wp2_with ((with_reducible refine wpList_unguard ?_ ?_); (focus rfl))
      refine Calls.mono (poly_monic f q _ d G wr K.out.2 rfl hle HQ.out HG1.out HG2.out (by omega)) ?_
      rintro e w2 ⟨q2, d2, rfl, hle2, hq2, hbel⟩
      have HQ2 := hid hq2
      have HBel := hid (K.out.1.trans (hbel.mono K.out.1.size))
      clear hq2 hbel
      generalize pmonic G = M at *
      go_wp2_with ((with_reducible refine wpList_unguard ?_ ?_); (focus rfl))
      go_ret
      exact ⟨q2, d2, rfl, hle2, HQ2.out, HBel.out⟩
end Go.Proofs.Ytlipedigmokgbaa
