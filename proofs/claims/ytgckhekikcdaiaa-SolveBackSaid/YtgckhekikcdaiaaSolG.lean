/-
  SolveBack, walked: what is turned at few places, and erased at others, comes back.
-/
import Derived.Test.YtgckhekikcdaiaaPak17
namespace Go.Proofs.Ytgckhekikcdaiaa
open Go.RowKit Tri

set_option maxHeartbeats 8000000 in
set_option maxRecDepth 100000 in
theorem solveBack.walk (a0 : Int) (a1 : Int) (a2 : Option Addr) (len2 cap2 : Nat) (l2 : List Nat) (b2 : Option Addr) (lem2 caq2 : Nat) (m2 : List Int) (c2 : Option Addr) (leo2 cas2 : Nat) (o2 : List Tri.SpT) (w : World) (w0 : (Lit.int .i64 a0).wf = true) (w1 : (Lit.int .i64 a1).wf = true) (w2 : IsBytes w a2 len2 cap2 l2 ∧ IsInts w b2 lem2 caq2 m2 ∧ IsSpT w c2 leo2 cas2 o2) :
    Calls Try.prog 7 #[.int .i64 a0, .int .i64 a1, .agg #[.slice a2 len2 cap2, .slice b2 lem2 caq2, .slice c2 leo2 cas2]] w fun e w' => e = .returned (.bool true) ∧ Below w.heap.size w w' := by
  obtain ⟨⟨hn, hlc, hcap, hS, hss⟩, ⟨hn1, hlc1, hcap1, hS1, hss1⟩, hn2, hlc2, hcap2, hS2, hss2⟩ := w2
  subst hn hn1 hn2
  have HS := hid hS
  have HB : Hid (bytesL l2) := hid hss
  have HS1 := hid hS1
  have HS2 := hid hS2
  have HT2 := hid hss2
  have hb0 := bounds_i64 w0
  have hb1 := bounds_i64 w1
  clear hS hss w0 w1 hS1 hss1 hS2 hss2
  (go_enter Try.func7, Try.ntmps7; try simp only [List.append])
  go_wp2_with ((with_reducible refine wpList_unguard ?_ ?_); (focus rfl))
  have hBx := hid (show Below w.heap.size w (w.alloc (.cells #[.slice a2 l2.length cap2, .slice b2 m2.length caq2, .slice c2 o2.length cas2] 59)) from (Below.refl _ _).alloc (Nat.le_refl _) _)
  have HX0 := hid (Blk.new w 59 #[.slice a2 l2.length cap2, .slice b2 m2.length caq2, .slice c2 o2.length cas2])
  generalize w.alloc (.cells #[.slice a2 l2.length cap2, .slice b2 m2.length caq2, .slice c2 o2.length cas2] 59) = wx at *
  refine Calls.mono (law07_awake wx) ?_; rintro e w3 ⟨rfl, hbA⟩
  have HX3 := hid (HX0.out.below hbA)
  have HBA := hid (hBx.out.trans (hbA.mono hBx.out.size))
  clear hbA hBx HX0
  obtain ⟨xb, hxb⟩ : ∃ xb, w.heap.size = xb := ⟨_, rfl⟩
  rw [hxb] at HX3 ⊢
  clear hxb
  go_wp2_with ((with_reducible refine wpList_unguard ?_ ?_); (focus rfl))
  refine Calls.mono (ref6_There a0 a1 w3 ⟨hb0.1, by omega⟩ ⟨hb1.1, by omega⟩) ?_; rintro e w' ⟨rfl, rfl⟩
  cases hth : thereB a0 a1 with
  | false =>
    go_wp2_with ((with_reducible refine wpList_unguard ?_ ?_); (focus rfl))
    go_ret
    exact ⟨rfl, HBA.out⟩
  | true =>
    have hthr : 1 ≤ a1 ∧ a1 < a0 ∧ a0 ≤ 255 ∧ a0 - a1 ≤ 64 := of_decide_eq_true hth
    obtain ⟨t1, t2, t3, t4⟩ := hthr
    obtain ⟨n, rfl⟩ : ∃ n : Nat, a0 = n := ⟨a0.toNat, by omega⟩
    obtain ⟨k, rfl⟩ : ∃ k : Nat, a1 = k := ⟨a1.toNat, by omega⟩
    clear hth hb0 hb1
    have c0 : w3.cell? ⟨xb, 0, none⟩ = some (.slice a2 l2.length cap2) := HX3.out.cell 0 _ rfl
    have c1 : w3.cell? ⟨xb, 1, none⟩ = some (.slice b2 m2.length caq2) := HX3.out.cell 1 _ rfl
    have c2' : w3.cell? ⟨xb, 2, none⟩ = some (.slice c2 o2.length cas2) := HX3.out.cell 2 _ rfl
    by_cases hg0 : l2.length = k
    case neg =>
      have q0 : ((l2.length : Int) != (k : Int)) = true := by rw [bne_iff_ne]; omega
      have q0' : (l2.length != k) = true := by rw [bne_iff_ne]; omega
      go_wp2_with ((with_reducible refine wpList_unguard ?_ ?_); (focus rfl))
      go_ret
      exact ⟨rfl, HBA.out⟩
    have q0 : ((l2.length : Int) != (k : Int)) = false := by rw [bne_eq_false_iff_eq]; omega
    have q0' : (l2.length != k) = false := by rw [bne_eq_false_iff_eq]; omega
    have HG0 := hid hg0
    clear hg0
    by_cases hg1 : 60 < o2.length
    · have q1 : decide ((60 : Int) < (o2.length : Int)) = true := decide_eq_true (by omega)
      go_wp2_with ((with_reducible refine wpList_unguard ?_ ?_); (focus rfl))
      go_ret
      exact ⟨rfl, HBA.out⟩
    have q1 : decide ((60 : Int) < (o2.length : Int)) = false := decide_eq_false (by omega)
    by_cases hg2 : 60 < m2.length
    · have q2 : decide ((60 : Int) < (m2.length : Int)) = true := decide_eq_true (by omega)
      go_wp2_with ((with_reducible refine wpList_unguard ?_ ?_); (focus rfl))
      go_ret
      exact ⟨rfl, HBA.out⟩
    have q2 : decide ((60 : Int) < (m2.length : Int)) = false := decide_eq_false (by omega)
    go_wp2_with ((with_reducible refine wpList_unguard ?_ ?_); (focus rfl))
    clear c0 c1 c2'
    refine Calls.mono (gf_NewK w3 w3 (Below.refl _ _)) ?_; rintro e w4 ⟨b, rfl, K0⟩
    have K := hid K0.2
    have HX4 := hid (HX3.out.below K0.1)
    have HB4 := hid (HBA.out.trans (K0.1.mono HBA.out.size))
    clear K0 HX3 HBA q1 q2 q0 q0'
    go_wp2_with ((with_reducible refine wpList_unguard ?_ ?_); (focus rfl))
    refine Calls.mono (rs_New b n k w4 K.out (by omega) (by omega) (by omega) (by omega)) ?_
    rintro e w5 ⟨c, rfl, hR, hbel⟩
    have HR := hid hR
    have HX5 := hid (HX4.out.below hbel)
    have HB5 := hid (HB4.out.trans (hbel.mono HB4.out.size))
    clear hR hbel K HX4 HB4
    have c0 : w5.cell? ⟨xb, 0, none⟩ = some (.slice a2 l2.length cap2) := HX5.out.cell 0 _ rfl
    have HEn := hid (rs_Encode c b n k a2 l2.length cap2 l2 w5 HR.out (by omega) (by omega) (by omega) (by omega) rfl (by omega) (HS.out.below HB5.out) HB.out HG0.out)
    have hWl : (enc l2 (n - k)).length = n := by rw [enc_length HB.out, HG0.out]; omega
    have HWB := hid (enc_bytes HB.out (n - k))
    have HWR := hid (enc_right HB.out (n - k) (by omega))
    go_wp2_with ((with_reducible refine wpList_unguard ?_ ?_); (focus rfl))
    refine Calls.mono HEn.out ?_; rintro e w6 ⟨v, rfl, hO, hbel⟩
    obtain ⟨pw, cw, rfl, hc⟩ := hO.cells
    have HC6 := hid hc
    have HR6 := hid (HR.out.below hbel)
    have HX6 := hid (HX5.out.below hbel)
    have HB6 := hid (HB5.out.trans (hbel.mono HB5.out.size))
    clear hO hbel hc HEn HR HX5 HB5 c0 HS HB
    generalize enc l2 (n - k) = W at *
    rw [hWl]
    have HWL := hid hWl
    clear hWl
    have hxw := HX6.out.lt
    have hmm := @run_makeMap Try.prog
    have c1 : (w6.alloc (.map #[] 0)).cell? ⟨xb, 1, none⟩ = some (.slice b2 m2.length caq2) := (HX6.out.below ((Below.refl _ _).alloc (Nat.le_refl _) _)).cell 1 _ rfl
    go_wp2_with ((with_reducible refine wpList_unguard ?_ ?_); (focus rfl))
    have hM0 := hid (setM_made w6)
    have hA0 := hid (show Below w6.heap.size w6 (w6.alloc (.map #[] 0)) from (Below.refl _ _).alloc (Nat.le_refl _) _)
    clear hmm c1
    obtain ⟨gm, hgm⟩ : ∃ gm, w6.heap.size = gm := ⟨_, rfl⟩
    rw [hgm] at hM0 hA0 ⊢
    go_loopw [73] (fun v wr => ∃ j : Nat, j ≤ m2.length ∧ v = .int .i64 j ∧ setM wr gm j (ddL m2 j) ∧ Below gm w6 wr ∧ ∀ x ∈ m2.take j, 0 ≤ x ∧ x < (n : Int)) (fun v _ => m2.length - (intOf v).toNat)
    case atStart => exact ⟨0, Nat.zero_le _, rfl, by rw [ddL_zero]; exact hM0.out, hA0.out, by simp⟩
    case round =>
      clear hM0 hA0
      obtain ⟨j, hj, rfl, hset, hb, hin⟩ := hrel
      have HM := hid hset
      have HBr := hid (show Below w6.heap.size w6 wr by rw [hgm]; exact hb)
      have HIn := hid hin
      have HSp := hid (ddL_spec m2 j hj fun x hx => (hin x hx).1)
      clear hset hb hin
      by_cases hlt : j < m2.length
      · have HSu := hid (fun i hi => ddL_addN hlt (i := i) hi)
        have HTk : Hid (m2.take (j + 1) = m2.take j ++ [m2.getD j 0]) := by
          show _ = _
          rw [List.take_succ_eq_append_getElem hlt, List.getD_eq_getElem?_getD, List.getElem?_eq_getElem hlt]; rfl
        have HMem : Hid (m2.getD j 0 ∈ m2) := by
          show _ ∈ _
          rw [List.getD_eq_getElem?_getD, List.getElem?_eq_getElem hlt]; exact List.getElem_mem hlt
        obtain ⟨bb, oo, rfl, hcl⟩ := (HS1.out.below (HB6.out.trans (HBr.out.mono HB6.out.size))) j hlt
        generalize m2.getD j 0 = x at *
        have HBad : Hid (¬ (0 ≤ x ∧ x < (n : Int)) → Calls Try.prog 29 #[.pointer (some ⟨c, 0, none⟩), .slice pw n cw, .slice (some ⟨bb, oo, none⟩) m2.length caq2] wr fun e w' => Below wr.heap.size wr w' ∧ e = .returned (.tuple #[.slice none 0 0, .slice none 0 0, .int .i64 1])) := by
          intro hx
          have := sol_Mend c b n k pw cw W (some ⟨bb, oo, none⟩) caq2 m2 wr (HR6.out.below HBr.out) (by omega) (by omega) (by omega) (HC6.out.below HBr.out) HWB.out (by have := HWL.out; omega) (HS1.out.below (HB6.out.trans (HBr.out.mono HB6.out.size))) (by omega)
          rw [HWL.out] at this
          exact this.mono fun e w' ⟨h1, h2⟩ => ⟨h1, h2.1 fun h => hx (h.2 x HMem.out)⟩
        have HBw := hid (HB6.out.trans (HBr.out.mono HB6.out.size))
        have hfin : (∀ d1 : decide (x < 0) = true ∨ (decide (x < 0) = false ∧ decide ((n : Int) ≤ x) = true), True) := fun _ => trivial
        by_cases hx0 : x < 0
        · have HMe := hid (HBad.out (by omega))
          have d1 : decide (x < 0) = true := decide_eq_true hx0
          have c1 : wr.cell? ⟨xb, 1, none⟩ = some (.slice (some ⟨bb, oo, none⟩) m2.length caq2) := (HX6.out.below HBr.out).cell 1 _ rfl
          clear hx0
          go_wp2_with ((with_reducible refine wpList_unguard ?_ ?_); (focus rfl))
          refine Calls.mono HMe.out ?_; rintro e w7 ⟨hb7, rfl⟩
          have HB7 := hid (HBw.out.trans (hb7.mono HBw.out.size))
          clear hb7 HMe
          go_wp2_with ((with_reducible refine wpList_unguard ?_ ?_); (focus rfl))
          go_ret
          exact ⟨rfl, HB7.out⟩
        by_cases hxn : (n : Int) ≤ x
        · have HMe := hid (HBad.out (by omega))
          have d1 : decide (x < 0) = false := decide_eq_false hx0
          have d2 : decide ((n : Int) ≤ x) = true := decide_eq_true hxn
          have c1 : wr.cell? ⟨xb, 1, none⟩ = some (.slice (some ⟨bb, oo, none⟩) m2.length caq2) := (HX6.out.below HBr.out).cell 1 _ rfl
          go_wp2_with ((with_reducible refine wpList_unguard ?_ ?_); (focus rfl))
          refine Calls.mono HMe.out ?_; rintro e w7 ⟨hb7, rfl⟩
          have HB7 := hid (HBw.out.trans (hb7.mono HBw.out.size))
          clear hb7 HMe
          go_wp2_with ((with_reducible refine wpList_unguard ?_ ?_); (focus rfl))
          go_ret
          exact ⟨rfl, HB7.out⟩
        obtain ⟨i, rfl⟩ : ∃ i : Nat, x = i := ⟨x.toNat, by omega⟩
        have hin : i < n := by omega
        have HTk2 : Hid (∀ y ∈ m2.take (j + 1), 0 ≤ y ∧ y < (n : Int)) := by
          intro y hy
          rw [HTk.out, List.mem_append, List.mem_singleton] at hy
          rcases hy with h | h
          · exact HIn.out y h
          · omega
        have HS1' := hid (HSu.out i rfl)
        have d1 : decide ((i : Int) < 0) = false := decide_eq_false (by omega)
        have d2 : decide ((n : Int) ≤ (i : Int)) = false := decide_eq_false (by omega)
        clear HBad HTk HMem HSu HIn HSp hfin
        go_wp2_with (at_mapUpdate; refine wpList_setM_put rfl _ _ _ rfl gm j (ddL m2 j) i HM.out rfl rfl rfl (by omega) (by omega) ?_)
        intro w7 hset7 hg7
        rw [HS1'.out] at hset7
        have HM7 := hid hset7
        have HB7 := hid ((hgm ▸ HBr.out : Below gm w6 wr).grown hg7 (Nat.le_of_lt (HM.out.lt)) (fun q hq => by cases hq; exact Nat.le_refl _))
        clear hset7 hg7
        go_wp2_with ((with_reducible refine wpList_unguard ?_ ?_); (focus rfl))
        go_roundw
        case rel => exact ⟨j + 1, by omega, by go_num, HM7.out, HB7.out, HTk2.out⟩
        case measure => simp [intOf]; omega
      · obtain rfl : j = m2.length := by omega
        obtain ⟨w7, rfl⟩ : ∃ w7, w7 = wr := ⟨_, rfl⟩
        have HIN : Hid (∀ x ∈ m2, 0 ≤ x ∧ x < (n : Int)) := fun x hx => HIn.out x (by rw [List.take_length]; exact hx)
        have HGm : Hid (∀ i : Nat, i ∈ ddL m2 m2.length ↔ (i : Int) ∈ m2) := fun i => by rw [HSp.out.2.2 i, List.take_length]
        have hGl := HSp.out.2.1
        have HGn := hid HSp.out.1
        clear HIn HSp hlt hj
        generalize ddL m2 m2.length = G at *
        have HB7 := hid (HB6.out.trans (HBr.out.mono HB6.out.size))
        have HX7 := hid (HX6.out.below HBr.out)
        have HR7 := hid (HR6.out.below HBr.out)
        have HC7 := hid (HC6.out.below HBr.out)
        clear HBr HX6 HR6 HC6 HB6 hgm hxw
        have HWne : Hid (W ≠ []) := fun h => by have := HWL.out; rw [h] at this; simp at this; omega
        have hA : Below w7.heap.size w7 (w7.alloc (.cells #[] 5)) := (Below.refl _ _).alloc (Nat.le_refl _) _
        have hown : ownsB (w7.alloc (.cells #[] 5)) w7.heap.size (.slice (some ⟨w7.heap.size, 0, none⟩) 0 0) [] := World.ownsRow_lit w7 #[] 0 (Nat.le_refl _) (by unfold maxLen; omega) rfl
        have hqa := HC7.out.below hA
        go_wp2_with (at_builtin; refine wpList_pushB rfl _ _ rfl w7.heap.size _ [] W pw cw hown hqa HWne.out rfl n HWL.out.symm rfl (by simp) (by have := HWL.out; omega) hA.size ?_)
        intro v' w8 hq' hb'
        have hq' : ownsB w8 w7.heap.size v' W := hq'
        obtain ⟨gb, cb, rfl, hg, hcap, hbuf⟩ := hq'.buf2 HWne.out
        have HB78 := hid (hA.trans hb')
        have HBuf := hid hbuf
        have hgl := block_lt_of_cell (hbuf.at 0 (List.length_pos_iff.2 HWne.out))
        have hgl : gb < w8.heap.size := hgl
        have hsz78 := HB78.out.size
        rw [HWL.out] at hcap ⊢
        clear hA hown hqa hq' hb' hbuf
        have hmm := @run_makeMap Try.prog
        have c2' : (w8.alloc (.map #[] 0)).cell? ⟨xb, 2, none⟩ = some (.slice c2 o2.length cas2) := (HX7.out.below (HB78.out.alloc HB78.out.size (.map #[] 0))).cell 2 _ rfl
        go_wp2_with ((with_reducible refine wpList_unguard ?_ ?_); (focus rfl))
        have hM0 := hid (setM_made w8)
        have hA0 := hid (HB78.out.alloc HB78.out.size (.map #[] 0))
        have hBf0 := hid (HBuf.out.below (show Below w8.heap.size w8 (w8.alloc (.map #[] 0)) from (Below.refl _ _).alloc (Nat.le_refl _) _))
        clear hmm c2' HB78 HBuf
        obtain ⟨g2, hg2⟩ : ∃ g2, w8.heap.size = g2 := ⟨_, rfl⟩
        rw [hg2] at hM0 hgl hsz78 ⊢
        clear hg2
        go_loopw [105] (fun v wr => ∃ j : Nat, j ≤ o2.length ∧ v = .int .i64 j ∧ bufB wr gb (spB W (o2.take j)) ∧ setM wr g2 j (spO G (o2.take j)) ∧ Below w7.heap.size w7 wr ∧ ∀ t ∈ o2.take j, 0 ≤ t.a ∧ t.a < (n : Int) ∧ t.y < 256) (fun v _ => o2.length - (intOf v).toNat)
        case atStart => exact ⟨0, Nat.zero_le _, rfl, hBf0.out, hM0.out, hA0.out, by simp⟩
        case round =>
          clear hM0 hA0 hBf0
          obtain ⟨j, hj, rfl, hbf, hset, hb, hin⟩ := hrel
          have HBuf := hid hbf
          have HSet := hid hset
          have HBr := hid hb
          have HIn := hid hin
          have HSp := hid (sp_spec (G := G) HWL.out HWB.out (o2.take j) hin)
          clear hbf hset hb hin
          by_cases hlt : j < o2.length
          · have HTk : Hid (o2.take (j + 1) = o2.take j ++ [o2[j]]) := by show _ = _; rw [List.take_succ_eq_append_getElem hlt]
            obtain ⟨ok0, ok1⟩ := HT2.out _ (List.getElem_mem hlt)
            have HBw := hid (HB7.out.trans (HBr.out.mono HB7.out.size))
            obtain ⟨b3, p3, rfl, g0, g1⟩ := spts_at (HS2.out.below HBw.out) j hlt
            generalize o2[j] = t at *
            obtain ⟨ta, ty⟩ := t
            simp only at ok0 ok1 g0 g1
            have hA : Below wr.heap.size wr (wr.alloc (.cells #[.int .i64 ta, .int .u8 (ty : Nat)] 62)) := (Below.refl _ _).alloc (Nat.le_refl _) _
            have HK := hid (Blk.new wr 62 #[.int .i64 ta, .int .u8 (ty : Nat)])
            have hg2w := HSet.out.lt
            replace HBuf := hid (HBuf.out.below hA)
            replace HSet := hid (HSet.out.below hA)
            have HM2 := hid ((HM.out.below HBr.out).below hA)
            have HMg := HM.out.lt
            replace HBr := hid (HBr.out.alloc HBr.out.size (.cells #[.int .i64 ta, .int .u8 (ty : Nat)] 62))
            have hwsz := HBr.out.size
            clear hA
            by_cases hx0 : ta < 0
            · have d1 : decide (ta < 0) = true := decide_eq_true hx0
              have HBz := hid (HB7.out.trans (HBr.out.mono HB7.out.size))
              go_wp2_with ((with_reducible refine wpList_unguard ?_ ?_); (focus rfl))
              go_ret
              exact ⟨rfl, HBz.out⟩
            by_cases hxn : (n : Int) ≤ ta
            · have d1 : decide (ta < 0) = false := decide_eq_false hx0
              have d2 : decide ((n : Int) ≤ ta) = true := decide_eq_true hxn
              have HBz := hid (HB7.out.trans (HBr.out.mono HB7.out.size))
              go_wp2_with ((with_reducible refine wpList_unguard ?_ ?_); (focus rfl))
              go_ret
              exact ⟨rfl, HBz.out⟩
            obtain ⟨i, rfl⟩ : ∃ i : Nat, ta = i := ⟨ta.toNat, by omega⟩
            have hin : i < n := by omega
            have HTk2 : Hid (∀ t ∈ o2.take (j + 1), 0 ≤ t.a ∧ t.a < (n : Int) ∧ t.y < 256) := by
              intro t ht
              rw [HTk.out, List.mem_append, List.mem_singleton] at ht
              rcases ht with h | rfl
              · exact HIn.out t h
              · exact ⟨by show (0 : Int) ≤ (i : Int); omega, by show (i : Int) < (n : Int); omega, ok1⟩
            have HSb : Hid (spB W (o2.take (j + 1)) = (spB W (o2.take j)).set i ((spB W (o2.take j)).getD i 0 ^^^ ty)) := by show _ = _; rw [HTk.out, spB_snoc]; rfl
            have HSo : Hid (spO G (o2.take (j + 1)) = if i ∈ G then spO G (o2.take j) else addN (spO G (o2.take j)) i) := by show _ = _; rw [HTk.out, spO_snoc]; rfl
            have hbl : i < (spB W (o2.take j)).length := by rw [HSp.out.1]; exact hin
            have hbc := HBuf.out.at i hbl
            have hbfz := HBuf.out.2 i hbl
            have hxb : (spB W (o2.take j)).getD i 0 < 256 := by rw [getD_of _ _ hbl]; exact HSp.out.2.1 _ (List.getElem_mem hbl)
            have HBuf2 := fun z => HBuf.out.set i z hbl
            have HBuf2 := hid HBuf2
            clear HBuf HTk HIn HSp hbl
            generalize spB W (o2.take j) = Bd at *
            generalize spO G (o2.take j) = Ot at *
            generalize Bd.getD i 0 = x at *
            have hxx := xor_byte x ty hxb ok1
            have d1 : decide ((i : Int) < 0) = false := decide_eq_false (by omega)
            have d2 : decide ((n : Int) ≤ (i : Int)) = false := decide_eq_false (by omega)
            generalize hzz : x ^^^ ty = z at *
            generalize hwA : wr.alloc (.cells #[.int .i64 (i : Int), .int .u8 (ty : Nat)] 62) = wA at *
            have k0 : wA.cell? ⟨wr.heap.size, 0, none⟩ = some (.int .i64 (i : Int)) := HK.out.cell 0 _ rfl
            have k1 : wA.cell? ⟨wr.heap.size, 1, none⟩ = some (.int .u8 (ty : Nat)) := HK.out.cell 1 _ rfl
            go_upto_region 27 with fail
            go_region
            have HKS := hid (show Blk (wA.setCell ⟨gb, i, none⟩ (.int .u8 (z : Nat))).drew wr.heap.size 62 #[.int .i64 (i : Int), .int .u8 (ty : Nat)] from (heap_setCell_other wA _ _ _ (show wr.heap.size ≠ gb by omega)).trans HK.out)
            have HBS := hid (show bufB (wA.setCell ⟨gb, i, none⟩ (.int .u8 (z : Nat))).drew gb (spB W (o2.take (j + 1))) by rw [HSb.out]; exact HBuf2.out z)
            have HSS := hid (show setM (wA.setCell ⟨gb, i, none⟩ (.int .u8 (z : Nat))).drew g2 j Ot from HSet.out.setCell (show g2 ≠ gb by omega) _)
            have HMS := hid (show setM (wA.setCell ⟨gb, i, none⟩ (.int .u8 (z : Nat))).drew gm m2.length G from HM2.out.setCell (show gm ≠ gb by omega) _)
            have HrS := hid (show Below w7.heap.size w7 (wA.setCell ⟨gb, i, none⟩ (.int .u8 (z : Nat))).drew from (HBr.out.setCell (p := ⟨gb, i, none⟩) hg (.int .u8 (z : Nat))).drew)
            clear HK HBuf2 HSet HM2 HBr HSb hbc hbfz k0 k1 hwA hxx hzz hwsz g0 g1 HM HBw
            generalize (wA.setCell ⟨gb, i, none⟩ (.int .u8 (z : Nat))).drew = wS at *
            have k0 : wS.cell? ⟨wr.heap.size, 0, none⟩ = some (.int .i64 (i : Int)) := HKS.out.cell 0 _ rfl
            by_cases hmem : i ∈ G
            · go_wp2_with (at_lookup; refine wpList_setM_get rfl _ _ rfl gm m2.length G i HMS.out rfl rfl (by omega) true (decide_eq_true hmem) ?_)
              have HSO : Hid (setM wS g2 (j + 1) (spO G (o2.take (j + 1)))) := by show setM _ _ _ _; rw [HSo.out, if_pos hmem]; exact HSS.out.mono (by omega)
              clear hmem
              go_wp2_with ((with_reducible refine wpList_unguard ?_ ?_); (focus rfl))
              go_roundw
              case rel => exact ⟨j + 1, by omega, by go_num, HBS.out, HSO.out, HrS.out, HTk2.out⟩
              case measure => simp [intOf]; omega
            · have HSo2 : Hid (spO G (o2.take (j + 1)) = addN Ot i) := by show _ = _; rw [HSo.out, if_neg hmem]
              clear HSo
              go_wp2_with (first | (at_lookup; refine wpList_setM_get rfl _ _ rfl gm m2.length G i HMS.out rfl rfl (by omega) false (decide_eq_false hmem) ?_) | (at_mapUpdate; refine wpList_setM_put rfl _ _ _ rfl g2 j Ot i HSS.out rfl rfl rfl (by omega) (by omega) ?_))
              intro w9 hset9 hg9
              rw [← HSo2.out] at hset9
              have HSO := hid hset9
              have HBS9 := hid (HBS.out.block (hg9.block gb (by have := HSS.out.lt; omega) (by simp; omega)))
              have HB9 := hid (HrS.out.grown hg9 (by have := HSS.out.lt; omega) (fun q hq => by cases hq; omega))
              clear hset9 hg9
              go_wp2_with ((with_reducible refine wpList_unguard ?_ ?_); (focus rfl))
              go_roundw
              case rel => exact ⟨j + 1, by omega, by go_num, HBS9.out, HSO.out, HB9.out, HTk2.out⟩
              case measure => simp [intOf]; omega
          · obtain rfl : j = o2.length := by omega
            rw [List.take_length] at HBuf HSet HIn HSp
            obtain ⟨w9, rfl⟩ : ∃ w9, w9 = wr := ⟨_, rfl⟩
            have hOl := HSet.out.len
            have HM9 := hid (HM.out.below HBr.out)
            have HMend : Hid (G.length ≤ n - k → (spO G o2).length ≤ (n - k - G.length) / 2 → mendW n (n - k) (spB W o2) (eraZ m2) = some W) := fun h1 h2 => back_mends (by omega) HWB.out HWL.out HWR.out HSp.out.2.1 HSp.out.1 HIN.out HGn.out HGm.out HSp.out.2.2 h1 h2
            have HBl : Hid ((spB W o2).length = n) := HSp.out.1
            have HBb := hid HSp.out.2.1
            have HB9 := hid (HB7.out.trans (HBr.out.mono HB7.out.size))
            have HX9 := hid (HX7.out.below HBr.out)
            have HR9 := hid (HR7.out.below HBr.out)
            have HC9 := hid (HC7.out.below HBr.out)
            clear HSp HIn HM HGm HGn HX7 HR7 HC7 HBr HB7 HWR hlt hj
            generalize spO G o2 = Ot at *
            generalize spB W o2 = Bd at *
            have HWi := hid (sol_Within c b n k G.length Ot.length w9 HR9.out (by omega) (by omega) (by omega) (by omega))
            go_wp2_with (first | (at_len; refine wpList_setM_len rfl _ rfl gm m2.length G HM9.out rfl ?_) | (at_len; refine wpList_setM_len rfl _ rfl g2 o2.length Ot HSet.out rfl ?_))
            refine Calls.mono HWi.out ?_; rintro e w10 ⟨rfl, hb⟩
            have HB10 := hid (HB9.out.trans (hb.mono HB9.out.size))
            have HX10 := hid (HX9.out.below hb)
            have HR10 := hid (HR9.out.below hb)
            have HC10 := hid (HC9.out.below hb)
            have HBf10 := hid (HBuf.out.below hb)
            have HM10 := hid (HM9.out.below hb)
            have HS10 := hid (HSet.out.below hb)
            clear HWi hb HB9 HX9 HR9 HC9 HBuf HM9 HSet
            have hw1 : IntKind.i64.wrap ((n : Int) - (k : Int)) = (n : Int) - (k : Int) := by rw [IntKind.wrap_i64]; omega
            have hw2 : IntKind.i64.wrap (2 * (Ot.length : Int)) = 2 * (Ot.length : Int) := by rw [IntKind.wrap_i64]; omega
            have hw3 : IntKind.i64.wrap ((G.length : Int) + 2 * (Ot.length : Int)) = (G.length : Int) + 2 * (Ot.length : Int) := by rw [IntKind.wrap_i64]; omega
            by_cases hwi : G.length ≤ n - k ∧ Ot.length ≤ (n - k - G.length) / 2
            case neg =>
              rw [decide_eq_false hwi]
              by_cases hbig : n - k < G.length
              · have d1 : decide ((n : Int) - (k : Int) < (G.length : Int)) = true := decide_eq_true (by omega)
                clear HMend
                go_wp2_with (first | (at_len; refine wpList_setM_len rfl _ rfl gm m2.length G HM10.out rfl ?_) | (at_len; refine wpList_setM_len rfl _ rfl g2 o2.length Ot HS10.out rfl ?_))
                go_ret
                exact ⟨rfl, HB10.out⟩
              · have d1 : decide ((n : Int) - (k : Int) < (G.length : Int)) = false := decide_eq_false (by omega)
                have d2 : decide ((n : Int) - (k : Int) < (G.length : Int) + 2 * (Ot.length : Int)) = true := decide_eq_true (by omega)
                clear HMend
                go_wp2_with (first | (at_len; refine wpList_setM_len rfl _ rfl gm m2.length G HM10.out rfl ?_) | (at_len; refine wpList_setM_len rfl _ rfl g2 o2.length Ot HS10.out rfl ?_) | (at_len; (with_reducible refine wpList_unguard ?_ ?_); (focus rfl); refine wpList_setM_len rfl _ rfl gm m2.length G HM10.out rfl ?_) | (at_len; (with_reducible refine wpList_unguard ?_ ?_); (focus rfl); refine wpList_setM_len rfl _ rfl g2 o2.length Ot HS10.out rfl ?_))
                go_ret
                exact ⟨rfl, HB10.out⟩
            case pos =>
              rw [decide_eq_true hwi]
              have HMR := hid (HMend.out hwi.1 hwi.2)
              have c1 : w10.cell? ⟨xb, 1, none⟩ = some (.slice b2 m2.length caq2) := HX10.out.cell 1 _ rfl
              have HMe := hid (sol_Mend c b n k (some ⟨gb, 0, none⟩) cb Bd b2 caq2 m2 w10 HR10.out (by omega) (by omega) (by omega) HBf10.out.1 HBb.out (by have := HBl.out; omega) (HS1.out.below HB10.out) (by omega))
              rw [HBl.out] at HMe
              clear HMend hwi hw2 hw3 HM10 HS10
              go_wp2_with ((with_reducible refine wpList_unguard ?_ ?_); (focus rfl))
              refine Calls.mono HMe.out ?_; rintro e w11 ⟨hb, hm⟩
              obtain ⟨p9, c9, q9, d9, rfl, hl1, hl2, hc1, hc2⟩ := hm.2.2 ⟨HBl.out, HIN.out⟩ W HMR.out
              have HB11 := hid (HB10.out.trans (hb.mono HB10.out.size))
              have HC11 := hid (HC10.out.below hb)
              have HBf11 := hid (HBf10.out.below hb)
              have HU11 := hid hc2
              have hs1 := conv_str hc1 n c9 HWL.out.symm
              have hs2 := conv_str HC11.out n cw HWL.out.symm
              rw [HWL.out]
              clear hm hb hc1 HMe HB10 HX10 HR10 HC10 HBf10 hc2 c1 hw1
              go_wp2_with ((with_reducible refine wpList_unguard ?_ ?_); (focus rfl))
              clear hs1 hs2
              have hBlW : Bd.length = n := HBl.out
              have hWlW : W.length = n := HWL.out
              have HU0 : Hid ((unkL Bd W 0).length = 0) := rfl
              go_loopw [181, 24] (fun v u wr => ∃ i : Nat, i ≤ n ∧ v = .int .i64 i ∧ u = .int .i64 ((unkL Bd W i).length : Nat) ∧ Below w11.heap.size w11 wr) (fun v _ _ => n - (intOf v).toNat)
              case atStart => exact ⟨0, Nat.zero_le _, rfl, by rw [HU0.out]; rfl, Below.refl _ _⟩
              case round =>
                obtain ⟨i, hi, rfl, rfl, hb⟩ := hrel
                have HBr := hid hb
                have HBz := hid (HB11.out.trans (hb.mono HB11.out.size))
                clear hb
                by_cases hlt : i < n
                · obtain ⟨a1, o1, rfl, hc1⟩ := (HC11.out.below HBr.out) i (by omega)
                  have hc2 := (HBf11.out.below HBr.out).at i (by omega)
                  have HSu := hid (unkL_succ Bd W i)
                  have HAt := hid (fun h => unkL_at (a := Bd) (b := W) hlt h)
                  have hU : unkB Bd W i = decide (Bd.getD i 0 ≠ W.getD i 0) := rfl
                  have hdl := unkL_len Bd W i
                  have hU11 := HU11.out.below HBr.out
                  generalize W.getD i 0 = x at *
                  generalize Bd.getD i 0 = y at *
                  by_cases hxy : x = y
                  · have q : ((x : Int) != (y : Int)) = false := by rw [bne_eq_false_iff_eq]; omega
                    have hS2 : Hid (unkL Bd W (i + 1) = unkL Bd W i) := by show _ = _; rw [HSu.out, show unkB Bd W i = false from by rw [hU, hxy]; simp]; rfl
                    clear hU hxy hU11
                    go_upto_region 40 with fail
                    go_region
                    go_wp2_with fail
                    go_roundw
                    case rel => exact ⟨i + 1, by omega, by go_num, by rw [hS2.out], HBr.out.drew⟩
                    case measure => simp [intOf]; omega
                  · have q : ((x : Int) != (y : Int)) = true := by rw [bne_iff_ne]; omega
                    have hub : unkB Bd W i = true := by rw [hU]; exact decide_eq_true (Ne.symm hxy)
                    obtain ⟨g1, g2'⟩ := HAt.out hub
                    have hS2 : Hid ((unkL Bd W (i + 1)).length = (unkL Bd W i).length + 1) := by show _ = _; rw [HSu.out, hub, if_pos rfl, List.length_append]; rfl
                    obtain ⟨a3, o3, rfl, hc3⟩ := hU11 _ g1
                    rw [g2'] at hc3
                    have hun : (unkL Bd W n).length ≤ n := unkL_len _ _ _
                    clear hU hxy HSu HAt hub g2'
                    obtain ⟨U, hU⟩ : ∃ U, (unkL Bd W i).length = U := ⟨_, rfl⟩
                    obtain ⟨V, hV⟩ : ∃ V, (unkL Bd W n).length = V := ⟨_, rfl⟩
                    rw [hU] at hc3 g1 hS2 ⊢
                    rw [hV] at g1 hun ⊢
                    have d1 : decide ((V : Int) ≤ (U : Int)) = false := decide_eq_false (by omega)
                    have q2 : ((i : Int) != (i : Int)) = false := by rw [bne_eq_false_iff_eq]
                    clear hU hV
                    go_upto_region 40 with fail
                    go_region
                    have hc3 : wr.drew.cell? ⟨a3, o3 + U, none⟩ = some (.int .i64 (i : Int)) := hc3
                    go_wp2_with ((with_reducible refine wpList_unguard ?_ ?_); (focus rfl))
                    go_roundw
                    case rel => exact ⟨i + 1, by omega, by go_num, by rw [hS2.out]; go_num, HBr.out.drew⟩
                    case measure => simp [intOf]; omega
                · obtain rfl : i = n := by omega
                  clear HU0 HBr
                  go_wp2_with ((with_reducible refine wpList_unguard ?_ ?_); (focus rfl))
                  go_ret
                  exact ⟨by simp, HBz.out⟩
end Go.Proofs.Ytgckhekikcdaiaa
