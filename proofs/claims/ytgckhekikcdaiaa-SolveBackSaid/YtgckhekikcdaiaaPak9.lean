/-
  omega of the solver.
  mend of the solver.
-/
import Derived.Test.YtgckhekikcdaiaaPak7
import Derived.Test.YtgckhekikcdaiaaPak8
namespace Go.Proofs.Ytgckhekikcdaiaa
open Go.RowKit Tri

set_option maxHeartbeats 8000000 in
set_option maxRecDepth 100000 in
theorem sol_omega (V f n0 p0 : Nat) (ps : Option Addr) (cs : Nat) (s : List Nat) (era : Value) (pl : Option Addr) (cl : Nat) (loc : List Nat) (w : World) (hS : isS w V f n0 p0 (.slice ps s.length cs) era (.slice pl loc.length cl)) (hF : isF w f)
    (hs : cellsB w ps s) (hbs : bytesL s) (hls : s.length ≤ 1000) (hl : cellsB w pl loc) (hbl : bytesL loc) (hll : loc.length ≤ 1000) (hp64 : p0 ≤ 64) :
    Calls Try.prog 102 #[.pointer (some ⟨V, 0, none⟩)] w fun e w' => ∃ g c, e = .returned (.slice (some ⟨g, 0, none⟩) (omL s loc p0).length c) ∧ (omL s loc p0).length ≤ c ∧ w.heap.size ≤ g ∧ cellsB w' (some ⟨g, 0, none⟩) (omL s loc p0) ∧ Below w.heap.size w w' := by
  have c0 : w.cell? ⟨V, 0, none⟩ = some (.pointer (some ⟨f, 0, none⟩)) := hS.cell 0 _ rfl
  have c2 : w.cell? ⟨V, 2, none⟩ = some (.int .i64 p0) := hS.cell 2 _ rfl
  have c3 : w.cell? ⟨V, 3, none⟩ = some (.slice ps s.length cs) := hS.cell 3 _ rfl
  have c5 : w.cell? ⟨V, 5, none⟩ = some (.slice pl loc.length cl) := hS.cell 5 _ rfl
  have hVw := hS.lt
  have HF := hid hF
  have HP := hid hs
  have HQ := hid hl
  have HBS := hid hbs
  have HBL := hid hbl
  have HO : Hid (omL s loc p0 = (List.range p0).map (omC s loc)) := rfl
  have hmk := run_make_row' (P := Try.prog) 22 5 (.int .u8 0) 1 Try.underlying22 Try.infoB rfl .i64 .i64 p0 (by omega) (by omega)
  have hbuf := bufB.made w p0 5
  have hb0 : Below w.heap.size w (w.alloc (.cells (madeCells #[.int .u8 0] p0) 5)) := (Below.refl _ _).alloc (Nat.le_refl _) _
  clear hS hF hs hl hbs hbl
  (go_enter Try.func102, Try.ntmps102; try simp only [List.append])
  go_wp2_with ((with_reducible refine wpList_unguard ?_ ?_); (focus rfl))
  clear hmk c2
  obtain ⟨ob, hoe⟩ : ∃ ob, w.heap.size = ob := ⟨_, rfl⟩
  have HOB : Hid (w.heap.size ≤ ob) := Nat.le_of_eq hoe
  have hVob : V ≠ ob := by omega
  rw [hoe] at hbuf ⊢
  generalize w.alloc (.cells (madeCells #[.int .u8 0] p0) 5) = w1 at *
  have HBF := hid hbuf
  have HB := hid hb0
  clear hbuf hb0 hoe hVw
  go_wp2_with ((with_reducible refine wpList_unguard ?_ ?_); (focus rfl))
  go_loopw [13] (fun v wr => ∃ k : Nat, k ≤ p0 ∧ v = .int .i64 k ∧ bufB wr ob (fillF (omC s loc) p0 k) ∧ Below w.heap.size w wr) (fun v _ => p0 - (intOf v).toNat)
  case atStart => exact ⟨0, Nat.zero_le _, rfl, by rw [fillF_zero]; exact HBF.out, HB.out⟩
  case round =>
    clear HBF HB
    obtain ⟨k, hk, rfl, hbuf, hB⟩ := hrel
    have HB := hid hB
    have HBF := hid hbuf
    clear hB hbuf
    by_cases hlt : k < p0
    · have h00 : (fillF (omC s loc) p0 k).set k (xorS (omF s loc k) 0) = fillF (omC s loc) p0 k := by
        apply List.ext_getElem (by simp)
        intro i h1 h2
        rw [List.getElem_set]
        split
        · rename_i e
          subst e
          have := fillF_at (omC s loc) hlt
          rw [List.getD_eq_getElem?_getD, List.getElem?_eq_getElem h2] at this
          exact this.symm
        · rfl
      have h11 : (fillF (omC s loc) p0 k).set k (xorS (omF s loc k) (k + 1)) = fillF (omC s loc) p0 (k + 1) := fillF_set (omC s loc) hlt
      have hlen := fillF_len (omC s loc) (show k ≤ p0 by omega)
      have H00 := hid h00
      have H11 := hid h11
      clear h00 h11
      generalize fillF (omC s loc) p0 k = F at *
      go_wp2_with ((with_reducible refine wpList_unguard ?_ ?_); (focus rfl))
      rename World => wo
      go_loopw [18] (fun v wr => ∃ j : Nat, j ≤ k + 1 ∧ v = .int .i64 j ∧ bufB wr ob (F.set k (xorS (omF s loc k) j)) ∧ Below w.heap.size w wr) (fun v _ => k + 1 - (intOf v).toNat)
      case atStart => exact ⟨0, Nat.zero_le _, rfl, by rw [H00.out]; exact HBF.out, HB.out⟩
      case round =>
        clear HBF HB
        obtain ⟨j, hj, rfl, hbuf, hB⟩ := hrel
        have HB := hid hB
        have HBF := hid hbuf
        clear hB hbuf
        by_cases hlj : j < k + 1
        · have hk1 : k < (F.set k (xorS (omF s loc k) j)).length := by rw [List.length_set, hlen]; exact hlt
          have hbc := HBF.out.at k hk1
          have hbf := HBF.out.2 k hk1
          have hgx : (F.set k (xorS (omF s loc k) j)).getD k 0 = xorS (omF s loc k) j := by
            rw [List.getD_eq_getElem?_getD, List.getElem?_set_self (by rw [hlen]; exact hlt)]; rfl
          rw [hgx] at hbc
          clear hgx
          have hx0 : xorS (omF s loc k) j < 256 := xorS_lt (omF_lt s loc k) j
          have hx1 : coZ s (j : Int) < 256 := coZ_lt HBS.out _
          have hx2 : coZ loc ((k : Int) - j) < 256 := coZ_lt HBL.out _
          have HX : Hid (xorS (omF s loc k) (j + 1) = xorS (omF s loc k) j ^^^ gmul (coZ s (j : Int)) (coZ loc ((k : Int) - j))) := rfl
          have hx3 : gmul (coZ s (j : Int)) (coZ loc ((k : Int) - j)) < 256 := gmul_lt _ _
          have hAt1 := fun u (hb : Below wr.heap.size wr u) => sol_at ps _ cs s (j : Int) u rfl (HP.out.below (HB.out.trans (hb.mono HB.out.size))) (by omega)
          have hAt2 := fun u (hb : Below wr.heap.size wr u) => sol_at pl _ cl loc ((k : Int) - j) u rfl (HQ.out.below (HB.out.trans (hb.mono HB.out.size))) (by omega)
          have c0r := cell1_keep c0 HB.out
          have c3r := cell1_keep c3 HB.out
          have c5r := cell1_keep c5 HB.out
          obtain ⟨y0, hy0⟩ : ∃ y, xorS (omF s loc k) j = y := ⟨_, rfl⟩
          obtain ⟨y1, hy1⟩ : ∃ y, coZ s (j : Int) = y := ⟨_, rfl⟩
          obtain ⟨y2, hy2⟩ : ∃ y, coZ loc ((k : Int) - j) = y := ⟨_, rfl⟩
          rw [hy0, hy1, hy2] at HX
          rw [hy1, hy2] at hx3
          rw [hy0] at hx0 hbc
          rw [hy1] at hx1 hAt1
          rw [hy2] at hx2 hAt2
          clear hy0 hy1 hy2
          have hkp : (k : Int) < (p0 : Int) := by omega
          go_upto_region 8 with fail
          (refine wp_region_stg 0 [([0, 1, 2, 3, 4, 5, 6, 7, 8, 9, 10, 11, 12, 13, 14, 15, 16, 17, 18, 20, 21, 22, 23, 24, 25, 26], 19), ([], 27), ([], 28), ([], 29), ([], 30), ([], 31)] [32, 33] (fun u => Below wr.heap.size wr u) (by kernel_rfl) (by kernel_rfl) (by intro t v c a w h; cases t <;> exact h) ((Below.refl _ _).drew) ?_; (simp only [List.take_succ_cons, List.take_zero, List.map_cons, List.map_nil, stOf, opAt, List.getD_cons_zero, List.getD_cons_succ]); (repeat (first | go_big_quiet_skip | (go_big_quiet_want; first | (go_big_quiet_op; go_big_quiet_on) | (apply Exists.intro; refine And.intro (fun wq hq => ?_) ?_; (focus (skip; (try go_simp); first | done | rfl | (fail))); go_simp; go_big_quiet_on)))); refine quietC_nil _ rfl ?_; intro wE hE; unfold wpSt)
          have HE := hid hE
          clear hE
          ((repeat (first | go_big_quiet_skip | (go_big_quiet_want; first | (go_big_quiet_op; go_big_quiet_on) | (apply Exists.intro; refine And.intro (fun wq hq => ?_) ?_; (focus ((have k0 := cell1_keep c0r hq; have k3 := cell1_keep c3r hq; have k5 := cell1_keep c5r hq; have ko := cell1_keep hbc hq); (try go_simp); first | done | rfl)); go_simp; go_big_quiet_on)))); refine quietC_nil _ rfl ?_)
          go_wp2_with ((with_reducible refine wpList_unguard ?_ ?_); (focus rfl))
          refine Calls.mono (hAt1 wE HE.out) ?_; rintro e w2 ⟨rfl, rfl⟩
          go_wp2_with ((with_reducible refine wpList_unguard ?_ ?_); (focus rfl))
          refine ⟨fun u => Below wr.heap.size wr u, fun _ h => h, HE.out, ?_⟩
          unfold wpSt
          refine quietC_nil _ rfl ?_
          have hFE := hid ((HF.out.blw HB.out).blw HE.out)
          obtain ⟨y3, hy3⟩ : ∃ y, gmul y1 y2 = y := ⟨_, rfl⟩
          rw [hy3] at HX hx3
          have hMul := gf_Mul2 f wE.heap.size y1 y2 (y1 : Int) (y2 : Int) wE hFE.out rfl rfl rfl hx1 hx2 5
          rw [hy3] at hMul
          have hAdd := gf_Add2 f (wE.heap.size + 1) y0 y3 (y0 : Int) (y3 : Int) (wE.alloc (.cells #[.int .u8 (y1 : Nat), .int .u8 (y2 : Nat)] 5)) (by simp) rfl rfl hx0 hx3 5
          have hE1 := hid (HE.out.alloc HE.out.size (.cells #[.int .u8 (y1 : Nat), .int .u8 (y2 : Nat)] 5))
          have hE2 := hid (hE1.out.alloc hE1.out.size (.cells #[.int .u8 (y0 : Nat), .int .u8 (y3 : Nat)] 5))
          clear hy3
          go_wp2_with ((with_reducible refine wpList_unguard ?_ ?_); (focus rfl))
          refine Calls.mono (hAt2 wE HE.out) ?_; rintro e w2 ⟨rfl, rfl⟩
          go_wp2_with ((with_reducible refine wpList_unguard ?_ ?_); (focus rfl))
          refine ⟨fun u => Below wr.heap.size wr u, fun _ h => h, HE.out, ?_⟩
          unfold wpSt
          refine quietC_nil _ rfl ?_
          go_wp2_with ((with_reducible refine wpList_unguard ?_ ?_); (focus rfl))
          refine ⟨fun u => Below wr.heap.size wr u, fun _ h => h, hE1.out, ?_⟩
          unfold wpSt
          refine quietC_nil _ rfl ?_
          go_wp2_with ((with_reducible refine wpList_unguard ?_ ?_); (focus rfl))
          refine Calls.mono hMul ?_; rintro e w2 ⟨rfl, rfl⟩
          go_wp2_with ((with_reducible refine wpList_unguard ?_ ?_); (focus rfl))
          refine ⟨fun u => Below wr.heap.size wr u, fun _ h => h, hE1.out, ?_⟩
          unfold wpSt
          refine quietC_nil _ rfl ?_
          go_wp2_with ((with_reducible refine wpList_unguard ?_ ?_); (focus rfl))
          refine ⟨fun u => Below wr.heap.size wr u, fun _ h => h, hE2.out, ?_⟩
          unfold wpSt
          refine quietC_nil _ rfl ?_
          go_wp2_with ((with_reducible refine wpList_unguard ?_ ?_); (focus rfl))
          refine Calls.mono hAdd ?_; rintro e w2 ⟨rfl, rfl⟩
          go_wp2_with ((with_reducible refine wpList_unguard ?_ ?_); (focus rfl))
          refine ⟨fun u => Below wr.heap.size wr u, fun _ h => h, hE2.out, ?_⟩
          unfold wpSt
          have hsc := cell1_keep hbc hE2.out
          have hsf := (hE2.out.frozen (p := ⟨ob, k, none⟩) (block_lt_of_cell hbc)).trans hbf
          have hst := (HBF.out.below hE2.out).set k (y0 ^^^ y3) hk1
          rw [List.set_set, ← HX.out] at hst
          have HST := hid hst
          have HBl := hid ((HB.out.trans (hE2.out.mono HB.out.size)).setCell (p := ⟨ob, k, none⟩) HOB.out (.int .u8 (xorS (omF s loc k) (j + 1) : Nat)))
          rw [HX.out] at HST HBl
          clear hst hMul hAdd hAt1 hAt2 hbc hbf
          go_wp2_with ((with_reducible refine wpList_unguard ?_ ?_); (focus rfl))
          go_roundw
          case rel => exact ⟨j + 1, by omega, by go_num, by rw [HX.out]; exact HST.out, HBl.out⟩
          case measure => simp [intOf]; omega
        · obtain rfl : j = k + 1 := by omega
          rw [H11.out] at HBF
          go_wp2_with ((with_reducible refine wpList_unguard ?_ ?_); (focus rfl))
          go_roundw
          case rel => exact ⟨k + 1, by omega, by go_num, HBF.out, HB.out⟩
          case measure => simp [intOf]; omega
    · obtain rfl : k = p0 := by omega
      rw [fillF_full, ← HO.out] at HBF
      have hl : Hid ((omL s loc k).length = k) := omL_len s loc k
      go_wp2_with ((with_reducible refine wpList_unguard ?_ ?_); (focus rfl))
      go_ret
      exact ⟨ob, k, by rw [hl.out]; rfl, by rw [hl.out]; exact Nat.le_refl _, HOB.out, HBF.out.1, HB.out⟩
end Go.Proofs.Ytgckhekikcdaiaa

namespace Go.Proofs.Ytgckhekikcdaiaa
open Go.RowKit Tri

theorem rowK.ints {w : World} {base : Nat} {v : Value} {l : List Nat} (h : rowK w base 3 .i64 v l) : ∃ p c, v = .slice p l.length c ∧ l.length ≤ c ∧ cellsI w p l := by
  have h' := h
  obtain ⟨h1, ⟨rfl, h0⟩ | ⟨g, cap, cur, rfl, hb, hh, hnc, hcm, hcs, ht⟩⟩ := h
  · exact ⟨none, 0, by rw [h0], by omega, by rw [List.eq_nil_of_length_eq_zero h0]; exact cellsI.nil _ _⟩
  · refine ⟨_, _, rfl, hnc, fun i hi => ⟨g, 0, rfl, ?_⟩⟩
    have h6 : w.ownsRow base 3 1 (.slice (some ⟨g, 0, none⟩) l.length cap) l.length (l.map fun x => Value.int .i64 (x : Nat)) := h'
    have h5 := h6.cells (g := g) rfl i (.int .i64 (l.getD i 0 : Nat)) (by rw [List.getElem?_map, List.getD_eq_getElem?_getD, List.getElem?_eq_getElem hi]; rfl)
    rw [show (⟨g, 0, none⟩ : Addr).add i = ⟨g, 0 + i, none⟩ from by unfold Addr.add; split <;> simp_all] at h5
    exact h5
set_option maxHeartbeats 2000000 in
set_option maxRecDepth 100000 in
theorem sol_mend (V f n p0 : Nat) (ps : Option Addr) (cs : Nat) (s : List Nat) (pe : Option Addr) (ce : Nat) (E : List Nat) (pl : Option Addr) (cl : Nat) (loc : List Nat) (pw : Option Addr) (cw : Nat) (word : List Nat) (many : Int) (w : World)
    (hS : isS w V f n p0 (.slice ps s.length cs) (.slice pe E.length ce) (.slice pl loc.length cl)) (hF : isF w f) (hs : cellsB w ps s) (hbs : bytesL s) (hls : s.length ≤ 1000) (hE : cellsI w pe E) (hEl : E.length ≤ 1000) (hl : cellsB w pl loc) (hbl : bytesL loc) (hll : loc.length ≤ 1000) (hl0 : loc ≠ [])
    (hw : cellsB w pw word) (hbw : bytesL word) (hwn : word.length = n) (hn : n ≤ 255) (hn1 : 1 ≤ n) (hp64 : p0 ≤ 64) (hp1 : 1 ≤ p0) :
    Calls Try.prog 77 #[.pointer (some ⟨V, 0, none⟩), .slice pw word.length cw, .int .i64 many] w fun e w' => Below w.heap.size w w' ∧
      (mendL n p0 s E loc word many = none → e = .returned (.tuple #[.slice none 0 0, .bool false])) ∧
      (∀ out, mendL n p0 s E loc word many = some out → ∃ p c, e = .returned (.tuple #[.slice p out.length c, .bool true]) ∧ out.length ≤ c ∧ cellsB w' p out) := by
  have c4 : w.cell? ⟨V, 4, none⟩ = some (.slice pe E.length ce) := hS.cell 4 _ rfl
  have c2 : w.cell? ⟨V, 2, none⟩ = some (.int .i64 p0) := hS.cell 2 _ rfl
  have HS := hid hS
  have HF := hid hF
  have HPs := hid hs
  have HBS := hid hbs
  have HE := hid hE
  have HPl := hid hl
  have HBL := hid hbl
  have HL0 := hid hl0
  have HW := hid hw
  have HBW := hid hbw
  have HWN := hid hwn
  have HPL := hid (sol_places V f n p0 (.slice ps s.length cs) (.slice pe E.length ce) pl cl loc w hS hF hn hl hbl (by omega) hl0)
  clear hS hF hs hbs hE hl hbl hl0 hw hbw hwn
  (go_enter Try.func77, Try.ntmps77; try simp only [List.append])
  go_wp2_with ((with_reducible refine wpList_unguard ?_ ?_); (focus rfl))
  refine Calls.mono HPL.out ?_; rintro e w1 ⟨v, rfl, hr, hb⟩
  obtain ⟨pq, cq, rfl, hcq, hci⟩ := hr.ints
  have HB := hid hb
  have HQ := hid hci
  have HMem : Hid (∀ i ∈ plsL n loc n, i < n) := fun i hi => plsL_mem hi
  have hql := plsL_len n loc n
  have HM : Hid (mendL n p0 s E loc word many = if ((plsL n loc n).length : Int) ≠ many ∨ p0 < E.length + 2 * unlN E (plsL n loc n) then none else fixL n (omL s loc p0) (derL loc) word (plsL n loc n)) := rfl
  generalize plsL n loc n = L at *
  clear hr hci hb HPL
  have c4' := cell1_keep c4 HB.out
  have c2' := cell1_keep c2 HB.out
  have hUn := fun (u : World) (hb : Below w1.heap.size w1 u) => hid (sol_unlike V f n p0 _ pe ce E _ pq cq L u (HS.out.below (HB.out.trans (hb.mono HB.out.size))) (HE.out.below (HB.out.trans (hb.mono HB.out.size))) hEl (HQ.out.below hb) (by omega))
  have hul : unlN E L ≤ 1000 := by have := unlN_le E L L.length; rw [List.take_length] at this; omega
  generalize unlN E L = U at *
  clear c4 c2
  have hwa : IntKind.i64.wrap (2 * (U : Int)) = 2 * (U : Int) := by rw [IntKind.wrap_i64]; omega
  have hwb : IntKind.i64.wrap ((E.length : Int) + 2 * (U : Int)) = (E.length : Int) + 2 * (U : Int) := by rw [IntKind.wrap_i64]; omega
  by_cases ht : (L.length : Int) = many
  · have q1 : ((L.length : Int) != many) = false := by rw [bne_eq_false_iff_eq]; omega
    by_cases ht2 : p0 < E.length + 2 * U
    · have q2 : decide ((p0 : Int) < (E.length : Int) + 2 * (U : Int)) = true := decide_eq_true (by omega)
      have hN : Hid (mendL n p0 s E loc word many = none) := by show _ = _; rw [HM.out, if_pos (.inr ht2)]
      clear ht ht2
      go_upto_region 2 with fail
      (refine wp_region_quietC (fun w' => Below (w1).heap.size w1 w') (by kernel_rfl) (by kernel_rfl) ((Below.refl _ _).drew) ?_; (repeat (first | go_big_quiet_skip | (go_big_quiet_want; first | (go_big_quiet_op; go_big_quiet_on) | (apply Exists.intro; refine And.intro (fun wq hq => ?_) ?_; (focus ((have c4q := cell1_keep c4' hq; have c2q := cell1_keep c2' hq); (try go_simp); first | done | rfl | ((refine Calls.mono (hUn _ hq).out ?_; rintro e w5 ⟨rfl, rfl⟩; exact ⟨rfl, hq⟩)))); go_simp; go_big_quiet_on)))); refine quietC_nil _ rfl ?_; intro wE hE)
      have HEw := hid hE
      clear hE
      go_wp2_with ((with_reducible refine wpList_unguard ?_ ?_); (focus rfl))
      go_ret2
      exact ⟨HB.out.trans (HEw.out.mono HB.out.size), fun _ => rfl, fun out h => by rw [hN.out] at h; cases h⟩
    · have q2 : decide ((p0 : Int) < (E.length : Int) + 2 * (U : Int)) = false := decide_eq_false (by omega)
      have hN : Hid (mendL n p0 s E loc word many = fixL n (omL s loc p0) (derL loc) word L) := by show _ = _; rw [HM.out, if_neg (by omega)]
      clear ht ht2
      go_upto_region 2 with fail
      (refine wp_region_quietC (fun w' => Below (w1).heap.size w1 w') (by kernel_rfl) (by kernel_rfl) ((Below.refl _ _).drew) ?_; (repeat (first | go_big_quiet_skip | (go_big_quiet_want; first | (go_big_quiet_op; go_big_quiet_on) | (apply Exists.intro; refine And.intro (fun wq hq => ?_) ?_; (focus ((have c4q := cell1_keep c4' hq; have c2q := cell1_keep c2' hq); (try go_simp); first | done | rfl | ((refine Calls.mono (hUn _ hq).out ?_; rintro e w5 ⟨rfl, rfl⟩; exact ⟨rfl, hq⟩)))); go_simp; go_big_quiet_on)))); refine quietC_nil _ rfl ?_; intro wE hE)
      have HEw := hid hE
      clear hE
      go_wp2_with ((with_reducible refine wpList_unguard ?_ ?_); (focus rfl))
      have HB2 := hid (HB.out.trans (HEw.out.mono HB.out.size))
      have hwne : word ≠ [] := fun h => by have := HWN.out; rw [h] at this; simp at this; omega
      refine Calls.mono (sl_CloneAny pw _ cw word wE rfl (HW.out.below HB2.out) (by have := HWN.out; omega) (.inl hwne)) ?_; rintro e w3 ⟨v, rfl, hO, hb⟩
      obtain ⟨ob, cap, rfl, hob, hcap, hbuf⟩ := hO.buf2 hwne
      have HB3 := hid (HB2.out.trans (hb.mono HB2.out.size))
      have HOB := hid (Nat.le_trans HB2.out.size hob)
      have HBF := hid hbuf
      have HQ3 := hid ((HQ.out.below HEw.out).below hb)
      have HPQ : Hid (L ≠ [] → offV pq ob) := by
        intro hL a o s e
        obtain ⟨a', o', e', hc⟩ := (HQ.out.below HEw.out) 0 (List.length_pos_iff.2 hL)
        rw [e'] at e
        simp only [Option.some.injEq, Addr.mk.injEq] at e
        obtain ⟨rfl, rfl, -⟩ := e
        have := block_lt_of_cell hc
        have h2 : wE.heap.size ≤ ob := hob
        have h3 : a' < wE.heap.size := this
        omega
      clear hO hob hbuf hb hwne HEw hUn c4' c2' hwa hwb
      have c5 : w.cell? ⟨V, 5, none⟩ = some (.slice pl loc.length cl) := HS.out.cell 5 _ rfl
      have HB3d := hid HB3.out.drew
      have hOm := hid (sol_omega V f n p0 ps cs s _ pl cl loc w3.drew (HS.out.below HB3d.out) (HF.out.blw HB3d.out) (HPs.out.below HB3d.out) HBS.out hls (HPl.out.below HB3d.out) HBL.out hll hp64)
      have hDr := fun (u : World) (hb : Below w.heap.size w u) => hid (sol_derived pl _ cl loc u rfl (HPl.out.below hb) (by omega))
      go_upto_region 5 with fail
      go_region_held3 (fun u => u.cell? ⟨V, 5, none⟩ = some (.slice pl loc.length cl)) (first | with_reducible exact cell1_keep c5 HB3d.out | with_reducible exact cell1_keep c5 HB4.out | with_reducible exact cell1_keep c5 HB5.out) (first | (go_at_call 102; refine Calls.mono hOm.out ?_; rintro e w4 ⟨go, co, rfl, hlo, hgo, hco, hb4⟩; have HB4 := hid (HB3d.out.trans (hb4.mono HB3d.out.size))) | (go_at_call 103; refine Calls.mono (hDr _ HB4.out).out ?_; rintro e w5 ⟨vd, rfl, hdv, hdz, hb5⟩; have HB5 := hid (HB4.out.trans (hb5.mono HB4.out.size))))
      have hob3 : ob < w3.heap.size := block_lt_of_cell (HBF.out.at 0 (by have := HWN.out; omega))
      have hgn : go ≠ ob := by have h1 : w3.heap.size ≤ go := hgo; omega
      have hz4 : w3.heap.size ≤ w4.heap.size := hb4.size
      obtain ⟨pd, cd, rfl, hdc, hd0, hdo⟩ : ∃ pd cd, vd = .slice pd (derL loc).length cd ∧ cellsB w5 pd (derL loc) ∧ (derL loc ≠ [] ∨ pd = none) ∧ offV pd ob := by
        rcases hdv.buf with ⟨h1, h2⟩ | ⟨g, cap, h1, h2, h3, h4⟩
        · exact ⟨none, 0, by rw [h1, h2]; rfl, by rw [h2]; exact cellsB.nil _ _, .inr rfl, fun a o s e => by cases e⟩
        · refine ⟨some ⟨g, 0, none⟩, cap, h1, h4.1, .inl (fun h => ?_), fun a o s e => by simp only [Option.some.injEq, Addr.mk.injEq] at e; omega⟩
          have := hdz h
          rw [h1] at this
          cases this
      have HOMb := hid (omL_bytes s loc p0)
      have HOMl : Hid ((omL s loc p0).length = p0) := omL_len s loc p0
      have HDRb := hid (derL_bytes HBL.out)
      have hDRl : (derL loc).length ≤ 1000 := by rw [derL_len]; omega
      have HOM := hid (hco.below hb5)
      have HDR := hid hdc
      have HD0 := hid hd0
      have HDO := hid hdo
      have HQ5 := hid ((HQ3.out.below (show Below w3.heap.size w3 w4 from (Below.refl _ _).drew.trans (hb4.mono (Nat.le_refl _)))).below hb5)
      have HBF5 := hid ((HBF.out.below (show Below w3.heap.size w3 w4 from (Below.refl _ _).drew.trans (hb4.mono (Nat.le_refl _)))).below hb5)
      clear hOm hDr hdv hdz hdc hd0 hdo hco hb5 hb4 HQ HQ3 HBF c5 hgo hz4 hob3
      have HGN : Hid (offV (some ⟨go, 0, none⟩) ob) := fun a o s e => by simp only [Option.some.injEq, Addr.mk.injEq] at e; omega
      have hVw := HS.out.lt
      have HVO : Hid (ob ≠ V) := (show ob ≠ V by have := HOB.out; omega)
      have HOM0 : Hid (omL s loc p0 ≠ []) := fun h => by have hOMl := HOMl.out; rw [h] at hOMl; simp at hOMl; omega
      clear hgn hVw
      generalize omL s loc p0 = OM at *
      generalize derL loc = DR at *
      go_wp2_with ((with_reducible refine wpList_unguard ?_ ?_); (focus rfl))
      go_loopw [50] (fun v wr => ∃ (k : Nat) (out : List Nat), k ≤ L.length ∧ v = .int .i64 k ∧ out.length = word.length ∧ bytesL out ∧ bufB wr ob out ∧ fixL n OM DR out (L.drop k) = fixL n OM DR word L ∧ OutV ob w5 wr ∧ Below w.heap.size w wr) (fun v _ => L.length - (intOf v).toNat)
      case atStart => exact ⟨0, word, Nat.zero_le _, rfl, rfl, HBW.out, HBF5.out, rfl, OutV.of (Below.refl _ _), HB5.out⟩
      case round =>
        clear HBF5
        obtain ⟨k, out, hk, rfl, hol, hob, hbuf, hfx, hO, hB⟩ := hrel
        have HOL := hid hol
        have HOb := hid hob
        have HBF := hid hbuf
        have HFX := hid hfx
        have HO := hid hO
        have HBr := hid hB
        clear hol hob hbuf hfx hO hB
        by_cases hlt : k < L.length
        · obtain ⟨b, o, rfl, hcl⟩ := (HQ5.out.outV HO.out (HPQ.out (fun h => by rw [h] at hlt; simp at hlt))) k hlt
          have hin : L.getD k 0 < n := HMem.out _ (by rw [List.getD_eq_getElem?_getD, List.getElem?_eq_getElem hlt]; exact List.getElem_mem hlt)
          have HDP : Hid (L.drop k = L.getD k 0 :: L.drop (k + 1)) := by
            show _ = _
            rw [List.drop_eq_getElem_cons hlt, List.getD_eq_getElem?_getD, List.getElem?_eq_getElem hlt]; rfl
          rw [HDP.out] at HFX
          generalize L.getD k 0 = i at *
          clear HDP
          have HBy := hid (sol_by V f n p0 _ _ _ i (some ⟨go, 0, none⟩) pd co cd OM DR wr (HS.out.below HBr.out) (HF.out.blw HBr.out) hn (by omega) (HOM.out.outV HO.out HGN.out) HOMb.out (by have := HOMl.out; omega) (.inl HOM0.out) (HDR.out.outV HO.out HDO.out) HDRb.out (by omega) HD0.out)
          have HFXS : Hid (fixL n OM DR out (i :: L.drop (k + 1)) = if byOk n DR i then fixL n OM DR (out.set i (out.getD i 0 ^^^ byV n OM DR i)) (L.drop (k + 1)) else none) := rfl
          have hby := byV_lt n OM DR i
          generalize byV n OM DR i = y at *
          obtain ⟨ok, hok⟩ : ∃ ok, byOk n DR i = ok := ⟨_, rfl⟩
          rw [hok] at HBy HFXS
          clear hok
          go_wp2_with ((with_reducible refine wpList_unguard ?_ ?_); (focus rfl))
          with_reducible refine Calls.mono HBy.out ?_; rintro e w6 ⟨rfl, hb6⟩
          clear HBy
          cases ok with
          | false =>
            rw [show (if false = true then fixL n OM DR (out.set i (out.getD i 0 ^^^ y)) (L.drop (k + 1)) else none) = none from rfl, HFX.out] at HFXS
            have HB6 := hid (HBr.out.trans (hb6.mono HBr.out.size))
            clear hb6 HFX
            go_wp2_with ((with_reducible refine wpList_unguard ?_ ?_); (focus rfl))
            go_ret2
            exact ⟨HB6.out, fun _ => rfl, fun o h => by rw [hN.out, HFXS.out] at h; cases h⟩
          | true =>
            rw [show (if true = true then fixL n OM DR (out.set i (out.getD i 0 ^^^ y)) (L.drop (k + 1)) else none) = fixL n OM DR (out.set i (out.getD i 0 ^^^ y)) (L.drop (k + 1)) from rfl, HFX.out] at HFXS
            have HB6 := hid (HBr.out.trans (hb6.mono HBr.out.size))
            have HBF6 := hid (HBF.out.below hb6)
            have HO6 := hid (HO.out.trans (OutV.of hb6))
            clear hb6 HFX HBF HO HBr hcl
            have hil : i < out.length := by rw [HOL.out]; have := HWN.out; omega
            have hbc := HBF6.out.at i hil
            have hbf := HBF6.out.2 i hil
            have hx : out.getD i 0 < 256 := getD_lt HOb.out i
            have hyx : out.getD i 0 ^^^ y < 256 := xor_lt hx hby
            have HOb2 : Hid (bytesL (out.set i (out.getD i 0 ^^^ y))) := by
              intro z hz
              rcases List.mem_or_eq_of_mem_set hz with h | h
              · exact HOb.out z h
              · rw [h]; exact hyx
            generalize hgx : out.getD i 0 = x at *
            clear hgx
            have c0 : w6.cell? ⟨V, 0, none⟩ = some (.pointer (some ⟨f, 0, none⟩)) := (HS.out.below HB6.out).cell 0 _ rfl
            have hiw : (i : Int) < (word.length : Int) := by have := HWN.out; omega
            have hiw' : i < word.length := by have := HWN.out; omega
            go_upto_region 12 with fail
            (refine wp_region_stg 0 [([0, 1, 2, 3, 4, 5, 6, 7, 8, 9, 10], 11), ([], 12)] [13, 14] (fun u => Below w6.heap.size w6 u) (by kernel_rfl) (by kernel_rfl) (by intro t v c a w h; cases t <;> exact h) ((Below.refl _ _).drew) ?_; (simp only [List.take_succ_cons, List.take_zero, List.map_cons, List.map_nil, stOf, opAt, List.getD_cons_zero, List.getD_cons_succ]); (repeat (first | go_big_quiet_skip | (go_big_quiet_want; first | (go_big_quiet_op; go_big_quiet_on) | (apply Exists.intro; refine And.intro (fun wq hq => ?_) ?_; (focus (skip; (try go_simp); first | done | rfl | (fail))); go_simp; go_big_quiet_on)))); refine quietC_nil _ rfl ?_; intro wE hE; unfold wpSt)
            have HE := hid hE
            clear hE
            ((repeat (first | go_big_quiet_skip | (go_big_quiet_want; first | (go_big_quiet_op; go_big_quiet_on) | (apply Exists.intro; refine And.intro (fun wq hq => ?_) ?_; (focus ((have k0 := cell1_keep c0 hq; have ko := cell1_keep hbc hq); (try go_simp); first | done | rfl)); go_simp; go_big_quiet_on)))); refine quietC_nil _ rfl ?_)
            have hE1 := hid (HE.out.alloc HE.out.size (.cells #[.int .u8 (x : Nat), .int .u8 (y : Nat)] 5))
            have hAdd := gf_Add2 f wE.heap.size x y (x : Int) (y : Int) wE rfl rfl rfl hx hby 5
            go_wp2_with ((with_reducible refine wpList_unguard ?_ ?_); (focus rfl))
            refine ⟨fun u => Below w6.heap.size w6 u, fun _ h => h, hE1.out, ?_⟩
            unfold wpSt
            refine quietC_nil _ rfl ?_
            go_wp2_with ((with_reducible refine wpList_unguard ?_ ?_); (focus rfl))
            refine Calls.mono hAdd ?_; rintro e w2 ⟨rfl, rfl⟩
            go_wp2_with ((with_reducible refine wpList_unguard ?_ ?_); (focus rfl))
            refine ⟨fun u => Below w6.heap.size w6 u, fun _ h => h, hE1.out, ?_⟩
            unfold wpSt
            have hsc := cell1_keep hbc hE1.out
            have hsf := (hE1.out.frozen (p := ⟨ob, i, none⟩) (block_lt_of_cell hbc)).trans hbf
            have HST := hid ((HBF6.out.below hE1.out).set i (x ^^^ y) hil)
            have HBl := hid ((HB6.out.trans (hE1.out.mono HB6.out.size)).setCell (p := ⟨ob, i, none⟩) HOB.out (.int .u8 (x ^^^ y : Nat)))
            have HOl := hid ((HO6.out.trans (OutV.of hE1.out)).set i (.int .u8 (x ^^^ y : Nat)))
            clear hAdd hbc hbf HBF6 HO6
            go_wp2_with ((with_reducible refine wpList_unguard ?_ ?_); (focus rfl))
            go_roundw
            case rel => exact ⟨k + 1, out.set i (x ^^^ y), by omega, by go_num, by rw [List.length_set]; exact HOL.out, HOb2.out, HST.out, HFXS.out.symm, HOl.out, HBl.out⟩
            case measure => simp [intOf]; omega
        · obtain rfl : k = L.length := by omega
          rw [List.drop_length] at HFX
          have hfin : Hid (fixL n OM DR out [] = some out) := rfl
          rw [HFX.out] at hfin
          go_wp2_with ((with_reducible refine wpList_unguard ?_ ?_); (focus rfl))
          go_ret2
          refine ⟨HBr.out, fun h => ?_, fun o h => ?_⟩
          · rw [hN.out, hfin.out] at h; cases h
          · rw [hN.out, hfin.out] at h
            cases h
            exact ⟨some ⟨ob, 0, none⟩, cap, by rw [HOL.out]; rfl, by rw [HOL.out]; omega, HBF.out.1⟩
  · have q1 : ((L.length : Int) != many) = true := by rw [bne_iff_ne]; omega
    have hN : Hid (mendL n p0 s E loc word many = none) := by show _ = _; rw [HM.out, if_pos (.inl ht)]
    clear ht
    go_upto_region 2 with fail
    (refine wp_region_quietC (fun w' => Below (w1).heap.size w1 w') (by kernel_rfl) (by kernel_rfl) ((Below.refl _ _).drew) ?_; (repeat (first | go_big_quiet_skip | (go_big_quiet_want; first | (go_big_quiet_op; go_big_quiet_on) | (apply Exists.intro; refine And.intro (fun wq hq => ?_) ?_; (focus ((have c4q := cell1_keep c4' hq; have c2q := cell1_keep c2' hq); (try go_simp); first | done | rfl | ((refine Calls.mono (hUn _ hq).out ?_; rintro e w5 ⟨rfl, rfl⟩; exact ⟨rfl, hq⟩)))); go_simp; go_big_quiet_on)))); refine quietC_nil _ rfl ?_; intro wE hE)
    have HEw := hid hE
    clear hE
    go_wp2_with ((with_reducible refine wpList_unguard ?_ ?_); (focus rfl))
    go_ret2
    exact ⟨HB.out.trans (HEw.out.mono HB.out.size), fun _ => rfl, fun out h => by rw [hN.out] at h; cases h⟩
end Go.Proofs.Ytgckhekikcdaiaa
