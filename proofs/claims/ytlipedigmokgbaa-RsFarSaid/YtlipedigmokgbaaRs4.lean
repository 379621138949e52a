/-
  Parity, and data with parity, in the program.
-/
import Derived.Test.YtlipedigmokgbaaRs3
namespace Go.Proofs.Ytlipedigmokgbaa
open Go.RowKit Tri

/-- A slice's bytes, wherever it lies. -/
def SliB (v : Value) (w : World) (l : List Nat) : Prop := ∃ q d, v = .slice q l.length d ∧ l.length ≤ d ∧ cellsB w q l
theorem SliB.below {v : Value} {w w' : World} {l : List Nat} (h : SliB v w l) (hb : Below w.heap.size w w') : SliB v w' l := by
  obtain ⟨q, d, h1, h2, h3⟩ := h
  exact ⟨q, d, h1, h2, h3.below hb⟩
def DivT (v : Value) (w : World) (q r : List Nat) : Prop := ∃ p c p' c', v = .tuple #[.slice p q.length c, .slice p' r.length c', .bool true] ∧ q.length ≤ c ∧ r.length ≤ c' ∧ cellsB w p q ∧ cellsB w p' r
theorem DivT.below {v : Value} {w w' : World} {q r : List Nat} (h : DivT v w q r) (hb : Below w.heap.size w w') : DivT v w' q r := by
  obtain ⟨p, c, p', c', h1, h2, h3, h4, h5⟩ := h
  exact ⟨p, c, p', c', h1, h2, h3, h4.below hb, h5.below hb⟩
def parV (c f p : Nat) (vd : Value) (S G Q R : List Nat) (j : Nat) (v : Value) (w : World) : Prop := match j with
  | 0 | 1 | 7 | 8 => v = .pointer (some ⟨c, 0, none⟩)
  | 2 => v = .pointer (some ⟨c, 0, none⟩)
  | 3 => v = .pointer (some ⟨f, 0, none⟩)
  | 4 => v = vd
  | 5 => v = .int .i64 (p : Nat)
  | 6 => SliB v w S
  | 9 => v = .pointer (some ⟨c, 3, none⟩)
  | 10 => SliB v w G
  | 11 | 12 => DivT v w Q R
  | 13 | 16 => SliB v w Q
  | 14 | 17 => SliB v w R
  | 15 | 18 => v = .bool true
  | _ => True
theorem parV_st (c f p : Nat) (vd : Value) (S G Q R : List Nat) (j : Nat) (v : Value) (w w' : World) (hb : Below w.heap.size w w') (h : parV c f p vd S G Q R j v w) : parV c f p vd S G Q R j v w' := by
  unfold parV at *
  split at h <;> first | exact h | exact SliB.below h hb | exact DivT.below h hb
theorem ownsB.leq {w : World} {base : Nat} {p : Option Addr} {n c : Nat} {l : List Nat} (h : ownsB w base (.slice p n c) l) : l.length ≤ c := by
  rcases h.buf with ⟨h1, h2⟩ | ⟨g, cap, h1, h2, h3, _⟩
  · rw [h2]; exact Nat.zero_le _
  · simp only [Value.slice.injEq] at h1
    omega
theorem ownsB.made (w : World) (n base : Nat) (hb : base ≤ w.heap.size) (hn : n ≤ 1000000) : ownsB (w.alloc (.cells (madeCells #[Value.int .u8 0] n) 5)) base (.slice (some ⟨w.heap.size, 0, none⟩) n n) (List.replicate n 0) := by
  unfold ownsB
  rw [List.length_replicate]
  refine ⟨by simp, .inr ⟨w.heap.size, n, _, rfl, hb, heap_alloc_new w _, Nat.le_refl _, by unfold maxLen; omega, by simp [madeCells], ?_⟩⟩
  have : (madeCells #[Value.int .u8 0] n).toList = List.replicate n (Value.int .u8 0) := by
    apply List.ext_getElem (by simp [madeCells])
    intro i h1 h2
    simp [madeCells, Nat.mod_one]
  rw [this, Nat.mul_one, List.map_replicate]
  exact List.take_of_length_le (by simp)

set_option maxHeartbeats 4000000 in
set_option maxRecDepth 100000 in
theorem rs_Parity (c f n k : Nat) (p : Option Addr) (m d : Nat) (data : List Nat) (w : World) (hR : isR w c f n k) (hk : k < n) (hn : n ≤ 255) (hp64 : n - k ≤ 64) (hm : m = data.length) (hmd : m ≤ d) (hp : cellsB w p data) (hb : bytesL data) (hl : data.length = k) :
    Calls Try.prog 47 #[.pointer (some ⟨c, 0, none⟩), .slice p m d] w fun e w' => ∃ v, e = .returned (.tuple #[v, .int .i64 0]) ∧ ownsB w' w.heap.size v (par data (n - k)) ∧ Below w.heap.size w w' := by
  subst hm
  have HR := hid hR
  have HP := hid hp
  have HB := hid hb
  have HL := hid hl
  clear hR hp hb
  obtain ⟨q, hq⟩ : ∃ q, n - k = q := ⟨_, rfl⟩
  have hnk : (n : Int) - (k : Int) = (q : Int) := by omega
  have hw : IntKind.i64.wrap (q : Int) = (q : Int) := by rw [IntKind.wrap_i64]; omega
  have hq64 : q ≤ 64 := by omega
  have hdl : data.length ≤ 255 := by omega
  have hne : ((data.length : Int) != (k : Int)) = false := by rw [bne_eq_false_iff_eq]; omega
  obtain ⟨g1, g2, g3⟩ := rgen_is q
  have HG1 := hid g1
  have HG2 : Hid (trim (rgen q) ≠ []) := by show _ ≠ _; rw [g2]; intro e; rw [e] at g3; simp at g3
  have HSB := hid (pshift_b HB.out (q : Int))
  have hsl := pshift_l data (q : Int)
  have HRl := parR_length HB.out q
  have HPR : Hid (parR data q = (pdivmod (pshift data q) (rgen q)).2) := rfl
  have HPA : Hid (par data q = List.replicate (q - (parR data q).length) 0 ++ parR data q) := rfl
  have hgl : (rgen q).length ≤ 65 := by omega
  rw [hq]
  have HQ := hid hq
  have HGen : Hid (∀ w', Below w.heap.size w w' → ∃ pg cg, w'.cell? ⟨c, 3, none⟩ = some (.slice pg (rgen q).length cg) ∧ (rgen q).length ≤ cg ∧ cellsB w' pg (rgen q)) := fun w' hbw => by
    have h9 := (HR.out.below hbw).gen
    rw [HQ.out] at h9
    exact h9
  clear hq hl g1 g2 g3
  generalize parR data q = R at *
  generalize par data q = PA at *
  generalize hS : pshift data (q : Int) = S at *
  have HS := hid hS
  clear hS
  have c1 := HR.out.n
  have c2 := HR.out.k
  (go_enter Try.func47, Try.ntmps47; try simp only [List.append])
  go_wp2_with ((with_reducible refine wpList_unguard ?_ ?_); (focus rfl))
  go_region
  go_wp2_with ((with_reducible refine wpList_unguard ?_ ?_); (focus rfl))
  clear c1 c2
  have HRR : Hid (∀ w : World, Below w.heap.size w w) := fun w => Below.refl _ _
  refine region_gen _ _ (fun w' => Below w.heap.size w w') (fun w w' => Below w.heap.size w w') HRR.out (fun a b c h1 h2 => h1.trans (h2.mono h1.size)) (parV c f q (.slice p data.length d) S (rgen q) (pdivmod S (rgen q)).1 R) (by kernel_rfl) (by kernel_rfl) (by kernel_rfl) ⟨by decide, rfl⟩ ((Below.refl _ _).drew.drew) (parV_st c f q _ S _ _ R) ?_ ?_
  · refine ⟨fun A w3 hC hu hd K hK => ?_, ?_⟩
    · exact op_tmp 0 _ rfl (hu 0 rfl) (hK _ _ rfl hC (HRR.out _))
    refine ⟨fun A w3 hC hu hd K hK => ?_, ?_⟩
    · have h1 : A.tmps[31]?.getD undef = Value.pointer (some ⟨c, 0, none⟩) := by have this : A.tmps.getD 31 undef = Value.pointer (some ⟨c, 0, none⟩) := hd ⟨0, .data⟩ (by simp) rfl _ _ rfl rfl; simpa using this
      clear hu hd
      go_simp
      exact hK _ _ rfl hC (HRR.out _)
    refine ⟨fun A w3 hC hu hd K hK => ?_, ?_⟩
    · have h1 : A.tmps[32]?.getD undef = Value.pointer (some ⟨c, 0, none⟩) := by have this : A.tmps.getD 32 undef = Value.pointer (some ⟨c, 0, none⟩) := hd ⟨1, .data⟩ (by simp) rfl _ _ rfl rfl; simpa using this
      clear hu hd
      go_simp
      exact hK _ _ rfl hC (HRR.out _)
    refine ⟨fun A w3 hC hu hd K hK => ?_, ?_⟩
    · have h1 : A.tmps[33]?.getD undef = Value.pointer (some ⟨c, 0, none⟩) := by have this : A.tmps.getD 33 undef = Value.pointer (some ⟨c, 0, none⟩) := hd ⟨2, .data⟩ (by simp) rfl _ _ rfl rfl; simpa using this
      have hl := (HR.out.below hC).field
      clear hu hd
      go_simp
      exact hK _ _ rfl hC (HRR.out _)
    refine ⟨fun A w3 hC hu hd K hK => ?_, ?_⟩
    · exact op_tmp 1 _ rfl (hu 1 rfl) (hK _ _ rfl hC (HRR.out _))
    refine ⟨fun A w3 hC hu hd K hK => ?_, ?_⟩
    · exact op_tmp 6 _ rfl (hu 6 rfl) (hK _ _ rfl hC (HRR.out _))
    refine ⟨fun A w3 hC hu hd K hK => ?_, ?_⟩
    · have h1 : A.tmps[35]?.getD undef = Value.slice p data.length d := by have this : A.tmps.getD 35 undef = Value.slice p data.length d := hd ⟨4, .data⟩ (by simp) rfl _ _ rfl rfl; simpa using this
      have h2 : A.tmps[36]?.getD undef = Value.int .i64 (q : Nat) := by have this : A.tmps.getD 36 undef = Value.int .i64 (q : Nat) := hd ⟨5, .data⟩ (by simp) rfl _ _ rfl rfl; simpa using this
      clear hu hd
      go_simp
      refine Calls.mono (poly_Shift p _ d data (q : Int) _ rfl hmd (HP.out.below hC) (by omega)) ?_
      rintro e w5 ⟨v5, rfl, hO, hbel⟩
      rw [HS.out] at hO
      obtain ⟨p5, c5, rfl, hc5⟩ := hO.cells
      exact hK _ _ ⟨p5, c5, rfl, hO.leq, hc5⟩ (hC.trans (hbel.mono hC.size)) hbel
    refine ⟨fun A w3 hC hu hd K hK => ?_, ?_⟩
    · exact op_tmp 0 _ rfl (hu 0 rfl) (hK _ _ rfl hC (HRR.out _))
    refine ⟨fun A w3 hC hu hd K hK => ?_, ?_⟩
    · have h1 : A.tmps[38]?.getD undef = Value.pointer (some ⟨c, 0, none⟩) := by have this : A.tmps.getD 38 undef = Value.pointer (some ⟨c, 0, none⟩) := hd ⟨7, .data⟩ (by simp) rfl _ _ rfl rfl; simpa using this
      clear hu hd
      go_simp
      exact hK _ _ rfl hC (HRR.out _)
    refine ⟨fun A w3 hC hu hd K hK => ?_, ?_⟩
    · have h1 : A.tmps[39]?.getD undef = Value.pointer (some ⟨c, 0, none⟩) := by have this : A.tmps.getD 39 undef = Value.pointer (some ⟨c, 0, none⟩) := hd ⟨8, .data⟩ (by simp) rfl _ _ rfl rfl; simpa using this
      clear hu hd
      go_simp
      exact hK _ _ rfl hC (HRR.out _)
    refine ⟨fun A w3 hC hu hd K hK => ?_, ?_⟩
    · have h1 : A.tmps[40]?.getD undef = Value.pointer (some ⟨c, 3, none⟩) := by have this : A.tmps.getD 40 undef = Value.pointer (some ⟨c, 3, none⟩) := hd ⟨9, .data⟩ (by simp) rfl _ _ rfl rfl; simpa using this
      obtain ⟨pg, cg, hl, hgle, hgc⟩ := HGen.out _ hC
      have HGC := hid hgc
      clear hu hd hgc
      go_simp
      exact hK _ _ ⟨pg, cg, rfl, hgle, HGC.out⟩ hC (HRR.out _)
    refine ⟨fun A w3 hC hu hd K hK => ?_, ?_⟩
    · have h1 : A.tmps[34]?.getD undef = Value.pointer (some ⟨f, 0, none⟩) := by have this : A.tmps.getD 34 undef = Value.pointer (some ⟨f, 0, none⟩) := hd ⟨3, .data⟩ (by simp) rfl _ _ rfl rfl; simpa using this
      obtain ⟨p1, d1, h0, hle1, hc1⟩ : SliB (A.tmps.getD 37 undef) w3 S := hd ⟨6, .data⟩ (by simp) rfl _ _ rfl rfl; have h2 : A.tmps[37]?.getD undef = .slice p1 (S).length d1 := by simpa using h0
      have HC1 := hid hc1
      clear h0 hc1
      obtain ⟨p2, d2, h0, hle2, hc2⟩ : SliB (A.tmps.getD 41 undef) w3 (rgen q) := hd ⟨10, .data⟩ (by simp) rfl _ _ rfl rfl; have h3 : A.tmps[41]?.getD undef = .slice p2 ((rgen q)).length d2 := by simpa using h0
      have HC2 := hid hc2
      clear hu hd h0 hc2
      go_simp
      refine Calls.mono (poly_DivMod f p1 p2 _ d1 _ d2 S (rgen q) _ (HR.out.below hC).fld rfl hle1 HC1.out rfl hle2 HC2.out HSB.out HG1.out (by omega) (by omega) HG2.out) ?_
      rintro e w5 ⟨pq, cq, pr, cr, rfl, hlq, hlr, hcq, hcr, hbel⟩
      rw [← HPR.out] at hlr hcr ⊢
      exact hK _ _ ⟨pq, cq, pr, cr, rfl, hlq, hlr, hcq, hcr⟩ (hC.trans (hbel.mono hC.size)) hbel
    refine ⟨fun A w3 hC hu hd K hK => ?_, ?_⟩
    · obtain ⟨p1, c1, p2, c2, h0, hle1, hle2, hc1, hc2⟩ : DivT (A.tmps.getD 42 undef) w3 (pdivmod S (rgen q)).1 R := hd ⟨11, .data⟩ (by simp) rfl _ _ rfl rfl
      have h1 : A.tmps[42]?.getD undef = .tuple #[.slice p1 (pdivmod S (rgen q)).1.length c1, .slice p2 R.length c2, .bool true] := by simpa using h0
      have HC1 := hid hc1
      have HC2 := hid hc2
      clear hu hd h0 hc1 hc2
      go_simp
      exact hK _ _ ⟨p1, c1, p2, c2, rfl, hle1, hle2, HC1.out, HC2.out⟩ hC (HRR.out _)
    refine ⟨fun A w3 hC hu hd K hK => ?_, ?_⟩
    · obtain ⟨p1, c1, p2, c2, h0, hle1, hle2, hc1, hc2⟩ : DivT (A.tmps.getD 30 undef) w3 (pdivmod S (rgen q)).1 R := hd ⟨12, .data⟩ (by simp) rfl _ _ rfl rfl
      have h1 : A.tmps[30]?.getD undef = .tuple #[.slice p1 (pdivmod S (rgen q)).1.length c1, .slice p2 R.length c2, .bool true] := by simpa using h0
      have HC1 := hid hc1
      clear hu hd h0 hc1 hc2
      go_simp
      exact hK _ _ ⟨p1, c1, rfl, hle1, HC1.out⟩ hC (HRR.out _)
    refine ⟨fun A w3 hC hu hd K hK => ?_, ?_⟩
    · obtain ⟨p1, c1, p2, c2, h0, hle1, hle2, hc1, hc2⟩ : DivT (A.tmps.getD 30 undef) w3 (pdivmod S (rgen q)).1 R := hd ⟨12, .data⟩ (by simp) rfl _ _ rfl rfl
      have h1 : A.tmps[30]?.getD undef = .tuple #[.slice p1 (pdivmod S (rgen q)).1.length c1, .slice p2 R.length c2, .bool true] := by simpa using h0
      have HC2 := hid hc2
      clear hu hd h0 hc1 hc2
      go_simp
      exact hK _ _ ⟨p2, c2, rfl, hle2, HC2.out⟩ hC (HRR.out _)
    refine ⟨fun A w3 hC hu hd K hK => ?_, ?_⟩
    · obtain ⟨p1, c1, p2, c2, h0, hle1, hle2, hc1, hc2⟩ : DivT (A.tmps.getD 30 undef) w3 (pdivmod S (rgen q)).1 R := hd ⟨12, .data⟩ (by simp) rfl _ _ rfl rfl
      have h1 : A.tmps[30]?.getD undef = .tuple #[.slice p1 (pdivmod S (rgen q)).1.length c1, .slice p2 R.length c2, .bool true] := by simpa using h0
      clear hu hd h0 hc1 hc2
      go_simp
      exact hK _ _ rfl hC (HRR.out _)
    refine ⟨fun A w3 hC hu hd K hK => ?_, ?_⟩
    · obtain ⟨p1, d1, h0, hle1, hc1⟩ : SliB (A.tmps.getD 43 undef) w3 (pdivmod S (rgen q)).1 := hd ⟨13, .data⟩ (by simp) rfl _ _ rfl rfl; have h2 : A.tmps[43]?.getD undef = .slice p1 ((pdivmod S (rgen q)).1).length d1 := by simpa using h0
      have HC1 := hid hc1
      clear hu hd h0 hc1
      go_simp
      exact hK _ _ ⟨p1, d1, rfl, hle1, HC1.out⟩ hC (HRR.out _)
    refine ⟨fun A w3 hC hu hd K hK => ?_, ?_⟩
    · obtain ⟨p1, d1, h0, hle1, hc1⟩ : SliB (A.tmps.getD 44 undef) w3 R := hd ⟨14, .data⟩ (by simp) rfl _ _ rfl rfl; have h2 : A.tmps[44]?.getD undef = .slice p1 (R).length d1 := by simpa using h0
      have HC1 := hid hc1
      clear hu hd h0 hc1
      go_simp
      exact hK _ _ ⟨p1, d1, rfl, hle1, HC1.out⟩ hC (HRR.out _)
    refine ⟨fun A w3 hC hu hd K hK => ?_, ?_⟩
    · have h1 : A.tmps[45]?.getD undef = Value.bool true := by have this : A.tmps.getD 45 undef = Value.bool true := hd ⟨15, .data⟩ (by simp) rfl _ _ rfl rfl; simpa using this
      clear hu hd
      go_simp
      exact hK _ _ rfl hC (HRR.out _)
    trivial
  · intro vs w4 hC hR4 hv hw4
    obtain ⟨pr, dr, h8, hler, hcr⟩ : SliB (vs 8) w4 R := hv 17 _ 8 rfl rfl
    have HCR := hid hcr
    have HC4 := hid hC
    clear hv hw4 hR4 hcr hC
    simp only [wrote_cons, wrote_none, wrote_nil]
    have hw2 : IntKind.i64.wrap ((q : Int) - (R.length : Int)) = ((q - R.length : Nat) : Int) := by rw [IntKind.wrap_i64]; omega
    have hw3 : ((q : Int) - (R.length : Int)) = ((q - R.length : Nat) : Int) := by omega
    have hw4 : IntKind.i64.wrap ((q - R.length : Nat) : Int) = ((q - R.length : Nat) : Int) := by rw [IntKind.wrap_i64]; omega
    obtain ⟨N, hN⟩ : ∃ N, q - R.length = N := ⟨_, rfl⟩
    rw [hN] at hw2 hw3 hw4
    have hN64 : N ≤ 64 := by omega
    have HN := hid hN
    clear hN
    have hmk := run_make_row' (P := Try.prog) 28 5 (.int .u8 0) 1 Try.underlying28 Try.infoB rfl .i64 .i64 N (by omega) (by omega)
    obtain ⟨i0, hi, hz0, hz1, hz2⟩ := info_parts Try.infoB
    have hO5 := hid (ownsB.made w4 N w.heap.size HC4.out.size (by omega))
    have hbA : Below w4.heap.size w4 (w4.alloc (.cells (madeCells #[.int .u8 0] N) 5)) := (Below.refl _ _).alloc (Nat.le_refl _) _
    have HB5 := hid (HC4.out.trans (hbA.mono HC4.out.size))
    have HCR5 := hid (HCR.out.below hbA)
    clear hbA HCR
    by_cases hR0 : R.length = 0
    · have hRn : R = [] := List.eq_nil_of_length_eq_zero hR0
      subst hRn
      have hNq : N = q := by have := HN.out; simpa using this.symm
      subst hNq
      go_wp2_with (at_builtin; refine wpList_append_empty rfl _ _ 28 rfl 5 i0 Try.underlying28 hi ⟨w4.heap.size, 0, none⟩ N N pr dr rfl rfl (Nat.le_refl _) ?_)
      have hO6 : Hid (ownsB (w4.alloc (.cells (madeCells #[.int .u8 0] N) 5)) w.heap.size (.slice (some ⟨w4.heap.size, 0, none⟩) N N) PA) := by
        show ownsB _ _ _ _
        rw [HPA.out, HN.out, List.append_nil]
        exact hO5.out
      clear hO5
      go_wp2_with ((with_reducible refine wpList_unguard ?_ ?_); (focus rfl))
      refine bodyPost_ret (v := .tuple #[.slice (some ⟨w4.heap.size, 0, none⟩) N N, .int .i64 0]) (by simp [results, Try.results47, go_sem]) rfl ⟨_, rfl, hO6.out, HB5.out⟩
    · have hRn : R ≠ [] := fun e => hR0 (by rw [e]; rfl)
      have hNl : (List.replicate N 0).length ≤ 1000000 := by rw [List.length_replicate]; omega
      go_wp2_with (at_builtin; refine wpList_pushB rfl _ _ rfl w.heap.size _ (List.replicate N 0) R pr dr hO5.out HCR5.out hRn rfl _ rfl rfl hNl (by omega) HB5.out.size ?_)
      intro v' w' hown' hbel
      have hO6 : Hid (ownsB w' w.heap.size v' PA) := by
        show ownsB _ _ _ _
        rw [HPA.out, HN.out]
        exact hown'
      have HB6 := hid (HB5.out.trans hbel)
      clear hown' hbel hO5
      go_wp2_with ((with_reducible refine wpList_unguard ?_ ?_); (focus rfl))
      refine bodyPost_ret (v := .tuple #[v', .int .i64 0]) (by simp [results, Try.results47, go_sem]) rfl ⟨_, rfl, hO6.out, HB6.out⟩
end Go.Proofs.Ytlipedigmokgbaa
