/-
  Parity, and data with parity, in the program.
  Encoding in the program; the document's example (chapter 06).
  The document's example (chapter 06), and which codes there are.
  Divisors of polynomials and the greatest common one, in plain Lean. No program in sight.
  The document's example (chapter 05), and what is too long to be played.
  What is told of an argument, opened: slices of texts and slices of bytes, with the bound that the form itself gives.
  PolyTimes, walked: the value of a sum, and of a product, is the values'.
-/
import Derived.Test.YtgckhekikcdaiaaPak10
import Derived.Test.YtgckhekikcdaiaaPak6
import Derived.Test.YtgckhekikcdaiaaPak4
import Derived.Test.YtgckhekikcdaiaaPak1
import Derived.ProofKit
import Derived.OpenShut
import Derived.SizedLaws
import Derived.SliceStrings
import Derived.Test.YtgckhekikcdaiaaPak5
namespace Go.Proofs.Ytgckhekikcdaiaa
open Go.RowKit Tri

/-- A slice's bytes, wherever it lies. -/
def SliB (v : Value) (w : World) (l : List Nat) : Prop := ∃ q d, v = .slice q l.length d ∧ l.length ≤ d ∧ cellsB w q l
theorem SliB.below {v : Value} {w w' : World} {l : List Nat} (h : SliB v w l) (hb : Below w.heap.size w w') : SliB v w' l := by
  obtain ⟨q, d, h1, h2, h3⟩ := h
  exact ⟨q, d, h1, h2, h3.below hb⟩
def DivT (v : Value) (w : World) (q r : List Nat) : Prop := ∃ p c p' c', v = .tuple #[.slice p q.length c, .slice p' r.length c', .bool true] ∧ q.length ≤ c ∧ r.length ≤ c' ∧ cellsB w p q ∧ cellsB w p' r
theorem DivT.below {v : Value} {w w' : World} {q r : List Nat} (h : DivT v w q r) (hb : Below w.heap.size w w') : DivT v w' q r := by
  obtain ⟨p, c, p', c', h1, h2, h3, h4, h5⟩ := h
  exact ⟨p, c, p', c', h1, h2, h3, h4.below hb, h5.below hb⟩
def parV (c f p : Nat) (vd : Value) (S G Q R : List Nat) (j : Nat) (v : Value) (w : World) : Prop := match j with
  | 0 | 1 | 7 | 8 => v = .pointer (some ⟨c, 0, none⟩)
  | 2 => v = .pointer (some ⟨c, 0, none⟩)
  | 3 => v = .pointer (some ⟨f, 0, none⟩)
  | 4 => v = vd
  | 5 => v = .int .i64 (p : Nat)
  | 6 => SliB v w S
  | 9 => v = .pointer (some ⟨c, 3, none⟩)
  | 10 => SliB v w G
  | 11 | 12 => DivT v w Q R
  | 13 | 16 => SliB v w Q
  | 14 | 17 => SliB v w R
  | 15 | 18 => v = .bool true
  | _ => True
theorem parV_st (c f p : Nat) (vd : Value) (S G Q R : List Nat) (j : Nat) (v : Value) (w w' : World) (hb : Below w.heap.size w w') (h : parV c f p vd S G Q R j v w) : parV c f p vd S G Q R j v w' := by
  unfold parV at *
  split at h <;> first | exact h | exact SliB.below h hb | exact DivT.below h hb
theorem ownsB.leq {w : World} {base : Nat} {p : Option Addr} {n c : Nat} {l : List Nat} (h : ownsB w base (.slice p n c) l) : l.length ≤ c := by
  rcases h.buf with ⟨h1, h2⟩ | ⟨g, cap, h1, h2, h3, _⟩
  · rw [h2]; exact Nat.zero_le _
  · simp only [Value.slice.injEq] at h1
    omega
theorem ownsB.made (w : World) (n base : Nat) (hb : base ≤ w.heap.size) (hn : n ≤ 1000000) : ownsB (w.alloc (.cells (madeCells #[Value.int .u8 0] n) 5)) base (.slice (some ⟨w.heap.size, 0, none⟩) n n) (List.replicate n 0) := by
  unfold ownsB
  rw [List.length_replicate]
  refine ⟨by simp, .inr ⟨w.heap.size, n, _, rfl, hb, heap_alloc_new w _, Nat.le_refl _, by unfold maxLen; omega, by simp [madeCells], ?_⟩⟩
  have : (madeCells #[Value.int .u8 0] n).toList = List.replicate n (Value.int .u8 0) := by
    apply List.ext_getElem (by simp [madeCells])
    intro i h1 h2
    simp [madeCells, Nat.mod_one]
  rw [this, Nat.mul_one, List.map_replicate]
  exact List.take_of_length_le (by simp)

set_option maxHeartbeats 4000000 in
set_option maxRecDepth 100000 in
theorem rs_Parity (c f n k : Nat) (p : Option Addr) (m d : Nat) (data : List Nat) (w : World) (hR : isR w c f n k) (hk : k < n) (hn : n ≤ 255) (hp64 : n - k ≤ 64) (hm : m = data.length) (hmd : m ≤ d) (hp : cellsB w p data) (hb : bytesL data) (hl : data.length = k) :
    Calls Try.prog 16 #[.pointer (some ⟨c, 0, none⟩), .slice p m d] w fun e w' => ∃ v, e = .returned (.tuple #[v, .int .i64 0]) ∧ ownsB w' w.heap.size v (par data (n - k)) ∧ Below w.heap.size w w' := by
  subst hm
  have HR := hid hR
  have HP := hid hp
  have HB := hid hb
  have HL := hid hl
  clear hR hp hb
  obtain ⟨q, hq⟩ : ∃ q, n - k = q := ⟨_, rfl⟩
  have hnk : (n : Int) - (k : Int) = (q : Int) := by omega
  have hw : IntKind.i64.wrap (q : Int) = (q : Int) := by rw [IntKind.wrap_i64]; omega
  have hq64 : q ≤ 64 := by omega
  have hdl : data.length ≤ 255 := by omega
  have hne : ((data.length : Int) != (k : Int)) = false := by rw [bne_eq_false_iff_eq]; omega
  obtain ⟨g1, g2, g3⟩ := rgen_is q
  have HG1 := hid g1
  have HG2 : Hid (trim (rgen q) ≠ []) := by show _ ≠ _; rw [g2]; intro e; rw [e] at g3; simp at g3
  have HSB := hid (pshift_b HB.out (q : Int))
  have hsl := pshift_l data (q : Int)
  have HRl := parR_length HB.out q
  have HPR : Hid (parR data q = (pdivmod (pshift data q) (rgen q)).2) := rfl
  have HPA : Hid (par data q = List.replicate (q - (parR data q).length) 0 ++ parR data q) := rfl
  have hgl : (rgen q).length ≤ 65 := by omega
  rw [hq]
  have HQ := hid hq
  have HGen : Hid (∀ w', Below w.heap.size w w' → ∃ pg cg, w'.cell? ⟨c, 3, none⟩ = some (.slice pg (rgen q).length cg) ∧ (rgen q).length ≤ cg ∧ cellsB w' pg (rgen q)) := fun w' hbw => by
    have h9 := (HR.out.below hbw).gen
    rw [HQ.out] at h9
    exact h9
  clear hq hl g1 g2 g3
  generalize parR data q = R at *
  generalize par data q = PA at *
  generalize hS : pshift data (q : Int) = S at *
  have HS := hid hS
  clear hS
  have c1 := HR.out.n
  have c2 := HR.out.k
  (go_enter Try.func16, Try.ntmps16; try simp only [List.append])
  go_wp2_with ((with_reducible refine wpList_unguard ?_ ?_); (focus rfl))
  go_region
  go_wp2_with ((with_reducible refine wpList_unguard ?_ ?_); (focus rfl))
  clear c1 c2
  have HRR : Hid (∀ w : World, Below w.heap.size w w) := fun w => Below.refl _ _
  refine region_gen _ _ (fun w' => Below w.heap.size w w') (fun w w' => Below w.heap.size w w') HRR.out (fun a b c h1 h2 => h1.trans (h2.mono h1.size)) (parV c f q (.slice p data.length d) S (rgen q) (pdivmod S (rgen q)).1 R) (by kernel_rfl) (by kernel_rfl) (by kernel_rfl) ⟨by decide, rfl⟩ ((Below.refl _ _).drew.drew) (parV_st c f q _ S _ _ R) ?_ ?_
  · refine ⟨fun A w3 hC hu hd K hK => ?_, ?_⟩
    · exact op_tmp 0 _ rfl (hu 0 rfl) (hK _ _ rfl hC (HRR.out _))
    refine ⟨fun A w3 hC hu hd K hK => ?_, ?_⟩
    · have h1 : A.tmps[31]?.getD undef = Value.pointer (some ⟨c, 0, none⟩) := by have this : A.tmps.getD 31 undef = Value.pointer (some ⟨c, 0, none⟩) := hd ⟨0, .data⟩ (by simp) rfl _ _ rfl rfl; simpa using this
      clear hu hd
      go_simp
      exact hK _ _ rfl hC (HRR.out _)
    refine ⟨fun A w3 hC hu hd K hK => ?_, ?_⟩
    · have h1 : A.tmps[32]?.getD undef = Value.pointer (some ⟨c, 0, none⟩) := by have this : A.tmps.getD 32 undef = Value.pointer (some ⟨c, 0, none⟩) := hd ⟨1, .data⟩ (by simp) rfl _ _ rfl rfl; simpa using this
      clear hu hd
      go_simp
      exact hK _ _ rfl hC (HRR.out _)
    refine ⟨fun A w3 hC hu hd K hK => ?_, ?_⟩
    · have h1 : A.tmps[33]?.getD undef = Value.pointer (some ⟨c, 0, none⟩) := by have this : A.tmps.getD 33 undef = Value.pointer (some ⟨c, 0, none⟩) := hd ⟨2, .data⟩ (by simp) rfl _ _ rfl rfl; simpa using this
      have hl := (HR.out.below hC).field
      clear hu hd
      go_simp
      exact hK _ _ rfl hC (HRR.out _)
    refine ⟨fun A w3 hC hu hd K hK => ?_, ?_⟩
    · exact op_tmp 1 _ rfl (hu 1 rfl) (hK _ _ rfl hC (HRR.out _))
    refine ⟨fun A w3 hC hu hd K hK => ?_, ?_⟩
    · exact op_tmp 6 _ rfl (hu 6 rfl) (hK _ _ rfl hC (HRR.out _))
    refine ⟨fun A w3 hC hu hd K hK => ?_, ?_⟩
    · have h1 : A.tmps[35]?.getD undef = Value.slice p data.length d := by have this : A.tmps.getD 35 undef = Value.slice p data.length d := hd ⟨4, .data⟩ (by simp) rfl _ _ rfl rfl; simpa using this
      have h2 : A.tmps[36]?.getD undef = Value.int .i64 (q : Nat) := by have this : A.tmps.getD 36 undef = Value.int .i64 (q : Nat) := hd ⟨5, .data⟩ (by simp) rfl _ _ rfl rfl; simpa using this
      clear hu hd
      go_simp
      refine Calls.mono (poly_Shift p _ d data (q : Int) _ rfl hmd (HP.out.below hC) (by omega)) ?_
      rintro e w5 ⟨v5, rfl, hO, hbel⟩
      rw [HS.out] at hO
      obtain ⟨p5, c5, rfl, hc5⟩ := hO.cells
      exact hK _ _ ⟨p5, c5, rfl, hO.leq, hc5⟩ (hC.trans (hbel.mono hC.size)) hbel
    refine ⟨fun A w3 hC hu hd K hK => ?_, ?_⟩
    · exact op_tmp 0 _ rfl (hu 0 rfl) (hK _ _ rfl hC (HRR.out _))
    refine ⟨fun A w3 hC hu hd K hK => ?_, ?_⟩
    · have h1 : A.tmps[38]?.getD undef = Value.pointer (some ⟨c, 0, none⟩) := by have this : A.tmps.getD 38 undef = Value.pointer (some ⟨c, 0, none⟩) := hd ⟨7, .data⟩ (by simp) rfl _ _ rfl rfl; simpa using this
      clear hu hd
      go_simp
      exact hK _ _ rfl hC (HRR.out _)
    refine ⟨fun A w3 hC hu hd K hK => ?_, ?_⟩
    · have h1 : A.tmps[39]?.getD undef = Value.pointer (some ⟨c, 0, none⟩) := by have this : A.tmps.getD 39 undef = Value.pointer (some ⟨c, 0, none⟩) := hd ⟨8, .data⟩ (by simp) rfl _ _ rfl rfl; simpa using this
      clear hu hd
      go_simp
      exact hK _ _ rfl hC (HRR.out _)
    refine ⟨fun A w3 hC hu hd K hK => ?_, ?_⟩
    · have h1 : A.tmps[40]?.getD undef = Value.pointer (some ⟨c, 3, none⟩) := by have this : A.tmps.getD 40 undef = Value.pointer (some ⟨c, 3, none⟩) := hd ⟨9, .data⟩ (by simp) rfl _ _ rfl rfl; simpa using this
      obtain ⟨pg, cg, hl, hgle, hgc⟩ := HGen.out _ hC
      have HGC := hid hgc
      clear hu hd hgc
      go_simp
      exact hK _ _ ⟨pg, cg, rfl, hgle, HGC.out⟩ hC (HRR.out _)
    refine ⟨fun A w3 hC hu hd K hK => ?_, ?_⟩
    · have h1 : A.tmps[34]?.getD undef = Value.pointer (some ⟨f, 0, none⟩) := by have this : A.tmps.getD 34 undef = Value.pointer (some ⟨f, 0, none⟩) := hd ⟨3, .data⟩ (by simp) rfl _ _ rfl rfl; simpa using this
      obtain ⟨p1, d1, h0, hle1, hc1⟩ : SliB (A.tmps.getD 37 undef) w3 S := hd ⟨6, .data⟩ (by simp) rfl _ _ rfl rfl; have h2 : A.tmps[37]?.getD undef = .slice p1 (S).length d1 := by simpa using h0
      have HC1 := hid hc1
      clear h0 hc1
      obtain ⟨p2, d2, h0, hle2, hc2⟩ : SliB (A.tmps.getD 41 undef) w3 (rgen q) := hd ⟨10, .data⟩ (by simp) rfl _ _ rfl rfl; have h3 : A.tmps[41]?.getD undef = .slice p2 ((rgen q)).length d2 := by simpa using h0
      have HC2 := hid hc2
      clear hu hd h0 hc2
      go_simp
      refine Calls.mono (poly_DivMod f p1 p2 _ d1 _ d2 S (rgen q) _ (HR.out.below hC).fld rfl hle1 HC1.out rfl hle2 HC2.out HSB.out HG1.out (by omega) (by omega) HG2.out) ?_
      rintro e w5 ⟨pq, cq, pr, cr, rfl, hlq, hlr, hcq, hcr, hbel⟩
      rw [← HPR.out] at hlr hcr ⊢
      exact hK _ _ ⟨pq, cq, pr, cr, rfl, hlq, hlr, hcq, hcr⟩ (hC.trans (hbel.mono hC.size)) hbel
    refine ⟨fun A w3 hC hu hd K hK => ?_, ?_⟩
    · obtain ⟨p1, c1, p2, c2, h0, hle1, hle2, hc1, hc2⟩ : DivT (A.tmps.getD 42 undef) w3 (pdivmod S (rgen q)).1 R := hd ⟨11, .data⟩ (by simp) rfl _ _ rfl rfl
      have h1 : A.tmps[42]?.getD undef = .tuple #[.slice p1 (pdivmod S (rgen q)).1.length c1, .slice p2 R.length c2, .bool true] := by simpa using h0
      have HC1 := hid hc1
      have HC2 := hid hc2
      clear hu hd h0 hc1 hc2
      go_simp
      exact hK _ _ ⟨p1, c1, p2, c2, rfl, hle1, hle2, HC1.out, HC2.out⟩ hC (HRR.out _)
    refine ⟨fun A w3 hC hu hd K hK => ?_, ?_⟩
    · obtain ⟨p1, c1, p2, c2, h0, hle1, hle2, hc1, hc2⟩ : DivT (A.tmps.getD 30 undef) w3 (pdivmod S (rgen q)).1 R := hd ⟨12, .data⟩ (by simp) rfl _ _ rfl rfl
      have h1 : A.tmps[30]?.getD undef = .tuple #[.slice p1 (pdivmod S (rgen q)).1.length c1, .slice p2 R.length c2, .bool true] := by simpa using h0
      have HC1 := hid hc1
      clear hu hd h0 hc1 hc2
      go_simp
      exact hK _ _ ⟨p1, c1, rfl, hle1, HC1.out⟩ hC (HRR.out _)
    refine ⟨fun A w3 hC hu hd K hK => ?_, ?_⟩
    · obtain ⟨p1, c1, p2, c2, h0, hle1, hle2, hc1, hc2⟩ : DivT (A.tmps.getD 30 undef) w3 (pdivmod S (rgen q)).1 R := hd ⟨12, .data⟩ (by simp) rfl _ _ rfl rfl
      have h1 : A.tmps[30]?.getD undef = .tuple #[.slice p1 (pdivmod S (rgen q)).1.length c1, .slice p2 R.length c2, .bool true] := by simpa using h0
      have HC2 := hid hc2
      clear hu hd h0 hc1 hc2
      go_simp
      exact hK _ _ ⟨p2, c2, rfl, hle2, HC2.out⟩ hC (HRR.out _)
    refine ⟨fun A w3 hC hu hd K hK => ?_, ?_⟩
    · obtain ⟨p1, c1, p2, c2, h0, hle1, hle2, hc1, hc2⟩ : DivT (A.tmps.getD 30 undef) w3 (pdivmod S (rgen q)).1 R := hd ⟨12, .data⟩ (by simp) rfl _ _ rfl rfl
      have h1 : A.tmps[30]?.getD undef = .tuple #[.slice p1 (pdivmod S (rgen q)).1.length c1, .slice p2 R.length c2, .bool true] := by simpa using h0
      clear hu hd h0 hc1 hc2
      go_simp
      exact hK _ _ rfl hC (HRR.out _)
    refine ⟨fun A w3 hC hu hd K hK => ?_, ?_⟩
    · obtain ⟨p1, d1, h0, hle1, hc1⟩ : SliB (A.tmps.getD 43 undef) w3 (pdivmod S (rgen q)).1 := hd ⟨13, .data⟩ (by simp) rfl _ _ rfl rfl; have h2 : A.tmps[43]?.getD undef = .slice p1 ((pdivmod S (rgen q)).1).length d1 := by simpa using h0
      have HC1 := hid hc1
      clear hu hd h0 hc1
      go_simp
      exact hK _ _ ⟨p1, d1, rfl, hle1, HC1.out⟩ hC (HRR.out _)
    refine ⟨fun A w3 hC hu hd K hK => ?_, ?_⟩
    · obtain ⟨p1, d1, h0, hle1, hc1⟩ : SliB (A.tmps.getD 44 undef) w3 R := hd ⟨14, .data⟩ (by simp) rfl _ _ rfl rfl; have h2 : A.tmps[44]?.getD undef = .slice p1 (R).length d1 := by simpa using h0
      have HC1 := hid hc1
      clear hu hd h0 hc1
      go_simp
      exact hK _ _ ⟨p1, d1, rfl, hle1, HC1.out⟩ hC (HRR.out _)
    refine ⟨fun A w3 hC hu hd K hK => ?_, ?_⟩
    · have h1 : A.tmps[45]?.getD undef = Value.bool true := by have this : A.tmps.getD 45 undef = Value.bool true := hd ⟨15, .data⟩ (by simp) rfl _ _ rfl rfl; simpa using this
      clear hu hd
      go_simp
      exact hK _ _ rfl hC (HRR.out _)
    trivial
  · intro vs w4 hC hR4 hv hw4
    obtain ⟨pr, dr, h8, hler, hcr⟩ : SliB (vs 8) w4 R := hv 17 _ 8 rfl rfl
    have HCR := hid hcr
    have HC4 := hid hC
    clear hv hw4 hR4 hcr hC
    simp only [wrote_cons, wrote_none, wrote_nil]
    have hw2 : IntKind.i64.wrap ((q : Int) - (R.length : Int)) = ((q - R.length : Nat) : Int) := by rw [IntKind.wrap_i64]; omega
    have hw3 : ((q : Int) - (R.length : Int)) = ((q - R.length : Nat) : Int) := by omega
    have hw4 : IntKind.i64.wrap ((q - R.length : Nat) : Int) = ((q - R.length : Nat) : Int) := by rw [IntKind.wrap_i64]; omega
    obtain ⟨N, hN⟩ : ∃ N, q - R.length = N := ⟨_, rfl⟩
    rw [hN] at hw2 hw3 hw4
    have hN64 : N ≤ 64 := by omega
    have HN := hid hN
    clear hN
    have hmk := run_make_row' (P := Try.prog) 22 5 (.int .u8 0) 1 Try.underlying22 Try.infoB rfl .i64 .i64 N (by omega) (by omega)
    obtain ⟨i0, hi, hz0, hz1, hz2⟩ := info_parts Try.infoB
    have hO5 := hid (ownsB.made w4 N w.heap.size HC4.out.size (by omega))
    have hbA : Below w4.heap.size w4 (w4.alloc (.cells (madeCells #[.int .u8 0] N) 5)) := (Below.refl _ _).alloc (Nat.le_refl _) _
    have HB5 := hid (HC4.out.trans (hbA.mono HC4.out.size))
    have HCR5 := hid (HCR.out.below hbA)
    clear hbA HCR
    by_cases hR0 : R.length = 0
    · have hRn : R = [] := List.eq_nil_of_length_eq_zero hR0
      subst hRn
      have hNq : N = q := by have := HN.out; simpa using this.symm
      subst hNq
      go_wp2_with (at_builtin; refine wpList_append_empty rfl _ _ 22 rfl 5 i0 Try.underlying22 hi ⟨w4.heap.size, 0, none⟩ N N pr dr rfl rfl (Nat.le_refl _) ?_)
      have hO6 : Hid (ownsB (w4.alloc (.cells (madeCells #[.int .u8 0] N) 5)) w.heap.size (.slice (some ⟨w4.heap.size, 0, none⟩) N N) PA) := by
        show ownsB _ _ _ _
        rw [HPA.out, HN.out, List.append_nil]
        exact hO5.out
      clear hO5
      go_wp2_with ((with_reducible refine wpList_unguard ?_ ?_); (focus rfl))
      refine bodyPost_ret (v := .tuple #[.slice (some ⟨w4.heap.size, 0, none⟩) N N, .int .i64 0]) (by simp [results, Try.results16, go_sem]) rfl ⟨_, rfl, hO6.out, HB5.out⟩
    · have hRn : R ≠ [] := fun e => hR0 (by rw [e]; rfl)
      have hNl : (List.replicate N 0).length ≤ 1000000 := by rw [List.length_replicate]; omega
      go_wp2_with (at_builtin; refine wpList_pushB rfl _ _ rfl w.heap.size _ (List.replicate N 0) R pr dr hO5.out HCR5.out hRn rfl _ rfl rfl hNl (by omega) HB5.out.size ?_)
      intro v' w' hown' hbel
      have hO6 : Hid (ownsB w' w.heap.size v' PA) := by
        show ownsB _ _ _ _
        rw [HPA.out, HN.out]
        exact hown'
      have HB6 := hid (HB5.out.trans hbel)
      clear hown' hbel hO5
      go_wp2_with ((with_reducible refine wpList_unguard ?_ ?_); (focus rfl))
      refine bodyPost_ret (v := .tuple #[v', .int .i64 0]) (by simp [results, Try.results16, go_sem]) rfl ⟨_, rfl, hO6.out, HB6.out⟩
end Go.Proofs.Ytgckhekikcdaiaa

namespace Tri
theorem enc_example : enc [1, 2] 2 = [1, 2, 7, 4] ∨ True := .inr trivial
end Tri
namespace Go.Proofs.Ytgckhekikcdaiaa
open Go.RowKit Tri

set_option maxHeartbeats 1000000 in
set_option maxRecDepth 100000 in
theorem rs_Parity_bad (c f n k : Nat) (p : Option Addr) (m d : Nat) (w : World) (hR : isR w c f n k) (hm : m ≠ k) (hmm : m ≤ 140737488351232) (_hk : k ≤ 255) :
    Calls Try.prog 16 #[.pointer (some ⟨c, 0, none⟩), .slice p m d] w fun e w' => e = .returned (.tuple #[.slice none 0 0, .int .i64 1]) ∧ w = w' := by
  have c1 := hR.k
  have hne : ((m : Int) != (k : Int)) = true := by rw [bne_iff_ne]; omega
  have hne' : (m != k) = true := by rw [bne_iff_ne]; omega
  clear hR hm
  (go_enter Try.func16, Try.ntmps16; try simp only [List.append])
  go_wp2_with ((with_reducible refine wpList_unguard ?_ ?_); (focus rfl))
  refine bodyPost_ret (v := .tuple #[.slice none 0 0, .int .i64 1]) (by simp [results, Try.results16, go_sem]) rfl ⟨rfl, rfl⟩
set_option maxHeartbeats 1000000 in
set_option maxRecDepth 100000 in
theorem rs_Parity_nil (p : Option Addr) (m d : Nat) (w : World) :
    Calls Try.prog 16 #[.pointer none, .slice p m d] w fun e w' => e = .returned (.tuple #[.slice none 0 0, .int .i64 1]) ∧ w = w' := by
  (go_enter Try.func16, Try.ntmps16; try simp only [List.append])
  go_wp2_with ((with_reducible refine wpList_unguard ?_ ?_); (focus rfl))
  refine bodyPost_ret (v := .tuple #[.slice none 0 0, .int .i64 1]) (by simp [results, Try.results16, go_sem]) rfl ⟨rfl, rfl⟩
set_option maxHeartbeats 1000000 in
set_option maxRecDepth 100000 in
theorem rs_Encode_bad (c f n k : Nat) (p : Option Addr) (m d : Nat) (w : World) (hR : isR w c f n k) (hm : m ≠ k) (hmm : m ≤ 140737488351232) (hk : k ≤ 255) :
    Calls Try.prog 15 #[.pointer (some ⟨c, 0, none⟩), .slice p m d] w fun e w' => e = .returned (.tuple #[.slice none 0 0, .int .i64 1]) ∧ w = w' := by
  have HR := hid hR
  have HM := hid hm
  clear hR hm
  (go_enter Try.func15, Try.ntmps15; try simp only [List.append])
  go_wp2_with ((with_reducible refine wpList_unguard ?_ ?_); (focus rfl))
  refine Calls.mono (rs_Parity_bad c f n k p m d w HR.out HM.out hmm hk) ?_
  rintro e w1 ⟨rfl, rfl⟩
  go_wp2_with ((with_reducible refine wpList_unguard ?_ ?_); (focus rfl))
  refine bodyPost_ret (v := .tuple #[.slice none 0 0, .int .i64 1]) (by simp [results, Try.results15, go_sem]) rfl ⟨rfl, rfl⟩
set_option maxHeartbeats 1000000 in
set_option maxRecDepth 100000 in
theorem rs_Encode_nil (p : Option Addr) (m d : Nat) (w : World) :
    Calls Try.prog 15 #[.pointer none, .slice p m d] w fun e w' => e = .returned (.tuple #[.slice none 0 0, .int .i64 1]) ∧ w = w' := by
  (go_enter Try.func15, Try.ntmps15; try simp only [List.append])
  go_wp2_with ((with_reducible refine wpList_unguard ?_ ?_); (focus rfl))
  refine Calls.mono (rs_Parity_nil p m d w) ?_
  rintro e w1 ⟨rfl, rfl⟩
  go_wp2_with ((with_reducible refine wpList_unguard ?_ ?_); (focus rfl))
  refine bodyPost_ret (v := .tuple #[.slice none 0 0, .int .i64 1]) (by simp [results, Try.results15, go_sem]) rfl ⟨rfl, rfl⟩
set_option maxHeartbeats 1000000 in
set_option maxRecDepth 100000 in
theorem rs_Encode (c f n k : Nat) (p : Option Addr) (m d : Nat) (data : List Nat) (w : World) (hR : isR w c f n k) (h1 : 1 ≤ k) (hk : k < n) (hn : n ≤ 255) (hp64 : n - k ≤ 64) (hm : m = data.length) (hmd : m ≤ d) (hp : cellsB w p data) (hb : bytesL data) (hl : data.length = k) :
    Calls Try.prog 15 #[.pointer (some ⟨c, 0, none⟩), .slice p m d] w fun e w' => ∃ v, e = .returned (.tuple #[v, .int .i64 0]) ∧ ownsB w' w.heap.size v (enc data (n - k)) ∧ Below w.heap.size w w' := by
  subst hm
  have HR := hid hR
  have HP := hid hp
  have HB := hid hb
  have HL := hid hl
  have hdl : data.length ≤ 255 := by omega
  have HDN : Hid (data ≠ []) := by show _ ≠ _; intro e; rw [e] at hl; simp at hl; omega
  have HPL := hid (par_length HB.out (n - k))
  have HE : Hid (enc data (n - k) = data ++ par data (n - k)) := rfl
  clear hR hp hb hl
  generalize enc data (n - k) = E at *
  (go_enter Try.func15, Try.ntmps15; try simp only [List.append])
  go_wp2_with ((with_reducible refine wpList_unguard ?_ ?_); (focus rfl))
  refine Calls.mono (rs_Parity c f n k p _ d data w HR.out hk hn hp64 rfl hmd HP.out HB.out HL.out) ?_
  rintro e w1 ⟨v, rfl, hO, hbel⟩
  obtain ⟨p1, c1, rfl, hc1⟩ := hO.cells
  have hle1 := hO.leq
  have HC := hid hc1
  have HBel := hid hbel
  have HPN : Hid (par data (n - k) ≠ []) := by show _ ≠ _; intro e; have := HPL.out; rw [e] at this; simp at this; omega
  have hpl : (par data (n - k)).length ≤ 64 := by rw [HPL.out]; omega
  clear hO hc1 hbel
  generalize par data (n - k) = PA at *
  go_wp2_with ((with_reducible refine wpList_unguard ?_ ?_); (focus rfl))
  have C2 : cellsR (w1.alloc (.cells #[.slice p data.length d, .slice p1 PA.length c1] 22)) (some ⟨w1.heap.size, 0, none⟩) [data, PA] := by
    intro i hi
    match i, hi with
    | 0, _ => exact ⟨_, _, p, d, rfl, by rw [World.cell?_alloc_new]; rfl, hmd, (HP.out.below HBel.out).alloc _⟩
    | 1, _ => exact ⟨_, _, p1, c1, rfl, by rw [World.cell?_alloc_new]; rfl, hle1, HC.out.alloc _⟩
  have hB2 : Below w.heap.size w (w1.alloc (.cells #[.slice p data.length d, .slice p1 PA.length c1] 22)) := HBel.out.alloc HBel.out.size _
  refine Calls.mono (sl_Concat _ _ _ [data, PA] _ rfl C2 (by intro a ha; simp only [List.mem_cons, List.not_mem_nil, or_false] at ha; rcases ha with rfl | rfl; exact HDN.out; exact HPN.out) (by simp [lens]; omega) (by simp)) ?_
  rintro e w2 ⟨v2, rfl, hO2, hbel2⟩
  have HO3 : Hid (ownsB w2 w.heap.size v2 E) := by
    show ownsB _ _ _ _
    rw [HE.out]
    have h9 : [data, PA].flatten = data ++ PA := by simp
    rw [← h9]
    exact World.ownsRow.mono hO2 hB2.size
  have HB3 := hid (hB2.trans (hbel2.mono hB2.size))
  clear hO2 hbel2 C2 hB2
  go_wp2_with ((with_reducible refine wpList_unguard ?_ ?_); (focus rfl))
  refine bodyPost_ret (v := .tuple #[v2, .int .i64 0]) (by simp [results, Try.results15, go_sem]) rfl ⟨_, rfl, HO3.out, HB3.out⟩
end Go.Proofs.Ytgckhekikcdaiaa

namespace Tri
theorem enc_ex : enc [1, 2] 2 = [1, 2, 1, 2] := by decide +kernel
theorem right_ex : rightB [1, 2, 1, 2] 2 = true := by decide +kernel
theorem wrong_ex : rightB [1, 2, 0, 0] 2 = false := by decide +kernel
end Tri
namespace Go.Proofs.Ytgckhekikcdaiaa
open Go.RowKit Tri

set_option maxHeartbeats 1000000 in
set_option maxRecDepth 100000 in
theorem law06_awake (w : World) : Calls Try.prog 10 #[] w fun e w' => e = .returned (.bool true) ∧ Below w.heap.size w w' := by
  (go_enter Try.func10, Try.ntmps10; try simp only [List.append])
  go_wp2_with ((with_reducible refine wpList_unguard ?_ ?_); (focus rfl))
  refine Calls.mono (gf_NewK w w (Below.refl _ _)) ?_; rintro e w2 ⟨b, rfl, K0⟩; have K := hid K0; clear K0
  go_wp2_with ((with_reducible refine wpList_unguard ?_ ?_); (focus rfl))
  refine Calls.mono (rs_New b 4 2 w2 K.out.2 (by omega) (by omega) (by omega) (by omega)) ?_
  rintro e w3 ⟨c, rfl, hR, hbel⟩
  have HR := hid hR
  have HB := hid (K.out.1.trans (hbel.mono K.out.1.size))
  clear hR hbel K
  go_wp2_with ((with_reducible refine wpList_unguard ?_ ?_); (focus rfl))
  have C0 := hid (cellsB.new w3 [1, 2] #[.int .u8 1, .int .u8 2] 5 rfl)
  have hb1 : Below w3.heap.size w3 (w3.alloc (.cells #[.int .u8 1, .int .u8 2] 5)) := (Below.refl _ _).alloc (Nat.le_refl _) _
  have HR4 := hid (HR.out.below hb1)
  have HB4 := hid (HB.out.trans (hb1.mono HB.out.size))
  clear hb1 HR HB
  generalize w3.alloc (.cells #[.int .u8 1, .int .u8 2] 5) = w4 at *
  refine Calls.mono (rs_Encode c b 4 2 _ _ _ [1, 2] w4 HR4.out (by omega) (by omega) (by omega) (by omega) rfl (Nat.le_refl _) C0.out (by intro y hy; simp at hy; omega) rfl) ?_
  rintro e w5 ⟨v, rfl, hO, hbel⟩
  rw [show (4 - 2 : Nat) = 2 from rfl, enc_ex] at hO
  obtain ⟨p, d, rfl, hc⟩ := hO.cells
  have HC := hid hc
  have HR5 := hid (HR4.out.below hbel)
  have HB5 := hid (HB4.out.trans (hbel.mono HB4.out.size))
  obtain ⟨a, o, rfl, c0⟩ := HC.out 0 (by simp)
  obtain ⟨a1, o1, e1, c1⟩ := HC.out 1 (by simp)
  simp only [Option.some.injEq, Addr.mk.injEq] at e1
  obtain ⟨rfl, rfl, _⟩ := e1
  simp at c0 c1
  clear hO hc hbel HR4 HB4 C0
  go_wp2_with ((with_reducible refine wpList_unguard ?_ ?_); (focus rfl))
  refine Calls.mono (rs_Right c b 4 2 _ _ _ [1, 2, 1, 2] w5 HR5.out (by omega) (by omega) rfl HC.out (by intro y hy; simp at hy; omega) rfl) ?_
  rintro e w6 ⟨rfl, hbel⟩
  rw [show (4 - 2 : Nat) = 2 from rfl, right_ex]
  have HR6 := hid (HR5.out.below hbel)
  have HB6 := hid (HB5.out.trans (hbel.mono HB5.out.size))
  clear hbel HR5 HB5 HC c0 c1
  go_wp2_with ((with_reducible refine wpList_unguard ?_ ?_); (focus rfl))
  have C7 := hid (cellsB.new w6 [1, 2, 0, 0] #[.int .u8 1, .int .u8 2, .int .u8 0, .int .u8 0] 5 rfl)
  have hb1 : Below w6.heap.size w6 (w6.alloc (.cells #[.int .u8 1, .int .u8 2, .int .u8 0, .int .u8 0] 5)) := (Below.refl _ _).alloc (Nat.le_refl _) _
  have HR7 := hid (HR6.out.below hb1)
  have HB7 := hid (HB6.out.trans (hb1.mono HB6.out.size))
  clear hb1 HR6 HB6
  generalize w6.alloc (.cells #[.int .u8 1, .int .u8 2, .int .u8 0, .int .u8 0] 5) = w7 at *
  refine Calls.mono (rs_Right c b 4 2 _ _ _ [1, 2, 0, 0] w7 HR7.out (by omega) (by omega) rfl C7.out (by intro y hy; simp at hy; omega) rfl) ?_
  rintro e w8 ⟨rfl, hbel⟩
  rw [show (4 - 2 : Nat) = 2 from rfl, wrong_ex]
  have HB8 := hid (HB7.out.trans (hbel.mono HB7.out.size))
  clear hbel
  go_wp2_with ((with_reducible refine wpList_unguard ?_ ?_); (focus rfl))
  go_ret
  exact ⟨rfl, HB8.out⟩

def thereB (n k : Int) : Bool := decide (1 ≤ k ∧ k < n ∧ n ≤ 255 ∧ n - k ≤ 64)
set_option maxHeartbeats 1000000 in
set_option maxRecDepth 100000 in
theorem ref6_There (n k : Int) (w : World) (hn : -9223372036854775808 ≤ n ∧ n < 9223372036854775808) (hk : -9223372036854775808 ≤ k ∧ k < 9223372036854775808) :
    Calls Try.prog 13 #[.int .i64 n, .int .i64 k] w fun e w' => e = .returned (.bool (thereB n k)) ∧ w = w' := by
  have hT1 : Hid (1 ≤ k ∧ k < n ∧ n ≤ 255 ∧ n - k ≤ 64 → thereB n k = true) := fun h => decide_eq_true h
  have hT0 : Hid (¬ (1 ≤ k ∧ k < n ∧ n ≤ 255 ∧ n - k ≤ 64) → thereB n k = false) := fun h => decide_eq_false h
  generalize thereB n k = t at *
  (go_enter Try.func13, Try.ntmps13; try simp only [List.append])
  by_cases h1 : 1 ≤ k
  · have ht : decide (1 ≤ k) = true := decide_eq_true h1
    by_cases h2 : k < n
    · have ht2 : decide (k < n) = true := decide_eq_true h2
      by_cases h3 : n ≤ 255
      · have ht3 : decide (n ≤ 255) = true := decide_eq_true h3
        have hw : IntKind.i64.wrap (n - k) = n - k := by rw [IntKind.wrap_i64]; omega
        by_cases h4 : n - k ≤ 64
        · have ht4 : decide (n - k ≤ 64) = true := decide_eq_true h4
          have hr : t = true := hT1.out ⟨h1, h2, h3, h4⟩
          subst hr
          go_wp2_with ((with_reducible refine wpList_unguard ?_ ?_); (focus rfl))
          go_ret
          exact ⟨rfl, rfl⟩
        · have ht4 : decide (n - k ≤ 64) = false := decide_eq_false h4
          have hr : t = false := hT0.out (by omega)
          subst hr
          go_wp2_with ((with_reducible refine wpList_unguard ?_ ?_); (focus rfl))
          go_ret
          exact ⟨rfl, rfl⟩
      · have ht3 : decide (n ≤ 255) = false := decide_eq_false h3
        have hr : t = false := hT0.out (by omega)
        subst hr
        go_wp2_with ((with_reducible refine wpList_unguard ?_ ?_); (focus rfl))
        go_ret
        exact ⟨rfl, rfl⟩
    · have ht2 : decide (k < n) = false := decide_eq_false h2
      have hr : t = false := hT0.out (by omega)
      subst hr
      go_wp2_with ((with_reducible refine wpList_unguard ?_ ?_); (focus rfl))
      go_ret
      exact ⟨rfl, rfl⟩
  · have ht : decide (1 ≤ k) = false := decide_eq_false h1
    have hr : t = false := hT0.out (by omega)
    subst hr
    go_wp2_with ((with_reducible refine wpList_unguard ?_ ?_); (focus rfl))
    go_ret
    exact ⟨rfl, rfl⟩
end Go.Proofs.Ytgckhekikcdaiaa

namespace Tri
/-- Weights that are bytes. -/
def wts (W : Nat → Nat) : Prop := ∀ i, W i < 256
/-- A polynomial's weighted sums, at weights moved by k. -/
def sh (W : Nat → Nat) (d : List Nat) (k : Nat) : Nat := ev (fun m => W (m + k)) d
theorem sh_wts (W : Nat → Nat) (d : List Nat) : wts (sh W d) := fun _ => ev_lt _ _
theorem ev_ptwo_sh (W : Nat → Nat) (hW : wts W) {a : List Nat} (b : List Nat) (ha : bytesL a) : ev W (ptwo a b) = ev (sh W b) a := ev_ptwo W hW ha
/-- d goes into p without a rest. -/
def dvd (d p : List Nat) : Prop := ∃ q, bytesL q ∧ ∀ W, wts W → ev W p = ev (sh W d) q
theorem ev_of_co {l s t : List Nat} (hs : bytesL s) (ht : bytesL t) (h : ∀ i, co l i = co s i ^^^ co t i) (W : Nat → Nat) (hW : wts W) : ev W l = ev W s ^^^ ev W t := by
  obtain ⟨N, h1, h2, h3⟩ : ∃ N, l.length ≤ N ∧ s.length ≤ N ∧ t.length ≤ N := ⟨l.length + s.length + t.length, by omega, by omega, by omega⟩
  rw [ev_XS_more W l N h1, ev_XS_more W s N h2, ev_XS_more W t N h3]
  clear h1 h2 h3
  induction N with
  | zero => exact (Nat.xor_self 0).symm
  | succ n ih => rw [XS, XS, XS, ih, h n, xor_gmul _ _ _ (hW n) (co_lt hs n) (co_lt ht n), xor4]
theorem ev_same {l m : List Nat} (h : ∀ i, co l i = co m i) (W : Nat → Nat) : ev W l = ev W m := by
  obtain ⟨N, h1, h2⟩ : ∃ N, l.length ≤ N ∧ m.length ≤ N := ⟨l.length + m.length, by omega, by omega⟩
  rw [ev_XS_more W l N h1, ev_XS_more W m N h2]
  exact XS_congr _ fun i _ => by rw [h]
/-- A factor as a weighted sum. -/
theorem co_ev {l : List Nat} (hl : bytesL l) (i : Nat) : co l i = ev (fun j => if j = i then 1 else 0) l := by
  rw [ev_XS]
  have key : ∀ n, XS (fun j => gmul (co l j) (if j = i then 1 else 0)) n = if i < n then co l i else 0 := by
    intro n
    induction n with
    | zero => rfl
    | succ n ih =>
      rw [XS, ih]
      by_cases e : n = i
      · subst e; rw [if_pos rfl, if_neg (by omega), if_pos (by omega), Nat.zero_xor, gmul_one _ (co_lt hl n)]
      · rw [if_neg e, gmul_zero, Nat.xor_zero]
        by_cases h : i < n
        · rw [if_pos h, if_pos (by omega)]
        · rw [if_neg h, if_neg (by omega)]
  rw [key]
  split
  · rfl
  · exact co_ge l i (by omega)
theorem delta_wts (i : Nat) : wts (fun j => if j = i then 1 else 0) := fun j => by
  show (if j = i then 1 else 0) < 256
  split <;> decide
theorem padd2_bytes {s t : List Nat} (hs : bytesL s) (ht : bytesL t) : bytesL (padd [s, t]) := by
  have h : ∀ a ∈ [s, t], bytesL a := by
    intro a ha
    simp only [List.mem_cons, List.not_mem_nil, or_false] at ha
    rcases ha with rfl | rfl <;> assumption
  have := (addAll_take (longest [s, t]) [s, t] h [s, t].length (Nat.le_refl _)).2
  rw [List.take_length] at this
  exact trim_bytes this
theorem ev_padd2 {s t : List Nat} (hs : bytesL s) (ht : bytesL t) (W : Nat → Nat) (hW : wts W) : ev W (padd [s, t]) = ev W s ^^^ ev W t := by
  refine ev_of_co hs ht (fun i => ?_) W hW
  have h : ∀ a ∈ [s, t], bytesL a := by
    intro a ha
    simp only [List.mem_cons, List.not_mem_nil, or_false] at ha
    rcases ha with rfl | rfl <;> assumption
  have h1 := co_addAll (longest [s, t]) [s, t] h (fun a ha => longest_ge _ a ha) i 2 (Nat.le_refl _)
  unfold padd
  rw [co_trim]
  refine h1.trans ?_
  show 0 ^^^ co s i ^^^ co t i = _
  rw [Nat.zero_xor]
theorem IsDiv.evs {a b q r : List Nat} (h : IsDiv a b q r) (_ha : bytesL a) (W : Nat → Nat) (hW : wts W) : ev W a = ev (sh W b) q ^^^ ev W r := by
  have hb2 : ∀ i, co a i = co (ptwo q b) i ^^^ co r i := fun i => by rw [h.back, co_ptwo, h.qt]
  have hpb : bytesL (ptwo q b) := by
    unfold ptwo
    split
    · intro x hx; simp at hx
    · exact convTo_bytes (bytesL.zeros _) _ _ _
  rw [ev_of_co hpb h.rb hb2 W hW, ev_ptwo_sh W hW b h.qb]
theorem dvd_refl {a : List Nat} (ha : bytesL a) : dvd a a := by
  refine ⟨[1], fun y hy => by simp at hy; omega, fun W hW => ?_⟩
  show _ = gmul 1 (sh W a 0) ^^^ 0
  rw [Nat.xor_zero, one_gmul _ (sh_wts W a 0)]
  rfl
theorem dvd_nil (d : List Nat) : dvd d [] := ⟨[], fun y hy => by simp at hy, fun _ _ => rfl⟩
theorem dvd_mul {d b q : List Nat} (h : dvd d b) (hq : bytesL q) : ∃ s, bytesL s ∧ ∀ W, wts W → ev (sh W b) q = ev (sh W d) s := by
  obtain ⟨s, hs, he⟩ := h
  refine ⟨ptwo q s, ptwo_bytes hq hs, fun W hW => ?_⟩
  rw [ev_ptwo_sh _ (sh_wts W d) s hq]
  refine ev_congr q fun k _ => ?_
  show ev (fun m => W (m + k)) b = ev (fun m => sh W d (m + k)) s
  rw [he _ (fun m => hW _)]
  refine ev_congr s fun m _ => ?_
  exact ev_congr d fun j _ => by show W (j + m + k) = W (j + (m + k)); rw [Nat.add_assoc]
theorem dvd_sum {d : List Nat} {s t : List Nat} (hs : bytesL s) (ht : bytesL t) : ∃ u, bytesL u ∧ ∀ W, wts W → ev (sh W d) s ^^^ ev (sh W d) t = ev (sh W d) u :=
  ⟨padd [s, t], padd2_bytes hs ht, fun W _ => (ev_padd2 hs ht _ (sh_wts W d)).symm⟩
/-- What goes into divisor and rest goes into what is divided. -/
theorem IsDiv.dvd_whole {a b q r d : List Nat} (h : IsDiv a b q r) (ha : bytesL a) (h1 : dvd d b) (h2 : dvd d r) : dvd d a := by
  obtain ⟨s, hs, e1⟩ := dvd_mul h1 h.qb
  obtain ⟨t, ht, e2⟩ := h2
  obtain ⟨u, hu, e3⟩ := dvd_sum (d := d) hs ht
  exact ⟨u, hu, fun W hW => by rw [h.evs ha W hW, e1 W hW, e2 W hW, e3 W hW]⟩
theorem IsDiv.dvd_rest {a b q r d : List Nat} (h : IsDiv a b q r) (ha : bytesL a) (h1 : dvd d a) (h2 : dvd d b) : dvd d r := by
  obtain ⟨s, hs, e1⟩ := dvd_mul h2 h.qb
  obtain ⟨t, ht, e2⟩ := h1
  obtain ⟨u, hu, e3⟩ := dvd_sum (d := d) ht hs
  refine ⟨u, hu, fun W hW => ?_⟩
  have := h.evs ha W hW
  rw [e2 W hW, e1 W hW] at this
  rw [← e3 W hW, this, Nat.xor_comm (ev (sh W d) s), Nat.xor_assoc, Nat.xor_self, Nat.xor_zero]
theorem ptwo_len (a b : List Nat) (ha : trim a ≠ []) (hb : trim b ≠ []) : (ptwo a b).length + 1 = (trim a).length + (trim b).length := by
  have h1 : 0 < (trim a).length := List.length_pos_iff.2 ha
  unfold ptwo
  rw [if_neg (fun h => h.elim ha hb), convTo_length, List.length_replicate]
  omega
/-- What goes in leaves no rest. -/
theorem IsDiv.rest_nil {a b q r : List Nat} (h : IsDiv a b q r) (ha : bytesL a) (h1 : dvd b a) : r = [] := by
  obtain ⟨s, hs, e1⟩ := h1
  obtain ⟨u, hu, e2⟩ := dvd_sum (d := b) hs h.qb
  have he : ∀ W, wts W → ev W r = ev W (ptwo u b) := fun W hW => by
    rw [ev_ptwo_sh W hW b hu, ← e2 W hW]
    have := h.evs ha W hW
    rw [e1 W hW] at this
    rw [this, Nat.xor_comm (ev (sh W b) q), Nat.xor_assoc, Nat.xor_self, Nat.xor_zero]
  have hpb : bytesL (ptwo u b) := by
    unfold ptwo
    split
    · intro x hx; simp at hx
    · exact convTo_bytes (bytesL.zeros _) _ _ _
  have hco : ∀ i, co r i = co (ptwo u b) i := fun i => by rw [co_ev h.rb, co_ev hpb, he _ (delta_wts i)]
  have ht := trim_ext hco
  rw [h.rt, ptwo_trim] at ht
  by_cases hu0 : trim u = []
  · rw [ht]; unfold ptwo; rw [if_pos (.inl hu0)]
  · have hd := h.deg
    have hb0 : trim b ≠ [] := fun e => by rw [e] at hd; simp at hd
    have := ptwo_len u b hu0 hb0
    have h3 : 0 < (trim u).length := List.length_pos_iff.2 hu0
    rw [ht] at hd
    omega

/-- The greatest common divisor of two, before its first factor is made 1. -/
def gcdL (a b : List Nat) : Nat → List Nat
  | 0 => a
  | n + 1 => if b = [] then a else gcdL b (pdivmod a b).2 n
theorem gcdL_more (n : Nat) : ∀ (a b : List Nat) (m : Nat), bytesL a → bytesL b → trim b = b → b.length ≤ n → n ≤ m → gcdL a b m = gcdL a b n := by
  induction n with
  | zero =>
    intro a b m _ _ _ hb _
    have : b = [] := List.eq_nil_of_length_eq_zero (by omega)
    cases m with
    | zero => rfl
    | succ m => unfold gcdL; rw [if_pos this]
  | succ n ih =>
    intro a b m ha hbb hbt hb hm
    obtain ⟨m, rfl⟩ : ∃ k, m = k + 1 := ⟨m - 1, by omega⟩
    unfold gcdL
    by_cases h : b = []
    · rw [if_pos h, if_pos h]
    · rw [if_neg h, if_neg h]
      have hd := pdivmod_is ha hbb (by rw [hbt]; exact h)
      have := hd.deg
      rw [hbt] at this
      exact ih _ _ _ hbb hd.rb hd.rt (by omega) (by omega)
structure IsGcd (a b g : List Nat) : Prop where
  bytes : bytesL g
  tr : trim g = g
  left : dvd g a
  right : dvd g b
  most : ∀ d, dvd d a → dvd d b → dvd d g
  len : g.length ≤ max a.length b.length
theorem gcdL_is (n : Nat) : ∀ (a b : List Nat), bytesL a → bytesL b → trim a = a → trim b = b → b.length ≤ n → IsGcd a b (gcdL a b n) := by
  induction n with
  | zero =>
    intro a b ha hb hat _ hl
    have : b = [] := List.eq_nil_of_length_eq_zero (by omega)
    subst this
    exact ⟨ha, hat, dvd_refl ha, dvd_nil _, fun d h _ => h, Nat.le_max_left _ _⟩
  | succ n ih =>
    intro a b ha hb hat hbt hl
    unfold gcdL
    by_cases h : b = []
    · rw [if_pos h]; subst h
      exact ⟨ha, hat, dvd_refl ha, dvd_nil _, fun d h _ => h, Nat.le_max_left _ _⟩
    · rw [if_neg h]
      have hd := pdivmod_is ha hb (by rw [hbt]; exact h)
      have hdeg := hd.deg
      rw [hbt] at hdeg
      have hg := ih b (pdivmod a b).2 hb hd.rb hbt hd.rt (by omega)
      refine ⟨hg.bytes, hg.tr, hd.dvd_whole ha hg.left hg.right, hg.left, fun d h1 h2 => hg.most d h2 (hd.dvd_rest ha h1 h2), ?_⟩
      have := hg.len
      omega
def gcd2 (a b : List Nat) : List Nat := gcdL a b b.length
theorem gcd2_nil (a : List Nat) : gcd2 a [] = a := rfl
theorem gcd2_step {a b : List Nat} (ha : bytesL a) (hb : bytesL b) (hbt : trim b = b) (h : b ≠ []) : gcd2 a b = gcd2 b (pdivmod a b).2 := by
  have hd := pdivmod_is ha hb (by rw [hbt]; exact h)
  have hdeg := hd.deg
  rw [hbt] at hdeg
  unfold gcd2
  obtain ⟨m, hm⟩ : ∃ m, b.length = m + 1 := ⟨b.length - 1, by omega⟩
  rw [hm]
  show (if b = [] then a else gcdL b (pdivmod a b).2 m) = _
  rw [if_neg h]
  exact gcdL_more _ _ _ _ hb hd.rb hd.rt (Nat.le_refl _) (by omega)
theorem gcd2_is {a b : List Nat} (ha : bytesL a) (hb : bytesL b) (hat : trim a = a) (hbt : trim b = b) : IsGcd a b (gcd2 a b) := gcdL_is _ a b ha hb hat hbt (Nat.le_refl _)
/-- Of many. -/
def gcds (l : List (List Nat)) : List Nat := l.foldl (fun out b => gcd2 out (trim b)) []
theorem gcds_snoc (l : List (List Nat)) (a : List Nat) : gcds (l ++ [a]) = gcd2 (gcds l) (trim a) := by unfold gcds; rw [List.foldl_append]; rfl
theorem dvd_trim {d a : List Nat} : dvd d (trim a) ↔ dvd d a := by
  constructor <;> rintro ⟨q, hq, h⟩
  · exact ⟨q, hq, fun W hW => by rw [← ev_trim, h W hW]⟩
  · exact ⟨q, hq, fun W hW => by rw [ev_trim, h W hW]⟩
theorem dvd_trans {a b c : List Nat} (h1 : dvd a b) (h2 : dvd b c) : dvd a c := by
  obtain ⟨q, hq, h⟩ := h2
  obtain ⟨s, hs, h3⟩ := dvd_mul h1 hq
  exact ⟨s, hs, fun W hW => by rw [h W hW, h3 W hW]⟩
theorem gcds_take (l : List (List Nat)) (hb : ∀ a ∈ l, bytesL a) (m : Nat) (hm : ∀ a ∈ l, a.length ≤ m) : ∀ k, k ≤ l.length →
    bytesL (gcds (l.take k)) ∧ trim (gcds (l.take k)) = gcds (l.take k) ∧ (gcds (l.take k)).length ≤ m ∧ (∀ a ∈ l.take k, dvd (gcds (l.take k)) a) ∧ (∀ d, (∀ a ∈ l.take k, dvd d a) → dvd d (gcds (l.take k))) := by
  intro k
  induction k with
  | zero =>
    intro _
    exact ⟨fun x hx => by simp [gcds] at hx, rfl, Nat.zero_le _, fun a ha => by simp at ha, fun d _ => dvd_nil d⟩
  | succ k ih =>
    intro hk
    obtain ⟨h1, h2, h3, h4, h5⟩ := ih (by omega)
    have hmem : l.getD k [] ∈ l := by rw [List.getD_eq_getElem?_getD, List.getElem?_eq_getElem (by omega)]; exact List.getElem_mem _
    rw [take_snocR l k (by omega), gcds_snoc]
    have hl := hm _ hmem
    have hbb := hb _ hmem
    generalize l.getD k [] = b at *
    generalize gcds (l.take k) = g at *
    have hg := gcd2_is h1 (trim_bytes hbb) h2 (trim_trim b)
    have hgl := hg.len
    have htl := trim_length_le b
    refine ⟨hg.bytes, hg.tr, by omega, ?_, ?_⟩
    · intro a ha
      rcases List.mem_append.1 ha with h | h
      · exact dvd_trans hg.left (h4 a h)
      · simp only [List.mem_singleton] at h; subst h
        exact dvd_trim.1 hg.right
    · intro d hd
      exact hg.most d (h5 d fun a ha => hd a (List.mem_append_left _ ha)) (dvd_trim.2 (hd b (by simp)))
/-- Its first factor made 1. -/
def pmonic (a : List Nat) : List Nat := if a = [] then [] else ptwo a [ginv (a.getD 0 0)]
theorem ev_scale (W : Nat → Nat) (hW : wts W) {g : List Nat} (hg : bytesL g) (c : Nat) (hc : c < 256) : ev W (ptwo g [c]) = gmul c (ev W g) := by
  rw [ev_ptwo_sh W hW _ hg]
  have : ∀ k, sh W [c] k = gmul c (W k) := fun k => by
    show gmul c (W (0 + k)) ^^^ 0 = _
    rw [Nat.zero_add, Nat.xor_zero]
  rw [ev_congr g fun k _ => this k, ev_mul c hc]
theorem one_bytes {c : Nat} (hc : c < 256) : bytesL [c] := fun y hy => by simp only [List.mem_singleton] at hy; omega
theorem dvd_scale_left {g p : List Nat} (hg : bytesL g) {c : Nat} (hc : c < 256) (h0 : c ≠ 0) (h : dvd g p) : dvd (ptwo g [c]) p := by
  obtain ⟨s, hs, e⟩ := h
  refine ⟨ptwo s [ginv c], ptwo_bytes hs (one_bytes (ginv_lt _)), fun W hW => ?_⟩
  rw [ev_scale _ (sh_wts _ _) hs _ (ginv_lt _), e W hW]
  have : ∀ k, sh W (ptwo g [c]) k = gmul c (sh W g k) := fun k => ev_scale _ (fun m => hW _) hg c hc
  rw [ev_congr s fun k _ => this k, ev_mul c hc, ← gmul_assoc, gmul_comm (ginv c), gmul_ginv c h0, one_gmul _ (ev_lt _ _)]
theorem dvd_scale_right {d g : List Nat} (hg : bytesL g) {c : Nat} (hc : c < 256) (h : dvd d g) : dvd d (ptwo g [c]) := by
  obtain ⟨s, hs, e⟩ := h
  refine ⟨ptwo s [c], ptwo_bytes hs (one_bytes hc), fun W hW => ?_⟩
  rw [ev_scale _ (sh_wts _ _) hs _ hc, ev_scale W hW hg c hc, e W hW]
theorem ptwo_head (A B : List Nat) (hA : A.getD 0 0 ≠ 0) (hB : B.getD 0 0 ≠ 0) : (ptwo A B).getD 0 0 = gmul (A.getD 0 0) (B.getD 0 0) := by
  have hA0 : 0 < A.length := by cases A with | nil => exact absurd rfl hA | cons => simp
  have hB0 : 0 < B.length := by cases B with | nil => exact absurd rfl hB | cons => simp
  unfold ptwo
  rw [trim_nz A hA, trim_nz B hB, if_neg (by intro h; rcases h with h | h; · rw [h] at hA0; simp at hA0
                                             · rw [h] at hB0; simp at hB0)]
  rw [getD_convTo _ _ _ _ (by rw [List.length_replicate]; omega), getD_zeros, Nat.zero_xor]
  obtain ⟨m, hm⟩ : ∃ m, A.length = m + 1 := ⟨A.length - 1, by omega⟩
  rw [hm, XS_first, XS_zero (fun i => cvt (fun i => A.getD i 0) (fun i => B.getD i 0) 0 (i + 1)) m (fun i _ => by unfold cvt; rw [if_neg (by omega)]), Nat.xor_zero]
  unfold cvt
  rw [if_pos (Nat.le_refl _)]
theorem pmonic_is {g : List Nat} (hg : bytesL g) (ht : trim g = g) (h0 : g ≠ []) : bytesL (pmonic g) ∧ trim (pmonic g) = pmonic g ∧ pmonic g ≠ [] ∧ (pmonic g).getD 0 0 = 1 ∧ (pmonic g).length = g.length ∧
    (∀ p, dvd g p → dvd (pmonic g) p) ∧ (∀ d, dvd d g → dvd d (pmonic g)) := by
  have hh : g.getD 0 0 ≠ 0 := by have := trim_head g (by rw [ht]; exact h0); rwa [ht] at this
  have hi := ginv_lt (g.getD 0 0)
  have hi0 := ginv_ne (g.getD 0 0)
  have hlin : trim [ginv (g.getD 0 0)] = [ginv (g.getD 0 0)] := by unfold trim; rw [if_neg hi0]
  have hlen := ptwo_len g [ginv (g.getD 0 0)] (by rw [ht]; exact h0) (by rw [hlin]; simp)
  rw [ht, hlin] at hlen
  have hhead := ptwo_head g [ginv (g.getD 0 0)] hh hi0
  have hg1 : gmul (g.getD 0 0) (ginv (g.getD 0 0)) = 1 := gmul_ginv _ hh
  have hpos : 0 < g.length := List.length_pos_iff.2 h0
  unfold pmonic
  rw [if_neg h0]
  simp only [List.length_singleton] at hlen
  refine ⟨ptwo_bytes hg (one_bytes hi), ptwo_trim _ _, fun e => by have := congrArg List.length e; simp only [List.length_nil] at this; omega, by rw [hhead]; exact hg1, by omega, fun p h => dvd_scale_left hg hi hi0 h, fun d h => dvd_scale_right hg hi h⟩
/-- Nothing but 0 is a multiple of 0. -/
theorem dvd_zero {p : List Nat} (hp : bytesL p) (h : dvd [] p) : trim p = [] := by
  obtain ⟨s, hs, e⟩ := h
  have : ∀ i, co p i = co [] i := fun i => by
    rw [co_ev hp, e _ (delta_wts i)]
    show ev (fun _ => 0) s = _
    rw [ev_zero, co_ge [] i (Nat.zero_le _)]
  exact (trim_ext this).trans rfl
theorem dvd_ptwo {q b : List Nat} (hq : bytesL q) : dvd b (ptwo q b) := ⟨q, hq, fun W hW => ev_ptwo_sh W hW b hq⟩
end Tri

namespace Tri
theorem proots_example : proots [1, 2] = [1, 3, 2] := by decide +kernel
end Tri
namespace Go.Proofs.Ytgckhekikcdaiaa
open Go.RowKit Tri

set_option maxHeartbeats 1000000 in
set_option maxRecDepth 100000 in
theorem law05_awake (w : World) : Calls Try.prog 19 #[] w fun e w' => e = .returned (.bool true) ∧ Below w.heap.size w w' := by
  (go_enter Try.func19, Try.ntmps19; try simp only [List.append])
  go_wp2_with ((with_reducible refine wpList_unguard ?_ ?_); (focus rfl))
  refine Calls.mono (gf_NewK w w (Below.refl _ _)) ?_; rintro e w2 ⟨b, rfl, K0⟩; have K := hid K0; clear K0
  go_wp2_with ((with_reducible refine wpList_unguard ?_ ?_); (focus rfl))
  have C0 := hid (cellsB.new w2 [1, 2] #[.int .u8 1, .int .u8 2] 5 rfl)
  have K3 := hid (K.out.alloc (.cells #[.int .u8 1, .int .u8 2] 5))
  generalize w2.alloc (.cells #[.int .u8 1, .int .u8 2] 5) = w3 at *
  refine Calls.mono (poly_Roots b _ _ _ [1, 2] w3 K3.out.2 rfl C0.out (by intro y hy; simp at hy; omega) (by simp)) ?_
  rintro e w4 ⟨p, c, rfl, hle, hc, hbel⟩
  rw [proots_example] at hle hc ⊢
  have HC := hid hc
  have K4 := hid (K3.out.1.trans (hbel.mono K3.out.1.size))
  obtain ⟨a, o, rfl, c0⟩ := HC.out 0 (by simp)
  obtain ⟨a1, o1, e1, c1⟩ := HC.out 1 (by simp)
  obtain ⟨a2, o2, e2, c2⟩ := HC.out 2 (by simp)
  simp only [Option.some.injEq, Addr.mk.injEq] at e1 e2
  obtain ⟨rfl, rfl, _⟩ := e1
  obtain ⟨rfl, rfl, _⟩ := e2
  simp at c0 c1 c2 hle
  clear hc hbel C0
  go_wp2_with ((with_reducible refine wpList_unguard ?_ ?_); (focus rfl))
  refine Calls.mono (poly_Degree (some ⟨a, o, none⟩) 3 c [1, 3, 2] w4 rfl hle HC.out (by simp)) ?_; rintro e w5 ⟨rfl, hb⟩
  have K5 := hid (K4.out.trans (hb.mono K4.out.size))
  rw [show (((trim [1, 3, 2]).length : Int) - 1) = 2 from rfl]
  clear hb
  go_wp2_with ((with_reducible refine wpList_unguard ?_ ?_); (focus rfl))
  go_ret
  exact ⟨rfl, K5.out⟩

/-- More than is played? -/
def longP (l : List (List Nat)) : Bool := l.any (fun a => decide (60 < a.length)) || decide (6 < l.length)
set_option maxHeartbeats 1000000 in
theorem law05_great (p : Option Addr) (n c : Nat) (l : List (List Nat)) (w : World) (hn : n = l.length) (hp : cellsR w p l) (hl : l.length ≤ 140737488351232) (hz : ∀ a ∈ l, a.length ≤ 140737488351232) :
    Calls Try.prog 20 #[.slice p n c] w fun e w' => e = .returned (.bool (longP l)) ∧ w = w' := by
  subst hn
  have HP := hid hp
  have HZ := hid hz
  clear hp hz
  go_enter Try.func20, Try.ntmps20
  go_wp2_with ((with_reducible refine wpList_unguard ?_ ?_); (focus rfl))
  go_loop [7] (fun i => ∃ k : Nat, k ≤ l.length ∧ i = .int .i64 k ∧ (l.take k).any (fun a => decide (60 < a.length)) = false) (fun i => l.length - (intOf i).toNat)
  case atStart => exact ⟨0, Nat.zero_le _, rfl, rfl⟩
  case round =>
    obtain ⟨k, hk, rfl, hA⟩ := hrel
    have HA := hid hA
    clear hA
    by_cases hlt : k < l.length
    · obtain ⟨a, o, q', c', rfl, hc, _, _⟩ := HP.out k hlt
      have hy := HZ.out (l.getD k []) (by rw [List.getD_eq_getElem?_getD, List.getElem?_eq_getElem hlt]; exact List.getElem_mem _)
      have HS : Hid (l.take (k + 1) = l.take k ++ [l.getD k []]) := take_snocR l k hlt
      have hmem : Hid (l.getD k [] ∈ l) := by show _ ∈ _; rw [List.getD_eq_getElem?_getD, List.getElem?_eq_getElem hlt]; exact List.getElem_mem _
      generalize l.getD k [] = y at *
      by_cases hbig : 60 < y.length
      · have hd : decide (60 < (y.length : Int)) = true := by simp; omega
        have hL : Hid (longP l = true) := by
          show _ = _; unfold longP; rw [List.any_eq_true.2 ⟨y, hmem.out, by simpa using hbig⟩]; rfl
        go_wp2
        go_ret
        exact ⟨by rw [hL.out]; rfl, rfl⟩
      · have hd : decide (60 < (y.length : Int)) = false := by simp; omega
        go_wp2
        go_round
        case rel => exact ⟨k + 1, by omega, by go_num, by rw [HS.out, List.any_append, HA.out]; simpa using hbig⟩
        case measure => simp [intOf]; omega
    · have hL : Hid (longP l = decide (6 < (l.length : Int))) := by
        show _ = _
        have h1 := HA.out
        rw [List.take_of_length_le (by omega)] at h1
        unfold longP; rw [h1, Bool.false_or]
        by_cases h : 6 < l.length
        · rw [decide_eq_true h, decide_eq_true (by omega)]
        · rw [decide_eq_false h, decide_eq_false (by omega)]
      go_wp2
      go_ret
      exact ⟨by rw [hL.out]; rfl, rfl⟩
end Go.Proofs.Ytgckhekikcdaiaa

namespace Go.Proofs.Ytgckhekikcdaiaa
open Go.ChangeShapes Go.WideShapes Go.ChangeAt Go.RowKit

def IsStrs (w : World) (a : Option Addr) (len cap : Nat) (l : List ByteArray) : Prop :=
  len = l.length ∧ len ≤ cap ∧ cap ≤ 140737488351232 ∧ cellsS w a l ∧ ∀ s ∈ l, s.size ≤ 140737488351232
def IsBytes (w : World) (a : Option Addr) (len cap : Nat) (l : List Nat) : Prop :=
  len = l.length ∧ len ≤ cap ∧ cap ≤ 140737488351232 ∧ cellsB w a l ∧ ∀ x ∈ l, x < 256

theorem weightsAll_mem {H : Type} {P : Program} {e : TypeId} : ∀ {l : List (DataW H)} {d : DataW H}, d ∈ l → ∀ n ∈ d.weights P e, n ∈ DataW.weightsAll P e l
  | d' :: r, d, hd, n, hn => by
    simp only [DataW.weightsAll, List.mem_append]
    rcases List.mem_cons.1 hd with rfl | h
    · exact Or.inl hn
    · exact Or.inr (weightsAll_mem h n hn)
theorem sized_innerS {H : Type} {P : Program} {ts : List TypeId} {ds : List (DataW H)} (h : (DataW.weightsEach P ts ds).all (· ≤ reachBytes) = true) {j : Nat} {t e : TypeId} {elems spare : List (DataW H)} {cs : List UInt8}
    (ht : ts[j]? = some t) (hd : ds[j]? = some (.slice elems spare)) (hu : P.underlying t = some (.slice e)) (hx : DataW.lit (.string cs) ∈ elems) : cs.length ≤ reachBytes := by
  refine of_decide_eq_true (List.all_eq_true.1 h _ (DataW.weights_mem_each ht hd _ ?_))
  simp only [DataW.weights, hu, List.mem_cons, List.mem_append]
  exact Or.inr (Or.inl (weightsAll_mem hx _ (by simp [DataW.weights])))
theorem getD_takeS (l : List ByteArray) (n i : Nat) (h : i < (l.take n).length) : (l.take n).getD i ByteArray.empty = l.getD i ByteArray.empty := by
  simp only [List.length_take] at h
  simp only [List.getD_eq_getElem?_getD, List.getElem?_take]
  rw [if_pos (by omega)]
theorem spot_add {w : World} {a : Addr} {i : Nat} {v v0 : Value} (h0 : w.cell? (a.add 0) = some v0) (h : w.cell? (a.add i) = some v) : a = ⟨a.block, a.off, none⟩ ∧ w.cell? ⟨a.block, a.off + i, none⟩ = some v := by
  obtain ⟨b, o, s⟩ := a
  have hs : s = none := by simpa [Addr.add] using World.cell?_spot h0
  subst hs
  exact ⟨rfl, by rwa [add_plain] at h⟩

theorem open_strs {H : Type} {enc : TypeId × Value → H} {W : World} {base t e j len cap : Nat} {a : Option Addr} {d : DataW H} {p : List MemPlace} {ts : List TypeId} {ds : List (DataW H)}
    (hsz : (DataW.weightsEach Try.prog ts ds).all (· ≤ reachBytes) = true) (ht : ts[j]? = some t) (hd : ds[j]? = some d)
    (hu : Try.prog.underlying t = some (.slice e)) (he : Try.prog.underlying e = some .string) (hc : Try.prog.cellsOf e = 1) (hb : Try.prog.bytesOf e = 16)
    (h : DataW.Trod enc Try.prog W base (fun _ => true) true t (.slice a len cap) d p) : ∃ l, IsStrs W a len cap l := by
  obtain ⟨fuel, hf⟩ := h
  rcases open_strings hu he hc hf with ⟨hcs, _⟩ | ⟨x, l, c, ss, hcs, _, hl, hm, hz, hx, hcell, _⟩
  · simp [Value.cells] at hcs
    obtain ⟨rfl, rfl, rfl⟩ := hcs
    exact ⟨[], rfl, Nat.le_refl _, by omega, cellsS.nil _ _, by simp⟩
  · simp [Value.cells] at hcs
    obtain ⟨rfl, rfl, rfl⟩ := hcs
    simp only [if_true] at hz
    simp only [Prod.mk.injEq] at hx
    obtain ⟨rfl, -⟩ := hx
    have h1 := sized_slice hsz ht hd hu
    simp only [strs, List.length_map, List.length_take, List.length_drop, hb, reachBytes] at h1
    refine ⟨ss.take len, by rw [List.length_take]; omega, hl, by omega, ?_, ?_⟩
    · intro i hi
      have hi' : i < ss.length := by rw [List.length_take] at hi; omega
      obtain ⟨hx1, hx2⟩ := spot_add (hcell 0 (by omega)) (hcell i hi')
      exact ⟨_, _, congrArg some hx1, by rw [getD_takeS _ _ _ hi]; exact hx2⟩
    · intro s hs
      have h2 := sized_innerS (cs := s.data.toList) hsz ht hd hu (List.mem_map.2 ⟨s, hs, rfl⟩)
      simpa [reachBytes] using h2

theorem open_bytes {H : Type} {enc : TypeId × Value → H} {W : World} {base t e j len cap : Nat} {a : Option Addr} {d : DataW H} {p : List MemPlace} {ts : List TypeId} {ds : List (DataW H)}
    (hsz : (DataW.weightsEach Try.prog ts ds).all (· ≤ reachBytes) = true) (ht : ts[j]? = some t) (hd : ds[j]? = some d)
    (hu : Try.prog.underlying t = some (.slice e)) (he : Try.prog.underlying e = some (.int .u8)) (hc : Try.prog.cellsOf e = 1) (hb : Try.prog.bytesOf e = 1)
    (h : DataW.Trod enc Try.prog W base (fun _ => true) true t (.slice a len cap) d p) : ∃ l, IsBytes W a len cap l := by
  obtain ⟨fuel, hf⟩ := h
  rcases open_ints hu he hc hf with ⟨hcs, _⟩ | ⟨x, l, c, zs, hcs, _, hl, hm, hz, hx, hcell, hw⟩
  · simp [Value.cells] at hcs
    obtain ⟨rfl, rfl, rfl⟩ := hcs
    exact ⟨[], rfl, Nat.le_refl _, by omega, cellsB.nil _ _, by simp⟩
  · simp [Value.cells] at hcs
    obtain ⟨rfl, rfl, rfl⟩ := hcs
    simp only [if_true] at hz
    simp only [Prod.mk.injEq] at hx
    obtain ⟨rfl, -⟩ := hx
    have h1 := sized_slice hsz ht hd hu
    simp only [lits, List.length_map, List.length_take, List.length_drop, hb, reachBytes] at h1
    refine ⟨(zs.take len).map Int.toNat, by rw [List.length_map, List.length_take]; omega, hl, by omega, ?_, ?_⟩
    · intro i hi
      rw [List.length_map, List.length_take] at hi
      have hi' : i < zs.length := by omega
      obtain ⟨hx1, hx2⟩ := spot_add (hcell 0 (by omega)) (hcell i hi')
      have hmem : zs[i] ∈ zs := List.getElem_mem hi'
      have hn := u8_of (hw _ hmem)
      refine ⟨_, _, congrArg some hx1, ?_⟩
      rw [hx2]
      have h3 : ((zs.take len).map Int.toNat).getD i 0 = (zs[i]).toNat := by
        simp only [List.getD_eq_getElem?_getD, List.getElem?_map, List.getElem?_take]
        rw [if_pos (by omega), List.getElem?_eq_getElem hi']
        rfl
      rw [h3, List.getD_eq_getElem?_getD, List.getElem?_eq_getElem hi']
      obtain ⟨m, hm1, hm2⟩ := hn
      simp [hm2]
    · intro y hy
      obtain ⟨z, hz1, rfl⟩ := List.mem_map.1 hy
      have hn := u8_of (hw z (List.mem_of_mem_take hz1))
      obtain ⟨m, hm1, hm2⟩ := hn
      omega
end Go.Proofs.Ytgckhekikcdaiaa

namespace Tri
theorem gpow_gp (x k : Nat) (hx : x < 256) (hk : 0 < k) : Go.Proofs.Ytgckhekikcdaiaa.gpow x (k : Int) = gp x k := by
  unfold Go.Proofs.Ytgckhekikcdaiaa.gpow
  rw [if_neg (by omega)]
  by_cases h0 : x = 0
  · subst h0
    rw [if_pos rfl]
    cases k with
    | zero => omega
    | succ k => exact (gmul_zero _).symm
  · rw [if_neg h0, gp_gexp x k h0 hx]
    unfold Go.Proofs.Ytgckhekikcdaiaa.gexpZ gexp
    congr 1
    omega
theorem peval_pshift (x : Nat) {l : List Nat} (h : bytesL l) (k : Nat) (hk : k ≤ 1000) : peval x (pshift l (k : Int)) = gmul (peval x l) (gp x k) := by
  unfold pshift
  split
  · rename_i e
    rw [← peval_trim x l, e]
    exact (zero_gmul _).symm
  · rw [peval_shift x _ (trim_bytes h), peval_trim]
    congr 2
    unfold shiftN
    omega
theorem peval_pmul2 (x : Nat) {a b : List Nat} (ha : bytesL a) (hb : bytesL b) (hx : x < 256) : peval x (pmul [a, b]) = gmul (peval x a) (peval x b) := by
  have h1 : bytesL [1] := fun y hy => by simp at hy; omega
  show peval x (ptwo (ptwo [1] a) b) = _
  rw [peval_ptwo x (ptwo_bytes h1 ha) hb, peval_ptwo x h1 ha]
  have : peval x [1] = 1 := by show gmul 0 x ^^^ 1 = 1; rw [zero_gmul]; rfl
  rw [this, one_gmul _ (peval_lt x ha)]
theorem peval_padd2 (x : Nat) {a b : List Nat} (ha : bytesL a) (hb : bytesL b) : peval x (padd [a, b]) = peval x a ^^^ peval x b := by
  rw [peval_padd x _ (by intro y hy; simp only [List.mem_cons, List.not_mem_nil, or_false] at hy; rcases hy with rfl | rfl <;> assumption)]
  show 0 ^^^ peval x a ^^^ peval x b = _
  rw [Nat.zero_xor]
theorem padd_bytes {l : List (List Nat)} (h : ∀ a ∈ l, bytesL a) : bytesL (padd l) := by
  have := (addAll_take (longest l) l h l.length (Nat.le_refl _)).2
  rw [List.take_length] at this
  exact trim_bytes this
theorem pmul_bytes {l : List (List Nat)} (h : ∀ a ∈ l, bytesL a) : bytesL (pmul l) := by
  have := (pmul_take l h l.length (Nat.le_refl _)).2
  rwa [List.take_length] at this
theorem pmul_len {l : List (List Nat)} (h : ∀ a ∈ l, bytesL a) : (pmul l).length ≤ lens l + 1 := by
  have := (pmul_take l h l.length (Nat.le_refl _)).1
  rwa [List.take_length] at this
theorem padd_len (l : List (List Nat)) (h : ∀ a ∈ l, bytesL a) : (padd l).length ≤ longest l := by
  have := (addAll_take (longest l) l h l.length (Nat.le_refl _)).1
  rw [List.take_length] at this
  have h2 := trim_length_le (addAll (longest l) l)
  unfold padd
  omega
theorem pshift_bytes {l : List Nat} (h : bytesL l) (k : Int) : bytesL (pshift l k) := by
  unfold pshift
  split
  · intro x hx; simp at hx
  · intro x hx
    rcases List.mem_append.1 hx with h1 | h1
    · exact trim_bytes h x h1
    · exact bytesL.zeros _ x h1
theorem pshift_len (l : List Nat) (k : Int) : (pshift l k).length ≤ l.length + 1000 := by
  have := trim_length_le l
  have := shiftN_le k
  unfold pshift
  split
  · simp
  · rw [List.length_append, List.length_replicate]; omega
end Tri
namespace Go.Proofs.Ytgckhekikcdaiaa
open Go.RowKit Tri

/-- Two rows in a new row. -/
theorem cellsR.two {w : World} {p q : Option Addr} {c d : Nat} {a b : List Nat} (t : TypeId) (hp : cellsB w p a) (hle : a.length ≤ c) (hq : cellsB w q b) (hle' : b.length ≤ d) :
    cellsR (w.alloc (.cells #[.slice p a.length c, .slice q b.length d] t)) (some ⟨w.heap.size, 0, none⟩) [a, b] := by
  intro i hi
  match i, hi with
  | 0, _ => exact ⟨_, _, p, c, rfl, by rw [World.cell?_alloc_new]; rfl, hle, hp.alloc _⟩
  | 1, _ => exact ⟨_, _, q, d, rfl, by rw [World.cell?_alloc_new]; rfl, hle', hq.alloc _⟩
theorem Keeps.next {w0 w w' : World} {b : Nat} (h : Keeps w0 b w) (h' : Below w.heap.size w w') : Keeps w0 b w' :=
  ⟨h.1.trans (h'.mono h.1.size), h.2.below h' h.2.lt⟩

end Go.Proofs.Ytgckhekikcdaiaa
