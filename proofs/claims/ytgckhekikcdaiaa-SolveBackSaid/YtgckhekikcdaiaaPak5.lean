/-
  unlike, by of the solver.
  erasures of the solver.
  The document's polynomials (the reference): from bytes, back to bytes, sums.
  The document's polynomials (the reference): back to bytes, alike or not, sums.
  The document's own products (the reference) are those of the tables. Conditions: factors are bytes.
  The document's polynomials (the reference): products.
  Values of polynomials in plain Lean: of sums, products and shifts. No program in sight.
  The document's polynomials (the reference): values and derivatives.
  The factors of sums, products and derivatives in plain Lean: the program's are the document's. No program in sight.
-/
import Derived.Test.YtgckhekikcdaiaaPak4
import Derived.Test.YtgckhekikcdaiaaPak2
namespace Go.Proofs.Ytgckhekikcdaiaa
open Go.RowKit Tri

theorem cellsI.z {w : World} {p : Option Addr} {l : List Nat} (h : cellsI w p l) : cellsZ w p (l.map fun x => ((x : Nat) : Int)) := by
  intro i hi
  rw [List.length_map] at hi
  obtain ⟨a, o, e, hc⟩ := h i hi
  refine ⟨a, o, e, ?_⟩
  rw [hc]
  congr 2
  rw [List.getD_eq_getElem?_getD, List.getD_eq_getElem?_getD, List.getElem?_map]
  cases l[i]? <;> rfl
theorem contains_z (l : List Nat) (x : Nat) : (l.map fun y => ((y : Nat) : Int)).contains (x : Int) = l.contains x := by
  induction l with
  | nil => rfl
  | cons a l ih =>
    rw [List.map_cons, List.contains_cons, List.contains_cons, ih]
    congr 1
    rw [Bool.eq_iff_iff, beq_iff_eq, beq_iff_eq]
    omega
theorem sol_Div (f a k : Nat) (w : World) (hF : isF w f) (ha : a < 256) (hk : k < 256) :
    Calls Try.prog 62 #[.pointer (some ⟨f, 0, none⟩), .int .u8 (a : Nat), .int .u8 (k : Nat)] w fun e w' => e = .returned (.tuple #[.int .u8 ((if k = 0 then 0 else gmul a (ginv k) : Nat)), .bool (decide (k ≠ 0))]) ∧ Below w.heap.size w w' := by
  by_cases h : k = 0
  · subst h
    exact (gf_Div_zero f a w).mono fun _ _ ⟨he, hw⟩ => ⟨by rw [he]; rfl, by rw [← hw]; exact Below.refl _ _⟩
  · refine (gf_Div f a k w hF ha hk (by omega)).mono fun _ _ ⟨he, hw⟩ => ⟨?_, ?_⟩
    · rw [he, if_neg h, decide_eq_true h]
    · rw [← hw]; exact (Below.refl _ _).alloc (Nat.le_refl _) _
set_option maxHeartbeats 8000000 in
set_option maxRecDepth 100000 in
theorem sol_by (V f n p0 : Nat) (sv era loc : Value) (i : Nat) (po pd : Option Addr) (co cd : Nat) (om der : List Nat) (w : World) (hS : isS w V f n p0 sv era loc) (hF : isF w f) (hn : n ≤ 255) (hi : i ≤ 1000000)
    (ho : cellsB w po om) (hbo : bytesL om) (hlo : om.length ≤ 10000) (ho0 : om ≠ [] ∨ po = none) (hd : cellsB w pd der) (hbd : bytesL der) (hld : der.length ≤ 10000) (hd0 : der ≠ [] ∨ pd = none) :
    Calls Try.prog 104 #[.pointer (some ⟨V, 0, none⟩), .int .i64 i, .slice po om.length co, .slice pd der.length cd] w fun e w' => e = .returned (.tuple #[.int .u8 (byV n om der i : Nat), .bool (byOk n der i)]) ∧ Below w.heap.size w w' := by
  have c0 : w.cell? ⟨V, 0, none⟩ = some (.pointer (some ⟨f, 0, none⟩)) := hS.cell 0 _ rfl
  have HS := hid hS
  have HF := hid hF
  have HO := hid ho
  have HD := hid hd
  have HBO := hid hbo
  have HBD := hid hbd
  have HO0 := hid ho0
  have HD0 := hid hd0
  have HV : Hid (byV n om der i = gmul (plc n i) (if valL der (inv0 (plc n i)) = 0 then 0 else gmul (valL om (inv0 (plc n i))) (ginv (valL der (inv0 (plc n i)))))) := rfl
  have HK : Hid (byOk n der i = decide (valL der (inv0 (plc n i)) ≠ 0)) := rfl
  have hpl := plc_lt n i
  clear hS hF ho hd hbo hbd ho0 hd0
  (go_enter Try.func104, Try.ntmps104; try simp only [List.append])
  go_wp2_with ((with_reducible refine wpList_unguard ?_ ?_); (focus rfl))
  refine Calls.mono (sol_place V f n p0 sv era loc i w HS.out HF.out hn hi) ?_; rintro e w1 ⟨rfl, hb⟩
  have HB := hid hb
  have c0' := cell1_keep c0 hb
  clear hb
  have hx := inv0_lt (plc n i)
  have hIn := sol_Inv f (plc n i) w1 (HF.out.blw HB.out) hpl
  generalize plc n i = x at *
  generalize inv0 x = y at *
  go_wp2_with ((with_reducible refine wpList_unguard ?_ ?_); (focus rfl))
  refine Calls.mono hIn ?_; rintro e w2 ⟨rfl, rfl⟩
  clear hIn
  have HB1 := hid HB.out.drew
  have hv1 := hid (sol_value V f n p0 sv era loc po _ co om y w1.drew (HS.out.below HB1.out) (HF.out.blw HB1.out) rfl (HO.out.below HB1.out) HBO.out hlo HO0.out hx)
  have hv2 := fun u hb => hid (sol_value V f n p0 sv era loc pd _ cd der y u (HS.out.below hb) (HF.out.blw hb) rfl (HD.out.below hb) HBD.out hld HD0.out hx)
  have hz1 := valL_lt HBO.out y
  have hz2 := valL_lt HBD.out y
  generalize valL om y = z1 at *
  generalize valL der y = z2 at *
  obtain ⟨q, hq⟩ : ∃ q, (if z2 = 0 then 0 else gmul z1 (ginv z2)) = q := ⟨_, rfl⟩
  have hq2 : q < 256 := by rw [← hq]; split; omega; exact gmul_lt _ _
  obtain ⟨ok, hok⟩ : ∃ ok, decide (z2 ≠ 0) = ok := ⟨_, rfl⟩
  have hDv := fun u hb => hid (sol_Div f z1 z2 u (HF.out.blw hb) hz1 hz2)
  rw [hq] at HV hDv
  rw [hok] at HK hDv
  clear hq hok
  go_upto_region 3 with fail
  go_region_held3 (fun u => u.cell? ⟨V, 0, none⟩ = some (.pointer (some ⟨f, 0, none⟩))) (first | with_reducible exact cell1_keep c0 HB1.out | with_reducible exact cell1_keep c0 HB3.out | with_reducible exact cell1_keep c0 HB4.out | with_reducible exact cell1_keep c0 HB5.out) (first | (go_at_call 116; with_reducible refine Calls.mono hv1.out ?_; rintro e w3 ⟨rfl, hb3⟩; have HB3 := hid (HB1.out.trans (hb3.mono HB1.out.size))) | (go_at_call 116; with_reducible refine Calls.mono (hv2 _ HB3.out).out ?_; rintro e w4 ⟨rfl, hb4⟩; have HB4 := hid (HB3.out.trans (hb4.mono HB3.out.size))) | (go_at_call 62; refine Calls.mono (hDv _ HB4.out).out ?_; rintro e w5 ⟨rfl, hb5⟩; have HB5 := hid (HB4.out.trans (hb5.mono HB4.out.size))))
  have c05 := cell1_keep c0 HB5.out
  have hMu := fun t => hid (gf_Mul2 f w5.heap.size x q (x : Int) (q : Int) w5 (HF.out.blw HB5.out) rfl rfl rfl hpl hq2 t)
  clear hv1 hv2 hDv hb3 hb4 hb5 HB3 HB4
  go_wp2_with ((with_reducible refine wpList_unguard ?_ ?_); (focus rfl))
  refine Calls.mono (hMu _).out ?_; rintro e w6 ⟨rfl, rfl⟩
  go_wp2_with ((with_reducible refine wpList_unguard ?_ ?_); (focus rfl))
  go_ret2
  exact ⟨by rw [HV.out, HK.out]; rfl, HB5.out.alloc HB5.out.size _⟩
theorem unlN_succ (E l : List Nat) (k : Nat) (h : k < l.length) : unlN E (l.take (k + 1)) = unlN E (l.take k) + if E.contains (l.getD k 0) then 0 else 1 := by
  unfold unlN
  rw [List.take_succ_eq_append_getElem h, List.countP_append, List.getD_eq_getElem?_getD, List.getElem?_eq_getElem h, Option.getD_some]
  congr 1
  cases hc : E.contains l[k] with
  | true => simp only [List.countP_cons, List.countP_nil, hc]; rfl
  | false => simp only [List.countP_cons, List.countP_nil, hc]; rfl
theorem unlN_le (E l : List Nat) (k : Nat) : unlN E (l.take k) ≤ k := by
  unfold unlN
  have := List.countP_le_length (p := fun i => !(E.contains i)) (l := l.take k)
  rw [List.length_take] at this
  omega
set_option maxHeartbeats 4000000 in
set_option maxRecDepth 100000 in
theorem sol_unlike (V f n p0 : Nat) (sv : Value) (pe : Option Addr) (ce : Nat) (E : List Nat) (loc : Value) (pl : Option Addr) (cl : Nat) (l : List Nat) (w : World) (hS : isS w V f n p0 sv (.slice pe E.length ce) loc) (hE : cellsI w pe E) (hEl : E.length ≤ 1000) (hl : cellsI w pl l) (hll : l.length ≤ 1000) :
    Calls Try.prog 101 #[.pointer (some ⟨V, 0, none⟩), .slice pl l.length cl] w fun e w' => e = .returned (.int .i64 (unlN E l : Nat)) ∧ w = w' := by
  have c4 : w.cell? ⟨V, 4, none⟩ = some (.slice pe E.length ce) := hS.cell 4 _ rfl
  have HE := hid hE
  have HL := hid hl
  have HT : Hid (unlN E (l.take l.length) = unlN E l) := by show _ = _; rw [List.take_length]
  clear hS hE hl
  (go_enter Try.func101, Try.ntmps101; try simp only [List.append])
  go_wp2_with ((with_reducible refine wpList_unguard ?_ ?_); (focus rfl))
  go_loopw [10, 5] (fun v o wr => ∃ k : Nat, k ≤ l.length ∧ v = .int .i64 k ∧ o = .int .i64 (unlN E (l.take k) : Nat) ∧ wr = w) (fun v _ _ => l.length - (intOf v).toNat)
  case atStart => exact ⟨0, Nat.zero_le _, rfl, rfl, rfl⟩
  case round =>
    obtain ⟨k, hk, rfl, rfl, rfl⟩ := hrel
    by_cases hlt : k < l.length
    · obtain ⟨b, o, rfl, hc⟩ := HL.out k hlt
      have HX := hid (unlN_succ E l k hlt)
      have hle := unlN_le E l k
      have hCo := sl_ContainsZ ((l.getD k 0 : Nat) : Int) pe E.length ce (E.map fun x => ((x : Nat) : Int)) wr (by simp) HE.out.z (by simp; omega)
      have hz : ((E.map fun x => ((x : Nat) : Int)).any fun y => decide (((l.getD k 0 : Nat) : Int) = y)) = E.contains (l.getD k 0) := by
        rw [List.any_map, List.contains_eq_any_beq]
        apply congrArg (fun p => E.any p)
        funext y
        simp only [Function.comp_apply]
        rw [Bool.eq_iff_iff, decide_eq_true_eq, beq_iff_eq]
        omega
      rw [hz] at hCo
      clear hz
      generalize l.getD k 0 = x at *
      obtain ⟨z, hz⟩ : ∃ z, E.contains x = z := ⟨_, rfl⟩
      rw [hz] at hCo HX
      clear hz
      generalize unlN E (l.take k) = N at *
      go_wp2_with ((with_reducible refine wpList_unguard ?_ ?_); (focus rfl))
      refine Calls.mono hCo ?_; rintro e w2 ⟨rfl, rfl⟩
      clear hCo
      cases z with
      | true =>
        go_wp2_with ((with_reducible refine wpList_unguard ?_ ?_); (focus rfl))
        go_roundw
        case rel => exact ⟨k + 1, by omega, by go_num, by rw [HX.out]; rfl, trivial⟩
        case measure => simp [intOf]; omega
      | false =>
        go_wp2_with ((with_reducible refine wpList_unguard ?_ ?_); (focus rfl))
        go_roundw
        case rel => exact ⟨k + 1, by omega, by go_num, by rw [HX.out]; rfl, trivial⟩
        case measure => simp [intOf]; omega
    · obtain rfl : k = l.length := by omega
      rw [HT.out]
      go_wp2_with ((with_reducible refine wpList_unguard ?_ ?_); (focus rfl))
      go_ret
      exact ⟨rfl, rfl⟩
end Go.Proofs.Ytgckhekikcdaiaa

namespace Go.Proofs.Ytgckhekikcdaiaa
open Go.RowKit Tri

/-- What lies outside of the solver's own block stays. -/
structure OutV (V : Nat) (w w' : World) : Prop where
  os : w'.os = w.os
  tape : w'.tape = w.tape
  output : w'.output = w.output
  size : w.heap.size ≤ w'.heap.size
  block : ∀ k, k < w.heap.size → k ≠ V → w'.heap[k]? = w.heap[k]?
theorem OutV.of {V : Nat} {w w' : World} (h : Below w.heap.size w w') : OutV V w w' := ⟨h.os, h.tape, h.output, h.size, fun k hk _ => h.block k hk⟩
theorem OutV.trans {V : Nat} {a b c : World} (h : OutV V a b) (k : OutV V b c) : OutV V a c :=
  ⟨k.os.trans h.os, k.tape.trans h.tape, k.output.trans h.output, Nat.le_trans h.size k.size, fun j h1 h2 => (k.block j (Nat.lt_of_lt_of_le h1 h.size) h2).trans (h.block j h1 h2)⟩
theorem OutV.set {V : Nat} {a b : World} (h : OutV V a b) (j : Nat) (v : Value) : OutV V a (b.setCell ⟨V, j, none⟩ v) :=
  ⟨h.os, h.tape, h.output, by simpa using h.size, fun k h1 h2 => by rw [heap_setCell_other b _ k _ h2]; exact h.block k h1 h2⟩
def offV (p : Option Addr) (V : Nat) : Prop := ∀ a o s, p = some ⟨a, o, s⟩ → a ≠ V
theorem cellsB.outV {V : Nat} {w w' : World} {p : Option Addr} {l : List Nat} (h : cellsB w p l) (ho : OutV V w w') (hp : offV p V) : cellsB w' p l := by
  intro j hj
  obtain ⟨a, o, e, hc⟩ := h j hj
  refine ⟨a, o, e, ?_⟩
  rw [World.cell?_of_block (a := ⟨a, o + j, none⟩) (ho.block a (block_lt_of_cell hc) (hp a o none e))]
  exact hc
theorem cellsI.outV {V : Nat} {w w' : World} {p : Option Addr} {l : List Nat} (h : cellsI w p l) (ho : OutV V w w') (hp : offV p V) : cellsI w' p l := by
  intro j hj
  obtain ⟨a, o, e, hc⟩ := h j hj
  refine ⟨a, o, e, ?_⟩
  rw [World.cell?_of_block (a := ⟨a, o + j, none⟩) (ho.block a (block_lt_of_cell hc) (hp a o none e))]
  exact hc
theorem isS_F {w : World} {V f n p : Nat} {s era loc : Value} (hS : isS w V f n p s era loc) (hF : isF w f) : f ≠ V := by
  intro e
  have h1 : w.heap[V]? = some (.cells (solC f n p s era loc) 114) := hS
  have h2 : w.heap[f]? = some (.cells fieldC 73) := hF
  rw [e, h1] at h2
  simp at h2
theorem isF.outV {V : Nat} {w w' : World} {f : Nat} (h : isF w f) (ho : OutV V w w') (hf : f ≠ V) : isF w' f := (ho.block f (Array.getElem?_eq_some_iff.1 h).1 hf).trans h
theorem isS_off {w : World} {V f n p : Nat} {s1 s2 s3 : Option Addr} {n1 n2 n3 m1 m2 m3 : Nat} (hS : isS w V f n p (.slice s1 n1 m1) (.slice s2 n2 m2) (.slice s3 n3 m3)) {q : Option Addr} {l : List Nat} (hq : cellsB w q l) (hl : l ≠ []) : offV q V := by
  intro a o s e hv
  obtain ⟨a', o', e', hc⟩ := hq 0 (List.length_pos_iff.2 hl)
  rw [e'] at e
  simp only [Option.some.injEq, Addr.mk.injEq] at e
  obtain ⟨rfl, rfl, -⟩ := e
  subst hv
  rw [Nat.add_zero, cell_of_row w a' o' _ _ _ hS] at hc
  unfold solC at hc
  rcases o' with _ | _ | _ | _ | _ | _ | o' <;> simp at hc
theorem isS.setLoc {w : World} {V f n p : Nat} {s era loc : Value} (hS : isS w V f n p s era loc) (v : Value) : isS (w.setCell ⟨V, 5, none⟩ v) V f n p s era v := Blk.set hS 5 v
theorem plusL_ne (a b : List Nat) (y : Nat) : plusL a b y ≠ [] := by
  intro h
  have := congrArg List.length h
  rw [plusL_len] at this
  simp at this
theorem eraL_ne (n : Nat) (l : List Nat) : eraL n l ≠ [] := by
  intro h
  have := congrArg List.length h
  rw [eraL_len] at this
  simp at this
set_option maxHeartbeats 8000000 in
set_option maxRecDepth 100000 in
theorem sol_erasures (V f n p0 : Nat) (ps : Option Addr) (ns cs : Nat) (pe : Option Addr) (ce : Nat) (E : List Nat) (l0 : Option Addr) (n0 m0 : Nat) (w : World) (hS : isS w V f n p0 (.slice ps ns cs) (.slice pe E.length ce) (.slice l0 n0 m0)) (hF : isF w f) (hn : n ≤ 255) (hE : cellsI w pe E) (hEV : offV pe V) (hEl : E.length ≤ 300) (hEb : ∀ i ∈ E, i ≤ 1000000) :
    Calls Try.prog 76 #[.pointer (some ⟨V, 0, none⟩)] w fun e w' => e = .returned (.tuple #[]) ∧ OutV V w w' ∧ ∃ p c, isS w' V f n p0 (.slice ps ns cs) (.slice pe E.length ce) (.slice p (eraL n E).length c) ∧ cellsB w' p (eraL n E) ∧ offV p V := by
  have HF := hid hF
  have HE := hid hE
  have HEV := hid hEV
  have HEB := hid hEb
  have HfV : Hid (f ≠ V) := isS_F hS hF
  have hA : Below w.heap.size w (w.alloc (.cells #[.int .u8 1] 5)) := (Below.refl _ _).alloc (Nat.le_refl _) _
  have hSa := hS.below hA
  have hS1 := hid (hSa.setLoc (.slice (some ⟨w.heap.size, 0, none⟩) 1 1))
  have hO1 := hid ((OutV.of (V := V) hA).set 5 (.slice (some ⟨w.heap.size, 0, none⟩) 1 1))
  have hVw : V < w.heap.size := hS.lt
  have hc1 : cellsB ((w.alloc (.cells #[.int .u8 1] 5)).setCell ⟨V, 5, none⟩ (.slice (some ⟨w.heap.size, 0, none⟩) 1 1)) (some ⟨w.heap.size, 0, none⟩) (eraL n (E.take 0)) := by
    have h1 := cellsB.new w [1] #[.int .u8 (1 : Nat)] 5 rfl
    intro j hj
    obtain ⟨a, o, e, hc⟩ := h1 j hj
    refine ⟨a, o, e, ?_⟩
    simp only [Option.some.injEq, Addr.mk.injEq] at e
    obtain ⟨rfl, rfl, -⟩ := e
    rw [World.cell?_of_block (a := ⟨w.heap.size, 0 + j, none⟩) (heap_setCell_other _ _ _ _ (show w.heap.size ≠ V by omega))]
    exact hc
  have HC1 := hid hc1
  have HVw : Hid (w.heap.size ≠ V) := (show w.heap.size ≠ V by omega)
  have c5 : (w.alloc (.cells #[.int .u8 1] 5)).cell? ⟨V, 5, none⟩ = some (.slice l0 n0 m0) := hSa.cell 5 _ rfl
  have f5 : (w.alloc (.cells #[.int .u8 1] 5)).frozen? ⟨V, 5, none⟩ = false := hSa.free 5
  have c4 : w.cell? ⟨V, 4, none⟩ = some (.slice pe E.length ce) := hS.cell 4 _ rfl
  have c4s : ((w.alloc (.cells #[.int .u8 1] 5)).setCell ⟨V, 5, none⟩ (.slice (some ⟨w.heap.size, 0, none⟩) 1 1)).cell? ⟨V, 4, none⟩ = some (.slice pe E.length ce) := hS1.out.cell 4 _ rfl
  clear hS hF hE hEV hEb hA hc1 hSa hVw
  (go_enter Try.func76, Try.ntmps76; try simp only [List.append])
  go_wp2_with ((with_reducible refine wpList_unguard ?_ ?_); (focus rfl))
  clear c5 f5 c4 c4s
  generalize (w.alloc (.cells #[.int .u8 1] 5)).setCell ⟨V, 5, none⟩ (.slice (some ⟨w.heap.size, 0, none⟩) 1 1) = w1 at *
  go_loopw [13] (fun v wr => ∃ (k : Nat) (p : Option Addr) (c : Nat), k ≤ E.length ∧ v = .int .i64 k ∧ isS wr V f n p0 (.slice ps ns cs) (.slice pe E.length ce) (.slice p (eraL n (E.take k)).length c) ∧ cellsB wr p (eraL n (E.take k)) ∧ offV p V ∧ OutV V w wr) (fun v _ => E.length - (intOf v).toNat)
  case atStart => exact ⟨0, some ⟨w.heap.size, 0, none⟩, 1, Nat.zero_le _, rfl, hS1.out, HC1.out, fun a o s e => by simp only [Option.some.injEq, Addr.mk.injEq] at e; rw [← e.1]; exact HVw.out, hO1.out⟩
  case round =>
    clear hS1 HC1 hO1
    obtain ⟨k, p, c, hk, rfl, hS, hc, hpV, hO⟩ := hrel
    have HS := hid hS
    have HC := hid hc
    have HPV := hid hpV
    have HO := hid hO
    clear hS hc hpV hO
    by_cases hlt : k < E.length
    · obtain ⟨b, o, rfl, hc⟩ := (HE.out.outV HO.out HEV.out) k hlt
      have hx : E.getD k 0 ≤ 1000000 := HEB.out _ (by rw [List.getD_eq_getElem?_getD, List.getElem?_eq_getElem hlt]; exact List.getElem_mem hlt)
      have HSn : Hid (eraL n (E.take (k + 1)) = plusL (eraL n (E.take k)) (eraL n (E.take k)) (plc n (E.getD k 0))) := by
        show _ = _
        rw [List.take_succ_eq_append_getElem hlt, eraL_snoc, List.getD_eq_getElem?_getD, List.getElem?_eq_getElem hlt]; rfl
      have hbD := hid (eraL_bytes n (E.take k))
      have hlD : (eraL n (E.take k)).length ≤ 301 := by rw [eraL_len, List.length_take]; omega
      generalize E.getD k 0 = x at *
      generalize eraL n (E.take k) = D at *
      have c5 : wr.drew.cell? ⟨V, 5, none⟩ = some (.slice p D.length c) := HS.out.cell 5 _ rfl
      have HF1 := hid (HF.out.outV HO.out HfV.out)
      have hPc := hid (sol_place V f n p0 _ _ _ x wr.drew HS.out HF1.out hn hx)
      have hpl := plc_lt n x
      generalize plc n x = y at *
      have hPs := fun (u : World) (hb : Below wr.heap.size wr u) => hid (sol_plus V f n p0 _ _ _ p p _ c _ c D D y u (HS.out.below hb) (HF1.out.blw hb) rfl (HC.out.below hb) hbD.out (by omega) rfl (HC.out.below hb) hbD.out (by omega) hpl)
      go_upto_region 4 with fail
      go_region_with (first | (go_at_call 99; refine Calls.mono hPc.out ?_; rintro e w2 ⟨rfl, hb2⟩; have c5b := cell1_keep c5 hb2; have hB2 := hid ((Below.refl wr.heap.size wr).drew.trans (hb2.mono (Nat.le_refl _)))) | (go_at_call 80; refine Calls.mono (hPs _ hB2.out).out ?_; rintro e w3 ⟨p3, c3, rfl, hl3, hc3, hb3⟩; have c5c := (cell1_keep c5b hb3); have f5c := ((HS.out.below hB2.out).below hb3).free 5))
      all_goals (go_wp2_with ((with_reducible refine wpList_unguard ?_ ?_); (focus rfl)))
      all_goals go_roundw
      all_goals first | (simp [intOf]; omega) | skip
      all_goals
        have hS3 := (HS.out.below hB2.out).below hb3
        have hoff := isS_off hS3 hc3 (plusL_ne D D y)
        have hl3' : (plusL D D y).length = (plusL D D y).length := rfl
        exact ⟨k + 1, p3, c3, by omega, by go_num, by rw [HSn.out]; exact hS3.setLoc _, by rw [HSn.out]; exact hc3.outV ((OutV.of (Below.refl _ _)).set 5 _) hoff, hoff, (HO.out.trans (OutV.of (hB2.out.trans (hb3.mono hB2.out.size)))).set 5 _⟩
    · obtain rfl : k = E.length := by omega
      rw [List.take_length] at HS HC
      go_wp2_with ((with_reducible refine wpList_unguard ?_ ?_); (focus rfl))
      go_returns
      exact ⟨rfl, HO.out, p, c, HS.out, HC.out, HPV.out⟩
end Go.Proofs.Ytgckhekikcdaiaa

namespace Tri
/-- A polynomial's factors, the lowest power first, without noughts at the end. -/
def rof (l : List Nat) : List Nat := cutR l.reverse
def rbytes (l : List Nat) : List Nat := (cutR l).reverse
theorem rev_take_succ (l : List Nat) (j k : Nat) (h : l.length = j + 1 + k) : l.reverse.take (k + 1) = l.reverse.take k ++ [l.getD j 0] := by
  rw [List.take_succ_eq_append_getElem (by rw [List.length_reverse]; omega)]
  congr 2
  rw [List.getElem_reverse, List.getD_eq_getElem?_getD, List.getElem?_eq_getElem (by omega : j < l.length)]
  simp only [Option.getD_some]
  congr 1
  omega
end Tri
namespace Go.Proofs.Ytgckhekikcdaiaa
open Go.RowKit Tri

set_option maxHeartbeats 1000000 in
set_option maxRecDepth 100000 in
theorem ref5_Of (p : Option Addr) (n c : Nat) (l : List Nat) (w : World) (hn : n = l.length) (hp : cellsB w p l) (hb : bytesL l) (hl : l.length ≤ 100000) :
    Calls Try.prog 22 #[.slice p n c] w (RetI w (rof l)) := by
  subst hn
  have HP := hid hp
  have HB := hid hb
  clear hp hb
  obtain ⟨i0, hi, hz0, hz1, hz2⟩ := info_parts Try.infoI
  go_enter Try.func22, Try.ntmps22
  go_wp2_with ((with_reducible refine wpList_unguard ?_ ?_); (focus rfl))
  have hown0 : Hid (ownsI (w.alloc (.cells #[] 3)) w.heap.size (.slice (some ⟨w.heap.size, 0, none⟩) 0 0) []) := World.ownsRow_lit w #[] 0 (Nat.le_refl _) (by unfold maxLen; omega) rfl
  have hB0 : Hid (Below w.heap.size w (w.alloc (.cells #[] 3))) := (Below.refl _ _).alloc (Nat.le_refl _) _
  have hwr : IntKind.i64.wrap ((l.length : Int) - 1) = (l.length : Int) - 1 := by rw [IntKind.wrap_i64]; omega
  go_wp2_with ((with_reducible refine wpList_unguard ?_ ?_); (focus rfl))
  go_loopw [3, 4] (fun s i wr => ∃ k : Nat, k ≤ l.length ∧ i = .int .i64 ((l.length : Int) - 1 - k) ∧ ownsI wr w.heap.size s (l.reverse.take k) ∧ Below w.heap.size w wr) (fun _ i _ => (intOf i + 1).toNat)
  case atStart => exact ⟨0, Nat.zero_le _, by simp [hwr], hown0.out, hB0.out⟩
  case round =>
    obtain ⟨k, hk, rfl, hO, hB⟩ := hrel
    have HO := hid hO
    have HB1 := hid hB
    clear hO hB hown0 hB0
    by_cases hlt : k < l.length
    · obtain ⟨j, hj⟩ : ∃ j, l.length = j + 1 + k := ⟨l.length - 1 - k, by omega⟩
      have hji : (l.length : Int) - 1 - (k : Int) = (j : Int) := by omega
      have hji2 : Hid ((l.length : Int) - 1 - ((k + 1 : Nat) : Int) = (j : Int) - 1) := by show _ = _; omega
      obtain ⟨a, o, rfl, hc0⟩ := HP.out j (by omega)
      have hc : wr.cell? ⟨a, o + j, none⟩ = some (.int .u8 (l.getD j 0 : Nat)) := by
        rw [HB1.out.cell (p := ⟨a, o + j, none⟩) (block_lt_of_cell hc0)]; exact hc0
      have hy := HB.out _ (getD_mem l j (by omega))
      have HS : Hid (l.reverse.take (k + 1) = l.reverse.take k ++ [l.getD j 0]) := rev_take_succ l j k hj
      have hkl : (l.reverse.take k).length ≤ 1000000 := by rw [List.length_take, List.length_reverse]; omega
      have hjl : j < l.length := by omega
      have HJ := hid hj
      clear hc0 hj
      rw [hji]
      generalize hs1 : l.reverse.take (k + 1) = S1 at *
      have HS1 := hid hs1
      clear hs1
      generalize l.getD j 0 = y at *
      generalize l.reverse.take k = S at *
      have hw1 : IntKind.i64.wrap (y : Int) = (y : Int) := by rw [IntKind.wrap_i64]; omega
      have hw2 : IntKind.i64.wrap ((j : Int) - 1) = (j : Int) - 1 := by rw [IntKind.wrap_i64]; omega
      go_wp2_with (at_builtin; refine wpList_push rfl _ _ 41 rfl w.heap.size 3 i0 .i64 8 Try.underlying41 hi hz0 hz1 hz2 (by decide) _ S y HO.out rfl _ rfl rfl hkl HB1.out.size ?_)
      intro v' w' hown' hbel
      have hO' : Hid (ownsI w' w.heap.size v' S1) := by show ownsI _ _ _ _; rw [HS.out]; exact hown'
      have hB' := hid (HB1.out.trans hbel)
      clear hown' hbel
      go_wp2_with ((with_reducible refine wpList_unguard ?_ ?_); (focus rfl))
      go_roundw
      case rel => exact ⟨k + 1, by omega, by rw [hji2.out], by rw [HS1.out]; exact hO'.out, hB'.out⟩
      case measure => simp [intOf] <;> omega
    · obtain rfl : k = l.length := by omega
      have hji : (l.length : Int) - 1 - (l.length : Int) = -1 := by omega
      rw [hji]
      rw [← List.length_reverse, List.take_length] at HO
      obtain ⟨p', c', rfl, hle, hcr⟩ := HO.out.cells
      have HC := hid hcr
      clear hcr
      go_wp2_with ((with_reducible refine wpList_unguard ?_ ?_); (focus rfl))
      refine Calls.mono (ref5_Cut p' _ c' l.reverse wr (by rw [List.length_reverse]) (by rw [List.length_reverse] at hle; exact hle) HC.out (by rw [List.length_reverse]; omega)) ?_; rintro e w' ⟨rfl, rfl⟩
      have hle2 := cutR_length_le l.reverse
      go_wp2_with ((with_reducible refine wpList_unguard ?_ ?_); (focus rfl))
      go_ret
      exact ⟨p', c', rfl, Nat.le_trans hle2 hle, HC.out.cut, HB1.out⟩
end Go.Proofs.Ytgckhekikcdaiaa

namespace Tri
def raddL (a b : List Nat) : List Nat := (List.range (max a.length b.length)).map fun i => a.getD i 0 ^^^ b.getD i 0
def radd (a b : List Nat) : List Nat := cutR (raddL a b)
theorem cutR_bytes {l : List Nat} (h : bytesL l) : bytesL (cutR l) := fun x hx => h x (cutR_mem l x hx)
theorem rev_bytes {l : List Nat} (h : bytesL l) : bytesL l.reverse := fun x hx => h x (List.mem_reverse.1 hx)
theorem bytesL_getD {l : List Nat} (h : bytesL l) (k : Nat) : l.getD k 0 < 256 := by
  by_cases hk : k < l.length
  · rw [List.getD_eq_getElem?_getD, List.getElem?_eq_getElem hk]; exact h _ (List.getElem_mem hk)
  · rw [List.getD_eq_getElem?_getD, List.getElem?_eq_none (by omega)]; exact (by decide : (0 : Nat) < 256)
theorem raddL_bytes {a b : List Nat} (ha : bytesL a) (hb : bytesL b) : bytesL (raddL a b) := by
  intro x hx
  unfold raddL at hx
  obtain ⟨i, _, rfl⟩ := List.mem_map.1 hx
  exact xor_lt (bytesL_getD ha i) (bytesL_getD hb i)
theorem radd_bytes {a b : List Nat} (ha : bytesL a) (hb : bytesL b) : bytesL (radd a b) := cutR_bytes (raddL_bytes ha hb)
theorem raddL_length (a b : List Nat) : (raddL a b).length = max a.length b.length := by unfold raddL; simp
theorem radd_length (a b : List Nat) : (radd a b).length ≤ max a.length b.length := by
  have := cutR_length_le (raddL a b)
  rw [raddL_length] at this
  exact this
theorem raddL_take (a b : List Nat) (k : Nat) (h : k < max a.length b.length) : (raddL a b).take (k + 1) = (raddL a b).take k ++ [a.getD k 0 ^^^ b.getD k 0] := by
  rw [List.take_succ_eq_append_getElem (by rw [raddL_length]; exact h)]
  congr 2
  unfold raddL
  simp
end Tri
namespace Go.Proofs.Ytgckhekikcdaiaa
open Go.RowKit Tri

end Go.Proofs.Ytgckhekikcdaiaa

namespace Go.Proofs.Ytgckhekikcdaiaa
open Go.RowKit Tri

theorem bit_int (b k : Nat) : (((b : Int) / 2 ^ k).tmod 2 == 1) = decide ((b >>> k) % 2 = 1) := by
  have h : ((b : Int) / 2 ^ k) = ((b / 2 ^ k : Nat) : Int) := by simp
  rw [h, Nat.shiftRight_eq_div_pow]
  generalize b / 2 ^ k = m
  rw [Int.tmod_eq_emod_of_nonneg (by omega)]
  by_cases e : m % 2 = 1
  · rw [decide_eq_true e]; simp; omega
  · rw [decide_eq_false e]; simp; omega
theorem shl_lt (a k n : Nat) (ha : a < 2 ^ n) (B : Nat) (h : n + k ≤ B) : a <<< k < 2 ^ B := by
  rw [Nat.shiftLeft_eq]
  calc a * 2 ^ k < 2 ^ n * 2 ^ k := Nat.mul_lt_mul_of_pos_right ha (Nat.two_pow_pos k)
    _ = 2 ^ (n + k) := (Nat.pow_add 2 n k).symm
    _ ≤ 2 ^ B := Nat.pow_le_pow_right (by omega) h
theorem xor_shl (q a k n : Nat) (hq : q < 2 ^ 62) (ha : a < 2 ^ n) (hk : n + k ≤ 62) :
    bits .xor .i64 (q : Int) (wrap64 ((a : Int) * 2 ^ k)) = ((q ^^^ (a <<< k) : Nat) : Int) := by
  have h := shl_lt a k n ha 62 hk
  have e : wrap64 ((a : Int) * 2 ^ k) = ((a <<< k : Nat) : Int) := by
    rw [Nat.shiftLeft_eq]
    rw [Nat.shiftLeft_eq] at h
    have e2 : ((a * 2 ^ k : Nat) : Int) = (a : Int) * 2 ^ k := by simp
    rw [← e2]
    generalize a * 2 ^ k = m at *
    unfold wrap64
    omega
  rw [e, i64_xor_nat _ _ hq h]

set_option maxHeartbeats 400000 in
theorem ref_Mul (a b : Nat) (ha : a < 256) (hb : b < 256) (w : World) :
    Calls Try.prog 43 #[.int .i64 a, .int .i64 b] w fun e w' => e = .returned (.int .i64 (gmul a b)) ∧ w = w' := by
  have hfin : Hid (rred 7 (rsum a b 8 0) = gmul a b) := rmul_eq a b ha hb
  go_enter Try.func43, Try.ntmps43
  go_wp2
  go_loop [5, 6] (fun p i => ∃ k : Nat, ∃ q : Nat, k ≤ 8 ∧ i = .int .i64 k ∧ p = .int .i64 q ∧ q < 32768 ∧ rsum a b (8 - k) q = rsum a b 8 0) (fun _ i => 8 - (intOf i).toNat)
  case atStart => exact ⟨0, 0, by omega, rfl, rfl, by omega, rfl⟩
  case round =>
    obtain ⟨k, q, hk, rfl, rfl, hq, hr⟩ := hrel
    have HR := hid hr
    clear hr
    by_cases hlt : k < 8
    · have hx := xor_shl q a k 8 (by omega) (by omega) (by omega)
      have hl : a <<< k < 2 ^ 15 := shl_lt a k 8 ha 15 (by omega)
      have hs : Hid (rsum a b (8 - k) q = rsum a b (8 - (k + 1)) (if (b >>> k) % 2 = 1 then q ^^^ (a <<< k) else q)) := by
        show rsum a b (8 - k) q = _
        rw [show 8 - k = (8 - (k + 1)) + 1 from by omega]
        simp only [rsum]
        rw [show 7 - (8 - (k + 1)) = k from by omega]
      have hb' := bit_int b k
      have hxl : q ^^^ (a <<< k) < 32768 := Nat.xor_lt_two_pow (n := 15) hq hl
      generalize q ^^^ (a <<< k) = q' at *
      by_cases hbit : (b >>> k) % 2 = 1
      · rw [decide_eq_true hbit] at hb'
        have Hb := hid hbit
        clear hbit hl
        go_wp2
        go_round
        case rel => exact ⟨k + 1, q', by omega, by go_num, rfl, hxl, by rw [← HR.out, hs.out, if_pos Hb.out]⟩
        case measure => simp [intOf]; omega
      · rw [decide_eq_false hbit] at hb'
        have Hb := hid hbit
        clear hbit hl
        go_wp2
        go_round
        case rel => exact ⟨k + 1, q, by omega, by go_num, rfl, hq, by rw [← HR.out, hs.out, if_neg Hb.out]⟩
        case measure => simp [intOf]; omega
    · obtain rfl : k = 8 := by omega
      have hq0 : Hid (q = rsum a b 8 0) := (show rsum a b 0 q = rsum a b 8 0 from HR.out)
      clear HR hlt hk
      go_wp2
      go_loop [5, 7] (fun p i => ∃ k : Nat, ∃ q : Nat, k ≤ 7 ∧ i = .int .i64 (k + 7 : Nat) ∧ p = .int .i64 q ∧ q < 32768 ∧ rred k q = gmul a b) (fun _ i => (intOf i).toNat)
      case atStart => exact ⟨7, q, by omega, rfl, rfl, hq, by rw [hq0.out]; exact hfin.out⟩
      case round =>
        clear hq0 hfin hq
        obtain ⟨k, q, hk, rfl, rfl, hq, hr⟩ := hrel
        have HR := hid hr
        clear hr
        by_cases hpos : 0 < k
        · obtain ⟨j, rfl⟩ : ∃ j, k = j + 1 := ⟨k - 1, by omega⟩
          have hx : bits .xor .i64 (q : Int) (wrap64 (285 * 2 ^ j)) = ((q ^^^ (285 <<< j) : Nat) : Int) := xor_shl q 285 j 9 (by omega) (by omega) (by omega)
          have hl : 285 <<< j < 2 ^ 15 := shl_lt 285 j 9 (by omega) 15 (by omega)
          have hs : Hid (rred (j + 1) q = rred j (if (q >>> (j + 8)) % 2 = 1 then q ^^^ (285 <<< j) else q)) := rfl
          have hb' := bit_int q (j + 8)
          have hxl : q ^^^ (285 <<< j) < 32768 := Nat.xor_lt_two_pow (n := 15) hq hl
          have hj : ((j + 1 + 7 : Nat) : Int) = (j : Int) + 8 := by omega
          have ht : ((j : Int) + 8).toNat = j + 8 := by omega
          have ht2 : ((j : Int) + 8 - 8).toNat = j := by omega
          rw [hj]
          clear hj
          generalize q ^^^ (285 <<< j) = q' at *
          by_cases hbit : (q >>> (j + 8)) % 2 = 1
          · rw [decide_eq_true hbit] at hb'
            have Hb := hid hbit
            clear hbit hl
            go_wp2
            go_round
            case rel => exact ⟨j, q', by omega, by go_num, rfl, hxl, by rw [← HR.out, hs.out, if_pos Hb.out]⟩
            case measure => simp [intOf]; omega
          · rw [decide_eq_false hbit] at hb'
            have Hb := hid hbit
            clear hbit hl
            go_wp2
            go_round
            case rel => exact ⟨j, q, by omega, by go_num, rfl, hq, by rw [← HR.out, hs.out, if_neg Hb.out]⟩
            case measure => simp [intOf]; omega
        · obtain rfl : k = 0 := by omega
          have hq0 : Hid (q = gmul a b) := HR.out
          clear HR hpos
          go_wp2
          go_ret
          exact ⟨by rw [← hq0.out]; rfl, rfl⟩
end Go.Proofs.Ytgckhekikcdaiaa

namespace Tri
def rmulL (a b : List Nat) : List Nat := convTo (List.replicate (a.length + b.length + 1) 0) a b a.length
def rmulP (a b : List Nat) : List Nat := cutR (rmulL a b)
theorem rmulL_length (a b : List Nat) : (rmulL a b).length = a.length + b.length + 1 := by
  unfold rmulL; rw [convTo_length, List.length_replicate]
theorem rmulP_bytes (a b : List Nat) : bytesL (rmulP a b) :=
  cutR_bytes (convTo_bytes (fun x hx => by rw [List.mem_replicate] at hx; omega) _ _ _)
theorem rmulP_length (a b : List Nat) : (rmulP a b).length ≤ a.length + b.length + 1 := by
  have := cutR_length_le (rmulL a b)
  rw [rmulL_length] at this
  exact this
end Tri
namespace Go.Proofs.Ytgckhekikcdaiaa
open Go.RowKit Tri

def bufI (w : World) (b : Nat) (l : List Nat) : Prop := cellsI w (some ⟨b, 0, none⟩) l ∧ ∀ i, i < l.length → w.frozen? ⟨b, i, none⟩ = false
theorem bufI.drew {w : World} {b : Nat} {l : List Nat} (h : bufI w b l) : bufI w.drew b l := h
theorem bufI.at {w : World} {b : Nat} {l : List Nat} (h : bufI w b l) (i : Nat) (hi : i < l.length) : w.cell? ⟨b, i, none⟩ = some (.int .i64 (l.getD i 0 : Nat)) := by
  obtain ⟨a, o, e, hc⟩ := h.1 i hi
  simp only [Option.some.injEq, Addr.mk.injEq] at e
  obtain ⟨rfl, rfl, _⟩ := e
  rwa [Nat.zero_add] at hc
theorem cellsI.set {w : World} {b o : Nat} {l : List Nat} (h : cellsI w (some ⟨b, o, none⟩) l) (i x : Nat) (hi : i < l.length) :
    cellsI (w.setCell ⟨b, o + i, none⟩ (.int .i64 (x : Nat))) (some ⟨b, o, none⟩) (l.set i x) := by
  intro j hj
  rw [List.length_set] at hj
  obtain ⟨a', o', e, hc⟩ := h j hj
  simp only [Option.some.injEq, Addr.mk.injEq] at e
  obtain ⟨rfl, rfl, _⟩ := e
  refine ⟨_, _, rfl, ?_⟩
  by_cases e : i = j
  · subst e
    rw [World.cell?_setCell_same _ _ _ hc]
    simp [hi]
  · rw [World.cell?_setCell_other _ _ _ _ (by intro e'; simp [e] at e'), hc]
    simp [List.getD_eq_getElem?_getD, List.getElem?_set, e]
theorem bufI.set {w : World} {b : Nat} {l : List Nat} (h : bufI w b l) (i x : Nat) (hi : i < l.length) : bufI (w.setCell ⟨b, i, none⟩ (.int .i64 (x : Nat))) b (l.set i x) := by
  refine ⟨by have := h.1.set i x hi; rwa [Nat.zero_add] at this, fun j hj => ?_⟩
  rw [World.frozen?_setCell]
  exact h.2 j (by simpa using hj)
theorem bufI.made (w : World) (n : Nat) (t : TypeId) : bufI (w.alloc (.cells (madeCells #[Value.int .i64 0] n) t)) w.heap.size (List.replicate n 0) := by
  refine ⟨cellsI.new w _ _ _ ?_, fun i hi => ?_⟩
  · apply List.ext_getElem (by simp [madeCells])
    intro i h1 h2
    simp [madeCells, Nat.mod_one]
  · rw [frozen?_alloc_cells]
    unfold World.frozen?
    simp
def refV (ob n : Nat) (va vb : Value) (pa pb : Addr) (i k o x y : Nat) (j : Nat) (v : Value) (_w : World) : Prop := match j with
  | 0 | 4 => v = .slice (some ⟨ob, 0, none⟩) n n
  | 1 | 5 | 11 => v = .int .i64 (i : Nat)
  | 2 | 6 | 15 => v = .int .i64 (k : Nat)
  | 3 | 7 => v = .int .i64 ((i : Int) + (k : Int))
  | 8 | 20 => v = .pointer (some ⟨ob, i + k, none⟩)
  | 9 => v = .int .i64 (o : Nat)
  | 10 => v = va
  | 12 => v = .pointer (some pa)
  | 13 => v = .int .i64 (x : Nat)
  | 14 => v = vb
  | 16 => v = .pointer (some pb)
  | 17 => v = .int .i64 (y : Nat)
  | 18 => v = .int .i64 (gmul x y : Nat)
  | 19 => v = .int .i64 (o ^^^ gmul x y : Nat)
  | _ => True
theorem refV_st (ob n : Nat) (va vb : Value) (pa pb : Addr) (i k o x y : Nat) (j : Nat) (v : Value) (w w' : World) (_hb : Below w.heap.size w w') (h : refV ob n va vb pa pb i k o x y j v w) : refV ob n va vb pa pb i k o x y j v w' := h

end Go.Proofs.Ytgckhekikcdaiaa

namespace Tri
/-- Powers. -/
def gp (x : Nat) : Nat → Nat
  | 0 => 1
  | k + 1 => gmul (gp x k) x
theorem gp_lt (x k : Nat) : gp x k < 256 := by
  cases k with
  | zero => exact (by decide : (1 : Nat) < 256)
  | succ k => exact gmul_lt _ _
theorem bytesL.tail {a : Nat} {l : List Nat} (h : bytesL (a :: l)) : bytesL l := fun x hx => h x (List.mem_cons_of_mem _ hx)
theorem bytesL.head {a : Nat} {l : List Nat} (h : bytesL (a :: l)) : a < 256 := h a (by simp)
theorem bytesL.take {l : List Nat} (h : bytesL l) (k : Nat) : bytesL (l.take k) := fun x hx => h x (List.mem_of_mem_take hx)
theorem bytesL.getD {l : List Nat} (h : bytesL l) (k : Nat) : l.getD k 0 < 256 := by
  by_cases hk : k < l.length
  · rw [List.getD_eq_getElem?_getD, List.getElem?_eq_getElem hk]; exact h _ (List.getElem_mem hk)
  · rw [List.getD_eq_getElem?_getD, List.getElem?_eq_none (by omega)]; exact (by decide : (0 : Nat) < 256)
theorem bytesL.zeros (n : Nat) : bytesL (List.replicate n 0) := fun x hx => by rw [List.mem_replicate] at hx; omega
theorem pevalFrom_bytes (x : Nat) {l : List Nat} (h : bytesL l) : ∀ s, s < 256 → pevalFrom x s l < 256 := by
  induction l with
  | nil => intro s hs; exact hs
  | cons a l ih => intro s hs; exact ih h.tail _ (xor_lt (gmul_lt _ _) h.head)
theorem peval_lt (x : Nat) {l : List Nat} (h : bytesL l) : peval x l < 256 := pevalFrom_bytes x h 0 (by decide)
theorem pevalFrom_eq (x : Nat) {l : List Nat} (h : bytesL l) : ∀ s, s < 256 → pevalFrom x s l = gmul s (gp x l.length) ^^^ peval x l := by
  induction l with
  | nil => intro s hs; show s = gmul s 1 ^^^ 0; rw [gmul_one s hs, Nat.xor_zero]
  | cons a l ih =>
    intro s hs
    have h0 : peval x (a :: l) = gmul a (gp x l.length) ^^^ peval x l := by
      show pevalFrom x (gmul 0 x ^^^ a) l = _
      rw [zero_gmul, Nat.zero_xor]
      exact ih h.tail a h.head
    rw [h0]
    show pevalFrom x (gmul s x ^^^ a) l = gmul s (gmul (gp x l.length) x) ^^^ _
    rw [ih h.tail _ (xor_lt (gmul_lt _ _) h.head), xor_gmul _ _ _ (gp_lt _ _) (gmul_lt _ _) h.head, gmul_assoc, gmul_comm x, Nat.xor_assoc]
theorem peval_cons (x a : Nat) {l : List Nat} (h : bytesL (a :: l)) : peval x (a :: l) = gmul a (gp x l.length) ^^^ peval x l := by
  show pevalFrom x (gmul 0 x ^^^ a) l = _
  rw [zero_gmul, Nat.zero_xor]
  exact pevalFrom_eq x h.tail a h.head
theorem pevalFrom_app (x : Nat) (l m : List Nat) : ∀ s, pevalFrom x s (l ++ m) = pevalFrom x (pevalFrom x s l) m := by
  induction l with
  | nil => intro s; rfl
  | cons a l ih => intro s; exact ih _
theorem peval_snoc (x a : Nat) (l : List Nat) : peval x (l ++ [a]) = gmul (peval x l) x ^^^ a := pevalFrom_app x l [a] 0
theorem peval_zeros (x k : Nat) : peval x (List.replicate k 0) = 0 := by
  induction k with
  | zero => rfl
  | succ k ih => rw [List.replicate_succ, peval_cons x 0 (by rw [← List.replicate_succ]; exact bytesL.zeros _), ih, zero_gmul]; rfl
theorem peval_shift (x k : Nat) {l : List Nat} (h : bytesL l) : peval x (l ++ List.replicate k 0) = gmul (peval x l) (gp x k) := by
  unfold peval
  rw [pevalFrom_app, pevalFrom_eq x (bytesL.zeros k) _ (pevalFrom_bytes x h 0 (by decide)), peval_zeros, List.length_replicate, Nat.xor_zero]
theorem peval_trim (x : Nat) (l : List Nat) : peval x (trim l) = peval x l := by
  induction l with
  | nil => rfl
  | cons a l ih =>
    by_cases e : a = 0
    · subst e
      show peval x (trim l) = pevalFrom x (gmul 0 x ^^^ 0) l
      rw [zero_gmul, ih]; rfl
    · simp only [trim, if_neg e]
theorem xor4 (a b c d : Nat) : (a ^^^ b) ^^^ (c ^^^ d) = (a ^^^ c) ^^^ (b ^^^ d) := by
  rw [Nat.xor_assoc, Nat.xor_assoc, ← Nat.xor_assoc b, Nat.xor_comm b c, Nat.xor_assoc c]
theorem peval_acc (x : Nat) (L : List Nat) (h : bytesL L) (v : Nat) (hv : v < 256) : ∀ j, j < L.length → peval x (acc L j v) = peval x L ^^^ gmul v (gp x (L.length - 1 - j)) := by
  induction L with
  | nil => intro j hj; simp at hj
  | cons a L ih =>
    intro j hj
    cases j with
    | zero =>
      have hb : bytesL ((a ^^^ v) :: L) := by
        intro y hy
        rcases List.mem_cons.1 hy with rfl | hy
        · exact xor_lt h.head hv
        · exact h.tail y hy
      show peval x ((a ^^^ v) :: L) = _
      rw [peval_cons x _ hb, peval_cons x _ h, xor_gmul _ _ _ (gp_lt _ _) h.head hv]
      simp only [List.length_cons, Nat.add_sub_cancel, Nat.sub_zero]
      rw [Nat.xor_assoc, Nat.xor_assoc, Nat.xor_comm (gmul v _)]
    | succ j =>
      simp only [List.length_cons] at hj
      have e : acc (a :: L) (j + 1) v = a :: acc L j v := by simp [acc]
      have hb : bytesL (a :: acc L j v) := by rw [← e]; exact acc_bytes h hv
      rw [e, peval_cons x _ hb, peval_cons x _ h, ih h.tail j (by omega), acc_length, Nat.xor_assoc]
      congr 4
      simp only [List.length_cons]
      omega
theorem take_getD (l : List Nat) (k : Nat) (h : k < l.length) : l.take (k + 1) = l.take k ++ [l.getD k 0] := by
  rw [List.take_succ_eq_append_getElem h]
  simp [h]
theorem peval_rowTo (x : Nat) (L : List Nat) (h : bytesL L) (i y : Nat) (hy : y < 256) (b : List Nat) (hb : bytesL b) : ∀ k, k ≤ b.length → i + k ≤ L.length →
    peval x (rowTo L i y b k) = peval x L ^^^ gmul y (gmul (peval x (b.take k)) (gp x (L.length - i - k))) := by
  intro k
  induction k with
  | zero => intro _ _; show peval x L = peval x L ^^^ gmul y (gmul 0 _); rw [zero_gmul, gmul_zero, Nat.xor_zero]
  | succ k ih =>
    intro hk hi
    have hm : ∃ m, L.length - i - (k + 1) = m ∧ L.length - i - k = m + 1 ∧ L.length - 1 - (i + k) = m := ⟨L.length - i - (k + 1), rfl, by omega, by omega⟩
    obtain ⟨m, e1, e2, e3⟩ := hm
    show peval x (acc (rowTo L i y b k) (i + k) (gmul y (b.getD k 0))) = _
    rw [peval_acc x _ (rowTo_bytes h _ _ _ _) _ (gmul_lt _ _) _ (by rw [rowTo_length]; omega), rowTo_length, ih (by omega) (by omega), e1, e2, e3, take_getD b k (by omega), peval_snoc]
    have h1 := peval_lt x (hb.take k)
    have h2 := hb.getD k
    show _ ^^^ gmul y (gmul _ (gmul (gp x m) x)) ^^^ _ = _
    rw [xor_gmul _ _ _ (gp_lt _ _) (gmul_lt _ _) h2, gmul_xor _ _ _ hy (gmul_lt _ _) (gmul_lt _ _), Nat.xor_assoc, gmul_comm (gp x m) x, gmul_assoc (peval x (b.take k)) x, gmul_assoc y (b.getD k 0)]
theorem peval_convTo (x : Nat) (L : List Nat) (h : bytesL L) (a b : List Nat) (ha : bytesL a) (hb : bytesL b) : ∀ i, i ≤ a.length → i + b.length ≤ L.length + 1 →
    peval x (convTo L a b i) = peval x L ^^^ gmul (peval x (a.take i)) (gmul (peval x b) (gp x (L.length + 1 - i - b.length))) := by
  intro i
  induction i with
  | zero => intro _ _; show peval x L = peval x L ^^^ gmul 0 _; rw [zero_gmul, Nat.xor_zero]
  | succ i ih =>
    intro hi hn
    have hm : ∃ m, L.length + 1 - (i + 1) - b.length = m ∧ L.length + 1 - i - b.length = m + 1 ∧ L.length - i - b.length = m := ⟨L.length - i - b.length, by omega, by omega, rfl⟩
    obtain ⟨m, e1, e2, e3⟩ := hm
    show peval x (rowTo (convTo L a b i) i (a.getD i 0) b b.length) = _
    rw [peval_rowTo x _ (convTo_bytes h _ _ _) _ _ (ha.getD i) b hb _ (Nat.le_refl _) (by rw [convTo_length]; omega), convTo_length, ih (by omega) (by omega), e1, e2, e3, take_getD a i (by omega), peval_snoc, List.take_length]
    have h1 := peval_lt x (ha.take i)
    show _ ^^^ gmul _ (gmul _ (gmul (gp x m) x)) ^^^ _ = _
    rw [xor_gmul _ _ _ (gmul_lt _ _) (gmul_lt _ _) (ha.getD i), Nat.xor_assoc, gmul_assoc (peval x (a.take i)) x, gmul_left_comm x, gmul_comm (gp x m) x]
theorem peval_ptwo (x : Nat) {a b : List Nat} (ha : bytesL a) (hb : bytesL b) : peval x (ptwo a b) = gmul (peval x a) (peval x b) := by
  unfold ptwo
  by_cases h : trim a = [] ∨ trim b = []
  · rw [if_pos h]
    rcases h with h | h
    · rw [← peval_trim x a, h]; exact (zero_gmul _).symm
    · rw [← peval_trim x b, h]; exact (gmul_zero _).symm
  · rw [if_neg h]
    have h1 : 0 < (trim a).length := List.length_pos_iff.2 fun e => h (.inl e)
    have h2 : 0 < (trim b).length := List.length_pos_iff.2 fun e => h (.inr e)
    rw [peval_convTo x _ (bytesL.zeros _) _ _ (trim_bytes ha) (trim_bytes hb) _ (Nat.le_refl _) (by rw [List.length_replicate]; omega), List.length_replicate, peval_zeros, Nat.zero_xor, List.take_length, peval_trim, peval_trim,
      show (trim a).length + (trim b).length - 1 + 1 - (trim a).length - (trim b).length = 0 from by omega]
    show gmul _ (gmul _ 1) = _
    rw [gmul_one _ (peval_lt x hb)]
theorem peval_rowAdd (x : Nat) (L : List Nat) (h : bytesL L) (j : Nat) (a : List Nat) (ha : bytesL a) : ∀ k, k ≤ a.length → j + k ≤ L.length →
    peval x (rowAdd L j a k) = peval x L ^^^ gmul (peval x (a.take k)) (gp x (L.length - j - k)) := by
  intro k
  induction k with
  | zero => intro _ _; show peval x L = peval x L ^^^ gmul 0 _; rw [zero_gmul, Nat.xor_zero]
  | succ k ih =>
    intro hk hi
    have hm : ∃ m, L.length - j - (k + 1) = m ∧ L.length - j - k = m + 1 ∧ L.length - 1 - (j + k) = m := ⟨L.length - j - (k + 1), rfl, by omega, by omega⟩
    obtain ⟨m, e1, e2, e3⟩ := hm
    show peval x (acc (rowAdd L j a k) (j + k) (a.getD k 0)) = _
    rw [peval_acc x _ (rowAdd_bytes h _ ha _) _ (ha.getD k) _ (by rw [rowAdd_length]; omega), rowAdd_length, ih (by omega) (by omega), e1, e2, e3, take_getD a k (by omega), peval_snoc]
    show _ ^^^ gmul _ (gmul (gp x m) x) ^^^ _ = _
    rw [xor_gmul _ _ _ (gp_lt _ _) (gmul_lt _ _) (ha.getD k), Nat.xor_assoc, gmul_comm (gp x m) x, gmul_assoc]
theorem peval_addAll (x n : Nat) (l : List (List Nat)) (hb : ∀ a ∈ l, bytesL a) (hn : ∀ a ∈ l, a.length ≤ n) : ∀ k, k ≤ l.length → peval x (addAll n (l.take k)) = (l.take k).foldl (fun s a => s ^^^ peval x a) 0 := by
  intro k
  induction k with
  | zero => intro _; exact peval_zeros x n
  | succ k ih =>
    intro hk
    have hm : l.getD k [] ∈ l := by rw [List.getD_eq_getElem?_getD, List.getElem?_eq_getElem (by omega)]; exact List.getElem_mem _
    obtain ⟨h1, h2⟩ := addAll_take n l hb k (by omega)
    have h3 := hn _ hm
    rw [take_snocR l k (by omega), addAll_snoc, peval_rowAdd x _ h2 _ _ (hb _ hm) _ (Nat.le_refl _) (by rw [h1]; omega), ih (by omega), h1, List.foldl_append, List.take_length,
      show n - (n - (l.getD k []).length) - (l.getD k []).length = 0 from by omega]
    show _ ^^^ gmul _ 1 = _
    rw [gmul_one _ (peval_lt x (hb _ hm))]
    rfl
theorem peval_padd (x : Nat) (l : List (List Nat)) (hb : ∀ a ∈ l, bytesL a) : peval x (padd l) = l.foldl (fun s a => s ^^^ peval x a) 0 := by
  have h := peval_addAll x (longest l) l hb (fun a ha => longest_ge l a ha) l.length (Nat.le_refl _)
  rw [List.take_length] at h
  unfold padd
  rw [peval_trim, h]
theorem gp_gexp (x k : Nat) (h0 : x ≠ 0) (hx : x < 256) : gp x k = gexp (glog x * k) := by
  induction k with
  | zero => exact gexp_zero.symm
  | succ k ih =>
    show gmul (gp x k) x = _
    rw [ih]
    conv => lhs; rw [← gexp_glog x h0 hx]
    rw [glog_gexp, Nat.mod_eq_of_lt (glog_lt x), gmul_gexp]
    rfl
end Tri

namespace Tri
/-- A sum over the numbers below n. -/
def XS (f : Nat → Nat) : Nat → Nat
  | 0 => 0
  | k + 1 => XS f k ^^^ f k
theorem XS_lt (f : Nat → Nat) (h : ∀ i, f i < 256) (n : Nat) : XS f n < 256 := by
  induction n with
  | zero => exact (by decide : (0 : Nat) < 256)
  | succ n ih => exact xor_lt ih (h n)
def reval (l : List Nat) (x : Nat) : Nat := XS (fun i => gmul (l.getD i 0) (gp x i)) l.length
def rderL (l : List Nat) : List Nat := (List.range (l.length - 1)).map fun i => if (i + 1) % 2 = 1 then l.getD (i + 1) 0 else 0
def rder (l : List Nat) : List Nat := cutR (rderL l)
theorem rderL_length (l : List Nat) : (rderL l).length = l.length - 1 := by unfold rderL; simp
theorem rderL_take (l : List Nat) (k : Nat) (h : k < l.length - 1) : (rderL l).take (k + 1) = (rderL l).take k ++ [if (k + 1) % 2 = 1 then l.getD (k + 1) 0 else 0] := by
  rw [List.take_succ_eq_append_getElem (by rw [rderL_length]; exact h)]
  congr 2
  unfold rderL
  simp
theorem rder_bytes {l : List Nat} (h : bytesL l) : bytesL (rder l) := by
  refine cutR_bytes ?_
  intro x hx
  unfold rderL at hx
  obtain ⟨i, _, rfl⟩ := List.mem_map.1 hx
  split
  · exact bytesL_getD h _
  · decide
theorem rder_length (l : List Nat) : (rder l).length ≤ l.length := by
  have := cutR_length_le (rderL l)
  rw [rderL_length] at this
  unfold rder; omega
end Tri
namespace Go.Proofs.Ytgckhekikcdaiaa
open Go.RowKit Tri

set_option maxHeartbeats 1000000 in
theorem ref5_Eval (p : Option Addr) (n c : Nat) (l : List Nat) (x : Nat) (w : World) (hn : n = l.length) (hp : cellsI w p l) (hb : bytesL l) (hx : x < 256) (hl : l.length ≤ 100000) :
    Calls Try.prog 21 #[.slice p n c, .int .i64 x] w fun e w' => e = .returned (.int .i64 (reval l x : Nat)) ∧ w = w' := by
  subst hn
  have HP := hid hp
  have HB := hid hb
  clear hp hb
  have HR : Hid (reval l x = XS (fun i => gmul (l.getD i 0) (gp x i)) l.length) := rfl
  have HXL : Hid (∀ k, XS (fun i => gmul (l.getD i 0) (gp x i)) k < 256) := fun k => XS_lt _ (fun i => gmul_lt _ _) k
  have HXS : Hid (∀ k, XS (fun i => gmul (l.getD i 0) (gp x i)) (k + 1) = XS (fun i => gmul (l.getD i 0) (gp x i)) k ^^^ gmul (l.getD k 0) (gp x k)) := fun k => rfl
  have HF0 : Hid (XS (fun i => gmul (l.getD i 0) (gp x i)) 0 = 0) := rfl
  generalize XS (fun i => gmul (l.getD i 0) (gp x i)) = F at *
  generalize reval l x = R at *
  go_enter Try.func21, Try.ntmps21
  go_wp2_with ((with_reducible refine wpList_unguard ?_ ?_); (focus rfl))
  go_loop [5, 6, 7] (fun s p i => ∃ k : Nat, k ≤ l.length ∧ i = .int .i64 k ∧ s = .int .i64 (F k : Nat) ∧ p = .int .i64 (gp x k : Nat)) (fun _ _ i => l.length - (intOf i).toNat)
  case atStart => exact ⟨0, Nat.zero_le _, rfl, by rw [HF0.out]; rfl, rfl⟩
  case round =>
    obtain ⟨k, hk, rfl, rfl, rfl⟩ := hrel
    by_cases hlt : k < l.length
    · obtain ⟨a, o, rfl, hc⟩ := HP.out k hlt
      have hy : l.getD k 0 < 256 := HB.out _ (getD_mem l k hlt)
      have hg := gp_lt x k
      have HG : Hid (gp x (k + 1) = gmul (gp x k) x) := rfl
      have HF := hid (HXS.out k)
      have hf := HXL.out k
      generalize l.getD k 0 = y at *
      generalize gp x k = g at *
      generalize F k = s at *
      have hm := gmul_lt y g
      have hxor := i64_xor_nat s (gmul y g) (by omega) (by omega)
      go_wp2_with ((with_reducible refine wpList_unguard ?_ ?_); (focus rfl))
      refine Calls.mono (ref_Mul y g hy hg _) ?_; rintro e w' ⟨rfl, rfl⟩
      generalize gmul y g = yg at *
      go_wp2_with ((with_reducible refine wpList_unguard ?_ ?_); (focus rfl))
      refine Calls.mono (ref_Mul g x hg hx _) ?_; rintro e w' ⟨rfl, rfl⟩
      go_wp2_with ((with_reducible refine wpList_unguard ?_ ?_); (focus rfl))
      go_round
      case rel => exact ⟨k + 1, by omega, by go_num, by rw [HF.out], by rw [HG.out]⟩
      case measure => simp [intOf]; omega
    · obtain rfl : k = l.length := by omega
      rw [← HR.out]
      go_wp2
      go_ret
      exact ⟨rfl, rfl⟩
end Go.Proofs.Ytgckhekikcdaiaa

namespace Tri
theorem XS_congr {f g : Nat → Nat} (n : Nat) (h : ∀ i, i < n → f i = g i) : XS f n = XS g n := by
  induction n with
  | zero => rfl
  | succ n ih => simp only [XS]; rw [ih fun i hi => h i (by omega), h n (by omega)]
theorem XS_zero (f : Nat → Nat) (n : Nat) (h : ∀ i, i < n → f i = 0) : XS f n = 0 := by
  induction n with
  | zero => rfl
  | succ n ih => simp only [XS]; rw [ih fun i hi => h i (by omega), h n (by omega)]; rfl
theorem XS_first (f : Nat → Nat) (n : Nat) : XS f (n + 1) = f 0 ^^^ XS (fun i => f (i + 1)) n := by
  induction n with
  | zero => simp [XS]
  | succ n ih => rw [XS, ih, XS, Nat.xor_assoc]
theorem XS_rev (f : Nat → Nat) (n : Nat) : XS f n = XS (fun i => f (n - 1 - i)) n := by
  induction n with
  | zero => rfl
  | succ n ih =>
    rw [XS_first (fun i => f (n + 1 - 1 - i)), XS, ih, Nat.xor_comm]
    congr 1
    exact XS_congr n fun i hi => by rw [show n - 1 - i = n + 1 - 1 - (i + 1) from by omega]
theorem co_getD (l : List Nat) (i : Nat) (h : i < l.length) : co l i = l.getD (l.length - 1 - i) 0 := by
  unfold co
  rw [List.getD_eq_getElem?_getD, List.getElem?_reverse h, ← List.getD_eq_getElem?_getD]
theorem co_rev (l : List Nat) (i : Nat) : co l.reverse i = l.getD i 0 := by unfold co; rw [List.reverse_reverse]
theorem getD_ge (l : List Nat) (i : Nat) (h : l.length ≤ i) : l.getD i 0 = 0 := by
  rw [List.getD_eq_getElem?_getD, List.getElem?_eq_none h]; rfl
theorem cutR_getD (l : List Nat) (i : Nat) : (cutR l).getD i 0 = l.getD i 0 := by
  have := co_trim l.reverse i
  rw [co_rev] at this
  exact this
theorem rof_getD (l : List Nat) (i : Nat) : (rof l).getD i 0 = co l i := by
  unfold rof; rw [cutR_getD]; rfl
theorem rof_eq (l : List Nat) : rof l = (trim l).reverse := by unfold rof cutR; rw [List.reverse_reverse]
theorem rbytes_eq (l : List Nat) : rbytes l = trim l.reverse := by unfold rbytes cutR; rw [List.reverse_reverse]
theorem rbytes_rof (l : List Nat) : rbytes (rof l) = trim l := by rw [rbytes_eq, rof_eq, List.reverse_reverse, trim_trim]
theorem rof_bytes {l : List Nat} (h : bytesL l) : bytesL (rof l) := by rw [rof_eq]; exact rev_bytes (trim_bytes h)
theorem rof_length (l : List Nat) : (rof l).length = (trim l).length := by rw [rof_eq, List.length_reverse]
/-- What stands for the same factors is the same. -/
theorem trim_of_getD {l m : List Nat} (h : ∀ i, co l i = m.getD i 0) : trim l = rbytes m := by
  rw [rbytes_eq]; exact trim_ext fun i => by rw [h, co_rev]
theorem trim_nz (l : List Nat) (h : l.getD 0 0 ≠ 0) : trim l = l := by
  cases l with
  | nil => exact absurd rfl h
  | cons a l => unfold trim; rw [if_neg (by simpa using h)]

/- values -/
theorem peval_XS (x : Nat) {l : List Nat} (h : bytesL l) : peval x l = XS (fun i => gmul (co l i) (gp x i)) l.length := by
  induction l with
  | nil => rfl
  | cons a l ih =>
    rw [peval_cons x a h, ih h.tail, List.length_cons, XS, co_top, Nat.xor_comm]
    congr 1
    exact XS_congr _ fun i hi => by rw [co_cons_lt a l i hi]
theorem reval_rof (x : Nat) {l : List Nat} (h : bytesL l) : reval (rof l) x = peval x l := by
  unfold reval
  rw [← peval_trim, peval_XS x (trim_bytes h), rof_length]
  exact XS_congr _ fun i _ => by rw [rof_getD, co_trim]

/- derivatives -/
theorem derTo_getD (L : List Nat) (n : Nat) : ∀ k, k ≤ L.length → ∀ j, (derTo L n k).getD j 0 = if j < k ∧ (n - 1 - j) % 2 = 0 then 0 else L.getD j 0 := by
  intro k
  induction k with
  | zero => intro _ j; rw [if_neg (by omega)]; rfl
  | succ k ih =>
    intro hk j
    unfold derTo
    by_cases he : (n - 1 - k) % 2 = 0
    · rw [if_pos he]
      by_cases hj : j = k
      · subst hj
        rw [if_pos ⟨by omega, he⟩, List.getD_eq_getElem?_getD, List.getElem?_set_self (by rw [derTo_length]; omega)]
        rfl
      · rw [List.getD_eq_getElem?_getD, List.getElem?_set_ne (by omega), ← List.getD_eq_getElem?_getD, ih (by omega)]
        by_cases h : j < k
        · by_cases h2 : (n - 1 - j) % 2 = 0
          · rw [if_pos ⟨h, h2⟩, if_pos ⟨by omega, h2⟩]
          · rw [if_neg (fun e => h2 e.2), if_neg (fun e => h2 e.2)]
        · rw [if_neg (fun e => h e.1), if_neg (by omega)]
    · rw [if_neg he, ih (by omega)]
      by_cases hj : j = k
      · subst hj
        rw [if_neg (by omega), if_neg (fun e => he e.2)]
      · by_cases h : j < k
        · by_cases h2 : (n - 1 - j) % 2 = 0
          · rw [if_pos ⟨h, h2⟩, if_pos ⟨by omega, h2⟩]
          · rw [if_neg (fun e => h2 e.2), if_neg (fun e => h2 e.2)]
        · rw [if_neg (fun e => h e.1), if_neg (by omega)]
theorem rderL_getD (l : List Nat) (i : Nat) : (rderL l).getD i 0 = if (i + 1) % 2 = 1 then l.getD (i + 1) 0 else 0 := by
  by_cases h : i < l.length - 1
  · unfold rderL
    rw [List.getD_eq_getElem?_getD, List.getElem?_map, List.getElem?_range h]
    rfl
  · rw [getD_ge _ _ (by rw [rderL_length]; omega), getD_ge l _ (by omega)]
    split <;> rfl
theorem pder_rder (l : List Nat) : pder l = rbytes (rder (rof l)) := by
  have h2 : rbytes (rder (rof l)) = rbytes (rderL (rof l)) := by
    rw [rbytes_eq, rbytes_eq]
    exact trim_ext fun i => by rw [co_rev, co_rev]; exact cutR_getD _ _
  rw [h2]
  unfold pder
  by_cases hl : l = []
  · subst hl; rfl
  · rw [if_neg hl]
    have h0 : 0 < l.length := List.length_pos_iff.2 hl
    refine trim_of_getD fun i => ?_
    rw [rderL_getD, rof_getD]
    have hD : (derTo (l.take (l.length - 1)) l.length (l.length - 1)).length = l.length - 1 := by rw [derTo_length, List.length_take]; omega
    by_cases hi : i < l.length - 1
    · rw [co_getD _ _ (by rw [hD]; exact hi), hD, derTo_getD _ _ _ (by rw [List.length_take]; omega), co_getD l (i + 1) (by omega), show l.length - 1 - (l.length - 1 - 1 - i) = i + 1 from by omega, show l.length - 1 - 1 - i = l.length - 1 - (i + 1) from by omega]
      by_cases he : (i + 1) % 2 = 1
      · rw [if_neg (by omega), if_pos he]
        simp only [List.getD_eq_getElem?_getD, List.getElem?_take]
        rw [if_pos (by omega)]
      · rw [if_pos ⟨by omega, by omega⟩, if_neg he]
    · rw [co_ge _ _ (by rw [hD]; omega), co_ge l (i + 1) (by omega)]
      split <;> rfl

/- sums -/
theorem getD_acc (L : List Nat) (j v : Nat) (h : j < L.length) (i : Nat) : (acc L j v).getD i 0 = L.getD i 0 ^^^ (if i = j then v else 0) := by
  unfold acc
  by_cases e : i = j
  · subst e
    rw [if_pos rfl, List.getD_eq_getElem?_getD, List.getElem?_set_self h]
    rfl
  · rw [if_neg e, Nat.xor_zero, List.getD_eq_getElem?_getD, List.getElem?_set_ne (fun h => e h.symm), ← List.getD_eq_getElem?_getD]
theorem getD_rowAdd (L : List Nat) (j : Nat) (a : List Nat) : ∀ k, j + k ≤ L.length → ∀ i, (rowAdd L j a k).getD i 0 = L.getD i 0 ^^^ (if j ≤ i ∧ i < j + k then a.getD (i - j) 0 else 0) := by
  intro k
  induction k with
  | zero => intro _ i; rw [if_neg (by omega), Nat.xor_zero]; rfl
  | succ k ih =>
    intro hk i
    show (acc (rowAdd L j a k) (j + k) (a.getD k 0)).getD i 0 = _
    rw [getD_acc _ _ _ (by rw [rowAdd_length]; omega), ih (by omega), Nat.xor_assoc]
    congr 1
    by_cases e : i = j + k
    · subst e
      rw [if_neg (by omega), if_pos rfl, if_pos (by omega), Nat.zero_xor, show j + k - j = k from by omega]
    · rw [if_neg e, Nat.xor_zero]
      by_cases h : j ≤ i ∧ i < j + k
      · rw [if_pos h, if_pos (by omega)]
      · rw [if_neg h, if_neg (by omega)]
theorem co_rowAdd (L a : List Nat) (h : a.length ≤ L.length) (i : Nat) : co (rowAdd L (L.length - a.length) a a.length) i = co L i ^^^ co a i := by
  by_cases hi : i < L.length
  · rw [co_getD _ _ (by rw [rowAdd_length]; exact hi), rowAdd_length, getD_rowAdd _ _ _ _ (by omega), ← co_getD L i hi]
    congr 1
    by_cases ha : i < a.length
    · rw [if_pos (by omega), co_getD a i ha]
      congr 1
      omega
    · rw [if_neg (by omega), co_ge a i (by omega)]
  · rw [co_ge _ _ (by rw [rowAdd_length]; omega), co_ge L i (by omega), co_ge a i (by omega)]
    rfl
theorem co_addAll (n : Nat) (l : List (List Nat)) (hb : ∀ a ∈ l, bytesL a) (hn : ∀ a ∈ l, a.length ≤ n) (i : Nat) : ∀ k, k ≤ l.length → co (addAll n (l.take k)) i = (l.take k).foldl (fun s a => s ^^^ co a i) 0 := by
  intro k
  induction k with
  | zero =>
    intro _
    have := co_zeros n [] i
    rw [List.append_nil] at this
    exact this
  | succ k ih =>
    intro hk
    have hm : l.getD k [] ∈ l := by rw [List.getD_eq_getElem?_getD, List.getElem?_eq_getElem (by omega)]; exact List.getElem_mem _
    obtain ⟨h1, _⟩ := addAll_take n l hb k (by omega)
    have h3 := hn _ hm
    rw [take_snocR l k (by omega), addAll_snoc, List.foldl_append]
    have h4 := co_rowAdd (addAll n (l.take k)) (l.getD k []) (by rw [h1]; exact h3) i
    rw [h1] at h4
    rw [h4, ih (by omega)]
    rfl
theorem radd_getD (a b : List Nat) (i : Nat) : (radd a b).getD i 0 = a.getD i 0 ^^^ b.getD i 0 := by
  unfold radd
  rw [cutR_getD]
  by_cases h : i < max a.length b.length
  · unfold raddL
    rw [List.getD_eq_getElem?_getD, List.getElem?_map, List.getElem?_range h]
    rfl
  · rw [getD_ge _ _ (by rw [raddL_length]; omega), getD_ge a i (by omega), getD_ge b i (by omega)]
    rfl
/-- The document's sum of many. -/
def rsumL (l : List (List Nat)) : List Nat := l.foldl (fun s a => radd s (rof a)) []
theorem rsumL_snoc (l : List (List Nat)) (a : List Nat) : rsumL (l ++ [a]) = radd (rsumL l) (rof a) := by unfold rsumL; rw [List.foldl_append]; rfl
theorem rsumL_getD (i : Nat) (l : List (List Nat)) : (rsumL l).getD i 0 = l.foldl (fun s a => s ^^^ co a i) 0 := by
  have key : ∀ (l : List (List Nat)) (s : List Nat) (t : Nat), s.getD i 0 = t → (l.foldl (fun s a => radd s (rof a)) s).getD i 0 = l.foldl (fun s a => s ^^^ co a i) t := by
    intro l
    induction l with
    | nil => intro s t h; exact h
    | cons a l ih => intro s t h; exact ih _ _ (by rw [radd_getD, h, rof_getD])
  exact key l [] 0 rfl
theorem padd_rsum (l : List (List Nat)) (hb : ∀ a ∈ l, bytesL a) : padd l = rbytes (rsumL l) := by
  unfold padd
  refine trim_of_getD fun i => ?_
  have h := co_addAll (longest l) l hb (fun a ha => longest_ge l a ha) i l.length (Nat.le_refl _)
  rw [List.take_length] at h
  rw [h, rsumL_getD]

/- products -/
theorem getD_rowTo (L : List Nat) (i y : Nat) (b : List Nat) : ∀ k, i + k ≤ L.length → ∀ j, (rowTo L i y b k).getD j 0 = L.getD j 0 ^^^ (if i ≤ j ∧ j < i + k then gmul y (b.getD (j - i) 0) else 0) := by
  intro k
  induction k with
  | zero => intro _ j; rw [if_neg (by omega), Nat.xor_zero]; rfl
  | succ k ih =>
    intro hk j
    show (acc (rowTo L i y b k) (i + k) (gmul y (b.getD k 0))).getD j 0 = _
    rw [getD_acc _ _ _ (by rw [rowTo_length]; omega), ih (by omega), Nat.xor_assoc]
    congr 1
    by_cases e : j = i + k
    · subst e
      rw [if_neg (by omega), if_pos rfl, if_pos (by omega), Nat.zero_xor, show i + k - i = k from by omega]
    · rw [if_neg e, Nat.xor_zero]
      by_cases h : i ≤ j ∧ j < i + k
      · rw [if_pos h, if_pos (by omega)]
      · rw [if_neg h, if_neg (by omega)]
/-- A term of a product's factor. -/
def cvt (f g : Nat → Nat) (j i : Nat) : Nat := if i ≤ j then gmul (f i) (g (j - i)) else 0
theorem getD_convTo (L a b : List Nat) : ∀ m, m + b.length ≤ L.length + 1 → ∀ j, (convTo L a b m).getD j 0 = L.getD j 0 ^^^ XS (cvt (fun i => a.getD i 0) (fun i => b.getD i 0) j) m := by
  intro m
  induction m with
  | zero => intro _ j; exact (Nat.xor_zero _).symm
  | succ m ih =>
    intro hm j
    show (rowTo (convTo L a b m) m (a.getD m 0) b b.length).getD j 0 = _
    rw [getD_rowTo _ _ _ _ _ (by rw [convTo_length]; omega), ih (by omega), XS, Nat.xor_assoc]
    congr 2
    unfold cvt
    by_cases h : m ≤ j
    · rw [if_pos h]
      by_cases h2 : j < m + b.length
      · rw [if_pos ⟨h, h2⟩]
      · rw [if_neg (by omega)]
        show 0 = gmul _ (b.getD (j - m) 0)
        rw [getD_ge b (j - m) (by omega), gmul_zero]
    · rw [if_neg (by omega), if_neg h]
theorem getD_zeros (n i : Nat) : (List.replicate n 0).getD i 0 = 0 := by
  rw [List.getD_eq_getElem?_getD, List.getElem?_replicate]; split <;> rfl
/-- The terms, told by the highest place first, are those told by the powers. -/
theorem conv_rev (A B : List Nat) (j : Nat) (hB : 0 < B.length) (hj : j < A.length + B.length - 1) :
    XS (cvt (fun i => A.getD i 0) (fun i => B.getD i 0) (A.length + B.length - 1 - 1 - j)) A.length = XS (cvt (co A) (co B) j) A.length := by
  rw [XS_rev]
  refine XS_congr _ fun i hi => ?_
  unfold cvt
  by_cases h : i ≤ j
  · rw [if_pos h]
    by_cases h2 : j - i < B.length
    · rw [if_pos (by omega), co_getD A i hi, co_getD B _ h2]
      congr 2
      omega
    · rw [if_neg (by omega), co_ge B _ (by omega), gmul_zero]
  · rw [if_neg h]
    split
    · show gmul _ (B.getD (A.length + B.length - 1 - 1 - j - (A.length - 1 - i)) 0) = 0
      rw [getD_ge B _ (by omega), gmul_zero]
    · rfl
theorem rmulL_getD (a b : List Nat) (j : Nat) : (rmulL a b).getD j 0 = XS (cvt (fun i => a.getD i 0) (fun i => b.getD i 0) j) a.length := by
  unfold rmulL
  rw [getD_convTo _ _ _ _ (by rw [List.length_replicate]; omega), getD_zeros, Nat.zero_xor]
theorem rmulP_getD (a b : List Nat) (j : Nat) : (rmulP a b).getD j 0 = XS (cvt (fun i => a.getD i 0) (fun i => b.getD i 0) j) a.length := by
  unfold rmulP; rw [cutR_getD, rmulL_getD]
/-- The product of two that aren't 0, by its factors; its first isn't 0. -/
theorem co_conv (A B : List Nat) (hA : 0 < A.length) (hB : 0 < B.length) (j : Nat) : co (convTo (List.replicate (A.length + B.length - 1) 0) A B A.length) j = XS (cvt (co A) (co B) j) A.length := by
  have hlen : (convTo (List.replicate (A.length + B.length - 1) 0) A B A.length).length = A.length + B.length - 1 := by rw [convTo_length, List.length_replicate]
  by_cases hj : j < A.length + B.length - 1
  · rw [co_getD _ _ (by rw [hlen]; exact hj), hlen, getD_convTo _ _ _ _ (by rw [List.length_replicate]; omega), getD_zeros, Nat.zero_xor, conv_rev A B j hB hj]
  · rw [co_ge _ _ (by rw [hlen]; omega), XS_zero]
    intro i hi
    unfold cvt
    split
    · rw [co_ge B _ (by omega), gmul_zero]
    · rfl
theorem conv_head (A B : List Nat) (hA : A.getD 0 0 ≠ 0) (hB : B.getD 0 0 ≠ 0) : (convTo (List.replicate (A.length + B.length - 1) 0) A B A.length).getD 0 0 ≠ 0 := by
  have hA0 : 0 < A.length := by cases A with | nil => exact absurd rfl hA | cons => simp
  have hB0 : 0 < B.length := by cases B with | nil => exact absurd rfl hB | cons => simp
  rw [getD_convTo _ _ _ _ (by rw [List.length_replicate]; omega), getD_zeros, Nat.zero_xor]
  obtain ⟨m, hm⟩ : ∃ m, A.length = m + 1 := ⟨A.length - 1, by omega⟩
  rw [hm, XS_first, XS_zero (fun i => cvt (fun i => A.getD i 0) (fun i => B.getD i 0) 0 (i + 1)) m (fun i _ => by unfold cvt; rw [if_neg (by omega)]), Nat.xor_zero]
  unfold cvt
  rw [if_pos (Nat.le_refl _)]
  exact gmul_ne hA hB
theorem ptwo_trim (a b : List Nat) : trim (ptwo a b) = ptwo a b := by
  unfold ptwo
  by_cases h : trim a = [] ∨ trim b = []
  · rw [if_pos h]; rfl
  · rw [if_neg h]
    exact trim_nz _ (conv_head _ _ (trim_head a fun e => h (.inl e)) (trim_head b fun e => h (.inr e)))
theorem co_ptwo (a b : List Nat) (j : Nat) : co (ptwo a b) j = XS (cvt (co a) (co b) j) (trim a).length := by
  have hc : ∀ n, XS (cvt (co a) (co b) j) n = XS (cvt (co (trim a)) (co (trim b)) j) n := fun n => XS_congr n fun i _ => by unfold cvt; rw [co_trim, co_trim]
  rw [hc]
  unfold ptwo
  by_cases h : trim a = [] ∨ trim b = []
  · rw [if_pos h]
    show 0 = _
    rw [XS_zero]
    intro i _
    unfold cvt
    rcases h with h | h
    · rw [h]; split
      · rw [co_ge [] _ (Nat.zero_le _), zero_gmul]
      · rfl
    · rw [h]; split
      · rw [co_ge [] _ (Nat.zero_le _), gmul_zero]
      · rfl
  · rw [if_neg h]
    exact co_conv _ _ (List.length_pos_iff.2 fun e => h (.inl e)) (List.length_pos_iff.2 fun e => h (.inr e)) j
theorem ptwo_rmul (a b : List Nat) (ha : trim a = a) : rmulP a.reverse (rof b) = (ptwo a b).reverse := by
  have h : trim (ptwo a b) = rbytes (rmulP a.reverse (rof b)) := by
    refine trim_of_getD fun i => ?_
    rw [co_ptwo, rmulP_getD, ha, List.length_reverse]
    exact XS_congr _ fun i _ => by
      unfold cvt
      split
      · show _ = gmul _ ((rof b).getD _ 0); rw [rof_getD]; rfl
      · rfl
  rw [ptwo_trim] at h
  rw [h]
  unfold rbytes
  rw [List.reverse_reverse]
  unfold rmulP cutR
  rw [List.reverse_reverse, trim_trim]
/-- The document's product of many. -/
def rprodL (l : List (List Nat)) : List Nat := l.foldl (fun s a => rmulP s (rof a)) [1]
theorem rprodL_snoc (l : List (List Nat)) (a : List Nat) : rprodL (l ++ [a]) = rmulP (rprodL l) (rof a) := by unfold rprodL; rw [List.foldl_append]; rfl
theorem rprodL_eq (l : List (List Nat)) : rprodL l = (pmul l).reverse ∧ trim (pmul l) = pmul l := by
  have key : ∀ (l : List (List Nat)) (s p : List Nat), s = p.reverse → trim p = p → l.foldl (fun s a => rmulP s (rof a)) s = (l.foldl ptwo p).reverse ∧ trim (l.foldl ptwo p) = l.foldl ptwo p := by
    intro l
    induction l with
    | nil => intro s p h1 h2; exact ⟨h1, h2⟩
    | cons a l ih => intro s p h1 h2; exact ih _ _ (by rw [h1]; exact ptwo_rmul p a h2) (ptwo_trim p a)
  exact key l [1] [1] rfl rfl
theorem pmul_rprod (l : List (List Nat)) : pmul l = rbytes (rprodL l) := by
  obtain ⟨h1, h2⟩ := rprodL_eq l
  rw [rbytes_eq, h1, List.reverse_reverse, h2]
end Tri
