/-
  As XQstg; edges that bind in the text's order alone may point ahead.
-/
import Derived.Test.YtngkmlchblgmeaaQstg
namespace Go.Proofs.Ytngkmlchblgmeaa
open Go.RowKit

section
variable {P : Program} {ops : Array Oper} {Q : Exit → Act → World → Prop}
theorem ready_nilB (hac : ∀ (i : Nat) (o : Oper), ops[i]? = some o → ∀ e : Edge, e ∈ o.after → Region.binds .any e = true → e.on < i) (L : Array Bool) (hs : L.size = ops.size) (h : Region.ready .any ops L = []) :
    ∀ i, i < ops.size → L[i]? = some true := by
  intro i
  induction i using Nat.strongRecOn with
  | ind i ih =>
    intro hi
    have hL : i < L.size := by omega
    have hm : i ∉ Region.ready .any ops L := by rw [h]; simp
    unfold Region.ready at hm
    rw [List.mem_filter] at hm
    simp only [List.mem_range, hi, true_and] at hm
    have ho : ops[i]? = some ops[i] := Array.getElem?_eq_getElem hi
    rw [ho] at hm
    simp only [Option.map_some, Option.getD_some, Bool.and_eq_true, Bool.not_eq_eq_eq_not, Bool.not_true] at hm
    cases hb : L[i] with
    | true => rw [Array.getElem?_eq_getElem hL, hb]
    | false =>
      exfalso
      apply hm
      refine ⟨by simp [hL, hb], ?_⟩
      rw [Array.all_eq_true_iff_forall_mem]
      intro e he
      cases hb : Region.binds .any e with
      | false => simp
      | true =>
        have h1 := hac i _ ho e he hb
        have h2 := ih e.on h1 (by omega)
        have : L.getD e.on false = true := by rw [Array.getD_eq_getD_getElem?, h2]; rfl
        simp [this]

theorem wpAny_invB (hac : ∀ (i : Nat) (o : Oper), ops[i]? = some o → ∀ e : Edge, e ∈ o.after → Region.binds .any e = true → e.on < i) (I : Array Bool → Act → World → Prop)
    (hstep : ∀ (i : Nat) (o : Oper), ops[i]? = some o → ∀ L a w, L.size = ops.size → I L a w → L[i]? = some false → (∀ e ∈ o.after, Region.binds .any e = true → L[e.on]? = some true) →
      wpOp P ops Q i (fun a' w' => I (L.setIfInBounds i true) a' w') a w)
    (hend : ∀ L a w, (∀ i, i < ops.size → L[i]? = some true) → I L a w → Q .normal a w) :
    ∀ fuel L a w, L.size = ops.size → I L a w → unlisted L ≤ fuel → wpAny P .any ops Q fuel L a w := by
  intro fuel
  induction fuel with
  | zero =>
    intro L a w hs hI hu
    have hall : ∀ i, i < ops.size → L[i]? = some true := by
      intro i hi
      rw [Array.getElem?_eq_getElem (by omega)]
      cases hb : L[i]'(by omega) with
      | true => rfl
      | false =>
        have : unlisted L = 0 := by omega
        have := unlisted_set L i (by rw [Array.getElem?_eq_getElem (by omega), hb])
        omega
    refine ⟨?_, hend L a w hall hI⟩
    unfold Region.ready
    rw [List.filter_eq_nil_iff]
    intro i hi
    simp only [List.mem_range] at hi
    have h1 := hall i hi
    have h2 : L.getD i true = true := by rw [Array.getD_eq_getD_getElem?, h1]; rfl
    rw [h2]; simp
  | succ fuel ih =>
    intro L a w hs hI hu
    refine ⟨fun hr => hend L a w (ready_nilB hac L hs hr) hI, ?_⟩
    intro i hi
    unfold Region.ready at hi
    rw [List.mem_filter] at hi
    simp only [List.mem_range] at hi
    obtain ⟨hi1, hi2⟩ := hi
    have ho : ops[i]? = some ops[i] := Array.getElem?_eq_getElem hi1
    rw [ho] at hi2
    simp only [Option.map_some, Option.getD_some, Bool.and_eq_true] at hi2
    obtain ⟨hl, hd⟩ := hi2
    have hlf : L[i]? = some false := by
      rw [Array.getElem?_eq_getElem (by omega)]
      cases hb : L[i]'(by omega) with
      | false => rfl
      | true => simp [hs, hi1, hb] at hl
    refine wpOp_mono (fun a' w' hI' => ih _ a' w' (by simp [hs]) hI' (by have := unlisted_set L i hlf; omega)) (hstep i _ ho L a w hs hI hlf ?_)
    intro e he hb
    rw [Array.all_eq_true_iff_forall_mem] at hd
    have := hd e he
    simp only [hb, Bool.not_true, Bool.false_or] at this
    by_cases hlt : e.on < L.size
    · simp [hlt] at this
      rw [Array.getElem?_eq_getElem hlt, this]
    · simp [hlt] at this

end
section
variable {P : Program} {Q : Exit → Act → World → Prop} {l : List Oper}
/-- What is asked of a region's form. -/
def stgB2 (l : List Oper) (m : Nat) (st : List (List Nat × Nat)) (tl : List Nat) : Bool :=
  (l.mapIdx fun i (o : Oper) => o.after.all fun (e : Edge) => !Region.binds .any e || decide (e.on < i)).all (fun b => b) &&
  ((l.take m).all (fun (o : Oper) => match o.guard with | some (g, _) => decide (g < m) | none => true) &&
  (Region.lexB .any (l.take m).toArray &&
  ((List.range l.length).all (fun i => decide (i < m) || (List.range m).all (fun j => (ancS l.toArray i).getD j false)) &&
  (decide (m ≤ l.length) && (Region.noSelect l.toArray && (tl.all (fun t => decide (m ≤ t)) && okSt l.toArray tl st (Array.replicate m true ++ Array.replicate (l.length - m) false)))))))

theorem wp_region_stg2 {id : Nat} {a0 : Act} {w0 : World} (m : Nat) (st : List (List Nat × Nat)) (tl : List Nat) (C : World → Prop) (hm : P.follows .mixedOrders = true) (hB : stgB2 l m st tl = true)
    (hQ : ∀ (t : Option Tmp) (v : Value) c a w, Q (.panic c) (a.put t v) w → Q (.panic c) a w) (hC : C w0.drew)
    (h : wpQuiet P (l.take m).toArray C (fun a' => ∀ w', C w' → wpSt P l.toArray Q (tl.map (opAt l)) (stOf l st) C a' w') (l.take m) a0) : (Code.region id l.toArray true).wp P Q a0 w0 := by
  unfold stgB2 at hB
  simp only [Bool.and_eq_true, decide_eq_true_eq] at hB
  obtain ⟨hac, hgd, hlx, hanc, hml, hns, htm, hst⟩ := hB
  have hac' : ∀ (i : Nat) (o : Oper), l.toArray[i]? = some o → ∀ e : Edge, e ∈ o.after → Region.binds .any e = true → e.on < i := by
    intro i o hi e he hbd
    rw [List.all_eq_true] at hac
    have hi' : l[i]? = some o := by simpa using hi
    have := hac (o.after.all fun e => !Region.binds .any e || decide (e.on < i)) (by
      rw [List.mem_mapIdx]
      have hlt := (List.getElem?_eq_some_iff.1 hi').1
      refine ⟨i, hlt, ?_⟩
      have := (List.getElem?_eq_some_iff.1 hi').2
      simp [this])
    rw [Array.all_eq_true_iff_forall_mem] at this
    simpa [hbd] using this e he
  have hgd' : ∀ (i : Nat) (o : Oper), i < m → l[i]? = some o → ∀ g b, o.guard = some (g, b) → g < m := by
    intro i o hi ho g b hg
    rw [List.all_eq_true] at hgd
    have := hgd o (by
      have : (l.take m)[i]? = some o := by rw [List.getElem?_take, if_pos hi]; exact ho
      exact List.mem_of_getElem? this)
    rw [hg] at this
    simpa using this
  have hanc' : ∀ i, m ≤ i → i < l.length → ∀ j, j < m → (ancS l.toArray i).getD j false = true := by
    intro i h1 h2 j hj
    have := List.all_eq_true.1 hanc i (List.mem_range.2 h2)
    simp only [Bool.or_eq_true, decide_eq_true_eq] at this
    exact List.all_eq_true.1 (this.resolve_left (by omega)) j (List.mem_range.2 hj)
  refine wp_region_any hm ?_
  have hq : wpAnyQ P .any (l.take m).toArray C (fun a' => ∀ w', C w' → wpSt P l.toArray Q (tl.map (opAt l)) (stOf l st) C a' w') m (Array.replicate m false) a0 := by
    unfold Region.lexB at hlx
    rw [Bool.and_eq_true] at hlx
    have h1 : (l.take m).length = m := by rw [List.length_take]; omega
    have := wpAnyQ_lex (P := P) (C := C) (md := .any) hlx.1 (l.take m) 0 (Array.replicate m false) a0 (by simp) (by have := hlx.2; simp only [List.size_toArray, h1] at this; rw [h1]; exact this) h
    rw [h1] at this
    exact this
  have hfin : ∀ (L : Array Bool) (a' : Act) (w' : World), L.size = l.length → DC l.toArray L → (∀ j, j < m → L[j]? = some true) → (∀ j, m ≤ j → j < l.length → L[j]? = some false) → C w' →
      wpSt P l.toArray Q (tl.map (opAt l)) (stOf l st) C a' w' → ∃ f, wpAny P .any l.toArray Q f L a' w' := by
    intro L a' w' hsz hdc hT hF hC' hw
    have hL : L = Array.replicate m true ++ Array.replicate (l.length - m) false := by
      apply Array.ext_getElem?
      intro j
      rw [Array.getElem?_append, Array.getElem?_replicate, Array.getElem?_replicate, Array.size_replicate]
      by_cases hj : j < m
      · rw [if_pos hj, if_pos hj, hT j hj]
      · rw [if_neg hj]
        by_cases hjl : j < l.length
        · rw [if_pos (by omega), hF j (by omega) hjl]
        · rw [if_neg (by omega), Array.getElem?_eq_none (by omega)]
    have hnt : ∀ t ∈ tl, L.getD t false = false := by
      intro t ht
      have h1 := List.all_eq_true.1 htm t ht
      simp only [decide_eq_true_eq] at h1
      rw [Array.getD_eq_getD_getElem?]
      by_cases hjl : t < l.length
      · rw [hF t h1 hjl]; rfl
      · rw [Array.getElem?_eq_none (by omega)]; rfl
    rw [← hL] at hst
    exact ⟨_, wpK.any _ _ _ _ (okSt_sound (Region.noSelect_spec hns) hQ st C L a' w' hst hdc hnt hC' hw _ (Nat.le_refl _))⟩
  refine wpAny_invB hac' (fun L a w => DC l.toArray L ∧ (((∃ j, j < m ∧ L[j]? = some false) ∧ (∀ j, m ≤ j → j < l.length → L[j]? = some false) ∧ C w ∧ ∃ fuel, wpAnyQ P .any (l.take m).toArray C (fun a' => ∀ w', C w' → wpSt P l.toArray Q (tl.map (opAt l)) (stOf l st) C a' w') fuel (cutL L m) a) ∨
    (∃ f, wpAny P .any l.toArray Q f L a w))) ?_ ?_ _ _ _ _ (by simp) ?_ ?_
  · intro i o ho L a w hs hI hi he
    obtain ⟨hdc, hI⟩ := hI
    have hsz : L.size = l.length := by simpa using hs
    have ho' : l[i]? = some o := by simpa using ho
    have hil : i < l.length := (List.getElem?_eq_some_iff.1 ho').1
    have hrdy : i ∈ Region.ready .any l.toArray L := by
      rw [mem_ready]
      refine ⟨by rw [Array.getD_eq_getD_getElem?, hi]; rfl, o, ho, fun e h1 h2 => by rw [Array.getD_eq_getD_getElem?, he e h1 h2]; rfl⟩
    have hdcn := hdc.set hrdy
    rcases hI with ⟨⟨j0, hj0, hjf⟩, hfar, hCw, fuel, hf⟩ | ⟨f, hW⟩
    · have him : i < m := by
        rcases Nat.lt_or_ge i m with h1 | h1
        · exact h1
        · have := ancS_sound hdc (fun o' h2 e h3 h4 => by rw [ho] at h2; cases h2; rw [Array.getD_eq_getD_getElem?, he e h3 h4]; rfl) j0 (hanc' i h1 hil j0 hj0)
          rw [Array.getD_eq_getD_getElem?, hjf] at this
          cases this
      have hrd : i ∈ Region.ready .any (l.take m).toArray (cutL L m) := by
        rw [mem_ready]
        refine ⟨?_, o, by rw [take_get him]; exact ho', ?_⟩
        · rw [cutL_getD L m i _ him, Array.getD_eq_getD_getElem?, hi]; rfl
        · intro e h1 h2
          have h3 := hac' i o ho e h1 h2
          rw [cutL_getD L m e.on _ (by omega), Array.getD_eq_getD_getElem?, he e h1 h2]; rfl
      cases fuel with
      | zero => rw [hf.1] at hrd; cases hrd
      | succ fuel =>
        have hqo := hf.2 i hrd
        have hnext : ∀ (a' : Act) (w' : World), C w' → wpAnyQ P .any (l.take m).toArray C (fun a' => ∀ w', C w' → wpSt P l.toArray Q (tl.map (opAt l)) (stOf l st) C a' w') fuel ((cutL L m).setIfInBounds i true) a' →
            DC l.toArray (L.setIfInBounds i true) ∧ (((∃ j, j < m ∧ (L.setIfInBounds i true)[j]? = some false) ∧ (∀ j, m ≤ j → j < l.length → (L.setIfInBounds i true)[j]? = some false) ∧ C w' ∧ ∃ fuel, wpAnyQ P .any (l.take m).toArray C (fun a' => ∀ w', C w' → wpSt P l.toArray Q (tl.map (opAt l)) (stOf l st) C a' w') fuel (cutL (L.setIfInBounds i true) m) a') ∨
            (∃ f, wpAny P .any l.toArray Q f (L.setIfInBounds i true) a' w')) := by
          intro a' w' hC' hq'
          refine ⟨hdcn, ?_⟩
          have hfar' : ∀ j, m ≤ j → j < l.length → (L.setIfInBounds i true)[j]? = some false := by
            intro j h1 h2
            rw [Array.getElem?_setIfInBounds_ne (by omega)]
            exact hfar j h1 h2
          by_cases hall : ∃ j, j < m ∧ (L.setIfInBounds i true)[j]? = some false
          · exact .inl ⟨hall, hfar', hC', fuel, by rw [cutL_set]; exact hq'⟩
          · have hallT : ∀ j, j < m → (L.setIfInBounds i true)[j]? = some true := by
              intro j hj
              have hjl : j < (L.setIfInBounds i true).size := by simp; omega
              rw [Array.getElem?_eq_getElem hjl]
              cases hb : (L.setIfInBounds i true)[j] with
              | true => rfl
              | false => exact absurd ⟨j, hj, by rw [Array.getElem?_eq_getElem hjl, hb]⟩ hall
            have hnil : Region.ready .any (l.take m).toArray ((cutL L m).setIfInBounds i true) = [] := by
              rw [List.eq_nil_iff_forall_not_mem]
              intro j hj
              obtain ⟨h1, oj, h2, _⟩ := mem_ready.1 hj
              have hjm : j < m := by
                have := (Array.getElem?_eq_some_iff.1 h2).1
                simp only [List.size_toArray, List.length_take] at this
                omega
              rw [← cutL_set, cutL_getD _ m j _ hjm, Array.getD_eq_getD_getElem?, hallT j hjm] at h1
              cases h1
            refine .inr (hfin _ a' w' (by simpa using hsz) hdcn hallT hfar' hC' ?_)
            cases fuel with
            | zero => exact hq'.2 w' hC'
            | succ fuel => exact hq'.1 hnil w' hC'
        unfold qOp at hqo
        rw [take_get him, ho'] at hqo
        simp only [] at hqo
        rw [yielded_take l m a.tmps o (hgd' i o him ho')] at hqo
        unfold wpOp
        rw [ho]
        simp only []
        split
        · rename_i hw
          simp only [hw, if_true] at hqo
          exact .inl (Oper.wp_of_quiet hCw (fun a' w' h1 h2 => hnext a' w' h1 h2) hqo)
        · rename_i hw
          simp only [hw] at hqo
          exact hnext _ _ hCw hqo
    · cases f with
      | zero => rw [hW.1] at hrdy; cases hrdy
      | succ f => exact wpOp_mono (fun a' w' h' => ⟨hdcn, .inr ⟨f, h'⟩⟩) (hW.2 i hrdy)
  · intro L a w hall hI
    rcases hI.2 with ⟨⟨j0, hj0, hjf⟩, _⟩ | ⟨f, hW⟩
    · have := hall j0 (by simp; omega)
      rw [hjf] at this
      cases this
    · cases f with
      | zero => exact hW.2
      | succ f =>
        refine hW.1 ?_
        rw [List.eq_nil_iff_forall_not_mem]
        intro j hj
        obtain ⟨h1, oj, h2, _⟩ := mem_ready.1 hj
        rw [Array.getD_eq_getD_getElem?, hall j (Array.getElem?_eq_some_iff.1 h2).1] at h1
        cases h1
  · have hrep : ∀ j, j < l.length → (Array.replicate l.toArray.size false)[j]? = some false := by
      intro j hj
      rw [Array.getElem?_replicate, if_pos (by simpa using hj)]
    have hdc0 : DC l.toArray (Array.replicate l.toArray.size false) := by
      intro k o hk hl
      rw [Array.getD_eq_getD_getElem?, Array.getElem?_replicate] at hl
      split at hl <;> simp at hl
    refine ⟨hdc0, ?_⟩
    by_cases hm0 : m = 0
    · subst hm0
      have : wpQuiet P (l.take 0).toArray C (fun a' => ∀ w', C w' → wpSt P l.toArray Q (tl.map (opAt l)) (stOf l st) C a' w') [] a0 := h
      exact .inr (hfin _ a0 _ (by simp) hdc0 (fun j hj => by omega) (fun j _ hj => hrep j hj) hC (this _ hC))
    · refine .inl ⟨⟨0, by omega, hrep 0 (by omega)⟩, fun j _ hj => hrep j hj, hC, m, ?_⟩
      have : cutL (Array.replicate l.toArray.size false) m = Array.replicate m false := by
        unfold cutL
        rw [Array.toList_replicate, List.take_replicate]
        simp only [List.size_toArray, Nat.min_eq_left hml]
        exact List.toArray_replicate _ _
      rw [this]
      exact hq
  · unfold unlisted
    simp
end
end Go.Proofs.Ytngkmlchblgmeaa
