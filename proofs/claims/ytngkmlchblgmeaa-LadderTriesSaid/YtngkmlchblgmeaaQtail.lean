/-
  A region that draws its order: its first operations read (and call what keeps a class of worlds), those behind them each wait for all before: one walk in the order of the text, the last ones as in a region that draws nothing.
-/
import Derived.Test.YtngkmlchblgmeaaQreg
import Derived.Test.YtngkmlchblgmeaaReg
namespace Go.Proofs.Ytngkmlchblgmeaa
open Go.RowKit

section
variable {P : Program} {Q : Exit → Act → World → Prop}

def cutL (L : Array Bool) (m : Nat) : Array Bool := (L.toList.take m).toArray
theorem cutL_get (L : Array Bool) (m j : Nat) (h : j < m) : (cutL L m)[j]? = L[j]? := by
  unfold cutL; simp [List.getElem?_take, h]
theorem cutL_getD (L : Array Bool) (m j : Nat) (d : Bool) (h : j < m) : (cutL L m).getD j d = L.getD j d := by
  rw [Array.getD_eq_getD_getElem?, Array.getD_eq_getD_getElem?, cutL_get L m j h]
theorem cutL_set (L : Array Bool) (m i : Nat) : cutL (L.setIfInBounds i true) m = (cutL L m).setIfInBounds i true := by
  unfold cutL
  rw [Array.toList_setIfInBounds, List.setIfInBounds_toArray, List.take_set]
theorem take_get {l : List Oper} {m j : Nat} (h : j < m) : (l.take m).toArray[j]? = l[j]? := by
  simp [List.getElem?_take, h]
theorem yielded_take (l : List Oper) (m : Nat) (t : Array Value) (o : Oper) (hg : ∀ g b, o.guard = some (g, b) → g < m) :
    Region.wanted o (yielded (l.take m).toArray t) = Region.wanted o (yielded l.toArray t) := by
  unfold Region.wanted
  cases hgd : o.guard with
  | none => rfl
  | some gb =>
    obtain ⟨g, b⟩ := gb
    have hlt := hg g b hgd
    have : yielded (l.take m).toArray t g = yielded l.toArray t g := by
      unfold yielded
      rw [take_get hlt]
      simp
    simp only [this]
/-- What is asked of a region's form. -/
def qtailB (l : List Oper) (m : Nat) : Bool :=
  (l.mapIdx fun i (o : Oper) => o.after.all fun (e : Edge) => decide (e.on < i)).all (fun b => b) &&
  ((l.take m).all (fun (o : Oper) => match o.guard with | some (g, _) => decide (g < m) | none => true) &&
  (Region.lexB .any (l.take m).toArray &&
  ((List.range l.length).all (fun i => decide (i < m) || match l[i]? with | some o => (List.range i).all (fun j => o.after.any fun (e : Edge) => decide (e.on = j) && Region.binds .any e) | none => true) && decide (m ≤ l.length))))

theorem wp_region_qtail {id : Nat} {a0 : Act} {w0 : World} {l : List Oper} (m : Nat) (C : World → Prop) (hm : P.follows .mixedOrders = true) (hB : qtailB l m = true) (hC : C w0.drew)
    (h : wpQuiet P (l.take m).toArray C (fun a' => ∀ w', C w' → wpList P l.toArray Q (l.drop m) a' w') (l.take m) a0) : (Code.region id l.toArray true).wp P Q a0 w0 := by
  unfold qtailB at hB
  simp only [Bool.and_eq_true, decide_eq_true_eq] at hB
  obtain ⟨hac, hgd, hlx, htl, hml⟩ := hB
  have hac' : ∀ (i : Nat) (o : Oper), l.toArray[i]? = some o → ∀ e : Edge, e ∈ o.after → e.on < i := by
    intro i o hi e he
    rw [List.all_eq_true] at hac
    have hi' : l[i]? = some o := by simpa using hi
    have := hac (o.after.all fun e => decide (e.on < i)) (by
      rw [List.mem_mapIdx]
      have hlt := (List.getElem?_eq_some_iff.1 hi').1
      refine ⟨i, hlt, ?_⟩
      have := (List.getElem?_eq_some_iff.1 hi').2
      simp [this])
    rw [Array.all_eq_true_iff_forall_mem] at this
    simpa using this e he
  have hgd' : ∀ (i : Nat) (o : Oper), i < m → l[i]? = some o → ∀ g b, o.guard = some (g, b) → g < m := by
    intro i o hi ho g b hg
    rw [List.all_eq_true] at hgd
    have := hgd o (by
      have : (l.take m)[i]? = some o := by rw [List.getElem?_take, if_pos hi]; exact ho
      exact List.mem_of_getElem? this)
    rw [hg] at this
    simpa using this
  have htl' : ∀ (i : Nat) (o : Oper), m ≤ i → l[i]? = some o → ∀ j, j < i → ∃ e ∈ o.after, e.on = j ∧ Region.binds .any e = true := by
    intro i o hi ho j hj
    rw [List.all_eq_true] at htl
    have := htl i (List.mem_range.2 (List.getElem?_eq_some_iff.1 ho).1)
    rw [ho] at this
    simp only [Bool.or_eq_true, decide_eq_true_eq] at this
    have h2 := this.resolve_left (by omega)
    rw [List.all_eq_true] at h2
    have h3 := h2 j (List.mem_range.2 hj)
    rw [Array.any_eq_true] at h3
    obtain ⟨x, hx, hh⟩ := h3
    simp only [Bool.and_eq_true, decide_eq_true_eq] at hh
    exact ⟨_, Array.getElem_mem hx, hh.1, hh.2⟩
  refine wp_region_any hm ?_
  have hq : wpAnyQ P .any (l.take m).toArray C (fun a' => ∀ w', C w' → wpList P l.toArray Q (l.drop m) a' w') m (Array.replicate m false) a0 := by
    unfold Region.lexB at hlx
    rw [Bool.and_eq_true] at hlx
    have h1 : (l.take m).length = m := by rw [List.length_take]; omega
    have := wpAnyQ_lex (P := P) (C := C) (md := .any) hlx.1 (l.take m) 0 (Array.replicate m false) a0 (by simp) (by have := hlx.2; simp only [List.size_toArray, h1] at this; rw [h1]; exact this) h
    rw [h1] at this
    exact this
  refine wpAny_inv hac' (fun L a w => ((∃ j, j < m ∧ L[j]? = some false) ∧ (∀ j, m ≤ j → j < l.length → L[j]? = some false) ∧ C w ∧ ∃ fuel, wpAnyQ P .any (l.take m).toArray C (fun a' => ∀ w', C w' → wpList P l.toArray Q (l.drop m) a' w') fuel (cutL L m) a) ∨
    (∃ i, m ≤ i ∧ i ≤ l.length ∧ (∀ j, j < i → L[j]? = some true) ∧ (∀ j, i ≤ j → j < l.length → L[j]? = some false) ∧ wpList P l.toArray Q (l.drop i) a w)) ?_ ?_ _ _ _ _ (by simp) ?_ ?_
  · intro i o ho L a w hs hI hi he
    have hsz : L.size = l.length := by simpa using hs
    have ho' : l[i]? = some o := by simpa using ho
    have hil : i < l.length := (List.getElem?_eq_some_iff.1 ho').1
    rcases hI with ⟨⟨j0, hj0, hjf⟩, hfar, hCw, fuel, hf⟩ | ⟨i0, him, hin, hT, hF, hW⟩
    · have him : i < m := by
        rcases Nat.lt_or_ge i m with h1 | h1
        · exact h1
        · obtain ⟨e, h2, h3, h4⟩ := htl' i o h1 ho' j0 (by omega)
          have := he e h2 h4
          rw [h3, hjf] at this
          cases this
      have hrd : i ∈ Region.ready .any (l.take m).toArray (cutL L m) := by
        rw [mem_ready]
        refine ⟨?_, o, by rw [take_get him]; exact ho', ?_⟩
        · rw [cutL_getD L m i _ him, Array.getD_eq_getD_getElem?, hi]; rfl
        · intro e h1 h2
          have h3 := hac' i o ho e h1
          rw [cutL_getD L m e.on _ (by omega), Array.getD_eq_getD_getElem?, he e h1 h2]; rfl
      cases fuel with
      | zero => rw [hf.1] at hrd; cases hrd
      | succ fuel =>
        have hqo := hf.2 i hrd
        have hnext : ∀ (a' : Act) (w' : World), C w' → wpAnyQ P .any (l.take m).toArray C (fun a' => ∀ w', C w' → wpList P l.toArray Q (l.drop m) a' w') fuel ((cutL L m).setIfInBounds i true) a' →
            ((∃ j, j < m ∧ (L.setIfInBounds i true)[j]? = some false) ∧ (∀ j, m ≤ j → j < l.length → (L.setIfInBounds i true)[j]? = some false) ∧ C w' ∧ ∃ fuel, wpAnyQ P .any (l.take m).toArray C (fun a' => ∀ w', C w' → wpList P l.toArray Q (l.drop m) a' w') fuel (cutL (L.setIfInBounds i true) m) a') ∨
            (∃ i', m ≤ i' ∧ i' ≤ l.length ∧ (∀ j, j < i' → (L.setIfInBounds i true)[j]? = some true) ∧ (∀ j, i' ≤ j → j < l.length → (L.setIfInBounds i true)[j]? = some false) ∧ wpList P l.toArray Q (l.drop i') a' w') := by
          intro a' w' hC' hq'
          have hfar' : ∀ j, m ≤ j → j < l.length → (L.setIfInBounds i true)[j]? = some false := by
            intro j h1 h2
            rw [Array.getElem?_setIfInBounds_ne (by omega)]
            exact hfar j h1 h2
          by_cases hall : ∃ j, j < m ∧ (L.setIfInBounds i true)[j]? = some false
          · exact .inl ⟨hall, hfar', hC', fuel, by rw [cutL_set]; exact hq'⟩
          · refine .inr ⟨m, Nat.le_refl _, hml, ?_, hfar', ?_⟩
            · intro j hj
              have hjl : j < (L.setIfInBounds i true).size := by simp; omega
              rw [Array.getElem?_eq_getElem hjl]
              cases hb : (L.setIfInBounds i true)[j] with
              | true => rfl
              | false => exact absurd ⟨j, hj, by rw [Array.getElem?_eq_getElem hjl, hb]⟩ hall
            · have hnil : Region.ready .any (l.take m).toArray ((cutL L m).setIfInBounds i true) = [] := by
                rw [List.eq_nil_iff_forall_not_mem]
                intro j hj
                obtain ⟨h1, oj, h2, _⟩ := mem_ready.1 hj
                have hjm : j < m := by
                  have := (Array.getElem?_eq_some_iff.1 h2).1
                  simp only [List.size_toArray, List.length_take] at this
                  omega
                rw [← cutL_set, cutL_getD _ m j _ hjm, Array.getD_eq_getD_getElem?] at h1
                refine hall ⟨j, hjm, ?_⟩
                have hjl : j < (L.setIfInBounds i true).size := by simp; omega
                rw [Array.getElem?_eq_getElem hjl] at h1 ⊢
                simpa using h1
              cases fuel with
              | zero => exact hq'.2 w' hC'
              | succ fuel => exact hq'.1 hnil w' hC'
        unfold qOp at hqo
        rw [take_get him, ho'] at hqo
        simp only [] at hqo
        rw [yielded_take l m a.tmps o (hgd' i o him ho')] at hqo
        unfold wpOp
        rw [ho]
        simp only []
        split
        · rename_i hw
          simp only [hw, if_true] at hqo
          exact .inl (Oper.wp_of_quiet hCw (fun a' w' h1 h2 => hnext a' w' h1 h2) hqo)
        · rename_i hw
          simp only [hw] at hqo
          exact hnext _ _ hCw hqo
    · have hi0 : i = i0 := by
        rcases Nat.lt_trichotomy i i0 with h1 | h1 | h1
        · rw [hT i h1] at hi; cases hi
        · exact h1
        · obtain ⟨e, h2, h3, h4⟩ := htl' i o (by omega) ho' i0 h1
          have := he e h2 h4
          rw [h3, hF i0 (Nat.le_refl _) (by omega)] at this
          cases this
      subst hi0
      have hdr : l.drop i = o :: l.drop (i + 1) := by
        rw [List.drop_eq_getElem_cons hil]
        congr 1
        have := (List.getElem?_eq_some_iff.1 ho').2
        exact this
      rw [hdr] at hW
      have hK : ∀ (a' : Act) (w' : World), wpList P l.toArray Q (l.drop (i + 1)) a' w' →
          ((∃ j, j < m ∧ (L.setIfInBounds i true)[j]? = some false) ∧ (∀ j, m ≤ j → j < l.length → (L.setIfInBounds i true)[j]? = some false) ∧ C w' ∧ ∃ fuel, wpAnyQ P .any (l.take m).toArray C (fun a' => ∀ w', C w' → wpList P l.toArray Q (l.drop m) a' w') fuel (cutL (L.setIfInBounds i true) m) a') ∨
          (∃ i', m ≤ i' ∧ i' ≤ l.length ∧ (∀ j, j < i' → (L.setIfInBounds i true)[j]? = some true) ∧ (∀ j, i' ≤ j → j < l.length → (L.setIfInBounds i true)[j]? = some false) ∧ wpList P l.toArray Q (l.drop i') a' w') := by
        intro a' w' h1
        refine .inr ⟨i + 1, by omega, by omega, ?_, ?_, h1⟩
        · intro j hj
          by_cases hji : j = i
          · subst hji
            rw [Array.getElem?_setIfInBounds_self]
            simp; omega
          · rw [Array.getElem?_setIfInBounds_ne (by omega)]
            exact hT j (by omega)
        · intro j h2 h3
          rw [Array.getElem?_setIfInBounds_ne (by omega)]
          exact hF j (by omega) h3
      unfold wpList at hW
      unfold wpOp
      rw [ho]
      simp only []
      split
      · rename_i hw
        simp only [hw, if_true] at hW
        rcases hW with hW | hW
        · exact .inl (Oper.wp_mono hK hW)
        · exact .inr hW
      · rename_i hw
        simp only [hw] at hW
        exact hK _ _ hW
  · intro L a w hall hI
    rcases hI with ⟨⟨j0, hj0, hjf⟩, _⟩ | ⟨i0, him, hin, hT, hF, hW⟩
    · have := hall j0 (by simp; omega)
      rw [hjf] at this
      cases this
    · have : i0 = l.length := by
        rcases Nat.lt_or_ge i0 l.length with h1 | h1
        · have h2 := hF i0 (Nat.le_refl _) h1
          rw [hall i0 (by simpa using h1)] at h2
          cases h2
        · omega
      subst this
      rw [List.drop_length] at hW
      exact hW
  · have hrep : ∀ j, j < l.length → (Array.replicate l.toArray.size false)[j]? = some false := by
      intro j hj
      rw [Array.getElem?_replicate, if_pos (by simpa using hj)]
    by_cases hm0 : m = 0
    · subst hm0
      refine .inr ⟨0, Nat.le_refl _, Nat.zero_le _, fun j hj => by omega, fun j _ hj => hrep j hj, ?_⟩
      have : wpQuiet P (l.take 0).toArray C (fun a' => ∀ w', C w' → wpList P l.toArray Q (l.drop 0) a' w') [] a0 := h
      exact this _ hC
    · refine .inl ⟨⟨0, by omega, hrep 0 (by omega)⟩, fun j _ hj => hrep j hj, hC, m, ?_⟩
      have : cutL (Array.replicate l.toArray.size false) m = Array.replicate m false := by
        unfold cutL
        rw [Array.toList_replicate, List.take_replicate]
        simp only [List.size_toArray, Nat.min_eq_left hml]
        exact List.toArray_replicate _ _
      rw [this]
      exact hq
  · unfold unlisted
    simp
end
end Go.Proofs.Ytngkmlchblgmeaa
