/-
  As XQstg; edges that bind in the text's order alone may point ahead.
  log.fits, Log.lay, Log.wipe.
  slices.Grow and Concat of records (three rows, the middle one may be empty), slices.Clone of records.
  A device: Lock, Rot, Wear.
  A device: Rot, Wear.
-/
import Derived.Test.YtngkmlchblgmeaaPak8
import Derived.Test.YtngkmlchblgmeaaPak6
import Derived.Lib.AppendZeros
import Derived.Test.YtngkmlchblgmeaaPak2
import Derived.Laws.BitsAllLaws
import Derived.Test.YtngkmlchblgmeaaPak1
namespace Go.Proofs.Ytngkmlchblgmeaa
open Go.RowKit

section
variable {P : Program} {ops : Array Oper} {Q : Exit → Act → World → Prop}
theorem ready_nilB (hac : ∀ (i : Nat) (o : Oper), ops[i]? = some o → ∀ e : Edge, e ∈ o.after → Region.binds .any e = true → e.on < i) (L : Array Bool) (hs : L.size = ops.size) (h : Region.ready .any ops L = []) :
    ∀ i, i < ops.size → L[i]? = some true := by
  intro i
  induction i using Nat.strongRecOn with
  | ind i ih =>
    intro hi
    have hL : i < L.size := by omega
    have hm : i ∉ Region.ready .any ops L := by rw [h]; simp
    unfold Region.ready at hm
    rw [List.mem_filter] at hm
    simp only [List.mem_range, hi, true_and] at hm
    have ho : ops[i]? = some ops[i] := Array.getElem?_eq_getElem hi
    rw [ho] at hm
    simp only [Option.map_some, Option.getD_some, Bool.and_eq_true, Bool.not_eq_eq_eq_not, Bool.not_true] at hm
    cases hb : L[i] with
    | true => rw [Array.getElem?_eq_getElem hL, hb]
    | false =>
      exfalso
      apply hm
      refine ⟨by simp [hL, hb], ?_⟩
      rw [Array.all_eq_true_iff_forall_mem]
      intro e he
      cases hb : Region.binds .any e with
      | false => simp
      | true =>
        have h1 := hac i _ ho e he hb
        have h2 := ih e.on h1 (by omega)
        have : L.getD e.on false = true := by rw [Array.getD_eq_getD_getElem?, h2]; rfl
        simp [this]

theorem wpAny_invB (hac : ∀ (i : Nat) (o : Oper), ops[i]? = some o → ∀ e : Edge, e ∈ o.after → Region.binds .any e = true → e.on < i) (I : Array Bool → Act → World → Prop)
    (hstep : ∀ (i : Nat) (o : Oper), ops[i]? = some o → ∀ L a w, L.size = ops.size → I L a w → L[i]? = some false → (∀ e ∈ o.after, Region.binds .any e = true → L[e.on]? = some true) →
      wpOp P ops Q i (fun a' w' => I (L.setIfInBounds i true) a' w') a w)
    (hend : ∀ L a w, (∀ i, i < ops.size → L[i]? = some true) → I L a w → Q .normal a w) :
    ∀ fuel L a w, L.size = ops.size → I L a w → unlisted L ≤ fuel → wpAny P .any ops Q fuel L a w := by
  intro fuel
  induction fuel with
  | zero =>
    intro L a w hs hI hu
    have hall : ∀ i, i < ops.size → L[i]? = some true := by
      intro i hi
      rw [Array.getElem?_eq_getElem (by omega)]
      cases hb : L[i]'(by omega) with
      | true => rfl
      | false =>
        have : unlisted L = 0 := by omega
        have := unlisted_set L i (by rw [Array.getElem?_eq_getElem (by omega), hb])
        omega
    refine ⟨?_, hend L a w hall hI⟩
    unfold Region.ready
    rw [List.filter_eq_nil_iff]
    intro i hi
    simp only [List.mem_range] at hi
    have h1 := hall i hi
    have h2 : L.getD i true = true := by rw [Array.getD_eq_getD_getElem?, h1]; rfl
    rw [h2]; simp
  | succ fuel ih =>
    intro L a w hs hI hu
    refine ⟨fun hr => hend L a w (ready_nilB hac L hs hr) hI, ?_⟩
    intro i hi
    unfold Region.ready at hi
    rw [List.mem_filter] at hi
    simp only [List.mem_range] at hi
    obtain ⟨hi1, hi2⟩ := hi
    have ho : ops[i]? = some ops[i] := Array.getElem?_eq_getElem hi1
    rw [ho] at hi2
    simp only [Option.map_some, Option.getD_some, Bool.and_eq_true] at hi2
    obtain ⟨hl, hd⟩ := hi2
    have hlf : L[i]? = some false := by
      rw [Array.getElem?_eq_getElem (by omega)]
      cases hb : L[i]'(by omega) with
      | false => rfl
      | true => simp [hs, hi1, hb] at hl
    refine wpOp_mono (fun a' w' hI' => ih _ a' w' (by simp [hs]) hI' (by have := unlisted_set L i hlf; omega)) (hstep i _ ho L a w hs hI hlf ?_)
    intro e he hb
    rw [Array.all_eq_true_iff_forall_mem] at hd
    have := hd e he
    simp only [hb, Bool.not_true, Bool.false_or] at this
    by_cases hlt : e.on < L.size
    · simp [hlt] at this
      rw [Array.getElem?_eq_getElem hlt, this]
    · simp [hlt] at this

end
section
variable {P : Program} {Q : Exit → Act → World → Prop} {l : List Oper}
/-- What is asked of a region's form. -/
def stgB2 (l : List Oper) (m : Nat) (st : List (List Nat × Nat)) (tl : List Nat) : Bool :=
  (l.mapIdx fun i (o : Oper) => o.after.all fun (e : Edge) => !Region.binds .any e || decide (e.on < i)).all (fun b => b) &&
  ((l.take m).all (fun (o : Oper) => match o.guard with | some (g, _) => decide (g < m) | none => true) &&
  (Region.lexB .any (l.take m).toArray &&
  ((List.range l.length).all (fun i => decide (i < m) || (List.range m).all (fun j => (ancS l.toArray i).getD j false)) &&
  (decide (m ≤ l.length) && (Region.noSelect l.toArray && (tl.all (fun t => decide (m ≤ t)) && okSt l.toArray tl st (Array.replicate m true ++ Array.replicate (l.length - m) false)))))))

theorem wp_region_stg2 {id : Nat} {a0 : Act} {w0 : World} (m : Nat) (st : List (List Nat × Nat)) (tl : List Nat) (C : World → Prop) (hm : P.follows .mixedOrders = true) (hB : stgB2 l m st tl = true)
    (hQ : ∀ (t : Option Tmp) (v : Value) c a w, Q (.panic c) (a.put t v) w → Q (.panic c) a w) (hC : C w0.drew)
    (h : wpQuiet P (l.take m).toArray C (fun a' => ∀ w', C w' → wpSt P l.toArray Q (tl.map (opAt l)) (stOf l st) C a' w') (l.take m) a0) : (Code.region id l.toArray true).wp P Q a0 w0 := by
  unfold stgB2 at hB
  simp only [Bool.and_eq_true, decide_eq_true_eq] at hB
  obtain ⟨hac, hgd, hlx, hanc, hml, hns, htm, hst⟩ := hB
  have hac' : ∀ (i : Nat) (o : Oper), l.toArray[i]? = some o → ∀ e : Edge, e ∈ o.after → Region.binds .any e = true → e.on < i := by
    intro i o hi e he hbd
    rw [List.all_eq_true] at hac
    have hi' : l[i]? = some o := by simpa using hi
    have := hac (o.after.all fun e => !Region.binds .any e || decide (e.on < i)) (by
      rw [List.mem_mapIdx]
      have hlt := (List.getElem?_eq_some_iff.1 hi').1
      refine ⟨i, hlt, ?_⟩
      have := (List.getElem?_eq_some_iff.1 hi').2
      simp [this])
    rw [Array.all_eq_true_iff_forall_mem] at this
    simpa [hbd] using this e he
  have hgd' : ∀ (i : Nat) (o : Oper), i < m → l[i]? = some o → ∀ g b, o.guard = some (g, b) → g < m := by
    intro i o hi ho g b hg
    rw [List.all_eq_true] at hgd
    have := hgd o (by
      have : (l.take m)[i]? = some o := by rw [List.getElem?_take, if_pos hi]; exact ho
      exact List.mem_of_getElem? this)
    rw [hg] at this
    simpa using this
  have hanc' : ∀ i, m ≤ i → i < l.length → ∀ j, j < m → (ancS l.toArray i).getD j false = true := by
    intro i h1 h2 j hj
    have := List.all_eq_true.1 hanc i (List.mem_range.2 h2)
    simp only [Bool.or_eq_true, decide_eq_true_eq] at this
    exact List.all_eq_true.1 (this.resolve_left (by omega)) j (List.mem_range.2 hj)
  refine wp_region_any hm ?_
  have hq : wpAnyQ P .any (l.take m).toArray C (fun a' => ∀ w', C w' → wpSt P l.toArray Q (tl.map (opAt l)) (stOf l st) C a' w') m (Array.replicate m false) a0 := by
    unfold Region.lexB at hlx
    rw [Bool.and_eq_true] at hlx
    have h1 : (l.take m).length = m := by rw [List.length_take]; omega
    have := wpAnyQ_lex (P := P) (C := C) (md := .any) hlx.1 (l.take m) 0 (Array.replicate m false) a0 (by simp) (by have := hlx.2; simp only [List.size_toArray, h1] at this; rw [h1]; exact this) h
    rw [h1] at this
    exact this
  have hfin : ∀ (L : Array Bool) (a' : Act) (w' : World), L.size = l.length → DC l.toArray L → (∀ j, j < m → L[j]? = some true) → (∀ j, m ≤ j → j < l.length → L[j]? = some false) → C w' →
      wpSt P l.toArray Q (tl.map (opAt l)) (stOf l st) C a' w' → ∃ f, wpAny P .any l.toArray Q f L a' w' := by
    intro L a' w' hsz hdc hT hF hC' hw
    have hL : L = Array.replicate m true ++ Array.replicate (l.length - m) false := by
      apply Array.ext_getElem?
      intro j
      rw [Array.getElem?_append, Array.getElem?_replicate, Array.getElem?_replicate, Array.size_replicate]
      by_cases hj : j < m
      · rw [if_pos hj, if_pos hj, hT j hj]
      · rw [if_neg hj]
        by_cases hjl : j < l.length
        · rw [if_pos (by omega), hF j (by omega) hjl]
        · rw [if_neg (by omega), Array.getElem?_eq_none (by omega)]
    have hnt : ∀ t ∈ tl, L.getD t false = false := by
      intro t ht
      have h1 := List.all_eq_true.1 htm t ht
      simp only [decide_eq_true_eq] at h1
      rw [Array.getD_eq_getD_getElem?]
      by_cases hjl : t < l.length
      · rw [hF t h1 hjl]; rfl
      · rw [Array.getElem?_eq_none (by omega)]; rfl
    rw [← hL] at hst
    exact ⟨_, wpK.any _ _ _ _ (okSt_sound (Region.noSelect_spec hns) hQ st C L a' w' hst hdc hnt hC' hw _ (Nat.le_refl _))⟩
  refine wpAny_invB hac' (fun L a w => DC l.toArray L ∧ (((∃ j, j < m ∧ L[j]? = some false) ∧ (∀ j, m ≤ j → j < l.length → L[j]? = some false) ∧ C w ∧ ∃ fuel, wpAnyQ P .any (l.take m).toArray C (fun a' => ∀ w', C w' → wpSt P l.toArray Q (tl.map (opAt l)) (stOf l st) C a' w') fuel (cutL L m) a) ∨
    (∃ f, wpAny P .any l.toArray Q f L a w))) ?_ ?_ _ _ _ _ (by simp) ?_ ?_
  · intro i o ho L a w hs hI hi he
    obtain ⟨hdc, hI⟩ := hI
    have hsz : L.size = l.length := by simpa using hs
    have ho' : l[i]? = some o := by simpa using ho
    have hil : i < l.length := (List.getElem?_eq_some_iff.1 ho').1
    have hrdy : i ∈ Region.ready .any l.toArray L := by
      rw [mem_ready]
      refine ⟨by rw [Array.getD_eq_getD_getElem?, hi]; rfl, o, ho, fun e h1 h2 => by rw [Array.getD_eq_getD_getElem?, he e h1 h2]; rfl⟩
    have hdcn := hdc.set hrdy
    rcases hI with ⟨⟨j0, hj0, hjf⟩, hfar, hCw, fuel, hf⟩ | ⟨f, hW⟩
    · have him : i < m := by
        rcases Nat.lt_or_ge i m with h1 | h1
        · exact h1
        · have := ancS_sound hdc (fun o' h2 e h3 h4 => by rw [ho] at h2; cases h2; rw [Array.getD_eq_getD_getElem?, he e h3 h4]; rfl) j0 (hanc' i h1 hil j0 hj0)
          rw [Array.getD_eq_getD_getElem?, hjf] at this
          cases this
      have hrd : i ∈ Region.ready .any (l.take m).toArray (cutL L m) := by
        rw [mem_ready]
        refine ⟨?_, o, by rw [take_get him]; exact ho', ?_⟩
        · rw [cutL_getD L m i _ him, Array.getD_eq_getD_getElem?, hi]; rfl
        · intro e h1 h2
          have h3 := hac' i o ho e h1 h2
          rw [cutL_getD L m e.on _ (by omega), Array.getD_eq_getD_getElem?, he e h1 h2]; rfl
      cases fuel with
      | zero => rw [hf.1] at hrd; cases hrd
      | succ fuel =>
        have hqo := hf.2 i hrd
        have hnext : ∀ (a' : Act) (w' : World), C w' → wpAnyQ P .any (l.take m).toArray C (fun a' => ∀ w', C w' → wpSt P l.toArray Q (tl.map (opAt l)) (stOf l st) C a' w') fuel ((cutL L m).setIfInBounds i true) a' →
            DC l.toArray (L.setIfInBounds i true) ∧ (((∃ j, j < m ∧ (L.setIfInBounds i true)[j]? = some false) ∧ (∀ j, m ≤ j → j < l.length → (L.setIfInBounds i true)[j]? = some false) ∧ C w' ∧ ∃ fuel, wpAnyQ P .any (l.take m).toArray C (fun a' => ∀ w', C w' → wpSt P l.toArray Q (tl.map (opAt l)) (stOf l st) C a' w') fuel (cutL (L.setIfInBounds i true) m) a') ∨
            (∃ f, wpAny P .any l.toArray Q f (L.setIfInBounds i true) a' w')) := by
          intro a' w' hC' hq'
          refine ⟨hdcn, ?_⟩
          have hfar' : ∀ j, m ≤ j → j < l.length → (L.setIfInBounds i true)[j]? = some false := by
            intro j h1 h2
            rw [Array.getElem?_setIfInBounds_ne (by omega)]
            exact hfar j h1 h2
          by_cases hall : ∃ j, j < m ∧ (L.setIfInBounds i true)[j]? = some false
          · exact .inl ⟨hall, hfar', hC', fuel, by rw [cutL_set]; exact hq'⟩
          · have hallT : ∀ j, j < m → (L.setIfInBounds i true)[j]? = some true := by
              intro j hj
              have hjl : j < (L.setIfInBounds i true).size := by simp; omega
              rw [Array.getElem?_eq_getElem hjl]
              cases hb : (L.setIfInBounds i true)[j] with
              | true => rfl
              | false => exact absurd ⟨j, hj, by rw [Array.getElem?_eq_getElem hjl, hb]⟩ hall
            have hnil : Region.ready .any (l.take m).toArray ((cutL L m).setIfInBounds i true) = [] := by
              rw [List.eq_nil_iff_forall_not_mem]
              intro j hj
              obtain ⟨h1, oj, h2, _⟩ := mem_ready.1 hj
              have hjm : j < m := by
                have := (Array.getElem?_eq_some_iff.1 h2).1
                simp only [List.size_toArray, List.length_take] at this
                omega
              rw [← cutL_set, cutL_getD _ m j _ hjm, Array.getD_eq_getD_getElem?, hallT j hjm] at h1
              cases h1
            refine .inr (hfin _ a' w' (by simpa using hsz) hdcn hallT hfar' hC' ?_)
            cases fuel with
            | zero => exact hq'.2 w' hC'
            | succ fuel => exact hq'.1 hnil w' hC'
        unfold qOp at hqo
        rw [take_get him, ho'] at hqo
        simp only [] at hqo
        rw [yielded_take l m a.tmps o (hgd' i o him ho')] at hqo
        unfold wpOp
        rw [ho]
        simp only []
        split
        · rename_i hw
          simp only [hw, if_true] at hqo
          exact .inl (Oper.wp_of_quiet hCw (fun a' w' h1 h2 => hnext a' w' h1 h2) hqo)
        · rename_i hw
          simp only [hw] at hqo
          exact hnext _ _ hCw hqo
    · cases f with
      | zero => rw [hW.1] at hrdy; cases hrdy
      | succ f => exact wpOp_mono (fun a' w' h' => ⟨hdcn, .inr ⟨f, h'⟩⟩) (hW.2 i hrdy)
  · intro L a w hall hI
    rcases hI.2 with ⟨⟨j0, hj0, hjf⟩, _⟩ | ⟨f, hW⟩
    · have := hall j0 (by simp; omega)
      rw [hjf] at this
      cases this
    · cases f with
      | zero => exact hW.2
      | succ f =>
        refine hW.1 ?_
        rw [List.eq_nil_iff_forall_not_mem]
        intro j hj
        obtain ⟨h1, oj, h2, _⟩ := mem_ready.1 hj
        rw [Array.getD_eq_getD_getElem?, hall j (Array.getElem?_eq_some_iff.1 h2).1] at h1
        cases h1
  · have hrep : ∀ j, j < l.length → (Array.replicate l.toArray.size false)[j]? = some false := by
      intro j hj
      rw [Array.getElem?_replicate, if_pos (by simpa using hj)]
    have hdc0 : DC l.toArray (Array.replicate l.toArray.size false) := by
      intro k o hk hl
      rw [Array.getD_eq_getD_getElem?, Array.getElem?_replicate] at hl
      split at hl <;> simp at hl
    refine ⟨hdc0, ?_⟩
    by_cases hm0 : m = 0
    · subst hm0
      have : wpQuiet P (l.take 0).toArray C (fun a' => ∀ w', C w' → wpSt P l.toArray Q (tl.map (opAt l)) (stOf l st) C a' w') [] a0 := h
      exact .inr (hfin _ a0 _ (by simp) hdc0 (fun j hj => by omega) (fun j _ hj => hrep j hj) hC (this _ hC))
    · refine .inl ⟨⟨0, by omega, hrep 0 (by omega)⟩, fun j _ hj => hrep j hj, hC, m, ?_⟩
      have : cutL (Array.replicate l.toArray.size false) m = Array.replicate m false := by
        unfold cutL
        rw [Array.toList_replicate, List.take_replicate]
        simp only [List.size_toArray, Nat.min_eq_left hml]
        exact List.toArray_replicate _ _
      rw [this]
      exact hq
  · unfold unlisted
    simp
end
end Go.Proofs.Ytngkmlchblgmeaa

namespace Tri
open Go Go.RowKit Go.Proofs.Ytngkmlchblgmeaa
def fitB (r : RecI) : Bool := recOk r.k r.s 0 r.v && decide (r.k < 126)
/-- What is wrong with base records. -/
def fitsE (l : List RecI) : Int := if l.all fitB then (if 12 < l.length then 9 else 0) else 1
/-- A page is laid in both copies. -/
def layS (s : FS) (h n : Nat) (pg : List Nat) : FS × Nat :=
  if s.progE 27 (placeAt h 0 n : Nat) pg ≠ 0 then (s.prog 27 (placeAt h 0 n : Nat) pg, s.progE 27 (placeAt h 0 n : Nat) pg)
  else ((s.prog 27 (placeAt h 0 n : Nat) pg).prog 27 (placeAt h 1 n : Nat) pg, (s.prog 27 (placeAt h 0 n : Nat) pg).progE 27 (placeAt h 1 n : Nat) pg)
def sect (h m : Nat) : Nat := halfAt h (m / 4) + m % 4
def wipeN (s : FS) (h : Nat) : Nat → FS × Nat
  | 0 => (s, 0)
  | m + 1 => if (wipeN s h m).2 ≠ 0 then wipeN s h m else ((wipeN s h m).1.erase 27 (sect h m : Nat), (wipeN s h m).1.eraseE 27 (sect h m : Nat))
theorem wipeN_stop {s : FS} {h m : Nat} (hm : (wipeN s h m).2 ≠ 0) : ∀ n, m ≤ n → wipeN s h n = wipeN s h m := by
  intro n hn
  induction n with
  | zero => rw [show m = 0 from by omega]
  | succ n ih =>
    by_cases he : m = n + 1
    · rw [he]
    · have := ih (by omega)
      rw [wipeN, this, if_pos hm]
/-- A log's block and its sums, outside of the device. -/
structure LW (i : DI) (L S : Nat) (cs : Array Value) (w : World) : Prop where
  hL : Blk w L 102 cs
  hS : isC w S
  hLo : L < i.lo ∨ i.hi ≤ L
  hSo : S < i.lo ∨ i.hi ≤ S
theorem LW.below {i : DI} {L S : Nat} {cs : Array Value} {w w' : World} (h : LW i L S cs w) (hb : Below w.heap.size w w') : LW i L S cs w' := ⟨h.hL.below hb, h.hS.below hb h.hS.lt, h.hLo, h.hSo⟩
theorem LW.out {i : DI} {L S : Nat} {cs : Array Value} {w w' : World} (h : LW i L S cs w) (ho : Out i.lo i.hi w w') : LW i L S cs w' := ⟨h.hL.outS ho h.hLo, isC.out h.hS ho h.hSo, h.hLo, h.hSo⟩
end Tri
namespace Go.Proofs.Ytngkmlchblgmeaa
open Go.RowKit Tri

theorem fitsE_take (l : List RecI) (k : Nat) (h : k < l.length) : (l.take (k + 1)).all fitB = ((l.take k).all fitB && fitB l[k]) := by
  rw [List.take_succ_eq_append_getElem h, List.all_append]
  simp
set_option maxHeartbeats 4000000 in
set_option maxRecDepth 100000 in
theorem log_fits (a : Option Addr) (len cap : Nat) (l : List RecI) (w : World) (hl : len = l.length) (h100 : l.length ≤ 100000) (hlc : len ≤ cap) (hc : cellsG w a 4 (l.map rcC)) :
    Calls Try.prog 49 #[.slice a len cap] w fun e w' => e = .returned (.int .i64 (fitsE l)) ∧ Below w.heap.size w w' := by
  subst hl
  have HC := hid hc
  clear hc
  (go_enter Try.func49, Try.ntmps49; try simp only [List.append])
  go_wp2_with ((with_reducible refine wpList_unguard ?_ ?_); (focus rfl))
  go_loopw [7] (fun v wr => ∃ k : Nat, k ≤ l.length ∧ v = .int .i64 k ∧ (l.take k).all fitB = true ∧ Below w.heap.size w wr) (fun v _ => l.length - (intOf v).toNat)
  case atStart => exact ⟨0, Nat.zero_le _, rfl, rfl, Below.refl _ _⟩
  case round =>
    obtain ⟨k, hk, rfl, ht, hB⟩ := hrel
    have HT := hid ht
    have HB := hid hB
    clear ht hB
    by_cases hlt : k < l.length
    · have HS := hid (fitsE_take l k hlt)
      have HAll : Hid (fitB l[k] = false → fitsE l = 1) := by
        intro h
        unfold fitsE
        rw [if_neg]
        rw [List.all_eq_true]
        intro hh
        rw [hh l[k] (List.getElem_mem hlt)] at h
        cases h
      obtain ⟨b, o, rfl, g0, g1, g2, g3⟩ := recs_at (HC.out.below HB.out) k hlt
      generalize l[k] = r at *
      have hA : Below wr.heap.size wr (wr.alloc (.cells #[.int .i64 r.k, .int .i64 r.s, .int .i64 0, .int .i64 r.v] 37)) := (Below.refl _ _).alloc (Nat.le_refl _) _
      have hR : R4 (wr.alloc (.cells #[.int .i64 r.k, .int .i64 r.s, .int .i64 0, .int .i64 r.v] 37)) wr.heap.size r.k r.s 0 r.v := heap_alloc_new wr _
      have HR2 := hid hR
      have HF : Hid (fitB r = (recOk r.k r.s 0 r.v && decide (r.k < 126))) := rfl
      have HRI := fun w => hid (rec_Right r.k r.s 0 r.v w)
      generalize recOk r.k r.s 0 r.v = x1 at *
      obtain ⟨x2, hx2⟩ : ∃ x, decide (126 ≤ r.k) = x := ⟨_, rfl⟩
      have HF2 : Hid (fitB r = (x1 && !x2)) := by
        show _ = _
        rw [HF.out, ← hx2]
        congr 1
        rw [Bool.eq_iff_iff]; simp
      replace HB := hid (HB.out.trans (hA.mono HB.out.size))
      clear hA hR HF
      go_wp2_with ((with_reducible refine wpList_unguard ?_ ?_); (focus rfl))
      clear g0 g1 g2 g3
      generalize wr.alloc (.cells #[.int .i64 r.k, .int .i64 r.s, .int .i64 0, .int .i64 r.v] 37) = w4 at *
      refine Calls.mono (HRI _).out ?_; rintro e w5 ⟨rfl, hb⟩
      replace HR2 := hid (HR2.out.below hb)
      (replace HB := hid (HB.out.trans (hb.mono HB.out.size)); clear hb)
      have c0 := HR2.out.c0
      cases x1 with
      | false =>
        go_wp2_with ((with_reducible refine wpList_unguard ?_ ?_); (focus rfl))
        go_ret
        exact ⟨by rw [HAll.out (by rw [HF2.out]; rfl)]; rfl, HB.out⟩
      | true =>
        cases x2 with
        | true =>
          go_wp2_with ((with_reducible refine wpList_unguard ?_ ?_); (focus rfl))
          go_ret
          exact ⟨by rw [HAll.out (by rw [HF2.out]; rfl)]; rfl, HB.out⟩
        | false =>
          go_wp2_with ((with_reducible refine wpList_unguard ?_ ?_); (focus rfl))
          go_roundw
          case rel => exact ⟨k + 1, by omega, by go_num, by rw [HS.out, HT.out, HF2.out]; rfl, HB.out⟩
          case measure => simp [intOf]; omega
    · have hTl : (l.take k) = l := List.take_of_length_le (by omega)
      have hAl : l.all fitB = true := by have := HT.out; rw [hTl] at this; exact this
      by_cases h12 : (12 : Int) < (l.length : Int)
      · have q : decide ((12 : Int) < (l.length : Int)) = true := decide_eq_true h12
        have HF : Hid (fitsE l = 9) := by show _ = _; unfold fitsE; rw [if_pos hAl, if_pos (by omega)]
        clear hTl hAl
        go_wp2_with ((with_reducible refine wpList_unguard ?_ ?_); (focus rfl))
        go_ret
        exact ⟨by rw [HF.out]; rfl, HB.out⟩
      · have q : decide ((12 : Int) < (l.length : Int)) = false := decide_eq_false h12
        have HF : Hid (fitsE l = 0) := by show _ = _; unfold fitsE; rw [if_pos hAl, if_neg (by omega)]
        clear hTl hAl
        go_wp2_with ((with_reducible refine wpList_unguard ?_ ?_); (focus rfl))
        go_ret
        exact ⟨by rw [HF.out]; rfl, HB.out⟩
theorem recOk_nat {k s n v : Int} (h : recOk k s n v = true) : ∃ k' s' n' v' : Nat, k = k' ∧ s = s' ∧ n = n' ∧ v = v' ∧ k' ≤ 127 ∧ s' ≤ 3 ∧ n' ≤ 65535 ∧ v' ≤ 281474976710655 := by
  unfold recOk at h
  simp only [Bool.and_eq_true, decide_eq_true_eq] at h
  exact ⟨k.toNat, s.toNat, n.toNat, v.toNat, by omega, by omega, by omega, by omega, by omega, by omega, by omega, by omega⟩
set_option maxHeartbeats 4000000 in
set_option maxRecDepth 100000 in
/-- A record that may not be is not laid. -/
theorem log_lay_bad (i : DI) (L S : Nat) (at_ : Nat) (rs : Value) (gen used : Int) (holds clean : Bool) (hf n : Nat) (k sl nn v : Int) (w : World) (hW : LW i L S (logC i.D S at_ rs gen used holds clean) w) (hok : recOk k sl n v = false) :
    Calls Try.prog 54 #[.pointer (some ⟨L, 0, none⟩), .int .i64 hf, .int .i64 n, .agg #[.int .i64 k, .int .i64 sl, .int .i64 nn, .int .i64 v]] w fun e w' => e = .returned (.int .i64 1) ∧ Below w.heap.size w w' := by
  have hA : Below w.heap.size w (w.alloc (.cells #[.int .i64 k, .int .i64 sl, .int .i64 n, .int .i64 v] 37)) := (Below.refl _ _).alloc (Nat.le_refl _) _
  have hR : R4 (w.alloc (.cells #[.int .i64 k, .int .i64 sl, .int .i64 n, .int .i64 v] 37)) w.heap.size k sl n v := heap_alloc_new w _
  have HR := hid hR
  have HL := hid (hW.below hA)
  have HB := hid hA
  have HOK := hid hok
  clear hA hR hW hok
  (go_enter Try.func54, Try.ntmps54; try simp only [List.append])
  go_wp2_with ((with_reducible refine wpList_unguard ?_ ?_); (focus rfl))
  generalize w.alloc (.cells #[.int .i64 k, .int .i64 sl, .int .i64 n, .int .i64 v] 37) = w1 at *
  (refine wp_region_quietC (fun w' => Below (w1).heap.size w1 w') (by kernel_rfl) (by kernel_rfl) ((Below.refl _ _).drew) ?_; (repeat (first | go_big_quiet_skip | (go_big_quiet_want; first | (go_big_quiet_op; go_big_quiet_on) | (apply Exists.intro; refine And.intro (fun wq hq => ?_) ?_; (focus ((have q9 := (HL.out.hL.below hq).cell 9 _ rfl; have c0 := (HR.out.below hq).c0; have c1 := (HR.out.below hq).c1; have c2 := (HR.out.below hq).c2; have c3 := (HR.out.below hq).c3); (try go_simp); first | done | rfl | ((refine Calls.mono (rec_Put_bad wq S k sl n v wq ⟨Below.refl _ _, HL.out.hS.below hq HL.out.hS.lt⟩ HOK.out) ?_; rintro e w6 ⟨rfl, hk⟩; exact ⟨rfl, hq.trans (hk.1.mono hq.size)⟩)))); go_simp; go_big_quiet_on)))); refine quietC_nil _ rfl ?_; intro wE hE)
  have HBE := hid (HB.out.trans (hE.mono HB.out.size))
  clear hE
  go_wp2_with ((with_reducible refine wpList_unguard ?_ ?_); (focus rfl))
  go_ret
  exact ⟨rfl, HBE.out⟩
set_option maxHeartbeats 8000000 in
set_option maxRecDepth 100000 in
theorem log_lay (i : DI) (s : FS) (L S : Nat) (at_ : Nat) (rs : Value) (gen used : Int) (holds clean : Bool) (hf n : Nat) (k sl v : Nat) (nn : Int) (w : World) (hD : DevP w i 27 s) (hW : LW i L S (logC i.D S at_ rs gen used holds clean) w) (hok : recOk k sl n v = true) (hh : hf < 2) (hn : n < 16) :
    Calls Try.prog 54 #[.pointer (some ⟨L, 0, none⟩), .int .i64 hf, .int .i64 n, .agg #[.int .i64 k, .int .i64 sl, .int .i64 nn, .int .i64 v]] w fun e w' =>
      e = .returned (.int .i64 (((layS s hf n (recP k sl n v)).2 : Nat) : Int)) ∧ DevP w' i 27 (layS s hf n (recP k sl n v)).1 ∧ Out i.lo i.hi w w' := by
  obtain ⟨ok1, ok2, ok3, ok4⟩ := recOk_iff.1 hok
  have hA : Below w.heap.size w (w.alloc (.cells #[.int .i64 k, .int .i64 sl, .int .i64 n, .int .i64 v] 37)) := (Below.refl _ _).alloc (Nat.le_refl _) _
  have hR : R4 (w.alloc (.cells #[.int .i64 k, .int .i64 sl, .int .i64 n, .int .i64 v] 37)) w.heap.size k sl n v := heap_alloc_new w _
  have HR := hid hR
  have HL := hid (hW.below hA)
  have HD := hid (hD.below hA)
  have HO := hid (Out.of (lo := i.lo) (hi := i.hi) hA)
  have hpl : (recP k sl n v).length = 16 := by unfold recP; rw [List.length_append, recL_len, putB_length]
  have hpb : sb (ofB (recP k sl n v)) = recP k sl n v := sb_ofB _ (recP_lt k sl n v)
  have HPB := hid hpb
  have HLS : Hid (layS s hf n (recP k sl n v) = if s.progE 27 (placeAt hf 0 n : Nat) (recP k sl n v) ≠ 0 then (s.prog 27 (placeAt hf 0 n : Nat) (recP k sl n v), s.progE 27 (placeAt hf 0 n : Nat) (recP k sl n v))
    else ((s.prog 27 (placeAt hf 0 n : Nat) (recP k sl n v)).prog 27 (placeAt hf 1 n : Nat) (recP k sl n v), (s.prog 27 (placeAt hf 0 n : Nat) (recP k sl n v)).progE 27 (placeAt hf 1 n : Nat) (recP k sl n v))) := rfl
  have HPL := hid (place_lt (h := hf) (c := 0) (p := n) hh (by omega) hn)
  have HPL1 := hid (place_lt (h := hf) (c := 1) (p := n) hh (by omega) hn)
  clear hA hR hW hD hok hpb
  (go_enter Try.func54, Try.ntmps54; try simp only [List.append])
  go_wp2_with ((with_reducible refine wpList_unguard ?_ ?_); (focus rfl))
  generalize w.alloc (.cells #[.int .i64 k, .int .i64 sl, .int .i64 n, .int .i64 v] 37) = w1 at *
  generalize w.heap.size = R at *
  (refine wp_region_quietC (fun w' => Below (w1).heap.size w1 w') (by kernel_rfl) (by kernel_rfl) ((Below.refl _ _).drew) ?_; (repeat (first | go_big_quiet_skip | (go_big_quiet_want; first | (go_big_quiet_op; go_big_quiet_on) | (apply Exists.intro; refine And.intro (fun wq hq => ?_) ?_; (focus ((have q9 := (HL.out.hL.below hq).cell 9 _ rfl; have c0 := (HR.out.below hq).c0; have c1 := (HR.out.below hq).c1; have c2 := (HR.out.below hq).c2; have c3 := (HR.out.below hq).c3); (try go_simp); first | done | rfl | ((refine Calls.mono (rec_Put wq S k sl n v wq ⟨Below.refl _ _, HL.out.hS.below hq HL.out.hS.lt⟩ ok1 ok2 ok3 ok4) ?_; rintro e w6 ⟨rfl, hk⟩; exact ⟨rfl, hq.trans (hk.1.mono hq.size)⟩)))); go_simp; go_big_quiet_on)))); refine quietC_nil _ rfl ?_; intro wE hE)
  replace HL := hid (HL.out.below hE)
  replace HD := hid (HD.out.below hE)
  replace HO := hid (HO.out.trans (Out.of hE))
  clear HR hE
  generalize hpg : recP k sl n v = pg at *
  have HPG := hid hpg
  clear hpg
  go_wp2_with ((with_reducible refine wpList_unguard ?_ ?_); (focus rfl))
  refine wp_loop_rounds 3 ?_
  rw [rounds_succ]
  have HP0 := fun w hw => hid (log_place L i.D S at_ rs gen used holds clean hf 0 n w hw hh (by omega) hn)
  have HP1 := fun w hw => hid (log_place L i.D S at_ rs gen used holds clean hf 1 n w hw hh (by omega) hn)
  go_wp2_with ((with_reducible refine wpList_unguard ?_ ?_); (focus rfl))
  (refine wp_region_stg2 10 [] [10, 11] (fun u => Below wE.heap.size wE u) (by kernel_rfl) (by kernel_rfl) (by intro t v c a w h; cases t <;> exact h) ((Below.refl _ _).drew) ?_; (simp only [List.take_succ_cons, List.take_zero, List.map_cons, List.map_nil, stOf, opAt, List.getD_cons_zero, List.getD_cons_succ]); (repeat (first | go_big_quiet_skip | (go_big_quiet_want; first | (go_big_quiet_op; go_big_quiet_on) | (apply Exists.intro; refine And.intro (fun wq hq => ?_) ?_; (focus ((have q0 := (HL.out.hL.below hq).cell 0 _ rfl); (try go_simp); first | done | rfl | ((refine Calls.mono (HP0 wq (HL.out.hL.below hq)).out ?_; rintro e w6 ⟨rfl, hk⟩; exact ⟨rfl, hq.trans (hk.mono hq.size)⟩)))); go_simp; go_big_quiet_on)))); refine quietC_nil _ rfl ?_; intro wE hE; unfold wpSt)
  replace HL := hid (HL.out.below hE)
  replace HD := hid (HD.out.below hE)
  replace HO := hid (HO.out.trans (Out.of hE))
  clear hE
  have hp0 := HPL.out
  have hp1 := HPL1.out
  go_wp2_with ((with_reducible refine wpList_unguard ?_ ?_); (focus rfl))
  refine Calls.mono (dev_Program i 27 s _ (placeAt hf 0 n : Nat) (ofB pg) HD.out (by omega)) ?_; rintro e w3 ⟨rfl, hd, ho⟩
  rw [HPB.out] at hd ⊢
  replace HL := hid (HL.out.out ho)
  replace HO := hid (HO.out.trans ho)
  replace HD := hid hd
  clear hd ho
  generalize s.progE 27 (placeAt hf 0 n : Nat) pg = e1 at *
  generalize s.prog 27 (placeAt hf 0 n : Nat) pg = s1 at *
  by_cases he1 : e1 = 0
  · subst he1
    rw [if_neg (by simp)] at HLS
    go_wp2_with ((with_reducible refine wpList_unguard ?_ ?_); (focus rfl))
    rw [rounds_succ]
    go_wp2_with ((with_reducible refine wpList_unguard ?_ ?_); (focus rfl))
    (refine wp_region_stg2 10 [] [10, 11] (fun u => Below w3.heap.size w3 u) (by kernel_rfl) (by kernel_rfl) (by intro t v c a w h; cases t <;> exact h) ((Below.refl _ _).drew) ?_; (simp only [List.take_succ_cons, List.take_zero, List.map_cons, List.map_nil, stOf, opAt, List.getD_cons_zero, List.getD_cons_succ]); (repeat (first | go_big_quiet_skip | (go_big_quiet_want; first | (go_big_quiet_op; go_big_quiet_on) | (apply Exists.intro; refine And.intro (fun wq hq => ?_) ?_; (focus ((have q0 := (HL.out.hL.below hq).cell 0 _ rfl); (try go_simp); first | done | rfl | ((refine Calls.mono (HP1 wq (HL.out.hL.below hq)).out ?_; rintro e w6 ⟨rfl, hk⟩; exact ⟨rfl, hq.trans (hk.mono hq.size)⟩)))); go_simp; go_big_quiet_on)))); refine quietC_nil _ rfl ?_; intro wE hE; unfold wpSt)
    replace HL := hid (HL.out.below hE)
    replace HD := hid (HD.out.below hE)
    replace HO := hid (HO.out.trans (Out.of hE))
    clear hE
    go_wp2_with ((with_reducible refine wpList_unguard ?_ ?_); (focus rfl))
    refine Calls.mono (dev_Program i 27 s1 _ (placeAt hf 1 n : Nat) (ofB pg) HD.out (by omega)) ?_; rintro e w4 ⟨rfl, hd, ho⟩
    rw [HPB.out] at hd ⊢
    replace HO := hid (HO.out.trans ho)
    replace HD := hid hd
    clear hd ho
    generalize s1.progE 27 (placeAt hf 1 n : Nat) pg = e2 at *
    generalize s1.prog 27 (placeAt hf 1 n : Nat) pg = s2 at *
    by_cases he2 : e2 = 0
    · subst he2
      go_wp2_with ((with_reducible refine wpList_unguard ?_ ?_); (focus rfl))
      rw [rounds_succ]
      go_wp2_with ((with_reducible refine wpList_unguard ?_ ?_); (focus rfl))
      go_ret
      rw [HPG.out, HLS.out]
      exact ⟨rfl, HD.out, HO.out⟩
    · have q2 : ((e2 : Int) != 0) = true := by rw [bne_iff_ne]; omega
      go_wp2_with ((with_reducible refine wpList_unguard ?_ ?_); (focus rfl))
      go_ret
      rw [HPG.out, HLS.out]
      exact ⟨rfl, HD.out, HO.out⟩
  · rw [if_pos he1] at HLS
    have q1 : ((e1 : Int) != 0) = true := by rw [bne_iff_ne]; omega
    go_wp2_with ((with_reducible refine wpList_unguard ?_ ?_); (focus rfl))
    go_ret
    rw [HPG.out, HLS.out]
    exact ⟨rfl, HD.out, HO.out⟩
set_option maxHeartbeats 8000000 in
set_option maxRecDepth 100000 in
theorem log_wipe (i : DI) (s : FS) (L S : Nat) (at_ : Nat) (rs : Value) (gen used : Int) (holds clean : Bool) (hf : Nat) (w : World) (hD : DevP w i 27 s) (hW : LW i L S (logC i.D S at_ rs gen used holds clean) w) (hh : hf < 2) :
    Calls Try.prog 50 #[.pointer (some ⟨L, 0, none⟩), .int .i64 hf] w fun e w' =>
      e = .returned (.int .i64 (((wipeN s hf 8).2 : Nat) : Int)) ∧ DevP w' i 27 (wipeN s hf 8).1 ∧ Out i.lo i.hi w w' := by
  have HD := hid hD
  have HL := hid hW
  clear hD hW
  have HH0 := fun w => hid (geo_Half hf 0 w hh (by omega))
  have HH1 := fun w => hid (geo_Half hf 1 w hh (by omega))
  have hl0 : halfAt hf 0 ≤ 25 := by unfold halfAt; omega
  have hl1 : halfAt hf 1 ≤ 25 := by unfold halfAt; omega
  (go_enter Try.func50, Try.ntmps50; try simp only [List.append])
  go_wp2_with ((with_reducible refine wpList_unguard ?_ ?_); (focus rfl))
  go_loopw [10] (fun v wr => ∃ c : Nat, c ≤ 2 ∧ v = .int .i64 c ∧ (wipeN s hf (4 * c)).2 = 0 ∧ DevP wr i 27 (wipeN s hf (4 * c)).1 ∧ Out i.lo i.hi w wr) (fun v _ => 2 - (intOf v).toNat)
  case atStart => exact ⟨0, by omega, rfl, rfl, HD.out, Out.refl _ _ _⟩
  case round =>
    obtain ⟨c, hc, rfl, h0, hd, ho⟩ := hrel
    have HZ := hid h0
    have HDr := hid hd
    have HOr := hid ho
    have HLr := hid (HL.out.out ho)
    clear h0 hd ho
    by_cases hc2 : c < 2
    · have hcc : c = 0 ∨ c = 1 := by omega
      have HH : ∀ w, Calls Try.prog 28 #[.agg #[.int .i64 1, .int .i64 2, .int .i64 1], .int .i64 hf, .int .i64 c] w fun e w' => e = .returned (.tuple #[.int .i64 (halfAt hf c : Nat), .int .i64 0]) ∧ Below w.heap.size w w' := fun w => geo_Half hf c w hh hc2
      have hlc : halfAt hf c ≤ 25 := by unfold halfAt; omega
      have q6 := HLr.out.hL.cell 6 _ rfl
      have q7 := HLr.out.hL.cell 7 _ rfl
      have q8 := HLr.out.hL.cell 8 _ rfl
      go_wp2_with ((with_reducible refine wpList_unguard ?_ ?_); (focus rfl))
      refine Calls.mono (HH _) ?_; rintro e w1 ⟨rfl, hb⟩
      replace HLr := hid (HLr.out.below hb)
      replace HDr := hid (HDr.out.below hb)
      replace HOr := hid (HOr.out.trans (Out.of hb))
      clear hb q6 q7 q8
      have HSX : Hid (∀ j, j < 4 → sect hf (4 * c + j) = halfAt hf c + j) := by
        intro j hj
        unfold sect
        rw [show (4 * c + j) / 4 = c from by omega, show (4 * c + j) % 4 = j from by omega]
      go_wp2_with ((with_reducible refine wpList_unguard ?_ ?_); (focus rfl))
      go_loopw [23] (fun v wr => ∃ j : Nat, j ≤ 4 ∧ v = .int .i64 j ∧ (wipeN s hf (4 * c + j)).2 = 0 ∧ DevP wr i 27 (wipeN s hf (4 * c + j)).1 ∧ Out i.lo i.hi w wr) (fun v _ => 4 - (intOf v).toNat)
      case atStart => exact ⟨0, by omega, rfl, HZ.out, HDr.out, HOr.out⟩
      case round =>
        clear HZ HDr HOr HLr
        obtain ⟨j, hj, rfl, h0, hd, ho⟩ := hrel
        have HZ := hid h0
        have HDr := hid hd
        have HOr := hid ho
        have HLr := hid (HL.out.out ho)
        clear h0 hd ho
        by_cases hj4 : j < 4
        · have q0 := HLr.out.hL.cell 0 _ rfl
          have HN : Hid (wipeN s hf (4 * c + (j + 1)) = ((wipeN s hf (4 * c + j)).1.erase 27 (halfAt hf c + j : Nat), (wipeN s hf (4 * c + j)).1.eraseE 27 (halfAt hf c + j : Nat))) := by
            show _ = _
            rw [← HSX.out j hj4, ← Nat.add_assoc, wipeN, if_neg (by rw [HZ.out]; simp)]
          generalize (wipeN s hf (4 * c + j)).1 = s1 at *
          go_wp2_with ((with_reducible refine wpList_unguard ?_ ?_); (focus rfl))
          rw [show (halfAt hf c : Int) + j = ((halfAt hf c + j : Nat) : Int) from by omega]
          refine Calls.mono (dev_Erase i 27 s1 _ (halfAt hf c + j : Nat) HDr.out (by omega)) ?_; rintro e w3 ⟨rfl, hd, ho⟩
          replace HOr := hid (HOr.out.trans ho)
          replace HDr := hid hd
          clear hd ho q0
          generalize s1.eraseE 27 ((halfAt hf c + j : Nat) : Int) = er at *
          generalize s1.erase 27 ((halfAt hf c + j : Nat) : Int) = s2 at *
          by_cases her : er = 0
          · subst her
            go_wp2_with ((with_reducible refine wpList_unguard ?_ ?_); (focus rfl))
            go_roundw
            case rel => exact ⟨j + 1, by omega, by go_num, by rw [HN.out], by rw [HN.out]; exact HDr.out, HOr.out⟩
            case measure => simp [intOf]; omega
          · have q2 : ((er : Int) != 0) = true := by rw [bne_iff_ne]; omega
            have HF : Hid (wipeN s hf 8 = (s2, er)) := by
              show _ = _
              rw [wipeN_stop (m := 4 * c + (j + 1)) (by rw [HN.out]; exact her) 8 (by omega), HN.out]
            go_wp2_with ((with_reducible refine wpList_unguard ?_ ?_); (focus rfl))
            go_ret
            rw [HF.out]
            exact ⟨rfl, HDr.out, HOr.out⟩
        · have hj5 : j = 4 := by omega
          subst hj5
          go_wp2_with ((with_reducible refine wpList_unguard ?_ ?_); (focus rfl))
          go_roundw
          case rel => exact ⟨c + 1, by omega, by go_num, HZ.out, HDr.out, HOr.out⟩
          case measure => simp [intOf]; omega
    · have hc5 : c = 2 := by omega
      subst hc5
      go_wp2_with ((with_reducible refine wpList_unguard ?_ ?_); (focus rfl))
      go_ret
      exact ⟨by rw [HZ.out]; rfl, HDr.out, HOr.out⟩
end Go.Proofs.Ytngkmlchblgmeaa

namespace Go.Proofs.Ytngkmlchblgmeaa
open Go.RowKit Tri

theorem Try.infoRec5 : (Try.prog.info? 37).map (fun i => (i.zero, i.size, i.bytes)) = some (some (.agg #[.int .i64 0, .int .i64 0, .int .i64 0, .int .i64 0]), 4, 32) := by kernel_rfl
/-- A row of records that the call owns. -/
def recJ (w : World) (base : Nat) (v : Value) (l : List RecI) : Prop := w.ownsRow base 37 4 v l.length (l.flatMap rcC)
theorem rcC_len (r : RecI) : (rcC r).length = 4 := rfl
theorem flat_get (l : List RecI) : ∀ j u, (l.flatMap rcC)[j]? = some u → ∃ i c, i < l.length ∧ c < 4 ∧ j = i * 4 + c ∧ ((l.map rcC).getD i [])[c]? = some u := by
  induction l with
  | nil => intro j u h; simp at h
  | cons r l ih =>
    intro j u h
    rw [List.flatMap_cons] at h
    by_cases hj : j < 4
    · rw [List.getElem?_append_left (by rw [rcC_len]; exact hj)] at h
      exact ⟨0, j, by simp, hj, by omega, by simpa using h⟩
    · rw [List.getElem?_append_right (by rw [rcC_len]; omega), rcC_len] at h
      obtain ⟨i, c, h1, h2, h3, h4⟩ := ih _ _ h
      exact ⟨i + 1, c, by simpa using h1, h2, by omega, by simpa using h4⟩
theorem recJ.keep {w w' : World} {base : Nat} {v : Value} {l : List RecI} (h : recJ w base v l) (hk : ∀ g, base ≤ g → g < w.heap.size → v.ownBlock = some g → w'.heap[g]? = w.heap[g]?) : recJ w' base v l := by
  obtain ⟨h1, h2⟩ := h
  refine ⟨h1, ?_⟩
  rcases h2 with h2 | ⟨g, cap, cur, rfl, h3, h4, h5⟩
  · exact .inl h2
  · exact .inr ⟨g, cap, cur, rfl, h3, by rw [hk g h3 (Array.getElem?_eq_some_iff.1 h4).1 rfl]; exact h4, h5⟩
theorem recJ.below {w w' : World} {base : Nat} {v : Value} {l : List RecI} (h : recJ w base v l) (hb : Below w.heap.size w w') : recJ w' base v l := h.keep fun g _ h2 _ => hb.block g h2
/-- The cells of an own row. -/
theorem recJ.cells {w : World} {base : Nat} {v : Value} {l : List RecI} (h : recJ w base v l) : ∃ p c, v = .slice p l.length c ∧ l.length ≤ c ∧ cellsG w p 4 (l.map rcC) := by
  have h' := h
  obtain ⟨h1, ⟨rfl, h0⟩ | ⟨g, cap, cur, rfl, hb, hh, hnc, hcm, hcs, ht⟩⟩ := h
  · refine ⟨none, 0, by rw [h0], by omega, ?_⟩
    rw [List.eq_nil_of_length_eq_zero h0]
    intro i hi; simp at hi
  · refine ⟨_, _, rfl, hnc, ?_⟩
    intro i hi
    rw [List.length_map] at hi
    refine ⟨g, 0, rfl, ?_⟩
    intro j u hj
    have hlen : ∀ (m : List RecI) (i : Nat), i < m.length → ((m.map rcC).getD i [])[j]? = some u → (m.flatMap rcC)[i * 4 + j]? = some u := by
      intro m
      induction m with
      | nil => intro i hi; simp at hi
      | cons r m ih =>
        intro i hi hu
        rw [List.flatMap_cons]
        cases i with
        | zero =>
          have hu' : (rcC r)[j]? = some u := by simpa using hu
          have hj4 : j < 4 := by have := (List.getElem?_eq_some_iff.1 hu').1; rw [rcC_len] at this; exact this
          rw [Nat.zero_mul, Nat.zero_add, List.getElem?_append_left (by rw [rcC_len]; exact hj4)]
          exact hu'
        | succ i =>
          rw [List.getElem?_append_right (by rw [rcC_len]; omega), rcC_len, show (i + 1) * 4 + j - 4 = i * 4 + j from by omega]
          exact ih i (by simpa using hi) (by simpa using hu)
    have h6 : w.ownsRow base 37 4 (.slice (some ⟨g, 0, none⟩) l.length cap) l.length (l.flatMap rcC) := h'
    have h5 := h6.cells (g := g) rfl (i * 4 + j) u (hlen l i hi hj)
    rw [show (⟨g, 0, none⟩ : Addr).add (i * 4 + j) = ⟨g, 0 + i * 4 + j, none⟩ from by unfold Addr.add; split <;> simp_all] at h5
    exact h5
theorem flatMap_len (l : List RecI) : (l.flatMap rcC).length = l.length * 4 := by
  induction l with
  | nil => rfl
  | cons a t ih => rw [List.flatMap_cons, List.length_append, ih, rcC_len]; simp; omega
/-- Records appended to an own row. -/
theorem wpList_pushJ {wr : World} {ops : Array Oper} {rest : List Oper} {o : Oper} {a : Act} {Q : Exit → Act → World → Prop} (hgd : o.guard = none) (s x : Operand)
    (ho : o.op = .call { callee := .builtin .append, args := #[s, x], argTypes := #[22, 22] })
    (base : Nat) (v : Value) (l y : List RecI) (q : Option Addr) (c : Nat) (hown : recJ wr base v l) (hq : cellsG wr q 4 (y.map rcC)) (hy : y ≠ []) (hs : a.eval s = v) (n : Nat) (hn : n = y.length) (hx : a.eval x = .slice q n c) (hlen : l.length ≤ 100000) (hlen2 : y.length ≤ 100000) (hbase : base ≤ wr.heap.size)
    (h : ∀ v' w', recJ w' base v' (l ++ y) → Below base wr w' → wpList Try.prog ops Q rest (a.put o.dst v') w') : wpList Try.prog ops Q (o :: rest) a wr := by
  subst hn
  obtain ⟨i0, hi, hz0, hz1, hz2⟩ := info_parts Try.infoRec5
  obtain ⟨a0, o0, rfl, _⟩ := hq 0 (by rw [List.length_map]; exact List.length_pos_iff.2 hy)
  refine wpList_append_own wr hgd s x 22 ho base 37 i0 (.agg #[.int .i64 0, .int .i64 0, .int .i64 0, .int .i64 0]) 4 32 Try.underlying22 hi hz0 hz1 hz2 rfl (by decide) v l.length (l.flatMap rcC) hs hown
    ⟨a0, o0, none⟩ y.length c (y.flatMap rcC) hx (flatMap_len y) ?_ ?_ ?_ ?_ hbase ?_
  · intro j u hj
    obtain ⟨i, k, h1, h2, rfl, h3⟩ := flat_get y j u hj
    obtain ⟨a', o', e, hc⟩ := hq i (by rw [List.length_map]; exact h1)
    simp only [Option.some.injEq, Addr.mk.injEq] at e
    obtain ⟨rfl, rfl, _⟩ := e
    have := hc k u h3
    rw [show (⟨a0, o0, none⟩ : Addr).add (i * 4 + k) = ⟨a0, o0 + i * 4 + k, none⟩ from by unfold Addr.add; split <;> simp_all [Nat.add_assoc]]
    exact this
  · intro u hu
    rw [List.mem_flatMap] at hu
    obtain ⟨r, _, hu⟩ := hu
    unfold rcC at hu
    simp only [List.mem_cons, List.not_mem_nil, or_false] at hu
    rcases hu with rfl | rfl | rfl | rfl <;> rfl
  · unfold maxLen; omega
  · omega
  · intro v' w' h2 h3 _
    refine h v' w' ?_ ?_
    · unfold recJ; rw [List.length_append, List.flatMap_append]; exact h2
    · refine ((Below.refl _ wr).mono hbase).grown h3 hbase ?_
      intro b hb
      rcases hown.2 with ⟨h4, _⟩ | ⟨g', cap, cur, h4, h5, _⟩
      · rw [h4] at hb; simp [Value.ownBlock] at hb
      · rw [h4] at hb; simp only [Value.ownBlock, Option.some.injEq] at hb; omega
set_option maxHeartbeats 1000000 in
set_option maxRecDepth 100000 in
theorem sl_GrowR (n : Nat) (w : World) (hn : n ≤ 100000) (hpos : 0 < n) :
    Calls Try.prog 109 #[.slice none 0 0, .int .i64 n] w fun e w' => ∃ cap, e = .returned (.slice (some ⟨w.heap.size, 0, none⟩) 0 cap) ∧ recJ w' w.heap.size (.slice (some ⟨w.heap.size, 0, none⟩) 0 cap) [] ∧ Below w.heap.size w w' := by
  obtain ⟨i0, hi, hz0, hz1, hz2⟩ := info_parts Try.infoRec5
  have hd : decide (0 < (n : Int)) = true := decide_eq_true (by omega)
  have hge := grownCap_ge w n 0 37
  have hcm : grownCap w n 0 37 ≤ maxLen := grownCap_le_maxLen w n 0 _ (by unfold maxLen; omega)
  (go_enter Try.func109, Try.ntmps109; try simp only [List.append])
  go_wp2_with (at_builtin; refine Lib.wpList_append_run _ rfl _ _ _ _ rfl _ _ rfl rfl _ _ (Lib.run_append_nil_zeros w 22 3 _ 37 i0 _ .i64 .i64 Try.underlying22 Try.underlying3 hi hz0 n hpos (by omega) (by omega) (by rw [hz2]; omega)) ?_)
  generalize hcap : grownCap w n 0 37 = cap at *
  have hcs : (Builtin.zeroCells (Value.agg #[.int .i64 0, .int .i64 0, .int .i64 0, .int .i64 0]).cells n ++ Builtin.zeroCells (Value.agg #[.int .i64 0, .int .i64 0, .int .i64 0, .int .i64 0]).cells (cap - n)).size = cap * 4 := by
    rw [Array.size_append, size_zeroCells, size_zeroCells]
    show n * 4 + (cap - n) * 4 = cap * 4
    omega
  have hO : Hid (recJ (w.drew.alloc (.cells (Builtin.zeroCells (Value.agg #[.int .i64 0, .int .i64 0, .int .i64 0, .int .i64 0]).cells n ++ Builtin.zeroCells (Value.agg #[.int .i64 0, .int .i64 0, .int .i64 0, .int .i64 0]).cells (cap - n)) 37)) w.heap.size (.slice (some ⟨w.heap.size, 0, none⟩) 0 cap) []) :=
    ⟨rfl, .inr ⟨w.heap.size, cap, _, rfl, Nat.le_refl _, heap_alloc_new w.drew _, Nat.zero_le _, hcm, hcs, by simp⟩⟩
  have hB : Hid (Below w.heap.size w (w.drew.alloc (.cells (Builtin.zeroCells (Value.agg #[.int .i64 0, .int .i64 0, .int .i64 0, .int .i64 0]).cells n ++ Builtin.zeroCells (Value.agg #[.int .i64 0, .int .i64 0, .int .i64 0, .int .i64 0]).cells (cap - n)) 37))) := (Below.refl _ _).drew.alloc (Nat.le_refl _) _
  have hcap0 : (0 : Int) ≤ (cap : Int) := by omega
  clear hcap hcs
  go_wp2_with ((with_reducible refine wpList_unguard ?_ ?_); (focus rfl))
  go_ret
  exact ⟨_, rfl, hO.out, hB.out⟩
theorem run_append_emptyJ {P : Program} (w : World) (t ty e : TypeId) (i : TypeInfo) (ht : P.underlying t = some (.slice e)) (hi : P.info? e = some i) (b : Addr) (n cap : Nat) (q : Option Addr) (c : Nat) (hn : n ≤ cap) :
    (Builtin.append_ #[t, t] ty #[.slice (some b) n cap, .slice q 0 c]).run P w = .ok (.slice (some b) n cap) w := by
  cases q with
  | none => simp [Builtin.append_, run_underlying ht, sizeOf, typeInfo, hi, Builtin.lenOf, hn, Builtin.firstCells, storeCells]
  | some a => simp [Builtin.append_, run_underlying ht, sizeOf, typeInfo, hi, Builtin.lenOf, hn, Builtin.firstCells, storeCells, loadCells, loadCellsFrom]
/-- The same where nothing may come, onto a row that holds something. -/
theorem wpList_pushJ0 {wr : World} {ops : Array Oper} {rest : List Oper} {o : Oper} {a : Act} {Q : Exit → Act → World → Prop} (hgd : o.guard = none) (s x : Operand)
    (ho : o.op = .call { callee := .builtin .append, args := #[s, x], argTypes := #[22, 22] })
    (base : Nat) (v : Value) (l y : List RecI) (q : Option Addr) (c : Nat) (hown : recJ wr base v l) (hq : cellsG wr q 4 (y.map rcC)) (hl : l ≠ []) (hs : a.eval s = v) (n : Nat) (hn : n = y.length) (hx : a.eval x = .slice q n c) (hlen : l.length ≤ 100000) (hlen2 : y.length ≤ 100000) (hbase : base ≤ wr.heap.size)
    (h : ∀ v' w', recJ w' base v' (l ++ y) → Below base wr w' → wpList Try.prog ops Q rest (a.put o.dst v') w') : wpList Try.prog ops Q (o :: rest) a wr := by
  by_cases hy : y = []
  · subst hy
    subst hn
    obtain ⟨i0, hi, hz0, hz1, hz2⟩ := info_parts Try.infoRec5
    have h0 := h v wr (by rw [List.append_nil]; exact hown) (Below.refl _ _)
    rcases hown.2 with ⟨_, h4⟩ | ⟨g, cap, cur, rfl, _, _, hnc, _⟩
    · exact absurd (List.eq_nil_of_length_eq_zero h4) hl
    · exact wpList_plain hgd fun K hK => by
        unfold Oper.wp execOp
        simp only [ho, resolve, invoke, builtin, Sem.run_bind, Sem.run_pure, Result.andThen_ok, List.map_toArray, List.map_cons, List.map_nil, hs, hx, List.length_nil, run_append_emptyJ (P := Try.prog) wr 22 o.type 37 i0 Try.underlying22 hi ⟨g, 0, none⟩ l.length cap q c hnc]
        exact hK _ _ h0
  · exact wpList_pushJ hgd s x ho base v l y q c hown hq hy hs n hn hx hlen hlen2 hbase h
set_option maxHeartbeats 4000000 in
set_option maxRecDepth 100000 in
/-- Three rows in one, the outer ones of at least one record. -/
theorem sl_Concat3 (X c : Nat) (q1 q2 q3 : Option Addr) (c1 c2 c3 : Nat) (y1 y2 y3 : List RecI) (w : World) (k0 : w.cell? ⟨X, 0, none⟩ = some (.slice q1 y1.length c1)) (k1 : w.cell? ⟨X, 1, none⟩ = some (.slice q2 y2.length c2)) (k2 : w.cell? ⟨X, 2, none⟩ = some (.slice q3 y3.length c3))
    (h1 : cellsG w q1 4 (y1.map rcC)) (h2 : cellsG w q2 4 (y2.map rcC)) (h3 : cellsG w q3 4 (y3.map rcC)) (n1 : y1 ≠ []) (n3 : y3 ≠ []) (hl : y1.length + y2.length + y3.length ≤ 10000) :
    Calls Try.prog 76 #[.slice (some ⟨X, 0, none⟩) 3 c] w fun e w' => ∃ v, e = .returned v ∧ recJ w' w.heap.size v (y1 ++ y2 ++ y3) ∧ Below w.heap.size w w' := by
  have H1 := hid h1
  have H2 := hid h2
  have H3 := hid h3
  have HN1 := hid n1
  have HN3 := hid n3
  have hp1 : 0 < y1.length := List.length_pos_iff.2 n1
  have HK := hid (And.intro k0 (And.intro k1 k2))
  obtain ⟨L1, hL1⟩ : ∃ L, y1.length = L := ⟨_, rfl⟩
  obtain ⟨L2, hL2⟩ : ∃ L, y2.length = L := ⟨_, rfl⟩
  obtain ⟨L3, hL3⟩ : ∃ L, y3.length = L := ⟨_, rfl⟩
  rw [hL1] at k0 hp1
  rw [hL2] at k1
  rw [hL3] at k2
  rw [hL1, hL2, hL3] at hl
  have HL1 := hid hL1
  have HL2 := hid hL2
  have HL3 := hid hL3
  clear h1 h2 h3 n1 n3 hL1 hL2 hL3
  obtain ⟨M1, hM1⟩ : ∃ M, L1 + L2 = M := ⟨_, rfl⟩
  obtain ⟨M2, hM2⟩ : ∃ M, M1 + L3 = M := ⟨_, rfl⟩
  have wa : IntKind.i64.wrap ((L1 : Int) + (L2 : Int)) = (M1 : Int) := by rw [IntKind.wrap_i64]; omega
  have wb : IntKind.i64.wrap ((M1 : Int) + (L3 : Int)) = (M2 : Int) := by rw [IntKind.wrap_i64]; omega
  have wc : IntKind.i64.wrap ((0 : Int) + (L1 : Int)) = (L1 : Int) := by rw [IntKind.wrap_i64]; omega
  have hm1 : (L1 : Int) + L2 = M1 := by omega
  have hm2 : (M1 : Int) + L3 = M2 := by omega
  have hM2p : 0 < M2 ∧ M2 ≤ 10000 := by omega
  (go_enter Try.func76, Try.ntmps76; try simp only [List.append])
  go_wp2_with ((with_reducible refine wpList_unguard ?_ ?_); (focus rfl))
  refine wp_loop_rounds 4 ?_
  rw [rounds_succ]
  go_wp2_with ((with_reducible refine wpList_unguard ?_ ?_); (focus rfl))
  rw [rounds_succ]
  go_wp2_with ((with_reducible refine wpList_unguard ?_ ?_); (focus rfl))
  rw [rounds_succ]
  go_wp2_with ((with_reducible refine wpList_unguard ?_ ?_); (focus rfl))
  rw [rounds_succ]
  go_wp2_with ((with_reducible refine wpList_unguard ?_ ?_); (focus rfl))
  clear k0 k1 k2 wa wb wc hm1 hm2
  refine Calls.mono (sl_GrowR M2 w (by omega) hM2p.1) ?_; rintro e w1 ⟨cap, rfl, hO, hB⟩
  have HO := hid hO
  have HB := hid hB
  clear hO hB hM2p
  have hy1 : y1.length ≤ 100000 := by have := HL1.out; omega
  have hy2 : y2.length ≤ 100000 := by have := HL2.out; omega
  have hy3 : y3.length ≤ 100000 := by have := HL3.out; omega
  have hy12 : (y1 ++ y2).length ≤ 100000 := by rw [List.length_append]; have := HL1.out; have := HL2.out; omega
  have hne : ([] ++ y1 : List RecI) ≠ [] := by simpa using HN1.out
  have HNE := hid hne
  have hB := HB.out
  have HA1 := hid (H1.out.below hB)
  obtain ⟨k0, k1, k2⟩ := HK.out
  have k0' := (hB.cell (p := ⟨X, 0, none⟩) (block_lt_of_cell k0)).trans k0
  rw [HL1.out] at k0'
  clear hB k0 k1 k2 hne
  go_wp2_with ((with_reducible refine wpList_unguard ?_ ?_); (focus rfl))
  refine wp_loop_rounds 4 ?_
  rw [rounds_succ]
  go_wp2_with (at_builtin; refine wpList_pushJ rfl _ _ rfl w.heap.size _ [] y1 q1 c1 HO.out HA1.out HN1.out rfl _ HL1.out.symm rfl (by simp) hy1 HB.out.size ?_)
  intro v2 w2 hown hbel
  have hown' : recJ w2 w.heap.size v2 ([] ++ y1) := hown
  replace HO := hid hown'
  replace HB := hid (HB.out.trans hbel)
  clear hown hown' hbel k0'
  have hB := HB.out
  have HA2 := hid (H2.out.below hB)
  obtain ⟨k0, k1, k2⟩ := HK.out
  have k1' := (hB.cell (p := ⟨X, 1, none⟩) (block_lt_of_cell k1)).trans k1
  rw [HL2.out] at k1'
  clear hB k0 k1 k2
  go_wp2_with ((with_reducible refine wpList_unguard ?_ ?_); (focus rfl))
  rw [rounds_succ]
  go_wp2_with (at_builtin; refine wpList_pushJ0 rfl _ _ rfl w.heap.size _ ([] ++ y1) y2 q2 c2 HO.out HA2.out HNE.out rfl _ HL2.out.symm rfl (by simpa using hy1) hy2 HB.out.size ?_)
  intro v3 w3 hown hbel
  have hown' : recJ w3 w.heap.size v3 ([] ++ y1 ++ y2) := hown
  replace HO := hid hown'
  replace HB := hid (HB.out.trans hbel)
  clear hown hown' hbel k1'
  have hB := HB.out
  have HA3 := hid (H3.out.below hB)
  obtain ⟨k0, k1, k2⟩ := HK.out
  have k2' := (hB.cell (p := ⟨X, 2, none⟩) (block_lt_of_cell k2)).trans k2
  rw [HL3.out] at k2'
  clear hB k0 k1 k2
  go_wp2_with ((with_reducible refine wpList_unguard ?_ ?_); (focus rfl))
  rw [rounds_succ]
  go_wp2_with (at_builtin; refine wpList_pushJ rfl _ _ rfl w.heap.size _ ([] ++ y1 ++ y2) y3 q3 c3 HO.out HA3.out HN3.out rfl _ HL3.out.symm rfl (by simpa using hy12) hy3 HB.out.size ?_)
  intro v4 w4 hown hbel
  have hown' : recJ w4 w.heap.size v4 (y1 ++ y2 ++ y3) := by rw [List.append_assoc]; exact hown
  replace HO := hid hown'
  replace HB := hid (HB.out.trans hbel)
  clear hown hown' hbel k2'
  go_wp2_with ((with_reducible refine wpList_unguard ?_ ?_); (focus rfl))
  rw [rounds_succ]
  go_wp2_with ((with_reducible refine wpList_unguard ?_ ?_); (focus rfl))
  go_ret
  exact ⟨_, rfl, HO.out, HB.out⟩
end Go.Proofs.Ytngkmlchblgmeaa

namespace Go.Proofs.Ytngkmlchblgmeaa
open Go.RowKit Tri

def lockL (a b : Nat) (l : List Bool) : List Bool := l.mapIdx fun j x => if a ≤ j ∧ j < b then true else x
theorem lockL_step (a k : Nat) (l : List Bool) (h : k < l.length) (hak : a ≤ k) : (lockL a k l).set k true = lockL a (k + 1) l := by
  apply List.ext_getElem?
  intro j
  unfold lockL
  by_cases hj : j = k
  · subst hj
    rw [List.getElem?_set_self (by rw [List.length_mapIdx]; exact h), List.getElem?_mapIdx, List.getElem?_eq_getElem h]
    simp only [Option.map_some, if_pos (show a ≤ j ∧ j < j + 1 from ⟨hak, by omega⟩)]
  · rw [List.getElem?_set_ne (by omega), List.getElem?_mapIdx, List.getElem?_mapIdx]
    cases l[j]? with
    | none => rfl
    | some x =>
      simp only [Option.map_some, Option.some.injEq]
      by_cases h1 : a ≤ j ∧ j < k
      · rw [if_pos h1, if_pos (by omega)]
      · rw [if_neg h1, if_neg (by omega)]
theorem lockL_none (a : Nat) (l : List Bool) : lockL a a l = l := by
  apply List.ext_getElem?
  intro j
  unfold lockL
  rw [List.getElem?_mapIdx]
  cases l[j]? with
  | none => rfl
  | some x => simp only [Option.map_some, if_neg (show ¬ (a ≤ j ∧ j < a) from by omega)]
end Go.Proofs.Ytngkmlchblgmeaa

namespace Tri
open Go Go.RowKit
def FS.wear (s : FS) (n : Nat) (l : List Int) : Int := l.foldl (fun (acc c : Int) => if 0 ≤ c ∧ c < n then wrap64 (acc + s.wr.getD c.toNat 0) else acc) 0
end Tri
namespace Go.Proofs.Ytngkmlchblgmeaa
open Go.RowKit Tri

/-- A slice lies outside some blocks. -/
def offP (p : Option Addr) (lo hi : Nat) : Prop := ∀ a o s, p = some ⟨a, o, s⟩ → a < lo ∨ hi ≤ a
theorem cellsB.out {lo hi : Nat} {w w' : World} {p : Option Addr} {l : List Nat} (h : cellsB w p l) (ho : Out lo hi w w') (hp : offP p lo hi) : cellsB w' p l := by
  intro j hj
  obtain ⟨a, o, e, hc⟩ := h j hj
  refine ⟨a, o, e, ?_⟩
  rw [← hc]
  unfold World.cell?
  rw [ho.block a (block_lt_of_cell hc) (hp a o none e)]
theorem cellsZ.out {lo hi : Nat} {w w' : World} {p : Option Addr} {l : List Int} (h : cellsZ w p l) (ho : Out lo hi w w') (hp : offP p lo hi) : cellsZ w' p l := by
  intro j hj
  obtain ⟨a, o, e, hc⟩ := h j hj
  refine ⟨a, o, e, ?_⟩
  rw [← hc]
  unfold World.cell?
  rw [ho.block a (block_lt_of_cell hc) (hp a o none e)]
theorem dev_Rot_nil (w : World) (a : Int) (v : Value) :
    Calls Try.prog 29 #[.pointer none, .int .i64 a, v] w fun e w' => e = .returned (.int .i64 1) ∧ w = w' := by
  (go_enter Try.func29, Try.ntmps29; try simp only [List.append])
  go_wp2_with ((with_reducible refine wpList_unguard ?_ ?_); (focus rfl))
  go_ret
  exact ⟨rfl, rfl⟩
set_option maxHeartbeats 2000000 in
theorem dev_Rot_no (i : DI) (n : Nat) (s : FS) (w : World) (a : Int) (p : Option Addr) (m c : Nat) (h : DevP w i n s) (ha : -9223372036854775808 ≤ a ∧ a ≤ 9223372036854775807) (hm : m ≤ 1000000) (hr : ¬ (0 ≤ a ∧ a + m ≤ 64 * n)) :
    Calls Try.prog 29 #[.pointer (some ⟨i.D, 0, none⟩), .int .i64 a, .slice p m c] w fun e w' => e = .returned (.int .i64 2) ∧ w = w' := by
  have c3 := h.c3
  have hn : n ≤ 512 := h.fs.2.2.2.1
  clear h
  obtain ⟨z1, e1⟩ : ∃ z, decide (a < 0) = z := ⟨_, rfl⟩
  obtain ⟨z2, e2⟩ : ∃ z, decide ((64 * n : Int) < a) = z := ⟨_, rfl⟩
  obtain ⟨z3, e3⟩ : ∃ z, decide ((64 * n : Int) - a < m) = z := ⟨_, rfl⟩
  have hz : Hid (z1 = true ∨ z2 = true ∨ z3 = true) := by
    rw [← e1, ← e2, ← e3]
    simp only [decide_eq_true_eq]
    show _ ∨ _ ∨ _
    omega
  clear hr
  cases z1 <;> cases z2 <;> cases z3
  all_goals first
    | (exfalso; have := hz.out; simp at this; done)
    | (try
         have hwr : wrap64 (64 * (n : Int) - a) = 64 * n - a := by
           have e1' := e1
           have e2' := e2
           simp only [decide_eq_false_iff_not] at e1' e2'
           unfold wrap64
           omega
       (go_enter Try.func29, Try.ntmps29; try simp only [List.append])
       go_wp2_with ((with_reducible refine wpList_unguard ?_ ?_); (focus rfl))
       go_ret
       exact ⟨rfl, rfl⟩)
set_option maxHeartbeats 4000000 in
theorem dev_Rot_ok (i : DI) (n : Nat) (s : FS) (w : World) (a : Nat) (p : Option Addr) (m c : Nat) (l : List Nat) (h : DevP w i n s) (hm : m = l.length) (hp : cellsB w p l) (hl : ∀ x ∈ l, x < 256) (hoff : offP p i.lo i.hi) (hr : a + l.length ≤ 64 * n) :
    Calls Try.prog 29 #[.pointer (some ⟨i.D, 0, none⟩), .int .i64 a, .slice p m c] w fun e w' =>
      e = .returned (.int .i64 0) ∧ DevP w' i n { s with b := fillB (fun j x => x ^^^ l.getD j 0) a l.length s.b } ∧ Out i.lo i.hi w w' := by
  subst hm
  have c3 := h.c3
  have hcb := h.cb
  have hn : n ≤ 512 := h.fs.2.2.2.1
  have hbl : s.b.length = 64 * n := h.fs.1
  have hok := hid h.ok
  have H := hid h
  have HP := hid hp
  have HLL := hid hl
  have HLT : Hid (∀ j, s.b.getD j 0 < 256) := fun j => h.bLt j
  have q1 : decide ((a : Int) < 0) = false := decide_eq_false (by omega)
  have q2 : decide ((64 * n : Int) < a) = false := decide_eq_false (by omega)
  have hwr : wrap64 (64 * (n : Int) - a) = 64 * n - a := by unfold wrap64; omega
  have q3 : decide ((64 * n : Int) - a < l.length) = false := decide_eq_false (by omega)
  clear h hp hl
  (go_enter Try.func29, Try.ntmps29; try simp only [List.append])
  go_wp2_with ((with_reducible refine wpList_unguard ?_ ?_); (focus rfl))
  clear c3 q1 q2 q3 hwr
  go_loopw [38, 7, 8] (fun v _ _ wr => ∃ k : Nat, k ≤ l.length ∧ v = .int .i64 k ∧ DevP wr i n { s with b := fillB (fun j x => x ^^^ l.getD j 0) a k s.b } ∧ Out i.lo i.hi w wr) (fun v _ _ _ => l.length - (intOf v).toNat)
  case atStart => exact ⟨0, Nat.zero_le _, rfl, by rw [fillB_zero]; exact H.out, Out.refl _ _ _⟩
  case round =>
    obtain ⟨k, hk, rfl, hD, hO⟩ := hrel
    have HD := hid hD
    have HO := hid hO
    by_cases hlt : k < l.length
    · have q4 : decide ((k : Int) < l.length) = true := decide_eq_true (by omega)
      have hkb : a + k < 64 * n := by omega
      have c3 := hD.c3
      have cb := hD.bAt _ hkb
      try simp only at cb
      rw [fillB_at _ _ _ _ _ (by omega), if_neg (by omega)] at cb
      have fb := hD.bFree _ hkb
      obtain ⟨b', o', rfl, hcl⟩ := HP.out.out hO hoff k hlt
      have hlb := HLT.out (a + k)
      have hlp : l.getD k 0 < 256 := HLL.out _ (getD_mem _ k hlt)
      have hstep := fillB_step (fun j x => x ^^^ l.getD j 0) a k s.b (by omega)
      try simp only at hstep
      have HN := hid (hD.setB (a + k) (s.b.getD (a + k) 0 ^^^ l.getD k 0) hkb (Nat.xor_lt_two_pow (n := 8) hlb hlp))
      try simp only at HN
      rw [hstep] at HN
      have HNO : Hid (Out i.lo i.hi w (wr.setCell ⟨i.B, a + k, none⟩ (.int .u8 ((s.b.getD (a + k) 0 ^^^ l.getD k 0 : Nat) : Int)))) := by
        have h5 := hok.out
        unfold DI.ok at h5
        exact HO.out.set _ _ (by show i.lo ≤ i.B; omega) (by show i.B < i.hi; omega)
      have hx := u8_xor_nat (s.b.getD (a + k) 0) (l.getD k 0) hlb hlp
      clear hD hO HD HO hstep
      generalize l.getD k 0 = y at *
      generalize s.b.getD (a + k) 0 = x at *
      go_wp2_with ((with_reducible refine wpList_unguard ?_ ?_); (focus rfl))
      go_roundw
      case rel => exact ⟨k + 1, by omega, by go_num, HN.out, HNO.out⟩
      case measure => simp [intOf]; omega
    · obtain rfl : k = l.length := by omega
      have q4 : decide ((l.length : Int) < l.length) = false := decide_eq_false (by omega)
      clear hD hO
      go_wp2_with ((with_reducible refine wpList_unguard ?_ ?_); (focus rfl))
      go_ret
      exact ⟨rfl, HD.out, HO.out⟩
/-- Rot. -/
theorem dev_Rot (i : DI) (n : Nat) (s : FS) (w : World) (a : Int) (p : Option Addr) (m c : Nat) (l : List Nat) (h : DevP w i n s) (ha : -9223372036854775808 ≤ a ∧ a ≤ 9223372036854775807) (hm : m = l.length) (hm2 : l.length ≤ 1000000) (hp : cellsB w p l) (hl : ∀ x ∈ l, x < 256) (hoff : offP p i.lo i.hi) :
    Calls Try.prog 29 #[.pointer (some ⟨i.D, 0, none⟩), .int .i64 a, .slice p m c] w fun e w' =>
      e = .returned (.int .i64 (FS.rotE n a l : Nat)) ∧ DevP w' i n (s.rot n a l) ∧ Out i.lo i.hi w w' := by
  by_cases hr : 0 ≤ a ∧ a + l.length ≤ 64 * n
  · obtain ⟨x, rfl⟩ : ∃ j : Nat, a = j := ⟨a.toNat, by omega⟩
    refine (dev_Rot_ok i n s w x p m c l h hm hp hl hoff (by omega)).mono ?_
    rintro e w' ⟨rfl, hD, hO⟩
    have hS : s.rot n x l = { s with b := fillB (fun j x => x ^^^ l.getD j 0) x l.length s.b } := by unfold FS.rot; rw [if_pos hr]; rfl
    have hE : FS.rotE n x l = 0 := by unfold FS.rotE; rw [if_pos hr]
    rw [hS, hE]
    exact ⟨rfl, hD, hO⟩
  · refine (dev_Rot_no i n s w a p m c h ha (by omega) (by rw [hm]; exact hr)).mono ?_
    rintro e w' ⟨rfl, rfl⟩
    have hS : s.rot n a l = s := by unfold FS.rot; rw [if_neg hr]
    have hE : FS.rotE n a l = 2 := by unfold FS.rotE; rw [if_neg hr]
    rw [hS, hE]
    exact ⟨rfl, h, Out.refl _ _ _⟩
theorem take_snocZ (l : List Int) (k : Nat) (h : k < l.length) : l.take (k + 1) = l.take k ++ [l.getD k 0] := by
  rw [List.take_succ_eq_append_getElem h]
  simp [h]
end Go.Proofs.Ytngkmlchblgmeaa
