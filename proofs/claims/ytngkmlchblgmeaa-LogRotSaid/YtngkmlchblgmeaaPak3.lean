/-
  A statement whose order is open, taken in any order at once: each operation is asked for what it does from any state in which what it waits for has been done, and what was found stays so.
  A statement whose order is open, taken in any order at once: the rule with one's own word for what may change in memory (a store need not come last).
  A statement whose order is open but for its tail: operations that wait, each, for all that stand before them.
  The check sum in the program: Sum, of a list of texts. Conditions: the Crc that is there is the block that crc.New makes; lists and texts hold at most 140737488351232 elements.
  Sums of texts in the program, with what was there kept.
  log.made.
-/
import Derived.Test.YtngkmlchblgmeaaPak1
import Derived.Orders
import Derived.ProofKit
import Derived.OpenShut
import Derived.Test.YtngkmlchblgmeaaPak2
import Derived.BigRegion
namespace Go.Proofs.Ytngkmlchblgmeaa
open Go.RowKit

section
variable {P : Program} {ops : Array Oper} {Q : Exit → Act → World → Prop}

def unlisted (L : Array Bool) : Nat := (L.toList.filter (fun b => !b)).length
theorem unlisted_set (L : Array Bool) (i : Nat) (h : L[i]? = some false) : unlisted (L.setIfInBounds i true) + 1 = unlisted L := by
  obtain ⟨l⟩ := L
  simp only [unlisted, List.setIfInBounds_toArray]
  simp only [List.getElem?_toArray] at h
  induction l generalizing i with
  | nil => simp at h
  | cons b l ih =>
    cases i with
    | zero =>
      simp only [List.getElem?_cons_zero, Option.some.injEq] at h
      subst h
      simp
    | succ i =>
      simp only [List.getElem?_cons_succ] at h
      have := ih i h
      cases b <;> simp at this ⊢ <;> omega

theorem ready_nil (hac : ∀ (i : Nat) (o : Oper), ops[i]? = some o → ∀ e : Edge, e ∈ o.after → e.on < i) (L : Array Bool) (hs : L.size = ops.size) (h : Region.ready .any ops L = []) :
    ∀ i, i < ops.size → L[i]? = some true := by
  intro i
  induction i using Nat.strongRecOn with
  | ind i ih =>
    intro hi
    have hL : i < L.size := by omega
    have hm : i ∉ Region.ready .any ops L := by rw [h]; simp
    unfold Region.ready at hm
    rw [List.mem_filter] at hm
    simp only [List.mem_range, hi, true_and] at hm
    have ho : ops[i]? = some ops[i] := Array.getElem?_eq_getElem hi
    rw [ho] at hm
    simp only [Option.map_some, Option.getD_some, Bool.and_eq_true, Bool.not_eq_eq_eq_not, Bool.not_true] at hm
    cases hb : L[i] with
    | true => rw [Array.getElem?_eq_getElem hL, hb]
    | false =>
      exfalso
      apply hm
      refine ⟨by simp [hL, hb], ?_⟩
      rw [Array.all_eq_true_iff_forall_mem]
      intro e he
      have h1 := hac i _ ho e he
      have h2 := ih e.on h1 (by omega)
      have : L.getD e.on false = true := by rw [Array.getD_eq_getD_getElem?, h2]; rfl
      simp [this]

theorem wpAny_inv (hac : ∀ (i : Nat) (o : Oper), ops[i]? = some o → ∀ e : Edge, e ∈ o.after → e.on < i) (I : Array Bool → Act → World → Prop)
    (hstep : ∀ (i : Nat) (o : Oper), ops[i]? = some o → ∀ L a w, L.size = ops.size → I L a w → L[i]? = some false → (∀ e ∈ o.after, Region.binds .any e = true → L[e.on]? = some true) →
      wpOp P ops Q i (fun a' w' => I (L.setIfInBounds i true) a' w') a w)
    (hend : ∀ L a w, (∀ i, i < ops.size → L[i]? = some true) → I L a w → Q .normal a w) :
    ∀ fuel L a w, L.size = ops.size → I L a w → unlisted L ≤ fuel → wpAny P .any ops Q fuel L a w := by
  intro fuel
  induction fuel with
  | zero =>
    intro L a w hs hI hu
    have hall : ∀ i, i < ops.size → L[i]? = some true := by
      intro i hi
      rw [Array.getElem?_eq_getElem (by omega)]
      cases hb : L[i]'(by omega) with
      | true => rfl
      | false =>
        have : unlisted L = 0 := by omega
        have := unlisted_set L i (by rw [Array.getElem?_eq_getElem (by omega), hb])
        omega
    refine ⟨?_, hend L a w hall hI⟩
    unfold Region.ready
    rw [List.filter_eq_nil_iff]
    intro i hi
    simp only [List.mem_range] at hi
    have h1 := hall i hi
    have h2 : L.getD i true = true := by rw [Array.getD_eq_getD_getElem?, h1]; rfl
    rw [h2]; simp
  | succ fuel ih =>
    intro L a w hs hI hu
    refine ⟨fun hr => hend L a w (ready_nil hac L hs hr) hI, ?_⟩
    intro i hi
    unfold Region.ready at hi
    rw [List.mem_filter] at hi
    simp only [List.mem_range] at hi
    obtain ⟨hi1, hi2⟩ := hi
    have ho : ops[i]? = some ops[i] := Array.getElem?_eq_getElem hi1
    rw [ho] at hi2
    simp only [Option.map_some, Option.getD_some, Bool.and_eq_true] at hi2
    obtain ⟨hl, hd⟩ := hi2
    have hlf : L[i]? = some false := by
      rw [Array.getElem?_eq_getElem (by omega)]
      cases hb : L[i]'(by omega) with
      | false => rfl
      | true => simp [hs, hi1, hb] at hl
    refine wpOp_mono (fun a' w' hI' => ih _ a' w' (by simp [hs]) hI' (by have := unlisted_set L i hlf; omega)) (hstep i _ ho L a w hs hI hlf ?_)
    intro e he hb
    rw [Array.all_eq_true_iff_forall_mem] at hd
    have := hd e he
    simp only [hb, Bool.not_true, Bool.false_or] at this
    by_cases hlt : e.on < L.size
    · simp [hlt] at this
      rw [Array.getElem?_eq_getElem hlt, this]
    · simp [hlt] at this

theorem eval_put_same (a : Act) (d : Nat) (v : Value) (h : d < a.tmps.size) : (a.put (some d) v).tmps.getD d undef = v := by
  simp [Act.put, h]
theorem eval_put_other (a : Act) (d s : Nat) (v : Value) (h : d ≠ s) : (a.put (some d) v).tmps.getD s undef = a.tmps.getD s undef := by
  simp [Act.put, Array.getElem?_setIfInBounds, h]

/-- What each operation does, whenever its turn comes: from a state in which C holds, what is not written in this statement is as it was, and what it waits for has its value. -/
def opsOk (P : Program) (ops : Array Oper) (Q : Exit → Act → World → Prop) (a0 : Act) (C : World → Prop) (V : Nat → Value → World → Prop) : Nat → List Oper → Prop
  | _, [] => True
  | i, o :: rest => (∀ (a : Act) (w : World), C w → (∀ s, ops.toList.all (fun (o : Oper) => o.dst != some s) = true → a.tmps.getD s undef = a0.tmps.getD s undef) →
      (∀ e, e ∈ o.after → Region.binds .any e = true → ∀ (oe : Oper) (d : Nat), ops[e.on]? = some oe → oe.dst = some d → V e.on (a.tmps.getD d undef) w) →
      ∀ K : Act → World → Prop, (∀ v w', V i v w' → C w' → Below w.heap.size w w' → K (a.put o.dst v) w') → o.wp P a w K Q) ∧ opsOk P ops Q a0 C V (i + 1) rest

theorem opsOk_at {a0 : Act} {C : World → Prop} {V : Nat → Value → World → Prop} (l : List Oper) : ∀ (k : Nat), opsOk P ops Q a0 C V k l → ∀ i o, l[i]? = some o →
    ∀ (a : Act) (w : World), C w → (∀ s, ops.toList.all (fun (o : Oper) => o.dst != some s) = true → a.tmps.getD s undef = a0.tmps.getD s undef) →
      (∀ e, e ∈ o.after → Region.binds .any e = true → ∀ (oe : Oper) (d : Nat), ops[e.on]? = some oe → oe.dst = some d → V e.on (a.tmps.getD d undef) w) →
      ∀ K : Act → World → Prop, (∀ v w', V (k + i) v w' → C w' → Below w.heap.size w w' → K (a.put o.dst v) w') → o.wp P a w K Q := by
  induction l with
  | nil => intro k _ i o h; simp at h
  | cons x l ih =>
    intro k hk i o h
    cases i with
    | zero =>
      simp only [List.getElem?_cons_zero, Option.some.injEq] at h
      subst h
      exact hk.1
    | succ i =>
      simp only [List.getElem?_cons_succ] at h
      have := ih (k + 1) hk.2 i o h
      rw [show k + 1 + i = k + (i + 1) from by omega] at this
      exact this

theorem dst_inj (l : List Oper) (hnd : (l.filterMap fun (o : Oper) => o.dst).Nodup) : ∀ (i j : Nat) (oi oj : Oper) (d : Nat), l[i]? = some oi → l[j]? = some oj → oi.dst = some d → oj.dst = some d → i = j := by
  induction l with
  | nil => intro i j oi oj d hi; simp at hi
  | cons x l ih =>
    intro i j oi oj d hi hj hdi hdj
    have hnd' : (l.filterMap fun (o : Oper) => o.dst).Nodup := by
      rw [List.filterMap_cons] at hnd
      cases h : x.dst with
      | none => rw [h] at hnd; exact hnd
      | some y => rw [h] at hnd; exact (List.nodup_cons.1 hnd).2
    cases i with
    | zero =>
      cases j with
      | zero => rfl
      | succ j =>
        simp only [List.getElem?_cons_zero, Option.some.injEq] at hi
        simp only [List.getElem?_cons_succ] at hj
        subst hi
        rw [List.filterMap_cons, hdi] at hnd
        have : d ∈ l.filterMap fun (o : Oper) => o.dst := List.mem_filterMap.2 ⟨oj, List.mem_of_getElem? hj, hdj⟩
        exact absurd this (List.nodup_cons.1 hnd).1
    | succ i =>
      cases j with
      | zero =>
        simp only [List.getElem?_cons_zero, Option.some.injEq] at hj
        simp only [List.getElem?_cons_succ] at hi
        subst hj
        rw [List.filterMap_cons, hdj] at hnd
        have : d ∈ l.filterMap fun (o : Oper) => o.dst := List.mem_filterMap.2 ⟨oi, List.mem_of_getElem? hi, hdi⟩
        exact absurd this (List.nodup_cons.1 hnd).1
      | succ j =>
        simp only [List.getElem?_cons_succ] at hi hj
        rw [ih hnd' i j oi oj d hi hj hdi hdj]

theorem op_tmp {o : Oper} {a : Act} {w : World} {K : Act → World → Prop} (s : Nat) (v : Value) (ho : o.op = .move (.tmp s)) (hv : a.tmps.getD s undef = v) (hK : K (a.put o.dst v) w) : o.wp P a w K Q :=
  BigFrame.wp_move (.tmp s) ho (by show K (a.put o.dst (a.tmps.getD s undef)) w; rw [hv]; exact hK)

/-- THE RULE. -/
theorem region_any {id : Nat} (a0 : Act) (w0 : World) (C : World → Prop) (V : Nat → Value → World → Prop) (hm : P.follows .mixedOrders = true)
    (hac : (ops.toList.mapIdx fun i (o : Oper) => o.after.all fun (e : Edge) => decide (e.on < i)).all (fun b => b) = true) (hg : ops.toList.all (fun (o : Oper) => o.guard.isNone) = true)
    (hdst : ((ops.toList.filterMap fun (o : Oper) => o.dst).Nodup ∧ ops.toList.all (fun (o : Oper) => match o.dst with | some d => decide (d < a0.tmps.size) | none => true) = true))
    (hC : C w0.drew) (hst : ∀ i v w w', Below w.heap.size w w' → V i v w → V i v w')
    (hop : opsOk P ops Q a0 C V 0 ops.toList)
    (hend : ∀ a w, C w → Below w0.heap.size w0 w → a.defers = a0.defers → a.tmps.size = a0.tmps.size → (∀ s, ops.toList.all (fun (o : Oper) => o.dst != some s) = true → a.tmps.getD s undef = a0.tmps.getD s undef) →
      (∀ (i : Nat) (o : Oper) (d : Nat), ops[i]? = some o → o.dst = some d → V i (a.tmps.getD d undef) w) → Q .normal a w) :
    (Code.region id ops true).wp P Q a0 w0 := by
  have hac' : ∀ (i : Nat) (o : Oper), ops[i]? = some o → ∀ e : Edge, e ∈ o.after → e.on < i := by
    intro i o hi e he
    rw [List.all_eq_true] at hac
    have := hac (o.after.all fun e => decide (e.on < i)) (by
      rw [List.mem_mapIdx]
      have hlt := (Array.getElem?_eq_some_iff.1 hi).1
      refine ⟨i, by simpa using hlt, ?_⟩
      have := (Array.getElem?_eq_some_iff.1 hi).2
      simp [this])
    rw [Array.all_eq_true_iff_forall_mem] at this
    simpa using this e he
  have hdlt : ∀ o : Oper, o ∈ ops.toList → ∀ d, o.dst = some d → d < a0.tmps.size := by
    intro o ho d hd
    have := List.all_eq_true.1 hdst.2 o ho
    rw [hd] at this
    simpa using this
  have hinj : ∀ (i j : Nat) (oi oj : Oper) (d : Nat), ops[i]? = some oi → ops[j]? = some oj → oi.dst = some d → oj.dst = some d → i = j := by
    intro i j oi oj d hi hj hdi hdj
    rw [← Array.getElem?_toList] at hi hj
    exact dst_inj _ hdst.1 i j oi oj d hi hj hdi hdj
  refine wp_region_any hm ?_
  refine wpAny_inv hac' (fun L a w => C w ∧ Below w0.heap.size w0 w ∧ a.defers = a0.defers ∧ a.tmps.size = a0.tmps.size ∧
      (∀ s, ops.toList.all (fun (o : Oper) => o.dst != some s) = true → a.tmps.getD s undef = a0.tmps.getD s undef) ∧
      (∀ (i : Nat) (o : Oper) (d : Nat), ops[i]? = some o → o.dst = some d → L[i]? = some true → V i (a.tmps.getD d undef) w)) ?_ ?_ _ _ _ _ (by simp) ?_ ?_
  · intro i o ho L a w hs ⟨h1, h2, h3, h4, h5, h6⟩ hi he
    have hom : o ∈ ops.toList := by rw [← Array.getElem?_toList] at ho; exact List.mem_of_getElem? ho
    have hgo : o.guard = none := by have := List.all_eq_true.1 hg o hom; simpa using this
    unfold wpOp
    rw [ho]
    simp only []
    rw [if_pos (by simp [Region.wanted, hgo])]
    refine .inl (opsOk_at ops.toList 0 hop i o (by rw [Array.getElem?_toList]; exact ho) a w h1 h5 ?_ _ ?_)
    · intro e hem hb oe d hoe hd
      exact h6 e.on oe d hoe hd (he e hem hb)
    · intro v w' hv hc hbl
      rw [Nat.zero_add] at hv
      refine ⟨hc, h2.trans (hbl.mono h2.size), ?_, ?_, ?_, ?_⟩
      · rw [← h3]; cases o.dst <;> rfl
      · rw [← h4]; cases o.dst <;> simp [Act.put]
      · intro s hsn
        rw [← h5 s hsn]
        cases hdo : o.dst with
        | none => rfl
        | some d => exact eval_put_other a d s v (fun e => by have := List.all_eq_true.1 hsn o hom; rw [hdo, e] at this; simp at this)
      · intro j oj d hj hdj hLj
        by_cases e : j = i
        · subst e
          rw [ho] at hj
          obtain rfl : o = oj := by simpa using hj
          rw [hdj, eval_put_same a d v (by rw [h4]; exact hdlt o hom d hdj)]
          exact hv
        · have hLj' : L[j]? = some true := by
            rw [Array.getElem?_setIfInBounds, if_neg (fun e' => e e'.symm)] at hLj
            exact hLj
          have := h6 j oj d hj hdj hLj'
          have hval : (a.put o.dst v).tmps.getD d undef = a.tmps.getD d undef := by
            cases hdo : o.dst with
            | none => rfl
            | some d' =>
              refine eval_put_other a d' d v (fun e' => e ?_)
              subst e'
              exact hinj j i oj o d' hj ho hdj hdo
          rw [hval]
          exact hst j _ w w' hbl this
  · intro L a w hall ⟨h1, h2, h3, h4, h5, h6⟩
    refine hend a w h1 h2 h3 h4 h5 fun i o d ho hd => h6 i o d ho hd (hall i (Array.getElem?_eq_some_iff.1 ho).1)
  · refine ⟨hC, (Below.refl _ _).drew, rfl, rfl, fun _ _ => rfl, ?_⟩
    intro i o d ho hd hL
    rw [Array.getElem?_replicate] at hL
    split at hL <;> simp_all
  · unfold unlisted
    simp

/-- THE RULE WHERE ONE OPERATION WAITS FOR ALL OTHERS (a store at a statement's end): it is walked by itself, from what all others have found. -/
theorem region_last {id : Nat} {m : Nat} {om : Oper} (a0 : Act) (w0 : World) (C : World → Prop) (V : Nat → Value → World → Prop) (hm : P.follows .mixedOrders = true)
    (hac : (ops.toList.mapIdx fun i (o : Oper) => o.after.all fun (e : Edge) => decide (e.on < i)).all (fun b => b) = true) (hg : ops.toList.all (fun (o : Oper) => o.guard.isNone) = true)
    (hsz : ops.size = m + 1) (hom : ops[m]? = some om) (hdep : (List.range m).all (fun j => om.after.any fun (e : Edge) => decide (e.on = j) && Region.binds .any e) = true)
    (hdst : (((ops.toList.take m).filterMap fun (o : Oper) => o.dst).Nodup ∧ (ops.toList.take m).all (fun (o : Oper) => match o.dst with | some d => decide (d < a0.tmps.size) | none => true) = true))
    (hC : C w0.drew) (hst : ∀ i v w w', Below w.heap.size w w' → V i v w → V i v w')
    (hop : opsOk P (ops.toList.take m).toArray Q a0 C V 0 (ops.toList.take m))
    (hend : ∀ a w, C w → Below w0.heap.size w0 w → a.defers = a0.defers → a.tmps.size = a0.tmps.size → (∀ s, (ops.toList.take m).all (fun (o : Oper) => o.dst != some s) = true → a.tmps.getD s undef = a0.tmps.getD s undef) →
      (∀ (i : Nat) (o : Oper) (d : Nat), i < m → ops[i]? = some o → o.dst = some d → V i (a.tmps.getD d undef) w) → om.wp P a w (Q .normal) Q) :
    (Code.region id ops true).wp P Q a0 w0 := by
  have hac' : ∀ (i : Nat) (o : Oper), ops[i]? = some o → ∀ e : Edge, e ∈ o.after → e.on < i := by
    intro i o hi e he
    rw [List.all_eq_true] at hac
    have := hac (o.after.all fun e => decide (e.on < i)) (by
      rw [List.mem_mapIdx]
      have hlt := (Array.getElem?_eq_some_iff.1 hi).1
      refine ⟨i, by simpa using hlt, ?_⟩
      have := (Array.getElem?_eq_some_iff.1 hi).2
      simp [this])
    rw [Array.all_eq_true_iff_forall_mem] at this
    simpa using this e he
  have htk : ∀ (i : Nat) (o : Oper), i < m → ops[i]? = some o → (ops.toList.take m)[i]? = some o := by
    intro i o hi ho
    rw [List.getElem?_take, if_pos hi, Array.getElem?_toList]; exact ho
  have hdlt : ∀ o : Oper, o ∈ ops.toList.take m → ∀ d, o.dst = some d → d < a0.tmps.size := by
    intro o ho d hd
    have := List.all_eq_true.1 hdst.2 o ho
    rw [hd] at this
    simpa using this
  refine wp_region_any hm ?_
  refine wpAny_inv hac' (fun L a w => (L[m]? = some true → Q .normal a w ∧ ∀ j, j < m → L[j]? = some true) ∧ (L[m]? = some false → C w ∧ Below w0.heap.size w0 w ∧ a.defers = a0.defers ∧ a.tmps.size = a0.tmps.size ∧
      (∀ s, (ops.toList.take m).all (fun (o : Oper) => o.dst != some s) = true → a.tmps.getD s undef = a0.tmps.getD s undef) ∧
      (∀ (i : Nat) (o : Oper) (d : Nat), i < m → ops[i]? = some o → o.dst = some d → L[i]? = some true → V i (a.tmps.getD d undef) w))) ?_ ?_ _ _ _ _ (by simp) ?_ ?_
  · intro i o ho L a w hs ⟨hT, hF⟩ hi he
    have hoA : o ∈ ops.toList := by rw [← Array.getElem?_toList] at ho; exact List.mem_of_getElem? ho
    have hgo : o.guard = none := by have := List.all_eq_true.1 hg o hoA; simpa using this
    have hLm : m < L.size := by omega
    have him : i < ops.size := (Array.getElem?_eq_some_iff.1 ho).1
    unfold wpOp
    rw [ho]
    simp only []
    rw [if_pos (by simp [Region.wanted, hgo])]
    left
    have hLf : L[m]? = some false := by
      rw [Array.getElem?_eq_getElem hLm]
      cases hb : L[m] with
      | false => rfl
      | true =>
        have h1 := (hT (by rw [Array.getElem?_eq_getElem hLm, hb])).2
        by_cases e : i = m
        · subst e; rw [Array.getElem?_eq_getElem hLm, hb] at hi; exact hi
        · have := h1 i (by omega); rw [this] at hi; cases hi
    obtain ⟨h1, h2, h3, h4, h5, h6⟩ := hF hLf
    by_cases e : i = m
    · subst e
      rw [hom] at ho
      obtain rfl : om = o := by simpa using ho
      have hall : ∀ j, j < i → L[j]? = some true := by
        intro j hj
        have := List.all_eq_true.1 hdep j (by simpa using hj)
        rw [Array.any_eq_true] at this
        obtain ⟨x, hx, hxe⟩ := this
        simp only [Bool.and_eq_true, decide_eq_true_eq] at hxe
        have := he _ (Array.getElem_mem hx) hxe.2
        rwa [hxe.1] at this
      refine Oper.wp_mono (fun a' w' hq => ⟨fun _ => ⟨hq, fun j hj => ?_⟩, fun hf => ?_⟩) (hend a w h1 h2 h3 h4 h5 fun j oj d hj hoj hd => h6 j oj d hj hoj hd (hall j hj))
      · rw [Array.getElem?_setIfInBounds, if_neg (by omega)]; exact hall j hj
      · rw [Array.getElem?_setIfInBounds, if_pos rfl, if_pos hLm] at hf; cases hf
    · have hilt : i < m := by omega
      have hot : o ∈ ops.toList.take m := List.mem_of_getElem? (htk i o hilt ho)
      refine opsOk_at (ops.toList.take m) 0 hop i o (htk i o hilt ho) a w h1 (by simpa using h5) ?_ _ ?_
      · intro ed hem hb oe d hoe hd
        have hlt := hac' i o ho ed hem
        have hoe' : ops[ed.on]? = some oe := by
          rw [List.getElem?_toArray, List.getElem?_take] at hoe
          split at hoe
          · rwa [Array.getElem?_toList] at hoe
          · cases hoe
        exact h6 ed.on oe d (by omega) hoe' hd (he ed hem hb)
      · intro v w' hv hc hbl
        rw [Nat.zero_add] at hv
        refine ⟨fun ht => ?_, fun _ => ⟨hc, h2.trans (hbl.mono h2.size), ?_, ?_, ?_, ?_⟩⟩
        · rw [Array.getElem?_setIfInBounds, if_neg e, hLf] at ht; cases ht
        · rw [← h3]; cases o.dst <;> rfl
        · rw [← h4]; cases o.dst <;> simp [Act.put]
        · intro s hsn
          rw [← h5 s hsn]
          cases hdo : o.dst with
          | none => rfl
          | some d => exact eval_put_other a d s v (fun e => by have := List.all_eq_true.1 hsn o hot; rw [hdo, e] at this; simp at this)
        · intro j oj d hjm hj hdj hLj
          by_cases e : j = i
          · subst e
            rw [ho] at hj
            obtain rfl : o = oj := by simpa using hj
            rw [hdj, eval_put_same a d v (by rw [h4]; exact hdlt o hot d hdj)]
            exact hv
          · have hLj' : L[j]? = some true := by
              rw [Array.getElem?_setIfInBounds, if_neg (fun e' => e e'.symm)] at hLj
              exact hLj
            have := h6 j oj d hjm hj hdj hLj'
            have hval : (a.put o.dst v).tmps.getD d undef = a.tmps.getD d undef := by
              cases hdo : o.dst with
              | none => rfl
              | some d' =>
                refine eval_put_other a d' d v (fun e' => e ?_)
                subst e'
                exact dst_inj _ hdst.1 j i oj o d' (htk j oj hjm hj) (htk i o hilt ho) hdj hdo
            rw [hval]
            exact hst j _ w w' hbl this
  · intro L a w hall ⟨hT, _⟩
    exact (hT (hall m (by omega))).1
  · refine ⟨fun ht => ?_, fun _ => ⟨hC, (Below.refl _ _).drew, rfl, rfl, fun _ _ => rfl, ?_⟩⟩
    · rw [Array.getElem?_replicate] at ht; split at ht <;> simp_all
    · intro i o d _ ho hd hL
      rw [Array.getElem?_replicate] at hL
      split at hL <;> simp_all
  · unfold unlisted
    simp

/-- A frame in which operations have written what vs says. -/
def wrote (vs : Nat → Value) : List Oper → Array Value → Array Value
  | [], t => t
  | o :: l, t => wrote vs l (match o.dst with | some d => t.setIfInBounds d (vs d) | none => t)
theorem wrote_nil (vs : Nat → Value) (t : Array Value) : wrote vs [] t = t := rfl
theorem wrote_cons (vs : Nat → Value) (d : Nat) (op : Op) (ty : TypeId) (pos : String) (af : Array Edge) (g : Option (Nat × Bool)) (l : List Oper) (t : Array Value) :
    wrote vs (⟨some d, op, ty, pos, af, g⟩ :: l) t = wrote vs l (t.setIfInBounds d (vs d)) := rfl
theorem wrote_size (vs : Nat → Value) (l : List Oper) (t : Array Value) : (wrote vs l t).size = t.size := by
  induction l generalizing t with
  | nil => rfl
  | cons o l ih => simp only [wrote]; rw [ih]; cases o.dst <;> simp
theorem wrote_at (vs : Nat → Value) (l : List Oper) (t : Array Value) (s : Nat) (hs : s < t.size) (x : Value)
    (h1 : (∃ o : Oper, o ∈ l ∧ o.dst = some s) → vs s = x) (h2 : (∀ o : Oper, o ∈ l → o.dst ≠ some s) → t.getD s undef = x) : (wrote vs l t).getD s undef = x := by
  induction l generalizing t with
  | nil => exact h2 (by simp)
  | cons o l ih =>
    simp only [wrote]
    refine ih _ (by cases o.dst <;> simp [hs]) (fun ⟨o', ho', hd⟩ => h1 ⟨o', by simp [ho'], hd⟩) ?_
    intro hno
    cases hd : o.dst with
    | none =>
      simp only []
      refine h2 fun o' ho' => ?_
      rcases List.mem_cons.1 ho' with rfl | h
      · rw [hd]; simp
      · exact hno o' h
    | some d =>
      simp only []
      by_cases e : d = s
      · subst e
        have := h1 ⟨o, by simp, hd⟩
        simp [hs, this]
      · have h3 := h2 (fun o' ho' => by
          rcases List.mem_cons.1 ho' with rfl | h
          · rw [hd]; simpa using e
          · exact hno o' h)
        simp only [Array.getD_eq_getD_getElem?] at h3 ⊢
        rw [Array.getElem?_setIfInBounds, if_neg e]
        exact h3

/-- The same rule; the frame behind it is written out. -/
theorem region_store {id : Nat} {m : Nat} {om : Oper} (a0 : Act) (w0 : World) (C : World → Prop) (V : Nat → Value → World → Prop) (hm : P.follows .mixedOrders = true)
    (hac : (ops.toList.mapIdx fun i (o : Oper) => o.after.all fun (e : Edge) => decide (e.on < i)).all (fun b => b) = true) (hg : ops.toList.all (fun (o : Oper) => o.guard.isNone) = true)
    (hsz : ops.size = m + 1) (hom : ops[m]? = some om) (hdep : (List.range m).all (fun j => om.after.any fun (e : Edge) => decide (e.on = j) && Region.binds .any e) = true)
    (hdst : (((ops.toList.take m).filterMap fun (o : Oper) => o.dst).Nodup ∧ (ops.toList.take m).all (fun (o : Oper) => match o.dst with | some d => decide (d < a0.tmps.size) | none => true) = true))
    (hC : C w0.drew) (hst : ∀ i v w w', Below w.heap.size w w' → V i v w → V i v w')
    (hop : opsOk P (ops.toList.take m).toArray Q a0 C V 0 (ops.toList.take m))
    (hend : ∀ (vs : Nat → Value) (w : World), C w → Below w0.heap.size w0 w → (∀ (i : Nat) (o : Oper) (d : Nat), i < m → ops[i]? = some o → o.dst = some d → V i (vs d) w) →
      om.wp P { tmps := wrote vs (ops.toList.take m) a0.tmps, defers := a0.defers } w (Q .normal) Q) :
    (Code.region id ops true).wp P Q a0 w0 := by
  refine region_last a0 w0 C V hm hac hg hsz hom hdep hdst hC hst hop ?_
  intro a w h1 h2 h3 h4 h5 h6
  have ha : a = { tmps := wrote (fun d => a.tmps.getD d undef) (ops.toList.take m) a0.tmps, defers := a0.defers } := by
    obtain ⟨at', ad⟩ := a
    simp only at h3 h4 h5
    subst h3
    have key : at' = wrote (fun d => at'.getD d undef) (ops.toList.take m) a0.tmps := by
      have hgd : ∀ s, s < at'.size → (wrote (fun d => at'.getD d undef) (ops.toList.take m) a0.tmps).getD s undef = at'.getD s undef := by
        intro s hs
        refine wrote_at _ _ _ s (by omega) _ (fun _ => rfl) (fun hno => ?_)
        exact (h5 s (by rw [List.all_eq_true]; intro o ho; simpa using hno o ho)).symm
      apply Array.ext
      · rw [wrote_size]; exact h4
      · intro i hi1 hi2
        have h := hgd i hi1
        rw [Array.getD_eq_getD_getElem?, Array.getD_eq_getD_getElem?, Array.getElem?_eq_getElem hi1, Array.getElem?_eq_getElem hi2] at h
        exact h.symm
    exact congrArg (fun t => Act.mk t a0.defers) key
  rw [ha]
  exact hend _ w h1 h2 h6
end
end Go.Proofs.Ytngkmlchblgmeaa

namespace Go.Proofs.Ytngkmlchblgmeaa
open Go.RowKit

section
variable {P : Program} {ops : Array Oper} {Q : Exit → Act → World → Prop}
theorem wrote_none (vs : Nat → Value) (op : Op) (ty : TypeId) (pos : String) (af : Array Edge) (g : Option (Nat × Bool)) (l : List Oper) (t : Array Value) :
    wrote vs (⟨none, op, ty, pos, af, g⟩ :: l) t = wrote vs l t := rfl
theorem ready_nil2 (hac : ∀ (i : Nat) (o : Oper), ops[i]? = some o → ∀ e : Edge, e ∈ o.after → Region.binds .any e = true → e.on < i) (L : Array Bool) (hs : L.size = ops.size) (h : Region.ready .any ops L = []) :
    ∀ i, i < ops.size → L[i]? = some true := by
  intro i
  induction i using Nat.strongRecOn with
  | ind i ih =>
    intro hi
    have hL : i < L.size := by omega
    have hm : i ∉ Region.ready .any ops L := by rw [h]; simp
    unfold Region.ready at hm
    rw [List.mem_filter] at hm
    simp only [List.mem_range, hi, true_and] at hm
    have ho : ops[i]? = some ops[i] := Array.getElem?_eq_getElem hi
    rw [ho] at hm
    simp only [Option.map_some, Option.getD_some, Bool.and_eq_true, Bool.not_eq_eq_eq_not, Bool.not_true] at hm
    cases hb : L[i] with
    | true => rw [Array.getElem?_eq_getElem hL, hb]
    | false =>
      exfalso
      apply hm
      refine ⟨by simp [hL, hb], ?_⟩
      rw [Array.all_eq_true_iff_forall_mem]
      intro e he
      cases hbd : Region.binds .any e with
      | false => simp
      | true =>
        have h1 := hac i _ ho e he hbd
        have h2 := ih e.on h1 (by omega)
        have : L.getD e.on false = true := by rw [Array.getD_eq_getD_getElem?, h2]; rfl
        simp [this]

theorem wpAny_inv2 (hac : ∀ (i : Nat) (o : Oper), ops[i]? = some o → ∀ e : Edge, e ∈ o.after → Region.binds .any e = true → e.on < i) (I : Array Bool → Act → World → Prop)
    (hstep : ∀ (i : Nat) (o : Oper), ops[i]? = some o → ∀ L a w, L.size = ops.size → I L a w → L[i]? = some false → (∀ e ∈ o.after, Region.binds .any e = true → L[e.on]? = some true) →
      wpOp P ops Q i (fun a' w' => I (L.setIfInBounds i true) a' w') a w)
    (hend : ∀ L a w, (∀ i, i < ops.size → L[i]? = some true) → I L a w → Q .normal a w) :
    ∀ fuel L a w, L.size = ops.size → I L a w → unlisted L ≤ fuel → wpAny P .any ops Q fuel L a w := by
  intro fuel
  induction fuel with
  | zero =>
    intro L a w hs hI hu
    have hall : ∀ i, i < ops.size → L[i]? = some true := by
      intro i hi
      rw [Array.getElem?_eq_getElem (by omega)]
      cases hb : L[i]'(by omega) with
      | true => rfl
      | false =>
        have : unlisted L = 0 := by omega
        have := unlisted_set L i (by rw [Array.getElem?_eq_getElem (by omega), hb])
        omega
    refine ⟨?_, hend L a w hall hI⟩
    unfold Region.ready
    rw [List.filter_eq_nil_iff]
    intro i hi
    simp only [List.mem_range] at hi
    have h1 := hall i hi
    have h2 : L.getD i true = true := by rw [Array.getD_eq_getD_getElem?, h1]; rfl
    rw [h2]; simp
  | succ fuel ih =>
    intro L a w hs hI hu
    refine ⟨fun hr => hend L a w (ready_nil2 hac L hs hr) hI, ?_⟩
    intro i hi
    unfold Region.ready at hi
    rw [List.mem_filter] at hi
    simp only [List.mem_range] at hi
    obtain ⟨hi1, hi2⟩ := hi
    have ho : ops[i]? = some ops[i] := Array.getElem?_eq_getElem hi1
    rw [ho] at hi2
    simp only [Option.map_some, Option.getD_some, Bool.and_eq_true] at hi2
    obtain ⟨hl, hd⟩ := hi2
    have hlf : L[i]? = some false := by
      rw [Array.getElem?_eq_getElem (by omega)]
      cases hb : L[i]'(by omega) with
      | false => rfl
      | true => simp [hs, hi1, hb] at hl
    refine wpOp_mono (fun a' w' hI' => ih _ a' w' (by simp [hs]) hI' (by have := unlisted_set L i hlf; omega)) (hstep i _ ho L a w hs hI hlf ?_)
    intro e he hb
    rw [Array.all_eq_true_iff_forall_mem] at hd
    have := hd e he
    simp only [hb, Bool.not_true, Bool.false_or] at this
    by_cases hlt : e.on < L.size
    · simp [hlt] at this
      rw [Array.getElem?_eq_getElem hlt, this]
    · simp [hlt] at this

/-- What each operation does, whenever its turn comes: from a state in which C holds, what is not written in this statement is as it was, and what it waits for has its value. -/
def opsOkR (P : Program) (ops : Array Oper) (Q : Exit → Act → World → Prop) (a0 : Act) (C : World → Prop) (R : World → World → Prop) (V : Nat → Value → World → Prop) : Nat → List Oper → Prop
  | _, [] => True
  | i, o :: rest => (∀ (a : Act) (w : World), C w → (∀ s, ops.toList.all (fun (o : Oper) => o.dst != some s) = true → a.tmps.getD s undef = a0.tmps.getD s undef) →
      (∀ e, e ∈ o.after → Region.binds .any e = true → ∀ (oe : Oper) (d : Nat), ops[e.on]? = some oe → oe.dst = some d → V e.on (a.tmps.getD d undef) w) →
      ∀ K : Act → World → Prop, (∀ v w', V i v w' → C w' → R w w' → K (a.put o.dst v) w') → o.wp P a w K Q) ∧ opsOkR P ops Q a0 C R V (i + 1) rest

theorem opsOkR_at {a0 : Act} {C : World → Prop} {R : World → World → Prop} {V : Nat → Value → World → Prop} (l : List Oper) : ∀ (k : Nat), opsOkR P ops Q a0 C R V k l → ∀ i o, l[i]? = some o →
    ∀ (a : Act) (w : World), C w → (∀ s, ops.toList.all (fun (o : Oper) => o.dst != some s) = true → a.tmps.getD s undef = a0.tmps.getD s undef) →
      (∀ e, e ∈ o.after → Region.binds .any e = true → ∀ (oe : Oper) (d : Nat), ops[e.on]? = some oe → oe.dst = some d → V e.on (a.tmps.getD d undef) w) →
      ∀ K : Act → World → Prop, (∀ v w', V (k + i) v w' → C w' → R w w' → K (a.put o.dst v) w') → o.wp P a w K Q := by
  induction l with
  | nil => intro k _ i o h; simp at h
  | cons x l ih =>
    intro k hk i o h
    cases i with
    | zero =>
      simp only [List.getElem?_cons_zero, Option.some.injEq] at h
      subst h
      exact hk.1
    | succ i =>
      simp only [List.getElem?_cons_succ] at h
      have := ih (k + 1) hk.2 i o h
      rw [show k + 1 + i = k + (i + 1) from by omega] at this
      exact this

/-- THE RULE, with one's own word for what may change in memory, and what is told of operations that give no value; the frame behind it is written out. -/
theorem region_gen {id : Nat} (a0 : Act) (w0 : World) (C : World → Prop) (R : World → World → Prop) (hR0 : ∀ w, R w w) (hRt : ∀ a b c, R a b → R b c → R a c) (V : Nat → Value → World → Prop) (hm : P.follows .mixedOrders = true)
    (hac : (ops.toList.mapIdx fun i (o : Oper) => o.after.all fun (e : Edge) => !Region.binds .any e || decide (e.on < i)).all (fun b => b) = true) (hg : ops.toList.all (fun (o : Oper) => o.guard.isNone) = true)
    (hdst : ((ops.toList.filterMap fun (o : Oper) => o.dst).Nodup ∧ ops.toList.all (fun (o : Oper) => match o.dst with | some d => decide (d < a0.tmps.size) | none => true) = true))
    (hC : C w0.drew) (hst : ∀ i v w w', R w w' → V i v w → V i v w')
    (hop : opsOkR P ops Q a0 C R V 0 ops.toList)
    (hend : ∀ (vs : Nat → Value) (w : World), C w → R w0.drew w → (∀ (i : Nat) (o : Oper) (d : Nat), ops[i]? = some o → o.dst = some d → V i (vs d) w) → (∀ (i : Nat) (o : Oper), ops[i]? = some o → o.dst = none → ∃ v, V i v w) →
      Q .normal { tmps := wrote vs ops.toList a0.tmps, defers := a0.defers } w) :
    (Code.region id ops true).wp P Q a0 w0 := by
  have hac' : ∀ (i : Nat) (o : Oper), ops[i]? = some o → ∀ e : Edge, e ∈ o.after → Region.binds .any e = true → e.on < i := by
    intro i o hi e he hbd
    rw [List.all_eq_true] at hac
    have := hac (o.after.all fun e => !Region.binds .any e || decide (e.on < i)) (by
      rw [List.mem_mapIdx]
      have hlt := (Array.getElem?_eq_some_iff.1 hi).1
      refine ⟨i, by simpa using hlt, ?_⟩
      have := (Array.getElem?_eq_some_iff.1 hi).2
      simp [this])
    rw [Array.all_eq_true_iff_forall_mem] at this
    simpa [hbd] using this e he
  have hdlt : ∀ o : Oper, o ∈ ops.toList → ∀ d, o.dst = some d → d < a0.tmps.size := by
    intro o ho d hd
    have := List.all_eq_true.1 hdst.2 o ho
    rw [hd] at this
    simpa using this
  have hinj : ∀ (i j : Nat) (oi oj : Oper) (d : Nat), ops[i]? = some oi → ops[j]? = some oj → oi.dst = some d → oj.dst = some d → i = j := by
    intro i j oi oj d hi hj hdi hdj
    rw [← Array.getElem?_toList] at hi hj
    exact dst_inj _ hdst.1 i j oi oj d hi hj hdi hdj
  refine wp_region_any hm ?_
  refine wpAny_inv2 hac' (fun L a w => C w ∧ R w0.drew w ∧ a.defers = a0.defers ∧ a.tmps.size = a0.tmps.size ∧
      (∀ s, ops.toList.all (fun (o : Oper) => o.dst != some s) = true → a.tmps.getD s undef = a0.tmps.getD s undef) ∧
      (∀ (i : Nat) (o : Oper) (d : Nat), ops[i]? = some o → o.dst = some d → L[i]? = some true → V i (a.tmps.getD d undef) w) ∧
      (∀ (i : Nat) (o : Oper), ops[i]? = some o → o.dst = none → L[i]? = some true → ∃ v, V i v w)) ?_ ?_ _ _ _ _ (by simp) ?_ ?_
  · intro i o ho L a w hs ⟨h1, h2, h3, h4, h5, h6, h7⟩ hi he
    have hom : o ∈ ops.toList := by rw [← Array.getElem?_toList] at ho; exact List.mem_of_getElem? ho
    have hgo : o.guard = none := by have := List.all_eq_true.1 hg o hom; simpa using this
    unfold wpOp
    rw [ho]
    simp only []
    rw [if_pos (by simp [Region.wanted, hgo])]
    refine .inl (opsOkR_at ops.toList 0 hop i o (by rw [Array.getElem?_toList]; exact ho) a w h1 h5 ?_ _ ?_)
    · intro e hem hb oe d hoe hd
      exact h6 e.on oe d hoe hd (he e hem hb)
    · intro v w' hv hc hbl
      rw [Nat.zero_add] at hv
      refine ⟨hc, hRt _ _ _ h2 hbl, ?_, ?_, ?_, ?_, ?_⟩
      · rw [← h3]; cases o.dst <;> rfl
      · rw [← h4]; cases o.dst <;> simp [Act.put]
      · intro s hsn
        rw [← h5 s hsn]
        cases hdo : o.dst with
        | none => rfl
        | some d => exact eval_put_other a d s v (fun e => by have := List.all_eq_true.1 hsn o hom; rw [hdo, e] at this; simp at this)
      · intro j oj d hj hdj hLj
        by_cases e : j = i
        · subst e
          rw [ho] at hj
          obtain rfl : o = oj := by simpa using hj
          rw [hdj, eval_put_same a d v (by rw [h4]; exact hdlt o hom d hdj)]
          exact hv
        · have hLj' : L[j]? = some true := by
            rw [Array.getElem?_setIfInBounds, if_neg (fun e' => e e'.symm)] at hLj
            exact hLj
          have := h6 j oj d hj hdj hLj'
          have hval : (a.put o.dst v).tmps.getD d undef = a.tmps.getD d undef := by
            cases hdo : o.dst with
            | none => rfl
            | some d' =>
              refine eval_put_other a d' d v (fun e' => e ?_)
              subst e'
              exact hinj j i oj o d' hj ho hdj hdo
          rw [hval]
          exact hst j _ w w' hbl this
      · intro j oj hj hdj hLj
        by_cases e : j = i
        · subst e
          exact ⟨v, hv⟩
        · have hLj' : L[j]? = some true := by
            rw [Array.getElem?_setIfInBounds, if_neg (fun e' => e e'.symm)] at hLj
            exact hLj
          obtain ⟨v0, hv0⟩ := h7 j oj hj hdj hLj'
          exact ⟨v0, hst j _ w w' hbl hv0⟩
  · intro L a w hall ⟨h1, h2, h3, h4, h5, h6, h7⟩
    have ha : a = { tmps := wrote (fun d => a.tmps.getD d undef) ops.toList a0.tmps, defers := a0.defers } := by
      obtain ⟨at', ad⟩ := a
      simp only at h3 h4 h5
      subst h3
      have key : at' = wrote (fun d => at'.getD d undef) ops.toList a0.tmps := by
        have hgd : ∀ s, s < at'.size → (wrote (fun d => at'.getD d undef) ops.toList a0.tmps).getD s undef = at'.getD s undef := by
          intro s hs
          refine wrote_at _ _ _ s (by omega) _ (fun _ => rfl) (fun hno => ?_)
          exact (h5 s (by rw [List.all_eq_true]; intro o ho; simpa using hno o ho)).symm
        apply Array.ext
        · rw [wrote_size]; exact h4
        · intro i hi1 hi2
          have h := hgd i hi1
          rw [Array.getD_eq_getD_getElem?, Array.getD_eq_getD_getElem?, Array.getElem?_eq_getElem hi1, Array.getElem?_eq_getElem hi2] at h
          exact h.symm
      exact congrArg (fun t => Act.mk t a0.defers) key
    rw [ha]
    exact hend _ w h1 h2 (fun i o d ho hd => h6 i o d ho hd (hall i (Array.getElem?_eq_some_iff.1 ho).1)) (fun i o ho hd => h7 i o ho hd (hall i (Array.getElem?_eq_some_iff.1 ho).1))
  · refine ⟨hC, hR0 _, rfl, rfl, fun _ _ => rfl, ?_, ?_⟩
    · intro i o d ho hd hL
      rw [Array.getElem?_replicate] at hL
      split at hL <;> simp_all
    · intro i o ho hd hL
      rw [Array.getElem?_replicate] at hL
      split at hL <;> simp_all
  · unfold unlisted
    simp
end
end Go.Proofs.Ytngkmlchblgmeaa

namespace Go.Proofs.Ytngkmlchblgmeaa
open Go.RowKit

section
variable {P : Program} {ops : Array Oper} {Q : Exit → Act → World → Prop}
/-- Operations in turn. -/
def seqW (P : Program) (Q : Exit → Act → World → Prop) : List Oper → Act → World → Prop
  | [], a, w => Q .normal a w
  | o :: rest, a, w => o.wp P a w (fun a w => seqW P Q rest a w) Q ∨ (o.asks P a w ∧ LetsOut Q)
theorem seqW_cons (o : Oper) (rest : List Oper) (a : Act) (w : World) : seqW P Q (o :: rest) a w = (o.wp P a w (fun a w => seqW P Q rest a w) Q ∨ (o.asks P a w ∧ LetsOut Q)) := rfl
theorem seqW_wpList {ops' : Array Oper} : ∀ (l : List Oper) (a : Act) (w : World), l.all (fun o => o.guard.isNone) = true → wpList P ops' Q l a w → seqW P Q l a w
  | [], _, _, _, h => h
  | o :: rest, a, w, hg, h => by
    simp only [List.all_cons, Bool.and_eq_true] at hg
    have hgo : o.guard = none := by simpa using hg.1
    unfold wpList at h
    rw [if_pos (by simp [Region.wanted, hgo])] at h
    rcases h with h | h
    · exact .inl (Oper.wp_mono (fun a' w' h' => seqW_wpList rest a' w' hg.2 h') h)
    · exact .inr h
def tailB (ops : Array Oper) (m : Nat) : Bool :=
  (List.range ops.size).all fun p => decide (p < m) || (List.range p).all fun j => (List.range (p + 1)).any fun k => decide (j < k) && (match ops[k]? with | some o => o.after.any fun (e : Edge) => decide (e.on = j) && Region.binds .any e | none => false)
theorem region_seq {id : Nat} {m : Nat} (a0 : Act) (w0 : World) (C : World → Prop) (R : World → World → Prop) (hR0 : R w0.drew w0.drew) (hRt : ∀ a b c, R a b → R b c → R a c) (V : Nat → Value → World → Prop) (hm : P.follows .mixedOrders = true)
    (hac : (ops.toList.mapIdx fun i (o : Oper) => o.after.all fun (e : Edge) => !Region.binds .any e || decide (e.on < i)).all (fun b => b) = true) (hg : ops.toList.all (fun (o : Oper) => o.guard.isNone) = true)
    (hsz : m < ops.size) (hdep : tailB ops m = true)
    (hdst : (((ops.toList.take m).filterMap fun (o : Oper) => o.dst).Nodup ∧ (ops.toList.take m).all (fun (o : Oper) => match o.dst with | some d => decide (d < a0.tmps.size) | none => true) = true))
    (hC : C w0.drew) (hst : ∀ i v w w', R w w' → V i v w → V i v w')
    (hop : opsOkR P (ops.toList.take m).toArray Q a0 C R V 0 (ops.toList.take m))
    (hend : ∀ (vs : Nat → Value) (w : World), C w → R w0.drew w → (∀ (i : Nat) (o : Oper) (d : Nat), i < m → ops[i]? = some o → o.dst = some d → V i (vs d) w) →
      seqW P Q (ops.toList.drop m) { tmps := wrote vs (ops.toList.take m) a0.tmps, defers := a0.defers } w) :
    (Code.region id ops true).wp P Q a0 w0 := by
  have hac' : ∀ (i : Nat) (o : Oper), ops[i]? = some o → ∀ e : Edge, e ∈ o.after → Region.binds .any e = true → e.on < i := by
    intro i o hi e he hbd
    rw [List.all_eq_true] at hac
    have := hac (o.after.all fun e => !Region.binds .any e || decide (e.on < i)) (by
      rw [List.mem_mapIdx]
      have hlt := (Array.getElem?_eq_some_iff.1 hi).1
      refine ⟨i, by simpa using hlt, ?_⟩
      have := (Array.getElem?_eq_some_iff.1 hi).2
      simp [this])
    rw [Array.all_eq_true_iff_forall_mem] at this
    simpa [hbd] using this e he
  have hnext : ∀ p j, m ≤ p → p < ops.size → j < p → ∃ (k : Nat) (o : Oper) (e : Edge), j < k ∧ k ≤ p ∧ ops[k]? = some o ∧ e ∈ o.after ∧ e.on = j ∧ Region.binds .any e = true := by
    intro p j hmp hp hj
    have h0 := List.all_eq_true.1 hdep p (by simpa using hp)
    rw [Bool.or_eq_true, decide_eq_true_eq] at h0
    rcases h0 with h0 | h0
    · omega
    · have h1 := List.all_eq_true.1 h0 j (by simpa using hj)
      rw [List.any_eq_true] at h1
      obtain ⟨k, hk, h1⟩ := h1
      simp only [List.mem_range] at hk
      simp only [Bool.and_eq_true, decide_eq_true_eq] at h1
      obtain ⟨h1, h3⟩ := h1
      cases ho : ops[k]? with
      | none => rw [ho] at h3; cases h3
      | some o =>
        rw [ho] at h3
        simp only [] at h3
        rw [Array.any_eq_true] at h3
        obtain ⟨x, hx, hxe⟩ := h3
        simp only [Bool.and_eq_true, decide_eq_true_eq] at hxe
        exact ⟨k, o, _, h1, by omega, ho, Array.getElem_mem hx, hxe.1, hxe.2⟩
  have htk : ∀ (i : Nat) (o : Oper), i < m → ops[i]? = some o → (ops.toList.take m)[i]? = some o := by
    intro i o hi ho
    rw [List.getElem?_take, if_pos hi, Array.getElem?_toList]; exact ho
  have hdlt : ∀ o : Oper, o ∈ ops.toList.take m → ∀ d, o.dst = some d → d < a0.tmps.size := by
    intro o ho d hd
    have := List.all_eq_true.1 hdst.2 o ho
    rw [hd] at this
    simpa using this
  have hclosed : ∀ (L : Array Bool) (p : Nat), m ≤ p → p < ops.size → (∀ (k : Nat) (o : Oper) (e : Edge), ops[k]? = some o → L[k]? = some true → e ∈ o.after → Region.binds .any e = true → L[e.on]? = some true) →
      (∀ (o : Oper) (e : Edge), ops[p]? = some o → e ∈ o.after → Region.binds .any e = true → L[e.on]? = some true) → ∀ j, j < p → L[j]? = some true := by
    intro L p hmp hp hcl hr
    have key : ∀ t j, j < p → p - j ≤ t → L[j]? = some true := by
      intro t
      induction t with
      | zero => intro j hj ht; omega
      | succ t ih =>
        intro j hj ht
        obtain ⟨k, o, ed, h1, h2, h4, h5, h6, h7⟩ := hnext p j hmp hp hj
        by_cases ek : k = p
        · subst ek; rw [← h6]; exact hr o ed h4 h5 h7
        · rw [← h6]
          exact hcl k o ed h4 (ih k (by omega) (by omega)) h5 h7
    intro j hj
    exact key (p - j) j hj (Nat.le_refl _)
  have hdrop : ∀ (s : Nat) (o : Oper), ops[s]? = some o → ops.toList.drop s = o :: ops.toList.drop (s + 1) := by
    intro s o ho
    have hs := (Array.getElem?_eq_some_iff.1 ho).1
    rw [List.drop_eq_getElem_cons (by simpa using hs)]
    congr 1
    have := (Array.getElem?_eq_some_iff.1 ho).2
    simpa using this
  refine wp_region_any hm ?_
  refine wpAny_inv2 hac' (fun L a w => (∀ (k : Nat) (o : Oper) (e : Edge), ops[k]? = some o → L[k]? = some true → e ∈ o.after → Region.binds .any e = true → L[e.on]? = some true) ∧
      (((∀ j, m ≤ j → j < ops.size → L[j]? = some false) ∧ C w ∧ R w0.drew w ∧ a.defers = a0.defers ∧ a.tmps.size = a0.tmps.size ∧
      (∀ s, (ops.toList.take m).all (fun (o : Oper) => o.dst != some s) = true → a.tmps.getD s undef = a0.tmps.getD s undef) ∧
      (∀ (i : Nat) (o : Oper) (d : Nat), i < m → ops[i]? = some o → o.dst = some d → L[i]? = some true → V i (a.tmps.getD d undef) w)) ∨
      (∃ s, m < s ∧ s ≤ ops.size ∧ (∀ j, j < s → L[j]? = some true) ∧ (∀ j, s ≤ j → j < ops.size → L[j]? = some false) ∧ seqW P Q (ops.toList.drop s) a w))) ?_ ?_ _ _ _ _ (by simp) ?_ ?_
  · intro i o ho L a w hs ⟨hcl, hAB⟩ hi he
    have hoA : o ∈ ops.toList := by rw [← Array.getElem?_toList] at ho; exact List.mem_of_getElem? ho
    have hgo : o.guard = none := by have := List.all_eq_true.1 hg o hoA; simpa using this
    have him : i < ops.size := (Array.getElem?_eq_some_iff.1 ho).1
    unfold wpOp
    rw [ho]
    simp only []
    rw [if_pos (by simp [Region.wanted, hgo])]
    have hnew : ∀ (k : Nat) (o' : Oper) (e : Edge), ops[k]? = some o' → (L.setIfInBounds i true)[k]? = some true → e ∈ o'.after → Region.binds .any e = true → (L.setIfInBounds i true)[e.on]? = some true := by
      intro k o' e hk hLk hem hbd
      have h1 : L[e.on]? = some true := by
        by_cases ek : i = k
        · subst ek
          rw [ho] at hk
          obtain rfl : o = o' := by simpa using hk
          exact he e hem hbd
        · rw [Array.getElem?_setIfInBounds, if_neg ek] at hLk
          exact hcl k o' e hk hLk hem hbd
      rw [Array.getElem?_setIfInBounds]
      by_cases e2 : i = e.on
      · rw [if_pos e2, if_pos (by omega)]
      · rw [if_neg e2]; exact h1
    have hrdy : ∀ (o' : Oper) (e : Edge), ops[i]? = some o' → e ∈ o'.after → Region.binds .any e = true → L[e.on]? = some true := by
      intro o' e ho' hem hbd
      rw [ho] at ho'
      obtain rfl : o = o' := by simpa using ho'
      exact he e hem hbd
    have hgo2 : ∀ s, m ≤ s → i = s → (∀ j, j < s → L[j]? = some true) → (∀ j, s ≤ j → j < ops.size → L[j]? = some false) → seqW P Q (ops.toList.drop s) a w →
        (o.wp P a w (fun a' w' => (∀ (k : Nat) (o : Oper) (e : Edge), ops[k]? = some o → (L.setIfInBounds i true)[k]? = some true → e ∈ o.after → Region.binds .any e = true → (L.setIfInBounds i true)[e.on]? = some true) ∧
          (((∀ j, m ≤ j → j < ops.size → (L.setIfInBounds i true)[j]? = some false) ∧ C w' ∧ R w0.drew w' ∧ a'.defers = a0.defers ∧ a'.tmps.size = a0.tmps.size ∧
          (∀ s, (ops.toList.take m).all (fun (o : Oper) => o.dst != some s) = true → a'.tmps.getD s undef = a0.tmps.getD s undef) ∧
          (∀ (i' : Nat) (o : Oper) (d : Nat), i' < m → ops[i']? = some o → o.dst = some d → (L.setIfInBounds i true)[i']? = some true → V i' (a'.tmps.getD d undef) w')) ∨
          (∃ s, m < s ∧ s ≤ ops.size ∧ (∀ j, j < s → (L.setIfInBounds i true)[j]? = some true) ∧ (∀ j, s ≤ j → j < ops.size → (L.setIfInBounds i true)[j]? = some false) ∧ seqW P Q (ops.toList.drop s) a' w'))) Q) ∨ (o.asks P a w ∧ LetsOut Q) := by
      intro s hms his h1 h2 h3
      subst his
      rw [hdrop i o ho, seqW_cons] at h3
      refine h3.imp (Oper.wp_mono (fun a' w' hq => ⟨hnew, .inr ⟨i + 1, by omega, by omega, fun j hj => ?_, fun j hj hj2 => ?_, hq⟩⟩)) (fun x => x)
      · rw [Array.getElem?_setIfInBounds]
        by_cases e : i = j
        · rw [if_pos e, if_pos (by omega)]
        · rw [if_neg e]; exact h1 j (by omega)
      · rw [Array.getElem?_setIfInBounds, if_neg (by omega)]
        exact h2 j (by omega) hj2
    rcases hAB with ⟨hf, h1, h2, h3, h4, h5, h6⟩ | ⟨s, hms, hss, hlt, hge, hw⟩
    · by_cases hilt : i < m
      · have hot : o ∈ ops.toList.take m := List.mem_of_getElem? (htk i o hilt ho)
        refine .inl ?_
        refine opsOkR_at (ops.toList.take m) 0 hop i o (htk i o hilt ho) a w h1 (by simpa using h5) ?_ _ ?_
        · intro ed hem hb oe d hoe hd
          have hlt := hac' i o ho ed hem hb
          have hoe' : ops[ed.on]? = some oe := by
            rw [List.getElem?_toArray, List.getElem?_take] at hoe
            split at hoe
            · rwa [Array.getElem?_toList] at hoe
            · cases hoe
          exact h6 ed.on oe d (by omega) hoe' hd (he ed hem hb)
        · intro v w' hv hc hbl
          rw [Nat.zero_add] at hv
          refine ⟨hnew, .inl ⟨fun j hj hj2 => ?_, hc, hRt _ _ _ h2 hbl, ?_, ?_, ?_, ?_⟩⟩
          · rw [Array.getElem?_setIfInBounds, if_neg (by omega)]; exact hf j hj hj2
          · rw [← h3]; cases o.dst <;> rfl
          · rw [← h4]; cases o.dst <;> simp [Act.put]
          · intro s hsn
            rw [← h5 s hsn]
            cases hdo : o.dst with
            | none => rfl
            | some d => exact eval_put_other a d s v (fun e => by have := List.all_eq_true.1 hsn o hot; rw [hdo, e] at this; simp at this)
          · intro j oj d hjm hj hdj hLj
            by_cases e : j = i
            · subst e
              rw [ho] at hj
              obtain rfl : o = oj := by simpa using hj
              rw [hdj, eval_put_same a d v (by rw [h4]; exact hdlt o hot d hdj)]
              exact hv
            · have hLj' : L[j]? = some true := by
                rw [Array.getElem?_setIfInBounds, if_neg (fun e' => e e'.symm)] at hLj
                exact hLj
              have := h6 j oj d hjm hj hdj hLj'
              have hval : (a.put o.dst v).tmps.getD d undef = a.tmps.getD d undef := by
                cases hdo : o.dst with
                | none => rfl
                | some d' =>
                  refine eval_put_other a d' d v (fun e' => e ?_)
                  subst e'
                  exact dst_inj _ hdst.1 j i oj o d' (htk j oj hjm hj) (htk i o hilt ho) hdj hdo
              rw [hval]
              exact hst j _ w w' hbl this
      · have hall := hclosed L i (by omega) him hcl hrdy
        have hieq : i = m := by
          by_cases e : i = m
          · exact e
          · have := hall m (by omega); rw [hf m (Nat.le_refl _) hsz] at this; cases this
        have ha : a = { tmps := wrote (fun d => a.tmps.getD d undef) (ops.toList.take m) a0.tmps, defers := a0.defers } := by
          obtain ⟨at', ad⟩ := a
          simp only at h3 h4 h5
          subst h3
          have key : at' = wrote (fun d => at'.getD d undef) (ops.toList.take m) a0.tmps := by
            have hgd : ∀ s, s < at'.size → (wrote (fun d => at'.getD d undef) (ops.toList.take m) a0.tmps).getD s undef = at'.getD s undef := by
              intro s hs
              refine wrote_at _ _ _ s (by omega) _ (fun _ => rfl) (fun hno => ?_)
              exact (h5 s (by rw [List.all_eq_true]; intro o ho; simpa using hno o ho)).symm
            apply Array.ext
            · rw [wrote_size]; exact h4
            · intro i hi1 hi2
              have h := hgd i hi1
              rw [Array.getD_eq_getD_getElem?, Array.getD_eq_getD_getElem?, Array.getElem?_eq_getElem hi1, Array.getElem?_eq_getElem hi2] at h
              exact h.symm
          exact congrArg (fun t => Act.mk t a0.defers) key
        have hw := hend (fun d => a.tmps.getD d undef) w h1 h2 (fun j oj d hj hoj hd => h6 j oj d hj hoj hd (hall j (by omega)))
        rw [← ha] at hw
        exact hgo2 m (Nat.le_refl _) hieq (fun j hj => hall j (by omega)) hf hw
    · have hige : s ≤ i := by
        rcases Nat.lt_or_ge i s with h | h
        · rw [hlt i h] at hi; cases hi
        · exact h
      have hieq : i = s := by
        by_cases e : i = s
        · exact e
        · have := hclosed L i (by omega) him hcl hrdy s (by omega)
          rw [hge s (Nat.le_refl _) (by omega)] at this; cases this
      exact hgo2 s (by omega) hieq hlt hge hw
  · intro L a w hall ⟨_, hAB⟩
    rcases hAB with ⟨hf, _⟩ | ⟨s, hms, hss, hlt, hge, hw⟩
    · have := hf m (Nat.le_refl _) hsz
      rw [hall m hsz] at this; cases this
    · have hs : s = ops.size := by
        rcases Nat.lt_or_ge s ops.size with h | h
        · have := hge s (Nat.le_refl _) h; rw [hall s h] at this; cases this
        · omega
      rw [List.drop_of_length_le (by simp; omega)] at hw
      exact hw
  · refine ⟨fun k o e _ hk => ?_, .inl ⟨fun j _ hj => ?_, hC, hR0, rfl, rfl, fun _ _ => rfl, ?_⟩⟩
    · rw [Array.getElem?_replicate] at hk; split at hk <;> simp_all
    · rw [Array.getElem?_replicate, if_pos hj]
    · intro i o d _ ho hd hL
      rw [Array.getElem?_replicate] at hL
      split at hL <;> simp_all
  · unfold unlisted
    simp
end
end Go.Proofs.Ytngkmlchblgmeaa

namespace Go.Proofs.Ytngkmlchblgmeaa
open Go.RowKit Tri

theorem xor_u32 (r : Nat) (hr : r < 4294967296) : bits .xor .u32 IntKind.u32.max (r : Int) = ((4294967295 - r : Nat) : Int) := by
  have := Go.u32_xor_nat 4294967295 r (by omega) hr
  rw [← not_xor r hr, ← this]; rfl

set_option maxHeartbeats 1000000 in
set_option maxRecDepth 100000 in
theorem crc_Sum (b : Nat) (p : Option Addr) (c n : Nat) (l : List ByteArray) (w : World) (hC : isC w b) (hn : n = l.length) (hp : cellsS w p l) (hl : l.length ≤ 140737488351232) (hz : ∀ s ∈ l, s.size ≤ 140737488351232) :
    Calls Try.prog 112 #[.pointer (some ⟨b, 0, none⟩), .slice p n c] w fun e w' => e = .returned (.int .i64 (csum (lb l))) ∧ Below w.heap.size w w' := by
  subst hn
  have HP := hid hp
  have HC := hid hC
  have HZ := hid hz
  clear hp hC hz
  have hcv := fun (w : World) (s : ByteArray) => Lib.run_convert_string_bytes (P := Try.prog) w 9 111 5 s Try.underlying9 Try.underlying111 Try.underlying5
  go_enter Try.func112, Try.ntmps112
  go_wp2
  go_loopw [5, 14] (fun r i wr => ∃ k : Nat, k ≤ l.length ∧ i = .int .i64 k ∧ r = .int .u32 (creg 4294967295 (lb (l.take k)) : Nat) ∧ Below w.heap.size w wr) (fun _ i _ => l.length - (intOf i).toNat)
  case atStart => exact ⟨0, Nat.zero_le _, rfl, rfl, Below.refl _ _⟩
  case round =>
    obtain ⟨k, hk, rfl, rfl, hB⟩ := hrel
    have HB := hid hB
    clear hB
    have hR : creg 4294967295 (lb (l.take k)) < 4294967296 := creg_lt _ (lb_lt _) _ (by omega)
    by_cases hlt : k < l.length
    · obtain ⟨a, o, rfl, hc0⟩ := HP.out k hlt
      have hc : wr.cell? ⟨a, o + k, none⟩ = some (.string (l.getD k ByteArray.empty)) := by
        rw [HB.out.cell (p := ⟨a, o + k, none⟩) (block_lt_of_cell hc0)]; exact hc0
      have hsz : (l.getD k ByteArray.empty).size ≤ 140737488351232 := HZ.out _ (by rw [List.getD_eq_getElem?_getD, List.getElem?_eq_getElem hlt]; exact List.getElem_mem hlt)
      have hts : Hid (lb (l.take (k + 1)) = lb (l.take k) ++ sb (l.getD k ByteArray.empty)) := by
        show _ = _; rw [take_snocS l k hlt]; simp [lb]
      clear hc0
      generalize l.getD k ByteArray.empty = s at *
      generalize hRe0 : creg 4294967295 (lb (l.take k)) = R at *
      have hRe := hid hRe0
      clear hRe0
      go_wp2
      have hW := hid (bytes_below wr 5 s)
      have hcell := hid (Lib.bytesWorld_cell wr 5 s)
      generalize Lib.bytesWorld wr 5 s = W1 at *
      generalize grownCap wr s.size 0 5 = cap at *
      have HB2 : Hid (Below w.heap.size w W1) := HB.out.trans (hW.out.mono (by have := HB.out.size; omega))
      generalize hbs : wr.heap.size = bs at *
      clear hbs
      go_loop [5, 21] (fun r i => ∃ j : Nat, j ≤ s.size ∧ i = .int .i64 j ∧ r = .int .u32 (creg R ((sb s).take j) : Nat)) (fun _ i => s.size - (intOf i).toNat)
      case atStart => exact ⟨0, Nat.zero_le _, rfl, rfl⟩
      case round =>
        obtain ⟨j, hj, rfl, rfl⟩ := hrel
        have hRj : creg R ((sb s).take j) < 4294967296 := creg_lt _ (fun x hx => sb_lt s x (List.mem_of_mem_take hx)) _ hR
        have hC1 : Hid (isC W1 b) := HC.out.below HB2.out HC.out.lt
        by_cases hjl : j < s.size
        · have hcj := hcell.out j hjl
          rw [← sb_getD s j hjl] at hcj
          have hx : (sb s).getD j 0 < 256 := sb_lt s _ (getD_mem _ j (by rw [sb_length]; exact hjl))
          have hnx : Hid (creg R ((sb s).take (j + 1)) = cbyte (creg R ((sb s).take j)) ((sb s).getD j 0)) := by
            show _ = _; rw [take_snocN _ _ (by rw [sb_length]; exact hjl), creg_append]; rfl
          generalize (sb s).getD j 0 = x at *
          generalize creg R ((sb s).take j) = Q at *
          go_wp2_with fail
          refine Calls.mono (crc_step b Q x _ hC1.out hRj hx) ?_; rintro e w' ⟨rfl, rfl⟩
          go_wp2
          go_round
          case rel => exact ⟨j + 1, by omega, by go_num, by rw [hnx.out]⟩
          case measure => simp [intOf]; omega
        · have hnx : Hid (creg 4294967295 (lb (l.take (k + 1))) = creg R ((sb s).take j)) := by
            show _ = _
            rw [hts.out, creg_append, hRe.out, List.take_of_length_le (by rw [sb_length]; omega)]
          generalize creg R ((sb s).take j) = Q at *
          go_wp2
          go_roundw
          case rel => exact ⟨k + 1, by omega, by go_num, by rw [hnx.out], HB2.out⟩
          case measure => simp [intOf]; omega
    · have hpe : Hid (csum (lb l) = 4294967295 - creg 4294967295 (lb (l.take k))) := by show _ = _; rw [List.take_of_length_le (by omega)]; rfl
      generalize creg 4294967295 (lb (l.take k)) = R at *
      have hu := xor_u32 R hR
      have hsg : IntKind.u32.signed = false := rfl
      clear hcv
      go_wp2
      go_ret
      exact ⟨by rw [hpe.out]; rfl, HB.out⟩
end Go.Proofs.Ytngkmlchblgmeaa

namespace Go.Proofs.Ytngkmlchblgmeaa
open Go.RowKit Tri

/-- What was there is as it was, and a Crc lies in block b. -/
def KeepsC (w0 : World) (b : Nat) (w : World) : Prop := Below w0.heap.size w0 w ∧ isC w b
theorem KeepsC.below {w0 w w' : World} {b : Nat} (h : KeepsC w0 b w) (hb : Below w.heap.size w w') : KeepsC w0 b w' :=
  ⟨h.1.trans (hb.mono h.1.size), h.2.below hb h.2.lt⟩
theorem KeepsC.alloc {w0 w : World} {b : Nat} (h : KeepsC w0 b w) (o : Obj) : KeepsC w0 b (w.alloc o) := ⟨h.1.alloc h.1.size o, h.2.alloc o⟩
theorem crc_NewK (w0 w : World) (h : Below w0.heap.size w0 w) : Calls Try.prog 72 #[] w fun e w' => ∃ b, e = .returned (.pointer (some ⟨b, 0, none⟩)) ∧ KeepsC w0 b w' :=
  (crc_New w).mono fun _ _ ⟨he, hw⟩ => ⟨w.heap.size, he, hw ▸ h.alloc h.size _, hw ▸ isC.new w⟩
/-- Of texts that lie in a new array. -/
theorem crc_SumK (w0 : World) (b s n c : Nat) (l : List ByteArray) (vs : Array Value) (w : World) (t : TypeId) (K : KeepsC w0 b w) (hs : s = w.heap.size) (hn : n = l.length) (hv : vs.toList = l.map Value.string)
    (hl : l.length ≤ 140737488351232) (hz : ∀ s ∈ l, s.size ≤ 140737488351232) :
    Calls Try.prog 112 #[.pointer (some ⟨b, 0, none⟩), .slice (some ⟨s, 0, none⟩) n c] (w.alloc (.cells vs t)) fun e w' => e = .returned (.int .i64 (csum (lb l))) ∧ KeepsC w0 b w' := by
  subst hs
  exact (crc_Sum b _ c n l _ (K.2.alloc _) hn (cellsS.new w l vs t hv) hl hz).mono fun _ _ ⟨he, hb⟩ => ⟨he, (K.alloc _).below hb⟩
theorem crc_Sum_nil (p : Option Addr) (n c : Nat) (w : World) : Calls Try.prog 112 #[.pointer none, .slice p n c] w fun e w' => e = .returned (.int .i64 0) ∧ w = w' := by
  go_enter Try.func112, Try.ntmps112
  go_wp2
  go_ret
  exact ⟨rfl, rfl⟩
end Go.Proofs.Ytngkmlchblgmeaa

namespace Go.Proofs.Ytngkmlchblgmeaa
open Go.RowKit Tri

set_option maxHeartbeats 4000000 in
set_option maxRecDepth 100000 in
theorem log_made_nil (d p st : Int) (w : World) :
    Calls Try.prog 46 #[.pointer none, .agg #[.int .i64 d, .int .i64 p, .int .i64 st]] w fun e w' => e = .returned (.pointer none) ∧ Below w.heap.size w w' := by
  obtain ⟨w1, hw1, -, hG, hB⟩ := geo_box w 39 d p st
  have HB := hid hB
  clear hG hB
  (go_enter Try.func46, Try.ntmps46; try simp only [List.append])
  go_wp2_with ((with_reducible refine wpList_unguard ?_ ?_); (focus rfl))
  (refine wp_region_quietC (fun w' => Below (w1).heap.size w1 w') (by kernel_rfl) (by kernel_rfl) ((Below.refl _ _).drew) ?_; (repeat (first | go_big_quiet_skip | (go_big_quiet_want; first | (go_big_quiet_op; go_big_quiet_on) | (apply Exists.intro; refine And.intro (fun wq hq => ?_) ?_; (focus (skip; (try go_simp); first | done | rfl | (fail))); go_simp; go_big_quiet_on)))); refine quietC_nil _ rfl ?_; intro wE hE)
  have HE := hid (HB.out.trans (hE.mono HB.out.size))
  clear hE
  go_wp2_with ((with_reducible refine wpList_unguard ?_ ?_); (focus rfl))
  go_ret
  exact ⟨rfl, HE.out⟩
set_option maxHeartbeats 4000000 in
set_option maxRecDepth 100000 in
theorem log_made_no (i : DI) (n : Nat) (s : FS) (d p st : Int) (w : World) (h : DevP w i n s) (hs : i64r st) (hno : geoOk d p st = false ∨ (n : Int) < allI d p st) :
    Calls Try.prog 46 #[.pointer (some ⟨i.D, 0, none⟩), .agg #[.int .i64 d, .int .i64 p, .int .i64 st]] w fun e w' => e = .returned (.pointer none) ∧ Below w.heap.size w w' := by
  obtain ⟨w1, hw1, -, hG, hB⟩ := geo_box w 39 d p st
  have HB := hid hB
  have HD := hid (h.below hB)
  have c0 := hG.c0
  have c1 := hG.c1
  have c2 := hG.c2
  clear hG hB h
  have HA := fun w => hid (geo_All d p st w hs)
  cases hok : geoOk d p st with
  | false =>
    have HR := fun w => hid (geo_Right d p st w)
    rw [hok] at HR
    clear hno hok
    (go_enter Try.func46, Try.ntmps46; try simp only [List.append])
    go_wp2_with ((with_reducible refine wpList_unguard ?_ ?_); (focus rfl))
    (refine wp_region_quietC (fun w' => Below (w1).heap.size w1 w') (by kernel_rfl) (by kernel_rfl) ((Below.refl _ _).drew) ?_; (repeat (first | go_big_quiet_skip | (go_big_quiet_want; first | (go_big_quiet_op; go_big_quiet_on) | (apply Exists.intro; refine And.intro (fun wq hq => ?_) ?_; (focus ((have a0' := (hq.cell (block_lt_of_cell c0)).trans c0; have a1' := (hq.cell (block_lt_of_cell c1)).trans c1; have a2' := (hq.cell (block_lt_of_cell c2)).trans c2); (try go_simp); first | done | rfl | ((go_at_call 52; refine Calls.mono (HR _).out ?_; rintro e w6 ⟨rfl, hb5⟩; exact ⟨rfl, hq.trans (hb5.mono hq.size)⟩)))); go_simp; go_big_quiet_on)))); refine quietC_nil _ rfl ?_; intro wE hE)
    have HE := hid (HB.out.trans (hE.mono HB.out.size))
    clear hE
    go_wp2_with ((with_reducible refine wpList_unguard ?_ ?_); (focus rfl))
    go_ret
    exact ⟨rfl, HE.out⟩
  | true =>
    have hlt : decide ((n : Int) < allI d p st) = true := decide_eq_true (by rcases hno with h | h; rw [hok] at h; cases h; exact h)
    have HR := fun w => hid (geo_Right d p st w)
    rw [hok] at HR
    clear hno hok
    generalize allI d p st = A at *
    (go_enter Try.func46, Try.ntmps46; try simp only [List.append])
    go_wp2_with ((with_reducible refine wpList_unguard ?_ ?_); (focus rfl))
    (refine wp_region_quietC (fun w' => Below (w1).heap.size w1 w') (by kernel_rfl) (by kernel_rfl) ((Below.refl _ _).drew) ?_; (repeat (first | go_big_quiet_skip | (go_big_quiet_want; first | (go_big_quiet_op; go_big_quiet_on) | (apply Exists.intro; refine And.intro (fun wq hq => ?_) ?_; (focus ((have a0' := (hq.cell (block_lt_of_cell c0)).trans c0; have a1' := (hq.cell (block_lt_of_cell c1)).trans c1; have a2' := (hq.cell (block_lt_of_cell c2)).trans c2); (try go_simp); first | done | rfl | ((first | (go_at_call 52; refine Calls.mono (HR _).out ?_; rintro e w6 ⟨rfl, hb5⟩; exact ⟨rfl, hq.trans (hb5.mono hq.size)⟩) | (go_at_call 58; refine Calls.mono (dev_Sectors i n s _ (HD.out.below hq)) ?_; rintro e w6 ⟨rfl, rfl⟩; exact ⟨rfl, hq⟩) | (go_at_call 18; refine Calls.mono (HA _).out ?_; rintro e w6 ⟨rfl, hb5⟩; exact ⟨rfl, hq.trans (hb5.mono hq.size)⟩))))); go_simp; go_big_quiet_on)))); refine quietC_nil _ rfl ?_; intro wE hE)
    have HE := hid (HB.out.trans (hE.mono HB.out.size))
    clear hE
    go_wp2_with ((with_reducible refine wpList_unguard ?_ ?_); (focus rfl))
    go_ret
    exact ⟨rfl, HE.out⟩
def madV (D N : Nat) (j : Nat) (v : Value) (w : World) : Prop := match j with
  | 0 => v = .pointer (some ⟨D, 0, none⟩)
  | 1 => v = .agg #[.int .i64 1, .int .i64 2, .int .i64 1]
  | 2 => ∃ b, v = .pointer (some ⟨b, 0, none⟩) ∧ isC w b ∧ N ≤ b
  | _ => True
theorem madV_st (D N : Nat) (j : Nat) (v : Value) (w w' : World) (hb : Below w.heap.size w w') (h : madV D N j v w) : madV D N j v w' := by
  unfold madV at *
  split at h
  · exact h
  · exact h
  · obtain ⟨b, h1, h2, h3⟩ := h
    exact ⟨b, h1, h2.below hb h2.lt, h3⟩
  · exact h
set_option maxHeartbeats 4000000 in
set_option maxRecDepth 100000 in
theorem log_made (i : DI) (s : FS) (w : World) (h : DevP w i 27 s) :
    Calls Try.prog 46 #[.pointer (some ⟨i.D, 0, none⟩), .agg #[.int .i64 1, .int .i64 2, .int .i64 1]] w fun e w' => ∃ L S, e = .returned (.pointer (some ⟨L, 0, none⟩)) ∧ w.heap.size ≤ S ∧ w.heap.size ≤ L ∧ S < L ∧ Blk w' L 102 (logC i.D S 0 (.slice none 0 0) 0 0 false false) ∧ isC w' S ∧ Below w.heap.size w w' := by
  obtain ⟨w1, hw1, -, hG, hB⟩ := geo_box w 39 1 2 1
  have HB := hid hB
  have HG := hid hG
  have HD := hid (h.below hB)
  have c0 := hG.c0
  have c1 := hG.c1
  have c2 := hG.c2
  clear hG hB h
  have HA := fun w => hid (geo_All 1 2 1 w (by unfold i64r; omega))
  rw [show allI 1 2 1 = ((27 : Nat) : Int) from by decide] at HA
  have HR := fun w => hid (geo_Right 1 2 1 w)
  rw [show geoOk 1 2 1 = true from by decide] at HR
  (go_enter Try.func46, Try.ntmps46; try simp only [List.append])
  go_wp2_with ((with_reducible refine wpList_unguard ?_ ?_); (focus rfl))
  (refine wp_region_quietC (fun w' => Below (w1).heap.size w1 w') (by kernel_rfl) (by kernel_rfl) ((Below.refl _ _).drew) ?_; (repeat (first | go_big_quiet_skip | (go_big_quiet_want; first | (go_big_quiet_op; go_big_quiet_on) | (apply Exists.intro; refine And.intro (fun wq hq => ?_) ?_; (focus ((have a0' := (hq.cell (block_lt_of_cell c0)).trans c0; have a1' := (hq.cell (block_lt_of_cell c1)).trans c1; have a2' := (hq.cell (block_lt_of_cell c2)).trans c2); (try go_simp); first | done | rfl | ((first | (go_at_call 52; refine Calls.mono (HR _).out ?_; rintro e w6 ⟨rfl, hb5⟩; exact ⟨rfl, hq.trans (hb5.mono hq.size)⟩) | (go_at_call 58; refine Calls.mono (dev_Sectors i 27 s _ (HD.out.below hq)) ?_; rintro e w6 ⟨rfl, rfl⟩; exact ⟨rfl, hq⟩) | (go_at_call 18; refine Calls.mono (HA _).out ?_; rintro e w6 ⟨rfl, hb5⟩; exact ⟨rfl, hq.trans (hb5.mono hq.size)⟩))))); go_simp; go_big_quiet_on)))); refine quietC_nil _ rfl ?_; intro wE hE)
  have HE := hid (HB.out.trans (hE.mono HB.out.size))
  have HGE := hid (HG.out.below hE)
  clear hE HB HG c0 c1 c2 HD HA HR
  go_wp2_with ((with_reducible refine wpList_unguard ?_ ?_); (focus rfl))
  refine region_seq (m := 3) _ _ (fun w' => Below wE.heap.size wE w') (fun a b => Below a.heap.size a b) (Below.refl _ _) (fun a b c h1 h2 => h1.trans (h2.mono h1.size)) (madV i.D wE.heap.size) (by kernel_rfl) (by kernel_rfl) (by kernel_rfl) (by decide) (by kernel_rfl) ⟨by decide, rfl⟩ ((Below.refl _ _).drew) (madV_st i.D _) ?_ ?_
  · refine ⟨fun A w3 hC hu hd K hK => ?_, ?_⟩
    · exact op_tmp 0 _ rfl (hu 0 rfl) (hK _ _ rfl hC (Below.refl _ _))
    refine ⟨fun A w3 hC hu hd K hK => ?_, ?_⟩
    · have hg := HGE.out.below hC
      have a0 := hg.c0
      have a1 := hg.c1
      have a2 := hg.c2
      have h3 : A.tmps[3]?.getD undef = .pointer (some ⟨w.heap.size, 0, none⟩) := by have h3 := hu 3 rfl; simpa using h3
      clear hu hd hg
      go_simp
      exact hK _ _ rfl hC (Below.refl _ _)
    refine ⟨fun A w3 hC hu hd K hK => ?_, ?_⟩
    · clear hu hd
      go_simp
      refine (crc_New w3).mono ?_
      rintro e w5 ⟨rfl, rfl⟩
      have hb := (Below.refl w3.heap.size w3).alloc (Nat.le_refl _) (.cells crcC 152)
      exact hK _ _ ⟨_, rfl, isC.new w3, hC.size⟩ (hC.trans (hb.mono hC.size)) hb
    trivial
  · intro vs w2 hC hbl2 hv
    have h19 : vs 19 = .pointer (some ⟨i.D, 0, none⟩) := hv 0 _ 19 (by decide) rfl rfl
    have h20 : vs 20 = .agg #[.int .i64 1, .int .i64 2, .int .i64 1] := hv 1 _ 20 (by decide) rfl rfl
    obtain ⟨b, h21, hI, hbN⟩ : ∃ b, vs 21 = .pointer (some ⟨b, 0, none⟩) ∧ isC w2 b ∧ wE.heap.size ≤ b := hv 2 _ 21 (by decide) rfl rfl
    have HI := hid hI
    have HC := hid (HE.out.trans (hC.mono HE.out.size))
    have hwE := HE.out.size
    clear hv hI hC hbl2
    refine seqW_wpList (ops' := #[]) _ _ _ (by kernel_rfl) ?_
    simp only [List.take_succ_cons, List.take_zero, List.drop_succ_cons, List.drop_zero, wrote_cons, wrote_nil]
    rw [h19, h20, h21]
    go_wp2_with ((with_reducible refine wpList_unguard ?_ ?_); (focus rfl))
    have hbl : b < w2.heap.size := HI.out.lt
    have hw2 := HC.out.size
    go_ret
    exact ⟨_, b, rfl, by omega, hw2, hbl, Blk.new w2 _ _, HI.out.alloc _, HC.out.alloc hw2 _⟩
end Go.Proofs.Ytngkmlchblgmeaa
