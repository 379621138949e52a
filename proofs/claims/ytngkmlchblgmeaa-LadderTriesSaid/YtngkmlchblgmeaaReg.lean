/-
  A statement whose order is open, taken in any order at once: each operation is asked for what it does from any state in which what it waits for has been done, and what was found stays so.
-/
import Derived.Test.YtngkmlchblgmeaaBase
import Derived.Orders
namespace Go.Proofs.Ytngkmlchblgmeaa
open Go.RowKit

section
variable {P : Program} {ops : Array Oper} {Q : Exit → Act → World → Prop}

def unlisted (L : Array Bool) : Nat := (L.toList.filter (fun b => !b)).length
theorem unlisted_set (L : Array Bool) (i : Nat) (h : L[i]? = some false) : unlisted (L.setIfInBounds i true) + 1 = unlisted L := by
  obtain ⟨l⟩ := L
  simp only [unlisted, List.setIfInBounds_toArray]
  simp only [List.getElem?_toArray] at h
  induction l generalizing i with
  | nil => simp at h
  | cons b l ih =>
    cases i with
    | zero =>
      simp only [List.getElem?_cons_zero, Option.some.injEq] at h
      subst h
      simp
    | succ i =>
      simp only [List.getElem?_cons_succ] at h
      have := ih i h
      cases b <;> simp at this ⊢ <;> omega

theorem ready_nil (hac : ∀ (i : Nat) (o : Oper), ops[i]? = some o → ∀ e : Edge, e ∈ o.after → e.on < i) (L : Array Bool) (hs : L.size = ops.size) (h : Region.ready .any ops L = []) :
    ∀ i, i < ops.size → L[i]? = some true := by
  intro i
  induction i using Nat.strongRecOn with
  | ind i ih =>
    intro hi
    have hL : i < L.size := by omega
    have hm : i ∉ Region.ready .any ops L := by rw [h]; simp
    unfold Region.ready at hm
    rw [List.mem_filter] at hm
    simp only [List.mem_range, hi, true_and] at hm
    have ho : ops[i]? = some ops[i] := Array.getElem?_eq_getElem hi
    rw [ho] at hm
    simp only [Option.map_some, Option.getD_some, Bool.and_eq_true, Bool.not_eq_eq_eq_not, Bool.not_true] at hm
    cases hb : L[i] with
    | true => rw [Array.getElem?_eq_getElem hL, hb]
    | false =>
      exfalso
      apply hm
      refine ⟨by simp [hL, hb], ?_⟩
      rw [Array.all_eq_true_iff_forall_mem]
      intro e he
      have h1 := hac i _ ho e he
      have h2 := ih e.on h1 (by omega)
      have : L.getD e.on false = true := by rw [Array.getD_eq_getD_getElem?, h2]; rfl
      simp [this]

theorem wpAny_inv (hac : ∀ (i : Nat) (o : Oper), ops[i]? = some o → ∀ e : Edge, e ∈ o.after → e.on < i) (I : Array Bool → Act → World → Prop)
    (hstep : ∀ (i : Nat) (o : Oper), ops[i]? = some o → ∀ L a w, L.size = ops.size → I L a w → L[i]? = some false → (∀ e ∈ o.after, Region.binds .any e = true → L[e.on]? = some true) →
      wpOp P ops Q i (fun a' w' => I (L.setIfInBounds i true) a' w') a w)
    (hend : ∀ L a w, (∀ i, i < ops.size → L[i]? = some true) → I L a w → Q .normal a w) :
    ∀ fuel L a w, L.size = ops.size → I L a w → unlisted L ≤ fuel → wpAny P .any ops Q fuel L a w := by
  intro fuel
  induction fuel with
  | zero =>
    intro L a w hs hI hu
    have hall : ∀ i, i < ops.size → L[i]? = some true := by
      intro i hi
      rw [Array.getElem?_eq_getElem (by omega)]
      cases hb : L[i]'(by omega) with
      | true => rfl
      | false =>
        have : unlisted L = 0 := by omega
        have := unlisted_set L i (by rw [Array.getElem?_eq_getElem (by omega), hb])
        omega
    refine ⟨?_, hend L a w hall hI⟩
    unfold Region.ready
    rw [List.filter_eq_nil_iff]
    intro i hi
    simp only [List.mem_range] at hi
    have h1 := hall i hi
    have h2 : L.getD i true = true := by rw [Array.getD_eq_getD_getElem?, h1]; rfl
    rw [h2]; simp
  | succ fuel ih =>
    intro L a w hs hI hu
    refine ⟨fun hr => hend L a w (ready_nil hac L hs hr) hI, ?_⟩
    intro i hi
    unfold Region.ready at hi
    rw [List.mem_filter] at hi
    simp only [List.mem_range] at hi
    obtain ⟨hi1, hi2⟩ := hi
    have ho : ops[i]? = some ops[i] := Array.getElem?_eq_getElem hi1
    rw [ho] at hi2
    simp only [Option.map_some, Option.getD_some, Bool.and_eq_true] at hi2
    obtain ⟨hl, hd⟩ := hi2
    have hlf : L[i]? = some false := by
      rw [Array.getElem?_eq_getElem (by omega)]
      cases hb : L[i]'(by omega) with
      | false => rfl
      | true => simp [hs, hi1, hb] at hl
    refine wpOp_mono (fun a' w' hI' => ih _ a' w' (by simp [hs]) hI' (by have := unlisted_set L i hlf; omega)) (hstep i _ ho L a w hs hI hlf ?_)
    intro e he hb
    rw [Array.all_eq_true_iff_forall_mem] at hd
    have := hd e he
    simp only [hb, Bool.not_true, Bool.false_or] at this
    by_cases hlt : e.on < L.size
    · simp [hlt] at this
      rw [Array.getElem?_eq_getElem hlt, this]
    · simp [hlt] at this

theorem eval_put_same (a : Act) (d : Nat) (v : Value) (h : d < a.tmps.size) : (a.put (some d) v).tmps.getD d undef = v := by
  simp [Act.put, h]
theorem eval_put_other (a : Act) (d s : Nat) (v : Value) (h : d ≠ s) : (a.put (some d) v).tmps.getD s undef = a.tmps.getD s undef := by
  simp [Act.put, Array.getElem?_setIfInBounds, h]

/-- What each operation does, whenever its turn comes: from a state in which C holds, what is not written in this statement is as it was, and what it waits for has its value. -/
def opsOk (P : Program) (ops : Array Oper) (Q : Exit → Act → World → Prop) (a0 : Act) (C : World → Prop) (V : Nat → Value → World → Prop) : Nat → List Oper → Prop
  | _, [] => True
  | i, o :: rest => (∀ (a : Act) (w : World), C w → (∀ s, ops.toList.all (fun (o : Oper) => o.dst != some s) = true → a.tmps.getD s undef = a0.tmps.getD s undef) →
      (∀ e, e ∈ o.after → Region.binds .any e = true → ∀ (oe : Oper) (d : Nat), ops[e.on]? = some oe → oe.dst = some d → V e.on (a.tmps.getD d undef) w) →
      ∀ K : Act → World → Prop, (∀ v w', V i v w' → C w' → Below w.heap.size w w' → K (a.put o.dst v) w') → o.wp P a w K Q) ∧ opsOk P ops Q a0 C V (i + 1) rest

theorem opsOk_at {a0 : Act} {C : World → Prop} {V : Nat → Value → World → Prop} (l : List Oper) : ∀ (k : Nat), opsOk P ops Q a0 C V k l → ∀ i o, l[i]? = some o →
    ∀ (a : Act) (w : World), C w → (∀ s, ops.toList.all (fun (o : Oper) => o.dst != some s) = true → a.tmps.getD s undef = a0.tmps.getD s undef) →
      (∀ e, e ∈ o.after → Region.binds .any e = true → ∀ (oe : Oper) (d : Nat), ops[e.on]? = some oe → oe.dst = some d → V e.on (a.tmps.getD d undef) w) →
      ∀ K : Act → World → Prop, (∀ v w', V (k + i) v w' → C w' → Below w.heap.size w w' → K (a.put o.dst v) w') → o.wp P a w K Q := by
  induction l with
  | nil => intro k _ i o h; simp at h
  | cons x l ih =>
    intro k hk i o h
    cases i with
    | zero =>
      simp only [List.getElem?_cons_zero, Option.some.injEq] at h
      subst h
      exact hk.1
    | succ i =>
      simp only [List.getElem?_cons_succ] at h
      have := ih (k + 1) hk.2 i o h
      rw [show k + 1 + i = k + (i + 1) from by omega] at this
      exact this

theorem dst_inj (l : List Oper) (hnd : (l.filterMap fun (o : Oper) => o.dst).Nodup) : ∀ (i j : Nat) (oi oj : Oper) (d : Nat), l[i]? = some oi → l[j]? = some oj → oi.dst = some d → oj.dst = some d → i = j := by
  induction l with
  | nil => intro i j oi oj d hi; simp at hi
  | cons x l ih =>
    intro i j oi oj d hi hj hdi hdj
    have hnd' : (l.filterMap fun (o : Oper) => o.dst).Nodup := by
      rw [List.filterMap_cons] at hnd
      cases h : x.dst with
      | none => rw [h] at hnd; exact hnd
      | some y => rw [h] at hnd; exact (List.nodup_cons.1 hnd).2
    cases i with
    | zero =>
      cases j with
      | zero => rfl
      | succ j =>
        simp only [List.getElem?_cons_zero, Option.some.injEq] at hi
        simp only [List.getElem?_cons_succ] at hj
        subst hi
        rw [List.filterMap_cons, hdi] at hnd
        have : d ∈ l.filterMap fun (o : Oper) => o.dst := List.mem_filterMap.2 ⟨oj, List.mem_of_getElem? hj, hdj⟩
        exact absurd this (List.nodup_cons.1 hnd).1
    | succ i =>
      cases j with
      | zero =>
        simp only [List.getElem?_cons_zero, Option.some.injEq] at hj
        simp only [List.getElem?_cons_succ] at hi
        subst hj
        rw [List.filterMap_cons, hdj] at hnd
        have : d ∈ l.filterMap fun (o : Oper) => o.dst := List.mem_filterMap.2 ⟨oi, List.mem_of_getElem? hi, hdi⟩
        exact absurd this (List.nodup_cons.1 hnd).1
      | succ j =>
        simp only [List.getElem?_cons_succ] at hi hj
        rw [ih hnd' i j oi oj d hi hj hdi hdj]

theorem op_tmp {o : Oper} {a : Act} {w : World} {K : Act → World → Prop} (s : Nat) (v : Value) (ho : o.op = .move (.tmp s)) (hv : a.tmps.getD s undef = v) (hK : K (a.put o.dst v) w) : o.wp P a w K Q :=
  BigFrame.wp_move (.tmp s) ho (by show K (a.put o.dst (a.tmps.getD s undef)) w; rw [hv]; exact hK)

/-- THE RULE. -/
theorem region_any {id : Nat} (a0 : Act) (w0 : World) (C : World → Prop) (V : Nat → Value → World → Prop) (hm : P.follows .mixedOrders = true)
    (hac : (ops.toList.mapIdx fun i (o : Oper) => o.after.all fun (e : Edge) => decide (e.on < i)).all (fun b => b) = true) (hg : ops.toList.all (fun (o : Oper) => o.guard.isNone) = true)
    (hdst : ((ops.toList.filterMap fun (o : Oper) => o.dst).Nodup ∧ ops.toList.all (fun (o : Oper) => match o.dst with | some d => decide (d < a0.tmps.size) | none => true) = true))
    (hC : C w0.drew) (hst : ∀ i v w w', Below w.heap.size w w' → V i v w → V i v w')
    (hop : opsOk P ops Q a0 C V 0 ops.toList)
    (hend : ∀ a w, C w → Below w0.heap.size w0 w → a.defers = a0.defers → a.tmps.size = a0.tmps.size → (∀ s, ops.toList.all (fun (o : Oper) => o.dst != some s) = true → a.tmps.getD s undef = a0.tmps.getD s undef) →
      (∀ (i : Nat) (o : Oper) (d : Nat), ops[i]? = some o → o.dst = some d → V i (a.tmps.getD d undef) w) → Q .normal a w) :
    (Code.region id ops true).wp P Q a0 w0 := by
  have hac' : ∀ (i : Nat) (o : Oper), ops[i]? = some o → ∀ e : Edge, e ∈ o.after → e.on < i := by
    intro i o hi e he
    rw [List.all_eq_true] at hac
    have := hac (o.after.all fun e => decide (e.on < i)) (by
      rw [List.mem_mapIdx]
      have hlt := (Array.getElem?_eq_some_iff.1 hi).1
      refine ⟨i, by simpa using hlt, ?_⟩
      have := (Array.getElem?_eq_some_iff.1 hi).2
      simp [this])
    rw [Array.all_eq_true_iff_forall_mem] at this
    simpa using this e he
  have hdlt : ∀ o : Oper, o ∈ ops.toList → ∀ d, o.dst = some d → d < a0.tmps.size := by
    intro o ho d hd
    have := List.all_eq_true.1 hdst.2 o ho
    rw [hd] at this
    simpa using this
  have hinj : ∀ (i j : Nat) (oi oj : Oper) (d : Nat), ops[i]? = some oi → ops[j]? = some oj → oi.dst = some d → oj.dst = some d → i = j := by
    intro i j oi oj d hi hj hdi hdj
    rw [← Array.getElem?_toList] at hi hj
    exact dst_inj _ hdst.1 i j oi oj d hi hj hdi hdj
  refine wp_region_any hm ?_
  refine wpAny_inv hac' (fun L a w => C w ∧ Below w0.heap.size w0 w ∧ a.defers = a0.defers ∧ a.tmps.size = a0.tmps.size ∧
      (∀ s, ops.toList.all (fun (o : Oper) => o.dst != some s) = true → a.tmps.getD s undef = a0.tmps.getD s undef) ∧
      (∀ (i : Nat) (o : Oper) (d : Nat), ops[i]? = some o → o.dst = some d → L[i]? = some true → V i (a.tmps.getD d undef) w)) ?_ ?_ _ _ _ _ (by simp) ?_ ?_
  · intro i o ho L a w hs ⟨h1, h2, h3, h4, h5, h6⟩ hi he
    have hom : o ∈ ops.toList := by rw [← Array.getElem?_toList] at ho; exact List.mem_of_getElem? ho
    have hgo : o.guard = none := by have := List.all_eq_true.1 hg o hom; simpa using this
    unfold wpOp
    rw [ho]
    simp only []
    rw [if_pos (by simp [Region.wanted, hgo])]
    refine .inl (opsOk_at ops.toList 0 hop i o (by rw [Array.getElem?_toList]; exact ho) a w h1 h5 ?_ _ ?_)
    · intro e hem hb oe d hoe hd
      exact h6 e.on oe d hoe hd (he e hem hb)
    · intro v w' hv hc hbl
      rw [Nat.zero_add] at hv
      refine ⟨hc, h2.trans (hbl.mono h2.size), ?_, ?_, ?_, ?_⟩
      · rw [← h3]; cases o.dst <;> rfl
      · rw [← h4]; cases o.dst <;> simp [Act.put]
      · intro s hsn
        rw [← h5 s hsn]
        cases hdo : o.dst with
        | none => rfl
        | some d => exact eval_put_other a d s v (fun e => by have := List.all_eq_true.1 hsn o hom; rw [hdo, e] at this; simp at this)
      · intro j oj d hj hdj hLj
        by_cases e : j = i
        · subst e
          rw [ho] at hj
          obtain rfl : o = oj := by simpa using hj
          rw [hdj, eval_put_same a d v (by rw [h4]; exact hdlt o hom d hdj)]
          exact hv
        · have hLj' : L[j]? = some true := by
            rw [Array.getElem?_setIfInBounds, if_neg (fun e' => e e'.symm)] at hLj
            exact hLj
          have := h6 j oj d hj hdj hLj'
          have hval : (a.put o.dst v).tmps.getD d undef = a.tmps.getD d undef := by
            cases hdo : o.dst with
            | none => rfl
            | some d' =>
              refine eval_put_other a d' d v (fun e' => e ?_)
              subst e'
              exact hinj j i oj o d' hj ho hdj hdo
          rw [hval]
          exact hst j _ w w' hbl this
  · intro L a w hall ⟨h1, h2, h3, h4, h5, h6⟩
    refine hend a w h1 h2 h3 h4 h5 fun i o d ho hd => h6 i o d ho hd (hall i (Array.getElem?_eq_some_iff.1 ho).1)
  · refine ⟨hC, (Below.refl _ _).drew, rfl, rfl, fun _ _ => rfl, ?_⟩
    intro i o d ho hd hL
    rw [Array.getElem?_replicate] at hL
    split at hL <;> simp_all
  · unfold unlisted
    simp

/-- THE RULE WHERE ONE OPERATION WAITS FOR ALL OTHERS (a store at a statement's end): it is walked by itself, from what all others have found. -/
theorem region_last {id : Nat} {m : Nat} {om : Oper} (a0 : Act) (w0 : World) (C : World → Prop) (V : Nat → Value → World → Prop) (hm : P.follows .mixedOrders = true)
    (hac : (ops.toList.mapIdx fun i (o : Oper) => o.after.all fun (e : Edge) => decide (e.on < i)).all (fun b => b) = true) (hg : ops.toList.all (fun (o : Oper) => o.guard.isNone) = true)
    (hsz : ops.size = m + 1) (hom : ops[m]? = some om) (hdep : (List.range m).all (fun j => om.after.any fun (e : Edge) => decide (e.on = j) && Region.binds .any e) = true)
    (hdst : (((ops.toList.take m).filterMap fun (o : Oper) => o.dst).Nodup ∧ (ops.toList.take m).all (fun (o : Oper) => match o.dst with | some d => decide (d < a0.tmps.size) | none => true) = true))
    (hC : C w0.drew) (hst : ∀ i v w w', Below w.heap.size w w' → V i v w → V i v w')
    (hop : opsOk P (ops.toList.take m).toArray Q a0 C V 0 (ops.toList.take m))
    (hend : ∀ a w, C w → Below w0.heap.size w0 w → a.defers = a0.defers → a.tmps.size = a0.tmps.size → (∀ s, (ops.toList.take m).all (fun (o : Oper) => o.dst != some s) = true → a.tmps.getD s undef = a0.tmps.getD s undef) →
      (∀ (i : Nat) (o : Oper) (d : Nat), i < m → ops[i]? = some o → o.dst = some d → V i (a.tmps.getD d undef) w) → om.wp P a w (Q .normal) Q) :
    (Code.region id ops true).wp P Q a0 w0 := by
  have hac' : ∀ (i : Nat) (o : Oper), ops[i]? = some o → ∀ e : Edge, e ∈ o.after → e.on < i := by
    intro i o hi e he
    rw [List.all_eq_true] at hac
    have := hac (o.after.all fun e => decide (e.on < i)) (by
      rw [List.mem_mapIdx]
      have hlt := (Array.getElem?_eq_some_iff.1 hi).1
      refine ⟨i, by simpa using hlt, ?_⟩
      have := (Array.getElem?_eq_some_iff.1 hi).2
      simp [this])
    rw [Array.all_eq_true_iff_forall_mem] at this
    simpa using this e he
  have htk : ∀ (i : Nat) (o : Oper), i < m → ops[i]? = some o → (ops.toList.take m)[i]? = some o := by
    intro i o hi ho
    rw [List.getElem?_take, if_pos hi, Array.getElem?_toList]; exact ho
  have hdlt : ∀ o : Oper, o ∈ ops.toList.take m → ∀ d, o.dst = some d → d < a0.tmps.size := by
    intro o ho d hd
    have := List.all_eq_true.1 hdst.2 o ho
    rw [hd] at this
    simpa using this
  refine wp_region_any hm ?_
  refine wpAny_inv hac' (fun L a w => (L[m]? = some true → Q .normal a w ∧ ∀ j, j < m → L[j]? = some true) ∧ (L[m]? = some false → C w ∧ Below w0.heap.size w0 w ∧ a.defers = a0.defers ∧ a.tmps.size = a0.tmps.size ∧
      (∀ s, (ops.toList.take m).all (fun (o : Oper) => o.dst != some s) = true → a.tmps.getD s undef = a0.tmps.getD s undef) ∧
      (∀ (i : Nat) (o : Oper) (d : Nat), i < m → ops[i]? = some o → o.dst = some d → L[i]? = some true → V i (a.tmps.getD d undef) w))) ?_ ?_ _ _ _ _ (by simp) ?_ ?_
  · intro i o ho L a w hs ⟨hT, hF⟩ hi he
    have hoA : o ∈ ops.toList := by rw [← Array.getElem?_toList] at ho; exact List.mem_of_getElem? ho
    have hgo : o.guard = none := by have := List.all_eq_true.1 hg o hoA; simpa using this
    have hLm : m < L.size := by omega
    have him : i < ops.size := (Array.getElem?_eq_some_iff.1 ho).1
    unfold wpOp
    rw [ho]
    simp only []
    rw [if_pos (by simp [Region.wanted, hgo])]
    left
    have hLf : L[m]? = some false := by
      rw [Array.getElem?_eq_getElem hLm]
      cases hb : L[m] with
      | false => rfl
      | true =>
        have h1 := (hT (by rw [Array.getElem?_eq_getElem hLm, hb])).2
        by_cases e : i = m
        · subst e; rw [Array.getElem?_eq_getElem hLm, hb] at hi; exact hi
        · have := h1 i (by omega); rw [this] at hi; cases hi
    obtain ⟨h1, h2, h3, h4, h5, h6⟩ := hF hLf
    by_cases e : i = m
    · subst e
      rw [hom] at ho
      obtain rfl : om = o := by simpa using ho
      have hall : ∀ j, j < i → L[j]? = some true := by
        intro j hj
        have := List.all_eq_true.1 hdep j (by simpa using hj)
        rw [Array.any_eq_true] at this
        obtain ⟨x, hx, hxe⟩ := this
        simp only [Bool.and_eq_true, decide_eq_true_eq] at hxe
        have := he _ (Array.getElem_mem hx) hxe.2
        rwa [hxe.1] at this
      refine Oper.wp_mono (fun a' w' hq => ⟨fun _ => ⟨hq, fun j hj => ?_⟩, fun hf => ?_⟩) (hend a w h1 h2 h3 h4 h5 fun j oj d hj hoj hd => h6 j oj d hj hoj hd (hall j hj))
      · rw [Array.getElem?_setIfInBounds, if_neg (by omega)]; exact hall j hj
      · rw [Array.getElem?_setIfInBounds, if_pos rfl, if_pos hLm] at hf; cases hf
    · have hilt : i < m := by omega
      have hot : o ∈ ops.toList.take m := List.mem_of_getElem? (htk i o hilt ho)
      refine opsOk_at (ops.toList.take m) 0 hop i o (htk i o hilt ho) a w h1 (by simpa using h5) ?_ _ ?_
      · intro ed hem hb oe d hoe hd
        have hlt := hac' i o ho ed hem
        have hoe' : ops[ed.on]? = some oe := by
          rw [List.getElem?_toArray, List.getElem?_take] at hoe
          split at hoe
          · rwa [Array.getElem?_toList] at hoe
          · cases hoe
        exact h6 ed.on oe d (by omega) hoe' hd (he ed hem hb)
      · intro v w' hv hc hbl
        rw [Nat.zero_add] at hv
        refine ⟨fun ht => ?_, fun _ => ⟨hc, h2.trans (hbl.mono h2.size), ?_, ?_, ?_, ?_⟩⟩
        · rw [Array.getElem?_setIfInBounds, if_neg e, hLf] at ht; cases ht
        · rw [← h3]; cases o.dst <;> rfl
        · rw [← h4]; cases o.dst <;> simp [Act.put]
        · intro s hsn
          rw [← h5 s hsn]
          cases hdo : o.dst with
          | none => rfl
          | some d => exact eval_put_other a d s v (fun e => by have := List.all_eq_true.1 hsn o hot; rw [hdo, e] at this; simp at this)
        · intro j oj d hjm hj hdj hLj
          by_cases e : j = i
          · subst e
            rw [ho] at hj
            obtain rfl : o = oj := by simpa using hj
            rw [hdj, eval_put_same a d v (by rw [h4]; exact hdlt o hot d hdj)]
            exact hv
          · have hLj' : L[j]? = some true := by
              rw [Array.getElem?_setIfInBounds, if_neg (fun e' => e e'.symm)] at hLj
              exact hLj
            have := h6 j oj d hjm hj hdj hLj'
            have hval : (a.put o.dst v).tmps.getD d undef = a.tmps.getD d undef := by
              cases hdo : o.dst with
              | none => rfl
              | some d' =>
                refine eval_put_other a d' d v (fun e' => e ?_)
                subst e'
                exact dst_inj _ hdst.1 j i oj o d' (htk j oj hjm hj) (htk i o hilt ho) hdj hdo
            rw [hval]
            exact hst j _ w w' hbl this
  · intro L a w hall ⟨hT, _⟩
    exact (hT (hall m (by omega))).1
  · refine ⟨fun ht => ?_, fun _ => ⟨hC, (Below.refl _ _).drew, rfl, rfl, fun _ _ => rfl, ?_⟩⟩
    · rw [Array.getElem?_replicate] at ht; split at ht <;> simp_all
    · intro i o d _ ho hd hL
      rw [Array.getElem?_replicate] at hL
      split at hL <;> simp_all
  · unfold unlisted
    simp

/-- A frame in which operations have written what vs says. -/
def wrote (vs : Nat → Value) : List Oper → Array Value → Array Value
  | [], t => t
  | o :: l, t => wrote vs l (match o.dst with | some d => t.setIfInBounds d (vs d) | none => t)
theorem wrote_nil (vs : Nat → Value) (t : Array Value) : wrote vs [] t = t := rfl
theorem wrote_cons (vs : Nat → Value) (d : Nat) (op : Op) (ty : TypeId) (pos : String) (af : Array Edge) (g : Option (Nat × Bool)) (l : List Oper) (t : Array Value) :
    wrote vs (⟨some d, op, ty, pos, af, g⟩ :: l) t = wrote vs l (t.setIfInBounds d (vs d)) := rfl
theorem wrote_size (vs : Nat → Value) (l : List Oper) (t : Array Value) : (wrote vs l t).size = t.size := by
  induction l generalizing t with
  | nil => rfl
  | cons o l ih => simp only [wrote]; rw [ih]; cases o.dst <;> simp
theorem wrote_at (vs : Nat → Value) (l : List Oper) (t : Array Value) (s : Nat) (hs : s < t.size) (x : Value)
    (h1 : (∃ o : Oper, o ∈ l ∧ o.dst = some s) → vs s = x) (h2 : (∀ o : Oper, o ∈ l → o.dst ≠ some s) → t.getD s undef = x) : (wrote vs l t).getD s undef = x := by
  induction l generalizing t with
  | nil => exact h2 (by simp)
  | cons o l ih =>
    simp only [wrote]
    refine ih _ (by cases o.dst <;> simp [hs]) (fun ⟨o', ho', hd⟩ => h1 ⟨o', by simp [ho'], hd⟩) ?_
    intro hno
    cases hd : o.dst with
    | none =>
      simp only []
      refine h2 fun o' ho' => ?_
      rcases List.mem_cons.1 ho' with rfl | h
      · rw [hd]; simp
      · exact hno o' h
    | some d =>
      simp only []
      by_cases e : d = s
      · subst e
        have := h1 ⟨o, by simp, hd⟩
        simp [hs, this]
      · have h3 := h2 (fun o' ho' => by
          rcases List.mem_cons.1 ho' with rfl | h
          · rw [hd]; simpa using e
          · exact hno o' h)
        simp only [Array.getD_eq_getD_getElem?] at h3 ⊢
        rw [Array.getElem?_setIfInBounds, if_neg e]
        exact h3

/-- The same rule; the frame behind it is written out. -/
theorem region_store {id : Nat} {m : Nat} {om : Oper} (a0 : Act) (w0 : World) (C : World → Prop) (V : Nat → Value → World → Prop) (hm : P.follows .mixedOrders = true)
    (hac : (ops.toList.mapIdx fun i (o : Oper) => o.after.all fun (e : Edge) => decide (e.on < i)).all (fun b => b) = true) (hg : ops.toList.all (fun (o : Oper) => o.guard.isNone) = true)
    (hsz : ops.size = m + 1) (hom : ops[m]? = some om) (hdep : (List.range m).all (fun j => om.after.any fun (e : Edge) => decide (e.on = j) && Region.binds .any e) = true)
    (hdst : (((ops.toList.take m).filterMap fun (o : Oper) => o.dst).Nodup ∧ (ops.toList.take m).all (fun (o : Oper) => match o.dst with | some d => decide (d < a0.tmps.size) | none => true) = true))
    (hC : C w0.drew) (hst : ∀ i v w w', Below w.heap.size w w' → V i v w → V i v w')
    (hop : opsOk P (ops.toList.take m).toArray Q a0 C V 0 (ops.toList.take m))
    (hend : ∀ (vs : Nat → Value) (w : World), C w → Below w0.heap.size w0 w → (∀ (i : Nat) (o : Oper) (d : Nat), i < m → ops[i]? = some o → o.dst = some d → V i (vs d) w) →
      om.wp P { tmps := wrote vs (ops.toList.take m) a0.tmps, defers := a0.defers } w (Q .normal) Q) :
    (Code.region id ops true).wp P Q a0 w0 := by
  refine region_last a0 w0 C V hm hac hg hsz hom hdep hdst hC hst hop ?_
  intro a w h1 h2 h3 h4 h5 h6
  have ha : a = { tmps := wrote (fun d => a.tmps.getD d undef) (ops.toList.take m) a0.tmps, defers := a0.defers } := by
    obtain ⟨at', ad⟩ := a
    simp only at h3 h4 h5
    subst h3
    have key : at' = wrote (fun d => at'.getD d undef) (ops.toList.take m) a0.tmps := by
      have hgd : ∀ s, s < at'.size → (wrote (fun d => at'.getD d undef) (ops.toList.take m) a0.tmps).getD s undef = at'.getD s undef := by
        intro s hs
        refine wrote_at _ _ _ s (by omega) _ (fun _ => rfl) (fun hno => ?_)
        exact (h5 s (by rw [List.all_eq_true]; intro o ho; simpa using hno o ho)).symm
      apply Array.ext
      · rw [wrote_size]; exact h4
      · intro i hi1 hi2
        have h := hgd i hi1
        rw [Array.getD_eq_getD_getElem?, Array.getD_eq_getD_getElem?, Array.getElem?_eq_getElem hi1, Array.getElem?_eq_getElem hi2] at h
        exact h.symm
    exact congrArg (fun t => Act.mk t a0.defers) key
  rw [ha]
  exact hend _ w h1 h2 h6
end
end Go.Proofs.Ytngkmlchblgmeaa
