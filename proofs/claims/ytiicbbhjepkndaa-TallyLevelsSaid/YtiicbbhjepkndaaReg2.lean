/-
  A statement whose order is open, taken in any order at once: the rule with one's own word for what may change in memory (a store need not come last).
-/
import Derived.Test.YtiicbbhjepkndaaReg
namespace Go.Proofs.Ytiicbbhjepkndaa
open Go.RowKit

section
variable {P : Program} {ops : Array Oper} {Q : Exit → Act → World → Prop}
theorem wrote_none (vs : Nat → Value) (op : Op) (ty : TypeId) (pos : String) (af : Array Edge) (g : Option (Nat × Bool)) (l : List Oper) (t : Array Value) :
    wrote vs (⟨none, op, ty, pos, af, g⟩ :: l) t = wrote vs l t := rfl
theorem ready_nil2 (hac : ∀ (i : Nat) (o : Oper), ops[i]? = some o → ∀ e : Edge, e ∈ o.after → Region.binds .any e = true → e.on < i) (L : Array Bool) (hs : L.size = ops.size) (h : Region.ready .any ops L = []) :
    ∀ i, i < ops.size → L[i]? = some true := by
  intro i
  induction i using Nat.strongRecOn with
  | ind i ih =>
    intro hi
    have hL : i < L.size := by omega
    have hm : i ∉ Region.ready .any ops L := by rw [h]; simp
    unfold Region.ready at hm
    rw [List.mem_filter] at hm
    simp only [List.mem_range, hi, true_and] at hm
    have ho : ops[i]? = some ops[i] := Array.getElem?_eq_getElem hi
    rw [ho] at hm
    simp only [Option.map_some, Option.getD_some, Bool.and_eq_true, Bool.not_eq_eq_eq_not, Bool.not_true] at hm
    cases hb : L[i] with
    | true => rw [Array.getElem?_eq_getElem hL, hb]
    | false =>
      exfalso
      apply hm
      refine ⟨by simp [hL, hb], ?_⟩
      rw [Array.all_eq_true_iff_forall_mem]
      intro e he
      cases hbd : Region.binds .any e with
      | false => simp
      | true =>
        have h1 := hac i _ ho e he hbd
        have h2 := ih e.on h1 (by omega)
        have : L.getD e.on false = true := by rw [Array.getD_eq_getD_getElem?, h2]; rfl
        simp [this]

theorem wpAny_inv2 (hac : ∀ (i : Nat) (o : Oper), ops[i]? = some o → ∀ e : Edge, e ∈ o.after → Region.binds .any e = true → e.on < i) (I : Array Bool → Act → World → Prop)
    (hstep : ∀ (i : Nat) (o : Oper), ops[i]? = some o → ∀ L a w, L.size = ops.size → I L a w → L[i]? = some false → (∀ e ∈ o.after, Region.binds .any e = true → L[e.on]? = some true) →
      wpOp P ops Q i (fun a' w' => I (L.setIfInBounds i true) a' w') a w)
    (hend : ∀ L a w, (∀ i, i < ops.size → L[i]? = some true) → I L a w → Q .normal a w) :
    ∀ fuel L a w, L.size = ops.size → I L a w → unlisted L ≤ fuel → wpAny P .any ops Q fuel L a w := by
  intro fuel
  induction fuel with
  | zero =>
    intro L a w hs hI hu
    have hall : ∀ i, i < ops.size → L[i]? = some true := by
      intro i hi
      rw [Array.getElem?_eq_getElem (by omega)]
      cases hb : L[i]'(by omega) with
      | true => rfl
      | false =>
        have : unlisted L = 0 := by omega
        have := unlisted_set L i (by rw [Array.getElem?_eq_getElem (by omega), hb])
        omega
    refine ⟨?_, hend L a w hall hI⟩
    unfold Region.ready
    rw [List.filter_eq_nil_iff]
    intro i hi
    simp only [List.mem_range] at hi
    have h1 := hall i hi
    have h2 : L.getD i true = true := by rw [Array.getD_eq_getD_getElem?, h1]; rfl
    rw [h2]; simp
  | succ fuel ih =>
    intro L a w hs hI hu
    refine ⟨fun hr => hend L a w (ready_nil2 hac L hs hr) hI, ?_⟩
    intro i hi
    unfold Region.ready at hi
    rw [List.mem_filter] at hi
    simp only [List.mem_range] at hi
    obtain ⟨hi1, hi2⟩ := hi
    have ho : ops[i]? = some ops[i] := Array.getElem?_eq_getElem hi1
    rw [ho] at hi2
    simp only [Option.map_some, Option.getD_some, Bool.and_eq_true] at hi2
    obtain ⟨hl, hd⟩ := hi2
    have hlf : L[i]? = some false := by
      rw [Array.getElem?_eq_getElem (by omega)]
      cases hb : L[i]'(by omega) with
      | false => rfl
      | true => simp [hs, hi1, hb] at hl
    refine wpOp_mono (fun a' w' hI' => ih _ a' w' (by simp [hs]) hI' (by have := unlisted_set L i hlf; omega)) (hstep i _ ho L a w hs hI hlf ?_)
    intro e he hb
    rw [Array.all_eq_true_iff_forall_mem] at hd
    have := hd e he
    simp only [hb, Bool.not_true, Bool.false_or] at this
    by_cases hlt : e.on < L.size
    · simp [hlt] at this
      rw [Array.getElem?_eq_getElem hlt, this]
    · simp [hlt] at this

/-- What each operation does, whenever its turn comes: from a state in which C holds, what is not written in this statement is as it was, and what it waits for has its value. -/
def opsOkR (P : Program) (ops : Array Oper) (Q : Exit → Act → World → Prop) (a0 : Act) (C : World → Prop) (R : World → World → Prop) (V : Nat → Value → World → Prop) : Nat → List Oper → Prop
  | _, [] => True
  | i, o :: rest => (∀ (a : Act) (w : World), C w → (∀ s, ops.toList.all (fun (o : Oper) => o.dst != some s) = true → a.tmps.getD s undef = a0.tmps.getD s undef) →
      (∀ e, e ∈ o.after → Region.binds .any e = true → ∀ (oe : Oper) (d : Nat), ops[e.on]? = some oe → oe.dst = some d → V e.on (a.tmps.getD d undef) w) →
      ∀ K : Act → World → Prop, (∀ v w', V i v w' → C w' → R w w' → K (a.put o.dst v) w') → o.wp P a w K Q) ∧ opsOkR P ops Q a0 C R V (i + 1) rest

theorem opsOkR_at {a0 : Act} {C : World → Prop} {R : World → World → Prop} {V : Nat → Value → World → Prop} (l : List Oper) : ∀ (k : Nat), opsOkR P ops Q a0 C R V k l → ∀ i o, l[i]? = some o →
    ∀ (a : Act) (w : World), C w → (∀ s, ops.toList.all (fun (o : Oper) => o.dst != some s) = true → a.tmps.getD s undef = a0.tmps.getD s undef) →
      (∀ e, e ∈ o.after → Region.binds .any e = true → ∀ (oe : Oper) (d : Nat), ops[e.on]? = some oe → oe.dst = some d → V e.on (a.tmps.getD d undef) w) →
      ∀ K : Act → World → Prop, (∀ v w', V (k + i) v w' → C w' → R w w' → K (a.put o.dst v) w') → o.wp P a w K Q := by
  induction l with
  | nil => intro k _ i o h; simp at h
  | cons x l ih =>
    intro k hk i o h
    cases i with
    | zero =>
      simp only [List.getElem?_cons_zero, Option.some.injEq] at h
      subst h
      exact hk.1
    | succ i =>
      simp only [List.getElem?_cons_succ] at h
      have := ih (k + 1) hk.2 i o h
      rw [show k + 1 + i = k + (i + 1) from by omega] at this
      exact this

/-- THE RULE, with one's own word for what may change in memory, and what is told of operations that give no value; the frame behind it is written out. -/
theorem region_gen {id : Nat} (a0 : Act) (w0 : World) (C : World → Prop) (R : World → World → Prop) (hR0 : ∀ w, R w w) (hRt : ∀ a b c, R a b → R b c → R a c) (V : Nat → Value → World → Prop) (hm : P.follows .mixedOrders = true)
    (hac : (ops.toList.mapIdx fun i (o : Oper) => o.after.all fun (e : Edge) => !Region.binds .any e || decide (e.on < i)).all (fun b => b) = true) (hg : ops.toList.all (fun (o : Oper) => o.guard.isNone) = true)
    (hdst : ((ops.toList.filterMap fun (o : Oper) => o.dst).Nodup ∧ ops.toList.all (fun (o : Oper) => match o.dst with | some d => decide (d < a0.tmps.size) | none => true) = true))
    (hC : C w0.drew) (hst : ∀ i v w w', R w w' → V i v w → V i v w')
    (hop : opsOkR P ops Q a0 C R V 0 ops.toList)
    (hend : ∀ (vs : Nat → Value) (w : World), C w → R w0.drew w → (∀ (i : Nat) (o : Oper) (d : Nat), ops[i]? = some o → o.dst = some d → V i (vs d) w) → (∀ (i : Nat) (o : Oper), ops[i]? = some o → o.dst = none → ∃ v, V i v w) →
      Q .normal { tmps := wrote vs ops.toList a0.tmps, defers := a0.defers } w) :
    (Code.region id ops true).wp P Q a0 w0 := by
  have hac' : ∀ (i : Nat) (o : Oper), ops[i]? = some o → ∀ e : Edge, e ∈ o.after → Region.binds .any e = true → e.on < i := by
    intro i o hi e he hbd
    rw [List.all_eq_true] at hac
    have := hac (o.after.all fun e => !Region.binds .any e || decide (e.on < i)) (by
      rw [List.mem_mapIdx]
      have hlt := (Array.getElem?_eq_some_iff.1 hi).1
      refine ⟨i, by simpa using hlt, ?_⟩
      have := (Array.getElem?_eq_some_iff.1 hi).2
      simp [this])
    rw [Array.all_eq_true_iff_forall_mem] at this
    simpa [hbd] using this e he
  have hdlt : ∀ o : Oper, o ∈ ops.toList → ∀ d, o.dst = some d → d < a0.tmps.size := by
    intro o ho d hd
    have := List.all_eq_true.1 hdst.2 o ho
    rw [hd] at this
    simpa using this
  have hinj : ∀ (i j : Nat) (oi oj : Oper) (d : Nat), ops[i]? = some oi → ops[j]? = some oj → oi.dst = some d → oj.dst = some d → i = j := by
    intro i j oi oj d hi hj hdi hdj
    rw [← Array.getElem?_toList] at hi hj
    exact dst_inj _ hdst.1 i j oi oj d hi hj hdi hdj
  refine wp_region_any hm ?_
  refine wpAny_inv2 hac' (fun L a w => C w ∧ R w0.drew w ∧ a.defers = a0.defers ∧ a.tmps.size = a0.tmps.size ∧
      (∀ s, ops.toList.all (fun (o : Oper) => o.dst != some s) = true → a.tmps.getD s undef = a0.tmps.getD s undef) ∧
      (∀ (i : Nat) (o : Oper) (d : Nat), ops[i]? = some o → o.dst = some d → L[i]? = some true → V i (a.tmps.getD d undef) w) ∧
      (∀ (i : Nat) (o : Oper), ops[i]? = some o → o.dst = none → L[i]? = some true → ∃ v, V i v w)) ?_ ?_ _ _ _ _ (by simp) ?_ ?_
  · intro i o ho L a w hs ⟨h1, h2, h3, h4, h5, h6, h7⟩ hi he
    have hom : o ∈ ops.toList := by rw [← Array.getElem?_toList] at ho; exact List.mem_of_getElem? ho
    have hgo : o.guard = none := by have := List.all_eq_true.1 hg o hom; simpa using this
    unfold wpOp
    rw [ho]
    simp only []
    rw [if_pos (by simp [Region.wanted, hgo])]
    refine .inl (opsOkR_at ops.toList 0 hop i o (by rw [Array.getElem?_toList]; exact ho) a w h1 h5 ?_ _ ?_)
    · intro e hem hb oe d hoe hd
      exact h6 e.on oe d hoe hd (he e hem hb)
    · intro v w' hv hc hbl
      rw [Nat.zero_add] at hv
      refine ⟨hc, hRt _ _ _ h2 hbl, ?_, ?_, ?_, ?_, ?_⟩
      · rw [← h3]; cases o.dst <;> rfl
      · rw [← h4]; cases o.dst <;> simp [Act.put]
      · intro s hsn
        rw [← h5 s hsn]
        cases hdo : o.dst with
        | none => rfl
        | some d => exact eval_put_other a d s v (fun e => by have := List.all_eq_true.1 hsn o hom; rw [hdo, e] at this; simp at this)
      · intro j oj d hj hdj hLj
        by_cases e : j = i
        · subst e
          rw [ho] at hj
          obtain rfl : o = oj := by simpa using hj
          rw [hdj, eval_put_same a d v (by rw [h4]; exact hdlt o hom d hdj)]
          exact hv
        · have hLj' : L[j]? = some true := by
            rw [Array.getElem?_setIfInBounds, if_neg (fun e' => e e'.symm)] at hLj
            exact hLj
          have := h6 j oj d hj hdj hLj'
          have hval : (a.put o.dst v).tmps.getD d undef = a.tmps.getD d undef := by
            cases hdo : o.dst with
            | none => rfl
            | some d' =>
              refine eval_put_other a d' d v (fun e' => e ?_)
              subst e'
              exact hinj j i oj o d' hj ho hdj hdo
          rw [hval]
          exact hst j _ w w' hbl this
      · intro j oj hj hdj hLj
        by_cases e : j = i
        · subst e
          exact ⟨v, hv⟩
        · have hLj' : L[j]? = some true := by
            rw [Array.getElem?_setIfInBounds, if_neg (fun e' => e e'.symm)] at hLj
            exact hLj
          obtain ⟨v0, hv0⟩ := h7 j oj hj hdj hLj'
          exact ⟨v0, hst j _ w w' hbl hv0⟩
  · intro L a w hall ⟨h1, h2, h3, h4, h5, h6, h7⟩
    have ha : a = { tmps := wrote (fun d => a.tmps.getD d undef) ops.toList a0.tmps, defers := a0.defers } := by
      obtain ⟨at', ad⟩ := a
      simp only at h3 h4 h5
      subst h3
      have key : at' = wrote (fun d => at'.getD d undef) ops.toList a0.tmps := by
        have hgd : ∀ s, s < at'.size → (wrote (fun d => at'.getD d undef) ops.toList a0.tmps).getD s undef = at'.getD s undef := by
          intro s hs
          refine wrote_at _ _ _ s (by omega) _ (fun _ => rfl) (fun hno => ?_)
          exact (h5 s (by rw [List.all_eq_true]; intro o ho; simpa using hno o ho)).symm
        apply Array.ext
        · rw [wrote_size]; exact h4
        · intro i hi1 hi2
          have h := hgd i hi1
          rw [Array.getD_eq_getD_getElem?, Array.getD_eq_getD_getElem?, Array.getElem?_eq_getElem hi1, Array.getElem?_eq_getElem hi2] at h
          exact h.symm
      exact congrArg (fun t => Act.mk t a0.defers) key
    rw [ha]
    exact hend _ w h1 h2 (fun i o d ho hd => h6 i o d ho hd (hall i (Array.getElem?_eq_some_iff.1 ho).1)) (fun i o ho hd => h7 i o ho hd (hall i (Array.getElem?_eq_some_iff.1 ho).1))
  · refine ⟨hC, hR0 _, rfl, rfl, fun _ _ => rfl, ?_, ?_⟩
    · intro i o d ho hd hL
      rw [Array.getElem?_replicate] at hL
      split at hL <;> simp_all
    · intro i o ho hd hL
      rw [Array.getElem?_replicate] at hL
      split at hL <;> simp_all
  · unfold unlisted
    simp
end
end Go.Proofs.Ytiicbbhjepkndaa
