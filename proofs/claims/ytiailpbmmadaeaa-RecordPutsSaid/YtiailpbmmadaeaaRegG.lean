/-
  A statement whose order is open, taken in any order at once: guarded operations too, and stores that are told of by the slot that holds their address.
-/
import Derived.Test.YtiailpbmmadaeaaReg2
namespace Go.Proofs.Ytiailpbmmadaeaa
open Go.RowKit

section
variable {P : Program} {ops : Array Oper} {Q : Exit → Act → World → Prop}
/-- What an operation is told of: its value, or, if it gives none, what stands in its own slot. -/
def toldOf (sl : Nat → Nat) (i : Nat) (o : Oper) (a : Act) (v : Value) : Value := match o.dst with | some _ => v | none => a.tmps.getD (sl i) undef
def opsOkG (P : Program) (ops : Array Oper) (Q : Exit → Act → World → Prop) (a0 : Act) (sl : Nat → Nat) (C : World → Prop) (R : World → World → Prop) (V : Nat → Value → World → Prop) : Nat → List Oper → Prop
  | _, [] => True
  | i, o :: rest => (∀ (a : Act) (w : World), C w → (∀ s, ops.toList.all (fun (o : Oper) => o.dst != some s) = true → a.tmps.getD s undef = a0.tmps.getD s undef) →
      (∀ e, e ∈ o.after → Region.binds .any e = true → ∀ (oe : Oper) (d : Nat), ops[e.on]? = some oe → oe.dst = some d → V e.on (a.tmps.getD d undef) w) →
      ∀ K : Act → World → Prop, (∀ v w', V i (toldOf sl i o a v) w' → C w' → R w w' → K (a.put o.dst v) w') → if Region.wanted o (yielded ops a.tmps) = true then o.wp P a w K Q else K (a.put o.dst undef) w) ∧ opsOkG P ops Q a0 sl C R V (i + 1) rest

theorem opsOkG_at {a0 : Act} {sl : Nat → Nat} {C : World → Prop} {R : World → World → Prop} {V : Nat → Value → World → Prop} (l : List Oper) : ∀ (k : Nat), opsOkG P ops Q a0 sl C R V k l → ∀ i o, l[i]? = some o →
    ∀ (a : Act) (w : World), C w → (∀ s, ops.toList.all (fun (o : Oper) => o.dst != some s) = true → a.tmps.getD s undef = a0.tmps.getD s undef) →
      (∀ e, e ∈ o.after → Region.binds .any e = true → ∀ (oe : Oper) (d : Nat), ops[e.on]? = some oe → oe.dst = some d → V e.on (a.tmps.getD d undef) w) →
      ∀ K : Act → World → Prop, (∀ v w', V (k + i) (toldOf sl (k + i) o a v) w' → C w' → R w w' → K (a.put o.dst v) w') → if Region.wanted o (yielded ops a.tmps) = true then o.wp P a w K Q else K (a.put o.dst undef) w := by
  induction l with
  | nil => intro k _ i o h; simp at h
  | cons x l ih =>
    intro k hk i o h
    cases i with
    | zero =>
      simp only [List.getElem?_cons_zero, Option.some.injEq] at h
      subst h
      exact hk.1
    | succ i =>
      simp only [List.getElem?_cons_succ] at h
      have := ih (k + 1) hk.2 i o h
      rw [show k + 1 + i = k + (i + 1) from by omega] at this
      exact this
/-- The slot of an operation that is told of. -/
def slotG (sl : Nat → Nat) (i : Nat) (o : Oper) : Nat := o.dst.getD (sl i)
/-- What the rule asks of the slots: that of an operation without a value is written by no other one but those that it waits for. -/
def slotsOk (ops : Array Oper) (sl : Nat → Nat) : Bool :=
  (List.range ops.size).all fun i => match ops[i]? with
    | some o => o.dst.isSome || (List.range ops.size).all fun j => match ops[j]? with
      | some oj => oj.dst != some (sl i) || o.after.any fun (e : Edge) => Region.binds .any e && decide (e.on = j)
      | none => true
    | none => true

def InvG (ops : Array Oper) (a0 : Act) (w0 : World) (sl : Nat → Nat) (C : World → Prop) (R : World → World → Prop) (V : Nat → Value → World → Prop) (L : Array Bool) (a : Act) (w : World) : Prop :=
  C w ∧ R w0.drew w ∧ a.defers = a0.defers ∧ a.tmps.size = a0.tmps.size ∧
      (∀ s, ops.toList.all (fun (o : Oper) => o.dst != some s) = true → a.tmps.getD s undef = a0.tmps.getD s undef) ∧
      (∀ (i : Nat) (o : Oper), ops[i]? = some o → L[i]? = some true → V i (a.tmps.getD (slotG sl i o) undef) w) ∧
      (∀ (i : Nat) (o : Oper), ops[i]? = some o → L[i]? = some true → ∀ e ∈ o.after, Region.binds .any e = true → L[e.on]? = some true)
/-- THE RULE. -/
theorem region_G {id : Nat} (a0 : Act) (w0 : World) (sl : Nat → Nat) (C : World → Prop) (R : World → World → Prop) (hR0 : ∀ w, R w w) (hRt : ∀ a b c, R a b → R b c → R a c) (V : Nat → Value → World → Prop) (hm : P.follows .mixedOrders = true)
    (hac : (ops.toList.mapIdx fun i (o : Oper) => o.after.all fun (e : Edge) => !Region.binds .any e || decide (e.on < i)).all (fun b => b) = true) (hsl : slotsOk ops sl = true)
    (hdst : ((ops.toList.filterMap fun (o : Oper) => o.dst).Nodup ∧ ops.toList.all (fun (o : Oper) => match o.dst with | some d => decide (d < a0.tmps.size) | none => true) = true))
    (hC : C w0.drew) (hst : ∀ i v w w', R w w' → V i v w → V i v w')
    (hop : opsOkG P ops Q a0 sl C R V 0 ops.toList)
    (hend : ∀ (vs : Nat → Value) (w : World), C w → R w0.drew w → (∀ (s : Nat), ops.toList.all (fun (o : Oper) => o.dst != some s) = true → vs s = a0.tmps.getD s undef) → (∀ (i : Nat) (o : Oper), ops[i]? = some o → V i (vs (slotG sl i o)) w) →
      Q .normal { tmps := wrote vs ops.toList a0.tmps, defers := a0.defers } w) :
    (Code.region id ops true).wp P Q a0 w0 := by
  have hac' : ∀ (i : Nat) (o : Oper), ops[i]? = some o → ∀ e : Edge, e ∈ o.after → Region.binds .any e = true → e.on < i := by
    intro i o hi e he hbd
    rw [List.all_eq_true] at hac
    have := hac (o.after.all fun e => !Region.binds .any e || decide (e.on < i)) (by
      rw [List.mem_mapIdx]
      have hlt := (Array.getElem?_eq_some_iff.1 hi).1
      refine ⟨i, by simpa using hlt, ?_⟩
      have := (Array.getElem?_eq_some_iff.1 hi).2
      simp [this])
    rw [Array.all_eq_true_iff_forall_mem] at this
    simpa [hbd] using this e he
  have hdlt : ∀ o : Oper, o ∈ ops.toList → ∀ d, o.dst = some d → d < a0.tmps.size := by
    intro o ho d hd
    have := List.all_eq_true.1 hdst.2 o ho
    rw [hd] at this
    simpa using this
  have hinj : ∀ (i j : Nat) (oi oj : Oper) (d : Nat), ops[i]? = some oi → ops[j]? = some oj → oi.dst = some d → oj.dst = some d → i = j := by
    intro i j oi oj d hi hj hdi hdj
    rw [← Array.getElem?_toList] at hi hj
    exact dst_inj _ hdst.1 i j oi oj d hi hj hdi hdj
  have hslots : ∀ (i j : Nat) (oi oj : Oper), ops[i]? = some oi → ops[j]? = some oj → oi.dst = none → oj.dst = some (sl i) → ∃ e ∈ oi.after, Region.binds .any e = true ∧ e.on = j := by
    intro i j oi oj hi hj hdi hdj
    have h1 := List.all_eq_true.1 hsl i (List.mem_range.2 (Array.getElem?_eq_some_iff.1 hi).1)
    rw [hi] at h1
    simp only [hdi, Option.isSome_none, Bool.false_or] at h1
    have h2 := List.all_eq_true.1 h1 j (List.mem_range.2 (Array.getElem?_eq_some_iff.1 hj).1)
    rw [hj] at h2
    simp only [hdj, bne_self_eq_false, Bool.false_or] at h2
    rw [← Array.any_toList, List.any_eq_true] at h2
    obtain ⟨e, he, h3⟩ := h2
    rw [Bool.and_eq_true, decide_eq_true_eq] at h3
    exact ⟨e, by simpa using he, h3.1, h3.2⟩
  refine wp_region_any hm ?_
  refine wpAny_inv2 hac' (InvG ops a0 w0 sl C R V) ?_ ?_ _ _ _ _ (by simp) ?_ ?_
  · intro i o ho L a w hs ⟨h1, h2, h3, h4, h5, h6, h7⟩ hi he
    have hom : o ∈ ops.toList := by rw [← Array.getElem?_toList] at ho; exact List.mem_of_getElem? ho
    have hlisted : ∀ (j : Nat) (oj : Oper), ops[j]? = some oj → (L.setIfInBounds i true)[j]? = some true → j ≠ i → L[j]? = some true := by
      intro j oj _ hLj e
      rw [Array.getElem?_setIfInBounds, if_neg (fun e' => e e'.symm)] at hLj
      exact hLj
    have key : ∀ v w', V i (toldOf sl i o a v) w' → C w' → R w w' → InvG ops a0 w0 sl C R V (L.setIfInBounds i true) (a.put o.dst v) w' := by
      intro v w' hv hc hbl
      refine ⟨hc, hRt _ _ _ h2 hbl, ?_, ?_, ?_, ?_, ?_⟩
      · rw [← h3]; cases o.dst <;> rfl
      · rw [← h4]; cases o.dst <;> simp [Act.put]
      · intro s hsn
        rw [← h5 s hsn]
        cases hdo : o.dst with
        | none => rfl
        | some d => exact eval_put_other a d s v (fun e => by have := List.all_eq_true.1 hsn o hom; rw [hdo, e] at this; simp at this)
      · intro j oj hj hLj
        by_cases e : j = i
        · subst e
          rw [ho] at hj
          obtain rfl : o = oj := by simpa using hj
          unfold toldOf at hv
          unfold slotG
          cases hdo : o.dst with
          | none =>
            rw [hdo] at hv
            exact hv
          | some d =>
            rw [hdo] at hv
            rw [Option.getD_some, eval_put_same a d v (by rw [h4]; exact hdlt o hom d hdo)]
            exact hv
        · have hLj' := hlisted j oj hj hLj e
          have := h6 j oj hj hLj'
          have hval : (a.put o.dst v).tmps.getD (slotG sl j oj) undef = a.tmps.getD (slotG sl j oj) undef := by
            cases hdo : o.dst with
            | none => rfl
            | some d' =>
              refine eval_put_other a d' _ v (fun e' => e ?_)
              unfold slotG at e'
              cases hdj : oj.dst with
              | some d =>
                rw [hdj, Option.getD_some] at e'
                subst e'
                exact hinj j i oj o d' hj ho hdj hdo
              | none =>
                rw [hdj, Option.getD_none] at e'
                obtain ⟨ed, hed, hbd, hon⟩ := hslots j i oj o hj ho hdj (by rw [hdo, e'])
                have := h7 j oj hj hLj' ed hed hbd
                rw [hon, hi] at this
                cases this
          rw [hval]
          exact hst j _ w w' hbl this
      · intro j oj hj hLj ed hed hbd
        by_cases e : j = i
        · subst e
          rw [ho] at hj
          obtain rfl : o = oj := by simpa using hj
          have := he ed hed hbd
          rw [Array.getElem?_setIfInBounds]
          split
          · split
            · rfl
            · rename_i h8 h9; exact absurd (Array.getElem?_eq_some_iff.1 this).1 (by omega)
          · exact this
        · have := h7 j oj hj (hlisted j oj hj hLj e) ed hed hbd
          rw [Array.getElem?_setIfInBounds]
          split
          · split
            · rfl
            · rename_i h8 h9; exact absurd (Array.getElem?_eq_some_iff.1 this).1 (by omega)
          · exact this
    have hmain := opsOkG_at ops.toList 0 hop i o (by rw [Array.getElem?_toList]; exact ho) a w h1 h5 (by
      intro e hem hb oe d hoe hd
      have := h6 e.on oe hoe (he e hem hb)
      unfold slotG at this
      rw [hd, Option.getD_some] at this
      exact this) (fun a' w' => InvG ops a0 w0 sl C R V (L.setIfInBounds i true) a' w') (fun v w' hv hc hbl => by rw [Nat.zero_add] at hv; exact key v w' hv hc hbl)
    unfold wpOp
    rw [ho]
    simp only []
    by_cases hw : Region.wanted o (yielded ops a.tmps) = true
    · rw [if_pos hw] at hmain ⊢
      exact .inl hmain
    · rw [if_neg hw] at hmain ⊢
      exact hmain
  · intro L a w hall ⟨h1, h2, h3, h4, h5, h6, h7⟩
    have ha : a = { tmps := wrote (fun d => a.tmps.getD d undef) ops.toList a0.tmps, defers := a0.defers } := by
      obtain ⟨at', ad⟩ := a
      simp only at h3 h4 h5
      subst h3
      have key : at' = wrote (fun d => at'.getD d undef) ops.toList a0.tmps := by
        have hgd : ∀ s, s < at'.size → (wrote (fun d => at'.getD d undef) ops.toList a0.tmps).getD s undef = at'.getD s undef := by
          intro s hs
          refine wrote_at _ _ _ s (by omega) _ (fun _ => rfl) (fun hno => ?_)
          exact (h5 s (by rw [List.all_eq_true]; intro o ho; simpa using hno o ho)).symm
        apply Array.ext
        · rw [wrote_size]; exact h4
        · intro i hi1 hi2
          have h := hgd i hi1
          rw [Array.getD_eq_getD_getElem?, Array.getD_eq_getD_getElem?, Array.getElem?_eq_getElem hi1, Array.getElem?_eq_getElem hi2] at h
          exact h.symm
      exact congrArg (fun t => Act.mk t a0.defers) key
    rw [ha]
    exact hend _ w h1 h2 h5 (fun i o ho => h6 i o ho (hall i (Array.getElem?_eq_some_iff.1 ho).1))
  · refine ⟨hC, hR0 _, rfl, rfl, fun _ _ => rfl, ?_, ?_⟩
    · intro i o ho hL
      rw [Array.getElem?_replicate] at hL
      split at hL <;> cases hL
    · intro i o ho hL
      rw [Array.getElem?_replicate] at hL
      split at hL <;> cases hL
  · unfold unlisted
    simp
end
end Go.Proofs.Ytiailpbmmadaeaa
