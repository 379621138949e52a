/-
  A statement whose order is open but for its tail: operations that wait, each, for all that stand before them.
-/
import Derived.Test.YtiicbbhjepkndaaReg2
namespace Go.Proofs.Ytiicbbhjepkndaa
open Go.RowKit

section
variable {P : Program} {ops : Array Oper} {Q : Exit → Act → World → Prop}
/-- Operations in turn. -/
def seqW (P : Program) (Q : Exit → Act → World → Prop) : List Oper → Act → World → Prop
  | [], a, w => Q .normal a w
  | o :: rest, a, w => o.wp P a w (fun a w => seqW P Q rest a w) Q ∨ (o.asks P a w ∧ LetsOut Q)
theorem seqW_cons (o : Oper) (rest : List Oper) (a : Act) (w : World) : seqW P Q (o :: rest) a w = (o.wp P a w (fun a w => seqW P Q rest a w) Q ∨ (o.asks P a w ∧ LetsOut Q)) := rfl
theorem seqW_wpList {ops' : Array Oper} : ∀ (l : List Oper) (a : Act) (w : World), l.all (fun o => o.guard.isNone) = true → wpList P ops' Q l a w → seqW P Q l a w
  | [], _, _, _, h => h
  | o :: rest, a, w, hg, h => by
    simp only [List.all_cons, Bool.and_eq_true] at hg
    have hgo : o.guard = none := by simpa using hg.1
    unfold wpList at h
    rw [if_pos (by simp [Region.wanted, hgo])] at h
    rcases h with h | h
    · exact .inl (Oper.wp_mono (fun a' w' h' => seqW_wpList rest a' w' hg.2 h') h)
    · exact .inr h
def tailB (ops : Array Oper) (m : Nat) : Bool :=
  (List.range ops.size).all fun p => decide (p < m) || (List.range p).all fun j => (List.range (p + 1)).any fun k => decide (j < k) && (match ops[k]? with | some o => o.after.any fun (e : Edge) => decide (e.on = j) && Region.binds .any e | none => false)
theorem region_seq {id : Nat} {m : Nat} (a0 : Act) (w0 : World) (C : World → Prop) (R : World → World → Prop) (hR0 : R w0.drew w0.drew) (hRt : ∀ a b c, R a b → R b c → R a c) (V : Nat → Value → World → Prop) (hm : P.follows .mixedOrders = true)
    (hac : (ops.toList.mapIdx fun i (o : Oper) => o.after.all fun (e : Edge) => !Region.binds .any e || decide (e.on < i)).all (fun b => b) = true) (hg : ops.toList.all (fun (o : Oper) => o.guard.isNone) = true)
    (hsz : m < ops.size) (hdep : tailB ops m = true)
    (hdst : (((ops.toList.take m).filterMap fun (o : Oper) => o.dst).Nodup ∧ (ops.toList.take m).all (fun (o : Oper) => match o.dst with | some d => decide (d < a0.tmps.size) | none => true) = true))
    (hC : C w0.drew) (hst : ∀ i v w w', R w w' → V i v w → V i v w')
    (hop : opsOkR P (ops.toList.take m).toArray Q a0 C R V 0 (ops.toList.take m))
    (hend : ∀ (vs : Nat → Value) (w : World), C w → R w0.drew w → (∀ (i : Nat) (o : Oper) (d : Nat), i < m → ops[i]? = some o → o.dst = some d → V i (vs d) w) →
      seqW P Q (ops.toList.drop m) { tmps := wrote vs (ops.toList.take m) a0.tmps, defers := a0.defers } w) :
    (Code.region id ops true).wp P Q a0 w0 := by
  have hac' : ∀ (i : Nat) (o : Oper), ops[i]? = some o → ∀ e : Edge, e ∈ o.after → Region.binds .any e = true → e.on < i := by
    intro i o hi e he hbd
    rw [List.all_eq_true] at hac
    have := hac (o.after.all fun e => !Region.binds .any e || decide (e.on < i)) (by
      rw [List.mem_mapIdx]
      have hlt := (Array.getElem?_eq_some_iff.1 hi).1
      refine ⟨i, by simpa using hlt, ?_⟩
      have := (Array.getElem?_eq_some_iff.1 hi).2
      simp [this])
    rw [Array.all_eq_true_iff_forall_mem] at this
    simpa [hbd] using this e he
  have hnext : ∀ p j, m ≤ p → p < ops.size → j < p → ∃ (k : Nat) (o : Oper) (e : Edge), j < k ∧ k ≤ p ∧ ops[k]? = some o ∧ e ∈ o.after ∧ e.on = j ∧ Region.binds .any e = true := by
    intro p j hmp hp hj
    have h0 := List.all_eq_true.1 hdep p (by simpa using hp)
    rw [Bool.or_eq_true, decide_eq_true_eq] at h0
    rcases h0 with h0 | h0
    · omega
    · have h1 := List.all_eq_true.1 h0 j (by simpa using hj)
      rw [List.any_eq_true] at h1
      obtain ⟨k, hk, h1⟩ := h1
      simp only [List.mem_range] at hk
      simp only [Bool.and_eq_true, decide_eq_true_eq] at h1
      obtain ⟨h1, h3⟩ := h1
      cases ho : ops[k]? with
      | none => rw [ho] at h3; cases h3
      | some o =>
        rw [ho] at h3
        simp only [] at h3
        rw [Array.any_eq_true] at h3
        obtain ⟨x, hx, hxe⟩ := h3
        simp only [Bool.and_eq_true, decide_eq_true_eq] at hxe
        exact ⟨k, o, _, h1, by omega, ho, Array.getElem_mem hx, hxe.1, hxe.2⟩
  have htk : ∀ (i : Nat) (o : Oper), i < m → ops[i]? = some o → (ops.toList.take m)[i]? = some o := by
    intro i o hi ho
    rw [List.getElem?_take, if_pos hi, Array.getElem?_toList]; exact ho
  have hdlt : ∀ o : Oper, o ∈ ops.toList.take m → ∀ d, o.dst = some d → d < a0.tmps.size := by
    intro o ho d hd
    have := List.all_eq_true.1 hdst.2 o ho
    rw [hd] at this
    simpa using this
  have hclosed : ∀ (L : Array Bool) (p : Nat), m ≤ p → p < ops.size → (∀ (k : Nat) (o : Oper) (e : Edge), ops[k]? = some o → L[k]? = some true → e ∈ o.after → Region.binds .any e = true → L[e.on]? = some true) →
      (∀ (o : Oper) (e : Edge), ops[p]? = some o → e ∈ o.after → Region.binds .any e = true → L[e.on]? = some true) → ∀ j, j < p → L[j]? = some true := by
    intro L p hmp hp hcl hr
    have key : ∀ t j, j < p → p - j ≤ t → L[j]? = some true := by
      intro t
      induction t with
      | zero => intro j hj ht; omega
      | succ t ih =>
        intro j hj ht
        obtain ⟨k, o, ed, h1, h2, h4, h5, h6, h7⟩ := hnext p j hmp hp hj
        by_cases ek : k = p
        · subst ek; rw [← h6]; exact hr o ed h4 h5 h7
        · rw [← h6]
          exact hcl k o ed h4 (ih k (by omega) (by omega)) h5 h7
    intro j hj
    exact key (p - j) j hj (Nat.le_refl _)
  have hdrop : ∀ (s : Nat) (o : Oper), ops[s]? = some o → ops.toList.drop s = o :: ops.toList.drop (s + 1) := by
    intro s o ho
    have hs := (Array.getElem?_eq_some_iff.1 ho).1
    rw [List.drop_eq_getElem_cons (by simpa using hs)]
    congr 1
    have := (Array.getElem?_eq_some_iff.1 ho).2
    simpa using this
  refine wp_region_any hm ?_
  refine wpAny_inv2 hac' (fun L a w => (∀ (k : Nat) (o : Oper) (e : Edge), ops[k]? = some o → L[k]? = some true → e ∈ o.after → Region.binds .any e = true → L[e.on]? = some true) ∧
      (((∀ j, m ≤ j → j < ops.size → L[j]? = some false) ∧ C w ∧ R w0.drew w ∧ a.defers = a0.defers ∧ a.tmps.size = a0.tmps.size ∧
      (∀ s, (ops.toList.take m).all (fun (o : Oper) => o.dst != some s) = true → a.tmps.getD s undef = a0.tmps.getD s undef) ∧
      (∀ (i : Nat) (o : Oper) (d : Nat), i < m → ops[i]? = some o → o.dst = some d → L[i]? = some true → V i (a.tmps.getD d undef) w)) ∨
      (∃ s, m < s ∧ s ≤ ops.size ∧ (∀ j, j < s → L[j]? = some true) ∧ (∀ j, s ≤ j → j < ops.size → L[j]? = some false) ∧ seqW P Q (ops.toList.drop s) a w))) ?_ ?_ _ _ _ _ (by simp) ?_ ?_
  · intro i o ho L a w hs ⟨hcl, hAB⟩ hi he
    have hoA : o ∈ ops.toList := by rw [← Array.getElem?_toList] at ho; exact List.mem_of_getElem? ho
    have hgo : o.guard = none := by have := List.all_eq_true.1 hg o hoA; simpa using this
    have him : i < ops.size := (Array.getElem?_eq_some_iff.1 ho).1
    unfold wpOp
    rw [ho]
    simp only []
    rw [if_pos (by simp [Region.wanted, hgo])]
    have hnew : ∀ (k : Nat) (o' : Oper) (e : Edge), ops[k]? = some o' → (L.setIfInBounds i true)[k]? = some true → e ∈ o'.after → Region.binds .any e = true → (L.setIfInBounds i true)[e.on]? = some true := by
      intro k o' e hk hLk hem hbd
      have h1 : L[e.on]? = some true := by
        by_cases ek : i = k
        · subst ek
          rw [ho] at hk
          obtain rfl : o = o' := by simpa using hk
          exact he e hem hbd
        · rw [Array.getElem?_setIfInBounds, if_neg ek] at hLk
          exact hcl k o' e hk hLk hem hbd
      rw [Array.getElem?_setIfInBounds]
      by_cases e2 : i = e.on
      · rw [if_pos e2, if_pos (by omega)]
      · rw [if_neg e2]; exact h1
    have hrdy : ∀ (o' : Oper) (e : Edge), ops[i]? = some o' → e ∈ o'.after → Region.binds .any e = true → L[e.on]? = some true := by
      intro o' e ho' hem hbd
      rw [ho] at ho'
      obtain rfl : o = o' := by simpa using ho'
      exact he e hem hbd
    have hgo2 : ∀ s, m ≤ s → i = s → (∀ j, j < s → L[j]? = some true) → (∀ j, s ≤ j → j < ops.size → L[j]? = some false) → seqW P Q (ops.toList.drop s) a w →
        (o.wp P a w (fun a' w' => (∀ (k : Nat) (o : Oper) (e : Edge), ops[k]? = some o → (L.setIfInBounds i true)[k]? = some true → e ∈ o.after → Region.binds .any e = true → (L.setIfInBounds i true)[e.on]? = some true) ∧
          (((∀ j, m ≤ j → j < ops.size → (L.setIfInBounds i true)[j]? = some false) ∧ C w' ∧ R w0.drew w' ∧ a'.defers = a0.defers ∧ a'.tmps.size = a0.tmps.size ∧
          (∀ s, (ops.toList.take m).all (fun (o : Oper) => o.dst != some s) = true → a'.tmps.getD s undef = a0.tmps.getD s undef) ∧
          (∀ (i' : Nat) (o : Oper) (d : Nat), i' < m → ops[i']? = some o → o.dst = some d → (L.setIfInBounds i true)[i']? = some true → V i' (a'.tmps.getD d undef) w')) ∨
          (∃ s, m < s ∧ s ≤ ops.size ∧ (∀ j, j < s → (L.setIfInBounds i true)[j]? = some true) ∧ (∀ j, s ≤ j → j < ops.size → (L.setIfInBounds i true)[j]? = some false) ∧ seqW P Q (ops.toList.drop s) a' w'))) Q) ∨ (o.asks P a w ∧ LetsOut Q) := by
      intro s hms his h1 h2 h3
      subst his
      rw [hdrop i o ho, seqW_cons] at h3
      refine h3.imp (Oper.wp_mono (fun a' w' hq => ⟨hnew, .inr ⟨i + 1, by omega, by omega, fun j hj => ?_, fun j hj hj2 => ?_, hq⟩⟩)) (fun x => x)
      · rw [Array.getElem?_setIfInBounds]
        by_cases e : i = j
        · rw [if_pos e, if_pos (by omega)]
        · rw [if_neg e]; exact h1 j (by omega)
      · rw [Array.getElem?_setIfInBounds, if_neg (by omega)]
        exact h2 j (by omega) hj2
    rcases hAB with ⟨hf, h1, h2, h3, h4, h5, h6⟩ | ⟨s, hms, hss, hlt, hge, hw⟩
    · by_cases hilt : i < m
      · have hot : o ∈ ops.toList.take m := List.mem_of_getElem? (htk i o hilt ho)
        refine .inl ?_
        refine opsOkR_at (ops.toList.take m) 0 hop i o (htk i o hilt ho) a w h1 (by simpa using h5) ?_ _ ?_
        · intro ed hem hb oe d hoe hd
          have hlt := hac' i o ho ed hem hb
          have hoe' : ops[ed.on]? = some oe := by
            rw [List.getElem?_toArray, List.getElem?_take] at hoe
            split at hoe
            · rwa [Array.getElem?_toList] at hoe
            · cases hoe
          exact h6 ed.on oe d (by omega) hoe' hd (he ed hem hb)
        · intro v w' hv hc hbl
          rw [Nat.zero_add] at hv
          refine ⟨hnew, .inl ⟨fun j hj hj2 => ?_, hc, hRt _ _ _ h2 hbl, ?_, ?_, ?_, ?_⟩⟩
          · rw [Array.getElem?_setIfInBounds, if_neg (by omega)]; exact hf j hj hj2
          · rw [← h3]; cases o.dst <;> rfl
          · rw [← h4]; cases o.dst <;> simp [Act.put]
          · intro s hsn
            rw [← h5 s hsn]
            cases hdo : o.dst with
            | none => rfl
            | some d => exact eval_put_other a d s v (fun e => by have := List.all_eq_true.1 hsn o hot; rw [hdo, e] at this; simp at this)
          · intro j oj d hjm hj hdj hLj
            by_cases e : j = i
            · subst e
              rw [ho] at hj
              obtain rfl : o = oj := by simpa using hj
              rw [hdj, eval_put_same a d v (by rw [h4]; exact hdlt o hot d hdj)]
              exact hv
            · have hLj' : L[j]? = some true := by
                rw [Array.getElem?_setIfInBounds, if_neg (fun e' => e e'.symm)] at hLj
                exact hLj
              have := h6 j oj d hjm hj hdj hLj'
              have hval : (a.put o.dst v).tmps.getD d undef = a.tmps.getD d undef := by
                cases hdo : o.dst with
                | none => rfl
                | some d' =>
                  refine eval_put_other a d' d v (fun e' => e ?_)
                  subst e'
                  exact dst_inj _ hdst.1 j i oj o d' (htk j oj hjm hj) (htk i o hilt ho) hdj hdo
              rw [hval]
              exact hst j _ w w' hbl this
      · have hall := hclosed L i (by omega) him hcl hrdy
        have hieq : i = m := by
          by_cases e : i = m
          · exact e
          · have := hall m (by omega); rw [hf m (Nat.le_refl _) hsz] at this; cases this
        have ha : a = { tmps := wrote (fun d => a.tmps.getD d undef) (ops.toList.take m) a0.tmps, defers := a0.defers } := by
          obtain ⟨at', ad⟩ := a
          simp only at h3 h4 h5
          subst h3
          have key : at' = wrote (fun d => at'.getD d undef) (ops.toList.take m) a0.tmps := by
            have hgd : ∀ s, s < at'.size → (wrote (fun d => at'.getD d undef) (ops.toList.take m) a0.tmps).getD s undef = at'.getD s undef := by
              intro s hs
              refine wrote_at _ _ _ s (by omega) _ (fun _ => rfl) (fun hno => ?_)
              exact (h5 s (by rw [List.all_eq_true]; intro o ho; simpa using hno o ho)).symm
            apply Array.ext
            · rw [wrote_size]; exact h4
            · intro i hi1 hi2
              have h := hgd i hi1
              rw [Array.getD_eq_getD_getElem?, Array.getD_eq_getD_getElem?, Array.getElem?_eq_getElem hi1, Array.getElem?_eq_getElem hi2] at h
              exact h.symm
          exact congrArg (fun t => Act.mk t a0.defers) key
        have hw := hend (fun d => a.tmps.getD d undef) w h1 h2 (fun j oj d hj hoj hd => h6 j oj d hj hoj hd (hall j (by omega)))
        rw [← ha] at hw
        exact hgo2 m (Nat.le_refl _) hieq (fun j hj => hall j (by omega)) hf hw
    · have hige : s ≤ i := by
        rcases Nat.lt_or_ge i s with h | h
        · rw [hlt i h] at hi; cases hi
        · exact h
      have hieq : i = s := by
        by_cases e : i = s
        · exact e
        · have := hclosed L i (by omega) him hcl hrdy s (by omega)
          rw [hge s (Nat.le_refl _) (by omega)] at this; cases this
      exact hgo2 s (by omega) hieq hlt hge hw
  · intro L a w hall ⟨_, hAB⟩
    rcases hAB with ⟨hf, _⟩ | ⟨s, hms, hss, hlt, hge, hw⟩
    · have := hf m (Nat.le_refl _) hsz
      rw [hall m hsz] at this; cases this
    · have hs : s = ops.size := by
        rcases Nat.lt_or_ge s ops.size with h | h
        · have := hge s (Nat.le_refl _) h; rw [hall s h] at this; cases this
        · omega
      rw [List.drop_of_length_le (by simp; omega)] at hw
      exact hw
  · refine ⟨fun k o e _ hk => ?_, .inl ⟨fun j _ hj => ?_, hC, hR0, rfl, rfl, fun _ _ => rfl, ?_⟩⟩
    · rw [Array.getElem?_replicate] at hk; split at hk <;> simp_all
    · rw [Array.getElem?_replicate, if_pos hj]
    · intro i o d _ ho hd hL
      rw [Array.getElem?_replicate] at hL
      split at hL <;> simp_all
  · unfold unlisted
    simp
end
end Go.Proofs.Ytiicbbhjepkndaa
