/-
  A statement whose order is open but for its last two operations, which wait (themselves or through others) for all that stand before them.
-/
import Derived.Test.YtlipedigmokgbaaReg2
namespace Go.Proofs.Ytlipedigmokgbaa
open Go.RowKit

section
variable {P : Program} {ops : Array Oper} {Q : Exit → Act → World → Prop}
theorem region_tail2 {id : Nat} {m : Nat} {om on : Oper} (a0 : Act) (w0 : World) (C : World → Prop) (V : Nat → Value → World → Prop) (hm : P.follows .mixedOrders = true)
    (hac : (ops.toList.mapIdx fun i (o : Oper) => o.after.all fun (e : Edge) => !Region.binds .any e || decide (e.on < i)).all (fun b => b) = true) (hg : ops.toList.all (fun (o : Oper) => o.guard.isNone) = true)
    (hsz : ops.size = m + 2) (hom : ops[m]? = some om) (hon : ops[m + 1]? = some on)
    (hdep : (List.range (m + 1)).all (fun j => (List.range (m + 2)).any fun k => decide (j < k) && decide (j = m ∨ k ≤ m) && (match ops[k]? with | some o => o.after.any fun (e : Edge) => decide (e.on = j) && Region.binds .any e | none => false)) = true)
    (hdst : (((ops.toList.take m).filterMap fun (o : Oper) => o.dst).Nodup ∧ (ops.toList.take m).all (fun (o : Oper) => match o.dst with | some d => decide (d < a0.tmps.size) | none => true) = true))
    (hC : C w0.drew) (hst : ∀ i v w w', Below w.heap.size w w' → V i v w → V i v w')
    (hop : opsOk P (ops.toList.take m).toArray Q a0 C V 0 (ops.toList.take m))
    (hend : ∀ (vs : Nat → Value) (w : World), C w → Below w0.heap.size w0 w → (∀ (i : Nat) (o : Oper) (d : Nat), i < m → ops[i]? = some o → o.dst = some d → V i (vs d) w) →
      om.wp P { tmps := wrote vs (ops.toList.take m) a0.tmps, defers := a0.defers } w (fun a w => on.wp P a w (Q .normal) Q) Q) :
    (Code.region id ops true).wp P Q a0 w0 := by
  have hac' : ∀ (i : Nat) (o : Oper), ops[i]? = some o → ∀ e : Edge, e ∈ o.after → Region.binds .any e = true → e.on < i := by
    intro i o hi e he hbd
    rw [List.all_eq_true] at hac
    have := hac (o.after.all fun e => !Region.binds .any e || decide (e.on < i)) (by
      rw [List.mem_mapIdx]
      have hlt := (Array.getElem?_eq_some_iff.1 hi).1
      refine ⟨i, by simpa using hlt, ?_⟩
      have := (Array.getElem?_eq_some_iff.1 hi).2
      simp [this])
    rw [Array.all_eq_true_iff_forall_mem] at this
    simpa [hbd] using this e he
  have hnext : ∀ j, j < m + 1 → ∃ (k : Nat) (o : Oper) (e : Edge), j < k ∧ (j = m ∨ k ≤ m) ∧ k < m + 2 ∧ ops[k]? = some o ∧ e ∈ o.after ∧ e.on = j ∧ Region.binds .any e = true := by
    intro j hj
    have := List.all_eq_true.1 hdep j (by simpa using hj)
    rw [List.any_eq_true] at this
    obtain ⟨k, hk, h1⟩ := this
    simp only [List.mem_range] at hk
    simp only [Bool.and_eq_true, decide_eq_true_eq] at h1
    obtain ⟨⟨h1, h2⟩, h3⟩ := h1
    cases ho : ops[k]? with
    | none => rw [ho] at h3; cases h3
    | some o =>
      rw [ho] at h3
      simp only [] at h3
      rw [Array.any_eq_true] at h3
      obtain ⟨x, hx, hxe⟩ := h3
      simp only [Bool.and_eq_true, decide_eq_true_eq] at hxe
      exact ⟨k, o, _, h1, h2, hk, ho, Array.getElem_mem hx, hxe.1, hxe.2⟩
  have htk : ∀ (i : Nat) (o : Oper), i < m → ops[i]? = some o → (ops.toList.take m)[i]? = some o := by
    intro i o hi ho
    rw [List.getElem?_take, if_pos hi, Array.getElem?_toList]; exact ho
  have hdlt : ∀ o : Oper, o ∈ ops.toList.take m → ∀ d, o.dst = some d → d < a0.tmps.size := by
    intro o ho d hd
    have := List.all_eq_true.1 hdst.2 o ho
    rw [hd] at this
    simpa using this
  -- what stands before place n is done, if what waits at n has all that it waits for, and what is done has what it waited for
  have hclosed : ∀ (L : Array Bool) (n : Nat), n ≤ m + 1 → (∀ (k : Nat) (o : Oper) (e : Edge), ops[k]? = some o → L[k]? = some true → e ∈ o.after → Region.binds .any e = true → L[e.on]? = some true) →
      (∀ (o : Oper) (e : Edge), ops[n]? = some o → e ∈ o.after → Region.binds .any e = true → L[e.on]? = some true) → (n = m + 1 → L[m]? = some true) → (n = m ∨ n = m + 1) → ∀ j, j < n → L[j]? = some true := by
    intro L n hn hcl hr hnm hn2
    have key : ∀ t j, j < n → n - j ≤ t → L[j]? = some true := by
      intro t
      induction t with
      | zero => intro j hj ht; omega
      | succ t ih =>
        intro j hj ht
        by_cases e : j = m ∧ n = m + 1
        · rw [e.1]; exact hnm e.2
        · obtain ⟨k, o, ed, h1, h2, h3, h4, h5, h6, h7⟩ := hnext j (by omega)
          by_cases ek : k = n
          · subst ek; rw [← h6]; exact hr o ed h4 h5 h7
          · have hkn : k < n := by omega
            rw [← h6]
            exact hcl k o ed h4 (ih k hkn (by omega)) h5 h7
    intro j hj
    exact key (n - j) j hj (Nat.le_refl _)
  refine wp_region_any hm ?_
  refine wpAny_inv2 hac' (fun L a w => (∀ (k : Nat) (o : Oper) (e : Edge), ops[k]? = some o → L[k]? = some true → e ∈ o.after → Region.binds .any e = true → L[e.on]? = some true) ∧
      (L[m + 1]? = some true → Q .normal a w ∧ ∀ j, j < m + 1 → L[j]? = some true) ∧ (L[m + 1]? = some false → L[m]? = some true → on.wp P a w (Q .normal) Q ∧ ∀ j, j < m → L[j]? = some true) ∧
      (L[m + 1]? = some false → L[m]? = some false → C w ∧ Below w0.heap.size w0 w ∧ a.defers = a0.defers ∧ a.tmps.size = a0.tmps.size ∧
      (∀ s, (ops.toList.take m).all (fun (o : Oper) => o.dst != some s) = true → a.tmps.getD s undef = a0.tmps.getD s undef) ∧
      (∀ (i : Nat) (o : Oper) (d : Nat), i < m → ops[i]? = some o → o.dst = some d → L[i]? = some true → V i (a.tmps.getD d undef) w))) ?_ ?_ _ _ _ _ (by simp) ?_ ?_
  · intro i o ho L a w hs ⟨hcl, hT, hM, hF⟩ hi he
    have hoA : o ∈ ops.toList := by rw [← Array.getElem?_toList] at ho; exact List.mem_of_getElem? ho
    have hgo : o.guard = none := by have := List.all_eq_true.1 hg o hoA; simpa using this
    have hLm : m < L.size := by omega
    have hLm1 : m + 1 < L.size := by omega
    have him : i < ops.size := (Array.getElem?_eq_some_iff.1 ho).1
    unfold wpOp
    rw [ho]
    simp only []
    rw [if_pos (by simp [Region.wanted, hgo])]
    left
    have hnew : ∀ (k : Nat) (o' : Oper) (e : Edge), ops[k]? = some o' → (L.setIfInBounds i true)[k]? = some true → e ∈ o'.after → Region.binds .any e = true → (L.setIfInBounds i true)[e.on]? = some true := by
      intro k o' e hk hLk hem hbd
      have h1 : L[e.on]? = some true := by
        by_cases ek : i = k
        · subst ek
          rw [ho] at hk
          obtain rfl : o = o' := by simpa using hk
          exact he e hem hbd
        · rw [Array.getElem?_setIfInBounds, if_neg ek] at hLk
          exact hcl k o' e hk hLk hem hbd
      rw [Array.getElem?_setIfInBounds]
      by_cases e2 : i = e.on
      · rw [if_pos e2, if_pos (by omega)]
      · rw [if_neg e2]; exact h1
    have hL1f : L[m + 1]? = some false := by
      rw [Array.getElem?_eq_getElem hLm1]
      cases hb : L[m + 1] with
      | false => rfl
      | true =>
        have h1 := (hT (by rw [Array.getElem?_eq_getElem hLm1, hb])).2
        by_cases e : i = m + 1
        · subst e; rw [Array.getElem?_eq_getElem hLm1, hb] at hi; exact hi
        · have := h1 i (by omega); rw [this] at hi; cases hi
    by_cases e1 : i = m + 1
    · subst e1
      rw [hon] at ho
      obtain rfl : on = o := by simpa using ho
      obtain ⟨k, o', ed, h1, h2, h3, h4, h5, h6, h7⟩ := hnext m (by omega)
      have hk : k = m + 1 := by omega
      subst hk
      rw [hon] at h4
      obtain rfl : on = o' := by simpa using h4
      have hLmt : L[m]? = some true := by rw [← h6]; exact he ed h5 h7
      obtain ⟨hw, hall⟩ := hM hL1f hLmt
      refine Oper.wp_mono (fun a' w' hq => ⟨hnew, fun _ => ⟨hq, fun j hj => ?_⟩, fun hf => ?_, fun hf => ?_⟩) hw
      · rw [Array.getElem?_setIfInBounds, if_neg (by omega)]
        by_cases ej : j = m
        · rw [ej]; exact hLmt
        · exact hall j (by omega)
      · rw [Array.getElem?_setIfInBounds, if_pos rfl, if_pos hLm1] at hf; cases hf
      · rw [Array.getElem?_setIfInBounds, if_pos rfl, if_pos hLm1] at hf; cases hf
    · have hLmf : L[m]? = some false := by
        rw [Array.getElem?_eq_getElem hLm]
        cases hb : L[m] with
        | false => rfl
        | true =>
          have h1 := (hM hL1f (by rw [Array.getElem?_eq_getElem hLm, hb])).2
          by_cases e : i = m
          · subst e; rw [Array.getElem?_eq_getElem hLm, hb] at hi; exact hi
          · have := h1 i (by omega); rw [this] at hi; cases hi
      obtain ⟨h1, h2, h3, h4, h5, h6⟩ := hF hL1f hLmf
      by_cases e : i = m
      · subst e
        rw [hom] at ho
        obtain rfl : om = o := by simpa using ho
        have hall : ∀ j, j < i → L[j]? = some true := hclosed L i (by omega) hcl (fun o' ed ho' hem hbd => by
          rw [hom] at ho'
          obtain rfl : om = o' := by simpa using ho'
          exact he ed hem hbd) (by omega) (.inl rfl)
        have ha : a = { tmps := wrote (fun d => a.tmps.getD d undef) (ops.toList.take i) a0.tmps, defers := a0.defers } := by
          obtain ⟨at', ad⟩ := a
          simp only at h3 h4 h5
          subst h3
          have key : at' = wrote (fun d => at'.getD d undef) (ops.toList.take i) a0.tmps := by
            have hgd : ∀ s, s < at'.size → (wrote (fun d => at'.getD d undef) (ops.toList.take i) a0.tmps).getD s undef = at'.getD s undef := by
              intro s hs
              refine wrote_at _ _ _ s (by omega) _ (fun _ => rfl) (fun hno => ?_)
              exact (h5 s (by rw [List.all_eq_true]; intro o ho; simpa using hno o ho)).symm
            apply Array.ext
            · rw [wrote_size]; exact h4
            · intro i hi1 hi2
              have h := hgd i hi1
              rw [Array.getD_eq_getD_getElem?, Array.getD_eq_getD_getElem?, Array.getElem?_eq_getElem hi1, Array.getElem?_eq_getElem hi2] at h
              exact h.symm
          exact congrArg (fun t => Act.mk t a0.defers) key
        have hw := hend (fun d => a.tmps.getD d undef) w h1 h2 (fun j oj d hj hoj hd => h6 j oj d hj hoj hd (hall j hj))
        rw [← ha] at hw
        refine Oper.wp_mono (fun a' w' hq => ⟨hnew, fun ht => ?_, fun _ _ => ⟨hq, fun j hj => ?_⟩, fun _ hf => ?_⟩) hw
        · rw [Array.getElem?_setIfInBounds, if_neg (by omega), hL1f] at ht; cases ht
        · rw [Array.getElem?_setIfInBounds, if_neg (by omega)]; exact hall j hj
        · rw [Array.getElem?_setIfInBounds, if_pos rfl, if_pos hLm] at hf; cases hf
      · have hilt : i < m := by omega
        have hot : o ∈ ops.toList.take m := List.mem_of_getElem? (htk i o hilt ho)
        refine opsOk_at (ops.toList.take m) 0 hop i o (htk i o hilt ho) a w h1 (by simpa using h5) ?_ _ ?_
        · intro ed hem hb oe d hoe hd
          have hlt := hac' i o ho ed hem hb
          have hoe' : ops[ed.on]? = some oe := by
            rw [List.getElem?_toArray, List.getElem?_take] at hoe
            split at hoe
            · rwa [Array.getElem?_toList] at hoe
            · cases hoe
          exact h6 ed.on oe d (by omega) hoe' hd (he ed hem hb)
        · intro v w' hv hc hbl
          rw [Nat.zero_add] at hv
          refine ⟨hnew, fun ht => ?_, fun _ ht => ?_, fun _ _ => ⟨hc, h2.trans (hbl.mono h2.size), ?_, ?_, ?_, ?_⟩⟩
          · rw [Array.getElem?_setIfInBounds, if_neg e1, hL1f] at ht; cases ht
          · rw [Array.getElem?_setIfInBounds, if_neg e, hLmf] at ht; cases ht
          · rw [← h3]; cases o.dst <;> rfl
          · rw [← h4]; cases o.dst <;> simp [Act.put]
          · intro s hsn
            rw [← h5 s hsn]
            cases hdo : o.dst with
            | none => rfl
            | some d => exact eval_put_other a d s v (fun e => by have := List.all_eq_true.1 hsn o hot; rw [hdo, e] at this; simp at this)
          · intro j oj d hjm hj hdj hLj
            by_cases e : j = i
            · subst e
              rw [ho] at hj
              obtain rfl : o = oj := by simpa using hj
              rw [hdj, eval_put_same a d v (by rw [h4]; exact hdlt o hot d hdj)]
              exact hv
            · have hLj' : L[j]? = some true := by
                rw [Array.getElem?_setIfInBounds, if_neg (fun e' => e e'.symm)] at hLj
                exact hLj
              have := h6 j oj d hjm hj hdj hLj'
              have hval : (a.put o.dst v).tmps.getD d undef = a.tmps.getD d undef := by
                cases hdo : o.dst with
                | none => rfl
                | some d' =>
                  refine eval_put_other a d' d v (fun e' => e ?_)
                  subst e'
                  exact dst_inj _ hdst.1 j i oj o d' (htk j oj hjm hj) (htk i o hilt ho) hdj hdo
              rw [hval]
              exact hst j _ w w' hbl this
  · intro L a w hall ⟨_, hT, _⟩
    exact (hT (hall (m + 1) (by omega))).1
  · refine ⟨fun k o e _ hk => ?_, fun ht => ?_, fun _ ht => ?_, fun _ _ => ⟨hC, (Below.refl _ _).drew, rfl, rfl, fun _ _ => rfl, ?_⟩⟩
    · rw [Array.getElem?_replicate] at hk; split at hk <;> simp_all
    · rw [Array.getElem?_replicate] at ht; split at ht <;> simp_all
    · rw [Array.getElem?_replicate] at ht; split at ht <;> simp_all
    · intro i o d _ ho hd hL
      rw [Array.getElem?_replicate] at hL
      split at hL <;> simp_all
  · unfold unlisted
    simp
end
end Go.Proofs.Ytlipedigmokgbaa
