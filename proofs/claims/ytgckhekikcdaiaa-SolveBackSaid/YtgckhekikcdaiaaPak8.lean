/-
  A region that draws its order, in stages: first what reads (and calls what keeps a class of worlds), for which all else waits; then, again and again, some reads and one operation that stands alone (it may make memory); at last what waits for all before.
  As XQstg; edges that bind in the text's order alone may point ahead.
  As XQstg2; the class of the worlds in the stages is another one than the first reads'.
-/
import Derived.Test.YtgckhekikcdaiaaPak7
namespace Go.Proofs.Ytgckhekikcdaiaa
open Go.RowKit

/-- Operations that enter no function. -/
def isV (o : Oper) : Bool := match o.op with | .move _ | .assign _ | .load _ _ | .binOp .. | .unOp .. | .fieldAddr .. | .indexAddr .. | .field .. | .index .. | .extract .. | .pick .. | .convert .. | .build .. | .nilCheck _ => true | _ => false
def noEnter (P : Program) (s : Sem Next) : Prop := ∀ w w' f args, s.run P w ≠ .ok (.enter f args) w'
theorem noEnter_bind {P : Program} {α : Type} {s : Sem α} {g : α → Sem Next} (h : ∀ a, noEnter P (g a)) : noEnter P (s >>= g) := by
  intro w w' f args
  rw [Sem.run_bind]
  cases s.run P w with
  | ok v w1 => rw [Result.andThen_ok]; exact h v _ _ _ _
  | halt x w1 => intro h; cases h
theorem noEnter_value {P : Program} (v : Value) : noEnter P (pure (.value v)) := by intro w w' f args h; cases h
theorem isV_enter {P : Program} {o : Oper} (h : isV o = true) (ρ : Operand → Value) : noEnter P (execOp ρ o) := by
  obtain ⟨dst, op, type, pos, after, guard⟩ := o
  cases op
  case move => exact noEnter_value _
  case assign => exact noEnter_value _
  case nilCheck x =>
    unfold execOp
    simp only []
    split
    any_goals exact noEnter_value _
    any_goals (intro w w' f args h; cases h; done)
    split
    any_goals exact noEnter_value _
    any_goals (intro w w' f args h; cases h; done)
    refine noEnter_bind fun a => noEnter_bind fun b => ?_
    split
    · exact noEnter_bind fun _ => noEnter_value _
    · exact noEnter_value _
  all_goals first
    | exact noEnter_bind fun _ => noEnter_value _
    | (simp [isV] at h; done)

section
variable {P : Program} {ops : Array Oper} {Q : Exit → Act → World → Prop} {tl : List Nat}

/-- What is listed has all listed that it waits for. -/
def DC (ops : Array Oper) (L : Array Bool) : Prop := ∀ (k : Nat) (o : Oper), ops[k]? = some o → L.getD k false = true → ∀ e ∈ o.after, Region.binds .any e = true → L.getD e.on false = true
theorem DC.set {L : Array Bool} {i : Nat} (h : DC ops L) (hr : i ∈ Region.ready .any ops L) : DC ops (L.setIfInBounds i true) := by
  intro k o hk hl e he hb
  by_cases hki : i = k
  · subst hki
    obtain ⟨_, o', h1, h2⟩ := mem_ready.1 hr
    rw [hk] at h1
    cases h1
    exact getD_set_true (h2 e he hb)
  · rw [getD_set_ne false hki] at hl
    exact getD_set_true (h k o hk hl e he hb)
def addDeps (ops : Array Oper) (j : Nat) (S : Array Bool) : Array Bool := match ops[j]? with | none => S | some o => o.after.toList.foldl (fun S (e : Edge) => if Region.binds .any e = true then S.setIfInBounds e.on true else S) S
/-- What an operation waits for, itself and through others. -/
def ancS (ops : Array Oper) (i : Nat) : Array Bool := (List.range i).reverse.foldl (fun S j => if S.getD j false = true then addDeps ops j S else S) (addDeps ops i (Array.replicate ops.size false))
theorem getD_set_or {S : Array Bool} {i j : Nat} (h : (S.setIfInBounds i true).getD j false = true) : j = i ∨ S.getD j false = true := by
  by_cases hij : i = j
  · exact .inl hij.symm
  · rw [getD_set_ne false hij] at h; exact .inr h
theorem addDeps_sound {L S : Array Bool} {i : Nat} (hd : ∀ o, ops[i]? = some o → ∀ e ∈ o.after, Region.binds .any e = true → L.getD e.on false = true) (hS : ∀ j, S.getD j false = true → L.getD j false = true) :
    ∀ j, (addDeps ops i S).getD j false = true → L.getD j false = true := by
  unfold addDeps
  cases ho : ops[i]? with
  | none => exact hS
  | some o =>
    simp only []
    have hd' : ∀ e ∈ o.after.toList, Region.binds .any e = true → L.getD e.on false = true := fun e he => hd o ho e (by simpa using he)
    generalize o.after.toList = l at hd'
    clear hd ho
    induction l generalizing S with
    | nil => exact hS
    | cons e l ih =>
      rw [List.foldl_cons]
      refine ih ?_ (fun e' he' => hd' e' (List.mem_cons_of_mem _ he'))
      intro j hj
      split at hj
      · rename_i hb
        rcases getD_set_or hj with rfl | h
        · exact hd' e (List.mem_cons_self ..) hb
        · exact hS j h
      · exact hS j hj
theorem ancS_sound {L : Array Bool} {i : Nat} (hL : DC ops L) (hd : ∀ o, ops[i]? = some o → ∀ e ∈ o.after, Region.binds .any e = true → L.getD e.on false = true) :
    ∀ j, (ancS ops i).getD j false = true → L.getD j false = true := by
  unfold ancS
  have h0 : ∀ j, (addDeps ops i (Array.replicate ops.size false)).getD j false = true → L.getD j false = true :=
    addDeps_sound hd (fun j hj => by rw [Array.getD_eq_getD_getElem?, Array.getElem?_replicate] at hj; split at hj <;> simp at hj)
  generalize addDeps ops i (Array.replicate ops.size false) = S at h0
  generalize (List.range i).reverse = l
  induction l generalizing S with
  | nil => exact h0
  | cons k l ih =>
    rw [List.foldl_cons]
    refine ih _ ?_
    intro j hj
    split at hj
    · rename_i hk
      exact addDeps_sound (fun o ho e he hb => hL k o ho (h0 k hk) e he hb) h0 j hj
    · exact h0 j hj

/-- Whatever order is picked from here on; till one of the last comes up, the world is of the class. -/
def wpK (P : Program) (ops : Array Oper) (Q : Exit → Act → World → Prop) (tl : List Nat) (D : World → Prop) : Nat → Array Bool → Act → World → Prop
  | 0, L, a, w => ((∀ t ∈ tl, L.getD t false = false) → D w) ∧ Region.ready .any ops L = [] ∧ Q .normal a w
  | f + 1, L, a, w => ((∀ t ∈ tl, L.getD t false = false) → D w) ∧ (Region.ready .any ops L = [] → Q .normal a w) ∧ ∀ i ∈ Region.ready .any ops L, wpOp P ops Q i (wpK P ops Q tl D f (L.setIfInBounds i true)) a w
theorem wpK.cls {D : World → Prop} {f : Nat} {L : Array Bool} {a : Act} {w : World} (h : wpK P ops Q tl D f L a w) : (∀ t ∈ tl, L.getD t false = false) → D w := by
  cases f with
  | zero => exact h.1
  | succ f => exact h.1
theorem wpK.any {D : World → Prop} : ∀ (f : Nat) (L : Array Bool) (a : Act) (w : World), wpK P ops Q tl D f L a w → wpAny P .any ops Q f L a w
  | 0, _, _, _, h => h.2
  | f + 1, _, _, _, h => ⟨h.2.1, fun i hi => wpOp_mono (fun a' w' h' => wpK.any f _ a' w' h') (h.2.2 i hi)⟩
theorem wpK.mono {D D' : World → Prop} (hD : ∀ u, D' u → D u) : ∀ (f : Nat) (L : Array Bool) (a : Act) (w : World), wpK P ops Q tl D' f L a w → wpK P ops Q tl D f L a w
  | 0, _, _, _, h => ⟨fun ht => hD _ (h.1 ht), h.2⟩
  | f + 1, _, _, _, h => ⟨fun ht => hD _ (h.1 ht), h.2.1, fun i hi => wpOp_mono (fun a' w' h' => wpK.mono hD f _ a' w' h') (h.2.2 i hi)⟩

theorem wpOp_putQ {D : World → Prop} {j : Nat} {oi oj : Oper} {v : Value} (hj : ops[j]? = some oj) (hap : oi.apart ops oj = true)
    (hsi : ∀ cs b, oi.op ≠ .select cs b) (hsj : ∀ cs b, oj.op ≠ .select cs b)
    (hQ : ∀ c a w, Q (.panic c) (a.put oi.dst v) w → Q (.panic c) a w) {K : Act → World → Prop} {a : Act} {w : World}
    (hy : YieldsIn P ops D oi v a) (h : wpOp P ops Q j K (a.put oi.dst v) w) :
    wpOp P ops Q j (fun a' w' => YieldsIn P ops D oi v a' ∧ K (a'.put oi.dst v) w') a w := by
  obtain ⟨h1, h2, h3⟩ := Oper.apart_spec hap
  have keep : ∀ (a : Act), YieldsIn P ops D oi v a → ∀ u, YieldsIn P ops D oi v (a.put oj.dst u) := fun a hy u =>
    hy.of_same (execOp_put oi hsi a oj.dst u h3) (wanted_put oi a oj.dst u h3)
  have keepD : ∀ d, YieldsIn P ops D oi v { a with defers := d :: a.defers } := fun d => hy.of_same rfl rfl
  unfold wpOp at *
  simp only [hj] at *
  rw [wanted_put oj a oi.dst v h1] at h
  split
  · rename_i hw
    simp only [hw, if_true] at h
    rcases h with h | ⟨hasks, hlets⟩
    case inr => exact .inr ⟨by unfold Oper.asks at *; rw [execOp_put oj hsj a oi.dst v h1] at hasks; exact hasks, hlets⟩
    refine .inl ?_
    unfold Oper.wp at *
    rw [execOp_put oj hsj a oi.dst v h1] at h
    generalize (execOp a.eval oj).run P w = r at *
    cases r with
    | ok n w' =>
      cases n <;> simp only [Oper.upon] at h ⊢
      case value u => exact ⟨keep a hy u, by rw [← Act.put_comm a v u h2]; exact h⟩
      case skip => exact ⟨keep a hy _, by rw [← Act.put_comm a v undef h2]; exact h⟩
      case defer d =>
        refine ⟨keep _ (keepD d) _, ?_⟩
        rw [← Act.put_comm _ v undef h2, ← Act.put_defers]
        exact h
      case enter f args =>
        refine Calls.mono h fun e w'' he => ?_
        cases e with
        | returned u => exact ⟨keep a hy u, by rw [← Act.put_comm a v u h2]; exact he⟩
        | panicked c => exact hQ _ _ _ he
        | outgrown => exact he
      case row row args => exact Rows.mono h fun u w'' he => ⟨keep a hy u, by rw [← Act.put_comm a v u h2]; exact he⟩
    | halt x w' =>
      cases x <;> simp only [Oper.upon] at h ⊢
      case panic u => exact hQ _ _ _ h
  · rename_i hw
    simp only [hw] at h
    exact ⟨keep a hy _, by rw [← Act.put_comm a v undef h2]; exact h⟩
theorem yieldsIn_wpOpV {D : World → Prop} {i : Nat} {o : Oper} {v : Value} {a : Act} {w : World} (hi : ops[i]? = some o) (hv : isV o = true) (hy : YieldsIn P ops D o v a) (hD : D w)
    {K : Act → World → Prop} (h : K (a.put o.dst v) w) : wpOp P ops Q i K a w := by
  unfold wpOp
  simp only [hi]
  rcases hy with ⟨hw, hq⟩ | ⟨hw, rfl⟩
  · simp only [hw, if_true]
    have h1 := hq w hD
    unfold Oper.quietAt at h1
    refine .inl ?_
    unfold Oper.wp
    have h2 := isV_enter (P := P) hv a.eval w
    generalize (execOp a.eval o).run P w = r at *
    cases r with
    | ok n w' =>
      cases n <;> simp only [Oper.quietUpon] at h1 <;> simp only [Oper.upon]
      case value u => obtain ⟨rfl, rfl⟩ := h1; exact h
      case skip => obtain ⟨rfl, rfl⟩ := h1; exact h
      case enter f args => exact absurd rfl (h2 _ _ _)
    | halt x w' => simp only [Oper.quietUpon] at h1
  · simp only [hw, Bool.false_eq_true, if_false]; exact h
theorem wpK_first {D : World → Prop} {i : Nat} {oi : Oper} {v : Value} (hi : ops[i]? = some oi) (hv : isV oi = true) (hsel : ∀ (j : Nat) (o : Oper) cs b, ops[j]? = some o → o.op ≠ .select cs b)
    (hQ : ∀ c a w, Q (.panic c) (a.put oi.dst v) w → Q (.panic c) a w) (htl : i ∉ tl) (hanc : ∀ t ∈ tl, (ancS ops t).getD i false = true) :
    ∀ (fuel : Nat) (L : Array Bool) (a : Act) (w : World), DC ops L → (∀ t ∈ tl, L.getD t false = false) → D w →
      (∀ j oj, ops[j]? = some oj → j ≠ i → L.getD j true = false → (∀ e ∈ oj.after, Region.binds .any e = true → e.on ≠ i) → oi.apart ops oj = true) →
      i ∈ Region.ready .any ops L → YieldsIn P ops D oi v a →
      wpK P ops Q tl D fuel (L.setIfInBounds i true) (a.put oi.dst v) w → wpK P ops Q tl D (fuel + 1) L a w := by
  intro fuel
  induction fuel with
  | zero =>
    intro L a w hdc hnt hDw _ hr hy H
    refine ⟨fun _ => hDw, fun h => (by rw [h] at hr; cases hr), fun j hj => ?_⟩
    by_cases hji : j = i
    · subst hji; exact yieldsIn_wpOpV hi hv hy hDw H
    · have := ready_mono hj hji
      rw [H.2.1] at this
      cases this
  | succ fuel ih =>
    intro L a w hdc hnt hDw hfree hr hy H
    refine ⟨fun _ => hDw, fun h => (by rw [h] at hr; cases hr), fun j hj => ?_⟩
    by_cases hji : j = i
    · subst hji; exact yieldsIn_wpOpV hi hv hy hDw H
    · have h1 := H.2.2 j (ready_mono hj hji)
      obtain ⟨hjun, oj, hoj, hall⟩ := mem_ready.1 hj
      have hiun : L.getD i false = false := by
        have := (mem_ready.1 hr).1
        rw [Array.getD_eq_getD_getElem?] at this ⊢
        cases hh : L[i]? with
        | none => rfl
        | some b => rw [hh] at this; simpa using this
      have hjtl : j ∉ tl := by
        intro hjt
        have := ancS_sound hdc (fun o ho e he hb => by rw [hoj] at ho; cases ho; exact hall e he hb) i (hanc j hjt)
        rw [hiun] at this
        cases this
      have hnt' : ∀ t ∈ tl, (L.setIfInBounds j true).getD t false = false := fun t ht => by
        rw [getD_set_ne false (show j ≠ t from fun h => hjtl (h ▸ ht))]; exact hnt t ht
      have hnot : ∀ e ∈ oj.after, Region.binds .any e = true → e.on ≠ i := fun e he hb heq => by
        have h1 := hall e he hb
        rw [heq, hiun] at h1
        cases h1
      have h2 := wpOp_putQ hoj (hfree j oj hoj hji hjun hnot) (fun cs b => hsel i oi cs b hi) (fun cs b => hsel j oj cs b hoj) hQ hy h1
      have hfree' : ∀ k ok, ops[k]? = some ok → k ≠ i → (L.setIfInBounds j true).getD k true = false →
          (∀ e ∈ ok.after, Region.binds .any e = true → e.on ≠ i) → oi.apart ops ok = true := fun k ok hk hki hun hno => by
        refine hfree k ok hk hki ?_ hno
        by_cases hjk : j = k
        · subst hjk; exact hjun
        · rw [getD_set_ne true hjk] at hun; exact hun
      refine wpOp_mono (fun a' w' h3 => ?_) h2
      have hDw' : D w' := h3.2.cls (fun t ht => by
        rw [getD_set_ne false (show j ≠ t from fun h => hjtl (h ▸ ht)), getD_set_ne false (show i ≠ t from fun h => htl (h ▸ ht))]; exact hnt t ht)
      refine ih (L.setIfInBounds j true) a' w' (hdc.set hj) hnt' hDw' hfree' (ready_mono hr (Ne.symm hji)) h3.1 ?_
      rw [Array.setIfInBounds_comm _ _ hji]
      exact h3.2

theorem wp_then {o : Oper} {a : Act} {w : World} {K : Act → World → Prop} (h : o.wp P a w (wpList P ops (Exit.then K Q) []) (Exit.then K Q)) : o.wp P a w K Q := by
  unfold Oper.wp at *
  generalize (execOp a.eval o).run P w = r at *
  cases r with
  | ok n w' =>
    cases n <;> simp only [Oper.upon] at h ⊢
    case value u => exact h
    case skip => exact h
    case defer d => exact h
    case enter f args =>
      refine Calls.mono h fun e w'' he => ?_
      cases e with
      | returned u => exact he
      | panicked c => exact he
      | outgrown => exact he
    case row row args => exact Rows.mono h fun u w'' he => he
  | halt x w' =>
    cases x <;> simp only [Oper.upon] at h ⊢
    case panic u => exact h
def opAt (l : List Oper) (k : Nat) : Oper := l.getD k default
theorem opAt_eq {l : List Oper} {k : Nat} {o : Oper} (h : l.toArray[k]? = some o) : opAt l k = o := by
  unfold opAt
  rw [List.getD_eq_getElem?_getD]
  have : l[k]? = some o := by simpa using h
  rw [this]; rfl
def stOf (l : List Oper) (st : List (List Nat × Nat)) : List (List Oper × Oper) := st.map fun p => (p.1.map (opAt l), opAt l p.2)
/-- The walk of the stages. -/
def wpSt (P : Program) (ops : Array Oper) (Q : Exit → Act → World → Prop) (tlo : List Oper) : List (List Oper × Oper) → (World → Prop) → Act → World → Prop
  | [], _, a, w => wpList P ops Q tlo a w
  | (vs, x) :: r, D, a, w => wpQuiet P ops D (fun a' => wpList P ops (Exit.then (fun a'' w'' => ∃ D' : World → Prop, (∀ u, D' u → D u) ∧ D' w'' ∧ wpSt P ops Q tlo r D' a'' w'') Q) [x] a' w) vs a
def okTail (ops : Array Oper) : List Nat → Array Bool → Bool
  | [], L => (Region.ready .any ops L).isEmpty
  | t :: r, L => decide (Region.ready .any ops L = [t]) && okTail ops r (L.setIfInBounds t true)
def okVals (ops : Array Oper) (tl : List Nat) : List Nat → Array Bool → Bool
  | [], _ => true
  | i :: r, L => (Region.ready .any ops L).contains i && (Region.free .any ops L i && ((match ops[i]? with | some o => isV o | none => false) && (tl.all (fun t => (ancS ops t).getD i false) && (!tl.contains i && okVals ops tl r (L.setIfInBounds i true)))))
def setAll (vs : List Nat) (L : Array Bool) : Array Bool := vs.foldl (fun L i => L.setIfInBounds i true) L
def okSt (ops : Array Oper) (tl : List Nat) : List (List Nat × Nat) → Array Bool → Bool
  | [], L => okTail ops tl L
  | (vs, x) :: r, L => okVals ops tl vs L && (decide (Region.ready .any ops (setAll vs L) = [x]) && (!tl.contains x && okSt ops tl r ((setAll vs L).setIfInBounds x true)))
def remSt (st : List (List Nat × Nat)) : Nat := st.foldr (fun p n => p.1.length + 1 + n) 0
variable {l : List Oper}
theorem okTail_sound {D : World → Prop} : ∀ (tl' : List Nat) (L : Array Bool) (a : Act) (w : World), (∀ t ∈ tl', t ∈ tl) → okTail l.toArray tl' L = true → ((∀ t ∈ tl, L.getD t false = false) → D w) →
    wpList P l.toArray Q (tl'.map (opAt l)) a w → ∀ f, tl'.length ≤ f → wpK P l.toArray Q tl D f L a w
  | [], L, a, w, _, hk, hD, h, f, _ => by
    have hr : Region.ready .any l.toArray L = [] := by simpa [okTail] using hk
    cases f with
    | zero => exact ⟨hD, hr, h⟩
    | succ f => exact ⟨hD, fun _ => h, by rw [hr]; simp⟩
  | t :: r, L, a, w, hs, hk, hD, h, f, hf => by
    simp only [okTail, Bool.and_eq_true, decide_eq_true_eq] at hk
    cases f with
    | zero => simp at hf
    | succ f =>
      refine ⟨hD, fun h0 => (by rw [hk.1] at h0; cases h0), ?_⟩
      intro i hi
      have hi' := hi
      rw [hk.1, List.mem_singleton] at hi
      subst hi
      obtain ⟨hun, o, ho, _⟩ := mem_ready.1 hi'
      have hoo : opAt l i = o := opAt_eq ho
      have hnext : ∀ (a' : Act) (w' : World), wpList P l.toArray Q (r.map (opAt l)) a' w' → wpK P l.toArray Q tl D f (L.setIfInBounds i true) a' w' := by
        intro a' w' h'
        refine okTail_sound r (L.setIfInBounds i true) a' w' (fun t ht => hs t (List.mem_cons_of_mem _ ht)) hk.2 (fun hall => ?_) h' f (by simpa using hf)
        have h1 := hall i (hs i (List.mem_cons_self ..))
        have hlt : i < L.size := by
          rcases Nat.lt_or_ge i L.size with h' | h'
          · exact h'
          · simp [Array.getElem?_eq_none h'] at hun
        simp [hlt] at h1
      rw [List.map_cons, hoo] at h
      unfold wpList at h
      unfold wpOp
      rw [ho]
      simp only []
      split
      · rename_i hw
        simp only [hw, if_true] at h
        rcases h with h | h
        · exact .inl (Oper.wp_mono hnext h)
        · exact .inr h
      · rename_i hw
        simp only [hw] at h
        exact hnext _ _ h
theorem okSt_sound (hsel : ∀ (j : Nat) (o : Oper) cs b, l.toArray[j]? = some o → o.op ≠ .select cs b) (hQ : ∀ (t : Option Tmp) (v : Value) c a w, Q (.panic c) (a.put t v) w → Q (.panic c) a w) :
    ∀ (st : List (List Nat × Nat)) (D : World → Prop) (L : Array Bool) (a : Act) (w : World), okSt l.toArray tl st L = true → DC l.toArray L → (∀ t ∈ tl, L.getD t false = false) → D w →
    wpSt P l.toArray Q (tl.map (opAt l)) (stOf l st) D a w → ∀ f, remSt st + tl.length ≤ f → wpK P l.toArray Q tl D f L a w
  | [], D, L, a, w, hk, hdc, hnt, hD, h, f, hf => okTail_sound tl L a w (fun _ h => h) hk (fun _ => hD) h f (by simp [remSt] at hf; exact hf)
  | (vs, x) :: r, D, L, a, w, hk, hdc, hnt, hD, h, f, hf => by
    simp only [okSt, Bool.and_eq_true, decide_eq_true_eq, Bool.not_eq_true'] at hk
    obtain ⟨hv, hx, hxt, hr⟩ := hk
    have hxtl : x ∉ tl := by simpa using hxt
    have h' : wpQuiet P l.toArray D (fun a' => wpList P l.toArray (Exit.then (fun a'' w'' => ∃ D' : World → Prop, (∀ u, D' u → D u) ∧ D' w'' ∧ wpSt P l.toArray Q (tl.map (opAt l)) (stOf l r) D' a'' w'') Q) [opAt l x] a' w) (vs.map (opAt l)) a := h
    have hf' : vs.length + 1 + (remSt r + tl.length) ≤ f := by simp only [remSt, List.foldr_cons] at hf; unfold remSt; omega
    clear h hf
    induction vs generalizing L a f with
    | nil =>
      simp only [setAll, List.foldl_nil] at hx hr
      cases f with
      | zero => simp at hf'
      | succ f =>
        refine ⟨fun _ => hD, fun h0 => (by rw [hx] at h0; cases h0), ?_⟩
        intro i hi
        have hi' := hi
        rw [hx, List.mem_singleton] at hi
        subst hi
        obtain ⟨hun, o, ho, _⟩ := mem_ready.1 hi'
        have hoo : opAt l i = o := opAt_eq ho
        have hnt' : ∀ t ∈ tl, (L.setIfInBounds i true).getD t false = false := fun t ht => by
          rw [getD_set_ne false (show i ≠ t from fun h => hxtl (h ▸ ht))]; exact hnt t ht
        have hnext : ∀ (a'' : Act) (w'' : World), (∃ D' : World → Prop, (∀ u, D' u → D u) ∧ D' w'' ∧ wpSt P l.toArray Q (tl.map (opAt l)) (stOf l r) D' a'' w'') → wpK P l.toArray Q tl D f (L.setIfInBounds i true) a'' w'' := by
          rintro a'' w'' ⟨D', h3, h4, h5⟩
          exact wpK.mono h3 _ _ _ _ (okSt_sound hsel hQ r D' _ a'' w'' hr (hdc.set hi') hnt' h4 h5 f (by simp at hf'; omega))
        have h2 : wpList P l.toArray (Exit.then (fun a'' w'' => ∃ D' : World → Prop, (∀ u, D' u → D u) ∧ D' w'' ∧ wpSt P l.toArray Q (tl.map (opAt l)) (stOf l r) D' a'' w'') Q) [opAt l i] a w := h'
        rw [hoo] at h2
        unfold wpList at h2
        unfold wpOp
        rw [ho]
        simp only []
        split
        · rename_i hw
          simp only [hw, if_true] at h2
          rcases h2 with h2 | ⟨h2, a2, w2, h3⟩
          · exact .inl (Oper.wp_mono hnext (wp_then h2))
          · exact .inr ⟨h2, a2, w2, h3⟩
        · rename_i hw
          simp only [hw] at h2
          exact hnext _ _ h2
    | cons i vs ih =>
      simp only [okVals, Bool.and_eq_true, Bool.not_eq_true'] at hv
      obtain ⟨hrd, hfr, hiv, hanc, hit, hvs⟩ := hv
      have hrd' : i ∈ Region.ready .any l.toArray L := by simpa using hrd
      obtain ⟨hun, o, ho, _⟩ := mem_ready.1 hrd'
      have hoo : opAt l i = o := opAt_eq ho
      rw [ho] at hiv
      simp only [] at hiv
      have hitl : i ∉ tl := by simpa using hit
      cases f with
      | zero => simp at hf'
      | succ f =>
        rw [List.map_cons, hoo] at h'
        have hq : qOp P l.toArray D i (wpQuiet P l.toArray D (fun a' => wpList P l.toArray (Exit.then (fun a'' w'' => ∃ D' : World → Prop, (∀ u, D' u → D u) ∧ D' w'' ∧ wpSt P l.toArray Q (tl.map (opAt l)) (stOf l r) D' a'' w'') Q) [opAt l x] a' w) (vs.map (opAt l))) a := by
          unfold qOp; rw [ho]; exact h'
        obtain ⟨v, hy, hK⟩ := yieldsIn_of_qOp ho hq
        refine wpK_first ho hiv hsel (hQ o.dst v) hitl (fun t ht => by have := List.all_eq_true.1 hanc t ht; exact this) f L a w hdc hnt hD (Region.free_spec ho hfr) hrd' hy ?_
        have hnt' : ∀ t ∈ tl, (L.setIfInBounds i true).getD t false = false := fun t ht => by
          rw [getD_set_ne false (show i ≠ t from fun h => hitl (h ▸ ht))]; exact hnt t ht
        exact ih _ _ (hdc.set hrd') hnt' f hvs (by simpa only [setAll, List.foldl_cons] using hx) (by simpa only [setAll, List.foldl_cons] using hr) hK (by simp only [List.length_cons] at hf'; omega)
/-- What is asked of a region's form. -/
def stgB (l : List Oper) (m : Nat) (st : List (List Nat × Nat)) (tl : List Nat) : Bool :=
  (l.mapIdx fun i (o : Oper) => o.after.all fun (e : Edge) => decide (e.on < i)).all (fun b => b) &&
  ((l.take m).all (fun (o : Oper) => match o.guard with | some (g, _) => decide (g < m) | none => true) &&
  (Region.lexB .any (l.take m).toArray &&
  ((List.range l.length).all (fun i => decide (i < m) || (List.range m).all (fun j => (ancS l.toArray i).getD j false)) &&
  (decide (m ≤ l.length) && (Region.noSelect l.toArray && (tl.all (fun t => decide (m ≤ t)) && okSt l.toArray tl st (Array.replicate m true ++ Array.replicate (l.length - m) false)))))))

theorem wp_region_stg {id : Nat} {a0 : Act} {w0 : World} (m : Nat) (st : List (List Nat × Nat)) (tl : List Nat) (C : World → Prop) (hm : P.follows .mixedOrders = true) (hB : stgB l m st tl = true)
    (hQ : ∀ (t : Option Tmp) (v : Value) c a w, Q (.panic c) (a.put t v) w → Q (.panic c) a w) (hC : C w0.drew)
    (h : wpQuiet P (l.take m).toArray C (fun a' => ∀ w', C w' → wpSt P l.toArray Q (tl.map (opAt l)) (stOf l st) C a' w') (l.take m) a0) : (Code.region id l.toArray true).wp P Q a0 w0 := by
  unfold stgB at hB
  simp only [Bool.and_eq_true, decide_eq_true_eq] at hB
  obtain ⟨hac, hgd, hlx, hanc, hml, hns, htm, hst⟩ := hB
  have hac' : ∀ (i : Nat) (o : Oper), l.toArray[i]? = some o → ∀ e : Edge, e ∈ o.after → e.on < i := by
    intro i o hi e he
    rw [List.all_eq_true] at hac
    have hi' : l[i]? = some o := by simpa using hi
    have := hac (o.after.all fun e => decide (e.on < i)) (by
      rw [List.mem_mapIdx]
      have hlt := (List.getElem?_eq_some_iff.1 hi').1
      refine ⟨i, hlt, ?_⟩
      have := (List.getElem?_eq_some_iff.1 hi').2
      simp [this])
    rw [Array.all_eq_true_iff_forall_mem] at this
    simpa using this e he
  have hgd' : ∀ (i : Nat) (o : Oper), i < m → l[i]? = some o → ∀ g b, o.guard = some (g, b) → g < m := by
    intro i o hi ho g b hg
    rw [List.all_eq_true] at hgd
    have := hgd o (by
      have : (l.take m)[i]? = some o := by rw [List.getElem?_take, if_pos hi]; exact ho
      exact List.mem_of_getElem? this)
    rw [hg] at this
    simpa using this
  have hanc' : ∀ i, m ≤ i → i < l.length → ∀ j, j < m → (ancS l.toArray i).getD j false = true := by
    intro i h1 h2 j hj
    have := List.all_eq_true.1 hanc i (List.mem_range.2 h2)
    simp only [Bool.or_eq_true, decide_eq_true_eq] at this
    exact List.all_eq_true.1 (this.resolve_left (by omega)) j (List.mem_range.2 hj)
  refine wp_region_any hm ?_
  have hq : wpAnyQ P .any (l.take m).toArray C (fun a' => ∀ w', C w' → wpSt P l.toArray Q (tl.map (opAt l)) (stOf l st) C a' w') m (Array.replicate m false) a0 := by
    unfold Region.lexB at hlx
    rw [Bool.and_eq_true] at hlx
    have h1 : (l.take m).length = m := by rw [List.length_take]; omega
    have := wpAnyQ_lex (P := P) (C := C) (md := .any) hlx.1 (l.take m) 0 (Array.replicate m false) a0 (by simp) (by have := hlx.2; simp only [List.size_toArray, h1] at this; rw [h1]; exact this) h
    rw [h1] at this
    exact this
  have hfin : ∀ (L : Array Bool) (a' : Act) (w' : World), L.size = l.length → DC l.toArray L → (∀ j, j < m → L[j]? = some true) → (∀ j, m ≤ j → j < l.length → L[j]? = some false) → C w' →
      wpSt P l.toArray Q (tl.map (opAt l)) (stOf l st) C a' w' → ∃ f, wpAny P .any l.toArray Q f L a' w' := by
    intro L a' w' hsz hdc hT hF hC' hw
    have hL : L = Array.replicate m true ++ Array.replicate (l.length - m) false := by
      apply Array.ext_getElem?
      intro j
      rw [Array.getElem?_append, Array.getElem?_replicate, Array.getElem?_replicate, Array.size_replicate]
      by_cases hj : j < m
      · rw [if_pos hj, if_pos hj, hT j hj]
      · rw [if_neg hj]
        by_cases hjl : j < l.length
        · rw [if_pos (by omega), hF j (by omega) hjl]
        · rw [if_neg (by omega), Array.getElem?_eq_none (by omega)]
    have hnt : ∀ t ∈ tl, L.getD t false = false := by
      intro t ht
      have h1 := List.all_eq_true.1 htm t ht
      simp only [decide_eq_true_eq] at h1
      rw [Array.getD_eq_getD_getElem?]
      by_cases hjl : t < l.length
      · rw [hF t h1 hjl]; rfl
      · rw [Array.getElem?_eq_none (by omega)]; rfl
    rw [← hL] at hst
    exact ⟨_, wpK.any _ _ _ _ (okSt_sound (Region.noSelect_spec hns) hQ st C L a' w' hst hdc hnt hC' hw _ (Nat.le_refl _))⟩
  refine wpAny_inv hac' (fun L a w => DC l.toArray L ∧ (((∃ j, j < m ∧ L[j]? = some false) ∧ (∀ j, m ≤ j → j < l.length → L[j]? = some false) ∧ C w ∧ ∃ fuel, wpAnyQ P .any (l.take m).toArray C (fun a' => ∀ w', C w' → wpSt P l.toArray Q (tl.map (opAt l)) (stOf l st) C a' w') fuel (cutL L m) a) ∨
    (∃ f, wpAny P .any l.toArray Q f L a w))) ?_ ?_ _ _ _ _ (by simp) ?_ ?_
  · intro i o ho L a w hs hI hi he
    obtain ⟨hdc, hI⟩ := hI
    have hsz : L.size = l.length := by simpa using hs
    have ho' : l[i]? = some o := by simpa using ho
    have hil : i < l.length := (List.getElem?_eq_some_iff.1 ho').1
    have hrdy : i ∈ Region.ready .any l.toArray L := by
      rw [mem_ready]
      refine ⟨by rw [Array.getD_eq_getD_getElem?, hi]; rfl, o, ho, fun e h1 h2 => by rw [Array.getD_eq_getD_getElem?, he e h1 h2]; rfl⟩
    have hdcn := hdc.set hrdy
    rcases hI with ⟨⟨j0, hj0, hjf⟩, hfar, hCw, fuel, hf⟩ | ⟨f, hW⟩
    · have him : i < m := by
        rcases Nat.lt_or_ge i m with h1 | h1
        · exact h1
        · have := ancS_sound hdc (fun o' h2 e h3 h4 => by rw [ho] at h2; cases h2; rw [Array.getD_eq_getD_getElem?, he e h3 h4]; rfl) j0 (hanc' i h1 hil j0 hj0)
          rw [Array.getD_eq_getD_getElem?, hjf] at this
          cases this
      have hrd : i ∈ Region.ready .any (l.take m).toArray (cutL L m) := by
        rw [mem_ready]
        refine ⟨?_, o, by rw [take_get him]; exact ho', ?_⟩
        · rw [cutL_getD L m i _ him, Array.getD_eq_getD_getElem?, hi]; rfl
        · intro e h1 h2
          have h3 := hac' i o ho e h1
          rw [cutL_getD L m e.on _ (by omega), Array.getD_eq_getD_getElem?, he e h1 h2]; rfl
      cases fuel with
      | zero => rw [hf.1] at hrd; cases hrd
      | succ fuel =>
        have hqo := hf.2 i hrd
        have hnext : ∀ (a' : Act) (w' : World), C w' → wpAnyQ P .any (l.take m).toArray C (fun a' => ∀ w', C w' → wpSt P l.toArray Q (tl.map (opAt l)) (stOf l st) C a' w') fuel ((cutL L m).setIfInBounds i true) a' →
            DC l.toArray (L.setIfInBounds i true) ∧ (((∃ j, j < m ∧ (L.setIfInBounds i true)[j]? = some false) ∧ (∀ j, m ≤ j → j < l.length → (L.setIfInBounds i true)[j]? = some false) ∧ C w' ∧ ∃ fuel, wpAnyQ P .any (l.take m).toArray C (fun a' => ∀ w', C w' → wpSt P l.toArray Q (tl.map (opAt l)) (stOf l st) C a' w') fuel (cutL (L.setIfInBounds i true) m) a') ∨
            (∃ f, wpAny P .any l.toArray Q f (L.setIfInBounds i true) a' w')) := by
          intro a' w' hC' hq'
          refine ⟨hdcn, ?_⟩
          have hfar' : ∀ j, m ≤ j → j < l.length → (L.setIfInBounds i true)[j]? = some false := by
            intro j h1 h2
            rw [Array.getElem?_setIfInBounds_ne (by omega)]
            exact hfar j h1 h2
          by_cases hall : ∃ j, j < m ∧ (L.setIfInBounds i true)[j]? = some false
          · exact .inl ⟨hall, hfar', hC', fuel, by rw [cutL_set]; exact hq'⟩
          · have hallT : ∀ j, j < m → (L.setIfInBounds i true)[j]? = some true := by
              intro j hj
              have hjl : j < (L.setIfInBounds i true).size := by simp; omega
              rw [Array.getElem?_eq_getElem hjl]
              cases hb : (L.setIfInBounds i true)[j] with
              | true => rfl
              | false => exact absurd ⟨j, hj, by rw [Array.getElem?_eq_getElem hjl, hb]⟩ hall
            have hnil : Region.ready .any (l.take m).toArray ((cutL L m).setIfInBounds i true) = [] := by
              rw [List.eq_nil_iff_forall_not_mem]
              intro j hj
              obtain ⟨h1, oj, h2, _⟩ := mem_ready.1 hj
              have hjm : j < m := by
                have := (Array.getElem?_eq_some_iff.1 h2).1
                simp only [List.size_toArray, List.length_take] at this
                omega
              rw [← cutL_set, cutL_getD _ m j _ hjm, Array.getD_eq_getD_getElem?, hallT j hjm] at h1
              cases h1
            refine .inr (hfin _ a' w' (by simpa using hsz) hdcn hallT hfar' hC' ?_)
            cases fuel with
            | zero => exact hq'.2 w' hC'
            | succ fuel => exact hq'.1 hnil w' hC'
        unfold qOp at hqo
        rw [take_get him, ho'] at hqo
        simp only [] at hqo
        rw [yielded_take l m a.tmps o (hgd' i o him ho')] at hqo
        unfold wpOp
        rw [ho]
        simp only []
        split
        · rename_i hw
          simp only [hw, if_true] at hqo
          exact .inl (Oper.wp_of_quiet hCw (fun a' w' h1 h2 => hnext a' w' h1 h2) hqo)
        · rename_i hw
          simp only [hw] at hqo
          exact hnext _ _ hCw hqo
    · cases f with
      | zero => rw [hW.1] at hrdy; cases hrdy
      | succ f => exact wpOp_mono (fun a' w' h' => ⟨hdcn, .inr ⟨f, h'⟩⟩) (hW.2 i hrdy)
  · intro L a w hall hI
    rcases hI.2 with ⟨⟨j0, hj0, hjf⟩, _⟩ | ⟨f, hW⟩
    · have := hall j0 (by simp; omega)
      rw [hjf] at this
      cases this
    · cases f with
      | zero => exact hW.2
      | succ f =>
        refine hW.1 ?_
        rw [List.eq_nil_iff_forall_not_mem]
        intro j hj
        obtain ⟨h1, oj, h2, _⟩ := mem_ready.1 hj
        rw [Array.getD_eq_getD_getElem?, hall j (Array.getElem?_eq_some_iff.1 h2).1] at h1
        cases h1
  · have hrep : ∀ j, j < l.length → (Array.replicate l.toArray.size false)[j]? = some false := by
      intro j hj
      rw [Array.getElem?_replicate, if_pos (by simpa using hj)]
    have hdc0 : DC l.toArray (Array.replicate l.toArray.size false) := by
      intro k o hk hl
      rw [Array.getD_eq_getD_getElem?, Array.getElem?_replicate] at hl
      split at hl <;> simp at hl
    refine ⟨hdc0, ?_⟩
    by_cases hm0 : m = 0
    · subst hm0
      have : wpQuiet P (l.take 0).toArray C (fun a' => ∀ w', C w' → wpSt P l.toArray Q (tl.map (opAt l)) (stOf l st) C a' w') [] a0 := h
      exact .inr (hfin _ a0 _ (by simp) hdc0 (fun j hj => by omega) (fun j _ hj => hrep j hj) hC (this _ hC))
    · refine .inl ⟨⟨0, by omega, hrep 0 (by omega)⟩, fun j _ hj => hrep j hj, hC, m, ?_⟩
      have : cutL (Array.replicate l.toArray.size false) m = Array.replicate m false := by
        unfold cutL
        rw [Array.toList_replicate, List.take_replicate]
        simp only [List.size_toArray, Nat.min_eq_left hml]
        exact List.toArray_replicate _ _
      rw [this]
      exact hq
  · unfold unlisted
    simp
end
end Go.Proofs.Ytgckhekikcdaiaa

namespace Go.Proofs.Ytgckhekikcdaiaa
open Go.RowKit

section
variable {P : Program} {ops : Array Oper} {Q : Exit → Act → World → Prop}
theorem ready_nilB (hac : ∀ (i : Nat) (o : Oper), ops[i]? = some o → ∀ e : Edge, e ∈ o.after → Region.binds .any e = true → e.on < i) (L : Array Bool) (hs : L.size = ops.size) (h : Region.ready .any ops L = []) :
    ∀ i, i < ops.size → L[i]? = some true := by
  intro i
  induction i using Nat.strongRecOn with
  | ind i ih =>
    intro hi
    have hL : i < L.size := by omega
    have hm : i ∉ Region.ready .any ops L := by rw [h]; simp
    unfold Region.ready at hm
    rw [List.mem_filter] at hm
    simp only [List.mem_range, hi, true_and] at hm
    have ho : ops[i]? = some ops[i] := Array.getElem?_eq_getElem hi
    rw [ho] at hm
    simp only [Option.map_some, Option.getD_some, Bool.and_eq_true, Bool.not_eq_eq_eq_not, Bool.not_true] at hm
    cases hb : L[i] with
    | true => rw [Array.getElem?_eq_getElem hL, hb]
    | false =>
      exfalso
      apply hm
      refine ⟨by simp [hL, hb], ?_⟩
      rw [Array.all_eq_true_iff_forall_mem]
      intro e he
      cases hb : Region.binds .any e with
      | false => simp
      | true =>
        have h1 := hac i _ ho e he hb
        have h2 := ih e.on h1 (by omega)
        have : L.getD e.on false = true := by rw [Array.getD_eq_getD_getElem?, h2]; rfl
        simp [this]

theorem wpAny_invB (hac : ∀ (i : Nat) (o : Oper), ops[i]? = some o → ∀ e : Edge, e ∈ o.after → Region.binds .any e = true → e.on < i) (I : Array Bool → Act → World → Prop)
    (hstep : ∀ (i : Nat) (o : Oper), ops[i]? = some o → ∀ L a w, L.size = ops.size → I L a w → L[i]? = some false → (∀ e ∈ o.after, Region.binds .any e = true → L[e.on]? = some true) →
      wpOp P ops Q i (fun a' w' => I (L.setIfInBounds i true) a' w') a w)
    (hend : ∀ L a w, (∀ i, i < ops.size → L[i]? = some true) → I L a w → Q .normal a w) :
    ∀ fuel L a w, L.size = ops.size → I L a w → unlisted L ≤ fuel → wpAny P .any ops Q fuel L a w := by
  intro fuel
  induction fuel with
  | zero =>
    intro L a w hs hI hu
    have hall : ∀ i, i < ops.size → L[i]? = some true := by
      intro i hi
      rw [Array.getElem?_eq_getElem (by omega)]
      cases hb : L[i]'(by omega) with
      | true => rfl
      | false =>
        have : unlisted L = 0 := by omega
        have := unlisted_set L i (by rw [Array.getElem?_eq_getElem (by omega), hb])
        omega
    refine ⟨?_, hend L a w hall hI⟩
    unfold Region.ready
    rw [List.filter_eq_nil_iff]
    intro i hi
    simp only [List.mem_range] at hi
    have h1 := hall i hi
    have h2 : L.getD i true = true := by rw [Array.getD_eq_getD_getElem?, h1]; rfl
    rw [h2]; simp
  | succ fuel ih =>
    intro L a w hs hI hu
    refine ⟨fun hr => hend L a w (ready_nilB hac L hs hr) hI, ?_⟩
    intro i hi
    unfold Region.ready at hi
    rw [List.mem_filter] at hi
    simp only [List.mem_range] at hi
    obtain ⟨hi1, hi2⟩ := hi
    have ho : ops[i]? = some ops[i] := Array.getElem?_eq_getElem hi1
    rw [ho] at hi2
    simp only [Option.map_some, Option.getD_some, Bool.and_eq_true] at hi2
    obtain ⟨hl, hd⟩ := hi2
    have hlf : L[i]? = some false := by
      rw [Array.getElem?_eq_getElem (by omega)]
      cases hb : L[i]'(by omega) with
      | false => rfl
      | true => simp [hs, hi1, hb] at hl
    refine wpOp_mono (fun a' w' hI' => ih _ a' w' (by simp [hs]) hI' (by have := unlisted_set L i hlf; omega)) (hstep i _ ho L a w hs hI hlf ?_)
    intro e he hb
    rw [Array.all_eq_true_iff_forall_mem] at hd
    have := hd e he
    simp only [hb, Bool.not_true, Bool.false_or] at this
    by_cases hlt : e.on < L.size
    · simp [hlt] at this
      rw [Array.getElem?_eq_getElem hlt, this]
    · simp [hlt] at this

end
section
variable {P : Program} {Q : Exit → Act → World → Prop} {l : List Oper}
/-- What is asked of a region's form. -/
def stgB2 (l : List Oper) (m : Nat) (st : List (List Nat × Nat)) (tl : List Nat) : Bool :=
  (l.mapIdx fun i (o : Oper) => o.after.all fun (e : Edge) => !Region.binds .any e || decide (e.on < i)).all (fun b => b) &&
  ((l.take m).all (fun (o : Oper) => match o.guard with | some (g, _) => decide (g < m) | none => true) &&
  (Region.lexB .any (l.take m).toArray &&
  ((List.range l.length).all (fun i => decide (i < m) || (List.range m).all (fun j => (ancS l.toArray i).getD j false)) &&
  (decide (m ≤ l.length) && (Region.noSelect l.toArray && (tl.all (fun t => decide (m ≤ t)) && okSt l.toArray tl st (Array.replicate m true ++ Array.replicate (l.length - m) false)))))))

theorem wp_region_stg2 {id : Nat} {a0 : Act} {w0 : World} (m : Nat) (st : List (List Nat × Nat)) (tl : List Nat) (C : World → Prop) (hm : P.follows .mixedOrders = true) (hB : stgB2 l m st tl = true)
    (hQ : ∀ (t : Option Tmp) (v : Value) c a w, Q (.panic c) (a.put t v) w → Q (.panic c) a w) (hC : C w0.drew)
    (h : wpQuiet P (l.take m).toArray C (fun a' => ∀ w', C w' → wpSt P l.toArray Q (tl.map (opAt l)) (stOf l st) C a' w') (l.take m) a0) : (Code.region id l.toArray true).wp P Q a0 w0 := by
  unfold stgB2 at hB
  simp only [Bool.and_eq_true, decide_eq_true_eq] at hB
  obtain ⟨hac, hgd, hlx, hanc, hml, hns, htm, hst⟩ := hB
  have hac' : ∀ (i : Nat) (o : Oper), l.toArray[i]? = some o → ∀ e : Edge, e ∈ o.after → Region.binds .any e = true → e.on < i := by
    intro i o hi e he hbd
    rw [List.all_eq_true] at hac
    have hi' : l[i]? = some o := by simpa using hi
    have := hac (o.after.all fun e => !Region.binds .any e || decide (e.on < i)) (by
      rw [List.mem_mapIdx]
      have hlt := (List.getElem?_eq_some_iff.1 hi').1
      refine ⟨i, hlt, ?_⟩
      have := (List.getElem?_eq_some_iff.1 hi').2
      simp [this])
    rw [Array.all_eq_true_iff_forall_mem] at this
    simpa [hbd] using this e he
  have hgd' : ∀ (i : Nat) (o : Oper), i < m → l[i]? = some o → ∀ g b, o.guard = some (g, b) → g < m := by
    intro i o hi ho g b hg
    rw [List.all_eq_true] at hgd
    have := hgd o (by
      have : (l.take m)[i]? = some o := by rw [List.getElem?_take, if_pos hi]; exact ho
      exact List.mem_of_getElem? this)
    rw [hg] at this
    simpa using this
  have hanc' : ∀ i, m ≤ i → i < l.length → ∀ j, j < m → (ancS l.toArray i).getD j false = true := by
    intro i h1 h2 j hj
    have := List.all_eq_true.1 hanc i (List.mem_range.2 h2)
    simp only [Bool.or_eq_true, decide_eq_true_eq] at this
    exact List.all_eq_true.1 (this.resolve_left (by omega)) j (List.mem_range.2 hj)
  refine wp_region_any hm ?_
  have hq : wpAnyQ P .any (l.take m).toArray C (fun a' => ∀ w', C w' → wpSt P l.toArray Q (tl.map (opAt l)) (stOf l st) C a' w') m (Array.replicate m false) a0 := by
    unfold Region.lexB at hlx
    rw [Bool.and_eq_true] at hlx
    have h1 : (l.take m).length = m := by rw [List.length_take]; omega
    have := wpAnyQ_lex (P := P) (C := C) (md := .any) hlx.1 (l.take m) 0 (Array.replicate m false) a0 (by simp) (by have := hlx.2; simp only [List.size_toArray, h1] at this; rw [h1]; exact this) h
    rw [h1] at this
    exact this
  have hfin : ∀ (L : Array Bool) (a' : Act) (w' : World), L.size = l.length → DC l.toArray L → (∀ j, j < m → L[j]? = some true) → (∀ j, m ≤ j → j < l.length → L[j]? = some false) → C w' →
      wpSt P l.toArray Q (tl.map (opAt l)) (stOf l st) C a' w' → ∃ f, wpAny P .any l.toArray Q f L a' w' := by
    intro L a' w' hsz hdc hT hF hC' hw
    have hL : L = Array.replicate m true ++ Array.replicate (l.length - m) false := by
      apply Array.ext_getElem?
      intro j
      rw [Array.getElem?_append, Array.getElem?_replicate, Array.getElem?_replicate, Array.size_replicate]
      by_cases hj : j < m
      · rw [if_pos hj, if_pos hj, hT j hj]
      · rw [if_neg hj]
        by_cases hjl : j < l.length
        · rw [if_pos (by omega), hF j (by omega) hjl]
        · rw [if_neg (by omega), Array.getElem?_eq_none (by omega)]
    have hnt : ∀ t ∈ tl, L.getD t false = false := by
      intro t ht
      have h1 := List.all_eq_true.1 htm t ht
      simp only [decide_eq_true_eq] at h1
      rw [Array.getD_eq_getD_getElem?]
      by_cases hjl : t < l.length
      · rw [hF t h1 hjl]; rfl
      · rw [Array.getElem?_eq_none (by omega)]; rfl
    rw [← hL] at hst
    exact ⟨_, wpK.any _ _ _ _ (okSt_sound (Region.noSelect_spec hns) hQ st C L a' w' hst hdc hnt hC' hw _ (Nat.le_refl _))⟩
  refine wpAny_invB hac' (fun L a w => DC l.toArray L ∧ (((∃ j, j < m ∧ L[j]? = some false) ∧ (∀ j, m ≤ j → j < l.length → L[j]? = some false) ∧ C w ∧ ∃ fuel, wpAnyQ P .any (l.take m).toArray C (fun a' => ∀ w', C w' → wpSt P l.toArray Q (tl.map (opAt l)) (stOf l st) C a' w') fuel (cutL L m) a) ∨
    (∃ f, wpAny P .any l.toArray Q f L a w))) ?_ ?_ _ _ _ _ (by simp) ?_ ?_
  · intro i o ho L a w hs hI hi he
    obtain ⟨hdc, hI⟩ := hI
    have hsz : L.size = l.length := by simpa using hs
    have ho' : l[i]? = some o := by simpa using ho
    have hil : i < l.length := (List.getElem?_eq_some_iff.1 ho').1
    have hrdy : i ∈ Region.ready .any l.toArray L := by
      rw [mem_ready]
      refine ⟨by rw [Array.getD_eq_getD_getElem?, hi]; rfl, o, ho, fun e h1 h2 => by rw [Array.getD_eq_getD_getElem?, he e h1 h2]; rfl⟩
    have hdcn := hdc.set hrdy
    rcases hI with ⟨⟨j0, hj0, hjf⟩, hfar, hCw, fuel, hf⟩ | ⟨f, hW⟩
    · have him : i < m := by
        rcases Nat.lt_or_ge i m with h1 | h1
        · exact h1
        · have := ancS_sound hdc (fun o' h2 e h3 h4 => by rw [ho] at h2; cases h2; rw [Array.getD_eq_getD_getElem?, he e h3 h4]; rfl) j0 (hanc' i h1 hil j0 hj0)
          rw [Array.getD_eq_getD_getElem?, hjf] at this
          cases this
      have hrd : i ∈ Region.ready .any (l.take m).toArray (cutL L m) := by
        rw [mem_ready]
        refine ⟨?_, o, by rw [take_get him]; exact ho', ?_⟩
        · rw [cutL_getD L m i _ him, Array.getD_eq_getD_getElem?, hi]; rfl
        · intro e h1 h2
          have h3 := hac' i o ho e h1 h2
          rw [cutL_getD L m e.on _ (by omega), Array.getD_eq_getD_getElem?, he e h1 h2]; rfl
      cases fuel with
      | zero => rw [hf.1] at hrd; cases hrd
      | succ fuel =>
        have hqo := hf.2 i hrd
        have hnext : ∀ (a' : Act) (w' : World), C w' → wpAnyQ P .any (l.take m).toArray C (fun a' => ∀ w', C w' → wpSt P l.toArray Q (tl.map (opAt l)) (stOf l st) C a' w') fuel ((cutL L m).setIfInBounds i true) a' →
            DC l.toArray (L.setIfInBounds i true) ∧ (((∃ j, j < m ∧ (L.setIfInBounds i true)[j]? = some false) ∧ (∀ j, m ≤ j → j < l.length → (L.setIfInBounds i true)[j]? = some false) ∧ C w' ∧ ∃ fuel, wpAnyQ P .any (l.take m).toArray C (fun a' => ∀ w', C w' → wpSt P l.toArray Q (tl.map (opAt l)) (stOf l st) C a' w') fuel (cutL (L.setIfInBounds i true) m) a') ∨
            (∃ f, wpAny P .any l.toArray Q f (L.setIfInBounds i true) a' w')) := by
          intro a' w' hC' hq'
          refine ⟨hdcn, ?_⟩
          have hfar' : ∀ j, m ≤ j → j < l.length → (L.setIfInBounds i true)[j]? = some false := by
            intro j h1 h2
            rw [Array.getElem?_setIfInBounds_ne (by omega)]
            exact hfar j h1 h2
          by_cases hall : ∃ j, j < m ∧ (L.setIfInBounds i true)[j]? = some false
          · exact .inl ⟨hall, hfar', hC', fuel, by rw [cutL_set]; exact hq'⟩
          · have hallT : ∀ j, j < m → (L.setIfInBounds i true)[j]? = some true := by
              intro j hj
              have hjl : j < (L.setIfInBounds i true).size := by simp; omega
              rw [Array.getElem?_eq_getElem hjl]
              cases hb : (L.setIfInBounds i true)[j] with
              | true => rfl
              | false => exact absurd ⟨j, hj, by rw [Array.getElem?_eq_getElem hjl, hb]⟩ hall
            have hnil : Region.ready .any (l.take m).toArray ((cutL L m).setIfInBounds i true) = [] := by
              rw [List.eq_nil_iff_forall_not_mem]
              intro j hj
              obtain ⟨h1, oj, h2, _⟩ := mem_ready.1 hj
              have hjm : j < m := by
                have := (Array.getElem?_eq_some_iff.1 h2).1
                simp only [List.size_toArray, List.length_take] at this
                omega
              rw [← cutL_set, cutL_getD _ m j _ hjm, Array.getD_eq_getD_getElem?, hallT j hjm] at h1
              cases h1
            refine .inr (hfin _ a' w' (by simpa using hsz) hdcn hallT hfar' hC' ?_)
            cases fuel with
            | zero => exact hq'.2 w' hC'
            | succ fuel => exact hq'.1 hnil w' hC'
        unfold qOp at hqo
        rw [take_get him, ho'] at hqo
        simp only [] at hqo
        rw [yielded_take l m a.tmps o (hgd' i o him ho')] at hqo
        unfold wpOp
        rw [ho]
        simp only []
        split
        · rename_i hw
          simp only [hw, if_true] at hqo
          exact .inl (Oper.wp_of_quiet hCw (fun a' w' h1 h2 => hnext a' w' h1 h2) hqo)
        · rename_i hw
          simp only [hw] at hqo
          exact hnext _ _ hCw hqo
    · cases f with
      | zero => rw [hW.1] at hrdy; cases hrdy
      | succ f => exact wpOp_mono (fun a' w' h' => ⟨hdcn, .inr ⟨f, h'⟩⟩) (hW.2 i hrdy)
  · intro L a w hall hI
    rcases hI.2 with ⟨⟨j0, hj0, hjf⟩, _⟩ | ⟨f, hW⟩
    · have := hall j0 (by simp; omega)
      rw [hjf] at this
      cases this
    · cases f with
      | zero => exact hW.2
      | succ f =>
        refine hW.1 ?_
        rw [List.eq_nil_iff_forall_not_mem]
        intro j hj
        obtain ⟨h1, oj, h2, _⟩ := mem_ready.1 hj
        rw [Array.getD_eq_getD_getElem?, hall j (Array.getElem?_eq_some_iff.1 h2).1] at h1
        cases h1
  · have hrep : ∀ j, j < l.length → (Array.replicate l.toArray.size false)[j]? = some false := by
      intro j hj
      rw [Array.getElem?_replicate, if_pos (by simpa using hj)]
    have hdc0 : DC l.toArray (Array.replicate l.toArray.size false) := by
      intro k o hk hl
      rw [Array.getD_eq_getD_getElem?, Array.getElem?_replicate] at hl
      split at hl <;> simp at hl
    refine ⟨hdc0, ?_⟩
    by_cases hm0 : m = 0
    · subst hm0
      have : wpQuiet P (l.take 0).toArray C (fun a' => ∀ w', C w' → wpSt P l.toArray Q (tl.map (opAt l)) (stOf l st) C a' w') [] a0 := h
      exact .inr (hfin _ a0 _ (by simp) hdc0 (fun j hj => by omega) (fun j _ hj => hrep j hj) hC (this _ hC))
    · refine .inl ⟨⟨0, by omega, hrep 0 (by omega)⟩, fun j _ hj => hrep j hj, hC, m, ?_⟩
      have : cutL (Array.replicate l.toArray.size false) m = Array.replicate m false := by
        unfold cutL
        rw [Array.toList_replicate, List.take_replicate]
        simp only [List.size_toArray, Nat.min_eq_left hml]
        exact List.toArray_replicate _ _
      rw [this]
      exact hq
  · unfold unlisted
    simp
end
end Go.Proofs.Ytgckhekikcdaiaa

namespace Go.Proofs.Ytgckhekikcdaiaa
open Go.RowKit

section
variable {P : Program} {Q : Exit → Act → World → Prop} {l : List Oper}
theorem wp_region_stg3 {id : Nat} {a0 : Act} {w0 : World} (m : Nat) (st : List (List Nat × Nat)) (tl : List Nat) (C D0 : World → Prop) (hCD : ∀ u, C u → D0 u) (hm : P.follows .mixedOrders = true) (hB : stgB2 l m st tl = true)
    (hQ : ∀ (t : Option Tmp) (v : Value) c a w, Q (.panic c) (a.put t v) w → Q (.panic c) a w) (hC : C w0.drew)
    (h : wpQuiet P (l.take m).toArray C (fun a' => ∀ w', C w' → wpSt P l.toArray Q (tl.map (opAt l)) (stOf l st) D0 a' w') (l.take m) a0) : (Code.region id l.toArray true).wp P Q a0 w0 := by
  unfold stgB2 at hB
  simp only [Bool.and_eq_true, decide_eq_true_eq] at hB
  obtain ⟨hac, hgd, hlx, hanc, hml, hns, htm, hst⟩ := hB
  have hac' : ∀ (i : Nat) (o : Oper), l.toArray[i]? = some o → ∀ e : Edge, e ∈ o.after → Region.binds .any e = true → e.on < i := by
    intro i o hi e he hbd
    rw [List.all_eq_true] at hac
    have hi' : l[i]? = some o := by simpa using hi
    have := hac (o.after.all fun e => !Region.binds .any e || decide (e.on < i)) (by
      rw [List.mem_mapIdx]
      have hlt := (List.getElem?_eq_some_iff.1 hi').1
      refine ⟨i, hlt, ?_⟩
      have := (List.getElem?_eq_some_iff.1 hi').2
      simp [this])
    rw [Array.all_eq_true_iff_forall_mem] at this
    simpa [hbd] using this e he
  have hgd' : ∀ (i : Nat) (o : Oper), i < m → l[i]? = some o → ∀ g b, o.guard = some (g, b) → g < m := by
    intro i o hi ho g b hg
    rw [List.all_eq_true] at hgd
    have := hgd o (by
      have : (l.take m)[i]? = some o := by rw [List.getElem?_take, if_pos hi]; exact ho
      exact List.mem_of_getElem? this)
    rw [hg] at this
    simpa using this
  have hanc' : ∀ i, m ≤ i → i < l.length → ∀ j, j < m → (ancS l.toArray i).getD j false = true := by
    intro i h1 h2 j hj
    have := List.all_eq_true.1 hanc i (List.mem_range.2 h2)
    simp only [Bool.or_eq_true, decide_eq_true_eq] at this
    exact List.all_eq_true.1 (this.resolve_left (by omega)) j (List.mem_range.2 hj)
  refine wp_region_any hm ?_
  have hq : wpAnyQ P .any (l.take m).toArray C (fun a' => ∀ w', C w' → wpSt P l.toArray Q (tl.map (opAt l)) (stOf l st) D0 a' w') m (Array.replicate m false) a0 := by
    unfold Region.lexB at hlx
    rw [Bool.and_eq_true] at hlx
    have h1 : (l.take m).length = m := by rw [List.length_take]; omega
    have := wpAnyQ_lex (P := P) (C := C) (md := .any) hlx.1 (l.take m) 0 (Array.replicate m false) a0 (by simp) (by have := hlx.2; simp only [List.size_toArray, h1] at this; rw [h1]; exact this) h
    rw [h1] at this
    exact this
  have hfin : ∀ (L : Array Bool) (a' : Act) (w' : World), L.size = l.length → DC l.toArray L → (∀ j, j < m → L[j]? = some true) → (∀ j, m ≤ j → j < l.length → L[j]? = some false) → C w' →
      wpSt P l.toArray Q (tl.map (opAt l)) (stOf l st) D0 a' w' → ∃ f, wpAny P .any l.toArray Q f L a' w' := by
    intro L a' w' hsz hdc hT hF hC' hw
    have hL : L = Array.replicate m true ++ Array.replicate (l.length - m) false := by
      apply Array.ext_getElem?
      intro j
      rw [Array.getElem?_append, Array.getElem?_replicate, Array.getElem?_replicate, Array.size_replicate]
      by_cases hj : j < m
      · rw [if_pos hj, if_pos hj, hT j hj]
      · rw [if_neg hj]
        by_cases hjl : j < l.length
        · rw [if_pos (by omega), hF j (by omega) hjl]
        · rw [if_neg (by omega), Array.getElem?_eq_none (by omega)]
    have hnt : ∀ t ∈ tl, L.getD t false = false := by
      intro t ht
      have h1 := List.all_eq_true.1 htm t ht
      simp only [decide_eq_true_eq] at h1
      rw [Array.getD_eq_getD_getElem?]
      by_cases hjl : t < l.length
      · rw [hF t h1 hjl]; rfl
      · rw [Array.getElem?_eq_none (by omega)]; rfl
    rw [← hL] at hst
    exact ⟨_, wpK.any _ _ _ _ (okSt_sound (Region.noSelect_spec hns) hQ st D0 L a' w' hst hdc hnt (hCD _ hC') hw _ (Nat.le_refl _))⟩
  refine wpAny_invB hac' (fun L a w => DC l.toArray L ∧ (((∃ j, j < m ∧ L[j]? = some false) ∧ (∀ j, m ≤ j → j < l.length → L[j]? = some false) ∧ C w ∧ ∃ fuel, wpAnyQ P .any (l.take m).toArray C (fun a' => ∀ w', C w' → wpSt P l.toArray Q (tl.map (opAt l)) (stOf l st) D0 a' w') fuel (cutL L m) a) ∨
    (∃ f, wpAny P .any l.toArray Q f L a w))) ?_ ?_ _ _ _ _ (by simp) ?_ ?_
  · intro i o ho L a w hs hI hi he
    obtain ⟨hdc, hI⟩ := hI
    have hsz : L.size = l.length := by simpa using hs
    have ho' : l[i]? = some o := by simpa using ho
    have hil : i < l.length := (List.getElem?_eq_some_iff.1 ho').1
    have hrdy : i ∈ Region.ready .any l.toArray L := by
      rw [mem_ready]
      refine ⟨by rw [Array.getD_eq_getD_getElem?, hi]; rfl, o, ho, fun e h1 h2 => by rw [Array.getD_eq_getD_getElem?, he e h1 h2]; rfl⟩
    have hdcn := hdc.set hrdy
    rcases hI with ⟨⟨j0, hj0, hjf⟩, hfar, hCw, fuel, hf⟩ | ⟨f, hW⟩
    · have him : i < m := by
        rcases Nat.lt_or_ge i m with h1 | h1
        · exact h1
        · have := ancS_sound hdc (fun o' h2 e h3 h4 => by rw [ho] at h2; cases h2; rw [Array.getD_eq_getD_getElem?, he e h3 h4]; rfl) j0 (hanc' i h1 hil j0 hj0)
          rw [Array.getD_eq_getD_getElem?, hjf] at this
          cases this
      have hrd : i ∈ Region.ready .any (l.take m).toArray (cutL L m) := by
        rw [mem_ready]
        refine ⟨?_, o, by rw [take_get him]; exact ho', ?_⟩
        · rw [cutL_getD L m i _ him, Array.getD_eq_getD_getElem?, hi]; rfl
        · intro e h1 h2
          have h3 := hac' i o ho e h1 h2
          rw [cutL_getD L m e.on _ (by omega), Array.getD_eq_getD_getElem?, he e h1 h2]; rfl
      cases fuel with
      | zero => rw [hf.1] at hrd; cases hrd
      | succ fuel =>
        have hqo := hf.2 i hrd
        have hnext : ∀ (a' : Act) (w' : World), C w' → wpAnyQ P .any (l.take m).toArray C (fun a' => ∀ w', C w' → wpSt P l.toArray Q (tl.map (opAt l)) (stOf l st) D0 a' w') fuel ((cutL L m).setIfInBounds i true) a' →
            DC l.toArray (L.setIfInBounds i true) ∧ (((∃ j, j < m ∧ (L.setIfInBounds i true)[j]? = some false) ∧ (∀ j, m ≤ j → j < l.length → (L.setIfInBounds i true)[j]? = some false) ∧ C w' ∧ ∃ fuel, wpAnyQ P .any (l.take m).toArray C (fun a' => ∀ w', C w' → wpSt P l.toArray Q (tl.map (opAt l)) (stOf l st) D0 a' w') fuel (cutL (L.setIfInBounds i true) m) a') ∨
            (∃ f, wpAny P .any l.toArray Q f (L.setIfInBounds i true) a' w')) := by
          intro a' w' hC' hq'
          refine ⟨hdcn, ?_⟩
          have hfar' : ∀ j, m ≤ j → j < l.length → (L.setIfInBounds i true)[j]? = some false := by
            intro j h1 h2
            rw [Array.getElem?_setIfInBounds_ne (by omega)]
            exact hfar j h1 h2
          by_cases hall : ∃ j, j < m ∧ (L.setIfInBounds i true)[j]? = some false
          · exact .inl ⟨hall, hfar', hC', fuel, by rw [cutL_set]; exact hq'⟩
          · have hallT : ∀ j, j < m → (L.setIfInBounds i true)[j]? = some true := by
              intro j hj
              have hjl : j < (L.setIfInBounds i true).size := by simp; omega
              rw [Array.getElem?_eq_getElem hjl]
              cases hb : (L.setIfInBounds i true)[j] with
              | true => rfl
              | false => exact absurd ⟨j, hj, by rw [Array.getElem?_eq_getElem hjl, hb]⟩ hall
            have hnil : Region.ready .any (l.take m).toArray ((cutL L m).setIfInBounds i true) = [] := by
              rw [List.eq_nil_iff_forall_not_mem]
              intro j hj
              obtain ⟨h1, oj, h2, _⟩ := mem_ready.1 hj
              have hjm : j < m := by
                have := (Array.getElem?_eq_some_iff.1 h2).1
                simp only [List.size_toArray, List.length_take] at this
                omega
              rw [← cutL_set, cutL_getD _ m j _ hjm, Array.getD_eq_getD_getElem?, hallT j hjm] at h1
              cases h1
            refine .inr (hfin _ a' w' (by simpa using hsz) hdcn hallT hfar' hC' ?_)
            cases fuel with
            | zero => exact hq'.2 w' hC'
            | succ fuel => exact hq'.1 hnil w' hC'
        unfold qOp at hqo
        rw [take_get him, ho'] at hqo
        simp only [] at hqo
        rw [yielded_take l m a.tmps o (hgd' i o him ho')] at hqo
        unfold wpOp
        rw [ho]
        simp only []
        split
        · rename_i hw
          simp only [hw, if_true] at hqo
          exact .inl (Oper.wp_of_quiet hCw (fun a' w' h1 h2 => hnext a' w' h1 h2) hqo)
        · rename_i hw
          simp only [hw] at hqo
          exact hnext _ _ hCw hqo
    · cases f with
      | zero => rw [hW.1] at hrdy; cases hrdy
      | succ f => exact wpOp_mono (fun a' w' h' => ⟨hdcn, .inr ⟨f, h'⟩⟩) (hW.2 i hrdy)
  · intro L a w hall hI
    rcases hI.2 with ⟨⟨j0, hj0, hjf⟩, _⟩ | ⟨f, hW⟩
    · have := hall j0 (by simp; omega)
      rw [hjf] at this
      cases this
    · cases f with
      | zero => exact hW.2
      | succ f =>
        refine hW.1 ?_
        rw [List.eq_nil_iff_forall_not_mem]
        intro j hj
        obtain ⟨h1, oj, h2, _⟩ := mem_ready.1 hj
        rw [Array.getD_eq_getD_getElem?, hall j (Array.getElem?_eq_some_iff.1 h2).1] at h1
        cases h1
  · have hrep : ∀ j, j < l.length → (Array.replicate l.toArray.size false)[j]? = some false := by
      intro j hj
      rw [Array.getElem?_replicate, if_pos (by simpa using hj)]
    have hdc0 : DC l.toArray (Array.replicate l.toArray.size false) := by
      intro k o hk hl
      rw [Array.getD_eq_getD_getElem?, Array.getElem?_replicate] at hl
      split at hl <;> simp at hl
    refine ⟨hdc0, ?_⟩
    by_cases hm0 : m = 0
    · subst hm0
      have : wpQuiet P (l.take 0).toArray C (fun a' => ∀ w', C w' → wpSt P l.toArray Q (tl.map (opAt l)) (stOf l st) D0 a' w') [] a0 := h
      exact .inr (hfin _ a0 _ (by simp) hdc0 (fun j hj => by omega) (fun j _ hj => hrep j hj) hC (this _ hC))
    · refine .inl ⟨⟨0, by omega, hrep 0 (by omega)⟩, fun j _ hj => hrep j hj, hC, m, ?_⟩
      have : cutL (Array.replicate l.toArray.size false) m = Array.replicate m false := by
        unfold cutL
        rw [Array.toList_replicate, List.take_replicate]
        simp only [List.size_toArray, Nat.min_eq_left hml]
        exact List.toArray_replicate _ _
      rw [this]
      exact hq
  · unfold unlisted
    simp
end
end Go.Proofs.Ytgckhekikcdaiaa
