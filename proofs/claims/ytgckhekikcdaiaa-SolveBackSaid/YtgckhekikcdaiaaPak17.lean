/-
  A set of whole numbers that the call itself keeps as a map[int]bool: stored into, asked, counted.
  What is told of an argument, opened: Spoilt of chapter 07 (bytes, whole numbers, turns).
  SolveBack's plain law (what is turned at few places is mended), and Within, walked.
-/
import Derived.Test.YtgckhekikcdaiaaPak4
import Derived.Maps.OwnSet
import Derived.Test.YtgckhekikcdaiaaPak14
import Derived.Test.YtgckhekikcdaiaaPak16
namespace Go.Proofs.Ytgckhekikcdaiaa
open Go.RowKit
open Go.Maps (Keyed)

theorem intK : Keyed Try.prog 3 := Maps.int_keyed Try.underlying3
theorem boolZ (w : World) : (zeroValue 4).run Try.prog w = .ok (.bool false) w := by kernel_rfl
theorem plainElem_bool_inv {H : Type} {P : Program} {e : TypeId} (he : P.underlying e = some .bool) {v : Value} {z : DataW H × List MemPlace} (h : plainElem P e v = some z) : ∃ x, v = .bool x ∧ z = (.lit (.bool x), []) := by
  unfold plainElem at h
  rw [he] at h
  cases v <;> simp at h
  subst h
  exact ⟨_, rfl, rfl⟩
/-- Block b is a map of just the numbers of l, each to true. -/
def setM (w : World) (b N : Nat) (l : List Nat) : Prop :=
  l.Nodup ∧ ∃ (n : Nat) (D : DataW Unit), n ≤ N ∧ w.ownsMap Try.prog 3 (plainElem Try.prog 4) b n D ∧ Maps.size D = l.length ∧
    ∀ x : Nat, x < 1000000 → Maps.has D (.int .i64 x) = decide (x ∈ l) ∧ D.atKey (.int .i64 x) (.lit (.bool false)) = .lit (.bool (decide (x ∈ l)))
theorem keyW {x : Nat} (hx : x < 1000000) : (Lit.int .i64 (x : Int)).wf = true := WalkArith.wf_i64 (by omega)
theorem keyO {x : Nat} (hx : x < 1000000) : keyOf Try.prog 3 (.int .i64 (x : Int)) = some (.int .i64 (x : Int)) := Maps.keyOf_int_mk Try.underlying3 (keyW hx)
theorem keyI (x : Nat) : WideAt.IsKeyLit (.int .i64 (x : Int)) := trivial
theorem setM_made (w : World) : setM (w.alloc (.map #[] 0)) w.heap.size 0 [] :=
  ⟨by simp, 0, .map [], Nat.le_refl _, World.ownsMap_made _ _ _ _, rfl, fun x _ => ⟨rfl, rfl⟩⟩
section
variable {w : World} {b N : Nat} {l : List Nat}
theorem setM.kept {w' : World} {row : Option Nat} (h : setM w b N l) (hg : w.grownBy w' row) (hne : some b ≠ row) : setM w' b N l := by
  obtain ⟨h1, n, D, h2, h4, h5⟩ := h
  exact ⟨h1, n, D, h2, h4.kept hg hne, h5⟩
theorem setM.lt (h : setM w b N l) : b < w.heap.size := by
  obtain ⟨h1, n, D, h2, h4, h5⟩ := h
  exact h4.lt
theorem setM.setCell (h : setM w b N l) {a : Addr} (ha : b ≠ a.block) (u : Value) : setM (w.setCell a u) b N l := by
  obtain ⟨h1, n, D, h2, h4, h5⟩ := h
  exact ⟨h1, n, D, h2, h4.setCell ha u, h5⟩
theorem setM.block {w' : World} (h : setM w b N l) (e : w'.heap[b]? = w.heap[b]?) : setM w' b N l := by
  obtain ⟨h1, n, D, h2, ⟨es, clock, hb, r⟩, h5⟩ := h
  exact ⟨h1, n, D, h2, ⟨es, clock, e.trans hb, r⟩, h5⟩
theorem setM.mono {M : Nat} (h : setM w b N l) (hM : N ≤ M) : setM w b M l := by
  obtain ⟨h1, n, D, h2, h4, h5⟩ := h
  exact ⟨h1, n, D, Nat.le_trans h2 hM, h4, h5⟩
theorem setM.nodup (h : setM w b N l) : l.Nodup := h.1
theorem setM.len (h : setM w b N l) : l.length ≤ N := by
  obtain ⟨h1, n, D, h2, h4, h5, h6⟩ := h
  have := h4.size_le
  omega
theorem setM.below {w' : World} (h : setM w b N l) (hb : Below w.heap.size w w') : setM w' b N l := h.block (hb.block b h.lt)
/-- A number put in. -/
def addN (l : List Nat) (x : Nat) : List Nat := if x ∈ l then l else l ++ [x]
end
theorem wpList_setM_put {wr : World} {ops : Array Oper} {rest : List Oper} {o : Oper} {a : Act} {Q : Exit → Act → World → Prop} (hg : o.guard = none) (m x v : Operand) (hop : o.op = Op.mapUpdate 60 m x v)
    (b N : Nat) (l : List Nat) (y : Nat) (hown : setM wr b N l) (hm : a.eval m = .map (some b)) (hx : a.eval x = .int .i64 (y : Int)) (hv : a.eval v = .bool true) (hy : y < 1000000) (hbig : N < 1000000)
    (hK : ∀ w', setM w' b (N + 1) (addN l y) → wr.grownBy w' (some b) → wpList Try.prog ops Q rest (a.put o.dst undef) w') : wpList Try.prog ops Q (o :: rest) a wr := by
  obtain ⟨h1, n, D, h2, h4, h5, h6⟩ := hown
  have hT := h4.tidy intK
  have hI := hT.isMap
  have hsz := h4.size_le
  refine wpList_mapUpdate_own wr hg m x v 60 hop 3 4 intK Try.underlying60 _ b n D hm h4 (by unfold maxLen; omega) _ _ _ hx hv (keyO hy) (.lit (.bool true)) [] (plainElem_bool Try.underlying4 true) ?_
  intro w' r1 r2
  refine hK w' ⟨?_, ?_⟩ r2
  · unfold addN
    split
    · exact h1
    · rename_i hn
      exact List.nodup_append.2 ⟨h1, by simp, fun a ha b hb e => hn (by simp at hb; rw [← hb, ← e]; exact ha)⟩
  · refine ⟨n + 1, _, by omega, r1, ?_, fun x hx => ?_⟩
    · rw [Maps.size_put hT, (h6 y hy).1, h5]
      unfold addN
      by_cases hm : y ∈ l
      · rw [if_pos hm, decide_eq_true hm, if_pos rfl]
      · rw [if_neg hm, decide_eq_false hm, if_neg (by simp), List.length_append]; rfl
    · have hmem : x ∈ addN l y ↔ x = y ∨ x ∈ l := by
        unfold addN
        split
        · rename_i h
          exact ⟨.inr, fun h' => h'.elim (fun e => by rw [e]; exact h) id⟩
        · rw [List.mem_append, List.mem_singleton]
          exact ⟨fun h => h.symm, fun h => h.symm⟩
      by_cases e : x = y
      · subst e
        rw [decide_eq_true (hmem.2 (.inl rfl))]
        exact ⟨Maps.has_put_same hI (keyI x) _, Maps.atKey_put_same hI (keyI x) _ _⟩
      · have hne : (Lit.int .i64 (x : Int)) ≠ .int .i64 (y : Int) := fun h => e (by simp at h; omega)
        rw [show decide (x ∈ addN l y) = decide (x ∈ l) from decide_eq_decide.2 ⟨fun h => (hmem.1 h).resolve_left e, fun h => hmem.2 (.inr h)⟩]
        exact ⟨by rw [Maps.has_put_other hne]; exact (h6 x hx).1, by rw [Maps.atKey_put_other hne]; exact (h6 x hx).2⟩
theorem wpList_setM_get {wr : World} {ops : Array Oper} {rest : List Oper} {o : Oper} {a : Act} {Q : Exit → Act → World → Prop} (hg : o.guard = none) (m x : Operand) (hop : o.op = Op.lookup 60 m x false)
    (b N : Nat) (l : List Nat) (y : Nat) (hown : setM wr b N l) (hm : a.eval m = .map (some b)) (hx : a.eval x = .int .i64 (y : Int)) (hy : y < 1000000) (r : Bool) (hr : decide (y ∈ l) = r)
    (hK : wpList Try.prog ops Q rest (a.put o.dst (.bool r)) wr) : wpList Try.prog ops Q (o :: rest) a wr := by
  obtain ⟨h1, n, D, h2, h4, h5, h6⟩ := hown
  refine wpList_plain hg fun K' hK' => ?_
  obtain ⟨v, ps, hrun, hv⟩ := h4.lookup intK Try.underlying60 (boolZ wr) (plainElem_bool Try.underlying4 false) (keyO hy)
  rw [(h6 y hy).2] at hv
  obtain ⟨c, rfl, hc⟩ := plainElem_bool_inv Try.underlying4 hv
  simp only [Prod.mk.injEq, DataW.lit.injEq, Lit.bool.injEq] at hc
  rw [← hc.1, hr] at hrun
  unfold Oper.wp
  simp only [execOp, hop, hm, hx, hrun, Result.andThen]
  simp [hm, hx, hrun, Result.andThen]
  exact hK' _ _ hK
theorem wpList_setM_len {wr : World} {ops : Array Oper} {rest : List Oper} {o : Oper} {a : Act} {Q : Exit → Act → World → Prop} (hg : o.guard = none) (m : Operand) (hop : o.op = Op.call { callee := Callee.builtin Builtin.len, args := #[m], argTypes := #[60] })
    (b N : Nat) (l : List Nat) (hown : setM wr b N l) (hm : a.eval m = .map (some b))
    (hK : wpList Try.prog ops Q rest (a.put o.dst (.int .i64 l.length)) wr) : wpList Try.prog ops Q (o :: rest) a wr := by
  obtain ⟨h1, n, D, h2, h4, h5, h6⟩ := hown
  refine wpList_len_own wr hg m 60 hop 3 4 Try.underlying60 _ b n D hm h4 ?_
  rw [h5]
  exact hK
end Go.Proofs.Ytgckhekikcdaiaa

namespace Tri
/-- A turn: place, by what. -/
structure SpT where
  a : Int
  y : Nat
def SpT.ok (o : SpT) : Prop := (-9223372036854775808 ≤ o.a ∧ o.a < 9223372036854775808) ∧ o.y < 256
end Tri
namespace Go.Proofs.Ytgckhekikcdaiaa
open Go.ChangeShapes Go.WideShapes Go.ChangeAt Go.RowKit Tri
def spC (o : SpT) : List Value := [.int .i64 o.a, .int .u8 (o.y : Nat)]
def spK : List (TypeId × Option (Option IntKind)) := [(3, some (some .i64)), (5, some (some .u8))]
theorem sp_of {r : List Value} (hl : r.length = spK.length) (h : ∀ (i : Nat) (k : TypeId × Option (Option IntKind)), spK[i]? = some k → ∃ v, r[i]? = some v ∧ leafOk k.2 v) : ∃ o : SpT, r = spC o ∧ SpT.ok o := by
  obtain ⟨v0, e0, x0, rfl, w0⟩ := h 0 _ rfl
  obtain ⟨v1, e1, x1, rfl, w1⟩ := h 1 _ rfl
  obtain ⟨m1, k1, rfl⟩ := u8_of w1
  have hb := bounds_i64 w0
  refine ⟨⟨x0, m1⟩, ?_, ⟨hb.1, by show x0 < _; omega⟩, k1⟩
  match r, hl with
  | [a, b], _ =>
    simp only [List.getElem?_cons_zero, List.getElem?_cons_succ, Option.some.injEq] at e0 e1
    subst e0 e1
    rfl
/-- What is told of a slice of turns that came in. -/
def IsSpT (w : World) (a : Option Addr) (len cap : Nat) (l : List SpT) : Prop := len = l.length ∧ len ≤ cap ∧ cap ≤ 140737488351232 ∧ cellsG w a 2 (l.map spC) ∧ ∀ o ∈ l, SpT.ok o
theorem spts_of {w : World} {a : Option Addr} {len cap : Nat} {rows : List (List Value)} (h : IsFlat spK w a len cap rows) : ∃ l, IsSpT w a len cap l := by
  obtain ⟨h1, h2, h3, h4, h5⟩ := h
  have key : ∀ rows : List (List Value), (∀ r ∈ rows, r.length = spK.length ∧ ∀ (i : Nat) (k : TypeId × Option (Option IntKind)), spK[i]? = some k → ∃ v, r[i]? = some v ∧ leafOk k.2 v) → ∃ l : List SpT, rows = l.map spC ∧ ∀ o ∈ l, SpT.ok o := by
    intro rows
    induction rows with
    | nil => intro _; exact ⟨[], rfl, by simp⟩
    | cons r rows ih =>
      intro h
      obtain ⟨l, e, hl⟩ := ih (fun r' hr => h r' (List.mem_cons_of_mem _ hr))
      obtain ⟨o, e2, ho⟩ := sp_of (h r (List.mem_cons_self ..)).1 (h r (List.mem_cons_self ..)).2
      refine ⟨o :: l, by rw [List.map_cons, e, e2], ?_⟩
      intro o' ho'
      rcases List.mem_cons.1 ho' with rfl | h
      · exact ho
      · exact hl o' h
  obtain ⟨l, rfl, hl⟩ := key rows h5
  rw [List.length_map] at h1
  exact ⟨l, h1, h2, h3, h4, hl⟩
/-- One turn's cells. -/
theorem spts_at {w : World} {a : Option Addr} {l : List SpT} (h : cellsG w a 2 (l.map spC)) (k : Nat) (hk : k < l.length) : ∃ b o, a = some ⟨b, o, none⟩ ∧
    w.cell? ⟨b, o + k * 2, none⟩ = some (.int .i64 l[k].a) ∧ w.cell? ⟨b, o + k * 2 + 1, none⟩ = some (.int .u8 (l[k].y : Nat)) := by
  obtain ⟨b, o, e, hc⟩ := h k (by rw [List.length_map]; exact hk)
  have hg : (l.map spC).getD k [] = spC l[k] := by rw [List.getD_eq_getElem?_getD, List.getElem?_map, List.getElem?_eq_getElem hk]; rfl
  rw [hg] at hc
  exact ⟨b, o, e, hc 0 _ rfl, hc 1 _ rfl⟩
set_option linter.constructorNameAsVariable false in
set_option maxRecDepth 100000 in
/-- A struct of one slice of bytes, one of whole numbers, one of turns. -/
theorem open_spoilt {H : Type} {enc : TypeId × Value → H} {W : World} {base t b u s eb eu es j : Nat} {v : Value} {d : DataW H} {p : List MemPlace} {ts : List TypeId} {ds : List (DataW H)} {f0 f1 f2 : Field}
    (hsz : (DataW.weightsEach Try.prog ts ds).all (· ≤ reachBytes) = true) (ht : ts[j]? = some t) (hd : ds[j]? = some d)
    (hs : Try.prog.underlying t = some (.struct #[f0, f1, f2])) (hf0 : f0.type = b ∧ f0.offset = 0) (hf1 : f1.type = u ∧ f1.offset = 1) (hf2 : f2.type = s ∧ f2.offset = 2) (hcb : Try.prog.cellsOf b = 1) (hcu : Try.prog.cellsOf u = 1) (hcs : Try.prog.cellsOf s = 1) (hct : Try.prog.cellsOf t = 3)
    (hub : Try.prog.underlying b = some (.slice eb)) (heb : Try.prog.underlying eb = some (.int .u8)) (hceb : Try.prog.cellsOf eb = 1) (hbeb : Try.prog.bytesOf eb = 1)
    (huu : Try.prog.underlying u = some (.slice eu)) (heu : Try.prog.underlying eu = some (.int .i64)) (hceu : Try.prog.cellsOf eu = 1) (hbeu : Try.prog.bytesOf eu = 8)
    (hus : Try.prog.underlying s = some (.slice es)) (hkes : flatOf Try.prog es spK = true) (hbes : Try.prog.bytesOf es = 16)
    (hv : Value.okWide Try.prog W .any base t v) (h : DataW.Trod enc Try.prog W 0 (fun _ => true) true t v d p) :
    ∃ a l c zs a' l' c' zs' a2 l2 c2 rs, v = .agg #[.slice a l c, .slice a' l' c', .slice a2 l2 c2] ∧ IsBytes W a l c zs ∧ IsInts W a' l' c' zs' ∧ IsSpT W a2 l2 c2 rs := by
  have hv' : ∃ cs, v = Value.agg cs ∧ cs.size = Try.prog.cellsOf t ∧ Row.okWide Try.prog W .any base t cs := by
    unfold Value.okWide at hv; rw [hs] at hv; exact hv
  obtain ⟨cs, rfl, hsz2, -⟩ := hv'
  obtain ⟨fuel, hf⟩ := h
  have hl : (Value.cells (.agg cs)).toList = cs.toList := rfl
  rw [hl] at hf
  rw [hct] at hsz2
  obtain ⟨c⟩ := cs
  match c, hsz2 with
  | [v0, v1, v2], _ =>
    have hr := reach_arg hsz ht hd
    obtain ⟨xs, n, _, hx, _, hxl, hat⟩ := DataW.trod_struct hs hf
    simp only [Prod.mk.injEq] at hx
    obtain ⟨rfl, -⟩ := hx
    obtain ⟨h0t, h0o⟩ := hf0
    obtain ⟨h1t, h1o⟩ := hf1
    obtain ⟨h2t, h2o⟩ := hf2
    have hl0 : 0 < xs.length := by rw [hxl]; simp
    have hl1 : 1 < xs.length := by rw [hxl]; simp
    have hl2 : 2 < xs.length := by rw [hxl]; simp
    have e0 := hat 0 f0 rfl
    have e1 := hat 1 f1 rfl
    have e2 := hat 2 f2 rfl
    have r0 := reach_field hs hr (i := 0) (f := f0) rfl (List.getElem?_eq_getElem hl0)
    have r1 := reach_field hs hr (i := 1) (f := f1) rfl (List.getElem?_eq_getElem hl1)
    have r2 := reach_field hs hr (i := 2) (f := f2) rfl (List.getElem?_eq_getElem hl2)
    rw [h0t, h0o, hcb, List.getElem?_eq_getElem hl0] at e0
    rw [h1t, h1o, hcu, List.getElem?_eq_getElem hl1] at e1
    rw [h2t, h2o, hcs, List.getElem?_eq_getElem hl2] at e2
    rw [h0t] at r0
    rw [h1t] at r1
    rw [h2t] at r2
    obtain ⟨a, l, c, zs, rfl, w0⟩ := bytes_in r0 hub heb hceb hbeb e0
    obtain ⟨a', l', c', zs', rfl, w1⟩ := ints_in r1 huu heu hceu hbeu e1
    obtain ⟨a2, l2, c2, rows, rfl, w2⟩ := flat_in (bs := 16) spK r2 hus hkes hbes (by omega) (by decide) e2
    obtain ⟨rs, w2⟩ := spts_of w2
    exact ⟨a, l, c, zs, a', l', c', zs', a2, l2, c2, rs, rfl, w0, w1, w2⟩
end Go.Proofs.Ytgckhekikcdaiaa

namespace Tri
open Go Go.RowKit Go.Proofs.Ytgckhekikcdaiaa
theorem snoc_ind {α : Type} {P : List α → Prop} (h0 : P []) (h1 : ∀ l a, P l → P (l ++ [a])) (l : List α) : P l := by
  have key : ∀ m : List α, P m.reverse := by
    intro m
    induction m with
    | nil => exact h0
    | cons a m ih => rw [List.reverse_cons]; exact h1 _ _ ih
  have := key l.reverse
  rwa [List.reverse_reverse] at this
theorem addN_mem {l : List Nat} {x i : Nat} : i ∈ addN l x ↔ i ∈ l ∨ i = x := by
  unfold addN
  split
  · rename_i h
    exact ⟨.inl, fun h' => h'.elim id (fun e => by rw [e]; exact h)⟩
  · rw [List.mem_append, List.mem_singleton]
theorem ddL_addN {er : List Int} {j : Nat} (hj : j < er.length) {i : Nat} (hi : er.getD j 0 = (i : Int)) : addN (ddL er j) i = ddL er (j + 1) := by
  rw [ddL_succ hj hi]
  unfold addN
  by_cases h : i ∈ ddL er j
  · rw [if_pos h, if_pos (List.contains_iff_mem.2 h)]
  · rw [if_neg h, if_neg (fun h' => h (List.contains_iff_mem.1 h'))]
/-- The word behind the turns; the places turned that are not gone. -/
def spB (word : List Nat) (L : List SpT) : List Nat := L.foldl (fun b t => b.set t.a.toNat (b.getD t.a.toNat 0 ^^^ t.y)) word
def spO (G : List Nat) (L : List SpT) : List Nat := L.foldl (fun o t => if t.a.toNat ∈ G then o else addN o t.a.toNat) []
theorem spB_nil (word : List Nat) : spB word [] = word := rfl
theorem spO_nil (G : List Nat) : spO G [] = [] := rfl
theorem spB_snoc (word : List Nat) (L : List SpT) (t : SpT) : spB word (L ++ [t]) = (spB word L).set t.a.toNat ((spB word L).getD t.a.toNat 0 ^^^ t.y) := by unfold spB; rw [List.foldl_append]; rfl
theorem spO_snoc (G : List Nat) (L : List SpT) (t : SpT) : spO G (L ++ [t]) = if t.a.toNat ∈ G then spO G L else addN (spO G L) t.a.toNat := by unfold spO; rw [List.foldl_append]; rfl
theorem sp_spec {n : Nat} {word G : List Nat} (hl : word.length = n) (hb : bytesL word) : ∀ L : List SpT, (∀ t ∈ L, 0 ≤ t.a ∧ t.a < (n : Int) ∧ t.y < 256) → (spB word L).length = n ∧ bytesL (spB word L) ∧ ∀ i, i < n → i ∉ G → (spB word L).getD i 0 ≠ word.getD i 0 → i ∈ spO G L := by
  intro L
  refine snoc_ind (P := fun L : List SpT => (∀ t ∈ L, 0 ≤ t.a ∧ t.a < (n : Int) ∧ t.y < 256) → (spB word L).length = n ∧ bytesL (spB word L) ∧ ∀ i, i < n → i ∉ G → (spB word L).getD i 0 ≠ word.getD i 0 → i ∈ spO G L) ?_ (fun L t ih => ?_) L
  · intro _; exact ⟨hl, hb, fun i _ _ h => absurd rfl h⟩
  · intro h
    obtain ⟨h1, h2, h3⟩ := ih fun x hx => h x (by simp [hx])
    obtain ⟨g1, g2, g3⟩ := h t (by simp)
    have hlt : t.a.toNat < (spB word L).length := by omega
    rw [spB_snoc, spO_snoc]
    refine ⟨by rw [List.length_set]; exact h1, ?_, fun i hi hG hne => ?_⟩
    · intro x hx
      rcases List.mem_or_eq_of_mem_set hx with hx | rfl
      · exact h2 x hx
      · exact xor_lt (by rw [getD_of _ _ hlt]; exact h2 _ (List.getElem_mem hlt)) g3
    · rw [getD_set _ _ _ _ hlt] at hne
      by_cases e : i = t.a.toNat
      · rw [if_neg (by rw [← e]; exact hG), addN_mem]
        exact .inr e
      · rw [if_neg e] at hne
        have := h3 i hi hG hne
        split
        · exact this
        · exact addN_mem.2 (.inl this)
/-- What is turned at few places, and with others gone, is mended. -/
theorem back_mends {n p : Nat} (hn : n ≤ 255) {word bad G O : List Nat} {er : List Int} (hb : bytesL word) (hl : word.length = n) (hr : rightB word p = true) (hb' : bytesL bad) (hl' : bad.length = n) (hin : ∀ x ∈ er, 0 ≤ x ∧ x < (n : Int)) (hG : G.Nodup) (hm : ∀ i : Nat, i ∈ G ↔ (i : Int) ∈ er)
    (ho : ∀ i, i < n → i ∉ G → bad.getD i 0 ≠ word.getD i 0 → i ∈ O) (h1 : G.length ≤ p) (h2 : O.length ≤ (p - G.length) / 2) : mendW n p bad (eraZ er) = some word := by
  refine ((mend_near hn hb' hl' hin hG hm).2 h1).1 word ⟨hb, hl, hr, fun _ _ => Nat.zero_le _, ?_⟩
  refine Nat.le_trans (nodup_le _ O (offP_nodup _ _ _ _) fun i hi => ?_) h2
  obtain ⟨g1, g2, g3⟩ := offP_mem.1 hi
  exact ho i g1 g2 (Ne.symm g3)
/-- Where a place lies among the unlike ones. -/
theorem unkL_at {a b : List Nat} {n i : Nat} (hi : i < n) (h : unkB a b i = true) : (unkL a b i).length < (unkL a b n).length ∧ (unkL a b n).getD (unkL a b i).length 0 = i := by
  have e : ∃ r, unkL a b n = unkL a b i ++ i :: r := by
    unfold unkL
    have e : List.range n = List.range i ++ (i :: (List.range (n - i - 1)).map (i + 1 + ·)) := by
      have h1 : n = i + ((n - i - 1) + 1) := by omega
      rw [h1, List.range_add]
      congr 1
      rw [show i + (n - i - 1 + 1) - i - 1 = n - i - 1 by omega]
      rw [List.range_succ_eq_map, List.map_cons, List.map_map]
      congr 1
      apply List.map_congr_left
      intro x _
      simp
      omega
    rw [e, List.filter_append, List.filter_cons_of_pos h]
    exact ⟨_, rfl⟩
  obtain ⟨r, e⟩ := e
  rw [e]
  refine ⟨by rw [List.length_append, List.length_cons]; omega, ?_⟩
  rw [List.getD_eq_getElem?_getD, List.getElem?_append_right (Nat.le_refl _), Nat.sub_self]
  rfl
end Tri
namespace Go.Proofs.Ytgckhekikcdaiaa
open Go.RowKit Tri

theorem bufB.block {w w' : World} {b : Nat} {l : List Nat} (h : bufB w b l) (e : w'.heap[b]? = w.heap[b]?) : bufB w' b l := by
  refine ⟨fun i hi => ?_, fun i hi => ?_⟩
  · obtain ⟨a, o, e1, hc⟩ := h.1 i hi
    simp only [Option.some.injEq, Addr.mk.injEq] at e1
    obtain ⟨rfl, rfl, -⟩ := e1
    refine ⟨_, _, rfl, ?_⟩
    rw [← hc]
    exact World.cell?_of_block e
  · have := h.2 i hi
    unfold World.frozen? at this ⊢
    simp only at this ⊢
    rw [e]
    exact this
set_option maxHeartbeats 2000000 in
set_option maxRecDepth 100000 in
theorem sol_Within (c f n k g t : Nat) (w : World) (hR : isR w c f n k) (hk : k < n) (hn : n ≤ 255) (hg : g ≤ 1000) (ht : t ≤ 1000) :
    Calls Try.prog 32 #[.pointer (some ⟨c, 0, none⟩), .int .i64 (g : Nat), .int .i64 (t : Nat)] w fun e w' => e = .returned (.bool (decide (g ≤ n - k ∧ t ≤ (n - k - g) / 2))) ∧ Below w.heap.size w w' := by
  have hS := hid (rs_Size c f n k w hR)
  clear hR
  have hw1 : IntKind.i64.wrap ((n : Int) - (k : Int)) = (n : Int) - (k : Int) := by rw [IntKind.wrap_i64]; omega
  have d1 : decide ((0 : Int) ≤ (g : Int)) = true := decide_eq_true (by omega)
  have d2 : decide ((0 : Int) ≤ (t : Int)) = true := decide_eq_true (by omega)
  by_cases h1 : g ≤ n - k
  · have d3 : decide ((g : Int) ≤ (n : Int) - (k : Int)) = true := decide_eq_true (by omega)
    have hE : Hid (decide (g ≤ n - k ∧ t ≤ (n - k - g) / 2) = decide (t ≤ (n - k - g) / 2)) := decide_eq_decide.2 ⟨fun h => by omega, fun h => ⟨h1, by omega⟩⟩
    rw [hE.out]
    obtain ⟨more, hmore⟩ : ∃ more, (n - k - g) / 2 = more := ⟨_, rfl⟩
    rw [hmore]
    have hw2 : IntKind.i64.wrap ((n : Int) - (k : Int) - (g : Int)) = (n : Int) - (k : Int) - (g : Int) := by rw [IntKind.wrap_i64]; omega
    have hq : IntKind.i64.wrap (((n : Int) - (k : Int) - (g : Int)).tdiv 2) = (more : Int) := by
      rw [show (n : Int) - (k : Int) - (g : Int) = ((n - k - g : Nat) : Int) from by omega, show (2 : Int) = ((2 : Nat) : Int) from rfl, ← Int.ofNat_tdiv, hmore, IntKind.wrap_i64]
      omega
    clear hE hmore
    (go_enter Try.func32, Try.ntmps32; try simp only [List.append])
    go_wp2_with ((with_reducible refine wpList_unguard ?_ ?_); (focus rfl))
    refine Calls.mono hS.out ?_; rintro e w1 ⟨rfl, hb⟩
    have HB := hid hb
    clear hb hS
    go_wp2_with ((with_reducible refine wpList_unguard ?_ ?_); (focus rfl))
    go_ret
    exact ⟨rfl, HB.out⟩
  · have d3 : decide ((g : Int) ≤ (n : Int) - (k : Int)) = false := decide_eq_false (by omega)
    have hE : Hid (decide (g ≤ n - k ∧ t ≤ (n - k - g) / 2) = false) := decide_eq_false fun h => h1 h.1
    rw [hE.out]
    (go_enter Try.func32, Try.ntmps32; try simp only [List.append])
    go_wp2_with ((with_reducible refine wpList_unguard ?_ ?_); (focus rfl))
    refine Calls.mono hS.out ?_; rintro e w1 ⟨rfl, hb⟩
    have HB := hid hb
    clear hb hS
    go_wp2_with ((with_reducible refine wpList_unguard ?_ ?_); (focus rfl))
    go_ret
    exact ⟨rfl, HB.out⟩
end Go.Proofs.Ytgckhekikcdaiaa
