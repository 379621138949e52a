/-
  A row of rows that the call itself appends to.
-/
import Derived.Test.YtlipedigmokgbaaPoly6
namespace Go.Proofs.Ytlipedigmokgbaa
open Go.RowKit Tri

/-- An own row of rows of bytes, each of which begins at its block's start. -/
def rowsO (w : World) (base : Nat) (v : Value) (L : List (List Nat)) : Prop :=
  ∃ vs : List Value, w.ownsRow base 28 1 v L.length vs ∧ (L = [] → v = .slice none 0 0) ∧
    ∀ i, i < L.length → ∃ q c, vs[i]? = some (.slice q (L.getD i []).length c) ∧ (L.getD i []).length ≤ c ∧ cellsB w q (L.getD i []) ∧ (q = none ∨ ∃ b, q = some ⟨b, 0, none⟩)
theorem rowsO.nil (w : World) (base : Nat) : rowsO w base (.slice none 0 0) [] := ⟨[], World.ownsRow_nil _ _ _ _, fun _ => rfl, fun i hi => by simp at hi⟩
theorem rowsO.below {w w' : World} {base : Nat} {v : Value} {L : List (List Nat)} (h : rowsO w base v L) (hb : Below w.heap.size w w') : rowsO w' base v L := by
  obtain ⟨vs, ho, h0, h1⟩ := h
  refine ⟨vs, ?_, h0, fun i hi => ?_⟩
  · obtain ⟨h2, h3⟩ := ho
    refine ⟨h2, h3.imp id fun ⟨g, cap, cur, h4, h5, h6, h7⟩ => ⟨g, cap, cur, h4, h5, ?_, h7⟩⟩
    rw [hb.block g (Array.getElem?_eq_some_iff.1 h6).1]; exact h6
  · obtain ⟨q, c, h2, h3, h4, h5⟩ := h1 i hi
    exact ⟨q, c, h2, h3, h4.below hb, h5⟩
theorem rowsO.cells {w : World} {base : Nat} {v : Value} {L : List (List Nat)} (h : rowsO w base v L) : ∃ p c, v = .slice p L.length c ∧ L.length ≤ c ∧ cellsR w p L := by
  obtain ⟨vs, ho, _, h1⟩ := h
  have ho' := ho
  rcases ho.2 with ⟨rfl, h2⟩ | ⟨g, cap, cur, rfl, _, _, hle, _⟩
  · exact ⟨none, 0, by rw [h2], by omega, fun i hi => by omega⟩
  · refine ⟨_, _, rfl, hle, fun i hi => ?_⟩
    obtain ⟨q, c, h3, h4, h5, _⟩ := h1 i hi
    refine ⟨g, 0, q, c, rfl, ?_, h4, h5⟩
    have hvl : vs.length = L.length := by have := ho'.1; simpa using this
    rw [Nat.zero_add, ho'.cellAt i (by omega), h3]
theorem cellsB.grownO {wr w' : World} {base n : Nat} {v : Value} {vs : List Value} {o : Obj} (ho : wr.ownsRow base 28 1 v n vs) (hvs : ∀ u, vs[0]? = some u → ∃ q a c, u = .slice q a c) (h0 : n = 0 → v = .slice none 0 0)
    (hg : (wr.alloc o).grownBy w' v.ownBlock) {q : Option Addr} {row : List Nat} (hq : cellsB wr q row) (hqo : q = none ∨ ∃ b, q = some ⟨b, 0, none⟩) : cellsB w' q row := by
  intro i hi
  obtain ⟨a, f, e, hc⟩ := hq i hi
  refine ⟨a, f, e, ?_⟩
  have hlt : a < wr.heap.size := block_lt_of_cell hc
  have hne : some a ≠ v.ownBlock := by
    intro he
    rcases hqo with h | ⟨b, h⟩
    · rw [h] at e; cases e
    rw [h] at e
    simp only [Option.some.injEq, Addr.mk.injEq] at e
    obtain ⟨rfl, rfl, _⟩ := e
    have hn : n ≠ 0 := fun hn => by rw [h0 hn] at he; simp [Value.ownBlock] at he
    rcases ho.2 with ⟨_, h2⟩ | ⟨g, cap, cur, rfl, _, h4, h5, _⟩
    · exact hn h2
    · simp only [Value.ownBlock, Option.some.injEq] at he
      subst he
      obtain ⟨a0, f0, e0, hc0⟩ := hq 0 (by omega)
      rw [h] at e0
      simp only [Option.some.injEq, Addr.mk.injEq] at e0
      obtain ⟨rfl, rfl, _⟩ := e0
      have hvl : vs.length = n := by have := ho.1; simpa using this
      have hx := ho.cellAt 0 (by omega)
      obtain ⟨q1, a1, c1, hu⟩ := hvs (vs[0]'(by omega)) (List.getElem?_eq_getElem (by omega))
      rw [List.getElem?_eq_getElem (by omega), hu] at hx
      rw [Nat.zero_add, hx] at hc0
      cases hc0
  rw [World.cell?_of_block (w := wr) (w' := w') (a := ⟨a, f + i, none⟩) (by rw [hg.block a (by simp; omega) hne]; exact Below.heap_alloc wr o a hlt)]
  exact hc
theorem getD_app_left (L : List (List Nat)) (P : List Nat) (i : Nat) (h : i < L.length) : (L ++ [P]).getD i [] = L.getD i [] := by
  simp [List.getD_eq_getElem?_getD, List.getElem?_append_left h]
theorem getD_app_last (L : List (List Nat)) (P : List Nat) : (L ++ [P]).getD L.length [] = P := by simp
theorem Try.infoR' : (Try.prog.info? 28).map (fun i => (i.zero, i.size, i.bytes)) = some (some (.slice none 0 0), 1, 24) := by kernel_rfl

theorem wpList_pushR {wr : World} {ops : Array Oper} {rest : List Oper} {o : Oper} {a : Act} {Q : Exit → Act → World → Prop} (hgd : o.guard = none) (s x : Operand) (t : TypeId)
    (ho : o.op = .call { callee := .builtin .append, args := #[s, x], argTypes := #[t, t] })
    (base : Nat) (i : TypeInfo) (ht : Try.prog.underlying t = some (.slice 28)) (hi : Try.prog.info? 28 = some i) (hz : i.zero = some (.slice none 0 0)) (hsize : i.size = 1) (hby : i.bytes = 24)
    (v : Value) (L : List (List Nat)) (P : List Nat) (q : Option Addr) (c : Nat) (hown : rowsO wr base v L) (hP : cellsB wr q P) (hPc : P.length ≤ c) (hqo : q = none ∨ ∃ b, q = some ⟨b, 0, none⟩) (hs : a.eval s = v)
    (g : Nat) (hx : a.eval x = .slice (some ⟨g, 0, none⟩) 1 1) (hg : g = wr.heap.size) (hlen : L.length ≤ 1000000) (hbase : base ≤ wr.heap.size)
    (h : ∀ v' w', rowsO w' base v' (L ++ [P]) → Below base wr w' → wpList Try.prog ops Q rest (a.put o.dst v') w') :
    wpList Try.prog ops Q (o :: rest) a (wr.alloc (.cells #[.slice q P.length c] 28)) := by
  subst hg
  obtain ⟨vs, hown, h0, hrows⟩ := hown
  have hvl : vs.length = L.length := by have := hown.1; simpa using this
  refine wpList_append_own (wr.alloc (.cells #[.slice q P.length c] 28)) hgd s x t ho base 28 i (.slice none 0 0) 1 24 ht hi hz hsize hby rfl (by decide) v L.length vs hs (hown.alloc _)
    ⟨wr.heap.size, 0, none⟩ 1 1 [Value.slice q P.length c] hx rfl ?_ ?_ ?_ ?_ ?_ ?_
  · intro j u hj
    match j with
    | 0 =>
      simp only [List.getElem?_cons_zero, Option.some.injEq] at hj
      subst hj
      exact World.cell?_alloc_new wr #[.slice q P.length c] 28 0
    | j + 1 => simp at hj
  · intro u hu; simp only [List.mem_singleton] at hu; subst hu; rfl
  · unfold maxLen; omega
  · omega
  · simp; omega
  · intro v' w' h2 h3 _
    have hvs : ∀ u, vs[0]? = some u → ∃ q a c, u = .slice q a c := fun u hu => by
      have hlt : 0 < L.length := by have := (List.getElem?_eq_some_iff.1 hu).1; omega
      obtain ⟨q', c', h4, _⟩ := hrows 0 hlt
      rw [hu] at h4
      exact ⟨_, _, _, Option.some.inj h4⟩
    have hn0 : L.length = 0 → v = .slice none 0 0 := fun e => h0 (List.eq_nil_of_length_eq_zero e)
    refine h v' w' ⟨vs ++ [.slice q P.length c], by rw [List.length_append]; exact h2, fun e => by simp at e, fun j hj => ?_⟩ ?_
    · rw [List.length_append, List.length_singleton] at hj
      by_cases e : j < L.length
      · obtain ⟨q', c', h4, h5, h6, h7⟩ := hrows j e
        rw [getD_app_left L P j e]
        refine ⟨q', c', ?_, h5, h6.grownO hown hvs hn0 h3 h7, h7⟩
        rw [List.getElem?_append_left (by omega)]; exact h4
      · obtain rfl : j = L.length := by omega
        rw [getD_app_last]
        refine ⟨q, c, ?_, hPc, hP.grownO hown hvs hn0 h3 hqo, hqo⟩
        rw [← hvl]; simp
    · have hb0 : Below base wr (wr.alloc (.cells #[.slice q P.length c] 28)) := ((Below.refl _ _).alloc (Nat.le_refl _) _).mono hbase
      refine hb0.grown h3 (by simp; omega) ?_
      intro b hb
      rcases hown.2 with ⟨h4, _⟩ | ⟨g', cap, cur, h4, h5, _⟩
      · rw [h4] at hb; simp [Value.ownBlock] at hb
      · rw [h4] at hb; simp only [Value.ownBlock, Option.some.injEq] at hb; omega
end Go.Proofs.Ytlipedigmokgbaa
