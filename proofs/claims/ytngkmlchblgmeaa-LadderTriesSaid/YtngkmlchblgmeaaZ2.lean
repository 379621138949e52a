/-
  Own rows of ints of either sign; append of one.
-/
import Derived.Test.YtngkmlchblgmeaaZ
namespace Go.Proofs.Ytngkmlchblgmeaa
open Go.RowKit

def rowZ (w : World) (base : Nat) (v : Value) (l : List Int) : Prop := w.ownsRow base 3 1 v l.length (l.map fun x => Value.int .i64 x)
theorem rowZ.cells {w : World} {base : Nat} {v : Value} {l : List Int} (h : rowZ w base v l) : ∃ p c, v = .slice p l.length c ∧ l.length ≤ c ∧ cellsZ w p l := by
  have h' := h
  unfold rowZ at h'
  rcases h.2 with ⟨rfl, h0⟩ | ⟨g, cap, cur, rfl, _, _, hle, _, _, _⟩
  · refine ⟨none, 0, by rw [h0], by omega, ?_⟩
    rw [List.eq_nil_of_length_eq_zero h0]; exact cellsZ.nil _ _
  · refine ⟨_, _, rfl, hle, ?_⟩
    intro i hi
    refine ⟨_, _, rfl, ?_⟩
    rw [Nat.zero_add, h'.cellAt i (by omega), List.getElem?_map, List.getElem?_eq_getElem hi]
    simp [hi]
theorem rowZ.nil (w : World) (base : Nat) : rowZ w base (.slice none 0 0) [] := ⟨rfl, .inl ⟨rfl, rfl⟩⟩
theorem Try.infoZ : (Try.prog.info? 3).map (fun i => (i.zero, i.size, i.bytes)) = some (some (.int .i64 0), 1, 8) := by kernel_rfl
theorem wpList_pushZ {P : Program} {wr : World} {ops : Array Oper} {rest : List Oper} {o : Oper} {a : Act} {Q : Exit → Act → World → Prop} (hgd : o.guard = none) (s x : Operand) (t : TypeId)
    (ho : o.op = .call { callee := .builtin .append, args := #[s, x], argTypes := #[t, t] })
    (base : Nat) (i : TypeInfo) (ht : P.underlying t = some (.slice 3)) (hi : P.info? 3 = some i) (hz : i.zero = some (.int .i64 0))
    (hsize : i.size = 1) (hby : i.bytes = 8)
    (v : Value) (l : List Int) (y : Int) (hown : rowZ wr base v l) (hs : a.eval s = v)
    (g : Nat) (hx : a.eval x = .slice (some ⟨g, 0, none⟩) 1 1) (hg : g = wr.heap.size) (hlen : l.length ≤ 1000000) (hbase : base ≤ wr.heap.size)
    (h : ∀ v' w', rowZ w' base v' (l ++ [y]) → Below base wr w' → wpList P ops Q rest (a.put o.dst v') w') :
    wpList P ops Q (o :: rest) a (wr.alloc (.cells #[.int .i64 y] 3)) := by
  subst hg
  refine wpList_append_own (wr.alloc (.cells #[.int .i64 y] 3)) hgd s x t ho base 3 i (.int .i64 0) 1 8 ht hi hz hsize hby rfl (by decide) v l.length (l.map fun x => Value.int .i64 x) hs (World.ownsRow.alloc hown _)
    ⟨wr.heap.size, 0, none⟩ 1 1 [Value.int .i64 y] hx rfl ?_ ?_ ?_ ?_ ?_ ?_
  · intro j u hj
    match j with
    | 0 =>
      simp only [List.getElem?_cons_zero, Option.some.injEq] at hj
      subst hj
      exact World.cell?_alloc_new wr #[.int .i64 y] 3 0
    | j + 1 => simp at hj
  · intro u hu; simp only [List.mem_singleton] at hu; subst hu; rfl
  · unfold maxLen; omega
  · omega
  · simp; omega
  · intro v' w' h2 h3 _
    refine h v' w' ?_ ?_
    · unfold rowZ; rw [List.length_append, List.map_append]; exact h2
    · have hb0 : Below base wr (wr.alloc (.cells #[.int .i64 y] 3)) := ((Below.refl _ _).alloc (Nat.le_refl _) _).mono hbase
      refine hb0.grown h3 (by simp; omega) ?_
      intro b hb
      rcases hown.2 with ⟨h4, _⟩ | ⟨g', cap, cur, h4, h5, _⟩
      · rw [h4] at hb; simp [Value.ownBlock] at hb
      · rw [h4] at hb; simp only [Value.ownBlock, Option.some.injEq] at hb; omega
end Go.Proofs.Ytngkmlchblgmeaa
