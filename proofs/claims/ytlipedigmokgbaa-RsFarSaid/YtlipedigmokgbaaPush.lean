/-
  append of one number onto a row that the call owns.
-/
import Derived.Test.YtlipedigmokgbaaInt
namespace Go.Proofs.Ytlipedigmokgbaa
open Go.RowKit Tri

/-- A row of numbers that the call owns. -/
def rowK (w : World) (base : Nat) (e : TypeId) (k : IntKind) (v : Value) (l : List Nat) : Prop := w.ownsRow base e 1 v l.length (l.map fun x => Value.int k (x : Nat))
theorem wpList_push {P : Program} {wr : World} {ops : Array Oper} {rest : List Oper} {o : Oper} {a : Act} {Q : Exit → Act → World → Prop} (hgd : o.guard = none) (s x : Operand) (t : TypeId)
    (ho : o.op = .call { callee := .builtin .append, args := #[s, x], argTypes := #[t, t] })
    (base : Nat) (e : TypeId) (i : TypeInfo) (k : IntKind) (bytes : Nat) (ht : P.underlying t = some (.slice e)) (hi : P.info? e = some i) (hz : i.zero = some (.int k 0))
    (hsize : i.size = 1) (hby : i.bytes = bytes) (hb8 : bytes ≤ 8)
    (v : Value) (l : List Nat) (y : Nat) (hown : rowK wr base e k v l) (hs : a.eval s = v)
    (g : Nat) (hx : a.eval x = .slice (some ⟨g, 0, none⟩) 1 1) (hg : g = wr.heap.size) (hlen : l.length ≤ 1000000) (hbase : base ≤ wr.heap.size)
    (h : ∀ v' w', rowK w' base e k v' (l ++ [y]) → Below base wr w' → wpList P ops Q rest (a.put o.dst v') w') :
    wpList P ops Q (o :: rest) a (wr.alloc (.cells #[.int k (y : Nat)] e)) := by
  subst hg
  refine wpList_append_own (wr.alloc (.cells #[.int k (y : Nat)] e)) hgd s x t ho base e i (.int k 0) 1 bytes ht hi hz hsize hby rfl (by decide) v l.length (l.map fun x => Value.int k (x : Nat)) hs (World.ownsRow.alloc hown _)
    ⟨wr.heap.size, 0, none⟩ 1 1 [Value.int k (y : Nat)] hx rfl ?_ ?_ ?_ ?_ ?_ ?_
  · intro j u hj
    match j with
    | 0 =>
      simp only [List.getElem?_cons_zero, Option.some.injEq] at hj
      subst hj
      exact World.cell?_alloc_new wr #[.int k (y : Nat)] e 0
    | j + 1 => simp at hj
  · intro u hu; simp only [List.mem_singleton] at hu; subst hu; rfl
  · unfold maxLen; omega
  · calc (l.length + 1) * bytes ≤ (l.length + 1) * 8 := Nat.mul_le_mul_left _ hb8
      _ ≤ _ := by omega
  · simp; omega
  · intro v' w' h2 h3 _
    refine h v' w' ?_ ?_
    · unfold rowK; rw [List.length_append, List.map_append]; exact h2
    · have hb0 : Below base wr (wr.alloc (.cells #[.int k (y : Nat)] e)) := ((Below.refl _ _).alloc (Nat.le_refl _) _).mono hbase
      refine hb0.grown h3 (by simp; omega) ?_
      intro b hb
      rcases hown.2 with ⟨h4, _⟩ | ⟨g', cap, cur, h4, h5, _⟩
      · rw [h4] at hb; simp [Value.ownBlock] at hb
      · rw [h4] at hb; simp only [Value.ownBlock, Option.some.injEq] at hb; omega
end Go.Proofs.Ytlipedigmokgbaa
