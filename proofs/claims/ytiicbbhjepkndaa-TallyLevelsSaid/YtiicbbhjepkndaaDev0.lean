/-
  Rows of which a beginning is known (rowP); what may change between two blocks (Out).
-/
import Derived.Test.YtiicbbhjepkndaaBlk
import Derived.Test.YtiicbbhjepkndaaStr
namespace Go.Proofs.Ytiicbbhjepkndaa
open Go.RowKit

/-- A block whose first cells are known, and may be written. -/
def rowP (w : World) (B : Nat) (t : TypeId) (cs : List Value) : Prop :=
  ∃ (pad : List Value) (fr : Nat × Nat), w.heap[B]? = some (.cells (cs ++ pad).toArray t fr) ∧ (fr.2 ≤ fr.1 ∨ cs.length ≤ fr.1)
theorem rowP.lt {w : World} {B : Nat} {t : TypeId} {cs : List Value} (h : rowP w B t cs) : B < w.heap.size := by
  obtain ⟨_, _, h, _⟩ := h
  exact (Array.getElem?_eq_some_iff.1 h).1
theorem rowP.cell {w : World} {B : Nat} {t : TypeId} {cs : List Value} (h : rowP w B t cs) (i : Nat) (v : Value) (hv : cs[i]? = some v) : w.cell? ⟨B, i, none⟩ = some v := by
  obtain ⟨pad, fr, h, _⟩ := h
  rw [cell_of_row _ _ _ _ _ _ h]
  have hi : i < cs.length := (List.getElem?_eq_some_iff.1 hv).1
  simp only [List.getElem?_toArray, List.getElem?_append_left hi, hv]
theorem rowP.free {w : World} {B : Nat} {t : TypeId} {cs : List Value} (h : rowP w B t cs) (i : Nat) (hi : i < cs.length) : w.frozen? ⟨B, i, none⟩ = false := by
  obtain ⟨pad, ⟨lo, hi'⟩, h, hf⟩ := h
  unfold World.frozen?
  simp only [h]
  simp only at hf
  simp
  omega
theorem rowP.same {w w' : World} {B : Nat} {t : TypeId} {cs : List Value} (h : rowP w B t cs) (he : w'.heap[B]? = w.heap[B]?) : rowP w' B t cs := by
  obtain ⟨pad, fr, h, hf⟩ := h
  exact ⟨pad, fr, he.trans h, hf⟩
theorem rowP.below {w w' : World} {B n : Nat} {t : TypeId} {cs : List Value} (h : rowP w B t cs) (hb : Below n w w') (hn : B < n) : rowP w' B t cs := h.same (hb.block B hn)
theorem rowP.new (w : World) (t : TypeId) (cs : Array Value) : rowP (w.alloc (.cells cs t)) w.heap.size t cs.toList := ⟨[], (0, 0), by simpa using heap_alloc_new w (.cells cs t), .inl (Nat.le_refl _)⟩
theorem rowP.set {w : World} {B : Nat} {t : TypeId} {cs : List Value} (h : rowP w B t cs) (i : Nat) (v : Value) (hi : i < cs.length) : rowP (w.setCell ⟨B, i, none⟩ v) B t (cs.set i v) := by
  obtain ⟨pad, fr, h, hf⟩ := h
  refine ⟨pad, fr, ?_, by rw [List.length_set]; exact hf⟩
  have hlt := (Array.getElem?_eq_some_iff.1 h).1
  unfold World.setCell
  simp only [Array.getElem?_modify, if_pos, h, Option.map_some]
  simp [List.set_append_left _ _ hi]
theorem rowP.setOther {w : World} {B : Nat} {t : TypeId} {cs : List Value} (h : rowP w B t cs) (p : Addr) (v : Value) (hp : B ≠ p.block) : rowP (w.setCell p v) B t cs := h.same (Below.heap_setCell w p v B hp)
theorem rowP.drew {w : World} {B : Nat} {t : TypeId} {cs : List Value} (h : rowP w B t cs) : rowP w.drew B t cs := h

/-- Nothing that was there is another one but what lies between two numbers. -/
structure Out (lo hi : Nat) (w w' : World) : Prop where
  os : w'.os = w.os
  tape : w'.tape = w.tape
  output : w'.output = w.output
  size : w.heap.size ≤ w'.heap.size
  block : ∀ k, k < w.heap.size → (k < lo ∨ hi ≤ k) → w'.heap[k]? = w.heap[k]?
theorem Out.refl (lo hi : Nat) (w : World) : Out lo hi w w := ⟨rfl, rfl, rfl, Nat.le_refl _, fun _ _ _ => rfl⟩
theorem Out.trans {lo hi : Nat} {a b c : World} (h : Out lo hi a b) (k : Out lo hi b c) : Out lo hi a c :=
  ⟨k.os.trans h.os, k.tape.trans h.tape, k.output.trans h.output, Nat.le_trans h.size k.size, fun i hi ho => (k.block i (Nat.lt_of_lt_of_le hi h.size) ho).trans (h.block i hi ho)⟩
theorem Out.of {lo hi : Nat} {w w' : World} (h : Below w.heap.size w w') : Out lo hi w w' := ⟨h.os, h.tape, h.output, h.size, fun k hk _ => h.block k hk⟩
theorem Out.set {lo hi : Nat} {a w : World} (h : Out lo hi a w) (p : Addr) (v : Value) (h1 : lo ≤ p.block) (h2 : p.block < hi) : Out lo hi a (w.setCell p v) :=
  ⟨h.os, h.tape, h.output, by simpa using h.size, fun k hk ho => (Below.heap_setCell w p v k (by omega)).trans (h.block k hk ho)⟩
theorem Out.drew {lo hi : Nat} {a w : World} (h : Out lo hi a w) : Out lo hi a w.drew := ⟨h.os, h.tape, h.output, h.size, h.block⟩
theorem Out.below {lo hi : Nat} {w0 a w : World} (h : Out lo hi a w) (hb : Below w0.heap.size w0 a) (hlo : w0.heap.size ≤ lo) : Below w0.heap.size w0 w :=
  ⟨h.os.trans hb.os, h.tape.trans hb.tape, h.output.trans hb.output, Nat.le_trans hb.size h.size, fun k hk => (h.block k (Nat.lt_of_lt_of_le hk hb.size) (.inl (Nat.lt_of_lt_of_le hk hlo))).trans (hb.block k hk)⟩
theorem rowP.out {lo hi : Nat} {w w' : World} {B : Nat} {t : TypeId} {cs : List Value} (h : rowP w B t cs) (ho : Out lo hi w w') (hB : B < lo ∨ hi ≤ B) : rowP w' B t cs := h.same (ho.block B h.lt hB)
end Go.Proofs.Ytiicbbhjepkndaa
