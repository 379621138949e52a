/-
  A slice's ints (of either sign), as they lie in memory.
-/
import Derived.Test.YtngkmlchblgmeaaBase
import Derived.ProofKit
namespace Go.Proofs.Ytngkmlchblgmeaa
open Go.RowKit

/-- A slice's ints. -/
def cellsZ (w : World) (p : Option Addr) (l : List Int) : Prop :=
  ∀ i, i < l.length → ∃ a o, p = some ⟨a, o, none⟩ ∧ w.cell? ⟨a, o + i, none⟩ = some (.int .i64 (l.getD i 0))
theorem cellsZ.nil (w : World) (p : Option Addr) : cellsZ w p [] := fun i hi => by simp at hi
theorem cellsZ.below {w w' : World} {p : Option Addr} {l : List Int} (h : cellsZ w p l) (hb : Below w.heap.size w w') : cellsZ w' p l := by
  intro i hi
  obtain ⟨a, f, e, hc⟩ := h i hi
  exact ⟨a, f, e, by rw [hb.cell (p := ⟨a, f + i, none⟩) (block_lt_of_cell hc)]; exact hc⟩
theorem cellsZ.new (w : World) (l : List Int) (vs : Array Value) (t : TypeId) (h : vs.toList = l.map fun x => Value.int .i64 x) :
    cellsZ (w.alloc (.cells vs t)) (some ⟨w.heap.size, 0, none⟩) l := by
  intro i hi
  refine ⟨_, _, rfl, ?_⟩
  rw [World.cell?_alloc_new, ← Array.getElem?_toList, h, Nat.zero_add, List.getElem?_map, List.getElem?_eq_getElem hi]
  simp [hi]
end Go.Proofs.Ytngkmlchblgmeaa
