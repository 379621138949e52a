/-
  A row of bytes in its own block that is written in place.
-/
import Derived.Test.YtlipedigmokgbaaPoly1
import Derived.Test.YtlipedigmokgbaaReg
import Derived.Deep.OwnRows
import Derived.RowKit3
namespace Go.Proofs.Ytlipedigmokgbaa
open Go.RowKit Tri

def bufB (w : World) (b : Nat) (l : List Nat) : Prop := cellsB w (some ⟨b, 0, none⟩) l ∧ ∀ i, i < l.length → w.frozen? ⟨b, i, none⟩ = false
theorem bufB.alloc {w : World} {b : Nat} {l : List Nat} (h : bufB w b l) (c : Array Value) (t : TypeId) : bufB (w.alloc (.cells c t)) b l :=
  ⟨h.1.alloc _, fun i hi => by rw [frozen?_alloc_cells]; exact h.2 i hi⟩
theorem bufB.drew {w : World} {b : Nat} {l : List Nat} (h : bufB w b l) : bufB w.drew b l := h
theorem bufB.below {w w' : World} {b : Nat} {l : List Nat} (h : bufB w b l) (hb : Below w.heap.size w w') : bufB w' b l := by
  refine ⟨h.1.below hb, fun i hi => ?_⟩
  obtain ⟨a, o, e, hc⟩ := h.1 i hi
  simp only [Option.some.injEq, Addr.mk.injEq] at e
  obtain ⟨rfl, rfl, _⟩ := e
  rw [Nat.zero_add] at hc
  rw [hb.frozen (p := ⟨b, i, none⟩) (block_lt_of_cell hc)]
  exact h.2 i hi
theorem bufB.at {w : World} {b : Nat} {l : List Nat} (h : bufB w b l) (i : Nat) (hi : i < l.length) : w.cell? ⟨b, i, none⟩ = some (.int .u8 (l.getD i 0 : Nat)) := by
  obtain ⟨a, o, e, hc⟩ := h.1 i hi
  simp only [Option.some.injEq, Addr.mk.injEq] at e
  obtain ⟨rfl, rfl, _⟩ := e
  rwa [Nat.zero_add] at hc
theorem bufB.set {w : World} {b : Nat} {l : List Nat} (h : bufB w b l) (i x : Nat) (hi : i < l.length) : bufB (w.setCell ⟨b, i, none⟩ (.int .u8 (x : Nat))) b (l.set i x) := by
  refine ⟨by have := h.1.set i x hi; rwa [Nat.zero_add] at this, fun j hj => ?_⟩
  rw [World.frozen?_setCell]
  exact h.2 j (by simpa using hj)
theorem bufB.made (w : World) (n : Nat) (t : TypeId) : bufB (w.alloc (.cells (madeCells #[Value.int .u8 0] n) t)) w.heap.size (List.replicate n 0) := by
  refine ⟨cellsB.new w _ _ _ ?_, fun i hi => ?_⟩
  · apply List.ext_getElem (by simp [madeCells])
    intro i h1 h2
    simp [madeCells, Nat.mod_one]
  · rw [frozen?_alloc_cells]
    unfold World.frozen?
    simp

/-- What a call hands back: bytes (in whatever memory). -/
def RetC (w : World) (l : List Nat) (e : Ending) (w' : World) : Prop := ∃ p c, e = .returned (.slice p l.length c) ∧ l.length ≤ c ∧ cellsB w' p l ∧ Below w.heap.size w w'
end Go.Proofs.Ytlipedigmokgbaa
