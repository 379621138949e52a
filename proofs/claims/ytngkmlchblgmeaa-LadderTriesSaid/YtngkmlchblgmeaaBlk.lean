/-
  A block of the heap that is known whole.
-/
import Derived.Test.YtngkmlchblgmeaaBase
import Derived.ProofKit
namespace Go.Proofs.Ytngkmlchblgmeaa
open Go.RowKit

def Blk (w : World) (B : Nat) (t : TypeId) (vs : Array Value) : Prop := w.heap[B]? = some (.cells vs t)
theorem Blk.lt {w : World} {B : Nat} {t : TypeId} {vs : Array Value} (h : Blk w B t vs) : B < w.heap.size := (Array.getElem?_eq_some_iff.1 h).1
theorem Blk.below {w w' : World} {B : Nat} {t : TypeId} {vs : Array Value} (h : Blk w B t vs) (hb : Below w.heap.size w w') : Blk w' B t vs := by
  unfold Blk; rw [hb.block B h.lt]; exact h
theorem Blk.belowN {w w' : World} {B n : Nat} {t : TypeId} {vs : Array Value} (h : Blk w B t vs) (hb : Below n w w') (hn : B < n) : Blk w' B t vs := by
  unfold Blk; rw [hb.block B hn]; exact h
theorem Blk.new (w : World) (t : TypeId) (vs : Array Value) : Blk (w.alloc (.cells vs t)) w.heap.size t vs := heap_alloc_new w _
theorem Blk.cell {w : World} {B : Nat} {t : TypeId} {vs : Array Value} (h : Blk w B t vs) (i : Nat) (v : Value) (hv : vs[i]? = some v) : w.cell? ⟨B, i, none⟩ = some v := by
  unfold World.cell?
  rw [show w.heap[B]? = _ from h]
  simpa using hv
theorem Blk.free {w : World} {B : Nat} {t : TypeId} {vs : Array Value} (h : Blk w B t vs) (i : Nat) : w.frozen? ⟨B, i, none⟩ = false := by
  unfold World.frozen?
  simp only
  rw [show w.heap[B]? = _ from h]
  simp
theorem Blk.set {w : World} {B : Nat} {t : TypeId} {vs : Array Value} (h : Blk w B t vs) (i : Nat) (v : Value) : Blk (w.setCell ⟨B, i, none⟩ v) B t (vs.setIfInBounds i v) := heap_setCell_same w B i _ _ v h
theorem Blk.setOther {w : World} {B : Nat} {t : TypeId} {vs : Array Value} (h : Blk w B t vs) (p : Addr) (v : Value) (hp : B ≠ p.block) : Blk (w.setCell p v) B t vs := by
  unfold Blk; rw [heap_setCell_other w p B v hp]; exact h
theorem Blk.drew {w : World} {B : Nat} {t : TypeId} {vs : Array Value} (h : Blk w B t vs) : Blk w.drew B t vs := h
end Go.Proofs.Ytngkmlchblgmeaa
