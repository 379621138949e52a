/-
  Small words that all texts of this seat share: bytes in memory, what is told of an argument, lists.
-/
import Derived.Test.YtngkmlchblgmeaaProg
import Derived.WalkKit
import Derived.WalkSpells
import Derived.WalkLawsBesides
import Derived.Handy
namespace Go.Proofs.Ytngkmlchblgmeaa
open Go.RowKit

theorem hid {p : Prop} (h : p) : Hid p := h

theorem u8_of {a : Int} (h : (Lit.int .u8 a).wf = true) : ∃ n : Nat, n < 256 ∧ a = n := by
  have := bounds_u8 h
  exact ⟨a.toNat, by omega, by omega⟩

theorem xor_byte (a b : Nat) (ha : a < 256) (hb : b < 256) : bits .xor .u8 (a : Int) (b : Int) = ((a ^^^ b : Nat) : Int) := Go.u8_xor_nat a b ha hb
theorem i64_xor_nat (a b : Nat) (ha : a < 2 ^ 62) (hb : b < 2 ^ 62) : bits .xor .i64 (a : Int) (b : Int) = ((a ^^^ b : Nat) : Int) := by
  have hx : a ^^^ b < 2 ^ 62 := Nat.xor_lt_two_pow ha hb
  show IntKind.i64.wrap ((BitVec.ofInt 64 (a : Int) ^^^ BitVec.ofInt 64 (b : Int)).toNat : Int) = _
  rw [BitVec.toNat_xor, ofInt_u64 a (by omega), ofInt_u64 b (by omega), IntKind.wrap_i64]
  omega
/-- What is told of a slice of whole numbers that came in. -/
def IsRow (k : IntKind) (w : World) (a : Option Addr) (len cap : Nat) (zs : List Int) : Prop :=
  (a = none ∧ len = 0 ∧ cap = 0 ∧ zs = []) ∨
  ∃ x, a = some x ∧ len ≤ cap ∧ cap ≤ maxLen ∧ zs.length = cap ∧ (∀ i, i < zs.length → w.cell? (x.add i) = some (.int k (zs.getD i 0))) ∧ ∀ n ∈ zs, (Lit.int k n).wf = true
theorem getD_of (l : List Nat) (k : Nat) (h : k < l.length) : l.getD k 0 = l[k] := by simp [h]
theorem getD_mem (l : List Nat) (k : Nat) (h : k < l.length) : l.getD k 0 ∈ l := by rw [getD_of l k h]; exact List.getElem_mem h
theorem take_snocN (l : List Nat) (k : Nat) (h : k < l.length) : l.take (k + 1) = l.take k ++ [l.getD k 0] := by
  rw [List.take_succ_eq_append_getElem h]
  simp [h]

/-- A slice's bytes. -/
def cellsB (w : World) (p : Option Addr) (l : List Nat) : Prop :=
  ∀ i, i < l.length → ∃ a o, p = some ⟨a, o, none⟩ ∧ w.cell? ⟨a, o + i, none⟩ = some (.int .u8 (l.getD i 0 : Nat))
theorem cellsB.nil (w : World) (p : Option Addr) : cellsB w p [] := fun i hi => by simp at hi
theorem cellsB.alloc {w : World} {p : Option Addr} {l : List Nat} (h : cellsB w p l) (o : Obj) : cellsB (w.alloc o) p l := by
  intro i hi
  obtain ⟨a, f, e, hc⟩ := h i hi
  exact ⟨a, f, e, by rw [World.cell?_alloc_lt _ _ _ (block_lt_of_cell hc)]; exact hc⟩
theorem cellsB.drew {w : World} {p : Option Addr} {l : List Nat} (h : cellsB w p l) : cellsB w.drew p l := h
theorem cellsB.below {w w' : World} {p : Option Addr} {l : List Nat} (h : cellsB w p l) (hb : Below w.heap.size w w') : cellsB w' p l := by
  intro i hi
  obtain ⟨a, f, e, hc⟩ := h i hi
  exact ⟨a, f, e, by rw [hb.cell (p := ⟨a, f + i, none⟩) (block_lt_of_cell hc)]; exact hc⟩
/-- The bytes of a new array that is written out. -/
theorem cellsB.new (w : World) (l : List Nat) (vs : Array Value) (t : TypeId) (h : vs.toList = l.map fun x => Value.int .u8 (x : Nat)) :
    cellsB (w.alloc (.cells vs t)) (some ⟨w.heap.size, 0, none⟩) l := by
  intro i hi
  refine ⟨_, _, rfl, ?_⟩
  rw [World.cell?_alloc_new, ← Array.getElem?_toList, h, Nat.zero_add, List.getElem?_map, List.getElem?_eq_getElem hi]
  simp [hi]

/-- An operation whose guard says yes is as one without a guard. -/
theorem wpList_unguard {P : Program} {ops : Array Oper} {Q : Exit → Act → World → Prop} {a : Act} {w : World} {rest : List Oper} {dst : Option Tmp} {op : Op} {type : TypeId} {pos : String} {after : Array Edge} {g : Nat × Bool}
    (hw : Region.wanted ⟨dst, op, type, pos, after, some g⟩ (yielded ops a.tmps) = true) (h : wpList P ops Q (⟨dst, op, type, pos, after, none⟩ :: rest) a w) :
    wpList P ops Q (⟨dst, op, type, pos, after, some g⟩ :: rest) a w := by
  unfold wpList at h ⊢
  rw [if_pos hw]
  rw [if_pos (by simp [Region.wanted])] at h
  exact h
end Go.Proofs.Ytngkmlchblgmeaa
