/-
  Texts and bytes in memory: what a conversion makes, what it reads, and lists of texts.
-/
import Derived.Test.YtngkmlchblgmeaaBase
import Derived.Lib.ConvBytes
namespace Go.Proofs.Ytngkmlchblgmeaa
open Go.RowKit

/-- A text's bytes. -/
def sb (s : ByteArray) : List Nat := s.data.toList.map UInt8.toNat
theorem sb_length (s : ByteArray) : (sb s).length = s.size := by simp [sb]
theorem sb_lt (s : ByteArray) : ∀ x ∈ sb s, x < 256 := by
  intro x hx
  simp only [sb, List.mem_map] at hx
  obtain ⟨u, _, rfl⟩ := hx
  exact u.toNat_lt
theorem sb_getD (s : ByteArray) (j : Nat) (h : j < s.size) : (sb s).getD j 0 = (s.data.toList.getD j 0).toNat := by
  have h' : j < s.data.toList.length := by simpa using h
  rw [List.getD_eq_getElem?_getD, List.getD_eq_getElem?_getD, sb, List.getElem?_map, List.getElem?_eq_getElem h']
  rfl
/-- All bytes of texts. -/
def lb (l : List ByteArray) : List Nat := l.flatMap sb
theorem lb_lt (l : List ByteArray) : ∀ x ∈ lb l, x < 256 := by
  intro x hx
  simp only [lb, List.mem_flatMap] at hx
  obtain ⟨s, _, h⟩ := hx
  exact sb_lt s x h
/-- A slice's texts. -/
def cellsS (w : World) (p : Option Addr) (l : List ByteArray) : Prop :=
  ∀ i, i < l.length → ∃ a o, p = some ⟨a, o, none⟩ ∧ w.cell? ⟨a, o + i, none⟩ = some (.string (l.getD i ByteArray.empty))
theorem cellsS.nil (w : World) (p : Option Addr) : cellsS w p [] := fun i hi => by simp at hi
theorem cellsS.below {w w' : World} {p : Option Addr} {l : List ByteArray} (h : cellsS w p l) (hb : Below w.heap.size w w') : cellsS w' p l := by
  intro i hi
  obtain ⟨a, f, e, hc⟩ := h i hi
  exact ⟨a, f, e, by rw [hb.cell (p := ⟨a, f + i, none⟩) (block_lt_of_cell hc)]; exact hc⟩
theorem cellsS.new (w : World) (l : List ByteArray) (vs : Array Value) (t : TypeId) (h : vs.toList = l.map Value.string) :
    cellsS (w.alloc (.cells vs t)) (some ⟨w.heap.size, 0, none⟩) l := by
  intro i hi
  refine ⟨_, _, rfl, ?_⟩
  rw [World.cell?_alloc_new, ← Array.getElem?_toList, h, Nat.zero_add, List.getElem?_map, List.getElem?_eq_getElem hi]
  simp [hi]
theorem bytes_below (w : World) (e : TypeId) (s : ByteArray) : Below w.heap.size w (Lib.bytesWorld w e s) := by
  refine ⟨rfl, rfl, rfl, by rw [Lib.bytesWorld_size]; omega, fun k hk => Lib.bytesWorld_at_old w e s k hk⟩
theorem take_snocS (l : List ByteArray) (k : Nat) (h : k < l.length) : l.take (k + 1) = l.take k ++ [l.getD k ByteArray.empty] := by
  rw [List.take_succ_eq_append_getElem h]
  simp [h]
/-- Bytes as a text. -/
def ofB (l : List Nat) : ByteArray := ⟨(l.map UInt8.ofNat).toArray⟩
theorem ofB_size (l : List Nat) : (ofB l).size = l.length := by simp [ofB, ByteArray.size]
theorem ofB_append (l m : List Nat) : ofB l ++ ofB m = ofB (l ++ m) := by
  unfold ofB
  rw [List.map_append, ByteArray.mk_append_mk]
theorem sb_ofB (l : List Nat) (h : ∀ x ∈ l, x < 256) : sb (ofB l) = l := by
  unfold sb ofB
  rw [List.map_map]
  conv => rhs; rw [← List.map_id l]
  apply List.map_congr_left
  intro x hx
  simp only [Function.comp, id, UInt8.toNat_ofNat']
  exact Nat.mod_eq_of_lt (h x hx)
theorem ofB_sb (s : ByteArray) : ofB (sb s) = s := by
  unfold sb ofB
  rw [List.map_map]
  have : (UInt8.ofNat ∘ UInt8.toNat) = id := by funext x; simp
  rw [this, List.map_id]
theorem sb_inj {s t : ByteArray} (h : sb s = sb t) : s = t := by rw [← ofB_sb s, h, ofB_sb]
theorem str_beq (a b : ByteArray) : (a.toList == b.toList) = decide (sb a = sb b) := by
  by_cases h : sb a = sb b
  · have := sb_inj h
    subst this
    simp
  · rw [decide_eq_false h]
    rw [beq_eq_false_iff_ne]
    intro e
    apply h
    rw [ByteArray.toList_eq, ByteArray.toList_eq] at e
    unfold sb
    rw [e]
theorem sb_extract (s : ByteArray) (a b : Nat) : sb (s.extract a b) = ((sb s).drop a).take (b - a) := by
  unfold sb
  rw [ByteArray.data_extract, Array.toList_extract]
  simp
theorem strOfNums_nat (l : List Nat) : strOfNums (l.map fun (x : Nat) => (x : Int)) = ofB l := by
  unfold ofB strOfNums
  rw [List.map_map]
  rfl
/-- 'string(b)'. -/
theorem conv_str {w : World} {p : Option Addr} {l : List Nat} (h : cellsB w p l) (n c : Nat) (hn : n = l.length) :
    (convert 111 9 (.slice p n c)).run Try.prog w = .ok (.string (ofB l)) w := by
  subst hn
  cases p with
  | none =>
    cases l with
    | nil => exact run_convert_bytes_nil w 111 5 Try.underlying111 Try.underlying5 _ _ 9 Try.underlying9
    | cons x l => obtain ⟨a, o, e, _⟩ := h 0 (by simp); cases e
  | some a =>
    obtain ⟨b, o, s⟩ := a
    cases l with
    | nil =>
      rw [run_convert_bytes_string w 111 9 5 _ _ c Try.underlying111 Try.underlying5 Try.underlying9]
      simp only [List.length_nil]
      rw [run_bytesToString w _ 0 c [] (by simp [loadCells]; rfl)]
      rfl
    | cons x l =>
      obtain ⟨a', o', e, _⟩ := h 0 (by simp)
      simp only [Option.some.injEq, Addr.mk.injEq] at e
      obtain ⟨rfl, rfl, rfl⟩ := e
      have := run_convert_bytes_arg (P := Try.prog) w 111 5 Try.underlying111 Try.underlying5 b o (x :: l).length c ((x :: l).map fun (x : Nat) => (x : Int)) (by simp) (by
        intro i hi
        obtain ⟨a', o', e, hc⟩ := h i hi
        simp only [Option.some.injEq, Addr.mk.injEq] at e
        obtain ⟨rfl, rfl, _⟩ := e
        rw [hc]
        congr 2
        rw [List.getD_eq_getElem?_getD, List.getD_eq_getElem?_getD, List.getElem?_map, List.getElem?_eq_getElem hi]
        rfl) 9 Try.underlying9
      rw [this, strOfNums_nat]
/-- A row that the call owns, told as a slice's bytes. -/
theorem cells_of_owns {w : World} {base e n : Nat} {v : Value} {l : List Nat} (h : w.ownsRow base e 1 v n (l.map fun x => Value.int .u8 (x : Nat))) : ∃ p c, v = .slice p n c ∧ n = l.length ∧ cellsB w p l := by
  have hn : n = l.length := by have := h.1; simpa using this.symm
  rcases h.2 with ⟨rfl, h0⟩ | ⟨g, cap, cur, rfl, _, _, _, _, _, _⟩
  · subst h0
    exact ⟨none, 0, rfl, hn, by have : l = [] := by cases l; rfl; simp at hn
                                subst this; exact cellsB.nil _ _⟩
  · refine ⟨_, _, rfl, hn, ?_⟩
    intro i hi
    refine ⟨_, _, rfl, ?_⟩
    rw [Nat.zero_add, h.cellAt i (by omega), List.getElem?_map, List.getElem?_eq_getElem hi]
    simp [hi]
/-- '[]byte(s)': the new bytes may be written. -/
theorem bytes_free (w : World) (e : TypeId) (s : ByteArray) (j : Nat) (hj : j < s.size) : (Lib.bytesWorld w e s).frozen? ⟨w.heap.size, j, none⟩ = false := by
  unfold World.frozen?
  rw [Lib.bytesWorld_at_new]
  have h : s.size ≤ (Lib.bytesCells w e s).size := by simp [Lib.bytesCells]
  simp
  omega
theorem bytes_cells (w : World) (e : TypeId) (s : ByteArray) : cellsB (Lib.bytesWorld w e s) (some ⟨w.heap.size, 0, none⟩) (sb s) := by
  intro i hi
  rw [sb_length] at hi
  exact ⟨_, _, rfl, by rw [Nat.zero_add, Lib.bytesWorld_cell w e s i hi, sb_getD s i hi]⟩
/-- A byte stored into a slice's array. -/
theorem cellsB.set {w : World} {b o : Nat} {l : List Nat} (h : cellsB w (some ⟨b, o, none⟩) l) (i x : Nat) (hi : i < l.length) :
    cellsB (w.setCell ⟨b, o + i, none⟩ (.int .u8 (x : Nat))) (some ⟨b, o, none⟩) (l.set i x) := by
  intro j hj
  rw [List.length_set] at hj
  obtain ⟨a', o', e, hc⟩ := h j hj
  simp only [Option.some.injEq, Addr.mk.injEq] at e
  obtain ⟨rfl, rfl, _⟩ := e
  refine ⟨_, _, rfl, ?_⟩
  by_cases e : i = j
  · subst e
    rw [World.cell?_setCell_same _ _ _ hc]
    simp [hi]
  · rw [World.cell?_setCell_other _ _ _ _ (by intro e'; simp [e] at e'), hc]
    simp [List.getD_eq_getElem?_getD, List.getElem?_set, e]
theorem str_byte (s : ByteArray) (k : Nat) (h : k < s.size) : ((s[k]'h).toNat : Int) = ((sb s).getD k 0 : Nat) := by
  rw [sb_getD s k h]
  congr 2
  rw [List.getD_eq_getElem?_getD, List.getElem?_eq_getElem (by simpa using h)]
  rfl

end Go.Proofs.Ytngkmlchblgmeaa
