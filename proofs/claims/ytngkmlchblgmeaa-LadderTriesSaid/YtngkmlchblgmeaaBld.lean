/-
  strings.Builder in the program: WriteString and String; what lies elsewhere stays.
-/
import Derived.Test.YtngkmlchblgmeaaNum
import Derived.Test.YtngkmlchblgmeaaShelf
namespace Go.Proofs.Ytngkmlchblgmeaa
open Go.RowKit

/-- A builder that holds some bytes. -/
def bldB (w : World) (B b : Nat) (l : List Nat) : Prop := Lib.IsBuilder 163 5 B b (l.map fun x => Value.int .u8 (x : Nat)) w
theorem bldB.below {w w' : World} {B b : Nat} {l : List Nat} (h : bldB w B b l) (hb : Below w.heap.size w w') : bldB w' B b l := by
  have key : ∀ p, Lib.BuilderAt 163 5 B b p (l.map fun x => Value.int .u8 (x : Nat)) w → Lib.BuilderAt 163 5 B b p (l.map fun x => Value.int .u8 (x : Nat)) w' := by
    intro p ⟨h1, v, h2, h3, h4⟩
    refine ⟨h1, v, by rw [hb.block b (Array.getElem?_eq_some_iff.1 h2).1]; exact h2, ?_, h4⟩
    obtain ⟨h5, h6⟩ := h3
    refine ⟨h5, h6.imp id fun ⟨g, cap, cur, h7, h8, h9, h10⟩ => ⟨g, cap, cur, h7, h8, ?_, h10⟩⟩
    rw [hb.block g (Array.getElem?_eq_some_iff.1 h9).1]; exact h9
  exact h.imp (key _) (key _)
theorem bldB.new (w : World) : bldB (w.alloc (.cells #[.pointer none, .slice none 0 0] 163)) w.heap.size w.heap.size [] := Lib.fresh_isBuilder _ _ w
theorem strCells_ofB (l : List Nat) (h : ∀ x ∈ l, x < 256) : Lib.strCells (ofB l) = l.map fun x => Value.int .u8 (x : Nat) := by
  unfold Lib.strCells ofB
  rw [List.map_map]
  apply List.map_congr_left
  intro x hx
  simp only [Function.comp, UInt8.toNat_ofNat']
  rw [Nat.mod_eq_of_lt (h x hx)]
theorem bld_WriteString (B b : Nat) (l m : List Nat) (w : World) (h : bldB w B b l) (hm : ∀ x ∈ m, x < 256) (hlen : l.length + m.length ≤ 1000000) (hBw : B ≤ w.heap.size) :
    Calls Try.prog 103 #[.pointer (some ⟨b, 0, none⟩), .string (ofB m)] w fun e w' => (∃ v, e = .returned v) ∧ bldB w' B b (l ++ m) ∧ Below B w w' :=
  (Any.Builder_WriteString { Try.lays105 with } Try.Builder_Extra_105 B b _ (ofB m) w h (by rw [List.length_map, ofB_size]; omega) hBw).mono fun _ _ ⟨h1, h2, h3⟩ => ⟨⟨_, h1⟩, by
    show Lib.IsBuilder _ _ _ _ _ _
    rw [List.map_append, ← strCells_ofB m hm]
    exact .inr h2, h3⟩
theorem bld_String (B b : Nat) (l : List Nat) (w : World) (h : bldB w B b l) (hl : ∀ x ∈ l, x < 256) (hBw : B ≤ w.heap.size) :
    Calls Try.prog 105 #[.pointer (some ⟨b, 0, none⟩)] w fun e w' => e = .returned (.string (ofB l)) ∧ Below B w w' := by
  have h' : Lib.IsBuilder 163 5 B b (Lib.byteCells (l.map UInt8.ofNat)) w := by
    unfold Lib.byteCells
    rw [List.map_map]
    have : l.map ((fun b : UInt8 => Value.int .u8 b.toNat) ∘ UInt8.ofNat) = l.map fun x => Value.int .u8 (x : Nat) := by
      apply List.map_congr_left
      intro x hx
      simp only [Function.comp, UInt8.toNat_ofNat']
      rw [Nat.mod_eq_of_lt (hl x hx)]
    rw [this]; exact h
  exact Try.Builder_String_any B b (l.map UInt8.ofNat) w h' hBw
end Go.Proofs.Ytngkmlchblgmeaa
