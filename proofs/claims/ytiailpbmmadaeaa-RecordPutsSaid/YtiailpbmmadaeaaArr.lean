/-
  '==' between two arrays of bytes: as their bytes are.
-/
import Derived.Test.YtiailpbmmadaeaaBase
import Derived.Stop.BytesEq
namespace Go.Proofs.Ytiailpbmmadaeaa
open Go.RowKit
open Go.Extern.Stop (cell)

def u8s (l : List Nat) : Array Value := (l.map fun x => Value.int .u8 (x : Nat)).toArray
set_option maxRecDepth 100000 in
theorem run_eq_bytes (t n : Nat) (ht : Try.prog.underlying t = some (.array n 5)) (l m : List Nat) (hl : ∀ x ∈ l, x < 256) (hm : ∀ x ∈ m, x < 256) (h1 : l.length = n) (h2 : m.length = n) (w : World) :
    (Op.equalIn 10000 t (.agg (u8s l)) (.agg (u8s m))).run Try.prog w = .ok (decide (l = m)) w := by
  have hsz : ∀ w, (sizeOf 5).run Try.prog w = .ok 1 w := by intro w; kernel_rfl
  have key : ∀ l : List Nat, (∀ x ∈ l, x < 256) → u8s l = ((l.map UInt8.ofNat).map cell).toArray := by
    intro l hl
    unfold u8s
    rw [List.map_map]
    congr 1
    apply List.map_congr_left
    intro x hx
    simp only [Function.comp, cell, UInt8.toNat_ofNat']
    rw [Nat.mod_eq_of_lt (hl x hx)]; rfl
  rw [key l hl, key m hm, run_equalIn_bytes w 9998 t 5 n ht Try.underlying5 hsz (l.map UInt8.ofNat) (m.map UInt8.ofNat) (by simpa using h1) (by simpa using h2)]
  congr 1
  by_cases e : l = m
  · subst e; simp
  · rw [decide_eq_false e, beq_eq_false_iff_ne]
    intro h
    apply e
    have := congrArg (List.map UInt8.toNat) h
    rw [List.map_map, List.map_map] at this
    have g : ∀ l : List Nat, (∀ x ∈ l, x < 256) → l.map (UInt8.toNat ∘ UInt8.ofNat) = l := by
      intro l hl
      conv => rhs; rw [← List.map_id l]
      apply List.map_congr_left
      intro x hx
      simp only [Function.comp, UInt8.toNat_ofNat', id]
      exact Nat.mod_eq_of_lt (hl x hx)
    rwa [g l hl, g m hm] at this
end Go.Proofs.Ytiailpbmmadaeaa
