/-
  A region that draws its order, whose operations read, and whose calls keep a class of worlds: one walk in the order of the text.
-/
import Derived.Test.YtdkfofogbogkcaaBlk
import Derived.Deep.QuietTactic
import Derived.BigQuiet
namespace Go.Proofs.Ytdkfofogbogkcaa
open Go.RowKit

theorem wp_region_quietC {P : Program} {id : Nat} {Q : Exit → Act → World → Prop} {a : Act} {w : World} {l : List Oper} (C : World → Prop) (hm : P.follows .mixedOrders = true) (hB : Region.lexB .any l.toArray = true) (hC : C w.drew)
    (h : wpQuiet P l.toArray C (fun a' => ∀ w', C w' → Q .normal a' w') l a) : (Code.region id l.toArray true).wp P Q a w :=
  wp_region_quiet (C := C) hm hB hC (by simpa using h)
theorem quietC_nil {P : Program} {ops : Array Oper} {C : World → Prop} {Q : Act → Prop} {a : Act} (l : List Oper) (hl : l.isEmpty = true) (h : Q a) : wpQuiet P ops C Q l a := by
  cases l with
  | nil => exact h
  | cons => cases hl
end Go.Proofs.Ytdkfofogbogkcaa
