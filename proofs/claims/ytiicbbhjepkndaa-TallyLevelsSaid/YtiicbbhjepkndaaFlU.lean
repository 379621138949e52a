/-
  Small words of the device's statements: great, and what lies below.
-/
import Derived.Test.YtiicbbhjepkndaaFl0
namespace Tri
open Go Go.RowKit
theorem great_all {P : Prop} {l : List OpR} {f : OpR → Bool} (h : l.any f = false) : ∀ o ∈ l, f o = false := by
  intro o ho
  cases hf : f o with
  | false => rfl
  | true => rw [List.any_eq_true.2 ⟨o, ho, hf⟩] at h; cases h
end Tri
namespace Go.Proofs.Ytiicbbhjepkndaa
open Go.RowKit Tri

theorem great_len {l : List OpR} (h : greatB l = false) : l.length ≤ 150 ∧ ∀ o ∈ l, o.s.size ≤ 1000 := by
  unfold greatB at h
  rw [Bool.or_eq_false_iff] at h
  refine ⟨by have := of_decide_eq_false h.1; omega, fun o ho => ?_⟩
  have := great_all (P := True) h.2 o ho
  have := of_decide_eq_false this
  omega
theorem Out.belowB {lo hi : Nat} {w0 a w : World} (h : Out lo hi a w) (hb : Below w0.heap.size w0 a) (hlo : w0.heap.size ≤ lo) : Below w0.heap.size w0 w := Out.below h hb hlo
end Go.Proofs.Ytiicbbhjepkndaa
