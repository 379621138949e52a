/-
  What is told of an argument, opened: arrays of ints by value.
-/
import Derived.Test.YtngkmlchblgmeaaBase
import Derived.ProofKit
import Derived.OpenShut
namespace Go.Proofs.Ytngkmlchblgmeaa
open Go.ChangeShapes Go.WideShapes Go.ChangeAt Go.RowKit

set_option linter.constructorNameAsVariable false in
theorem open_intarr {H : Type} {enc : TypeId × Value → H} {W : World} {base t n : Nat} {v : Value} {d : DataW H} {p : List MemPlace} (ht : Try.prog.underlying t = some (.array n 3)) (hc : Try.prog.cellsOf t = n)
    (hv : Value.okWide Try.prog W .any base t v) (h : DataW.Trod enc Try.prog W 0 (fun _ => true) true t v d p) :
    ∃ l : List Int, l.length = n ∧ v = .agg (l.map (Value.int .i64)).toArray ∧ ∀ x ∈ l, (Lit.int .i64 x).wf = true := by
  have hv' : ∃ cs, v = Value.agg cs ∧ cs.size = Try.prog.cellsOf t ∧ Row.okWide Try.prog W .any base t cs := by
    unfold Value.okWide at hv; rw [ht] at hv; exact hv
  obtain ⟨cs, rfl, hsz, -⟩ := hv'
  obtain ⟨fuel, hf⟩ := h
  obtain ⟨xs, m, _, _, hlen, hxl, hat⟩ := DataW.trod_array ht hf
  have hce : Try.prog.cellsOf 3 = 1 := by kernel_rfl
  have hcs : ∀ i, (h : i < cs.size) → ∃ x : Int, cs[i] = .int .i64 x ∧ (Lit.int .i64 x).wf = true := by
    intro i hi
    have hin : i < n := by omega
    have h1 := hat i hin
    rw [hce, Nat.mul_one] at h1
    have hl : (Value.cells (.agg cs)).toList = cs.toList := rfl
    rw [hl] at h1
    have hdt : (cs.toList.drop i).take 1 = [cs[i]] := by
      rw [List.drop_eq_getElem_cons (by simpa using hi)]
      simp
    rw [hdt, List.getElem?_eq_getElem (by omega)] at h1
    obtain ⟨x, e, _, hw⟩ := DataW.trod_int Try.underlying3 h1
    simp only [List.cons.injEq, and_true] at e
    exact ⟨x, e, hw⟩
  obtain ⟨l, hl⟩ : ∃ l : List Int, cs.toList = l.map (Value.int .i64) ∧ ∀ x ∈ l, (Lit.int .i64 x).wf = true := by
    obtain ⟨c⟩ := cs
    simp only at hcs ⊢
    clear hf hat hv hlen hsz
    induction c with
    | nil => exact ⟨[], rfl, by simp⟩
    | cons a c ih =>
      obtain ⟨x, e, hw⟩ := hcs 0 (by simp)
      obtain ⟨l, hl, hlw⟩ := ih (fun i hi => by have := hcs (i + 1) (by simp at hi ⊢; omega); simpa using this)
      refine ⟨x :: l, ?_, ?_⟩
      · simp at e; simp [e, hl]
      · intro y hy
        rcases List.mem_cons.1 hy with rfl | hy
        · exact hw
        · exact hlw y hy
  refine ⟨l, ?_, ?_, hl.2⟩
  · have := congrArg List.length hl.1
    simp at this
    omega
  · rw [← hl.1]
theorem list3i {l : List Int} (h : l.length = 3) : ∃ a b c, l = [a, b, c] := by
  match l, h with
  | [a, b, c], _ => exact ⟨a, b, c, rfl⟩
end Go.Proofs.Ytngkmlchblgmeaa
