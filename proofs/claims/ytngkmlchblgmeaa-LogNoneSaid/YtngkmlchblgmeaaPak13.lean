/-
  What is told of an argument, opened: a geometry.
-/
import Derived.Test.YtngkmlchblgmeaaPak7
namespace Go.Proofs.Ytngkmlchblgmeaa
open Go.ChangeShapes Go.WideShapes Go.ChangeAt Go.RowKit Tri
set_option linter.constructorNameAsVariable false in
set_option maxRecDepth 1000000 in
theorem open_geo {H : Type} {enc : TypeId × Value → H} {W : World} {base : Nat} {v : Value} {d : DataW H} {p : List MemPlace} (hagg : (match Try.prog.underlying 39 with | some (.struct _) | some (.array _ _) => true | _ => false) = true)
    (hk : flatOf Try.prog 39 [(3, some (some .i64)), (3, some (some .i64)), (3, some (some .i64))] = true) (hv : Value.okWide Try.prog W .any base 39 v) (h : DataW.Trod enc Try.prog W 0 (fun _ => true) true 39 v d p) :
    ∃ a b c : Int, v = .agg #[.int .i64 a, .int .i64 b, .int .i64 c] ∧ i64ok a ∧ i64ok b ∧ i64ok c := by
  obtain ⟨r, rfl, h1, h2⟩ := open_flatV [(3, some (some .i64)), (3, some (some .i64)), (3, some (some .i64))] hagg hk hv h
  obtain ⟨v0, e0, x0, rfl, w0⟩ := h2 0 _ rfl
  obtain ⟨v1, e1, x1, rfl, w1⟩ := h2 1 _ rfl
  obtain ⟨v2, e2, x2, rfl, w2⟩ := h2 2 _ rfl
  refine ⟨x0, x1, x2, ?_, i64ok_of w0, i64ok_of w1, i64ok_of w2⟩
  match r, h1 with
  | [a, b, c], _ =>
    simp only [List.getElem?_cons_zero, List.getElem?_cons_succ, Option.some.injEq] at e0 e1 e2
    subst e0 e1 e2
    rfl
end Go.Proofs.Ytngkmlchblgmeaa
