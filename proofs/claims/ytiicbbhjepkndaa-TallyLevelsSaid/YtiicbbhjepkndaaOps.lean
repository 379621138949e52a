/-
  The ops of the device's statements (triptychlaw08.Op) as arguments: a struct by value, and a slice of such.
-/
import Derived.Test.YtiicbbhjepkndaaOpenF
namespace Tri
/-- An op. -/
structure OpR where
  k : Int
  a : Int
  n : Int
  s : ByteArray
  tb : Int
  tm : Nat
def i64ok (x : Int) : Prop := -9223372036854775808 ≤ x ∧ x ≤ 9223372036854775807
def OpR.ok (o : OpR) : Prop := i64ok o.k ∧ i64ok o.a ∧ i64ok o.n ∧ o.s.size ≤ Go.maxLen ∧ i64ok o.tb ∧ o.tm < 256
end Tri
namespace Go.Proofs.Ytiicbbhjepkndaa
open Go.ChangeShapes Go.WideShapes Go.ChangeAt Go.RowKit Tri
def opC (o : OpR) : List Value := [.int .i64 o.k, .int .i64 o.a, .int .i64 o.n, .string o.s, .int .i64 o.tb, .int .u8 (o.tm : Nat)]
def opK : List (TypeId × Option (Option IntKind)) := [(3, some (some .i64)), (3, some (some .i64)), (3, some (some .i64)), (9, some none), (3, some (some .i64)), (5, some (some .u8))]
theorem i64ok_of {x : Int} (h : (Lit.int .i64 x).wf = true) : i64ok x := by
  have := bounds_i64 h
  unfold i64ok
  omega
theorem op_of {r : List Value} (hl : r.length = opK.length) (h : ∀ (i : Nat) (k : TypeId × Option (Option IntKind)), opK[i]? = some k → ∃ v, r[i]? = some v ∧ leafOk k.2 v) : ∃ o : OpR, r = opC o ∧ o.ok := by
  obtain ⟨v0, e0, x0, rfl, w0⟩ := h 0 _ rfl
  obtain ⟨v1, e1, x1, rfl, w1⟩ := h 1 _ rfl
  obtain ⟨v2, e2, x2, rfl, w2⟩ := h 2 _ rfl
  obtain ⟨v3, e3, x3, rfl, w3⟩ := h 3 _ rfl
  obtain ⟨v4, e4, x4, rfl, w4⟩ := h 4 _ rfl
  obtain ⟨v5, e5, x5, rfl, w5⟩ := h 5 _ rfl
  obtain ⟨m, hm, rfl⟩ := u8_of w5
  refine ⟨⟨x0, x1, x2, x3, x4, m⟩, ?_, i64ok_of w0, i64ok_of w1, i64ok_of w2, w3, i64ok_of w4, hm⟩
  match r, hl with
  | [a, b, c, d, e, f], _ =>
    simp only [List.getElem?_cons_zero, List.getElem?_cons_succ, Option.some.injEq] at e0 e1 e2 e3 e4 e5
    subst e0 e1 e2 e3 e4 e5
    rfl
/-- What is told of a slice of ops that came in. -/
def IsOps (w : World) (a : Option Addr) (len cap : Nat) (l : List OpR) : Prop := len = l.length ∧ len ≤ cap ∧ cap ≤ 140737488351232 ∧ cellsG w a 6 (l.map opC) ∧ ∀ o ∈ l, o.ok
theorem ops_of {w : World} {a : Option Addr} {len cap : Nat} {rows : List (List Value)} (h : IsFlat opK w a len cap rows) : ∃ l, IsOps w a len cap l := by
  obtain ⟨h1, h2, h3, h4, h5⟩ := h
  have key : ∀ rows : List (List Value), (∀ r ∈ rows, r.length = opK.length ∧ ∀ (i : Nat) (k : TypeId × Option (Option IntKind)), opK[i]? = some k → ∃ v, r[i]? = some v ∧ leafOk k.2 v) → ∃ l : List OpR, rows = l.map opC ∧ ∀ o ∈ l, o.ok := by
    intro rows
    induction rows with
    | nil => intro _; exact ⟨[], rfl, by simp⟩
    | cons r rows ih =>
      intro h
      obtain ⟨l, e, hl⟩ := ih (fun r' hr => h r' (List.mem_cons_of_mem _ hr))
      obtain ⟨o, e2, ho⟩ := op_of (h r (List.mem_cons_self ..)).1 (h r (List.mem_cons_self ..)).2
      refine ⟨o :: l, by rw [List.map_cons, e, e2], ?_⟩
      intro o' ho'
      rcases List.mem_cons.1 ho' with rfl | h
      · exact ho
      · exact hl o' h
  obtain ⟨l, rfl, hl⟩ := key rows h5
  rw [List.length_map] at h1
  exact ⟨l, h1, h2, h3, h4, hl⟩
set_option linter.constructorNameAsVariable false in
set_option maxRecDepth 1000000 in
theorem open_ops {H : Type} {enc : TypeId × Value → H} {W : World} {base t j len cap : Nat} {a : Option Addr} {d : DataW H} {p : List MemPlace} {ts : List TypeId} {ds : List (DataW H)}
    (hsz : (DataW.weightsEach Try.prog ts ds).all (· ≤ reachBytes) = true) (ht : ts[j]? = some t) (hd : ds[j]? = some d)
    (hu : Try.prog.underlying t = some (.slice 42)) (hk : flatOf Try.prog 42 opK = true) (hb : Try.prog.bytesOf 42 = 56)
    (h : DataW.Trod enc Try.prog W base (fun _ => true) true t (.slice a len cap) d p) : ∃ l, IsOps W a len cap l := by
  obtain ⟨rows, hr⟩ := open_flat opK hsz ht hd hu hk hb (by omega) (by decide) h
  exact ops_of hr
set_option linter.constructorNameAsVariable false in
set_option maxRecDepth 1000000 in
theorem open_op {H : Type} {enc : TypeId × Value → H} {W : World} {base : Nat} {v : Value} {d : DataW H} {p : List MemPlace} (hagg : (match Try.prog.underlying 42 with | some (.struct _) | some (.array _ _) => true | _ => false) = true)
    (hk : flatOf Try.prog 42 opK = true) (hv : Value.okWide Try.prog W .any base 42 v) (h : DataW.Trod enc Try.prog W 0 (fun _ => true) true 42 v d p) :
    ∃ o : OpR, v = .agg (opC o).toArray ∧ o.ok := by
  obtain ⟨r, rfl, h1, h2⟩ := open_flatV opK hagg hk hv h
  obtain ⟨o, rfl, ho⟩ := op_of h1 h2
  exact ⟨o, rfl, ho⟩
set_option linter.constructorNameAsVariable false in
set_option maxRecDepth 1000000 in
theorem open_torn {H : Type} {enc : TypeId × Value → H} {W : World} {base : Nat} {v : Value} {d : DataW H} {p : List MemPlace} (hagg : (match Try.prog.underlying 23 with | some (.struct _) | some (.array _ _) => true | _ => false) = true)
    (hk : flatOf Try.prog 23 [(3, some (some .i64)), (5, some (some .u8))] = true) (hv : Value.okWide Try.prog W .any base 23 v) (h : DataW.Trod enc Try.prog W 0 (fun _ => true) true 23 v d p) :
    ∃ (k : Int) (m : Nat), v = .agg #[.int .i64 k, .int .u8 (m : Nat)] ∧ i64ok k ∧ m < 256 := by
  obtain ⟨r, rfl, h1, h2⟩ := open_flatV [(3, some (some .i64)), (5, some (some .u8))] hagg hk hv h
  obtain ⟨v0, e0, x0, rfl, w0⟩ := h2 0 _ rfl
  obtain ⟨v1, e1, x1, rfl, w1⟩ := h2 1 _ rfl
  obtain ⟨m, hm, rfl⟩ := u8_of w1
  refine ⟨x0, m, ?_, i64ok_of w0, hm⟩
  match r, h1 with
  | [a, b], _ =>
    simp only [List.getElem?_cons_zero, List.getElem?_cons_succ, Option.some.injEq] at e0 e1
    subst e0 e1
    rfl
end Go.Proofs.Ytiicbbhjepkndaa
