/-
  A slice of records that came in.
-/
import Derived.Test.YtngkmlchblgmeaaOpenF
namespace Tri
/-- A record: kind, slot, number, value. -/
structure RecI where
  k : Int
  s : Int
  n : Int
  v : Int
end Tri
namespace Go.Proofs.Ytngkmlchblgmeaa
open Go.ChangeShapes Go.WideShapes Go.ChangeAt Go.RowKit Tri
def rcC (o : RecI) : List Value := [.int .i64 o.k, .int .i64 o.s, .int .i64 o.n, .int .i64 o.v]
def rcK : List (TypeId × Option (Option IntKind)) := [(3, some (some .i64)), (3, some (some .i64)), (3, some (some .i64)), (3, some (some .i64))]
def RecI.ok (o : RecI) : Prop := (Lit.int .i64 o.k).wf = true ∧ (Lit.int .i64 o.s).wf = true ∧ (Lit.int .i64 o.n).wf = true ∧ (Lit.int .i64 o.v).wf = true
theorem rc_of {r : List Value} (hl : r.length = rcK.length) (h : ∀ (i : Nat) (k : TypeId × Option (Option IntKind)), rcK[i]? = some k → ∃ v, r[i]? = some v ∧ leafOk k.2 v) : ∃ o : RecI, r = rcC o ∧ RecI.ok o := by
  obtain ⟨v0, e0, x0, rfl, w0⟩ := h 0 _ rfl
  obtain ⟨v1, e1, x1, rfl, w1⟩ := h 1 _ rfl
  obtain ⟨v2, e2, x2, rfl, w2⟩ := h 2 _ rfl
  obtain ⟨v3, e3, x3, rfl, w3⟩ := h 3 _ rfl
  refine ⟨⟨x0, x1, x2, x3⟩, ?_, w0, w1, w2, w3⟩
  match r, hl with
  | [a, b, c, d], _ =>
    simp only [List.getElem?_cons_zero, List.getElem?_cons_succ, Option.some.injEq] at e0 e1 e2 e3
    subst e0 e1 e2 e3
    rfl
/-- What is told of a slice of records that came in. -/
def IsRecs (w : World) (a : Option Addr) (len cap : Nat) (l : List RecI) : Prop := len = l.length ∧ len ≤ cap ∧ cap ≤ 140737488351232 ∧ cellsG w a 4 (l.map rcC) ∧ ∀ o ∈ l, RecI.ok o
theorem recs_of {w : World} {a : Option Addr} {len cap : Nat} {rows : List (List Value)} (h : IsFlat rcK w a len cap rows) : ∃ l, IsRecs w a len cap l := by
  obtain ⟨h1, h2, h3, h4, h5⟩ := h
  have key : ∀ rows : List (List Value), (∀ r ∈ rows, r.length = rcK.length ∧ ∀ (i : Nat) (k : TypeId × Option (Option IntKind)), rcK[i]? = some k → ∃ v, r[i]? = some v ∧ leafOk k.2 v) → ∃ l : List RecI, rows = l.map rcC ∧ ∀ o ∈ l, RecI.ok o := by
    intro rows
    induction rows with
    | nil => intro _; exact ⟨[], rfl, by simp⟩
    | cons r rows ih =>
      intro h
      obtain ⟨l, e, hl⟩ := ih (fun r' hr => h r' (List.mem_cons_of_mem _ hr))
      obtain ⟨o, e2, ho⟩ := rc_of (h r (List.mem_cons_self ..)).1 (h r (List.mem_cons_self ..)).2
      refine ⟨o :: l, by rw [List.map_cons, e, e2], ?_⟩
      intro o' ho'
      rcases List.mem_cons.1 ho' with rfl | h
      · exact ho
      · exact hl o' h
  obtain ⟨l, rfl, hl⟩ := key rows h5
  rw [List.length_map] at h1
  exact ⟨l, h1, h2, h3, h4, hl⟩
set_option linter.constructorNameAsVariable false in
set_option maxRecDepth 1000000 in
theorem open_recs {H : Type} {enc : TypeId × Value → H} {W : World} {base t j len cap : Nat} {a : Option Addr} {d : DataW H} {p : List MemPlace} {ts : List TypeId} {ds : List (DataW H)}
    (hsz : (DataW.weightsEach Try.prog ts ds).all (· ≤ reachBytes) = true) (ht : ts[j]? = some t) (hd : ds[j]? = some d)
    (hu : Try.prog.underlying t = some (.slice 37)) (hk : flatOf Try.prog 37 rcK = true) (hb : Try.prog.bytesOf 37 = 32)
    (h : DataW.Trod enc Try.prog W base (fun _ => true) true t (.slice a len cap) d p) : ∃ l, IsRecs W a len cap l := by
  obtain ⟨rows, hr⟩ := open_flat rcK hsz ht hd hu hk hb (by omega) (by decide) h
  exact recs_of hr
/-- One record's cells. -/
theorem recs_at {w : World} {a : Option Addr} {l : List RecI} (h : cellsG w a 4 (l.map rcC)) (k : Nat) (hk : k < l.length) : ∃ b o, a = some ⟨b, o, none⟩ ∧
    w.cell? ⟨b, o + k * 4, none⟩ = some (.int .i64 l[k].k) ∧ w.cell? ⟨b, o + k * 4 + 1, none⟩ = some (.int .i64 l[k].s) ∧ w.cell? ⟨b, o + k * 4 + 2, none⟩ = some (.int .i64 l[k].n) ∧ w.cell? ⟨b, o + k * 4 + 3, none⟩ = some (.int .i64 l[k].v) := by
  obtain ⟨b, o, e, hc⟩ := h k (by rw [List.length_map]; exact hk)
  have hg : (l.map rcC).getD k [] = rcC l[k] := by rw [List.getD_eq_getElem?_getD, List.getElem?_map, List.getElem?_eq_getElem hk]; rfl
  rw [hg] at hc
  exact ⟨b, o, e, hc 0 _ rfl, hc 1 _ rfl, hc 2 _ rfl, hc 3 _ rfl⟩
end Go.Proofs.Ytngkmlchblgmeaa
