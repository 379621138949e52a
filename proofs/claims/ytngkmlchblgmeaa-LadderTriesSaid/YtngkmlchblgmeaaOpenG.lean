/-
  What is told of an argument, opened: any struct or array by value, nested as it may be, cell by cell.
-/
import Derived.Test.YtngkmlchblgmeaaBase
import Derived.ProofKit
import Derived.OpenShut
import Derived.ChangeArms
namespace Go.Proofs.Ytngkmlchblgmeaa
open Go.ChangeShapes Go.WideShapes Go.ChangeAt Go.RowKit

/-- The type of the i-th cell of a value of a type. -/
def leafAt (P : Program) : Nat → TypeId → Nat → Option TypeId
  | 0, _, _ => none
  | f + 1, t, i =>
    match P.underlying t with
    | some (.struct fs) => fs.toList.findSome? fun fd => if fd.offset ≤ i ∧ i < fd.offset + P.cellsOf fd.type then leafAt P f fd.type (i - fd.offset) else none
    | some (.array n e) => if P.cellsOf e ≠ 0 ∧ i / P.cellsOf e < n then leafAt P f e (i % P.cellsOf e) else none
    | some _ => if i = 0 ∧ P.cellsOf t = 1 then some t else none
    | none => none

section
variable {H : Type} {enc : TypeId × Value → H} {P : Program} {w : World} {base : Nat} {spare : Nat → Bool} {held : Bool}
theorem drop_take_one {α : Type} (l : List α) (o s i : Nat) (h1 : o ≤ i) (h2 : i < o + s) : (((l.drop o).take s).drop (i - o)).take 1 = (l.drop i).take 1 := by
  rw [List.drop_take, List.take_take, List.drop_drop]
  congr 1
  · omega
  · congr 1; omega
theorem trod_leaf : ∀ (f : Nat) (t : TypeId) (i : Nat) (e : TypeId), leafAt P f t i = some e → ∀ (fuel : Nat) (cs : List Value) (x : DataW H × List MemPlace), cs.length ≤ P.cellsOf t →
    DataW.trod enc P w base spare held fuel t cs = some x → ∃ m y, DataW.trod enc P w base spare held m e ((cs.drop i).take 1) = some y := by
  intro f
  induction f with
  | zero => intro t i e h; simp [leafAt] at h
  | succ f ih =>
    intro t i e h fuel cs x hlen hx
    unfold leafAt at h
    cases hu : P.underlying t with
    | none => rw [hu] at h; cases h
    | some d =>
      rw [hu] at h
      have hleaf : (if i = 0 ∧ P.cellsOf t = 1 then some t else none) = some e → ∃ m y, DataW.trod enc P w base spare held m e ((cs.drop i).take 1) = some y := by
        intro h9
        split at h9
        · rename_i hi
          obtain ⟨rfl, h1⟩ := hi
          obtain rfl := Option.some.inj h9
          refine ⟨fuel, x, ?_⟩
          rw [List.drop_zero, List.take_of_length_le (by omega)]
          exact hx
        · cases h9
      cases d with
      | struct fs =>
        obtain ⟨xs, n, _, _, hl, _, hf⟩ := DataW.trod_struct hu hx
        obtain ⟨fd, hfd, hr⟩ := List.exists_of_findSome?_eq_some h
        split at hr
        · rename_i ho
          obtain ⟨j, hj⟩ := List.getElem?_of_mem hfd
          have hj' : fs[j]? = some fd := by rw [← Array.getElem?_toList]; exact hj
          have hjx := hf j fd hj'
          have hjl : j < xs.length := by
            have := (List.getElem?_eq_some_iff.1 hj).1
            simp only [Array.length_toList] at this
            omega
          rw [List.getElem?_eq_getElem hjl] at hjx
          obtain ⟨m, y, hm⟩ := ih fd.type (i - fd.offset) e hr n _ _ (List.length_take_le _ _) hjx
          rw [drop_take_one _ _ _ _ ho.1 ho.2] at hm
          exact ⟨m, y, hm⟩
        · cases hr
      | array n e0 =>
        obtain ⟨xs, m0, _, _, hl, hxl, hf⟩ := DataW.trod_array hu hx
        simp only at h
        split at h
        · rename_i ho
          have hjx := hf (i / P.cellsOf e0) ho.2
          rw [List.getElem?_eq_getElem (by omega)] at hjx
          obtain ⟨m, y, hm⟩ := ih e0 (i % P.cellsOf e0) e h m0 _ _ (List.length_take_le _ _) hjx
          have hdm := Nat.div_add_mod i (P.cellsOf e0)
          have hml := Nat.mod_lt i (Nat.pos_of_ne_zero ho.1)
          have e1 : i % P.cellsOf e0 = i - i / P.cellsOf e0 * P.cellsOf e0 := by rw [Nat.mul_comm]; omega
          rw [e1, drop_take_one _ _ _ _ (by rw [Nat.mul_comm]; omega) (by rw [Nat.mul_comm]; omega)] at hm
          exact ⟨m, y, hm⟩
        · cases h
      | _ => exact hleaf h
end
def isIntB (d : Option TypeDesc) (k : IntKind) : Bool := match d with | some (.int k') => decide (k' = k) | _ => false
theorem isIntB_eq {d : Option TypeDesc} {k : IntKind} (h : isIntB d k = true) : d = some (.int k) := by
  unfold isIntB at h
  split at h
  · rw [of_decide_eq_true h]
  · cases h
/-- A value of cells that are told one by one: ints of their kinds. -/
theorem open_agg {H : Type} {enc : TypeId × Value → H} {P : Program} {W : World} {base t : Nat} {v : Value} {d : DataW H} {p : List MemPlace} (ks : List (TypeId × IntKind)) (hagg : (match P.underlying t with | some (.struct _) | some (.array _ _) => true | _ => false) = true)
    (hc : P.cellsOf t = ks.length) (hks : (List.range ks.length).all (fun i => decide (leafAt P 6 t i = (ks[i]?).map (·.1))) = true) (hku : ks.all (fun k => isIntB (P.underlying k.1) k.2) = true)
    (hv : Value.okWide P W .any base t v) (h : DataW.Trod enc P W 0 (fun _ => true) true t v d p) :
    ∃ l : List Int, l.length = ks.length ∧ v = .agg ((List.zipWith (fun k x => Value.int k.2 x) ks l)).toArray ∧ ∀ (i : Nat) (k : TypeId × IntKind) (x : Int), ks[i]? = some k → l[i]? = some x → (Lit.int k.2 x).wf = true := by
  have hv' : ∃ cs, v = Value.agg cs ∧ cs.size = P.cellsOf t ∧ Row.okWide P W .any base t cs := by
    unfold Value.okWide at hv
    split at hagg
    · rename_i hu; rw [hu] at hv; exact hv
    · rename_i hu; rw [hu] at hv; exact hv
    · cases hagg
  obtain ⟨cs, rfl, hsz, -⟩ := hv'
  obtain ⟨fuel, hf⟩ := h
  have hl : (Value.cells (.agg cs)).toList = cs.toList := rfl
  rw [hl] at hf
  have key : ∀ (i : Nat) (k : TypeId × IntKind), ks[i]? = some k → ∃ x : Int, cs.toList[i]? = some (Value.int k.2 x) ∧ (Lit.int k.2 x).wf = true := by
    intro i k hk
    have hi : i < ks.length := (List.getElem?_eq_some_iff.1 hk).1
    have h1 := List.all_eq_true.1 hks i (List.mem_range.2 hi)
    rw [decide_eq_true_eq, hk] at h1
    obtain ⟨m, y, hm⟩ := trod_leaf 6 t i k.1 h1 fuel cs.toList _ (by rw [Array.length_toList]; omega) hf
    have h2 := List.all_eq_true.1 hku k (List.mem_of_getElem? hk)
    obtain ⟨x, e, _, hw⟩ := DataW.trod_int (isIntB_eq h2) hm
    refine ⟨x, ?_, hw⟩
    have hi' : i < cs.toList.length := by rw [Array.length_toList]; omega
    rw [List.drop_eq_getElem_cons hi'] at e
    simp only [List.take_succ_cons, List.take_zero, List.cons.injEq, and_true] at e
    rw [List.getElem?_eq_getElem hi', e]
  obtain ⟨c⟩ := cs
  simp only [List.size_toArray] at hsz
  simp only at key
  clear hf hl hks hku hv hagg
  have hlen : c.length = ks.length := by omega
  clear hsz hc
  induction ks generalizing c with
  | nil => exact ⟨[], rfl, by cases c <;> simp at hlen ⊢, by simp⟩
  | cons k ks ih =>
    cases c with
    | nil => simp at hlen
    | cons u c =>
      obtain ⟨x, hx, hw⟩ := key 0 k rfl
      simp only [List.getElem?_cons_zero, Option.some.injEq] at hx
      subst hx
      obtain ⟨l, h1, h2, h3⟩ := ih c (fun i k' hk' => key (i + 1) k' (by simpa using hk')) (by simpa using hlen)
      refine ⟨x :: l, by simp [h1], ?_, ?_⟩
      · simp only [Value.agg.injEq, Array.mk.injEq] at h2 ⊢
        simp [h2]
      · intro i k' x' hk' hx'
        cases i with
        | zero => simp at hk' hx'; subst hk'; subst hx'; exact hw
        | succ i => simp at hk' hx'; exact h3 i k' x' hk' hx'
/-- What open_agg asks of a type. -/
def aggOf (P : Program) (t : TypeId) (ks : List (TypeId × IntKind)) : Bool :=
  (match P.underlying t with | some (.struct _) | some (.array _ _) => true | _ => false) && (decide (P.cellsOf t = ks.length) && ((List.range ks.length).all (fun i => decide (leafAt P 6 t i = (ks[i]?).map (·.1))) && ks.all (fun k => isIntB (P.underlying k.1) k.2)))
theorem open_aggs {H : Type} {enc : TypeId × Value → H} {P : Program} {W : World} {base t : Nat} {v : Value} {d : DataW H} {p : List MemPlace} (ks : List (TypeId × IntKind)) (hk : aggOf P t ks = true)
    (hv : Value.okWide P W .any base t v) (h : DataW.Trod enc P W 0 (fun _ => true) true t v d p) :
    ∃ l : List Int, l.length = ks.length ∧ v = .agg ((List.zipWith (fun k x => Value.int k.2 x) ks l)).toArray ∧ ∀ (i : Nat) (k : TypeId × IntKind) (x : Int), ks[i]? = some k → l[i]? = some x → (Lit.int k.2 x).wf = true := by
  unfold aggOf at hk
  rw [Bool.and_eq_true, Bool.and_eq_true, Bool.and_eq_true] at hk
  exact open_agg ks hk.1 (of_decide_eq_true hk.2.1) hk.2.2.1 hk.2.2.2 hv h
theorem list4g {l : List Int} (h : l.length = 4) : ∃ a b c d, l = [a, b, c, d] := by
  match l, h with
  | [a, b, c, d], _ => exact ⟨a, b, c, d, rfl⟩
set_option linter.constructorNameAsVariable false in
set_option maxRecDepth 1000000 in
/-- Four ints (a record). -/
theorem open_i4 {H : Type} {enc : TypeId × Value → H} {W : World} {base t : Nat} {v : Value} {d : DataW H} {p : List MemPlace} (hk : aggOf Try.prog t [(3, .i64), (3, .i64), (3, .i64), (3, .i64)] = true)
    (hv : Value.okWide Try.prog W .any base t v) (h : DataW.Trod enc Try.prog W 0 (fun _ => true) true t v d p) :
    ∃ a b c e : Int, v = .agg #[.int .i64 a, .int .i64 b, .int .i64 c, .int .i64 e] ∧ (Lit.int .i64 a).wf = true ∧ (Lit.int .i64 b).wf = true ∧ (Lit.int .i64 c).wf = true ∧ (Lit.int .i64 e).wf = true := by
  have key := open_aggs (P := Try.prog) (t := t) (v := v) (W := W) (base := base) (enc := enc) (d := d) (p := p) _ hk

  have key2 := key hv
  have key3 := key2 h
  obtain ⟨l, hl, rfl, hw⟩ := key3
  obtain ⟨a, b, c, e, rfl⟩ := list4g hl
  have h0 := hw 0 (3, .i64) a; have h1 := hw 1 (3, .i64) b; have h2 := hw 2 (3, .i64) c; have h3 := hw 3 (3, .i64) e
  simp only [List.getElem?_cons_zero, List.getElem?_cons_succ, forall_const] at h0 h1 h2 h3
  exact ⟨a, b, c, e, rfl, h0, h1, h2, h3⟩
theorem list13 {l : List Int} (h : l.length = 13) : ∃ a b c d e f g i j k m n o, l = [a, b, c, d, e, f, g, i, j, k, m, n, o] := by
  match l, h with
  | [a, b, c, d, e, f, g, i, j, k, m, n, o], _ => exact ⟨a, b, c, d, e, f, g, i, j, k, m, n, o, rfl⟩
set_option linter.constructorNameAsVariable false in
set_option maxRecDepth 1000000 in
/-- Thirteen ints (what is known of the slots). -/
theorem open_i13 {H : Type} {enc : TypeId × Value → H} {W : World} {base t : Nat} {v : Value} {d : DataW H} {p : List MemPlace} (hk : aggOf Try.prog t (List.replicate 13 (3, .i64)) = true)
    (hv : Value.okWide Try.prog W .any base t v) (h : DataW.Trod enc Try.prog W 0 (fun _ => true) true t v d p) :
    ∃ a b c d e f g i j k m n o : Int, v = .agg #[.int .i64 a, .int .i64 b, .int .i64 c, .int .i64 d, .int .i64 e, .int .i64 f, .int .i64 g, .int .i64 i, .int .i64 j, .int .i64 k, .int .i64 m, .int .i64 n, .int .i64 o] := by
  obtain ⟨l, hl, rfl, hw⟩ := open_aggs (P := Try.prog) (t := t) (v := v) (W := W) (base := base) (enc := enc) (d := d) (p := p) _ hk hv h
  obtain ⟨a, b, c, d, e, f, g, i, j, k, m, n, o, rfl⟩ := list13 (by simpa using hl)
  exact ⟨a, b, c, d, e, f, g, i, j, k, m, n, o, rfl⟩
end Go.Proofs.Ytngkmlchblgmeaa
