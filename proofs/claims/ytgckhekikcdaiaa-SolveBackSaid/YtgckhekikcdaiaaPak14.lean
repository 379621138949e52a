/-
  What is told of an argument, opened: structs of ints, bools and texts by value, and slices of such, cell by cell.
  What is told of an argument, opened: structs of slices by value (Word, Spoilt of chapter 07).
  Own rows of ints of either sign; append of one.
  SolveAgain, walked: what is mended is right, and mended again it stays, with the same places erased in any order.
  The document's elimination in plain Lean: rows of a code's values at some places; it ends with just the word that is right and differs at these places alone. No program in sight.
-/
import Derived.Test.YtgckhekikcdaiaaPak13
import Derived.Test.YtgckhekikcdaiaaPak11
import Derived.Test.YtgckhekikcdaiaaPak4
import Derived.Test.YtgckhekikcdaiaaPak8
import Derived.Test.YtgckhekikcdaiaaPak12
namespace Go.Proofs.Ytgckhekikcdaiaa
open Go.ChangeShapes Go.WideShapes Go.ChangeAt Go.RowKit

/-- What a cell may be: an int of a kind, a text, or a bool. -/
def leafOk : Option (Option IntKind) → Value → Prop
  | some (some k), v => ∃ x, v = .int k x ∧ (Lit.int k x).wf = true
  | some none, v => ∃ s : ByteArray, v = .string s ∧ s.size ≤ maxLen
  | none, v => ∃ b : Bool, v = .bool b
def isLeafB (d : Option TypeDesc) : Option (Option IntKind) → Bool
  | some (some k) => isIntB d k
  | some none => match d with | some .string => true | _ => false
  | none => match d with | some .bool => true | _ => false
/-- What the openers ask of a type. -/
def flatOf (P : Program) (t : TypeId) (ks : List (TypeId × Option (Option IntKind))) : Bool :=
  decide (P.cellsOf t = ks.length) && ((List.range ks.length).all (fun i => decide (leafAt P 6 t i = (ks[i]?).map (·.1))) && ks.all (fun k => isLeafB (P.underlying k.1) k.2))
section
variable {H : Type} {enc : TypeId × Value → H} {P : Program} {w : World} {base : Nat} {spare : Nat → Bool} {held : Bool}
theorem leaf_of {t : TypeId} {k : Option (Option IntKind)} {v : Value} {fuel : Nat} {x : DataW H × List MemPlace} (hl : isLeafB (P.underlying t) k = true) (h : DataW.trod enc P w base spare held fuel t [v] = some x) : leafOk k v := by
  match k, hl with
  | some (some k), hl =>
    obtain ⟨x, e, _, hw⟩ := DataW.trod_int (isIntB_eq hl) h
    simp only [List.cons.injEq, and_true] at e
    exact ⟨x, e, hw⟩
  | some none, hl =>
    have hu : P.underlying t = some .string := by
      simp only [isLeafB] at hl
      split at hl
      · rename_i h; exact h
      · cases hl
    obtain ⟨s, e, _, hs⟩ := DataW.trod_string hu h
    simp only [List.cons.injEq, and_true] at e
    exact ⟨s, e, hs⟩
  | none, hl =>
    have hu : P.underlying t = some .bool := by
      simp only [isLeafB] at hl
      split at hl
      · rename_i h; exact h
      · cases hl
    obtain ⟨b, e, _⟩ := DataW.trod_bool hu h
    simp only [List.cons.injEq, and_true] at e
    exact ⟨b, e⟩
theorem flat_row {t : TypeId} {ks : List (TypeId × Option (Option IntKind))} {fuel : Nat} {cs : List Value} {x : DataW H × List MemPlace} (hk : flatOf P t ks = true) (hlen : cs.length = P.cellsOf t)
    (h : DataW.trod enc P w base spare held fuel t cs = some x) : cs.length = ks.length ∧ ∀ (i : Nat) (k : TypeId × Option (Option IntKind)), ks[i]? = some k → ∃ v, cs[i]? = some v ∧ leafOk k.2 v := by
  unfold flatOf at hk
  rw [Bool.and_eq_true, Bool.and_eq_true, decide_eq_true_eq] at hk
  obtain ⟨h1, h2, h3⟩ := hk
  refine ⟨by omega, fun i k hki => ?_⟩
  have hi : i < ks.length := (List.getElem?_eq_some_iff.1 hki).1
  have h4 := List.all_eq_true.1 h2 i (List.mem_range.2 hi)
  rw [decide_eq_true_eq, hki] at h4
  obtain ⟨m, y, hm⟩ := trod_leaf 6 t i k.1 h4 fuel cs _ (by omega) h
  have hi' : i < cs.length := by omega
  rw [List.drop_eq_getElem_cons hi'] at hm
  simp only [List.take_succ_cons, List.take_zero] at hm
  exact ⟨cs[i], List.getElem?_eq_getElem hi', leaf_of (List.all_eq_true.1 h3 k (List.mem_of_getElem? hki)) hm⟩
end
/-- The cells of a slice of structs, row by row. -/
def cellsG (w : World) (a : Option Addr) (k : Nat) (rows : List (List Value)) : Prop :=
  ∀ i, i < rows.length → ∃ b o, a = some ⟨b, o, none⟩ ∧ ∀ j v, (rows.getD i [])[j]? = some v → w.cell? ⟨b, o + i * k + j, none⟩ = some v
theorem cellsG.below {w w' : World} {p : Option Addr} {k : Nat} {l : List (List Value)} (h : cellsG w p k l) (hb : Below w.heap.size w w') : cellsG w' p k l := by
  intro i hi
  obtain ⟨b, o, e, hc⟩ := h i hi
  exact ⟨b, o, e, fun j v hv => by rw [hb.cell (p := ⟨b, o + i * k + j, none⟩) (block_lt_of_cell (hc j v hv))]; exact hc j v hv⟩
/-- What is told of a slice of structs that came in. -/
def IsFlat (ks : List (TypeId × Option (Option IntKind))) (w : World) (a : Option Addr) (len cap : Nat) (rows : List (List Value)) : Prop :=
  len = rows.length ∧ len ≤ cap ∧ cap ≤ 140737488351232 ∧ cellsG w a ks.length rows ∧ ∀ r ∈ rows, r.length = ks.length ∧ ∀ (i : Nat) (k : TypeId × Option (Option IntKind)), ks[i]? = some k → ∃ v, r[i]? = some v ∧ leafOk k.2 v

theorem open_flat {H : Type} {enc : TypeId × Value → H} {W : World} {base t e j len cap bs : Nat} {a : Option Addr} {d : DataW H} {p : List MemPlace} {ts : List TypeId} {ds : List (DataW H)} (ks : List (TypeId × Option (Option IntKind)))
    (hsz : (DataW.weightsEach Try.prog ts ds).all (· ≤ reachBytes) = true) (ht : ts[j]? = some t) (hd : ds[j]? = some d)
    (hu : Try.prog.underlying t = some (.slice e)) (hk : flatOf Try.prog e ks = true) (hb : Try.prog.bytesOf e = bs) (hb0 : 0 < bs) (hk0 : 0 < ks.length)
    (h : DataW.Trod enc Try.prog W base (fun _ => true) true t (.slice a len cap) d p) : ∃ rows, IsFlat ks W a len cap rows := by
  obtain ⟨fuel, hf⟩ := h
  rcases DataW.trod_slice hu hf with ⟨hcs, _⟩ | ⟨x, l, c, elems, rest, n, _, hcs, hx, hbb, hl, hm, hlen, hel, hsp, _⟩
  · simp [Value.cells] at hcs
    obtain ⟨rfl, rfl, rfl⟩ := hcs
    exact ⟨[], rfl, Nat.le_refl _, by omega, fun i hi => by simp at hi, by simp⟩
  · simp [Value.cells] at hcs
    obtain ⟨rfl, rfl, rfl⟩ := hcs
    simp only [Prod.mk.injEq] at hx
    obtain ⟨rfl, -⟩ := hx
    have h1 := sized_slice hsz ht hd hu
    simp only [List.length_map, hb, reachBytes] at h1
    have hr := (hsp rfl).1
    have hcap : cap ≤ 140737488351232 := by
      have h2 : cap * 1 ≤ (elems.length + rest.length) * bs := Nat.mul_le_mul (by omega) hb0
      omega
    have each : ∀ i, ∃ row : List Value, i < len → (row.length = ks.length ∧ (∀ (q : Nat) (k : TypeId × Option (Option IntKind)), ks[q]? = some k → ∃ v, row[q]? = some v ∧ leafOk k.2 v) ∧ ∀ q v, row[q]? = some v → W.cell? ((x.add (i * ks.length)).add q) = some v) := by
      intro i
      by_cases hi : i < len
      · have h2 := hel i hi
        have hcl : Try.prog.cellsOf e = ks.length := by unfold flatOf at hk; rw [Bool.and_eq_true, decide_eq_true_eq] at hk; exact hk.1
        rw [List.getElem?_eq_getElem (by omega)] at h2
        obtain ⟨cs', hcs', hy⟩ := Option.bind_eq_some_iff.1 h2
        have h5 := World.cells?_some hcs'
        obtain ⟨r1, r2⟩ := flat_row hk h5.2.1 hy
        refine ⟨cs', fun _ => ⟨r1, r2, fun q v hv => ?_⟩⟩
        have hq : q < cs'.length := (List.getElem?_eq_some_iff.1 hv).1
        rw [← hcl, h5.2.2 q (by omega), hv]
      · exact ⟨[], fun h => absurd h hi⟩
    obtain ⟨f, hf'⟩ := Classical.axiomOfChoice each
    refine ⟨(List.range len).map f, by simp, hl, hcap, ?_, ?_⟩
    · intro i hi
      rw [List.length_map, List.length_range] at hi
      have hgi : ((List.range len).map f).getD i [] = f i := by
        rw [List.getD_eq_getElem?_getD, List.getElem?_map, List.getElem?_range hi]; rfl
      obtain ⟨r1, r2, r3⟩ := hf' i hi
      have hs : x.spot = none := by
        obtain ⟨q1, q2, q3⟩ := hf' 0 (by omega)
        have c0 := q3 0 _ (List.getElem?_eq_getElem (by omega))
        have := World.cell?_spot c0
        obtain ⟨xb, xo, xs⟩ := x
        simpa [Addr.add] using this
      obtain ⟨xb, xo, xs⟩ := x
      simp only at hs
      subst hs
      refine ⟨xb, xo, rfl, fun q v hv => ?_⟩
      rw [hgi] at hv
      have := r3 q v hv
      rwa [add_plain, add_plain] at this
    · intro r hr'
      obtain ⟨i, hi, rfl⟩ := List.mem_map.1 hr'
      rw [List.mem_range] at hi
      exact ⟨(hf' i hi).1, (hf' i hi).2.1⟩
/-- A struct by value. -/
theorem open_flatV {H : Type} {enc : TypeId × Value → H} {P : Program} {W : World} {base t : Nat} {v : Value} {d : DataW H} {p : List MemPlace} (ks : List (TypeId × Option (Option IntKind))) (hagg : (match P.underlying t with | some (.struct _) | some (.array _ _) => true | _ => false) = true)
    (hk : flatOf P t ks = true) (hv : Value.okWide P W .any base t v) (h : DataW.Trod enc P W 0 (fun _ => true) true t v d p) :
    ∃ r : List Value, v = .agg r.toArray ∧ r.length = ks.length ∧ ∀ (i : Nat) (k : TypeId × Option (Option IntKind)), ks[i]? = some k → ∃ v, r[i]? = some v ∧ leafOk k.2 v := by
  have hv' : ∃ cs, v = Value.agg cs ∧ cs.size = P.cellsOf t ∧ Row.okWide P W .any base t cs := by
    unfold Value.okWide at hv
    split at hagg
    · rename_i hu; rw [hu] at hv; exact hv
    · rename_i hu; rw [hu] at hv; exact hv
    · cases hagg
  obtain ⟨cs, rfl, hsz, -⟩ := hv'
  obtain ⟨fuel, hf⟩ := h
  have hl : (Value.cells (.agg cs)).toList = cs.toList := rfl
  rw [hl] at hf
  obtain ⟨r1, r2⟩ := flat_row hk (by rw [Array.length_toList]; exact hsz) hf
  exact ⟨cs.toList, by simp, r1, r2⟩
end Go.Proofs.Ytgckhekikcdaiaa

namespace Go.Proofs.Ytgckhekikcdaiaa
open Go.ChangeShapes Go.WideShapes Go.ChangeAt Go.RowKit

section
variable {H : Type} {enc : TypeId × Value → H} {W : World} {base : Nat}
/-- What is weighed of a part. -/
def inReach (P : Program) (t : TypeId) (d : DataW H) : Prop := ∀ n ∈ d.weights P t, n ≤ reachBytes
theorem reach_arg {P : Program} {ts : List TypeId} {ds : List (DataW H)} {j : Nat} {t : TypeId} {d : DataW H} (hsz : (DataW.weightsEach P ts ds).all (· ≤ reachBytes) = true) (ht : ts[j]? = some t) (hd : ds[j]? = some d) : inReach P t d :=
  fun _ hn => of_decide_eq_true (List.all_eq_true.1 hsz _ (DataW.weights_mem_each ht hd _ hn))
theorem reach_field {P : Program} {t : TypeId} {fs : Array Field} (hu : P.underlying t = some (.struct fs)) {xs : List (DataW H × List MemPlace)} (h : inReach P t (.agg (xs.map (·.1)) : DataW H)) {i : Nat} {f : Field} {x : DataW H × List MemPlace} (hf : fs[i]? = some f) (hx : xs[i]? = some x) : inReach P f.type x.1 := by
  intro n hn
  refine h n ?_
  simp only [DataW.weights, hu]
  exact DataW.weights_mem_each (j := i) (by rw [List.getElem?_map, Array.getElem?_toList, hf]; rfl) (by rw [List.getElem?_map, hx]; rfl) n hn
theorem reach_all {P : Program} {t : TypeId} {d : DataW H} (h : inReach P t d) : (DataW.weightsEach P [t] [d]).all (· ≤ reachBytes) = true := by
  simp only [DataW.weightsEach, List.append_nil]
  rw [List.all_eq_true]
  intro n hn
  exact decide_eq_true (h n hn)
theorem slice_of_trod {P : Program} {t e : TypeId} {fuel : Nat} {spare : Nat → Bool} {v : Value} {y : DataW H × List MemPlace} (hu : P.underlying t = some (.slice e)) (h : DataW.trod enc P W base spare true fuel t [v] = some y) : ∃ a l c, v = .slice a l c := by
  rcases DataW.trod_slice hu h with ⟨hcs, _⟩ | ⟨x, l, c, elems, rest, n, _, hcs, _⟩
  · simp only [List.cons.injEq, and_true] at hcs
    exact ⟨_, _, _, hcs⟩
  · simp only [List.cons.injEq, and_true] at hcs
    exact ⟨_, _, _, hcs⟩
theorem bytes_in {t e : TypeId} {fuel : Nat} {v : Value} {y : DataW H × List MemPlace} (hr : inReach Try.prog t y.1) (hu : Try.prog.underlying t = some (.slice e)) (he : Try.prog.underlying e = some (.int .u8)) (hc : Try.prog.cellsOf e = 1) (hb : Try.prog.bytesOf e = 1)
    (h : DataW.trod enc Try.prog W base (fun _ => true) true fuel t [v] = some y) : ∃ a l c zs, v = .slice a l c ∧ IsBytes W a l c zs := by
  obtain ⟨a, l, c, rfl⟩ := slice_of_trod hu h
  obtain ⟨zs, hz⟩ := open_bytes (j := 0) (reach_all hr) rfl rfl hu he hc hb (⟨fuel, h⟩ : DataW.Trod enc Try.prog W base (fun _ => true) true t (.slice a l c) y.1 y.2)
  exact ⟨a, l, c, zs, rfl, hz⟩
theorem ints_in {t e : TypeId} {fuel : Nat} {v : Value} {y : DataW H × List MemPlace} (hr : inReach Try.prog t y.1) (hu : Try.prog.underlying t = some (.slice e)) (he : Try.prog.underlying e = some (.int .i64)) (hc : Try.prog.cellsOf e = 1) (hb : Try.prog.bytesOf e = 8)
    (h : DataW.trod enc Try.prog W base (fun _ => true) true fuel t [v] = some y) : ∃ a l c zs, v = .slice a l c ∧ IsInts W a l c zs := by
  obtain ⟨a, l, c, rfl⟩ := slice_of_trod hu h
  obtain ⟨zs, hz⟩ := open_intsZ (j := 0) (reach_all hr) rfl rfl hu he hc hb (⟨fuel, h⟩ : DataW.Trod enc Try.prog W base (fun _ => true) true t (.slice a l c) y.1 y.2)
  exact ⟨a, l, c, zs, rfl, hz⟩
theorem flat_in {t e bs : Nat} {fuel : Nat} {v : Value} {y : DataW H × List MemPlace} (ks : List (TypeId × Option (Option IntKind))) (hr : inReach Try.prog t y.1) (hu : Try.prog.underlying t = some (.slice e)) (hk : flatOf Try.prog e ks = true) (hb : Try.prog.bytesOf e = bs) (hb0 : 0 < bs) (hk0 : 0 < ks.length)
    (h : DataW.trod enc Try.prog W base (fun _ => true) true fuel t [v] = some y) : ∃ a l c rows, v = .slice a l c ∧ IsFlat ks W a l c rows := by
  obtain ⟨a, l, c, rfl⟩ := slice_of_trod hu h
  obtain ⟨zs, hz⟩ := open_flat (j := 0) ks (reach_all hr) rfl rfl hu hk hb hb0 hk0 (⟨fuel, h⟩ : DataW.Trod enc Try.prog W base (fun _ => true) true t (.slice a l c) y.1 y.2)
  exact ⟨a, l, c, zs, rfl, hz⟩
end
set_option linter.constructorNameAsVariable false in
set_option maxRecDepth 100000 in
/-- A struct of one slice of bytes and one of whole numbers. -/
theorem open_word {H : Type} {enc : TypeId × Value → H} {W : World} {base t b u eb eu j : Nat} {v : Value} {d : DataW H} {p : List MemPlace} {ts : List TypeId} {ds : List (DataW H)} {f0 f1 : Field}
    (hsz : (DataW.weightsEach Try.prog ts ds).all (· ≤ reachBytes) = true) (ht : ts[j]? = some t) (hd : ds[j]? = some d)
    (hs : Try.prog.underlying t = some (.struct #[f0, f1])) (hf0 : f0.type = b ∧ f0.offset = 0) (hf1 : f1.type = u ∧ f1.offset = 1) (hcb : Try.prog.cellsOf b = 1) (hcu : Try.prog.cellsOf u = 1) (hct : Try.prog.cellsOf t = 2)
    (hub : Try.prog.underlying b = some (.slice eb)) (heb : Try.prog.underlying eb = some (.int .u8)) (hceb : Try.prog.cellsOf eb = 1) (hbeb : Try.prog.bytesOf eb = 1)
    (huu : Try.prog.underlying u = some (.slice eu)) (heu : Try.prog.underlying eu = some (.int .i64)) (hceu : Try.prog.cellsOf eu = 1) (hbeu : Try.prog.bytesOf eu = 8)
    (hv : Value.okWide Try.prog W .any base t v) (h : DataW.Trod enc Try.prog W 0 (fun _ => true) true t v d p) :
    ∃ a l c zs a' l' c' zs', v = .agg #[.slice a l c, .slice a' l' c'] ∧ IsBytes W a l c zs ∧ IsInts W a' l' c' zs' := by
  have hv' : ∃ cs, v = Value.agg cs ∧ cs.size = Try.prog.cellsOf t ∧ Row.okWide Try.prog W .any base t cs := by
    unfold Value.okWide at hv; rw [hs] at hv; exact hv
  obtain ⟨cs, rfl, hsz2, -⟩ := hv'
  obtain ⟨fuel, hf⟩ := h
  have hl : (Value.cells (.agg cs)).toList = cs.toList := rfl
  rw [hl] at hf
  rw [hct] at hsz2
  obtain ⟨c⟩ := cs
  match c, hsz2 with
  | [v0, v1], _ =>
    have hr := reach_arg hsz ht hd
    obtain ⟨xs, n, _, hx, _, hxl, hat⟩ := DataW.trod_struct hs hf
    simp only [Prod.mk.injEq] at hx
    obtain ⟨rfl, -⟩ := hx
    obtain ⟨h0t, h0o⟩ := hf0
    obtain ⟨h1t, h1o⟩ := hf1
    have hl0 : 0 < xs.length := by rw [hxl]; simp
    have hl1 : 1 < xs.length := by rw [hxl]; simp
    have e0 := hat 0 f0 rfl
    have e1 := hat 1 f1 rfl
    have r0 := reach_field hs hr (i := 0) (f := f0) rfl (List.getElem?_eq_getElem hl0)
    have r1 := reach_field hs hr (i := 1) (f := f1) rfl (List.getElem?_eq_getElem hl1)
    rw [h0t, h0o, hcb, List.getElem?_eq_getElem hl0] at e0
    rw [h1t, h1o, hcu, List.getElem?_eq_getElem hl1] at e1
    rw [h0t] at r0
    rw [h1t] at r1
    obtain ⟨a, l, c, zs, rfl, w0⟩ := bytes_in r0 hub heb hceb hbeb e0
    obtain ⟨a', l', c', zs', rfl, w1⟩ := ints_in r1 huu heu hceu hbeu e1
    exact ⟨a, l, c, zs, a', l', c', zs', rfl, w0, w1⟩
end Go.Proofs.Ytgckhekikcdaiaa

namespace Go.Proofs.Ytgckhekikcdaiaa
open Go.RowKit

def rowZ (w : World) (base : Nat) (v : Value) (l : List Int) : Prop := w.ownsRow base 3 1 v l.length (l.map fun x => Value.int .i64 x)
theorem rowZ.cells {w : World} {base : Nat} {v : Value} {l : List Int} (h : rowZ w base v l) : ∃ p c, v = .slice p l.length c ∧ l.length ≤ c ∧ cellsZ w p l := by
  have h' := h
  unfold rowZ at h'
  rcases h.2 with ⟨rfl, h0⟩ | ⟨g, cap, cur, rfl, _, _, hle, _, _, _⟩
  · refine ⟨none, 0, by rw [h0], by omega, ?_⟩
    rw [List.eq_nil_of_length_eq_zero h0]; exact cellsZ.nil _ _
  · refine ⟨_, _, rfl, hle, ?_⟩
    intro i hi
    refine ⟨_, _, rfl, ?_⟩
    rw [Nat.zero_add, h'.cellAt i (by omega), List.getElem?_map, List.getElem?_eq_getElem hi]
    simp [hi]
theorem rowZ.nil (w : World) (base : Nat) : rowZ w base (.slice none 0 0) [] := ⟨rfl, .inl ⟨rfl, rfl⟩⟩
theorem Try.infoZ : (Try.prog.info? 3).map (fun i => (i.zero, i.size, i.bytes)) = some (some (.int .i64 0), 1, 8) := by kernel_rfl
theorem wpList_pushZ {P : Program} {wr : World} {ops : Array Oper} {rest : List Oper} {o : Oper} {a : Act} {Q : Exit → Act → World → Prop} (hgd : o.guard = none) (s x : Operand) (t : TypeId)
    (ho : o.op = .call { callee := .builtin .append, args := #[s, x], argTypes := #[t, t] })
    (base : Nat) (i : TypeInfo) (ht : P.underlying t = some (.slice 3)) (hi : P.info? 3 = some i) (hz : i.zero = some (.int .i64 0))
    (hsize : i.size = 1) (hby : i.bytes = 8)
    (v : Value) (l : List Int) (y : Int) (hown : rowZ wr base v l) (hs : a.eval s = v)
    (g : Nat) (hx : a.eval x = .slice (some ⟨g, 0, none⟩) 1 1) (hg : g = wr.heap.size) (hlen : l.length ≤ 1000000) (hbase : base ≤ wr.heap.size)
    (h : ∀ v' w', rowZ w' base v' (l ++ [y]) → Below base wr w' → wpList P ops Q rest (a.put o.dst v') w') :
    wpList P ops Q (o :: rest) a (wr.alloc (.cells #[.int .i64 y] 3)) := by
  subst hg
  refine wpList_append_own (wr.alloc (.cells #[.int .i64 y] 3)) hgd s x t ho base 3 i (.int .i64 0) 1 8 ht hi hz hsize hby rfl (by decide) v l.length (l.map fun x => Value.int .i64 x) hs (World.ownsRow.alloc hown _)
    ⟨wr.heap.size, 0, none⟩ 1 1 [Value.int .i64 y] hx rfl ?_ ?_ ?_ ?_ ?_ ?_
  · intro j u hj
    match j with
    | 0 =>
      simp only [List.getElem?_cons_zero, Option.some.injEq] at hj
      subst hj
      exact World.cell?_alloc_new wr #[.int .i64 y] 3 0
    | j + 1 => simp at hj
  · intro u hu; simp only [List.mem_singleton] at hu; subst hu; rfl
  · unfold maxLen; omega
  · omega
  · simp; omega
  · intro v' w' h2 h3 _
    refine h v' w' ?_ ?_
    · unfold rowZ; rw [List.length_append, List.map_append]; exact h2
    · have hb0 : Below base wr (wr.alloc (.cells #[.int .i64 y] 3)) := ((Below.refl _ _).alloc (Nat.le_refl _) _).mono hbase
      refine hb0.grown h3 (by simp; omega) ?_
      intro b hb
      rcases hown.2 with ⟨h4, _⟩ | ⟨g', cap, cur, h4, h5, _⟩
      · rw [h4] at hb; simp [Value.ownBlock] at hb
      · rw [h4] at hb; simp only [Value.ownBlock, Option.some.injEq] at hb; omega
end Go.Proofs.Ytgckhekikcdaiaa

namespace Tri
open Go.Proofs.Ytgckhekikcdaiaa
/-- A list turned round, each number twice. -/
def backL (l : List Int) : List Int := l.reverse.flatMap fun x => [x, x]
def backTo (l : List Int) (j : Nat) : List Int := (l.reverse.take j).flatMap fun x => [x, x]
theorem backTo_all (l : List Int) : backTo l l.length = backL l := by unfold backTo backL; rw [List.take_of_length_le (by simp)]
theorem backTo_succ (l : List Int) (j : Nat) (h : j < l.length) : backTo l (j + 1) = backTo l j ++ [l.getD (l.length - 1 - j) 0, l.getD (l.length - 1 - j) 0] := by
  have h' : j < l.reverse.length := by simpa using h
  have e : l.reverse[j] = l.getD (l.length - 1 - j) 0 := by
    rw [List.getElem_reverse, List.getD_eq_getElem?_getD, List.getElem?_eq_getElem (by omega)]; rfl
  unfold backTo
  rw [List.take_succ_eq_append_getElem h', List.flatMap_append, e]
  rfl
theorem backTo_length (l : List Int) : ∀ j, j ≤ l.length → (backTo l j).length = 2 * j
  | 0, _ => rfl
  | j + 1, h => by rw [backTo_succ l j (by omega), List.length_append, backTo_length l j (by omega)]; simp; omega
theorem backL_mem (l : List Int) (x : Int) : x ∈ backL l ↔ x ∈ l := by
  unfold backL
  rw [List.mem_flatMap]
  constructor
  · rintro ⟨a, ha, hx⟩
    simp at hx
    subst hx
    simpa using ha
  · intro h
    exact ⟨x, by simpa using h, by simp⟩
theorem eraZ_back {l : List Int} (h : ∀ x ∈ l, 0 ≤ x) : eraZ (backL l) = eraZ l := by
  have h' : ∀ x ∈ backL l, 0 ≤ x := fun x hx => h x ((backL_mem l x).1 hx)
  exact sorted_ext (eraZ_sorted h') (eraZ_sorted h) fun i => by rw [eraZ_mem h', eraZ_mem h, backL_mem]
theorem byR_some {n p : Nat} {word E o : List Nat} {mny : Int} {loc : List Nat} (h : byR n p word E mny loc = some o) (hb : bytesL word) : ¬ p < E.length ∧ rightB o p = true ∧ o.length = word.length ∧ bytesL o := by
  unfold byR at h
  split at h
  · cases h
  · rename_i h1
    split at h
    · rename_i h2
      cases h
      exact ⟨h1, h2, rfl, hb⟩
    · split at h
      · cases h
      · rename_i o' hm
        split at h
        · rename_i h3
          cases h
          exact ⟨h1, h3, mendL_keeps hm hb⟩
        · cases h
theorem byR_right {n p : Nat} {word E : List Nat} (mny : Int) (loc : List Nat) (h1 : ¬ p < E.length) (h2 : rightB word p = true) : byR n p word E mny loc = some word := by
  unfold byR
  rw [if_neg h1, if_pos h2]
/-- What Mend tells, in one: whether it is asked rightly; the word, the places, the error. -/
def goodB (n : Nat) (word : List Nat) (er : List Int) : Bool := decide (word.length = n) && er.all fun x => decide (0 ≤ x ∧ x < (n : Int))
theorem goodB_iff {n : Nat} {word : List Nat} {er : List Int} : goodB n word er = true ↔ word.length = n ∧ ∀ x ∈ er, 0 ≤ x ∧ x < (n : Int) := by
  unfold goodB
  rw [Bool.and_eq_true, decide_eq_true_eq, List.all_eq_true]
  exact and_congr_right fun _ => forall_congr' fun x => imp_congr_right fun _ => decide_eq_true_iff
def outX (g : Bool) (R : Option (List Nat)) : Int := match g, R with
  | false, _ => 1
  | true, none => 8
  | true, some _ => 0
def outO (g : Bool) (R : Option (List Nat)) : List Nat := match g, R with
  | true, some o => o
  | _, _ => []
def outU (n : Nat) (word : List Nat) (g : Bool) (R : Option (List Nat)) : List Nat := match g, R with
  | true, some o => unkL word o n
  | _, _ => []
end Tri
namespace Go.Proofs.Ytgckhekikcdaiaa
open Go.RowKit Tri

def MendU (n : Nat) (word : List Nat) (g : Bool) (R : Option (List Nat)) (e : Ending) (w' : World) : Prop :=
  ∃ p c p' c', e = .returned (.tuple #[.slice p (outO g R).length c, .slice p' (outU n word g R).length c', .int .i64 (outX g R)]) ∧ (outO g R).length ≤ c ∧ (outU n word g R).length ≤ c' ∧ cellsB w' p (outO g R) ∧ cellsI w' p' (outU n word g R)
theorem MendP.uni {n k : Nat} {word : List Nat} {er : List Int} {R : Option (List Nat)} {e : Ending} {w' : World} (h : MendP n k word er R e w') : MendU n word (goodB n word er) R e w' := by
  cases hg : goodB n word er with
  | false =>
    have hn : ¬ (word.length = n ∧ ∀ x ∈ er, 0 ≤ x ∧ x < (n : Int)) := fun h => by rw [goodB_iff.2 h] at hg; cases hg
    exact ⟨none, 0, none, 0, h.1 hn, Nat.le_refl _, Nat.le_refl _, cellsB.nil _ _, cellsI.nil _ _⟩
  | true =>
    have hn := goodB_iff.1 hg
    cases R with
    | none => exact ⟨none, 0, none, 0, h.2.1 hn rfl, Nat.le_refl _, Nat.le_refl _, cellsB.nil _ _, cellsI.nil _ _⟩
    | some o =>
      obtain ⟨p, c, p', c', h1, h2, h3, h4, h5⟩ := h.2.2 hn o rfl
      exact ⟨p, c, p', c', h1, h2, h3, h4, h5⟩
theorem outO_le {n p : Nat} {word E : List Nat} {mny : Int} {loc : List Nat} (hb : bytesL word) (g : Bool) (m : Nat) (hm : word.length ≤ m) : (outO g (byR n p word E mny loc)).length ≤ m := by
  cases g with
  | false => exact Nat.zero_le _
  | true =>
    cases h : byR n p word E mny loc with
    | none => exact Nat.zero_le _
    | some o => have := (byR_some h hb).2.2.1; show o.length ≤ m; omega
theorem outU_le (n : Nat) (word : List Nat) (g : Bool) (R : Option (List Nat)) : (outU n word g R).length ≤ n := by
  cases g with
  | false => exact Nat.zero_le _
  | true =>
    cases R with
    | none => exact Nat.zero_le _
    | some o => exact unkL_len _ _ _
theorem wpList_pushZ2 {P : Program} {wr : World} {ops : Array Oper} {rest : List Oper} {o : Oper} {a : Act} {Q : Exit → Act → World → Prop} (hgd : o.guard = none) (s x : Operand) (t : TypeId)
    (ho : o.op = .call { callee := .builtin .append, args := #[s, x], argTypes := #[t, t] })
    (base : Nat) (i : TypeInfo) (ht : P.underlying t = some (.slice 3)) (hi : P.info? 3 = some i) (hz : i.zero = some (.int .i64 0))
    (hsize : i.size = 1) (hby : i.bytes = 8)
    (v : Value) (l : List Int) (y z : Int) (hown : rowZ wr base v l) (hs : a.eval s = v)
    (g : Nat) (hx : a.eval x = .slice (some ⟨g, 0, none⟩) 2 2) (hg : g = wr.heap.size) (hlen : l.length ≤ 1000000) (hbase : base ≤ wr.heap.size)
    (h : ∀ v' w', rowZ w' base v' (l ++ [y, z]) → Below base wr w' → wpList P ops Q rest (a.put o.dst v') w') :
    wpList P ops Q (o :: rest) a (wr.alloc (.cells #[.int .i64 y, .int .i64 z] 3)) := by
  subst hg
  refine wpList_append_own (wr.alloc (.cells #[.int .i64 y, .int .i64 z] 3)) hgd s x t ho base 3 i (.int .i64 0) 1 8 ht hi hz hsize hby rfl (by decide) v l.length (l.map fun x => Value.int .i64 x) hs (World.ownsRow.alloc hown _)
    ⟨wr.heap.size, 0, none⟩ 2 2 [Value.int .i64 y, Value.int .i64 z] hx rfl ?_ ?_ ?_ ?_ ?_ ?_
  · intro j u hj
    match j with
    | 0 =>
      simp only [List.getElem?_cons_zero, Option.some.injEq] at hj
      subst hj
      exact World.cell?_alloc_new wr #[.int .i64 y, .int .i64 z] 3 0
    | 1 =>
      simp only [List.getElem?_cons_succ, List.getElem?_cons_zero, Option.some.injEq] at hj
      subst hj
      exact World.cell?_alloc_new wr #[.int .i64 y, .int .i64 z] 3 1
    | j + 2 => simp at hj
  · intro u hu; simp only [List.mem_cons, List.not_mem_nil, or_false] at hu; rcases hu with rfl | rfl <;> rfl
  · unfold maxLen; omega
  · omega
  · simp; omega
  · intro v' w' h2 h3 _
    refine h v' w' ?_ ?_
    · unfold rowZ; rw [List.length_append, List.map_append]; exact h2
    · have hb0 : Below base wr (wr.alloc (.cells #[.int .i64 y, .int .i64 z] 3)) := ((Below.refl _ _).alloc (Nat.le_refl _) _).mono hbase
      refine hb0.grown h3 (by simp; omega) ?_
      intro b hb
      rcases hown.2 with ⟨h4, _⟩ | ⟨g', cap, cur, h4, h5, _⟩
      · rw [h4] at hb; simp [Value.ownBlock] at hb
      · rw [h4] at hb; simp only [Value.ownBlock, Option.some.injEq] at hb; omega
theorem rowZ.belowO {w w' : World} {base : Nat} {v : Value} {l : List Int} (h : rowZ w base v l) (hb : Below w.heap.size w w') : rowZ w' base v l := by
  unfold rowZ at *
  rcases h.2 with ⟨h1, h2⟩ | ⟨g, cap, cur, h1, h2, h3, h4⟩
  · exact ⟨h.1, .inl ⟨h1, h2⟩⟩
  · exact ⟨h.1, .inr ⟨g, cap, cur, h1, h2, (hb.block g (Array.getElem?_eq_some_iff.1 h3).1).trans h3, h4⟩⟩
set_option maxHeartbeats 4000000 in
set_option maxRecDepth 100000 in
theorem solveAgain.walk (a0 : Int) (a1 : Int) (a2 : Option Addr) (len2 cap2 : Nat) (l2 : List Nat) (b2 : Option Addr) (lem2 caq2 : Nat) (m2 : List Int) (w : World) (w0 : (Lit.int .i64 a0).wf = true) (w1 : (Lit.int .i64 a1).wf = true) (w2 : IsBytes w a2 len2 cap2 l2 ∧ IsInts w b2 lem2 caq2 m2) :
    Calls Try.prog 6 #[.int .i64 a0, .int .i64 a1, .agg #[.slice a2 len2 cap2, .slice b2 lem2 caq2]] w fun e w' => e = .returned (.bool true) ∧ Below w.heap.size w w' := by
  obtain ⟨⟨hn, hlc, hcap, hS, hss⟩, hn1, hlc1, hcap1, hS1, hss1⟩ := w2
  subst hn hn1
  have HS := hid hS
  have HB : Hid (bytesL l2) := hid hss
  have HS1 := hid hS1
  have hb0 := bounds_i64 w0
  have hb1 := bounds_i64 w1
  clear hS hss w0 w1 hS1 hss1
  (go_enter Try.func6, Try.ntmps6; try simp only [List.append])
  go_wp2_with ((with_reducible refine wpList_unguard ?_ ?_); (focus rfl))
  have hBx := hid (show Below w.heap.size w (w.alloc (.cells #[.slice a2 l2.length cap2, .slice b2 m2.length caq2] 50)) from (Below.refl _ _).alloc (Nat.le_refl _) _)
  have HX0 := hid (Blk.new w 50 #[.slice a2 l2.length cap2, .slice b2 m2.length caq2])
  generalize w.alloc (.cells #[.slice a2 l2.length cap2, .slice b2 m2.length caq2] 50) = wx at *
  refine Calls.mono (law07_awake wx) ?_; rintro e w3 ⟨rfl, hbA⟩
  have HX3 := hid (HX0.out.below hbA)
  have HBA := hid (hBx.out.trans (hbA.mono hBx.out.size))
  clear hbA hBx HX0
  obtain ⟨xb, hxb⟩ : ∃ xb, w.heap.size = xb := ⟨_, rfl⟩
  rw [hxb] at HX3 ⊢
  clear hxb
  go_wp2_with ((with_reducible refine wpList_unguard ?_ ?_); (focus rfl))
  refine Calls.mono (ref6_There a0 a1 w3 ⟨hb0.1, by omega⟩ ⟨hb1.1, by omega⟩) ?_; rintro e w' ⟨rfl, rfl⟩
  cases hth : thereB a0 a1 with
  | false =>
    go_wp2_with ((with_reducible refine wpList_unguard ?_ ?_); (focus rfl))
    go_ret
    exact ⟨rfl, HBA.out⟩
  | true =>
    have hthr : 1 ≤ a1 ∧ a1 < a0 ∧ a0 ≤ 255 ∧ a0 - a1 ≤ 64 := of_decide_eq_true hth
    obtain ⟨t1, t2, t3, t4⟩ := hthr
    obtain ⟨n, rfl⟩ : ∃ n : Nat, a0 = n := ⟨a0.toNat, by omega⟩
    obtain ⟨k, rfl⟩ : ∃ k : Nat, a1 = k := ⟨a1.toNat, by omega⟩
    clear hth hb0 hb1
    have c0 : w3.cell? ⟨xb, 0, none⟩ = some (.slice a2 l2.length cap2) := HX3.out.cell 0 _ rfl
    have c1 : w3.cell? ⟨xb, 1, none⟩ = some (.slice b2 m2.length caq2) := HX3.out.cell 1 _ rfl
    by_cases hg1 : 300 < l2.length
    · have q1 : decide ((300 : Int) < (l2.length : Int)) = true := decide_eq_true (by omega)
      go_wp2_with ((with_reducible refine wpList_unguard ?_ ?_); (focus rfl))
      go_ret
      exact ⟨rfl, HBA.out⟩
    by_cases hg2 : 60 < m2.length
    · have q1 : decide ((300 : Int) < (l2.length : Int)) = false := decide_eq_false (by omega)
      have q2 : decide ((60 : Int) < (m2.length : Int)) = true := decide_eq_true (by omega)
      go_wp2_with ((with_reducible refine wpList_unguard ?_ ?_); (focus rfl))
      go_ret
      exact ⟨rfl, HBA.out⟩
    have q1 : decide ((300 : Int) < (l2.length : Int)) = false := decide_eq_false (by omega)
    have q2 : decide ((60 : Int) < (m2.length : Int)) = false := decide_eq_false (by omega)
    go_wp2_with ((with_reducible refine wpList_unguard ?_ ?_); (focus rfl))
    clear c0 c1
    refine Calls.mono (gf_NewK w3 w3 (Below.refl _ _)) ?_; rintro e w4 ⟨b, rfl, K0⟩
    have K := hid K0.2
    have HX4 := hid (HX3.out.below K0.1)
    have HB4 := hid (HBA.out.trans (K0.1.mono HBA.out.size))
    clear K0 HX3 HBA q1 q2
    go_wp2_with ((with_reducible refine wpList_unguard ?_ ?_); (focus rfl))
    refine Calls.mono (rs_New b n k w4 K.out (by omega) (by omega) (by omega) (by omega)) ?_
    rintro e w5 ⟨c, rfl, hR, hbel⟩
    have HR := hid hR
    have HX5 := hid (HX4.out.below hbel)
    have HB5 := hid (HB4.out.trans (hbel.mono HB4.out.size))
    have hxw := HX5.out.lt
    clear hR hbel K HX4 HB4
    have c0 : w5.cell? ⟨xb, 0, none⟩ = some (.slice a2 l2.length cap2) := HX5.out.cell 0 _ rfl
    have c1 : w5.cell? ⟨xb, 1, none⟩ = some (.slice b2 m2.length caq2) := HX5.out.cell 1 _ rfl
    have HM1 := hid (sol_Mend c b n k a2 cap2 l2 b2 caq2 m2 w5 HR.out (by omega) (by omega) (by omega) (HS.out.below HB5.out) HB.out (by omega) (HS1.out.below HB5.out) (by omega))
    have hL2n : Hid (∀ g E mny loc, (outO g (byR n (n - k) l2 E mny loc)).length ≤ 300) := fun g E mny loc => outO_le HB.out g 300 (by omega)
    go_wp2_with ((with_reducible refine wpList_unguard ?_ ?_); (focus rfl))
    refine Calls.mono HM1.out ?_; rintro e w6 ⟨hb, hm⟩
    obtain ⟨p1, d1, q1, e1, rfl, hl1, hl2, ho, hu⟩ := hm.uni
    have HO1 := hid ho
    have HU1 := hid hu.z
    have HB6 := hid (HB5.out.trans (hb.mono HB5.out.size))
    have HR6 := hid (HR.out.below hb)
    have HX6 := hid (HX5.out.below hb)
    have hr56 := hb.size
    clear hm hb ho hu HM1 HR HX5 HB5 c0 c1
    have hUl := outU_le n l2 (goodB n l2 m2) (mendW n (n - k) l2 (eraZ m2))
    have hOl : (outO (goodB n l2 m2) (mendW n (n - k) l2 (eraZ m2))).length ≤ 300 := hL2n.out _ _ _ _
    have hgb : Hid (goodB n l2 (backL m2) = goodB n l2 m2 ∧ (goodB n l2 m2 = true → eraZ (backL m2) = eraZ m2)) := by
      refine ⟨?_, fun h => eraZ_back fun x hx => ((goodB_iff.1 h).2 x hx).1⟩
      unfold goodB
      congr 1
      rw [Bool.eq_iff_iff, List.all_eq_true, List.all_eq_true]
      exact ⟨fun h x hx => h x ((backL_mem m2 x).2 hx), fun h x hx => h x ((backL_mem m2 x).1 hx)⟩
    have hThird : Hid (∀ o, goodB n l2 m2 = true → mendW n (n - k) l2 (eraZ m2) = some o → goodB n o m2 = true ∧ mendW n (n - k) o (eraZ m2) = some o ∧ rightB o (n - k) = true ∧ o.length = n ∧ bytesL o) := by
      intro o hg h
      obtain ⟨h1, h2, h3, h4⟩ := byR_some h HB.out
      have h5 := goodB_iff.1 hg
      exact ⟨goodB_iff.2 ⟨by rw [h3]; exact h5.1, h5.2⟩, byR_right _ _ h1 h2, h2, by rw [h3]; exact h5.1, h4⟩
    have c1 : w6.cell? ⟨xb, 1, none⟩ = some (.slice b2 m2.length caq2) := HX6.out.cell 1 _ rfl
    obtain ⟨i0, hi, hz0, hz1, hz2⟩ := info_parts Try.infoZ
    go_wp2_with ((with_reducible refine wpList_unguard ?_ ?_); (focus rfl))
    clear c1
    have HT0 : Hid (backTo m2 0 = []) := rfl
    go_loopw [13, 12] (fun i v wr => ∃ j : Nat, j ≤ m2.length ∧ i = .int .i64 ((m2.length : Int) - 1 - j) ∧ rowZ wr w6.heap.size v (backTo m2 j) ∧ Below w6.heap.size w6 wr) (fun i _ _ => (intOf i + 1).toNat)
    case atStart => exact ⟨0, Nat.zero_le _, by go_num, by rw [HT0.out]; exact rowZ.nil _ _, Below.refl _ _⟩
    case round =>
      obtain ⟨j, hj, rfl, hrow, hb⟩ := hrel
      have HRow := hid hrow
      have HBr := hid hb
      clear hrow hb
      have c1 : wr.cell? ⟨xb, 1, none⟩ = some (.slice b2 m2.length caq2) := (HX6.out.below HBr.out).cell 1 _ rfl
      by_cases hlt : j < m2.length
      · obtain ⟨i, hi2⟩ : ∃ i : Nat, (m2.length : Int) - 1 - j = i := ⟨m2.length - 1 - j, by omega⟩
        have hin : i < m2.length := by omega
        have hinz : (i : Int) < (m2.length : Int) := by omega
        have HSu : Hid (backTo m2 (j + 1) = backTo m2 j ++ [m2.getD i 0, m2.getD i 0]) := by show _ = _; rw [backTo_succ m2 j hlt, show m2.length - 1 - j = i from by omega]
        have hbl := backTo_length m2 j hj
        obtain ⟨bb, oo, rfl, hcl⟩ := (HS1.out.below (HB6.out.trans (HBr.out.mono HB6.out.size))) i hin
        generalize m2.getD i 0 = x at *
        have HI2 : Hid ((m2.length : Int) - 1 - (j + 1 : Nat) = (i : Int) - 1) := by show _ = _; omega
        rw [hi2]
        clear hi2
        go_wp2_with ((with_reducible refine wpList_unguard ?_ ?_); (focus rfl))
        go_upto_region 13 with fail
        (refine wp_region_stg 0 [([0, 1, 2, 3, 4, 5, 6, 7, 8, 9, 10], 11)] [12, 13] (fun u => Below wr.heap.size wr u) (by kernel_rfl) (by kernel_rfl) (by intro t v c a w h; cases t <;> exact h) ((Below.refl _ _).drew) ?_; (simp only [List.take_succ_cons, List.take_zero, List.map_cons, List.map_nil, stOf, opAt, List.getD_cons_zero, List.getD_cons_succ]); (repeat (first | go_big_quiet_skip | (go_big_quiet_want; first | (go_big_quiet_op; go_big_quiet_on) | (apply Exists.intro; refine And.intro (fun wq hq => ?_) ?_; (focus (skip; (try go_simp); first | done | rfl | (fail))); go_simp; go_big_quiet_on)))); refine quietC_nil _ rfl ?_; intro wE hE; unfold wpSt)
        have HE := hid hE
        clear hE
        ((repeat (first | go_big_quiet_skip | (go_big_quiet_want; first | (go_big_quiet_op; go_big_quiet_on) | (apply Exists.intro; refine And.intro (fun wq hq => ?_) ?_; (focus ((have k1 := cell1_keep c1 hq; have kc := cell1_keep hcl hq); (try go_simp); first | done | rfl)); go_simp; go_big_quiet_on)))); refine quietC_nil _ rfl ?_)
        go_wp2_with ((with_reducible refine wpList_unguard ?_ ?_); (focus rfl))
        have hE1 := hid (HE.out.alloc HE.out.size (.cells #[.int .i64 x, .int .i64 x] 3))
        refine ⟨fun u => Below wr.heap.size wr u, fun _ h => h, hE1.out, ?_⟩
        unfold wpSt
        have hbs : w6.heap.size ≤ wE.heap.size := Nat.le_trans HBr.out.size HE.out.size
        have HRE := hid (HRow.out.belowO HE.out)
        go_wp2_with (at_builtin; refine wpList_pushZ2 rfl _ _ 41 rfl w6.heap.size i0 Try.underlying41 hi hz0 hz1 hz2 _ (backTo m2 j) x x HRE.out rfl _ rfl rfl (by omega) hbs ?_)
        intro v' w7 hq hb7
        have HR7 : Hid (rowZ w7 w6.heap.size v' (backTo m2 (j + 1))) := by show rowZ _ _ _ _; rw [HSu.out]; exact hq
        have HB7 := hid ((HBr.out.trans (HE.out.mono HBr.out.size)).trans hb7)
        clear hq hb7 HRE hE1
        go_wp2_with ((with_reducible refine wpList_unguard ?_ ?_); (focus rfl))
        go_roundw
        case rel => exact ⟨j + 1, by omega, by rw [HI2.out], HR7.out, HB7.out⟩
        case measure => simp [intOf]
      · obtain rfl : j = m2.length := by omega
        rw [backTo_all] at HRow
        have hneg : (m2.length : Int) - 1 - (m2.length : Int) = -1 := by omega
        rw [hneg]
        obtain ⟨pB, cB, rfl, hcB, hzB⟩ := HRow.out.cells
        have HZB := hid hzB
        have hBl : (backL m2).length ≤ 120 := by have := backTo_length m2 m2.length (Nat.le_refl _); rw [backTo_all] at this; omega
        have HBw := hid (HB6.out.trans (HBr.out.mono HB6.out.size))
        have HRw := hid (HR6.out.below HBr.out)
        have HXw := hid (HX6.out.below HBr.out)
        have HO1w := hid (HO1.out.below HBr.out)
        have HU1w := hid (HU1.out.below HBr.out)
        have c0 : wr.cell? ⟨xb, 0, none⟩ = some (.slice a2 l2.length cap2) := HXw.out.cell 0 _ rfl
        have HM2 := hid (sol_Mend c b n k a2 cap2 l2 pB cB (backL m2) wr HRw.out (by omega) (by omega) (by omega) (HS.out.below HBw.out) HB.out (by omega) hzB (by omega))
        clear hzB HRow hi hz0 hz1 hz2 HT0 HBr HB6 HR6 HX6 HO1 HU1
        go_wp2_with ((with_reducible refine wpList_unguard ?_ ?_); (focus rfl))
        refine Calls.mono HM2.out ?_; rintro e w7 ⟨hb, hm⟩
        have hm2 := hm.uni
        have HE2 : Hid (outO (goodB n l2 (backL m2)) (mendW n (n - k) l2 (eraZ (backL m2))) = outO (goodB n l2 m2) (mendW n (n - k) l2 (eraZ m2)) ∧ outU n l2 (goodB n l2 (backL m2)) (mendW n (n - k) l2 (eraZ (backL m2))) = outU n l2 (goodB n l2 m2) (mendW n (n - k) l2 (eraZ m2)) ∧ outX (goodB n l2 (backL m2)) (mendW n (n - k) l2 (eraZ (backL m2))) = outX (goodB n l2 m2) (mendW n (n - k) l2 (eraZ m2))) := by
          rw [hgb.out.1]
          cases hg : goodB n l2 m2 with
          | false => exact ⟨rfl, rfl, rfl⟩
          | true => rw [hgb.out.2 hg]; exact ⟨rfl, rfl, rfl⟩
        obtain ⟨p2, d2, q2, e2, rfl, hl3, hl4, ho2, hu2⟩ := hm2
        obtain ⟨x1, x2, x3⟩ := HE2.out
        rw [x1] at hl3 ho2 ⊢
        rw [x2] at hl4 hu2 ⊢
        rw [x3]
        have HO2 := hid ho2
        have HU2 := hid hu2.z
        have HB7 := hid (HBw.out.trans (hb.mono HBw.out.size))
        have HR7 := hid (HRw.out.below hb)
        have HX7 := hid (HXw.out.below hb)
        have HO1 := hid (HO1w.out.below hb)
        have HU1 := hid (HU1w.out.below hb)
        clear hm hb ho2 hu2 HM2 HE2 x1 x2 x3 hgb c0 c1 HBw HRw HXw HO1w HU1w HZB
        have H3 : Hid (outX (goodB n l2 m2) (mendW n (n - k) l2 (eraZ m2)) = 0 → MendU n (outO (goodB n l2 m2) (mendW n (n - k) l2 (eraZ m2))) (goodB n (outO (goodB n l2 m2) (mendW n (n - k) l2 (eraZ m2))) m2) (mendW n (n - k) (outO (goodB n l2 m2) (mendW n (n - k) l2 (eraZ m2))) (eraZ m2)) = MendU n (outO (goodB n l2 m2) (mendW n (n - k) l2 (eraZ m2))) true (some (outO (goodB n l2 m2) (mendW n (n - k) l2 (eraZ m2)))) ∧ rightB (outO (goodB n l2 m2) (mendW n (n - k) l2 (eraZ m2))) (n - k) = true ∧ (outO (goodB n l2 m2) (mendW n (n - k) l2 (eraZ m2))).length = n ∧ bytesL (outO (goodB n l2 m2) (mendW n (n - k) l2 (eraZ m2)))) := by
          intro hX
          cases hg : goodB n l2 m2 with
          | false => rw [hg] at hX; cases hX
          | true =>
            cases hR : mendW n (n - k) l2 (eraZ m2) with
            | none => rw [hg, hR] at hX; cases hX
            | some o =>
              obtain ⟨y1, y2, y3, y4, y5⟩ := hThird.out o hg hR
              refine ⟨?_, y3, y4, y5⟩
              show MendU n o (goodB n o m2) (mendW n (n - k) o (eraZ m2)) = _
              rw [y1, y2]; rfl
        clear hThird hL2n
        generalize outU n l2 (goodB n l2 m2) (mendW n (n - k) l2 (eraZ m2)) = U at *
        generalize outX (goodB n l2 m2) (mendW n (n - k) l2 (eraZ m2)) = X at *
        generalize outO (goodB n l2 m2) (mendW n (n - k) l2 (eraZ m2)) = O at *
        have hs1 := conv_str HO1.out O.length d1 rfl
        have hs2 := conv_str HO2.out O.length d2 rfl
        have hSm := hid (ref01_Same q1 q2 U.length U.length e1 e2 (U.map fun x => ((x : Nat) : Int)) (U.map fun x => ((x : Nat) : Int)) w7 (by simp) (by simp) HU1.out HU2.out (by simp; omega) (by simp; omega))
        rw [show decide ((U.map fun x => ((x : Nat) : Int)) = (U.map fun x => ((x : Nat) : Int))) = true from decide_eq_true rfl] at hSm
        go_wp2_with ((with_reducible refine wpList_unguard ?_ ?_); (focus rfl))
        refine Calls.mono hSm.out ?_; rintro e w8 ⟨rfl, hb⟩
        have HB8 := hid (HB7.out.trans (hb.mono HB7.out.size))
        have HR8 := hid (HR7.out.below hb)
        have HX8 := hid (HX7.out.below hb)
        have HO8 := hid (HO1.out.below hb)
        clear hSm hb hs1 hs2 HB7 HR7 HX7 HO1 HO2 HU1 HU2
        by_cases hX : X = 0
        · obtain ⟨g1, g2, g3, g4⟩ := H3.out hX
          subst hX
          have HG2 := hid g2
          have HG3 := hid g3
          have HG4 := hid g4
          have HG1 := hid g1
          have hUn := unkL_self O n
          have c1 : w8.cell? ⟨xb, 1, none⟩ = some (.slice b2 m2.length caq2) := HX8.out.cell 1 _ rfl
          have HM3 := hid (sol_Mend c b n k p1 d1 O b2 caq2 m2 w8 HR8.out (by omega) (by omega) (by omega) HO8.out g4 (by omega) (HS1.out.below HB8.out) (by omega))
          clear g1 g2 g3 g4 H3
          go_wp2_with ((with_reducible refine wpList_unguard ?_ ?_); (focus rfl))
          refine Calls.mono HM3.out ?_; rintro e w9 ⟨hb, hm⟩
          have hm3 := hm.uni
          rw [HG1.out] at hm3
          obtain ⟨p3, d3, q3, e3, rfl, hl5, hl6, ho3, hu3⟩ := hm3
          have ho3 : cellsB w9 p3 O := ho3
          rw [show outU n O true (some O) = [] from hUn, show outO true (some O) = O from rfl, show outX true (some O) = 0 from rfl]
          have HO9 := hid (HO8.out.below hb)
          have HB9 := hid (HB8.out.trans (hb.mono HB8.out.size))
          have HRi := hid (rs_Right c b n k p1 O.length d1 O w9 (HR8.out.below hb) (by omega) (by omega) rfl HO9.out HG4.out HG3.out)
          rw [HG2.out] at HRi
          have HO3 := hid ho3
          clear hm hb HM3 hl5 hl6 ho3 hu3 HB8 HR8 HX8 HO8 c1 HG1 hUn
          go_wp2_with ((with_reducible refine wpList_unguard ?_ ?_); (focus rfl))
          refine Calls.mono HRi.out ?_; rintro e w10 ⟨rfl, hb⟩
          have HB10 := hid (HB9.out.trans (hb.mono HB9.out.size))
          have hs1 := conv_str (HO3.out.below hb) O.length d3 rfl
          have hs2 := conv_str (HO9.out.below hb) O.length d1 rfl
          clear hb HRi HB9
          go_wp2_with ((with_reducible refine wpList_unguard ?_ ?_); (focus rfl))
          go_ret
          exact ⟨rfl, HB10.out⟩
        · have qX : (X != 0) = true := by rw [bne_iff_ne]; exact hX
          clear H3
          go_wp2_with ((with_reducible refine wpList_unguard ?_ ?_); (focus rfl))
          go_ret
          exact ⟨rfl, HB8.out⟩
end Go.Proofs.Ytgckhekikcdaiaa

namespace Tri
open Go Go.RowKit Go.Proofs.Ytgckhekikcdaiaa
/-- A row's value. -/
def sumR (t : Nat) (row x : Nat → Nat) : Nat := XS (fun c => gmul (row c) (x c)) (t + 1)
theorem sumR_lt (t : Nat) (row x : Nat → Nat) : sumR t row x < 256 := XS_lt _ (fun _ => gmul_lt _ _) _
def Sol (r t : Nat) (M : Nat → Nat → Nat) (x : Nat → Nat) : Prop := ∀ i, i < r → sumR t (M i) x = 0
def bytesM (M : Nat → Nat → Nat) : Prop := ∀ i c, M i c < 256
def bytesX (x : Nat → Nat) : Prop := ∀ c, x c < 256
/- the three steps -/
def swapF {α : Type} (j a : Nat) (M : Nat → α) (i : Nat) : α := if i = j then M a else if i = a then M j else M i
def scTo (M : Nat → Nat → Nat) (j inv m i c : Nat) : Nat := if i = j ∧ c < m then gmul (M i c) inv else M i c
def elTo (M : Nat → Nat → Nat) (j i0 m i c : Nat) : Nat := if i ≠ j ∧ (i < i0 ∨ i = i0 ∧ c < m) then M i c ^^^ gmul (M i j) (M j c) else M i c
theorem swapF_bytes {M : Nat → Nat → Nat} (h : bytesM M) (j a : Nat) : bytesM (swapF j a M) := by
  intro i c; unfold swapF; split; exact h _ _; split <;> exact h _ _
theorem scTo_bytes {M : Nat → Nat → Nat} (h : bytesM M) (j inv m : Nat) : bytesM (scTo M j inv m) := by
  intro i c; unfold scTo; split; exact gmul_lt _ _; exact h _ _
theorem elTo_bytes {M : Nat → Nat → Nat} (h : bytesM M) (j i0 m : Nat) : bytesM (elTo M j i0 m) := by
  intro i c; unfold elTo; split; exact xor_lt (h _ _) (gmul_lt _ _); exact h _ _
theorem Sol_swap {r t j a : Nat} (M : Nat → Nat → Nat) (x : Nat → Nat) (hj : j < r) (ha : a < r) : Sol r t (swapF j a M) x ↔ Sol r t M x := by
  constructor
  · intro h i hi
    by_cases e1 : i = a
    · have := h j hj; unfold swapF at this; rw [if_pos rfl] at this; rw [e1]; exact this
    · by_cases e2 : i = j
      · have := h a ha
        unfold swapF at this
        by_cases e3 : a = j
        · exact absurd (e2.trans e3.symm) e1
        · rw [if_neg e3, if_pos rfl] at this; rw [e2]; exact this
      · have := h i hi; unfold swapF at this; rwa [if_neg e2, if_neg e1] at this
  · intro h i hi
    unfold swapF
    split
    · exact h a ha
    · split
      · exact h j hj
      · exact h i hi
theorem Sol_scale {r t j inv : Nat} (M : Nat → Nat → Nat) (x : Nat → Nat) (hj : j < r) (hi : inv < 256) (h0 : inv ≠ 0) : Sol r t (scTo M j inv (t + 1)) x ↔ Sol r t M x := by
  have key : ∀ i, sumR t (scTo M j inv (t + 1) i) x = if i = j then gmul inv (sumR t (M i) x) else sumR t (M i) x := by
    intro i
    unfold sumR
    split
    · rename_i e
      rw [← XS_mul inv hi _ (fun _ => gmul_lt _ _)]
      apply XS_congr
      intro c hc
      unfold scTo
      rw [if_pos ⟨e, hc⟩]
      simp only [gmul_comm, gmul_left_comm, gmul_assoc]
    · rename_i e
      apply XS_congr
      intro c _
      unfold scTo
      rw [if_neg (fun h => e h.1)]
  constructor
  · intro h i hir
    have := h i hir
    rw [key] at this
    split at this
    · exact (gmul_eq_zero.1 this).resolve_left h0
    · exact this
  · intro h i hir
    rw [key]
    split
    · rw [h i hir, gmul_zero]
    · exact h i hir
theorem Sol_elim {r t j : Nat} {M : Nat → Nat → Nat} (hM : bytesM M) {x : Nat → Nat} (hx : bytesX x) (hj : j < r) : Sol r t (elTo M j r 0) x ↔ Sol r t M x := by
  have key : ∀ i, i < r → sumR t (elTo M j r 0 i) x = if i = j then sumR t (M i) x else sumR t (M i) x ^^^ gmul (M i j) (sumR t (M j) x) := by
    intro i hi
    unfold sumR
    split
    · rename_i e
      apply XS_congr
      intro c _
      unfold elTo
      rw [if_neg (fun h => h.1 e)]
    · rename_i e
      rw [← XS_mul _ (hM i j) _ (fun _ => gmul_lt _ _), ← XS_add]
      apply XS_congr
      intro c _
      unfold elTo
      rw [if_pos ⟨e, .inl hi⟩, gmul_comm, gmul_comm (M i c)]
      rw [gmul_xor _ _ _ (hx c) (hM i c) (gmul_lt _ _)]
      congr 1
      simp only [gmul_comm, gmul_left_comm, gmul_assoc]
  constructor
  · intro h i hir
    have hjr := h j hj
    rw [key j hj, if_pos rfl] at hjr
    have := h i hir
    rw [key i hir] at this
    split at this
    · exact this
    · rwa [hjr, gmul_zero, Nat.xor_zero] at this
  · intro h i hir
    rw [key i hir]
    split
    · exact h i hir
    · rw [h i hir, h j hj, gmul_zero]; rfl
/-- How the rows stand ahead of column j. -/
structure ElI (r t j : Nat) (M0 M : Nat → Nat → Nat) : Prop where
  b : bytesM M
  diag : ∀ c, c < j → ∀ i, i < r → M i c = if i = c then 1 else 0
  sol : ∀ x, bytesX x → (Sol r t M x ↔ Sol r t M0 x)
theorem ElI.start {r t : Nat} {M0 : Nat → Nat → Nat} (h : bytesM M0) : ElI r t 0 M0 M0 := ⟨h, fun c hc => by omega, fun _ _ => Iff.rfl⟩
theorem ElI.step {r t j a : Nat} {M0 M : Nat → Nat → Nat} (h : ElI r t j M0 M) (hj : j < t) (htr : t ≤ r) (ha1 : j ≤ a) (ha2 : a < r) (hp : M a j ≠ 0) :
    ElI r t (j + 1) M0 (elTo (scTo (swapF j a M) j (ginv (M a j)) (t + 1)) j r 0) := by
  have hb1 := swapF_bytes h.b j a
  have hb2 := scTo_bytes hb1 j (ginv (M a j)) (t + 1)
  refine ⟨elTo_bytes hb2 _ _ _, fun c hc i hi => ?_, fun x hx => ?_⟩
  · have hS : ∀ c, c < j → ∀ i, i < r → swapF j a M i c = if i = c then 1 else 0 := by
      intro c hc i hi
      unfold swapF
      split
      · rename_i e
        rw [h.diag c hc a ha2, if_neg (by omega), if_neg (by omega)]
      · split
        · rename_i e1 e2
          rw [h.diag c hc j (by omega), if_neg (by omega), if_neg (by omega)]
        · exact h.diag c hc i hi
    have hC : ∀ c, c < j → ∀ i, i < r → scTo (swapF j a M) j (ginv (M a j)) (t + 1) i c = if i = c then 1 else 0 := by
      intro c hc i hi
      unfold scTo
      split
      · rename_i e
        rw [hS c hc i hi, if_neg (by omega), zero_gmul]
      · exact hS c hc i hi
    have hjj : scTo (swapF j a M) j (ginv (M a j)) (t + 1) j j = 1 := by
      unfold scTo swapF
      rw [if_pos ⟨rfl, by omega⟩, if_pos rfl, gmul_ginv _ hp]
    unfold elTo
    by_cases e : i = j
    · rw [if_neg (fun h => h.1 e)]
      by_cases ec : c = j
      · rw [e, ec, hjj, if_pos rfl]
      · exact hC c (by omega) i hi
    · rw [if_pos ⟨e, .inl hi⟩]
      by_cases ec : c = j
      · rw [ec, hjj, gmul_one _ (hb2 i j), Nat.xor_self, if_neg e]
      · rw [hC c (by omega) i hi, hC c (by omega) j (by omega), if_neg (show ¬ j = c by omega), gmul_zero, Nat.xor_zero]
  · rw [Sol_elim hb2 hx (by omega), Sol_scale _ _ (by omega) (ginv_lt _) (ginv_ne _), Sol_swap _ _ (by omega) ha2]
    exact h.sol x hx
theorem XS_two (f : Nat → Nat) (n a b : Nat) (ha : a < n) (hb : b < n) (hab : a ≠ b) (h : ∀ c, c < n → c ≠ a → c ≠ b → f c = 0) : XS f n = f a ^^^ f b := by
  have e : ∀ c, c < n → f c = (if c = a then f c else 0) ^^^ (if c = b then f c else 0) := by
    intro c hc
    by_cases h1 : c = a
    · rw [if_pos h1, if_neg (by omega), Nat.xor_zero]
    · rw [if_neg h1]
      by_cases h2 : c = b
      · rw [if_pos h2, Nat.zero_xor]
      · rw [if_neg h2, h c hc h1 h2]; rfl
  rw [XS_congr n e, XS_add, ← LS_range, ← LS_range, LS_single _ a _ List.nodup_range (List.mem_range.2 ha) (fun k _ hk => if_neg hk), LS_single _ b _ List.nodup_range (List.mem_range.2 hb) (fun k _ hk => if_neg hk), if_pos rfl, if_pos rfl]
theorem XS_one (f : Nat → Nat) (n a : Nat) (ha : a < n) (h : ∀ c, c < n → c ≠ a → f c = 0) : XS f n = f a := by
  rw [← LS_range, LS_single _ a _ List.nodup_range (List.mem_range.2 ha) fun k hk hne => h k (List.mem_range.1 hk) hne]
/-- A column without a pivot: something else than 0 is sent to 0. -/
theorem ElI.kernel {r t j : Nat} {M0 M : Nat → Nat → Nat} (h : ElI r t j M0 M) (hj : j < t) (hz : ∀ a, j ≤ a → a < r → M a j = 0) : ∃ x, bytesX x ∧ x j = 1 ∧ x t = 0 ∧ Sol r t M0 x := by
  have hx : bytesX (fun c => if c = j then 1 else if c < j then M c j else 0) := by
    intro c
    show (if c = j then 1 else if c < j then M c j else 0) < 256
    split
    · decide
    · split
      · exact h.b _ _
      · decide
  refine ⟨_, hx, if_pos rfl, ?_, (h.sol _ hx).1 fun i hi => ?_⟩
  · show (if t = j then 1 else if t < j then M t j else 0) = 0
    rw [if_neg (by omega), if_neg (by omega)]
  · unfold sumR
    by_cases hij : i < j
    · rw [XS_two _ (t + 1) i j (by omega) (by omega) (by omega)]
      · show gmul (M i i) (if i = j then 1 else if i < j then M i j else 0) ^^^ gmul (M i j) (if j = j then 1 else if j < j then M j j else 0) = 0
        rw [h.diag i hij i hi, if_pos rfl, if_neg (by omega), if_pos hij, if_pos rfl, one_gmul _ (h.b _ _), gmul_one _ (h.b _ _), Nat.xor_self]
      · intro c hc h1 h2
        show gmul (M i c) (if c = j then 1 else if c < j then M c j else 0) = 0
        rw [if_neg h2]
        split
        · rename_i hcj
          rw [h.diag c hcj i hi, if_neg (by omega), zero_gmul]
        · exact gmul_zero _
    · refine XS_zero _ _ fun c hc => ?_
      show gmul (M i c) (if c = j then 1 else if c < j then M c j else 0) = 0
      split
      · rename_i e
        rw [e, hz i (by omega) hi, zero_gmul]
      · split
        · rename_i hcj
          rw [h.diag c hcj i hi, if_neg (by omega), zero_gmul]
        · exact gmul_zero _
/-- What the rows tell behind all columns. -/
theorem ElI.sum {r t : Nat} {M0 M : Nat → Nat → Nat} (h : ElI r t t M0 M) {x : Nat → Nat} (hx : bytesX x) (h1 : x t = 1) {i : Nat} (hi : i < r) : sumR t (M i) x = (if i < t then x i else 0) ^^^ M i t := by
  unfold sumR
  by_cases hit : i < t
  · rw [if_pos hit, XS_two _ (t + 1) i t (by omega) (by omega) (by omega), h.diag i hit i hi, if_pos rfl, one_gmul _ (hx i), h1, gmul_one _ (h.b _ _)]
    intro c hc h2 h3
    rw [h.diag c (by omega) i hi, if_neg (by omega), zero_gmul]
  · rw [if_neg hit, Nat.zero_xor, XS_one _ (t + 1) t (by omega), h1, gmul_one _ (h.b _ _)]
    intro c hc h2
    rw [h.diag c (by omega) i hi, if_neg (by omega), zero_gmul]
theorem ElI.found {r t : Nat} {M0 M : Nat → Nat → Nat} (h : ElI r t t M0 M) (hz : ∀ i, t ≤ i → i < r → M i t = 0) : Sol r t M0 (fun c => if c < t then M c t else 1) := by
  have hx : bytesX (fun c => if c < t then M c t else 1) := by
    intro c
    show (if c < t then M c t else 1) < 256
    split
    · exact h.b _ _
    · decide
  refine (h.sol _ hx).1 fun i hi => ?_
  rw [h.sum hx (if_neg (by omega)) hi]
  by_cases hit : i < t
  · rw [if_pos hit]
    show (if i < t then M i t else 1) ^^^ _ = 0
    rw [if_pos hit, Nat.xor_self]
  · rw [if_neg hit, hz i (by omega) hi]; rfl
theorem ElI.must {r t : Nat} {M0 M : Nat → Nat → Nat} (h : ElI r t t M0 M) {x : Nat → Nat} (hx : bytesX x) (h1 : x t = 1) (hs : Sol r t M0 x) : ∀ i, t ≤ i → i < r → M i t = 0 := by
  intro i h2 hi
  have := (h.sol x hx).2 hs i hi
  rw [h.sum hx h1 hi, if_neg (by omega), Nat.zero_xor] at this
  exact this
/- the code's rows -/
def restL (pl word : List Nat) : List Nat := (List.range word.length).map fun i => if i ∈ pl then 0 else word.getD i 0
def M0F (n : Nat) (pl vals : List Nat) (i c : Nat) : Nat := if c < pl.length then gexp (i * ex n (pl.getD c 0)) else vals.getD i 0
theorem map_getD (f : Nat → Nat) (n i : Nat) (h : i < n) : ((List.range n).map f).getD i 0 = f i := by
  rw [List.getD_eq_getElem?_getD, List.getElem?_map, List.getElem?_range h]; rfl
theorem LS_perm {f : Nat → Nat} {a b : List Nat} (h : List.Perm a b) : LS f a = LS f b := by
  induction h with
  | nil => rfl
  | cons x _ ih => show f x ^^^ _ = f x ^^^ _; rw [ih]
  | swap x y l => show f y ^^^ (f x ^^^ LS f l) = f x ^^^ (f y ^^^ LS f l); rw [← Nat.xor_assoc, ← Nat.xor_assoc, Nat.xor_comm (f y)]
  | trans _ _ h1 h2 => rw [h1, h2]
theorem LS_index (f : Nat → Nat) (l : List Nat) : LS f l = XS (fun c => f (l.getD c 0)) l.length := by
  induction l with
  | nil => rfl
  | cons a l ih =>
    rw [List.length_cons, XS_first]
    show f a ^^^ LS f l = f a ^^^ _
    rw [ih]; rfl
theorem idx_getD {pl : List Nat} (h : pl.Nodup) {c : Nat} (hc : c < pl.length) : pl.idxOf (pl.getD c 0) = c := by
  rw [getD_of _ _ hc]
  exact h.idxOf_getElem c hc
/-- No other word of the places alone is 0 everywhere. -/
theorem M0F_inj {n r : Nat} (hn : n ≤ 255) {pl : List Nat} (hpl : pl.Nodup) (hm : ∀ i ∈ pl, i < n) (hr : pl.length ≤ r) (vals : List Nat) {x : Nat → Nat} (hx : bytesX x) (h0 : x pl.length = 0) (hs : Sol r pl.length (M0F n pl vals) x) : ∀ c, c < pl.length → x c = 0 := by
  have hz := sums_zero hn pl hpl hm (fun i => x (pl.idxOf i)) (fun i => hx _) 0 (fun m hmm => by
    have h1 := hs m (by omega)
    unfold sumR at h1
    have e : XS (fun c => gmul (M0F n pl vals m c) (x c)) (pl.length + 1) = XS (fun c => gmul (M0F n pl vals m c) (x c)) pl.length ^^^ gmul (M0F n pl vals m pl.length) (x pl.length) := rfl
    rw [e, h0, gmul_zero, Nat.xor_zero] at h1
    refine (LS_index _ _).trans (Eq.trans ?_ h1)
    apply XS_congr
    intro c hc
    rw [idx_getD hpl hc]
    unfold M0F
    rw [if_pos hc, Nat.zero_add, Nat.mul_comm, gmul_comm])
  intro c hc
  have := hz (pl.getD c 0) (by rw [getD_of _ _ hc]; exact List.getElem_mem hc)
  rwa [idx_getD hpl hc] at this
/-- The word whose places are filled. -/
def fillP (pl word : List Nat) (x : Nat → Nat) : List Nat := (List.range word.length).map fun i => if i ∈ pl then x (pl.idxOf i) else word.getD i 0
theorem fillP_bytes {pl word : List Nat} (hb : bytesL word) {x : Nat → Nat} (hx : bytesX x) : bytesL (fillP pl word x) := map_bytes (fun i => by split; exact hx _; exact getD_lt hb i) _
theorem restL_bytes {pl word : List Nat} (hb : bytesL word) : bytesL (restL pl word) := map_bytes (fun i => by split; decide; exact getD_lt hb i) _
theorem fillP_len (pl word : List Nat) (x : Nat → Nat) : (fillP pl word x).length = word.length := by unfold fillP; simp
theorem restL_len (pl word : List Nat) : (restL pl word).length = word.length := by unfold restL; simp
/-- The filled word's values. -/
theorem fill_sum {n p : Nat} {pl word : List Nat} (hb : bytesL word) (hl : word.length = n) (hpl : pl.Nodup) (hm : ∀ i ∈ pl, i < n) {x : Nat → Nat} (hx : bytesX x) (h1 : x pl.length = 1) {i : Nat} (hi : i < p) :
    sumR pl.length (M0F n pl (synd (restL pl word) p) i) x = peval (gexp i) (fillP pl word x) := by
  rw [peval_places (fillP_bytes hb hx), fillP_len, hl]
  unfold sumR
  have e : XS (fun c => gmul (M0F n pl (synd (restL pl word) p) i c) (x c)) (pl.length + 1) = XS (fun c => gmul (M0F n pl (synd (restL pl word) p) i c) (x c)) pl.length ^^^ gmul (M0F n pl (synd (restL pl word) p) i pl.length) (x pl.length) := rfl
  have hv : M0F n pl (synd (restL pl word) p) i pl.length = LS (fun k => gmul ((restL pl word).getD k 0) (gexp (ex n k * i))) (List.range n) := by
    unfold M0F
    rw [if_neg (by omega), synd_getD _ _ _ hi, peval_places (restL_bytes hb), restL_len, hl]
  rw [e, h1, hv, gmul_one _ (LS_lt _ (fun _ => gmul_lt _ _) _)]
  have hA : XS (fun c => gmul (M0F n pl (synd (restL pl word) p) i c) (x c)) pl.length = LS (fun k => if k ∈ pl then gmul (x (pl.idxOf k)) (gexp (ex n k * i)) else 0) (List.range n) := by
    have hp : List.Perm ((List.range n).filter fun k => decide (k ∈ pl)) pl := (List.perm_ext_iff_of_nodup (List.Pairwise.filter _ List.nodup_range) hpl).2 fun k => by
      rw [List.mem_filter, List.mem_range, decide_eq_true_eq]
      exact ⟨fun h => h.2, fun h => ⟨hm k h, h⟩⟩
    rw [← LS_filter _ (fun k => decide (k ∈ pl)) (List.range n) (fun k _ hk => if_neg (of_decide_eq_false hk)), LS_perm hp, LS_index]
    apply XS_congr
    intro c hc
    rw [if_pos (by rw [getD_of _ _ hc]; exact List.getElem_mem hc), idx_getD hpl hc]
    unfold M0F
    rw [if_pos hc, gmul_comm, Nat.mul_comm]
  rw [hA, ← LS_add]
  refine LS_congr _ fun k hk => ?_
  have hk := List.mem_range.1 hk
  unfold restL fillP
  rw [map_getD _ _ _ (by omega), map_getD _ _ _ (by omega)]
  split
  · rw [zero_gmul, Nat.xor_zero]
  · rw [Nat.zero_xor]
/-- What is found is right. -/
theorem found_right {n p : Nat} {pl word : List Nat} (hb : bytesL word) (hl : word.length = n) (hpl : pl.Nodup) (hm : ∀ i ∈ pl, i < n) {x : Nat → Nat} (hx : bytesX x) (h1 : x pl.length = 1) (hs : Sol p pl.length (M0F n pl (synd (restL pl word) p)) x) : rightB (fillP pl word x) p = true :=
  right_of fun i hi => by rw [← fill_sum hb hl hpl hm hx h1 hi]; exact hs i hi
/-- Where there is a right word that differs at the places alone it is found. -/
theorem must_find {n p : Nat} {pl word o : List Nat} (hb : bytesL word) (hl : word.length = n) (hpl : pl.Nodup) (hm : ∀ i ∈ pl, i < n) (hob : bytesL o) (hol : o.length = n) (ho : rightB o p = true) (hoff : ∀ i, i < n → i ∉ pl → o.getD i 0 = word.getD i 0) :
    ∃ x, bytesX x ∧ x pl.length = 1 ∧ Sol p pl.length (M0F n pl (synd (restL pl word) p)) x := by
  have hx : bytesX (fun c => if c < pl.length then o.getD (pl.getD c 0) 0 else 1) := by
    intro c
    show (if c < pl.length then o.getD (pl.getD c 0) 0 else 1) < 256
    split
    · exact getD_lt hob _
    · decide
  refine ⟨_, hx, if_neg (by omega), fun i hi => ?_⟩
  rw [fill_sum hb hl hpl hm hx (if_neg (by omega)) hi]
  have e : fillP pl word (fun c => if c < pl.length then o.getD (pl.getD c 0) 0 else 1) = o := by
    apply list_ext (by rw [fillP_len, hl, hol])
    intro k
    by_cases hk : k < n
    · unfold fillP
      rw [map_getD _ _ _ (by omega)]
      split
      · rename_i hin
        have hidx := List.idxOf_lt_length_of_mem hin
        show (if pl.idxOf k < pl.length then o.getD (pl.getD (pl.idxOf k) 0) 0 else 1) = o.getD k 0
        rw [if_pos hidx, getD_of _ _ hidx, List.getElem_idxOf hidx]
      · rename_i hin
        exact (hoff k hk hin).symm
    · rw [getD_ge _ _ (by rw [fillP_len]; omega), getD_ge _ _ (by omega)]
  rw [e]
  exact synd_zero ho i hi
end Tri
