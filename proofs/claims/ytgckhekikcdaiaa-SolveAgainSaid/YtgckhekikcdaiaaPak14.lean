/-
  What is told of an argument, opened: structs of ints, bools and texts by value, and slices of such, cell by cell.
  What is told of an argument, opened: structs of slices by value (Word, Spoilt of chapter 07).
  Own rows of ints of either sign; append of one.
-/
import Derived.Test.YtgckhekikcdaiaaPak13
import Derived.Test.YtgckhekikcdaiaaPak11
import Derived.Test.YtgckhekikcdaiaaPak4
namespace Go.Proofs.Ytgckhekikcdaiaa
open Go.ChangeShapes Go.WideShapes Go.ChangeAt Go.RowKit

/-- What a cell may be: an int of a kind, a text, or a bool. -/
def leafOk : Option (Option IntKind) → Value → Prop
  | some (some k), v => ∃ x, v = .int k x ∧ (Lit.int k x).wf = true
  | some none, v => ∃ s : ByteArray, v = .string s ∧ s.size ≤ maxLen
  | none, v => ∃ b : Bool, v = .bool b
def isLeafB (d : Option TypeDesc) : Option (Option IntKind) → Bool
  | some (some k) => isIntB d k
  | some none => match d with | some .string => true | _ => false
  | none => match d with | some .bool => true | _ => false
/-- What the openers ask of a type. -/
def flatOf (P : Program) (t : TypeId) (ks : List (TypeId × Option (Option IntKind))) : Bool :=
  decide (P.cellsOf t = ks.length) && ((List.range ks.length).all (fun i => decide (leafAt P 6 t i = (ks[i]?).map (·.1))) && ks.all (fun k => isLeafB (P.underlying k.1) k.2))
section
variable {H : Type} {enc : TypeId × Value → H} {P : Program} {w : World} {base : Nat} {spare : Nat → Bool} {held : Bool}
theorem leaf_of {t : TypeId} {k : Option (Option IntKind)} {v : Value} {fuel : Nat} {x : DataW H × List MemPlace} (hl : isLeafB (P.underlying t) k = true) (h : DataW.trod enc P w base spare held fuel t [v] = some x) : leafOk k v := by
  match k, hl with
  | some (some k), hl =>
    obtain ⟨x, e, _, hw⟩ := DataW.trod_int (isIntB_eq hl) h
    simp only [List.cons.injEq, and_true] at e
    exact ⟨x, e, hw⟩
  | some none, hl =>
    have hu : P.underlying t = some .string := by
      simp only [isLeafB] at hl
      split at hl
      · rename_i h; exact h
      · cases hl
    obtain ⟨s, e, _, hs⟩ := DataW.trod_string hu h
    simp only [List.cons.injEq, and_true] at e
    exact ⟨s, e, hs⟩
  | none, hl =>
    have hu : P.underlying t = some .bool := by
      simp only [isLeafB] at hl
      split at hl
      · rename_i h; exact h
      · cases hl
    obtain ⟨b, e, _⟩ := DataW.trod_bool hu h
    simp only [List.cons.injEq, and_true] at e
    exact ⟨b, e⟩
theorem flat_row {t : TypeId} {ks : List (TypeId × Option (Option IntKind))} {fuel : Nat} {cs : List Value} {x : DataW H × List MemPlace} (hk : flatOf P t ks = true) (hlen : cs.length = P.cellsOf t)
    (h : DataW.trod enc P w base spare held fuel t cs = some x) : cs.length = ks.length ∧ ∀ (i : Nat) (k : TypeId × Option (Option IntKind)), ks[i]? = some k → ∃ v, cs[i]? = some v ∧ leafOk k.2 v := by
  unfold flatOf at hk
  rw [Bool.and_eq_true, Bool.and_eq_true, decide_eq_true_eq] at hk
  obtain ⟨h1, h2, h3⟩ := hk
  refine ⟨by omega, fun i k hki => ?_⟩
  have hi : i < ks.length := (List.getElem?_eq_some_iff.1 hki).1
  have h4 := List.all_eq_true.1 h2 i (List.mem_range.2 hi)
  rw [decide_eq_true_eq, hki] at h4
  obtain ⟨m, y, hm⟩ := trod_leaf 6 t i k.1 h4 fuel cs _ (by omega) h
  have hi' : i < cs.length := by omega
  rw [List.drop_eq_getElem_cons hi'] at hm
  simp only [List.take_succ_cons, List.take_zero] at hm
  exact ⟨cs[i], List.getElem?_eq_getElem hi', leaf_of (List.all_eq_true.1 h3 k (List.mem_of_getElem? hki)) hm⟩
end
/-- The cells of a slice of structs, row by row. -/
def cellsG (w : World) (a : Option Addr) (k : Nat) (rows : List (List Value)) : Prop :=
  ∀ i, i < rows.length → ∃ b o, a = some ⟨b, o, none⟩ ∧ ∀ j v, (rows.getD i [])[j]? = some v → w.cell? ⟨b, o + i * k + j, none⟩ = some v
theorem cellsG.below {w w' : World} {p : Option Addr} {k : Nat} {l : List (List Value)} (h : cellsG w p k l) (hb : Below w.heap.size w w') : cellsG w' p k l := by
  intro i hi
  obtain ⟨b, o, e, hc⟩ := h i hi
  exact ⟨b, o, e, fun j v hv => by rw [hb.cell (p := ⟨b, o + i * k + j, none⟩) (block_lt_of_cell (hc j v hv))]; exact hc j v hv⟩
/-- What is told of a slice of structs that came in. -/
def IsFlat (ks : List (TypeId × Option (Option IntKind))) (w : World) (a : Option Addr) (len cap : Nat) (rows : List (List Value)) : Prop :=
  len = rows.length ∧ len ≤ cap ∧ cap ≤ 140737488351232 ∧ cellsG w a ks.length rows ∧ ∀ r ∈ rows, r.length = ks.length ∧ ∀ (i : Nat) (k : TypeId × Option (Option IntKind)), ks[i]? = some k → ∃ v, r[i]? = some v ∧ leafOk k.2 v

theorem open_flat {H : Type} {enc : TypeId × Value → H} {W : World} {base t e j len cap bs : Nat} {a : Option Addr} {d : DataW H} {p : List MemPlace} {ts : List TypeId} {ds : List (DataW H)} (ks : List (TypeId × Option (Option IntKind)))
    (hsz : (DataW.weightsEach Try.prog ts ds).all (· ≤ reachBytes) = true) (ht : ts[j]? = some t) (hd : ds[j]? = some d)
    (hu : Try.prog.underlying t = some (.slice e)) (hk : flatOf Try.prog e ks = true) (hb : Try.prog.bytesOf e = bs) (hb0 : 0 < bs) (hk0 : 0 < ks.length)
    (h : DataW.Trod enc Try.prog W base (fun _ => true) true t (.slice a len cap) d p) : ∃ rows, IsFlat ks W a len cap rows := by
  obtain ⟨fuel, hf⟩ := h
  rcases DataW.trod_slice hu hf with ⟨hcs, _⟩ | ⟨x, l, c, elems, rest, n, _, hcs, hx, hbb, hl, hm, hlen, hel, hsp, _⟩
  · simp [Value.cells] at hcs
    obtain ⟨rfl, rfl, rfl⟩ := hcs
    exact ⟨[], rfl, Nat.le_refl _, by omega, fun i hi => by simp at hi, by simp⟩
  · simp [Value.cells] at hcs
    obtain ⟨rfl, rfl, rfl⟩ := hcs
    simp only [Prod.mk.injEq] at hx
    obtain ⟨rfl, -⟩ := hx
    have h1 := sized_slice hsz ht hd hu
    simp only [List.length_map, hb, reachBytes] at h1
    have hr := (hsp rfl).1
    have hcap : cap ≤ 140737488351232 := by
      have h2 : cap * 1 ≤ (elems.length + rest.length) * bs := Nat.mul_le_mul (by omega) hb0
      omega
    have each : ∀ i, ∃ row : List Value, i < len → (row.length = ks.length ∧ (∀ (q : Nat) (k : TypeId × Option (Option IntKind)), ks[q]? = some k → ∃ v, row[q]? = some v ∧ leafOk k.2 v) ∧ ∀ q v, row[q]? = some v → W.cell? ((x.add (i * ks.length)).add q) = some v) := by
      intro i
      by_cases hi : i < len
      · have h2 := hel i hi
        have hcl : Try.prog.cellsOf e = ks.length := by unfold flatOf at hk; rw [Bool.and_eq_true, decide_eq_true_eq] at hk; exact hk.1
        rw [List.getElem?_eq_getElem (by omega)] at h2
        obtain ⟨cs', hcs', hy⟩ := Option.bind_eq_some_iff.1 h2
        have h5 := World.cells?_some hcs'
        obtain ⟨r1, r2⟩ := flat_row hk h5.2.1 hy
        refine ⟨cs', fun _ => ⟨r1, r2, fun q v hv => ?_⟩⟩
        have hq : q < cs'.length := (List.getElem?_eq_some_iff.1 hv).1
        rw [← hcl, h5.2.2 q (by omega), hv]
      · exact ⟨[], fun h => absurd h hi⟩
    obtain ⟨f, hf'⟩ := Classical.axiomOfChoice each
    refine ⟨(List.range len).map f, by simp, hl, hcap, ?_, ?_⟩
    · intro i hi
      rw [List.length_map, List.length_range] at hi
      have hgi : ((List.range len).map f).getD i [] = f i := by
        rw [List.getD_eq_getElem?_getD, List.getElem?_map, List.getElem?_range hi]; rfl
      obtain ⟨r1, r2, r3⟩ := hf' i hi
      have hs : x.spot = none := by
        obtain ⟨q1, q2, q3⟩ := hf' 0 (by omega)
        have c0 := q3 0 _ (List.getElem?_eq_getElem (by omega))
        have := World.cell?_spot c0
        obtain ⟨xb, xo, xs⟩ := x
        simpa [Addr.add] using this
      obtain ⟨xb, xo, xs⟩ := x
      simp only at hs
      subst hs
      refine ⟨xb, xo, rfl, fun q v hv => ?_⟩
      rw [hgi] at hv
      have := r3 q v hv
      rwa [add_plain, add_plain] at this
    · intro r hr'
      obtain ⟨i, hi, rfl⟩ := List.mem_map.1 hr'
      rw [List.mem_range] at hi
      exact ⟨(hf' i hi).1, (hf' i hi).2.1⟩
/-- A struct by value. -/
theorem open_flatV {H : Type} {enc : TypeId × Value → H} {P : Program} {W : World} {base t : Nat} {v : Value} {d : DataW H} {p : List MemPlace} (ks : List (TypeId × Option (Option IntKind))) (hagg : (match P.underlying t with | some (.struct _) | some (.array _ _) => true | _ => false) = true)
    (hk : flatOf P t ks = true) (hv : Value.okWide P W .any base t v) (h : DataW.Trod enc P W 0 (fun _ => true) true t v d p) :
    ∃ r : List Value, v = .agg r.toArray ∧ r.length = ks.length ∧ ∀ (i : Nat) (k : TypeId × Option (Option IntKind)), ks[i]? = some k → ∃ v, r[i]? = some v ∧ leafOk k.2 v := by
  have hv' : ∃ cs, v = Value.agg cs ∧ cs.size = P.cellsOf t ∧ Row.okWide P W .any base t cs := by
    unfold Value.okWide at hv
    split at hagg
    · rename_i hu; rw [hu] at hv; exact hv
    · rename_i hu; rw [hu] at hv; exact hv
    · cases hagg
  obtain ⟨cs, rfl, hsz, -⟩ := hv'
  obtain ⟨fuel, hf⟩ := h
  have hl : (Value.cells (.agg cs)).toList = cs.toList := rfl
  rw [hl] at hf
  obtain ⟨r1, r2⟩ := flat_row hk (by rw [Array.length_toList]; exact hsz) hf
  exact ⟨cs.toList, by simp, r1, r2⟩
end Go.Proofs.Ytgckhekikcdaiaa

namespace Go.Proofs.Ytgckhekikcdaiaa
open Go.ChangeShapes Go.WideShapes Go.ChangeAt Go.RowKit

section
variable {H : Type} {enc : TypeId × Value → H} {W : World} {base : Nat}
/-- What is weighed of a part. -/
def inReach (P : Program) (t : TypeId) (d : DataW H) : Prop := ∀ n ∈ d.weights P t, n ≤ reachBytes
theorem reach_arg {P : Program} {ts : List TypeId} {ds : List (DataW H)} {j : Nat} {t : TypeId} {d : DataW H} (hsz : (DataW.weightsEach P ts ds).all (· ≤ reachBytes) = true) (ht : ts[j]? = some t) (hd : ds[j]? = some d) : inReach P t d :=
  fun _ hn => of_decide_eq_true (List.all_eq_true.1 hsz _ (DataW.weights_mem_each ht hd _ hn))
theorem reach_field {P : Program} {t : TypeId} {fs : Array Field} (hu : P.underlying t = some (.struct fs)) {xs : List (DataW H × List MemPlace)} (h : inReach P t (.agg (xs.map (·.1)) : DataW H)) {i : Nat} {f : Field} {x : DataW H × List MemPlace} (hf : fs[i]? = some f) (hx : xs[i]? = some x) : inReach P f.type x.1 := by
  intro n hn
  refine h n ?_
  simp only [DataW.weights, hu]
  exact DataW.weights_mem_each (j := i) (by rw [List.getElem?_map, Array.getElem?_toList, hf]; rfl) (by rw [List.getElem?_map, hx]; rfl) n hn
theorem reach_all {P : Program} {t : TypeId} {d : DataW H} (h : inReach P t d) : (DataW.weightsEach P [t] [d]).all (· ≤ reachBytes) = true := by
  simp only [DataW.weightsEach, List.append_nil]
  rw [List.all_eq_true]
  intro n hn
  exact decide_eq_true (h n hn)
theorem slice_of_trod {P : Program} {t e : TypeId} {fuel : Nat} {spare : Nat → Bool} {v : Value} {y : DataW H × List MemPlace} (hu : P.underlying t = some (.slice e)) (h : DataW.trod enc P W base spare true fuel t [v] = some y) : ∃ a l c, v = .slice a l c := by
  rcases DataW.trod_slice hu h with ⟨hcs, _⟩ | ⟨x, l, c, elems, rest, n, _, hcs, _⟩
  · simp only [List.cons.injEq, and_true] at hcs
    exact ⟨_, _, _, hcs⟩
  · simp only [List.cons.injEq, and_true] at hcs
    exact ⟨_, _, _, hcs⟩
theorem bytes_in {t e : TypeId} {fuel : Nat} {v : Value} {y : DataW H × List MemPlace} (hr : inReach Try.prog t y.1) (hu : Try.prog.underlying t = some (.slice e)) (he : Try.prog.underlying e = some (.int .u8)) (hc : Try.prog.cellsOf e = 1) (hb : Try.prog.bytesOf e = 1)
    (h : DataW.trod enc Try.prog W base (fun _ => true) true fuel t [v] = some y) : ∃ a l c zs, v = .slice a l c ∧ IsBytes W a l c zs := by
  obtain ⟨a, l, c, rfl⟩ := slice_of_trod hu h
  obtain ⟨zs, hz⟩ := open_bytes (j := 0) (reach_all hr) rfl rfl hu he hc hb (⟨fuel, h⟩ : DataW.Trod enc Try.prog W base (fun _ => true) true t (.slice a l c) y.1 y.2)
  exact ⟨a, l, c, zs, rfl, hz⟩
theorem ints_in {t e : TypeId} {fuel : Nat} {v : Value} {y : DataW H × List MemPlace} (hr : inReach Try.prog t y.1) (hu : Try.prog.underlying t = some (.slice e)) (he : Try.prog.underlying e = some (.int .i64)) (hc : Try.prog.cellsOf e = 1) (hb : Try.prog.bytesOf e = 8)
    (h : DataW.trod enc Try.prog W base (fun _ => true) true fuel t [v] = some y) : ∃ a l c zs, v = .slice a l c ∧ IsInts W a l c zs := by
  obtain ⟨a, l, c, rfl⟩ := slice_of_trod hu h
  obtain ⟨zs, hz⟩ := open_intsZ (j := 0) (reach_all hr) rfl rfl hu he hc hb (⟨fuel, h⟩ : DataW.Trod enc Try.prog W base (fun _ => true) true t (.slice a l c) y.1 y.2)
  exact ⟨a, l, c, zs, rfl, hz⟩
theorem flat_in {t e bs : Nat} {fuel : Nat} {v : Value} {y : DataW H × List MemPlace} (ks : List (TypeId × Option (Option IntKind))) (hr : inReach Try.prog t y.1) (hu : Try.prog.underlying t = some (.slice e)) (hk : flatOf Try.prog e ks = true) (hb : Try.prog.bytesOf e = bs) (hb0 : 0 < bs) (hk0 : 0 < ks.length)
    (h : DataW.trod enc Try.prog W base (fun _ => true) true fuel t [v] = some y) : ∃ a l c rows, v = .slice a l c ∧ IsFlat ks W a l c rows := by
  obtain ⟨a, l, c, rfl⟩ := slice_of_trod hu h
  obtain ⟨zs, hz⟩ := open_flat (j := 0) ks (reach_all hr) rfl rfl hu hk hb hb0 hk0 (⟨fuel, h⟩ : DataW.Trod enc Try.prog W base (fun _ => true) true t (.slice a l c) y.1 y.2)
  exact ⟨a, l, c, zs, rfl, hz⟩
end
set_option linter.constructorNameAsVariable false in
set_option maxRecDepth 100000 in
/-- A struct of one slice of bytes and one of whole numbers. -/
theorem open_word {H : Type} {enc : TypeId × Value → H} {W : World} {base t b u eb eu j : Nat} {v : Value} {d : DataW H} {p : List MemPlace} {ts : List TypeId} {ds : List (DataW H)} {f0 f1 : Field}
    (hsz : (DataW.weightsEach Try.prog ts ds).all (· ≤ reachBytes) = true) (ht : ts[j]? = some t) (hd : ds[j]? = some d)
    (hs : Try.prog.underlying t = some (.struct #[f0, f1])) (hf0 : f0.type = b ∧ f0.offset = 0) (hf1 : f1.type = u ∧ f1.offset = 1) (hcb : Try.prog.cellsOf b = 1) (hcu : Try.prog.cellsOf u = 1) (hct : Try.prog.cellsOf t = 2)
    (hub : Try.prog.underlying b = some (.slice eb)) (heb : Try.prog.underlying eb = some (.int .u8)) (hceb : Try.prog.cellsOf eb = 1) (hbeb : Try.prog.bytesOf eb = 1)
    (huu : Try.prog.underlying u = some (.slice eu)) (heu : Try.prog.underlying eu = some (.int .i64)) (hceu : Try.prog.cellsOf eu = 1) (hbeu : Try.prog.bytesOf eu = 8)
    (hv : Value.okWide Try.prog W .any base t v) (h : DataW.Trod enc Try.prog W 0 (fun _ => true) true t v d p) :
    ∃ a l c zs a' l' c' zs', v = .agg #[.slice a l c, .slice a' l' c'] ∧ IsBytes W a l c zs ∧ IsInts W a' l' c' zs' := by
  have hv' : ∃ cs, v = Value.agg cs ∧ cs.size = Try.prog.cellsOf t ∧ Row.okWide Try.prog W .any base t cs := by
    unfold Value.okWide at hv; rw [hs] at hv; exact hv
  obtain ⟨cs, rfl, hsz2, -⟩ := hv'
  obtain ⟨fuel, hf⟩ := h
  have hl : (Value.cells (.agg cs)).toList = cs.toList := rfl
  rw [hl] at hf
  rw [hct] at hsz2
  obtain ⟨c⟩ := cs
  match c, hsz2 with
  | [v0, v1], _ =>
    have hr := reach_arg hsz ht hd
    obtain ⟨xs, n, _, hx, _, hxl, hat⟩ := DataW.trod_struct hs hf
    simp only [Prod.mk.injEq] at hx
    obtain ⟨rfl, -⟩ := hx
    obtain ⟨h0t, h0o⟩ := hf0
    obtain ⟨h1t, h1o⟩ := hf1
    have hl0 : 0 < xs.length := by rw [hxl]; simp
    have hl1 : 1 < xs.length := by rw [hxl]; simp
    have e0 := hat 0 f0 rfl
    have e1 := hat 1 f1 rfl
    have r0 := reach_field hs hr (i := 0) (f := f0) rfl (List.getElem?_eq_getElem hl0)
    have r1 := reach_field hs hr (i := 1) (f := f1) rfl (List.getElem?_eq_getElem hl1)
    rw [h0t, h0o, hcb, List.getElem?_eq_getElem hl0] at e0
    rw [h1t, h1o, hcu, List.getElem?_eq_getElem hl1] at e1
    rw [h0t] at r0
    rw [h1t] at r1
    obtain ⟨a, l, c, zs, rfl, w0⟩ := bytes_in r0 hub heb hceb hbeb e0
    obtain ⟨a', l', c', zs', rfl, w1⟩ := ints_in r1 huu heu hceu hbeu e1
    exact ⟨a, l, c, zs, a', l', c', zs', rfl, w0, w1⟩
end Go.Proofs.Ytgckhekikcdaiaa

namespace Go.Proofs.Ytgckhekikcdaiaa
open Go.RowKit

def rowZ (w : World) (base : Nat) (v : Value) (l : List Int) : Prop := w.ownsRow base 3 1 v l.length (l.map fun x => Value.int .i64 x)
theorem rowZ.cells {w : World} {base : Nat} {v : Value} {l : List Int} (h : rowZ w base v l) : ∃ p c, v = .slice p l.length c ∧ l.length ≤ c ∧ cellsZ w p l := by
  have h' := h
  unfold rowZ at h'
  rcases h.2 with ⟨rfl, h0⟩ | ⟨g, cap, cur, rfl, _, _, hle, _, _, _⟩
  · refine ⟨none, 0, by rw [h0], by omega, ?_⟩
    rw [List.eq_nil_of_length_eq_zero h0]; exact cellsZ.nil _ _
  · refine ⟨_, _, rfl, hle, ?_⟩
    intro i hi
    refine ⟨_, _, rfl, ?_⟩
    rw [Nat.zero_add, h'.cellAt i (by omega), List.getElem?_map, List.getElem?_eq_getElem hi]
    simp [hi]
theorem rowZ.nil (w : World) (base : Nat) : rowZ w base (.slice none 0 0) [] := ⟨rfl, .inl ⟨rfl, rfl⟩⟩
theorem Try.infoZ : (Try.prog.info? 3).map (fun i => (i.zero, i.size, i.bytes)) = some (some (.int .i64 0), 1, 8) := by kernel_rfl
theorem wpList_pushZ {P : Program} {wr : World} {ops : Array Oper} {rest : List Oper} {o : Oper} {a : Act} {Q : Exit → Act → World → Prop} (hgd : o.guard = none) (s x : Operand) (t : TypeId)
    (ho : o.op = .call { callee := .builtin .append, args := #[s, x], argTypes := #[t, t] })
    (base : Nat) (i : TypeInfo) (ht : P.underlying t = some (.slice 3)) (hi : P.info? 3 = some i) (hz : i.zero = some (.int .i64 0))
    (hsize : i.size = 1) (hby : i.bytes = 8)
    (v : Value) (l : List Int) (y : Int) (hown : rowZ wr base v l) (hs : a.eval s = v)
    (g : Nat) (hx : a.eval x = .slice (some ⟨g, 0, none⟩) 1 1) (hg : g = wr.heap.size) (hlen : l.length ≤ 1000000) (hbase : base ≤ wr.heap.size)
    (h : ∀ v' w', rowZ w' base v' (l ++ [y]) → Below base wr w' → wpList P ops Q rest (a.put o.dst v') w') :
    wpList P ops Q (o :: rest) a (wr.alloc (.cells #[.int .i64 y] 3)) := by
  subst hg
  refine wpList_append_own (wr.alloc (.cells #[.int .i64 y] 3)) hgd s x t ho base 3 i (.int .i64 0) 1 8 ht hi hz hsize hby rfl (by decide) v l.length (l.map fun x => Value.int .i64 x) hs (World.ownsRow.alloc hown _)
    ⟨wr.heap.size, 0, none⟩ 1 1 [Value.int .i64 y] hx rfl ?_ ?_ ?_ ?_ ?_ ?_
  · intro j u hj
    match j with
    | 0 =>
      simp only [List.getElem?_cons_zero, Option.some.injEq] at hj
      subst hj
      exact World.cell?_alloc_new wr #[.int .i64 y] 3 0
    | j + 1 => simp at hj
  · intro u hu; simp only [List.mem_singleton] at hu; subst hu; rfl
  · unfold maxLen; omega
  · omega
  · simp; omega
  · intro v' w' h2 h3 _
    refine h v' w' ?_ ?_
    · unfold rowZ; rw [List.length_append, List.map_append]; exact h2
    · have hb0 : Below base wr (wr.alloc (.cells #[.int .i64 y] 3)) := ((Below.refl _ _).alloc (Nat.le_refl _) _).mono hbase
      refine hb0.grown h3 (by simp; omega) ?_
      intro b hb
      rcases hown.2 with ⟨h4, _⟩ | ⟨g', cap, cur, h4, h5, _⟩
      · rw [h4] at hb; simp [Value.ownBlock] at hb
      · rw [h4] at hb; simp only [Value.ownBlock, Option.some.injEq] at hb; omega
end Go.Proofs.Ytgckhekikcdaiaa
