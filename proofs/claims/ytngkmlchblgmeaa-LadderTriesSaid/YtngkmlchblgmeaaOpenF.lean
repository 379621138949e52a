/-
  What is told of an argument, opened: structs of ints, bools and texts by value, and slices of such, cell by cell.
-/
import Derived.Test.YtngkmlchblgmeaaOpenG
import Derived.Test.YtngkmlchblgmeaaOpenS
namespace Go.Proofs.Ytngkmlchblgmeaa
open Go.ChangeShapes Go.WideShapes Go.ChangeAt Go.RowKit

/-- What a cell may be: an int of a kind, a text, or a bool. -/
def leafOk : Option (Option IntKind) → Value → Prop
  | some (some k), v => ∃ x, v = .int k x ∧ (Lit.int k x).wf = true
  | some none, v => ∃ s : ByteArray, v = .string s ∧ s.size ≤ maxLen
  | none, v => ∃ b : Bool, v = .bool b
def isLeafB (d : Option TypeDesc) : Option (Option IntKind) → Bool
  | some (some k) => isIntB d k
  | some none => match d with | some .string => true | _ => false
  | none => match d with | some .bool => true | _ => false
/-- What the openers ask of a type. -/
def flatOf (P : Program) (t : TypeId) (ks : List (TypeId × Option (Option IntKind))) : Bool :=
  decide (P.cellsOf t = ks.length) && ((List.range ks.length).all (fun i => decide (leafAt P 6 t i = (ks[i]?).map (·.1))) && ks.all (fun k => isLeafB (P.underlying k.1) k.2))
section
variable {H : Type} {enc : TypeId × Value → H} {P : Program} {w : World} {base : Nat} {spare : Nat → Bool} {held : Bool}
theorem leaf_of {t : TypeId} {k : Option (Option IntKind)} {v : Value} {fuel : Nat} {x : DataW H × List MemPlace} (hl : isLeafB (P.underlying t) k = true) (h : DataW.trod enc P w base spare held fuel t [v] = some x) : leafOk k v := by
  match k, hl with
  | some (some k), hl =>
    obtain ⟨x, e, _, hw⟩ := DataW.trod_int (isIntB_eq hl) h
    simp only [List.cons.injEq, and_true] at e
    exact ⟨x, e, hw⟩
  | some none, hl =>
    have hu : P.underlying t = some .string := by
      simp only [isLeafB] at hl
      split at hl
      · rename_i h; exact h
      · cases hl
    obtain ⟨s, e, _, hs⟩ := DataW.trod_string hu h
    simp only [List.cons.injEq, and_true] at e
    exact ⟨s, e, hs⟩
  | none, hl =>
    have hu : P.underlying t = some .bool := by
      simp only [isLeafB] at hl
      split at hl
      · rename_i h; exact h
      · cases hl
    obtain ⟨b, e, _⟩ := DataW.trod_bool hu h
    simp only [List.cons.injEq, and_true] at e
    exact ⟨b, e⟩
theorem flat_row {t : TypeId} {ks : List (TypeId × Option (Option IntKind))} {fuel : Nat} {cs : List Value} {x : DataW H × List MemPlace} (hk : flatOf P t ks = true) (hlen : cs.length = P.cellsOf t)
    (h : DataW.trod enc P w base spare held fuel t cs = some x) : cs.length = ks.length ∧ ∀ (i : Nat) (k : TypeId × Option (Option IntKind)), ks[i]? = some k → ∃ v, cs[i]? = some v ∧ leafOk k.2 v := by
  unfold flatOf at hk
  rw [Bool.and_eq_true, Bool.and_eq_true, decide_eq_true_eq] at hk
  obtain ⟨h1, h2, h3⟩ := hk
  refine ⟨by omega, fun i k hki => ?_⟩
  have hi : i < ks.length := (List.getElem?_eq_some_iff.1 hki).1
  have h4 := List.all_eq_true.1 h2 i (List.mem_range.2 hi)
  rw [decide_eq_true_eq, hki] at h4
  obtain ⟨m, y, hm⟩ := trod_leaf 6 t i k.1 h4 fuel cs _ (by omega) h
  have hi' : i < cs.length := by omega
  rw [List.drop_eq_getElem_cons hi'] at hm
  simp only [List.take_succ_cons, List.take_zero] at hm
  exact ⟨cs[i], List.getElem?_eq_getElem hi', leaf_of (List.all_eq_true.1 h3 k (List.mem_of_getElem? hki)) hm⟩
end
/-- The cells of a slice of structs, row by row. -/
def cellsG (w : World) (a : Option Addr) (k : Nat) (rows : List (List Value)) : Prop :=
  ∀ i, i < rows.length → ∃ b o, a = some ⟨b, o, none⟩ ∧ ∀ j v, (rows.getD i [])[j]? = some v → w.cell? ⟨b, o + i * k + j, none⟩ = some v
theorem cellsG.below {w w' : World} {p : Option Addr} {k : Nat} {l : List (List Value)} (h : cellsG w p k l) (hb : Below w.heap.size w w') : cellsG w' p k l := by
  intro i hi
  obtain ⟨b, o, e, hc⟩ := h i hi
  exact ⟨b, o, e, fun j v hv => by rw [hb.cell (p := ⟨b, o + i * k + j, none⟩) (block_lt_of_cell (hc j v hv))]; exact hc j v hv⟩
/-- What is told of a slice of structs that came in. -/
def IsFlat (ks : List (TypeId × Option (Option IntKind))) (w : World) (a : Option Addr) (len cap : Nat) (rows : List (List Value)) : Prop :=
  len = rows.length ∧ len ≤ cap ∧ cap ≤ 140737488351232 ∧ cellsG w a ks.length rows ∧ ∀ r ∈ rows, r.length = ks.length ∧ ∀ (i : Nat) (k : TypeId × Option (Option IntKind)), ks[i]? = some k → ∃ v, r[i]? = some v ∧ leafOk k.2 v

theorem open_flat {H : Type} {enc : TypeId × Value → H} {W : World} {base t e j len cap bs : Nat} {a : Option Addr} {d : DataW H} {p : List MemPlace} {ts : List TypeId} {ds : List (DataW H)} (ks : List (TypeId × Option (Option IntKind)))
    (hsz : (DataW.weightsEach Try.prog ts ds).all (· ≤ reachBytes) = true) (ht : ts[j]? = some t) (hd : ds[j]? = some d)
    (hu : Try.prog.underlying t = some (.slice e)) (hk : flatOf Try.prog e ks = true) (hb : Try.prog.bytesOf e = bs) (hb0 : 0 < bs) (hk0 : 0 < ks.length)
    (h : DataW.Trod enc Try.prog W base (fun _ => true) true t (.slice a len cap) d p) : ∃ rows, IsFlat ks W a len cap rows := by
  obtain ⟨fuel, hf⟩ := h
  rcases DataW.trod_slice hu hf with ⟨hcs, _⟩ | ⟨x, l, c, elems, rest, n, _, hcs, hx, hbb, hl, hm, hlen, hel, hsp, _⟩
  · simp [Value.cells] at hcs
    obtain ⟨rfl, rfl, rfl⟩ := hcs
    exact ⟨[], rfl, Nat.le_refl _, by omega, fun i hi => by simp at hi, by simp⟩
  · simp [Value.cells] at hcs
    obtain ⟨rfl, rfl, rfl⟩ := hcs
    simp only [Prod.mk.injEq] at hx
    obtain ⟨rfl, -⟩ := hx
    have h1 := sized_slice hsz ht hd hu
    simp only [List.length_map, hb, reachBytes] at h1
    have hr := (hsp rfl).1
    have hcap : cap ≤ 140737488351232 := by
      have h2 : cap * 1 ≤ (elems.length + rest.length) * bs := Nat.mul_le_mul (by omega) hb0
      omega
    have each : ∀ i, ∃ row : List Value, i < len → (row.length = ks.length ∧ (∀ (q : Nat) (k : TypeId × Option (Option IntKind)), ks[q]? = some k → ∃ v, row[q]? = some v ∧ leafOk k.2 v) ∧ ∀ q v, row[q]? = some v → W.cell? ((x.add (i * ks.length)).add q) = some v) := by
      intro i
      by_cases hi : i < len
      · have h2 := hel i hi
        have hcl : Try.prog.cellsOf e = ks.length := by unfold flatOf at hk; rw [Bool.and_eq_true, decide_eq_true_eq] at hk; exact hk.1
        rw [List.getElem?_eq_getElem (by omega)] at h2
        obtain ⟨cs', hcs', hy⟩ := Option.bind_eq_some_iff.1 h2
        have h5 := World.cells?_some hcs'
        obtain ⟨r1, r2⟩ := flat_row hk h5.2.1 hy
        refine ⟨cs', fun _ => ⟨r1, r2, fun q v hv => ?_⟩⟩
        have hq : q < cs'.length := (List.getElem?_eq_some_iff.1 hv).1
        rw [← hcl, h5.2.2 q (by omega), hv]
      · exact ⟨[], fun h => absurd h hi⟩
    obtain ⟨f, hf'⟩ := Classical.axiomOfChoice each
    refine ⟨(List.range len).map f, by simp, hl, hcap, ?_, ?_⟩
    · intro i hi
      rw [List.length_map, List.length_range] at hi
      have hgi : ((List.range len).map f).getD i [] = f i := by
        rw [List.getD_eq_getElem?_getD, List.getElem?_map, List.getElem?_range hi]; rfl
      obtain ⟨r1, r2, r3⟩ := hf' i hi
      have hs : x.spot = none := by
        obtain ⟨q1, q2, q3⟩ := hf' 0 (by omega)
        have c0 := q3 0 _ (List.getElem?_eq_getElem (by omega))
        have := World.cell?_spot c0
        obtain ⟨xb, xo, xs⟩ := x
        simpa [Addr.add] using this
      obtain ⟨xb, xo, xs⟩ := x
      simp only at hs
      subst hs
      refine ⟨xb, xo, rfl, fun q v hv => ?_⟩
      rw [hgi] at hv
      have := r3 q v hv
      rwa [add_plain, add_plain] at this
    · intro r hr'
      obtain ⟨i, hi, rfl⟩ := List.mem_map.1 hr'
      rw [List.mem_range] at hi
      exact ⟨(hf' i hi).1, (hf' i hi).2.1⟩
/-- A struct by value. -/
theorem open_flatV {H : Type} {enc : TypeId × Value → H} {P : Program} {W : World} {base t : Nat} {v : Value} {d : DataW H} {p : List MemPlace} (ks : List (TypeId × Option (Option IntKind))) (hagg : (match P.underlying t with | some (.struct _) | some (.array _ _) => true | _ => false) = true)
    (hk : flatOf P t ks = true) (hv : Value.okWide P W .any base t v) (h : DataW.Trod enc P W 0 (fun _ => true) true t v d p) :
    ∃ r : List Value, v = .agg r.toArray ∧ r.length = ks.length ∧ ∀ (i : Nat) (k : TypeId × Option (Option IntKind)), ks[i]? = some k → ∃ v, r[i]? = some v ∧ leafOk k.2 v := by
  have hv' : ∃ cs, v = Value.agg cs ∧ cs.size = P.cellsOf t ∧ Row.okWide P W .any base t cs := by
    unfold Value.okWide at hv
    split at hagg
    · rename_i hu; rw [hu] at hv; exact hv
    · rename_i hu; rw [hu] at hv; exact hv
    · cases hagg
  obtain ⟨cs, rfl, hsz, -⟩ := hv'
  obtain ⟨fuel, hf⟩ := h
  have hl : (Value.cells (.agg cs)).toList = cs.toList := rfl
  rw [hl] at hf
  obtain ⟨r1, r2⟩ := flat_row hk (by rw [Array.length_toList]; exact hsz) hf
  exact ⟨cs.toList, by simp, r1, r2⟩
end Go.Proofs.Ytngkmlchblgmeaa
