/-
  What is told of an argument, opened: arrays of two slices of bytes.
-/
import Derived.Test.YtlipedigmokgbaaOpenR
namespace Go.Proofs.Ytlipedigmokgbaa
open Go.ChangeShapes Go.WideShapes Go.ChangeAt Go.RowKit

theorem sized_arrB {H : Type} {P : Program} {ts : List TypeId} {ds : List (DataW H)} (h : (DataW.weightsEach P ts ds).all (· ≤ reachBytes) = true) {j n : Nat} {t e e2 : TypeId} {parts es sp : List (DataW H)}
    (ht : ts[j]? = some t) (hd : ds[j]? = some (.agg parts)) (hu : P.underlying t = some (.array n e)) (hu2 : P.underlying e = some (.slice e2)) (hx : DataW.slice es sp ∈ parts) : (es.length + sp.length) * P.bytesOf e2 ≤ reachBytes := by
  refine of_decide_eq_true (List.all_eq_true.1 h _ (DataW.weights_mem_each ht hd _ ?_))
  simp only [DataW.weights, hu]
  exact weightsAll_mem hx _ (by simp [DataW.weights, hu2])

set_option maxRecDepth 100000 in
theorem open_bytes2 {H : Type} {enc : TypeId × Value → H} {W : World} {base t e e2 j : Nat} {v : Value} {d : DataW H} {p : List MemPlace} {ts : List TypeId} {ds : List (DataW H)}
    (hsz : (DataW.weightsEach Try.prog ts ds).all (· ≤ reachBytes) = true) (ht : ts[j]? = some t) (hd : ds[j]? = some d)
    (hu : Try.prog.underlying t = some (.array 2 e)) (he : Try.prog.underlying e = some (.slice e2)) (he2 : Try.prog.underlying e2 = some (.int .u8)) (hct : Try.prog.cellsOf t = 2) (hc : Try.prog.cellsOf e = 1)
    (hc2 : Try.prog.cellsOf e2 = 1) (hb2 : Try.prog.bytesOf e2 = 1)
    (hv : Value.okWide Try.prog W .any base t v) (h : DataW.Trod enc Try.prog W 0 (fun _ => true) true t v d p) :
    ∃ a l c zs a' l' c' zs', v = .agg #[.slice a l c, .slice a' l' c'] ∧ IsBytes W a l c zs ∧ IsBytes W a' l' c' zs' := by
  have hv' : ∃ cs, v = Value.agg cs ∧ cs.size = Try.prog.cellsOf t ∧ Row.okWide Try.prog W .any base t cs := by
    unfold Value.okWide at hv; rw [hu] at hv; exact hv
  obtain ⟨cs, rfl, hsz2, -⟩ := hv'
  obtain ⟨fuel, hf⟩ := h
  obtain ⟨xs, m, _, hx, hlen, hxl, hat⟩ := DataW.trod_array hu hf
  simp only [Prod.mk.injEq] at hx
  obtain ⟨rfl, -⟩ := hx
  rw [hct] at hsz2
  have hcs : ∀ i, (h : i < cs.size) → ∃ a l c zs, cs[i] = .slice a l c ∧ IsBytes W a l c zs := by
    intro i hi
    have hin : i < 2 := by omega
    have h1 := hat i hin
    rw [hc, Nat.mul_one] at h1
    have hl : (Value.cells (.agg cs)).toList = cs.toList := rfl
    rw [hl] at h1
    have hdt : (cs.toList.drop i).take 1 = [cs[i]] := by
      rw [List.drop_eq_getElem_cons (by simpa using hi)]
      simp
    rw [hdt, List.getElem?_eq_getElem (by omega)] at h1
    rcases open_ints he he2 hc2 h1 with ⟨hcs, _⟩ | ⟨x2, l2, c2, zs, hcs, _, hl2, hm2, hz2, hx2, hcell2, hw2⟩
    · simp only [List.cons.injEq, and_true] at hcs
      exact ⟨none, 0, 0, [], hcs, rfl, Nat.le_refl _, by omega, cellsB.nil _ _, by simp⟩
    · simp only [List.cons.injEq, and_true] at hcs
      simp only [if_true] at hz2
      have hmem : (DataW.slice (lits .u8 (zs.take l2)) (lits .u8 (zs.drop l2)) : DataW H) ∈ xs.map (·.1) := by
        refine List.mem_map.2 ⟨xs[i]'(by omega), List.getElem_mem _, ?_⟩
        rw [hx2]
      have h3 := sized_arrB hsz ht hd hu he hmem
      simp only [lits, List.length_map, List.length_take, List.length_drop, hb2, reachBytes] at h3
      obtain ⟨h4, h5⟩ := bytes_cells' (len := l2) hcell2 hw2
      have hrl : ((zs.take l2).map Int.toNat).length = l2 := by rw [List.length_map, List.length_take]; omega
      exact ⟨some x2, l2, c2, (zs.take l2).map Int.toNat, hcs, hrl.symm, hl2, by omega, h4, h5⟩
  obtain ⟨a, l, c, zs, e0, w0⟩ := hcs 0 (by omega)
  obtain ⟨a', l', c', zs', e1, w1⟩ := hcs 1 (by omega)
  refine ⟨a, l, c, zs, a', l', c', zs', ?_, w0, w1⟩
  congr 1
  apply Array.ext
  · simp [hsz2]
  · intro i h1 h2
    match i, h1 with
    | 0, _ => simpa using e0
    | 1, _ => simpa using e1
    | i + 2, h => exfalso; omega
end Go.Proofs.Ytlipedigmokgbaa
