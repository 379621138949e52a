/-
  What is told of an argument, opened: slices of slices of bytes, with the bounds that the form itself gives.
-/
import Derived.Test.YtlipedigmokgbaaOpenS
import Derived.Test.YtlipedigmokgbaaPoly3
namespace Go.Proofs.Ytlipedigmokgbaa
open Go.ChangeShapes Go.WideShapes Go.ChangeAt Go.RowKit

def IsRows (w : World) (a : Option Addr) (len cap : Nat) (L : List (List Nat)) : Prop :=
  len = L.length ∧ len ≤ cap ∧ cap ≤ 140737488351232 ∧ cellsR w a L ∧ ∀ l ∈ L, (∀ x ∈ l, x < 256) ∧ l.length ≤ 140737488351232

theorem sized_innerB {H : Type} {P : Program} {ts : List TypeId} {ds : List (DataW H)} (h : (DataW.weightsEach P ts ds).all (· ≤ reachBytes) = true) {j : Nat} {t e e2 : TypeId} {elems spare es sp : List (DataW H)}
    (ht : ts[j]? = some t) (hd : ds[j]? = some (.slice elems spare)) (hu : P.underlying t = some (.slice e)) (hu2 : P.underlying e = some (.slice e2)) (hx : DataW.slice es sp ∈ elems) : (es.length + sp.length) * P.bytesOf e2 ≤ reachBytes := by
  refine of_decide_eq_true (List.all_eq_true.1 h _ (DataW.weights_mem_each ht hd _ ?_))
  simp only [DataW.weights, hu, List.mem_cons, List.mem_append]
  exact Or.inr (Or.inl (weightsAll_mem hx _ (by simp [DataW.weights, hu2])))

theorem bytes_cells' {W : World} {x : Addr} {len : Nat} {zs : List Int} (hcell : ∀ i, i < zs.length → W.cell? (x.add i) = some (.int .u8 (zs.getD i 0))) (hw : ∀ n ∈ zs, (Lit.int .u8 n).wf = true) :
    cellsB W (some x) ((zs.take len).map Int.toNat) ∧ ∀ y ∈ (zs.take len).map Int.toNat, y < 256 := by
  refine ⟨?_, ?_⟩
  · intro i hi
    rw [List.length_map, List.length_take] at hi
    have hi' : i < zs.length := by omega
    obtain ⟨hx1, hx2⟩ := spot_add (hcell 0 (by omega)) (hcell i hi')
    have hmem : zs[i] ∈ zs := List.getElem_mem hi'
    have hn := u8_of (hw _ hmem)
    refine ⟨_, _, congrArg some hx1, ?_⟩
    rw [hx2]
    have h3 : ((zs.take len).map Int.toNat).getD i 0 = (zs[i]).toNat := by
      simp only [List.getD_eq_getElem?_getD, List.getElem?_map, List.getElem?_take]
      rw [if_pos (by omega), List.getElem?_eq_getElem hi']
      rfl
    rw [h3, List.getD_eq_getElem?_getD, List.getElem?_eq_getElem hi']
    obtain ⟨m, hm1, hm2⟩ := hn
    simp [hm2]
  · intro y hy
    obtain ⟨z, hz1, rfl⟩ := List.mem_map.1 hy
    have hn := u8_of (hw z (List.mem_of_mem_take hz1))
    obtain ⟨m, hm1, hm2⟩ := hn
    omega

theorem open_rows {H : Type} {enc : TypeId × Value → H} {W : World} {base t e e2 j len cap : Nat} {a : Option Addr} {d : DataW H} {p : List MemPlace} {ts : List TypeId} {ds : List (DataW H)}
    (hsz : (DataW.weightsEach Try.prog ts ds).all (· ≤ reachBytes) = true) (ht : ts[j]? = some t) (hd : ds[j]? = some d)
    (hu : Try.prog.underlying t = some (.slice e)) (he : Try.prog.underlying e = some (.slice e2)) (he2 : Try.prog.underlying e2 = some (.int .u8)) (hc : Try.prog.cellsOf e = 1) (hb : Try.prog.bytesOf e = 24)
    (hc2 : Try.prog.cellsOf e2 = 1) (hb2 : Try.prog.bytesOf e2 = 1)
    (h : DataW.Trod enc Try.prog W base (fun _ => true) true t (.slice a len cap) d p) : ∃ L, IsRows W a len cap L := by
  obtain ⟨fuel, hf⟩ := h
  rcases DataW.trod_slice hu hf with ⟨hcs, _⟩ | ⟨x, l, c, elems, rest, n, _, hcs, hx, hbb, hl, hm, hlen, hel, hsp, _⟩
  · simp [Value.cells] at hcs
    obtain ⟨rfl, rfl, rfl⟩ := hcs
    exact ⟨[], rfl, Nat.le_refl _, by omega, fun i hi => by simp at hi, by simp⟩
  · simp [Value.cells] at hcs
    obtain ⟨rfl, rfl, rfl⟩ := hcs
    simp only [Prod.mk.injEq] at hx
    obtain ⟨rfl, -⟩ := hx
    have h1 := sized_slice hsz ht hd hu
    simp only [List.length_map, hb, reachBytes] at h1
    have hr := (hsp rfl).1
    have each : ∀ i, i < len → ∃ row : List Nat, (∃ q c', W.cell? (x.add i) = some (.slice q row.length c') ∧ row.length ≤ c' ∧ cellsB W q row) ∧ (∀ y ∈ row, y < 256) ∧ row.length ≤ 140737488351232 := by
      intro i hi
      have h2 := hel i hi
      rw [hc, Nat.mul_one] at h2
      rw [List.getElem?_eq_getElem (by omega)] at h2
      obtain ⟨cs', hcs', hy⟩ := Option.bind_eq_some_iff.1 h2
      rcases open_ints he he2 hc2 hy with ⟨rfl, _⟩ | ⟨x2, l2, c2, zs, rfl, _, hl2, hm2, hz2, hx2, hcell2, hw2⟩
      · exact ⟨[], ⟨none, 0, cell_of_cells?_one hcs', Nat.le_refl _, cellsB.nil _ _⟩, by simp, by simp⟩
      · simp only [if_true] at hz2
        have hmem : (DataW.slice (lits .u8 (zs.take l2)) (lits .u8 (zs.drop l2)) : DataW H) ∈ elems.map (·.1) := by
          refine List.mem_map.2 ⟨elems[i]'(by omega), List.getElem_mem _, ?_⟩
          rw [hx2]
        have h3 := sized_innerB hsz ht hd hu he hmem
        simp only [lits, List.length_map, List.length_take, List.length_drop, hb2, reachBytes] at h3
        obtain ⟨h4, h5⟩ := bytes_cells' (len := l2) hcell2 hw2
        have hrl : ((zs.take l2).map Int.toNat).length = l2 := by rw [List.length_map, List.length_take]; omega
        refine ⟨(zs.take l2).map Int.toNat, ⟨some x2, c2, ?_, by rw [hrl]; exact hl2, h4⟩, h5, by rw [hrl]; omega⟩
        rw [hrl]
        exact cell_of_cells?_one hcs'
    have each' : ∀ i, ∃ row : List Nat, i < len → (∃ q c', W.cell? (x.add i) = some (.slice q row.length c') ∧ row.length ≤ c' ∧ cellsB W q row) ∧ (∀ y ∈ row, y < 256) ∧ row.length ≤ 140737488351232 := fun i => by
      by_cases hi : i < len
      · obtain ⟨row, hrow⟩ := each i hi
        exact ⟨row, fun _ => hrow⟩
      · exact ⟨[], fun h => absurd h hi⟩
    obtain ⟨f, hf'⟩ := Classical.axiomOfChoice each'
    have hLl : ((List.range len).map f).length = len := by simp
    refine ⟨(List.range len).map f, hLl.symm, hl, by omega, ?_, ?_⟩
    · intro i hi
      rw [hLl] at hi
      have hgi : ((List.range len).map f).getD i [] = f i := by
        rw [List.getD_eq_getElem?_getD, List.getElem?_map, List.getElem?_range hi]; rfl
      obtain ⟨⟨q, c', hcell, hle, hcb⟩, _⟩ := hf' i hi
      obtain ⟨⟨q0, c0', hcell0, _⟩, _⟩ := hf' 0 (by omega)
      obtain ⟨hx1, hx2⟩ := spot_add hcell0 hcell
      rw [hgi]
      exact ⟨_, _, q, c', congrArg some hx1, hx2, hle, hcb⟩
    · intro l hl'
      obtain ⟨i, hi, rfl⟩ := List.mem_map.1 hl'
      rw [List.mem_range] at hi
      exact (hf' i hi).2
end Go.Proofs.Ytlipedigmokgbaa
