/-
  What is told of an argument, opened: a slice of blocks.
-/
import Derived.Test.YtiailpbmmadaeaaOpenB
import Derived.Test.YtiailpbmmadaeaaOpenS
namespace Go.Proofs.Ytiailpbmmadaeaa
open Go.ChangeShapes Go.WideShapes Go.ChangeAt Go.RowKit

/-- What is told of a slice of blocks that came in: all their bytes, one block behind the other. -/
def IsBlks (w : World) (a : Option Addr) (len cap : Nat) (M : List Nat) : Prop :=
  len ≤ cap ∧ cap ≤ 140737488351232 ∧ M.length = len * 60 ∧ (∀ x ∈ M, x < 256) ∧ cellsB w a M
theorem blk_row {H : Type} {enc : TypeId × Value → H} {W : World} {base e fuel : Nat} {cs : List Value} {y : DataW H × List MemPlace} (he : Try.prog.underlying e = some (.array 60 5)) (hc : Try.prog.cellsOf e = 60)
    (h : DataW.trod enc Try.prog W base (fun _ => true) true fuel e cs = some y) : ∃ row : List Nat, row.length = 60 ∧ (∀ x ∈ row, x < 256) ∧ cs = row.map fun x => Value.int .u8 (x : Nat) := by
  obtain ⟨xs, m, _, _, hlen, hxl, hat⟩ := DataW.trod_array he h
  have hce : Try.prog.cellsOf 5 = 1 := by kernel_rfl
  rw [hc] at hlen
  have each : ∀ i, (hi : i < cs.length) → ∃ x : Nat, x < 256 ∧ cs[i] = .int .u8 (x : Nat) := by
    intro i hi
    have h1 := hat i (by omega)
    rw [hce, Nat.mul_one, List.getElem?_eq_getElem (by omega), List.drop_eq_getElem_cons hi] at h1
    obtain ⟨z, e1, _, hw⟩ := DataW.trod_int Try.underlying5 h1
    simp only [List.take_succ_cons, List.take_zero, List.cons.injEq, and_true] at e1
    obtain ⟨n, hn, rfl⟩ := u8_of hw
    exact ⟨n, hn, e1⟩
  clear hat h
  obtain ⟨row, h1, h2⟩ : ∃ row : List Nat, (∀ x ∈ row, x < 256) ∧ cs = row.map fun x => Value.int .u8 (x : Nat) := by
    clear hlen hxl
    induction cs with
    | nil => exact ⟨[], by simp, rfl⟩
    | cons v cs ih =>
      obtain ⟨x, hx, e1⟩ := each 0 (by simp)
      obtain ⟨row, h1, h2⟩ := ih (fun i hi => by have := each (i + 1) (by simpa using hi); simpa using this)
      refine ⟨x :: row, ?_, ?_⟩
      · intro z hz
        rcases List.mem_cons.1 hz with rfl | hz
        · exact hx
        · exact h1 z hz
      · rw [List.map_cons, ← h2]
        simp only [List.getElem_cons_zero] at e1
        rw [e1]
  exact ⟨row, by have := congrArg List.length h2; rw [List.length_map] at this; omega, h1, h2⟩
set_option linter.constructorNameAsVariable false in
set_option maxRecDepth 1000000 in
theorem open_blks {H : Type} {enc : TypeId × Value → H} {W : World} {base t e j len cap : Nat} {a : Option Addr} {d : DataW H} {p : List MemPlace} {ts : List TypeId} {ds : List (DataW H)}
    (hsz : (DataW.weightsEach Try.prog ts ds).all (· ≤ reachBytes) = true) (ht : ts[j]? = some t) (hd : ds[j]? = some d)
    (hu : Try.prog.underlying t = some (.slice e)) (he : Try.prog.underlying e = some (.array 60 5)) (hc : Try.prog.cellsOf e = 60) (hb : Try.prog.bytesOf e = 60)
    (h : DataW.Trod enc Try.prog W base (fun _ => true) true t (.slice a len cap) d p) : ∃ M, IsBlks W a len cap M := by
  obtain ⟨fuel, hf⟩ := h
  rcases DataW.trod_slice hu hf with ⟨hcs, _⟩ | ⟨x, l, c, elems, rest, n, _, hcs, hx, hbb, hl, hm, hlen, hel, hsp, _⟩
  · simp [Value.cells] at hcs
    obtain ⟨rfl, rfl, rfl⟩ := hcs
    exact ⟨[], Nat.le_refl _, by omega, rfl, by simp, fun i hi => by simp at hi⟩
  · simp [Value.cells] at hcs
    obtain ⟨rfl, rfl, rfl⟩ := hcs
    simp only [Prod.mk.injEq] at hx
    obtain ⟨rfl, -⟩ := hx
    have h1 := sized_slice hsz ht hd hu
    simp only [List.length_map, hb, reachBytes] at h1
    have hr := (hsp rfl).1
    have each : ∀ i, ∃ row : List Nat, i < len → (row.length = 60 ∧ (∀ x ∈ row, x < 256) ∧ ∀ k, k < 60 → W.cell? ((x.add (i * 60)).add k) = some (.int .u8 (row.getD k 0 : Nat))) := by
      intro i
      by_cases hi : i < len
      · have h2 := hel i hi
        rw [hc, List.getElem?_eq_getElem (by omega)] at h2
        obtain ⟨cs', hcs', hy⟩ := Option.bind_eq_some_iff.1 h2
        obtain ⟨row, r1, r2, r3⟩ := blk_row he hc hy
        refine ⟨row, fun _ => ⟨r1, r2, fun k hk => ?_⟩⟩
        have h5 := (World.cells?_some hcs').2.2 k hk
        rw [h5, r3, List.getElem?_map, List.getElem?_eq_getElem (by omega), List.getD_eq_getElem?_getD, List.getElem?_eq_getElem (by omega)]
        rfl
      · exact ⟨[], fun h => absurd h hi⟩
    obtain ⟨f, hf'⟩ := Classical.axiomOfChoice each
    refine ⟨(List.range (len * 60)).map fun q => (f (q / 60)).getD (q % 60) 0, hl, by omega, by simp, ?_, ?_⟩
    · intro z hz
      obtain ⟨q, hq, rfl⟩ := List.mem_map.1 hz
      rw [List.mem_range] at hq
      obtain ⟨r1, r2, _⟩ := hf' (q / 60) (by omega)
      have hq6 : q % 60 < 60 := Nat.mod_lt _ (by omega)
      rw [List.getD_eq_getElem?_getD, List.getElem?_eq_getElem (by omega)]
      exact r2 _ (List.getElem_mem _)
    · intro q hq
      rw [List.length_map, List.length_range] at hq
      have hq6 : q % 60 < 60 := Nat.mod_lt _ (by omega)
      have c0 := (hf' 0 (by omega)).2.2 0 (by omega)
      have c1 := (hf' (q / 60) (by omega)).2.2 (q % 60) hq6
      have hs : x.spot = none := by
        have := World.cell?_spot c0
        obtain ⟨xb, xo, xs⟩ := x
        simpa [Addr.add] using this
      obtain ⟨xb, xo, xs⟩ := x
      simp only at hs
      subst hs
      refine ⟨_, _, rfl, ?_⟩
      rw [add_plain, add_plain, Nat.add_assoc, show q / 60 * 60 + q % 60 = q from by omega] at c1
      rw [c1, List.getD_eq_getElem?_getD (l := List.map _ _), List.getElem?_map, List.getElem?_range hq]
      rfl
end Go.Proofs.Ytiailpbmmadaeaa
