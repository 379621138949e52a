/-
  What is told of an argument, opened: slices of texts and slices of bytes, with the bound that the form itself gives.
-/
import Derived.Test.YtngkmlchblgmeaaStr
import Derived.ProofKit
import Derived.OpenShut
import Derived.SizedLaws
import Derived.SliceStrings
namespace Go.Proofs.Ytngkmlchblgmeaa
open Go.ChangeShapes Go.WideShapes Go.ChangeAt Go.RowKit

def IsStrs (w : World) (a : Option Addr) (len cap : Nat) (l : List ByteArray) : Prop :=
  len = l.length ∧ len ≤ cap ∧ cap ≤ 140737488351232 ∧ cellsS w a l ∧ ∀ s ∈ l, s.size ≤ 140737488351232
def IsBytes (w : World) (a : Option Addr) (len cap : Nat) (l : List Nat) : Prop :=
  len = l.length ∧ len ≤ cap ∧ cap ≤ 140737488351232 ∧ cellsB w a l ∧ ∀ x ∈ l, x < 256

theorem weightsAll_mem {H : Type} {P : Program} {e : TypeId} : ∀ {l : List (DataW H)} {d : DataW H}, d ∈ l → ∀ n ∈ d.weights P e, n ∈ DataW.weightsAll P e l
  | d' :: r, d, hd, n, hn => by
    simp only [DataW.weightsAll, List.mem_append]
    rcases List.mem_cons.1 hd with rfl | h
    · exact Or.inl hn
    · exact Or.inr (weightsAll_mem h n hn)
theorem sized_innerS {H : Type} {P : Program} {ts : List TypeId} {ds : List (DataW H)} (h : (DataW.weightsEach P ts ds).all (· ≤ reachBytes) = true) {j : Nat} {t e : TypeId} {elems spare : List (DataW H)} {cs : List UInt8}
    (ht : ts[j]? = some t) (hd : ds[j]? = some (.slice elems spare)) (hu : P.underlying t = some (.slice e)) (hx : DataW.lit (.string cs) ∈ elems) : cs.length ≤ reachBytes := by
  refine of_decide_eq_true (List.all_eq_true.1 h _ (DataW.weights_mem_each ht hd _ ?_))
  simp only [DataW.weights, hu, List.mem_cons, List.mem_append]
  exact Or.inr (Or.inl (weightsAll_mem hx _ (by simp [DataW.weights])))
theorem getD_takeS (l : List ByteArray) (n i : Nat) (h : i < (l.take n).length) : (l.take n).getD i ByteArray.empty = l.getD i ByteArray.empty := by
  simp only [List.length_take] at h
  simp only [List.getD_eq_getElem?_getD, List.getElem?_take]
  rw [if_pos (by omega)]
theorem spot_add {w : World} {a : Addr} {i : Nat} {v v0 : Value} (h0 : w.cell? (a.add 0) = some v0) (h : w.cell? (a.add i) = some v) : a = ⟨a.block, a.off, none⟩ ∧ w.cell? ⟨a.block, a.off + i, none⟩ = some v := by
  obtain ⟨b, o, s⟩ := a
  have hs : s = none := by simpa [Addr.add] using World.cell?_spot h0
  subst hs
  exact ⟨rfl, by rwa [add_plain] at h⟩

theorem open_strs {H : Type} {enc : TypeId × Value → H} {W : World} {base t e j len cap : Nat} {a : Option Addr} {d : DataW H} {p : List MemPlace} {ts : List TypeId} {ds : List (DataW H)}
    (hsz : (DataW.weightsEach Try.prog ts ds).all (· ≤ reachBytes) = true) (ht : ts[j]? = some t) (hd : ds[j]? = some d)
    (hu : Try.prog.underlying t = some (.slice e)) (he : Try.prog.underlying e = some .string) (hc : Try.prog.cellsOf e = 1) (hb : Try.prog.bytesOf e = 16)
    (h : DataW.Trod enc Try.prog W base (fun _ => true) true t (.slice a len cap) d p) : ∃ l, IsStrs W a len cap l := by
  obtain ⟨fuel, hf⟩ := h
  rcases open_strings hu he hc hf with ⟨hcs, _⟩ | ⟨x, l, c, ss, hcs, _, hl, hm, hz, hx, hcell, _⟩
  · simp [Value.cells] at hcs
    obtain ⟨rfl, rfl, rfl⟩ := hcs
    exact ⟨[], rfl, Nat.le_refl _, by omega, cellsS.nil _ _, by simp⟩
  · simp [Value.cells] at hcs
    obtain ⟨rfl, rfl, rfl⟩ := hcs
    simp only [if_true] at hz
    simp only [Prod.mk.injEq] at hx
    obtain ⟨rfl, -⟩ := hx
    have h1 := sized_slice hsz ht hd hu
    simp only [strs, List.length_map, List.length_take, List.length_drop, hb, reachBytes] at h1
    refine ⟨ss.take len, by rw [List.length_take]; omega, hl, by omega, ?_, ?_⟩
    · intro i hi
      have hi' : i < ss.length := by rw [List.length_take] at hi; omega
      obtain ⟨hx1, hx2⟩ := spot_add (hcell 0 (by omega)) (hcell i hi')
      exact ⟨_, _, congrArg some hx1, by rw [getD_takeS _ _ _ hi]; exact hx2⟩
    · intro s hs
      have h2 := sized_innerS (cs := s.data.toList) hsz ht hd hu (List.mem_map.2 ⟨s, hs, rfl⟩)
      simpa [reachBytes] using h2

theorem open_bytes {H : Type} {enc : TypeId × Value → H} {W : World} {base t e j len cap : Nat} {a : Option Addr} {d : DataW H} {p : List MemPlace} {ts : List TypeId} {ds : List (DataW H)}
    (hsz : (DataW.weightsEach Try.prog ts ds).all (· ≤ reachBytes) = true) (ht : ts[j]? = some t) (hd : ds[j]? = some d)
    (hu : Try.prog.underlying t = some (.slice e)) (he : Try.prog.underlying e = some (.int .u8)) (hc : Try.prog.cellsOf e = 1) (hb : Try.prog.bytesOf e = 1)
    (h : DataW.Trod enc Try.prog W base (fun _ => true) true t (.slice a len cap) d p) : ∃ l, IsBytes W a len cap l := by
  obtain ⟨fuel, hf⟩ := h
  rcases open_ints hu he hc hf with ⟨hcs, _⟩ | ⟨x, l, c, zs, hcs, _, hl, hm, hz, hx, hcell, hw⟩
  · simp [Value.cells] at hcs
    obtain ⟨rfl, rfl, rfl⟩ := hcs
    exact ⟨[], rfl, Nat.le_refl _, by omega, cellsB.nil _ _, by simp⟩
  · simp [Value.cells] at hcs
    obtain ⟨rfl, rfl, rfl⟩ := hcs
    simp only [if_true] at hz
    simp only [Prod.mk.injEq] at hx
    obtain ⟨rfl, -⟩ := hx
    have h1 := sized_slice hsz ht hd hu
    simp only [lits, List.length_map, List.length_take, List.length_drop, hb, reachBytes] at h1
    refine ⟨(zs.take len).map Int.toNat, by rw [List.length_map, List.length_take]; omega, hl, by omega, ?_, ?_⟩
    · intro i hi
      rw [List.length_map, List.length_take] at hi
      have hi' : i < zs.length := by omega
      obtain ⟨hx1, hx2⟩ := spot_add (hcell 0 (by omega)) (hcell i hi')
      have hmem : zs[i] ∈ zs := List.getElem_mem hi'
      have hn := u8_of (hw _ hmem)
      refine ⟨_, _, congrArg some hx1, ?_⟩
      rw [hx2]
      have h3 : ((zs.take len).map Int.toNat).getD i 0 = (zs[i]).toNat := by
        simp only [List.getD_eq_getElem?_getD, List.getElem?_map, List.getElem?_take]
        rw [if_pos (by omega), List.getElem?_eq_getElem hi']
        rfl
      rw [h3, List.getD_eq_getElem?_getD, List.getElem?_eq_getElem hi']
      obtain ⟨m, hm1, hm2⟩ := hn
      simp [hm2]
    · intro y hy
      obtain ⟨z, hz1, rfl⟩ := List.mem_map.1 hy
      have hn := u8_of (hw z (List.mem_of_mem_take hz1))
      obtain ⟨m, hm1, hm2⟩ := hn
      omega
end Go.Proofs.Ytngkmlchblgmeaa
