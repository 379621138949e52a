/-
  Rows of rows of bytes; the product of many polynomials in the program.
  Conditions: all lengths together are at most 100000.
-/
import Derived.Test.YtlipedigmokgbaaPoly2
namespace Tri
def pmul (l : List (List Nat)) : List Nat := l.foldl ptwo [1]
def lens (l : List (List Nat)) : Nat := (l.map List.length).sum
theorem ptwo_length_le (a b : List Nat) : (ptwo a b).length ≤ a.length + b.length := by
  unfold ptwo
  split
  · simp
  · rw [convTo_length, List.length_replicate]
    have := trim_length_le a
    have := trim_length_le b
    omega
theorem ptwo_bytes {a b : List Nat} (_ha : bytesL a) (_hb : bytesL b) : bytesL (ptwo a b) := by
  unfold ptwo
  split
  · intro y hy; simp at hy
  · refine convTo_bytes ?_ _ _ _
    intro y hy; rw [List.mem_replicate] at hy; omega
theorem pmul_snoc (l : List (List Nat)) (a : List Nat) : pmul (l ++ [a]) = ptwo (pmul l) a := by simp [pmul]
theorem lens_snoc (l : List (List Nat)) (a : List Nat) : lens (l ++ [a]) = lens l + a.length := by simp [lens]
theorem take_snocR (l : List (List Nat)) (k : Nat) (h : k < l.length) : l.take (k + 1) = l.take k ++ [l.getD k []] := by
  rw [List.take_succ_eq_append_getElem h]
  simp [h]
theorem lens_take_le (l : List (List Nat)) (k : Nat) : lens (l.take k) ≤ lens l := by
  have : lens l = lens (l.take k) + lens (l.drop k) := by
    have h := List.take_append_drop k l
    have h2 := congrArg (fun l => (l.map List.length).sum) h
    simp only [List.map_append, List.sum_append] at h2
    unfold lens
    omega
  omega
theorem pmul_take (l : List (List Nat)) (hb : ∀ a ∈ l, bytesL a) (k : Nat) (hk : k ≤ l.length) : (pmul (l.take k)).length ≤ lens (l.take k) + 1 ∧ bytesL (pmul (l.take k)) := by
  induction k with
  | zero =>
    refine ⟨by simp [pmul], ?_⟩
    intro y hy; simp [pmul] at hy; omega
  | succ k ih =>
    obtain ⟨h1, h2⟩ := ih (by omega)
    have hm : l.getD k [] ∈ l := by rw [List.getD_eq_getElem?_getD, List.getElem?_eq_getElem (by omega)]; exact List.getElem_mem _
    rw [take_snocR l k (by omega), pmul_snoc, lens_snoc]
    refine ⟨?_, ptwo_bytes h2 (hb _ hm)⟩
    have := ptwo_length_le (pmul (l.take k)) (l.getD k [])
    omega
end Tri
namespace Go.Proofs.Ytlipedigmokgbaa
open Go.RowKit Tri

/-- A row of rows of bytes. -/
def cellsR (w : World) (p : Option Addr) (l : List (List Nat)) : Prop :=
  ∀ i, i < l.length → ∃ a o q c, p = some ⟨a, o, none⟩ ∧ w.cell? ⟨a, o + i, none⟩ = some (.slice q (l.getD i []).length c) ∧ (l.getD i []).length ≤ c ∧ cellsB w q (l.getD i [])
theorem cellsR.below {w w' : World} {p : Option Addr} {l : List (List Nat)} (h : cellsR w p l) (hb : Below w.heap.size w w') : cellsR w' p l := by
  intro i hi
  obtain ⟨a, o, q, c, e, hc, hle, hq⟩ := h i hi
  exact ⟨a, o, q, c, e, by rw [hb.cell (p := ⟨a, o + i, none⟩) (block_lt_of_cell hc)]; exact hc, hle, hq.below hb⟩

set_option maxHeartbeats 1000000 in
set_option maxRecDepth 100000 in
theorem poly_MulO (f : Nat) (p : Option Addr) (n c : Nat) (l : List (List Nat)) (w : World) (hF : isF w f) (hn : n = l.length) (hp : cellsR w p l) (hb : ∀ a ∈ l, bytesL a) (hl : l.length ≤ 100000) (hz : lens l ≤ 90000) :
    Calls Try.prog 24 #[.pointer (some ⟨f, 0, none⟩), .slice p n c] w (RetO w (pmul l)) := by
  subst hn
  have HP := hid hp
  have HB := hid hb
  have HZ := hid hz
  have HF := hid hF
  clear hp hb hz hF
  go_enter Try.func24, Try.ntmps24
  go_wp2_with ((with_reducible refine wpList_unguard ?_ ?_); (focus rfl))
  have K0 := hid (show Keeps w f (w.alloc (.cells #[.int .u8 1] 5)) from Keeps.alloc ⟨Below.refl _ _, HF.out⟩ _)
  have C0 := hid (cellsB.new w [1] #[.int .u8 1] 5 rfl)
  generalize w.alloc (.cells #[.int .u8 1] 5) = w1 at *
  generalize w.heap.size = b0 at C0 ⊢
  go_loopw [5, 13] (fun s i wr => ∃ k : Nat, k ≤ l.length ∧ i = .int .i64 k ∧ (∃ q d, s = .slice q (pmul (l.take k)).length d ∧ (pmul (l.take k)).length ≤ d ∧ cellsB wr q (pmul (l.take k)) ∧ (q = none ∨ ∃ b, q = some ⟨b, 0, none⟩)) ∧ Keeps w f wr) (fun _ i _ => l.length - (intOf i).toNat)
  case atStart => exact ⟨0, Nat.zero_le _, rfl, ⟨_, _, rfl, Nat.le_refl _, C0.out, .inr ⟨_, rfl⟩⟩, K0.out⟩
  case round =>
    clear K0 C0
    obtain ⟨k, hk, rfl, ⟨q, d, rfl, hle, hq, hqo⟩, hK⟩ := hrel
    have HQO := hid hqo
    have HQ := hid hq
    have K := hid hK
    clear hq hK hqo
    by_cases hlt : k < l.length
    · obtain ⟨a, o, q', c', rfl, hc0, hcc, hq'⟩ := HP.out k hlt
      have hc : wr.cell? ⟨a, o + k, none⟩ = some (.slice q' (l.getD k []).length c') := by
        rw [K.out.1.cell (p := ⟨a, o + k, none⟩) (block_lt_of_cell hc0)]; exact hc0
      have HQ' := hid (hq'.below K.out.1)
      have hpt := pmul_take l HB.out k hk
      have hm : l.getD k [] ∈ l := by rw [List.getD_eq_getElem?_getD, List.getElem?_eq_getElem hlt]; exact List.getElem_mem _
      have hx : Hid (bytesL (l.getD k [])) := HB.out _ hm
      have hlen : (l.getD k []).length ≤ 90000 := by
        have h1 := lens_take_le l (k + 1)
        rw [take_snocR l k hlt, lens_snoc] at h1
        have := HZ.out
        omega
      have hlp : (pmul (l.take k)).length ≤ 100000 := by
        have h1 := lens_take_le l k
        have := HZ.out
        have := hpt.1
        omega
      have HS : Hid (pmul (l.take (k + 1)) = ptwo (pmul (l.take k)) (l.getD k [])) := by show _ = _; rw [take_snocR l k hlt, pmul_snoc]
      have hxb := hid hpt.2
      clear hc0 hq' hpt hm
      generalize l.getD k [] = y at *
      generalize pmul (l.take k) = s at *
      go_wp2_with ((with_reducible refine wpList_unguard ?_ ?_); (focus rfl))
      refine Calls.mono (poly_twoO f q q' _ d _ c' s y wr K.out.2 rfl hle HQ.out rfl hcc HQ'.out hxb.out hx.out hlp (by omega)) ?_
      rintro e w2 ⟨q2, d2, rfl, hle2, hq2, hbel, hqo2⟩
      have HQO2 := hid hqo2
      have HQ2 := hid hq2
      have K2 : Hid (Keeps w f w2) := ⟨K.out.1.trans (hbel.mono K.out.1.size), K.out.2.below hbel K.out.2.lt⟩
      clear hq2 hbel K hqo2
      rw [← HS.out] at hle2 HQ2 ⊢
      clear HS
      generalize hs' : pmul (l.take (k + 1)) = s' at *
      have HS' := hid hs'
      clear hs'
      go_wp2_with ((with_reducible refine wpList_unguard ?_ ?_); (focus rfl))
      go_roundw
      case rel => exact ⟨k + 1, by omega, by go_num, by rw [HS'.out]; exact ⟨q2, d2, rfl, hle2, HQ2.out, HQO2.out⟩, K2.out⟩
      case measure => simp [intOf]; omega
    · have he : Hid (pmul (l.take k) = pmul l) := by show _ = _; rw [List.take_of_length_le (by omega)]
      rw [he.out] at hle HQ ⊢
      go_wp2_with ((with_reducible refine wpList_unguard ?_ ?_); (focus rfl))
      go_ret
      exact ⟨q, d, rfl, hle, HQ.out, K.out.1, HQO.out⟩
theorem poly_Mul (f : Nat) (p : Option Addr) (n c : Nat) (l : List (List Nat)) (w : World) (hF : isF w f) (hn : n = l.length) (hp : cellsR w p l) (hb : ∀ a ∈ l, bytesL a) (hl : l.length ≤ 100000) (hz : lens l ≤ 90000) :
    Calls Try.prog 24 #[.pointer (some ⟨f, 0, none⟩), .slice p n c] w (RetC w (pmul l)) :=
  (poly_MulO f p n c l w hF hn hp hb hl hz).mono fun _ _ h => h.ret
end Go.Proofs.Ytlipedigmokgbaa
