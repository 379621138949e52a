/-
  Numbers in some sizes each, as a text, in the program (record.join).
-/
import Derived.Test.YtngkmlchblgmeaaBld
namespace Go.Proofs.Ytngkmlchblgmeaa
open Go.RowKit

def joinL (L : List (Nat × Nat)) : List Nat := L.flatMap fun q => putB q.1 q.2
theorem joinL_snoc (L : List (Nat × Nat)) (q : Nat × Nat) : joinL (L ++ [q]) = joinL L ++ putB q.1 q.2 := by unfold joinL; rw [List.flatMap_append]; simp
theorem joinL_lt (L : List (Nat × Nat)) : ∀ y ∈ joinL L, y < 256 := by
  intro y hy
  obtain ⟨q, _, h⟩ := List.mem_flatMap.1 hy
  exact putB_lt _ _ y h
theorem joinL_len (L : List (Nat × Nat)) (h : ∀ q ∈ L, q.1 ≤ 7) : (joinL L).length ≤ 7 * L.length := by
  induction L with
  | nil => simp [joinL]
  | cons q L ih =>
    have : joinL (q :: L) = putB q.1 q.2 ++ joinL L := rfl
    rw [this, List.length_append, putB_length, List.length_cons]
    have h1 := h q (by simp)
    have h2 := ih fun r hr => h r (by simp [hr])
    omega
/-- A slice of pairs of ints. -/
def cellsP (w : World) (p : Option Addr) (L : List (Nat × Nat)) : Prop :=
  ∀ i, i < L.length → ∃ a o, p = some ⟨a, o, none⟩ ∧ w.cell? ⟨a, o + i * 2, none⟩ = some (.int .i64 ((L.getD i (0, 0)).1 : Nat)) ∧ w.cell? ⟨a, o + i * 2 + 1, none⟩ = some (.int .i64 ((L.getD i (0, 0)).2 : Nat))
theorem take_snocP (L : List (Nat × Nat)) (k : Nat) (h : k < L.length) : L.take (k + 1) = L.take k ++ [L.getD k (0, 0)] := by
  rw [List.take_succ_eq_append_getElem h]
  simp [h]

set_option maxHeartbeats 2000000 in
set_option maxRecDepth 100000 in
theorem rec_join (p : Option Addr) (n c : Nat) (L : List (Nat × Nat)) (w : World) (hn : n = L.length) (hp : cellsP w p L) (hL : ∀ q ∈ L, 1 ≤ q.1 ∧ q.1 ≤ 7 ∧ q.2 < 2 ^ (8 * q.1)) (hl : L.length ≤ 1000) :
    Calls Try.prog 111 #[.slice p n c] w fun e w' => e = .returned (.string (ofB (joinL L))) ∧ Below w.heap.size w w' := by
  subst hn
  have HP := hid hp
  have HL := hid hL
  clear hp hL
  have HLen : Hid (∀ k, (joinL (L.take k)).length ≤ 7 * L.length) := fun k => by
    have h1 := joinL_len (L.take k) fun q hq => (HL.out q (List.mem_of_mem_take hq)).2.1
    rw [List.length_take] at h1
    omega
  (go_enter Try.func111, Try.ntmps111; try simp only [List.append])
  go_wp2_with ((with_reducible refine wpList_unguard ?_ ?_); (focus rfl))
  have HB0 := hid (bldB.new w)
  have hb0 := hid (show Below w.heap.size w (w.alloc (.cells #[.pointer none, .slice none 0 0] 163)) from (Below.refl _ _).alloc (Nat.le_refl _) _)
  generalize w.alloc (.cells #[.pointer none, .slice none 0 0] 163) = w1 at *
  obtain ⟨B, hB⟩ : ∃ B, w.heap.size = B := ⟨_, rfl⟩
  rw [hB] at HB0
  have HBe := hid hB
  rw [hB]
  clear hB
  go_loopw [10] (fun i wr => ∃ k : Nat, k ≤ L.length ∧ i = .int .i64 k ∧ bldB wr B B (joinL (L.take k)) ∧ Below w.heap.size w wr) (fun i _ => L.length - (intOf i).toNat)
  case atStart => exact ⟨0, Nat.zero_le _, rfl, HB0.out, hb0.out⟩
  case round =>
    clear HB0 hb0
    obtain ⟨k, hk, rfl, hD, hbw⟩ := hrel
    have HD := hid hD
    have HBW := hid hbw
    clear hD hbw
    by_cases hlt : k < L.length
    · obtain ⟨a, o, rfl, hc1, hc2⟩ := HP.out k hlt
      have hd1 : wr.cell? ⟨a, o + k * 2, none⟩ = some (.int .i64 ((L.getD k (0, 0)).1 : Nat)) := by rw [HBW.out.cell (p := ⟨a, o + k * 2, none⟩) (block_lt_of_cell hc1)]; exact hc1
      have hd2 : wr.cell? ⟨a, o + k * 2 + 1, none⟩ = some (.int .i64 ((L.getD k (0, 0)).2 : Nat)) := by rw [HBW.out.cell (p := ⟨a, o + k * 2 + 1, none⟩) (block_lt_of_cell hc2)]; exact hc2
      have hm := HL.out (L.getD k (0, 0)) (by rw [List.getD_eq_getElem?_getD, List.getElem?_eq_getElem hlt]; exact List.getElem_mem _)
      have HS : Hid (joinL (L.take (k + 1)) = joinL (L.take k) ++ putB (L.getD k (0, 0)).1 (L.getD k (0, 0)).2) := by show _ = _; rw [take_snocP L k hlt, joinL_snoc]
      have hjl := HLen.out k
      clear hc1 hc2
      generalize hj2 : joinL (L.take (k + 1)) = J2 at *
      have HJ2 := hid hj2
      clear hj2
      generalize L.getD k (0, 0) = q at *
      obtain ⟨sz, x⟩ := q
      generalize joinL (L.take k) = J at *
      simp only at hd1 hd2 hm HS
      go_wp2_with ((with_reducible refine wpList_unguard ?_ ?_); (focus rfl))
      have hb1 := hid (show Below w.heap.size w (wr.alloc (.cells #[.int .i64 (sz : Nat), .int .i64 (x : Nat)] 174)) from HBW.out.alloc HBW.out.size _)
      have hD1 := hid (HD.out.below (w' := wr.alloc (.cells #[.int .i64 (sz : Nat), .int .i64 (x : Nat)] 174)) ((Below.refl _ _).alloc (Nat.le_refl _) _))
      have hsz : wr.heap.size + 1 = (wr.alloc (.cells #[.int .i64 (sz : Nat), .int .i64 (x : Nat)] 174)).heap.size := by simp
      generalize wr.heap.size + 1 = s1 at *
      generalize wr.alloc (.cells #[.int .i64 (sz : Nat), .int .i64 (x : Nat)] 174) = w2 at *
      refine Calls.mono (num_Put1 sz s1 x _ _ w2 _ hsz rfl rfl hm.1 hm.2.1 hm.2.2) ?_
      rintro e w3 ⟨rfl, hb3⟩
      have HB3 := hid (hb1.out.trans (hb3.mono hb1.out.size))
      have HD3 := hid (hD1.out.below hb3)
      have hpl := putB_length sz x
      have HPLt := hid (putB_lt sz x)
      have hBs : B ≤ w3.heap.size := by have := HBe.out; have := HB3.out.size; omega
      have hjm : J.length + (putB sz x).length ≤ 1000000 := by omega
      clear hb1 hD1 hb3 HD HBW hpl hd1 hd2
      generalize putB sz x = y at *
      go_wp2_with ((with_reducible refine wpList_unguard ?_ ?_); (focus rfl))
      refine Calls.mono (bld_WriteString B B J y w3 HD3.out HPLt.out hjm hBs) ?_
      rintro e w4 ⟨⟨v, rfl⟩, hD4, hb4⟩
      have HD4 : Hid (bldB w4 B B J2) := by show bldB _ _ _ _; rw [HS.out]; exact hD4
      have HB4 : Hid (Below w.heap.size w w4) := by show Below _ _ _; rw [HBe.out] at HB3 ⊢; exact HB3.out.trans hb4
      clear hD4 hb4
      go_wp2_with ((with_reducible refine wpList_unguard ?_ ?_); (focus rfl))
      go_roundw
      case rel => exact ⟨k + 1, by omega, by go_num, by rw [HJ2.out]; exact HD4.out, HB4.out⟩
      case measure => simp [intOf]; omega
    · have hT : Hid (L.take k = L) := by show _ = _; exact List.take_of_length_le (by omega)
      rw [hT.out] at HD
      have hBs : B ≤ wr.heap.size := by have := HBe.out; have := HBW.out.size; omega
      go_wp2_with ((with_reducible refine wpList_unguard ?_ ?_); (focus rfl))
      refine Calls.mono (bld_String B B (joinL L) wr HD.out (joinL_lt L) hBs) ?_
      rintro e w4 ⟨rfl, hb4⟩
      have HB4 : Hid (Below w.heap.size w w4) := by show Below _ _ _; rw [HBe.out] at HBW ⊢; exact HBW.out.trans hb4
      clear hb4
      generalize hT2 : ofB (joinL L) = T at *
      have HT := hid hT2
      clear hT2
      go_wp2_with ((with_reducible refine wpList_unguard ?_ ?_); (focus rfl))
      go_ret
      exact ⟨by rw [HT.out]; rfl, HB4.out⟩
end Go.Proofs.Ytngkmlchblgmeaa
