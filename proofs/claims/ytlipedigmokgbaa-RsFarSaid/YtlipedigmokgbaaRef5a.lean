/-
  The document's polynomials (the reference): from bytes, back to bytes, sums.
-/
import Derived.Test.YtlipedigmokgbaaPush
namespace Tri
/-- A polynomial's factors, the lowest power first, without noughts at the end. -/
def rof (l : List Nat) : List Nat := cutR l.reverse
def rbytes (l : List Nat) : List Nat := (cutR l).reverse
theorem rev_take_succ (l : List Nat) (j k : Nat) (h : l.length = j + 1 + k) : l.reverse.take (k + 1) = l.reverse.take k ++ [l.getD j 0] := by
  rw [List.take_succ_eq_append_getElem (by rw [List.length_reverse]; omega)]
  congr 2
  rw [List.getElem_reverse, List.getD_eq_getElem?_getD, List.getElem?_eq_getElem (by omega : j < l.length)]
  simp only [Option.getD_some]
  congr 1
  omega
end Tri
namespace Go.Proofs.Ytlipedigmokgbaa
open Go.RowKit Tri

set_option maxHeartbeats 1000000 in
set_option maxRecDepth 100000 in
theorem ref5_Of (p : Option Addr) (n c : Nat) (l : List Nat) (w : World) (hn : n = l.length) (hp : cellsB w p l) (hb : bytesL l) (hl : l.length ≤ 100000) :
    Calls Try.prog 20 #[.slice p n c] w (RetI w (rof l)) := by
  subst hn
  have HP := hid hp
  have HB := hid hb
  clear hp hb
  obtain ⟨i0, hi, hz0, hz1, hz2⟩ := info_parts Try.infoI
  go_enter Try.func20, Try.ntmps20
  go_wp2_with ((with_reducible refine wpList_unguard ?_ ?_); (focus rfl))
  have hown0 : Hid (ownsI (w.alloc (.cells #[] 3)) w.heap.size (.slice (some ⟨w.heap.size, 0, none⟩) 0 0) []) := World.ownsRow_lit w #[] 0 (Nat.le_refl _) (by unfold maxLen; omega) rfl
  have hB0 : Hid (Below w.heap.size w (w.alloc (.cells #[] 3))) := (Below.refl _ _).alloc (Nat.le_refl _) _
  have hwr : IntKind.i64.wrap ((l.length : Int) - 1) = (l.length : Int) - 1 := by rw [IntKind.wrap_i64]; omega
  go_wp2_with ((with_reducible refine wpList_unguard ?_ ?_); (focus rfl))
  go_loopw [3, 4] (fun s i wr => ∃ k : Nat, k ≤ l.length ∧ i = .int .i64 ((l.length : Int) - 1 - k) ∧ ownsI wr w.heap.size s (l.reverse.take k) ∧ Below w.heap.size w wr) (fun _ i _ => (intOf i + 1).toNat)
  case atStart => exact ⟨0, Nat.zero_le _, by simp [hwr], hown0.out, hB0.out⟩
  case round =>
    obtain ⟨k, hk, rfl, hO, hB⟩ := hrel
    have HO := hid hO
    have HB1 := hid hB
    clear hO hB hown0 hB0
    by_cases hlt : k < l.length
    · obtain ⟨j, hj⟩ : ∃ j, l.length = j + 1 + k := ⟨l.length - 1 - k, by omega⟩
      have hji : (l.length : Int) - 1 - (k : Int) = (j : Int) := by omega
      have hji2 : Hid ((l.length : Int) - 1 - ((k + 1 : Nat) : Int) = (j : Int) - 1) := by show _ = _; omega
      obtain ⟨a, o, rfl, hc0⟩ := HP.out j (by omega)
      have hc : wr.cell? ⟨a, o + j, none⟩ = some (.int .u8 (l.getD j 0 : Nat)) := by
        rw [HB1.out.cell (p := ⟨a, o + j, none⟩) (block_lt_of_cell hc0)]; exact hc0
      have hy := HB.out _ (getD_mem l j (by omega))
      have HS : Hid (l.reverse.take (k + 1) = l.reverse.take k ++ [l.getD j 0]) := rev_take_succ l j k hj
      have hkl : (l.reverse.take k).length ≤ 1000000 := by rw [List.length_take, List.length_reverse]; omega
      have hjl : j < l.length := by omega
      have HJ := hid hj
      clear hc0 hj
      rw [hji]
      generalize hs1 : l.reverse.take (k + 1) = S1 at *
      have HS1 := hid hs1
      clear hs1
      generalize l.getD j 0 = y at *
      generalize l.reverse.take k = S at *
      have hw1 : IntKind.i64.wrap (y : Int) = (y : Int) := by rw [IntKind.wrap_i64]; omega
      have hw2 : IntKind.i64.wrap ((j : Int) - 1) = (j : Int) - 1 := by rw [IntKind.wrap_i64]; omega
      go_wp2_with (at_builtin; refine wpList_push rfl _ _ 27 rfl w.heap.size 3 i0 .i64 8 Try.underlying27 hi hz0 hz1 hz2 (by decide) _ S y HO.out rfl _ rfl rfl hkl HB1.out.size ?_)
      intro v' w' hown' hbel
      have hO' : Hid (ownsI w' w.heap.size v' S1) := by show ownsI _ _ _ _; rw [HS.out]; exact hown'
      have hB' := hid (HB1.out.trans hbel)
      clear hown' hbel
      go_wp2_with ((with_reducible refine wpList_unguard ?_ ?_); (focus rfl))
      go_roundw
      case rel => exact ⟨k + 1, by omega, by rw [hji2.out], by rw [HS1.out]; exact hO'.out, hB'.out⟩
      case measure => simp [intOf] <;> omega
    · obtain rfl : k = l.length := by omega
      have hji : (l.length : Int) - 1 - (l.length : Int) = -1 := by omega
      rw [hji]
      rw [← List.length_reverse, List.take_length] at HO
      obtain ⟨p', c', rfl, hle, hcr⟩ := HO.out.cells
      have HC := hid hcr
      clear hcr
      go_wp2_with ((with_reducible refine wpList_unguard ?_ ?_); (focus rfl))
      refine Calls.mono (ref5_Cut p' _ c' l.reverse wr (by rw [List.length_reverse]) (by rw [List.length_reverse] at hle; exact hle) HC.out (by rw [List.length_reverse]; omega)) ?_; rintro e w' ⟨rfl, rfl⟩
      have hle2 := cutR_length_le l.reverse
      go_wp2_with ((with_reducible refine wpList_unguard ?_ ?_); (focus rfl))
      go_ret
      exact ⟨p', c', rfl, Nat.le_trans hle2 hle, HC.out.cut, HB1.out⟩
set_option maxHeartbeats 400000 in
theorem ref5_at (p : Option Addr) (n c : Nat) (l : List Nat) (k v : Nat) (w : World) (hv : l.getD k 0 = v) (hn : n = l.length) (hp : cellsI w p l) (hl : l.length ≤ 1000000) :
    Calls Try.prog 51 #[.slice p n c, .int .i64 k] w fun e w' => e = .returned (.int .i64 (v : Nat)) ∧ w = w' := by
  subst hn hv
  have HP := hid hp
  clear hp
  go_enter Try.func51, Try.ntmps51
  by_cases hlt : k < l.length
  · obtain ⟨a, o, rfl, hc0⟩ := HP.out k hlt
    generalize l.getD k 0 = x at *
    go_wp2
    go_ret
    exact ⟨rfl, rfl⟩
  · have hz : Hid (l.getD k 0 = 0) := by show _ = _; rw [List.getD_eq_getElem?_getD, List.getElem?_eq_none (by omega)]; rfl
    go_wp2
    go_ret
    exact ⟨by rw [hz.out]; rfl, rfl⟩
end Go.Proofs.Ytlipedigmokgbaa
