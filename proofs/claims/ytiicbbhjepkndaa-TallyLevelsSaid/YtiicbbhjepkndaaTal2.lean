/-
  tally.page.
-/
import Derived.Test.YtiicbbhjepkndaaTal1
import Derived.Test.YtiicbbhjepkndaaMk
import Derived.Test.YtiicbbhjepkndaaBlk
namespace Go.Proofs.Ytiicbbhjepkndaa
open Go.RowKit Tri

def pgRow (c i : Nat) : List Nat := (List.range 16).map fun j => if j < i then sbyte c j else 0
theorem pgRow_set (c i : Nat) (h : i < 16) : (pgRow c i).set i (sbyte c i) = pgRow c (i + 1) := by
  apply List.ext_getElem?
  intro j
  unfold pgRow
  by_cases hj : j = i
  · subst hj
    rw [List.getElem?_set_self (by simp; exact h), List.getElem?_map, List.getElem?_range h]
    simp
  · rw [List.getElem?_set_ne (by omega), List.getElem?_map, List.getElem?_map]
    by_cases h16 : j < 16
    · rw [List.getElem?_range h16]
      simp only [Option.map_some, Option.some.injEq]
      by_cases h1 : j < i
      · rw [if_pos h1, if_pos (by omega)]
      · rw [if_neg h1, if_neg (by omega)]
    · rw [List.getElem?_eq_none (by simp; omega)]
      rfl
theorem pgRow_full (c : Nat) : pgRow c 16 = pageT c := by
  unfold pgRow pageT
  apply List.map_congr_left
  intro j hj
  rw [if_pos (List.mem_range.1 hj)]
theorem pgRow_zero (c : Nat) : pgRow c 0 = List.replicate 16 0 := by
  unfold pgRow
  rfl
def rowB8 (l : List Nat) : Array Value := (l.map fun x => Value.int .u8 (x : Nat)).toArray
set_option maxHeartbeats 8000000 in
set_option maxRecDepth 100000 in
theorem tal_page (c : Nat) (w : World) (hc : c ≤ 1000) :
    Calls Try.prog 112 #[.int .i64 c] w fun e w' => e = .returned (.string (ofB (pageT c))) ∧ Below w.heap.size w w' := by
  have mk : (Instr.makeSlice 30 (.int .i64 16) (.int .i64 16)).run Try.prog w = .ok (.slice (some ⟨w.heap.size, 0, none⟩) 16 16) (w.alloc (.cells (Array.replicate 16 (.int .u8 0)) 5)) := Try.mkB 16 16 (Nat.le_refl _) (by omega) w
  have hb := (Below.refl w.heap.size w).alloc (Nat.le_refl _) (.cells (Array.replicate 16 (.int .u8 0)) 5)
  have hB : Blk (w.alloc (.cells (Array.replicate 16 (.int .u8 0)) 5)) w.heap.size 5 (rowB8 (pgRow c 0)) := by
    rw [pgRow_zero]
    exact Blk.new w _ _
  have HB := hid hb
  have HK := hid hB
  clear hb hB
  (go_enter Try.func112, Try.ntmps112; try simp only [List.append])
  go_wp2_with ((with_reducible refine wpList_unguard ?_ ?_); (focus rfl))
  clear mk
  generalize w.alloc (.cells (Array.replicate 16 (.int .u8 0)) 5) = w1 at *
  go_loopw [9] (fun v wr => ∃ i : Nat, i ≤ 16 ∧ v = .int .i64 i ∧ Blk wr w.heap.size 5 (rowB8 (pgRow c i)) ∧ Below w.heap.size w wr) (fun v _ => 16 - (intOf v).toNat)
  case atStart => exact ⟨0, Nat.zero_le _, rfl, HK.out, HB.out⟩
  case round =>
    obtain ⟨i, hi, rfl, hB, hb⟩ := hrel
    have HBr := hid hb
    by_cases hlt : i < 16
    · have q1 : decide ((i : Int) < 16) = true := decide_eq_true (by omega)
      have cb := hB.cell i (.int .u8 ((0 : Nat) : Int)) (by
        unfold rowB8 pgRow
        rw [List.getElem?_toArray, List.getElem?_map, List.getElem?_map, List.getElem?_range hlt]
        simp)
      have fb := hB.free i
      have HN := hid (hB.set i (.int .u8 ((sbyte c i : Nat) : Int)))
      have HNB := hid (hb.setCell (p := ⟨w.heap.size, i, none⟩) (Nat.le_refl _) (.int .u8 ((sbyte c i : Nat) : Int)))
      clear hB hb HB HK
      have hval : (255 : Int) / 2 ^ (if 8 < if (c : Int) - (i : Int) * 8 < 0 then 0 else (c : Int) - (i : Int) * 8 then 8 else if (c : Int) - (i : Int) * 8 < 0 then 0 else (c : Int) - (i : Int) * 8).toNat = ((sbyte c i : Nat) : Int) := by
        have e : (if 8 < if (c : Int) - (i : Int) * 8 < 0 then 0 else (c : Int) - (i : Int) * 8 then 8 else if (c : Int) - (i : Int) * 8 < 0 then 0 else (c : Int) - (i : Int) * 8).toNat = min (c - 8 * i) 8 := by
          by_cases h1 : (c : Int) - (i : Int) * 8 < 0
          · rw [if_pos h1, if_neg (by omega)]; omega
          · rw [if_neg h1]
            by_cases h2 : 8 < (c : Int) - (i : Int) * 8
            · rw [if_pos h2]; omega
            · rw [if_neg h2]; omega
        rw [e]
        unfold sbyte
        simp
      have HV := hid hval
      have hset : (rowB8 (pgRow c i)).setIfInBounds i (.int .u8 ((sbyte c i : Nat) : Int)) = rowB8 (pgRow c (i + 1)) := by
        rw [← pgRow_set c i hlt]
        unfold rowB8
        simp [List.map_set]
      have HS := hid hset
      clear hval hset
      go_wp2_with ((with_reducible refine wpList_unguard ?_ ?_); (focus rfl))
      go_roundw
      case rel =>
        refine ⟨i + 1, by omega, by go_num, ?_, ?_⟩
        · rw [HV.out, ← HS.out]; exact HN.out
        · rw [HV.out]; exact HNB.out
      case measure => simp [intOf]; omega
    · obtain rfl : i = 16 := by omega
      have hcc : cellsB wr (some ⟨w.heap.size, 0, none⟩) (pageT c) := by
        intro j hj
        rw [pageT_len] at hj
        refine ⟨_, _, rfl, ?_⟩
        rw [Nat.zero_add]
        refine hB.cell j _ ?_
        rw [pgRow_full]
        unfold rowB8
        rw [List.getElem?_toArray, List.getElem?_map, List.getElem?_eq_getElem (by rw [pageT_len]; exact hj), List.getD_eq_getElem?_getD, List.getElem?_eq_getElem (by rw [pageT_len]; exact hj)]
        rfl
      have hcs := fun d => conv_str hcc 16 d (by rw [pageT_len])
      clear hB hb hcc HB HK
      go_wp2_with ((with_reducible refine wpList_unguard ?_ ?_); (focus rfl))
      go_ret
      exact ⟨rfl, HBr.out⟩
end Go.Proofs.Ytiicbbhjepkndaa
