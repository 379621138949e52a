/-
  slices.Sorted(slices.Values(l)) of whole numbers: a new slice that holds l's numbers, sorted.
-/
import Derived.RangeFuncBox
import Derived.RangeFuncNested
import Derived.RangeFuncCalls
import Derived.RangeFuncLeaves
import Derived.Shelf.Abstract
import Derived.WalkKit
import Derived.OwnWalkIn
import Derived.TacticsInMore
import Derived.LoopNIn
import Derived.LoopIn
import Derived.Maps.AppendAt
import Derived.Sort.OwnSorted
import Derived.Test.YtgckhekikcdaiaaShelf
import Derived.Test.YtgckhekikcdaiaaPak9
namespace Go.Proofs.Ytgckhekikcdaiaa
open Go.RowKit Tri

attribute [local go_sem] Oper.semAt_some

set_option maxRecDepth 100000 in
set_option maxHeartbeats 2000000 in
theorem itr_Values1 (F : Fence) (n : Nat) (h7 : F.fn 98) (hro : F.round = none) (hn : 1 ≤ n) (l Bs n₀ : Nat) (p : Option Addr) (cap : Nat) (zs : List Int) (hl : zs.length ≤ 1000000) (J Jx : List Int → World → Prop)
    (hY : ∀ pre x W, J pre W → pre.length < zs.length → YieldAt F (n - 1) Try.prog l #[.int .i64 x] W fun e W' =>
      (e = .returned (.bool true) ∧ J (pre ++ [x]) W' ∧ Below n₀ W W') ∨ (e = .returned (.bool false) ∧ Jx (pre ++ [x]) W'))
    (W : World) (hBs : W.cell? ⟨Bs, 0, none⟩ = some (.slice p zs.length cap)) (hc : cellsZ W p zs) (hb : ∀ a, p = some a → zs ≠ [] → a.block < n₀) (h0 : J [] W) :
    CallsIn F n Try.prog 98 #[.func (.yield l) #[] #[], .pointer (some ⟨Bs, 0, none⟩)] W fun e W' => (∃ v, e = .returned v) ∧
      ((∃ ys, ys = zs ∧ J ys W') ∨ (∃ pre, pre <+: zs ∧ Jx pre W')) := by
  have HT : Hid (∀ k, zs.take (k + 1) = zs.take k ++ [zs.getD k 0] ∨ zs.length ≤ k) := fun k => by
    by_cases h : k < zs.length
    · left; rw [List.take_succ_eq_append_getElem h, List.getD_eq_getElem?_getD, List.getElem?_eq_getElem h]; rfl
    · right; omega
  have HTL : Hid (zs.take zs.length = zs) := List.take_length
  have HC := hid hc
  have HB := hid hb
  have HY := hid hY
  clear hc hb hY
  refine callsIn_of_wp Try.func98 rfl h7 ?_ hro
  simp only [Try.ntmps98, List.size_toArray, List.length_cons, List.length_nil, Nat.reduceAdd, Nat.reduceSub, Array.replicate_succ, Array.replicate_zero, List.push_toArray, List.append_toArray, List.nil_append, List.cons_append]
  gi_wp2
  gi_loopw [7] (fun i wr => ∃ k : Nat, k ≤ zs.length ∧ i = .int .i64 k ∧ J (zs.take k) wr ∧ Below n₀ W wr)
    (fun i _ => zs.length - (intOf i).toNat)
  case atStart => exact ⟨0, Nat.zero_le _, rfl, h0, Below.refl _ _⟩
  case round =>
    obtain ⟨k, hk, rfl, hJs, hnx⟩ := hrel
    by_cases hlt : k < zs.length
    · obtain ⟨b, o, rfl, hcx⟩ := HC.out k hlt
      have hbb : b < n₀ := HB.out _ rfl (fun h => by rw [h] at hlt; simp at hlt)
      have hcx' := (hnx.cell (p := ⟨b, o + k, none⟩) hbb).trans hcx
      obtain ⟨fn, tmps, assign, body, hy, hR⟩ := HY.out _ (zs.getD k 0) wr hJs (by rw [List.length_take]; omega)
      have HTk : Hid (zs.take (k + 1) = zs.take k ++ [zs.getD k 0]) := (HT.out k).resolve_right (by omega)
      generalize zs.getD k 0 = x at *
      gi_wp2
      refine hR.mono ?_
      rintro e W3 (⟨rfl, hJ3, hk3⟩ | ⟨rfl, hJx3⟩)
      · gi_wp2
        go_roundw
        case rel => exact ⟨k + 1, by omega, by go_num, by rw [HTk.out]; exact hJ3, hnx.trans hk3⟩
        case measure => simp [intOf]; omega
      · gi_wp2
        refine bodyPost_ret (results_none rfl _ _ _) rfl ?_
        exact ⟨⟨_, rfl⟩, .inr ⟨_, ⟨zs.drop (k + 1), by rw [← HTk.out, List.take_append_drop]⟩, hJx3⟩⟩
    · obtain rfl : k = zs.length := by omega
      gi_wp2
      go_end0
      exact ⟨⟨_, rfl⟩, .inl ⟨_, HTL.out, hJs⟩⟩
theorem itr_stops (F : Fence) (n : Nat) (h7 : F.fn 98) (hro : F.round = none) (hn : 1 ≤ n) (Bs n₀ : Nat) (p : Option Addr) (cap : Nat) (zs : List Int) (hl : zs.length ≤ 1000000) (w : World) (hBs : Bs < w.heap.size) (hn₀ : n₀ ≤ w.heap.size)
    (hc : w.cell? ⟨Bs, 0, none⟩ = some (.slice p zs.length cap)) (hz : cellsZ w p zs) (hb : ∀ a, p = some a → zs ≠ [] → a.block < n₀) :
    SeqStopsK F n Try.prog 98 #[.pointer (some ⟨Bs, 0, none⟩)] (fun x : Int => #[Value.int .i64 x]) (Below n₀) (fun ys => ys = zs) (fun pre => pre <+: zs) zs.length w := fun l J Jx W hW _ _ hY h0 =>
  itr_Values1 F n h7 hro hn l Bs n₀ p cap zs hl J Jx hY W ((hW.cell (p := ⟨Bs, 0, none⟩) hBs).trans hc) (hz.below hW) hb h0
set_option maxHeartbeats 1000000 in
theorem itr_Values (F : Fence) (n : Nat) (h5 : F.fn 74) (hro : F.round = none) (a : Option Addr) (len cap : Nat) (w : World) :
    CallsIn F n Try.prog 74 #[.slice a len cap] w fun e w' => e = .returned (.func (.func 98) #[] #[.pointer (some ⟨w.heap.size, 0, none⟩)]) ∧ w' = w.alloc (.cells #[.slice a len cap] 41) := by
  refine callsIn_of_wp Try.func74 rfl h5 ?_ hro
  simp only [Try.ntmps74, List.size_toArray, List.length_cons, List.length_nil, Nat.reduceAdd, Nat.reduceSub, Array.replicate_succ, Array.replicate_zero, List.push_toArray, List.append_toArray, List.nil_append, List.cons_append]
  gi_wp2
  go_ret
  exact ⟨rfl, rfl⟩
set_option maxRecDepth 100000 in
set_option maxHeartbeats 2000000 in
theorem itr_AppendSeq (F : Fence) (n : Nat) (h1' : F.fn 114) (h7 : F.fn 98) (hro : F.round = none) (hn : 3 ≤ n) (Bs : Nat) (p : Option Addr) (cap : Nat) (zs : List Int) (hl : zs.length ≤ 1000000) (w : World) (hBs : Bs < w.heap.size)
    (hc : w.cell? ⟨Bs, 0, none⟩ = some (.slice p zs.length cap)) (hz : cellsZ w p zs) (hb : ∀ a, p = some a → zs ≠ [] → a.block < w.heap.size) :
    CallsIn F n Try.prog 114 #[.slice none 0 0, .func (.func 98) #[] #[.pointer (some ⟨Bs, 0, none⟩)]] w fun e W' => ∃ v, e = .returned v ∧ W'.ownsRow w.heap.size 3 1 v zs.length (zs.map (Value.int .i64)) ∧ (v = .slice none 0 0 ↔ zs = []) ∧ Below w.heap.size w W' := by
  have h1 : 1 ≤ n := by omega
  obtain ⟨i0, hi, hz0, hz1, hz2⟩ := info_parts Try.infoI
  refine callsIn_of_wp_marks Try.func114 rfl h1' ?_ hro
  simp only [Try.ntmps114, List.size_toArray, List.length_cons, List.length_nil, Nat.reduceAdd, Nat.reduceSub, Array.replicate_succ, Array.replicate_zero, List.push_toArray, List.append_toArray, List.nil_append, List.cons_append]
  gi_wp2
  have bO := Boxed.new w 41 (.slice none 0 0)
  have hB0 : Below w.heap.size w (w.alloc (.cells #[.slice none 0 0] 41)) := (Below.refl _ w).alloc (Nat.le_refl _) _
  refine wpIn_rangeFunc_ownG hro h1 (gf := 98) (lb := #[.pointer (some ⟨Bs, 0, none⟩)]) rfl h7 (enters_of Try.func98 (by kernel_rfl) rfl)
    (itr_stops F (n - 1) h7 hro (by omega) Bs w.heap.size p cap zs hl _ (by simp; omega) (by simp) ((hB0.cell (p := ⟨Bs, 0, none⟩) hBs).trans hc) (hz.below hB0) hb) belowK_t (belowK_b (by simp)) (Below.refl _ _) (fun _ => rfl)
    (fun pre W => (∃ v, Boxed W w.heap.size 41 v ∧ W.ownsRow w.heap.size 3 1 v pre.length (pre.map (Value.int .i64)) ∧ (v = .slice none 0 0 ↔ pre = [])) ∧ Below w.heap.size w W)
    (fun _ _ _ => False)
    (OwnFrom.and (Own.from (holdsRow_own w.heap.size w.heap.size 41 3 1 (fun pre => pre.length) (fun pre : List Int => pre.map (Value.int .i64)) (fun pre v => v = .slice none 0 0 ↔ pre = [])) _) (ownFrom_below (Nat.le_refl _) (by simp)))
    (fun _ _ _ _ _ hs _ _ => hs)
    ⟨⟨_, bO, World.ownsRow_nil _ _ _ _, by simp⟩, hB0⟩
    (fun x => { tmps := #[.slice none 0 0, .func (.func 98) #[] #[.pointer (some ⟨Bs, 0, none⟩)], .pointer (some ⟨w.heap.size, 0, none⟩), undef, .slice none 0 0, .int .i64 x, .func (.func 98) #[] #[.pointer (some ⟨Bs, 0, none⟩)], .int .i64 x, undef, undef, undef, undef, undef], defers := [] }) ?assign ?body ?done ?stop
  case assign =>
    intro l x W K hK
    gi_wp2
    exact hK
  case body =>
    rintro l pre x W ⟨⟨v, hv, hrow, hnil⟩, hB⟩ hlt
    have hc := hv.cell
    gi_wp2_with (gi_at_builtin; refine wpListIn_append_own _ rfl _ _ 41 rfl w.heap.size 3 i0 (.int .i64 0) 1 8 Try.underlying41 hi hz0 hz1 hz2 rfl (by decide) _ _ _ rfl (hrow.alloc _) ⟨W.heap.size, 0, none⟩ 1 1 [.int .i64 x] rfl rfl (cell_one_new _ _ _) (by simp [Value.oneCell']) (by unfold maxLen; omega) (by omega) (by have := hB.size; simp; omega) ?_; intro v' w1 hown' hgrow _; obtain ⟨g', cap', rfl⟩ := ownsRow_succ hown'; obtain ⟨hv1, hv2, hr2, hk2, hb2⟩ := hv.appended (by decide) hrow hB.size (Nat.le_refl _) hown' hgrow; have hc1 := hv1.cell; have hf1 := hv1.frozen)
    exact ⟨hk2.from _, hb2, ⟨_, hv2, by simpa using hr2, by simp⟩, hB.trans hb2⟩
  case done =>
    rintro D ys W hD rfl ⟨⟨v, hv, hrow, hnil⟩, hB⟩ hK
    have hc := hv.cell
    gi_wp2
    refine ⟨by simp, .inl ⟨_, _, rfl, run_takeDeferred hK, ?_⟩⟩
    exact ⟨_, results_tmp rfl _ _ _, v, rfl, ownsRow_putObj hrow _ hK rfl, hnil, hB.trans (belowK_b (w := w) (Nat.le_refl _) W D _ _ (by simp at hD; omega) hK rfl rfl)⟩
  case stop =>
    rintro D c pre W _ _ h _
    exact h.elim
end Go.Proofs.Ytgckhekikcdaiaa
