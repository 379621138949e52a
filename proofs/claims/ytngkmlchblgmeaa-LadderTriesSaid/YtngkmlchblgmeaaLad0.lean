/-
  meta.fits, meta.right, ladder.holds, and what they lean on, in the program.
-/
import Derived.Test.YtngkmlchblgmeaaZ
import Derived.ProofKit
namespace Go.Proofs.Ytngkmlchblgmeaa
open Go.RowKit
set_option linter.unusedSimpArgs false

def badV (n : Int) : Bool := decide (n < 0 ∨ 281474976710655 < n)
set_option maxHeartbeats 400000 in
theorem fits_1 (n : Int) (w : World) : Calls Try.prog 96 #[.int .i64 n] w fun e w' => e = .returned (.bool (badV n)) ∧ w = w' := by
  have e0 : badV n = (decide (n < 0) || decide (281474976710655 < n)) := by unfold badV; exact Bool.decide_or _ _
  have H := hid e0
  clear e0
  go_enter Try.func96, Try.ntmps96
  go_wp2_with ((with_reducible refine wpList_unguard ?_ ?_); (focus rfl))
  all_goals
    go_ret
    refine ⟨?_, rfl⟩
    rw [H.out]
    first
    | (rw [decide_eq_true ‹n < 0›]; rfl)
    | (rw [decide_eq_false (by omega : ¬ n < 0)]; rfl)
set_option maxHeartbeats 400000 in
set_option maxRecDepth 100000 in
theorem sl_IndexFuncZ (p : Option Addr) (n c : Nat) (l : List Int) (w : World) (hn : n = l.length) (hp : cellsZ w p l) (hl : l.length ≤ 1000000) :
    Calls Try.prog 115 #[.slice p n c, .func (.func 96) #[] #[]] w
      fun e w' => ixRet badV l e ∧ w = w' := by
  subst hn
  have HP := hid hp
  clear hp
  go_enter Try.func115, Try.ntmps115
  go_wp2
  go_loop [8] (fun i => ∃ k : Nat, k ≤ l.length ∧ i = .int .i64 k ∧ (l.take k).any badV = false) (fun i => l.length - (intOf i).toNat)
  case atStart => exact ⟨0, Nat.zero_le _, rfl, rfl⟩
  case round =>
    obtain ⟨k, hk, rfl, ht⟩ := hrel
    have HT := hid ht
    clear ht
    by_cases hlt : k < l.length
    · obtain ⟨a, o, rfl, hc⟩ := HP.out k hlt
      have HS := hid (any_take_succ badV l k hlt)
      have HA := hid (any_of_at badV l k hlt)
      generalize l.getD k 0 = y at *
      go_wp2_with fail
      refine Calls.mono (fits_1 y w) ?_; rintro e w' ⟨rfl, rfl⟩
      rcases Bool.eq_false_or_eq_true (badV y) with hb | hb
      · rw [hb]
        go_wp2
        go_ret
        refine ⟨⟨k, rfl, ?_⟩, rfl⟩
        rw [HA.out hb]
        exact decide_eq_true (by omega)
      · rw [hb]
        have HB := hid hb
        clear hb
        go_wp2
        go_round
        case rel => exact ⟨k + 1, by omega, by go_num, by rw [HS.out, HT.out, HB.out]; rfl⟩
        case measure => simp [intOf]; omega
    · have HTT : Hid (l.any badV = false) := by have := HT.out; rw [List.take_of_length_le (by omega)] at this; exact this
      go_wp2
      go_ret
      exact ⟨⟨-1, rfl, by rw [HTT.out]; rfl⟩, rfl⟩
set_option maxHeartbeats 400000 in
set_option maxRecDepth 100000 in
theorem sl_ContainsFuncZ (p : Option Addr) (n c : Nat) (l : List Int) (w : World) (hn : n = l.length) (hp : cellsZ w p l) (hl : l.length ≤ 1000000) :
    Calls Try.prog 95 #[.slice p n c, .func (.func 96) #[] #[]] w
      fun e w' => e = .returned (.bool (l.any badV)) ∧ w = w' := by
  subst hn
  have HPP := hid hp
  clear hp
  go_enter Try.func95, Try.ntmps95
  go_wp2_with ((with_reducible refine wpList_unguard ?_ ?_); (focus rfl))
  refine Calls.mono (sl_IndexFuncZ p _ c l w rfl HPP.out hl) ?_; rintro e w' ⟨⟨r, rfl, hr⟩, rfl⟩
  have HR := hid hr
  clear hr
  go_wp2_with ((with_reducible refine wpList_unguard ?_ ?_); (focus rfl))
  go_ret
  exact ⟨by rw [← HR.out]; rfl, rfl⟩
set_option maxHeartbeats 400000 in
set_option maxRecDepth 100000 in
theorem meta_fits (p : Option Addr) (n c : Nat) (l : List Int) (w : World) (hn : n = l.length) (hp : cellsZ w p l) (hl : l.length ≤ 1000000) :
    Calls Try.prog 70 #[.slice p n c] w fun e w' => e = .returned (.bool (!(l.any badV))) ∧ w = w' := by
  subst hn
  have HPP := hid hp
  clear hp
  go_enter Try.func70, Try.ntmps70
  go_wp2_with ((with_reducible refine wpList_unguard ?_ ?_); (focus rfl))
  refine Calls.mono (sl_ContainsFuncZ p _ c l w rfl HPP.out hl) ?_; rintro e w' ⟨rfl, rfl⟩
  go_wp2_with ((with_reducible refine wpList_unguard ?_ ?_); (focus rfl))
  go_ret
  refine ⟨?_, rfl⟩
  rfl
/-- A slot that may be. -/
def slotOk (s v b : Int) : Bool := decide (0 ≤ s ∧ s ≤ 5 ∧ 0 ≤ v ∧ v ≤ 281474976710655 ∧ 0 ≤ b ∧ b ≤ 512 ∧ (b = 0 ∨ s = 3) ∧ (v = 0 ∨ (s ≠ 0 ∧ s ≠ 1 ∧ s ≠ 5)))
theorem slotOk_iff {s v b : Int} : slotOk s v b = true ↔ (0 ≤ s ∧ s ≤ 5 ∧ 0 ≤ v ∧ v ≤ 281474976710655 ∧ 0 ≤ b ∧ b ≤ 512 ∧ (b = 0 ∨ s = 3) ∧ (v = 0 ∨ (s ≠ 0 ∧ s ≠ 1 ∧ s ≠ 5))) := by
  unfold slotOk; exact decide_eq_true_iff
/-- Three ints in a block of their own. -/
def S3 (w : World) (B : Nat) (a b c : Int) : Prop := w.cell? ⟨B, 0, none⟩ = some (.int .i64 a) ∧ w.cell? ⟨B, 1, none⟩ = some (.int .i64 b) ∧ w.cell? ⟨B, 2, none⟩ = some (.int .i64 c)
theorem S3.below {w w' : World} {B : Nat} {a b c : Int} (h : S3 w B a b c) (hb : Below w.heap.size w w') : S3 w' B a b c := by
  obtain ⟨h1, h2, h3⟩ := h
  exact ⟨by rw [hb.cell (block_lt_of_cell h1)]; exact h1, by rw [hb.cell (block_lt_of_cell h2)]; exact h2, by rw [hb.cell (block_lt_of_cell h3)]; exact h3⟩
theorem S3.new (w : World) (a b c : Int) (t : TypeId) : S3 (w.alloc (.cells #[.int .i64 a, .int .i64 b, .int .i64 c] t)) w.heap.size a b c := ⟨by simp [go_sem], by simp [go_sem], by simp [go_sem]⟩
set_option maxHeartbeats 4000000 in
set_option maxRecDepth 100000 in
theorem meta_right (s v b : Int) (w : World) :
    Calls Try.prog 71 #[.agg #[.int .i64 s, .int .i64 v, .int .i64 b]] w fun e w' => e = .returned (.bool (slotOk s v b)) ∧ Below w.heap.size w w' := by
  have hb0 : Below w.heap.size w (w.alloc (.cells #[.int .i64 s, .int .i64 v, .int .i64 b] 26)) := (Below.refl _ _).alloc (Nat.le_refl _) _
  have hS := S3.new w s v b 26
  have hX : Hid (∀ B : Bool, B = slotOk s v b ↔ (B = true ↔ (0 ≤ s ∧ s ≤ 5 ∧ 0 ≤ v ∧ v ≤ 281474976710655 ∧ 0 ≤ b ∧ b ≤ 512 ∧ (b = 0 ∨ s = 3) ∧ (v = 0 ∨ (s ≠ 0 ∧ s ≠ 1 ∧ s ≠ 5))))) := by
    intro B
    rw [← slotOk_iff, Bool.eq_iff_iff]
  generalize hR : slotOk s v b = R at *
  clear hR
  obtain ⟨w1, hw1⟩ : ∃ u, w.alloc (.cells #[.int .i64 s, .int .i64 v, .int .i64 b] 26) = u := ⟨_, rfl⟩
  rw [hw1] at hb0 hS
  have hb1 : Below w1.heap.size w1 (w1.alloc (.cells #[.int .i64 0, .int .i64 1, .int .i64 5] 3)) := (Below.refl _ _).alloc (Nat.le_refl _) _
  obtain ⟨a0, a1, a2⟩ := hS.below hb1
  have HC := hid (cellsZ.new w1 [0, 1, 5] #[.int .i64 0, .int .i64 1, .int .i64 5] 3 rfl)
  have HB1 := hid (hb0.trans (hb1.mono hb0.size))
  clear hb0 hb1 hS
  (go_enter Try.func71, Try.ntmps71; try simp only [List.append])
  go_wp2_with ((with_reducible refine wpList_unguard ?_ ?_); (focus rfl))
  refine Calls.mono (sl_ContainsZ s _ 3 3 [0, 1, 5] _ rfl HC.out (by simp)) ?_; rintro e w' ⟨rfl, rfl⟩
  clear HC hw1
  generalize w1.alloc (.cells #[.int .i64 0, .int .i64 1, .int .i64 5] 3) = w2 at *
  have HN : Hid (([0, 1, 5].any fun y => decide (s = y)) = decide (s = 0 ∨ s = 1 ∨ s = 5)) := by
    show _ = _
    simp [Bool.decide_or]
  generalize ([0, 1, 5].any fun y => decide (s = y)) = N at *
  rcases Bool.eq_false_or_eq_true N with hN | hN
  all_goals
    rw [hN] at HN ⊢
    have hN' : Hid (N = N) := rfl
    clear hN'
  all_goals
    go_wp2_with ((with_reducible refine wpList_unguard ?_ ?_); (focus rfl))
    all_goals
      go_ret
      refine ⟨?_, HB1.out⟩
      refine congrArg (fun b => Ending.returned (Value.bool b)) ?_
      have h1 := HN.out
      simp only [eq_comm (a := true), eq_comm (a := false), decide_eq_true_eq, decide_eq_false_iff_not] at h1
      rw [hX.out]
      clear hX
      simp only [bne_iff_ne, bne_eq_false_iff_eq, beq_iff_eq, beq_eq_false_iff_ne, ne_eq, decide_eq_true_eq, decide_eq_false_iff_not, Bool.false_eq_true, true_iff, false_iff, iff_true, iff_false] at *
      omega
end Go.Proofs.Ytngkmlchblgmeaa
