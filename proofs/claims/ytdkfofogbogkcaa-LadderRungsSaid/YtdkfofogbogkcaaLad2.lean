/-
  The reference of chapter 17: value, Right.
-/
import Derived.Test.YtdkfofogbogkcaaLad1
namespace Go.Proofs.Ytdkfofogbogkcaa
open Go.RowKit
set_option linter.unusedSimpArgs false

set_option maxHeartbeats 400000 in
theorem ref17_value (n : Int) (w : World) : Calls Try.prog 57 #[.int .i64 n] w fun e w' => e = .returned (.bool (!(badV n))) ∧ w = w' := by
  have H : Hid (∀ B : Bool, B = (!(badV n)) ↔ (B = true ↔ (0 ≤ n ∧ n ≤ 281474976710655))) := by
    intro B
    rw [Bool.eq_iff_iff]
    unfold badV
    simp only [Bool.not_eq_true', decide_eq_false_iff_not]
    have : (¬ (n < 0 ∨ 281474976710655 < n)) ↔ (0 ≤ n ∧ n ≤ 281474976710655) := by omega
    rw [this]
  generalize hR : (!(badV n)) = R at *
  clear hR
  go_enter Try.func57, Try.ntmps57
  go_wp2_with ((with_reducible refine wpList_unguard ?_ ?_); (focus rfl))
  all_goals
    go_ret
    refine ⟨?_, rfl⟩
    refine congrArg (fun b => Ending.returned (Value.bool b)) ?_
    rw [H.out]
    clear H
    (simp only [bne_iff_ne, Bool.or_eq_true, Bool.and_eq_true, Bool.not_eq_true', Bool.or_eq_false_iff, Bool.and_eq_false_iff, bne_eq_false_iff_eq, beq_iff_eq, beq_eq_false_iff_ne, ne_eq, decide_eq_true_eq, decide_eq_false_iff_not, Bool.false_eq_true, true_iff, false_iff, iff_true, iff_false, reduceCtorEq, Bool.true_eq_false, true_and, and_true, or_true, true_or, false_or, or_false, and_false, false_and, forall_const, not_true_eq_false, not_false_eq_true, false_implies, implies_true] at * <;> omega)
theorem badV_iff {n : Int} : badV n = true ↔ ¬ (0 ≤ n ∧ n ≤ 281474976710655) := by
  unfold badV
  rw [decide_eq_true_iff]
  omega
/-- What the rounds behind a loop's head have found right. -/
def preP (k : Nat) (s0 v0 b0 s1 v1 b1 s2 v2 b2 ac : Int) : Prop :=
  s0 = 4 ∧ (0 < k → slotP s0 v0 b0) ∧ (1 < k → slotP s1 v1 b1 ∧ (s1 = 3 → ac = 1)) ∧ (2 < k → slotP s2 v2 b2 ∧ (s2 = 3 → ac = 2))
set_option maxHeartbeats 16000000 in
set_option maxRecDepth 100000 in
theorem ref17_Right_dead (s0 v0 b0 s1 v1 b1 s2 v2 b2 ac fl cu it : Int) (w : World) (hn : ¬ (s0 = 4 ∧ (0 ≤ ac ∧ ac ≤ 2) ∧ (0 ≤ fl ∧ fl ≤ 281474976710655) ∧ (0 ≤ cu ∧ cu ≤ 281474976710655) ∧ (0 ≤ it ∧ it ≤ 281474976710655))) :
    Calls Try.prog 17 #[.agg #[.int .i64 s0, .int .i64 v0, .int .i64 b0, .int .i64 s1, .int .i64 v1, .int .i64 b1, .int .i64 s2, .int .i64 v2, .int .i64 b2, .int .i64 ac, .int .i64 fl, .int .i64 cu, .int .i64 it]] w fun e w' => e = .returned (.bool (metaOk s0 v0 b0 s1 v1 b1 s2 v2 b2 ac fl cu it)) ∧ Below w.heap.size w w' := by
  have HN := hid hn
  clear hn
  have hb0 : Below w.heap.size w (w.alloc (.cells #[.int .i64 s0, .int .i64 v0, .int .i64 b0, .int .i64 s1, .int .i64 v1, .int .i64 b1, .int .i64 s2, .int .i64 v2, .int .i64 b2, .int .i64 ac, .int .i64 fl, .int .i64 cu, .int .i64 it] 31)) := (Below.refl _ _).alloc (Nat.le_refl _) _
  have hM := Blk.new w 31 #[.int .i64 s0, .int .i64 v0, .int .i64 b0, .int .i64 s1, .int .i64 v1, .int .i64 b1, .int .i64 s2, .int .i64 v2, .int .i64 b2, .int .i64 ac, .int .i64 fl, .int .i64 cu, .int .i64 it]
  have hX : Hid (∀ B : Bool, B = metaOk s0 v0 b0 s1 v1 b1 s2 v2 b2 ac fl cu it ↔ (B = true ↔ metaP s0 v0 b0 s1 v1 b1 s2 v2 b2 ac fl cu it)) := by
    intro B
    rw [← metaOk_iff, Bool.eq_iff_iff]
  generalize hR : metaOk s0 v0 b0 s1 v1 b1 s2 v2 b2 ac fl cu it = R at *
  clear hR
  obtain ⟨w1, hw1⟩ : ∃ u, w.alloc (.cells #[.int .i64 s0, .int .i64 v0, .int .i64 b0, .int .i64 s1, .int .i64 v1, .int .i64 b1, .int .i64 s2, .int .i64 v2, .int .i64 b2, .int .i64 ac, .int .i64 fl, .int .i64 cu, .int .i64 it] 31) = u := ⟨_, rfl⟩
  rw [hw1] at hb0 hM
  have HM := hid hM
  have HB := hid hb0
  clear hb0
  obtain ⟨m0, m1, m2, m3, m4, m5, m6, m7, m8, m9, m10, m11, m12⟩ := Blk.mm hM
  clear hM
  have HF := hid (badV_iff (n := fl))
  have HC := hid (badV_iff (n := cu))
  have HI := hid (badV_iff (n := it))
  (go_enter Try.func17, Try.ntmps17; try simp only [List.append])
  go_wp2_with (first | ((with_reducible refine wpList_unguard ?_ ?_); (focus rfl)) | (go_at_call 57; refine Calls.mono (ref17_value _ _) ?_; rintro e w' ⟨rfl, rfl⟩))
  any_goals (focus (go_ret; refine ⟨?_, HB.out⟩; refine congrArg (fun b => Ending.returned (Value.bool b)) ?_; rw [hX.out]; clear hX; simp only [HF.out, HC.out, HI.out] at *; unfold metaP slotP; (simp only [bne_iff_ne, Bool.or_eq_true, Bool.and_eq_true, Bool.not_eq_true', Bool.or_eq_false_iff, Bool.and_eq_false_iff, bne_eq_false_iff_eq, beq_iff_eq, beq_eq_false_iff_ne, ne_eq, decide_eq_true_eq, decide_eq_false_iff_not, Bool.false_eq_true, true_iff, false_iff, iff_true, iff_false, reduceCtorEq, Bool.true_eq_false, true_and, and_true, or_true, true_or, false_or, or_false, and_false, false_and, forall_const, not_true_eq_false, not_false_eq_true, false_implies, implies_true] at * <;> omega); done))
  exfalso
  refine HN.out ?_
  clear hX
  simp only [HF.out, HC.out, HI.out] at *
  (simp only [bne_iff_ne, Bool.or_eq_true, Bool.and_eq_true, Bool.not_eq_true', Bool.or_eq_false_iff, Bool.and_eq_false_iff, bne_eq_false_iff_eq, beq_iff_eq, beq_eq_false_iff_ne, ne_eq, decide_eq_true_eq, decide_eq_false_iff_not, Bool.false_eq_true, true_iff, false_iff, iff_true, iff_false, reduceCtorEq, Bool.true_eq_false, true_and, and_true, or_true, true_or, false_or, or_false, and_false, false_and, forall_const, not_true_eq_false, not_false_eq_true, false_implies, implies_true] at * <;> omega)
set_option maxHeartbeats 16000000 in
set_option maxRecDepth 100000 in
theorem ref17_Right_live (s0 v0 b0 s1 v1 b1 s2 v2 b2 ac fl cu it : Int) (w : World) (hn : s0 = 4 ∧ (0 ≤ ac ∧ ac ≤ 2) ∧ (0 ≤ fl ∧ fl ≤ 281474976710655) ∧ (0 ≤ cu ∧ cu ≤ 281474976710655) ∧ (0 ≤ it ∧ it ≤ 281474976710655)) :
    Calls Try.prog 17 #[.agg #[.int .i64 s0, .int .i64 v0, .int .i64 b0, .int .i64 s1, .int .i64 v1, .int .i64 b1, .int .i64 s2, .int .i64 v2, .int .i64 b2, .int .i64 ac, .int .i64 fl, .int .i64 cu, .int .i64 it]] w fun e w' => e = .returned (.bool (metaOk s0 v0 b0 s1 v1 b1 s2 v2 b2 ac fl cu it)) ∧ Below w.heap.size w w' := by
  obtain ⟨rfl, ha, hf, hc, hi⟩ := hn
  have e1 : decide (ac < 0) = false := decide_eq_false (by omega)
  have e2 : decide (2 < ac) = false := decide_eq_false (by omega)
  have e3 : badV fl = false := decide_eq_false (by omega)
  have e4 : badV cu = false := decide_eq_false (by omega)
  have e5 : badV it = false := decide_eq_false (by omega)
  have HN := hid (show (0 ≤ ac ∧ ac ≤ 2) ∧ (0 ≤ fl ∧ fl ≤ 281474976710655) ∧ (0 ≤ cu ∧ cu ≤ 281474976710655) ∧ (0 ≤ it ∧ it ≤ 281474976710655) from ⟨ha, hf, hc, hi⟩)
  clear ha hf hc hi
  have hb0 : Below w.heap.size w (w.alloc (.cells #[.int .i64 4, .int .i64 v0, .int .i64 b0, .int .i64 s1, .int .i64 v1, .int .i64 b1, .int .i64 s2, .int .i64 v2, .int .i64 b2, .int .i64 ac, .int .i64 fl, .int .i64 cu, .int .i64 it] 31)) := (Below.refl _ _).alloc (Nat.le_refl _) _
  have hM := Blk.new w 31 #[.int .i64 4, .int .i64 v0, .int .i64 b0, .int .i64 s1, .int .i64 v1, .int .i64 b1, .int .i64 s2, .int .i64 v2, .int .i64 b2, .int .i64 ac, .int .i64 fl, .int .i64 cu, .int .i64 it]
  have hX : Hid (∀ B : Bool, B = metaOk 4 v0 b0 s1 v1 b1 s2 v2 b2 ac fl cu it ↔ (B = true ↔ metaP 4 v0 b0 s1 v1 b1 s2 v2 b2 ac fl cu it)) := by
    intro B
    rw [← metaOk_iff, Bool.eq_iff_iff]
  generalize hR : metaOk 4 v0 b0 s1 v1 b1 s2 v2 b2 ac fl cu it = R at *
  clear hR
  obtain ⟨w1, hw1⟩ : ∃ u, w.alloc (.cells #[.int .i64 4, .int .i64 v0, .int .i64 b0, .int .i64 s1, .int .i64 v1, .int .i64 b1, .int .i64 s2, .int .i64 v2, .int .i64 b2, .int .i64 ac, .int .i64 fl, .int .i64 cu, .int .i64 it] 31) = u := ⟨_, rfl⟩
  rw [hw1] at hb0 hM
  have HM := hid hM
  have HB := hid hb0
  clear hb0
  obtain ⟨m0, m1, m2, m3, m4, m5, m6, m7, m8, m9, m10, m11, m12⟩ := Blk.mm hM
  clear hM
  (go_enter Try.func17, Try.ntmps17; try simp only [List.append])
  go_wp2_with (first | ((with_reducible refine wpList_unguard ?_ ?_); (focus rfl)) | (go_at_call 57; refine Calls.mono (ref17_value _ _) ?_; rintro e w' ⟨rfl, rfl⟩))
  clear m0 m1 m2 m3 m4 m5 m6 m7 m8 m9 m10 m11 m12
  clear e1 e2 e3 e4 e5
  go_loopw [3] (fun i wr => ∃ k : Nat, k ≤ 3 ∧ i = .int .i64 k ∧ Blk wr w.heap.size 31 #[.int .i64 4, .int .i64 v0, .int .i64 b0, .int .i64 s1, .int .i64 v1, .int .i64 b1, .int .i64 s2, .int .i64 v2, .int .i64 b2, .int .i64 ac, .int .i64 fl, .int .i64 cu, .int .i64 it] ∧ Below w.heap.size w wr ∧ preP k 4 v0 b0 s1 v1 b1 s2 v2 b2 ac) (fun i _ => 3 - (intOf i).toNat)
  case atStart => exact ⟨0, by omega, rfl, HM.out, HB.out, by unfold preP; simp⟩
  case round =>
    obtain ⟨k, hk, rfl, hB, hbw, hp⟩ := hrel
    clear HM HB
    have HM := hid hB
    have HB := hid hbw
    have HP := hid hp
    clear hp hbw hB
    have hk' : k = 0 ∨ k = 1 ∨ k = 2 ∨ k = 3 := by omega
    rcases hk' with rfl | rfl | rfl | rfl
    · obtain ⟨m0, m1, m2, m3, m4, m5, m6, m7, m8, m9, m10, m11, m12⟩ := Blk.mm HM.out
      have hA : Below wr.heap.size wr (wr.alloc (.cells #[.int .i64 4, .int .i64 v0, .int .i64 b0] 28)) := (Below.refl _ _).alloc (Nat.le_refl _) _
      have n9 : (wr.alloc (.cells #[.int .i64 4, .int .i64 v0, .int .i64 b0] 28)).cell? ⟨w.heap.size, 9, none⟩ = some (.int .i64 ac) := (HM.out.below hA).cell 9 _ rfl
      have HM' := hid (HM.out.below hA)
      have HB' := hid (HB.out.trans (hA.mono HB.out.size))
      have HV := hid (badV_iff (n := v0))
      clear hA HM HB hw1
      obtain ⟨z1, ez1⟩ : ∃ z, (v0 != (0 : Int)) = z := ⟨_, rfl⟩
      obtain ⟨z2, ez2⟩ : ∃ z, (b0 != (0 : Int)) = z := ⟨_, rfl⟩
      go_wp2_with (first | ((with_reducible refine wpList_unguard ?_ ?_); (focus rfl)) | (go_at_call 57; refine Calls.mono (ref17_value _ _) ?_; rintro e w' ⟨rfl, rfl⟩))
      any_goals (focus (go_ret; refine ⟨?_, HB'.out⟩; refine congrArg (fun b => Ending.returned (Value.bool b)) ?_; rw [hX.out]; clear hX; subst_vars; simp only [HV.out] at *; unfold metaP slotP; (simp only [bne_iff_ne, Bool.or_eq_true, Bool.and_eq_true, Bool.not_eq_true', Bool.or_eq_false_iff, Bool.and_eq_false_iff, bne_eq_false_iff_eq, beq_iff_eq, beq_eq_false_iff_ne, ne_eq, decide_eq_true_eq, decide_eq_false_iff_not, Bool.false_eq_true, true_iff, false_iff, iff_true, iff_false, reduceCtorEq, Bool.true_eq_false, true_and, and_true, or_true, true_or, false_or, or_false, and_false, false_and, forall_const, not_true_eq_false, not_false_eq_true, false_implies, implies_true] at * <;> omega); done))
      all_goals
        go_roundw
        case rel =>
          refine ⟨0+1, by omega, by go_num, HM'.out, HB'.out, ?_⟩
          have hp := HP.out
          clear HP hX HM' HB' HN
          clear m0 m1 m2 m3 m4 m5 m6 m7 m8 m9 m10 m11 m12
          subst_vars
          simp only [HV.out] at *
          simp [preP, slotP] at hp ⊢
          (simp only [bne_iff_ne, Bool.or_eq_true, Bool.and_eq_true, Bool.not_eq_true', Bool.or_eq_false_iff, Bool.and_eq_false_iff, bne_eq_false_iff_eq, beq_iff_eq, beq_eq_false_iff_ne, ne_eq, decide_eq_true_eq, decide_eq_false_iff_not, Bool.false_eq_true, true_iff, false_iff, iff_true, iff_false, reduceCtorEq, Bool.true_eq_false, true_and, and_true, or_true, true_or, false_or, or_false, and_false, false_and, forall_const, not_true_eq_false, not_false_eq_true, false_implies, implies_true] at * <;> omega)
        case measure => simp [intOf]
    · obtain ⟨m0, m1, m2, m3, m4, m5, m6, m7, m8, m9, m10, m11, m12⟩ := Blk.mm HM.out
      have hA : Below wr.heap.size wr (wr.alloc (.cells #[.int .i64 s1, .int .i64 v1, .int .i64 b1] 28)) := (Below.refl _ _).alloc (Nat.le_refl _) _
      have n9 : (wr.alloc (.cells #[.int .i64 s1, .int .i64 v1, .int .i64 b1] 28)).cell? ⟨w.heap.size, 9, none⟩ = some (.int .i64 ac) := (HM.out.below hA).cell 9 _ rfl
      have HM' := hid (HM.out.below hA)
      have HB' := hid (HB.out.trans (hA.mono HB.out.size))
      have HV := hid (badV_iff (n := v1))
      clear hA HM HB hw1
      obtain ⟨z1, ez1⟩ : ∃ z, (v1 != (0 : Int)) = z := ⟨_, rfl⟩
      obtain ⟨z2, ez2⟩ : ∃ z, (b1 != (0 : Int)) = z := ⟨_, rfl⟩
      obtain ⟨z3, ez3⟩ : ∃ z, (s1 == (0 : Int)) = z := ⟨_, rfl⟩
      obtain ⟨z4, ez4⟩ : ∃ z, (s1 == (1 : Int)) = z := ⟨_, rfl⟩
      obtain ⟨z5, ez5⟩ : ∃ z, (s1 == (5 : Int)) = z := ⟨_, rfl⟩
      obtain ⟨z6, ez6⟩ : ∃ z, (s1 != (3 : Int)) = z := ⟨_, rfl⟩
      obtain ⟨z7, ez7⟩ : ∃ z, (s1 == (3 : Int)) = z := ⟨_, rfl⟩
      obtain ⟨z8, ez8⟩ : ∃ z, ((1 : Int) != ac) = z := ⟨_, rfl⟩
      go_wp2_with (first | ((with_reducible refine wpList_unguard ?_ ?_); (focus rfl)) | (go_at_call 57; refine Calls.mono (ref17_value _ _) ?_; rintro e w' ⟨rfl, rfl⟩))
      any_goals (focus (go_ret; refine ⟨?_, HB'.out⟩; refine congrArg (fun b => Ending.returned (Value.bool b)) ?_; rw [hX.out]; clear hX; subst_vars; simp only [HV.out] at *; unfold metaP slotP; (simp only [bne_iff_ne, Bool.or_eq_true, Bool.and_eq_true, Bool.not_eq_true', Bool.or_eq_false_iff, Bool.and_eq_false_iff, bne_eq_false_iff_eq, beq_iff_eq, beq_eq_false_iff_ne, ne_eq, decide_eq_true_eq, decide_eq_false_iff_not, Bool.false_eq_true, true_iff, false_iff, iff_true, iff_false, reduceCtorEq, Bool.true_eq_false, true_and, and_true, or_true, true_or, false_or, or_false, and_false, false_and, forall_const, not_true_eq_false, not_false_eq_true, false_implies, implies_true] at * <;> omega); done))
      all_goals
        go_roundw
        case rel =>
          refine ⟨1+1, by omega, by go_num, HM'.out, HB'.out, ?_⟩
          have hp := HP.out
          clear HP hX HM' HB' HN
          clear m0 m1 m2 m3 m4 m5 m6 m7 m8 m9 m10 m11 m12
          subst_vars
          simp only [HV.out] at *
          simp [preP, slotP] at hp ⊢
          (simp only [bne_iff_ne, Bool.or_eq_true, Bool.and_eq_true, Bool.not_eq_true', Bool.or_eq_false_iff, Bool.and_eq_false_iff, bne_eq_false_iff_eq, beq_iff_eq, beq_eq_false_iff_ne, ne_eq, decide_eq_true_eq, decide_eq_false_iff_not, Bool.false_eq_true, true_iff, false_iff, iff_true, iff_false, reduceCtorEq, Bool.true_eq_false, true_and, and_true, or_true, true_or, false_or, or_false, and_false, false_and, forall_const, not_true_eq_false, not_false_eq_true, false_implies, implies_true] at * <;> omega)
        case measure => simp [intOf]
    · obtain ⟨m0, m1, m2, m3, m4, m5, m6, m7, m8, m9, m10, m11, m12⟩ := Blk.mm HM.out
      have hA : Below wr.heap.size wr (wr.alloc (.cells #[.int .i64 s2, .int .i64 v2, .int .i64 b2] 28)) := (Below.refl _ _).alloc (Nat.le_refl _) _
      have n9 : (wr.alloc (.cells #[.int .i64 s2, .int .i64 v2, .int .i64 b2] 28)).cell? ⟨w.heap.size, 9, none⟩ = some (.int .i64 ac) := (HM.out.below hA).cell 9 _ rfl
      have HM' := hid (HM.out.below hA)
      have HB' := hid (HB.out.trans (hA.mono HB.out.size))
      have HV := hid (badV_iff (n := v2))
      clear hA HM HB hw1
      obtain ⟨z1, ez1⟩ : ∃ z, (v2 != (0 : Int)) = z := ⟨_, rfl⟩
      obtain ⟨z2, ez2⟩ : ∃ z, (b2 != (0 : Int)) = z := ⟨_, rfl⟩
      obtain ⟨z3, ez3⟩ : ∃ z, (s2 == (0 : Int)) = z := ⟨_, rfl⟩
      obtain ⟨z4, ez4⟩ : ∃ z, (s2 == (1 : Int)) = z := ⟨_, rfl⟩
      obtain ⟨z5, ez5⟩ : ∃ z, (s2 == (5 : Int)) = z := ⟨_, rfl⟩
      obtain ⟨z6, ez6⟩ : ∃ z, (s2 != (3 : Int)) = z := ⟨_, rfl⟩
      obtain ⟨z7, ez7⟩ : ∃ z, (s2 == (3 : Int)) = z := ⟨_, rfl⟩
      obtain ⟨z8, ez8⟩ : ∃ z, ((2 : Int) != ac) = z := ⟨_, rfl⟩
      go_wp2_with (first | ((with_reducible refine wpList_unguard ?_ ?_); (focus rfl)) | (go_at_call 57; refine Calls.mono (ref17_value _ _) ?_; rintro e w' ⟨rfl, rfl⟩))
      any_goals (focus (go_ret; refine ⟨?_, HB'.out⟩; refine congrArg (fun b => Ending.returned (Value.bool b)) ?_; rw [hX.out]; clear hX; subst_vars; simp only [HV.out] at *; unfold metaP slotP; (simp only [bne_iff_ne, Bool.or_eq_true, Bool.and_eq_true, Bool.not_eq_true', Bool.or_eq_false_iff, Bool.and_eq_false_iff, bne_eq_false_iff_eq, beq_iff_eq, beq_eq_false_iff_ne, ne_eq, decide_eq_true_eq, decide_eq_false_iff_not, Bool.false_eq_true, true_iff, false_iff, iff_true, iff_false, reduceCtorEq, Bool.true_eq_false, true_and, and_true, or_true, true_or, false_or, or_false, and_false, false_and, forall_const, not_true_eq_false, not_false_eq_true, false_implies, implies_true] at * <;> omega); done))
      all_goals
        go_roundw
        case rel =>
          refine ⟨2+1, by omega, by go_num, HM'.out, HB'.out, ?_⟩
          have hp := HP.out
          clear HP hX HM' HB' HN
          clear m0 m1 m2 m3 m4 m5 m6 m7 m8 m9 m10 m11 m12
          subst_vars
          simp only [HV.out] at *
          simp [preP, slotP] at hp ⊢
          (simp only [bne_iff_ne, Bool.or_eq_true, Bool.and_eq_true, Bool.not_eq_true', Bool.or_eq_false_iff, Bool.and_eq_false_iff, bne_eq_false_iff_eq, beq_iff_eq, beq_eq_false_iff_ne, ne_eq, decide_eq_true_eq, decide_eq_false_iff_not, Bool.false_eq_true, true_iff, false_iff, iff_true, iff_false, reduceCtorEq, Bool.true_eq_false, true_and, and_true, or_true, true_or, false_or, or_false, and_false, false_and, forall_const, not_true_eq_false, not_false_eq_true, false_implies, implies_true] at * <;> omega)
        case measure => simp [intOf]
    · have hn := HN.out
      have ha : ac = 0 ∨ ac = 1 ∨ ac = 2 := by omega
      clear hn hw1
      rcases ha with rfl | rfl | rfl
      all_goals
        obtain ⟨m0, m1, m2, m3, m4, m5, m6, m7, m8, m9, m10, m11, m12⟩ := Blk.mm HM.out
        go_wp2
        all_goals
          go_ret
          refine ⟨?_, HB.out⟩
          refine congrArg (fun b => Ending.returned (Value.bool b)) ?_
          rw [hX.out]
          have hp := HP.out
          have hn := HN.out
          clear hX HP HN
          clear m0 m1 m2 m3 m4 m5 m6 m7 m8 m9 m10 m11 m12
          unfold metaP
          unfold preP at hp
          unfold slotP at *
          (simp only [bne_iff_ne, Bool.or_eq_true, Bool.and_eq_true, Bool.not_eq_true', Bool.or_eq_false_iff, Bool.and_eq_false_iff, bne_eq_false_iff_eq, beq_iff_eq, beq_eq_false_iff_ne, ne_eq, decide_eq_true_eq, decide_eq_false_iff_not, Bool.false_eq_true, true_iff, false_iff, iff_true, iff_false, reduceCtorEq, Bool.true_eq_false, true_and, and_true, or_true, true_or, false_or, or_false, and_false, false_and, forall_const, not_true_eq_false, not_false_eq_true, false_implies, implies_true] at * <;> omega)
theorem ref17_Right (s0 v0 b0 s1 v1 b1 s2 v2 b2 ac fl cu it : Int) (w : World) :
    Calls Try.prog 17 #[.agg #[.int .i64 s0, .int .i64 v0, .int .i64 b0, .int .i64 s1, .int .i64 v1, .int .i64 b1, .int .i64 s2, .int .i64 v2, .int .i64 b2, .int .i64 ac, .int .i64 fl, .int .i64 cu, .int .i64 it]] w fun e w' => e = .returned (.bool (metaOk s0 v0 b0 s1 v1 b1 s2 v2 b2 ac fl cu it)) ∧ Below w.heap.size w w' := by
  by_cases h : s0 = 4 ∧ (0 ≤ ac ∧ ac ≤ 2) ∧ (0 ≤ fl ∧ fl ≤ 281474976710655) ∧ (0 ≤ cu ∧ cu ≤ 281474976710655) ∧ (0 ≤ it ∧ it ≤ 281474976710655)
  · exact ref17_Right_live s0 v0 b0 s1 v1 b1 s2 v2 b2 ac fl cu it w h
  · exact ref17_Right_dead s0 v0 b0 s1 v1 b1 s2 v2 b2 ac fl cu it w h
end Go.Proofs.Ytdkfofogbogkcaa
