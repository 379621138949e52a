/-
  meta.Right in the program.
-/
import Derived.Test.YtngkmlchblgmeaaLad0
import Derived.Test.YtngkmlchblgmeaaBlk
namespace Go.Proofs.Ytngkmlchblgmeaa
open Go.RowKit
set_option linter.unusedSimpArgs false

def slotP (s v b : Int) : Prop := 0 ≤ s ∧ s ≤ 5 ∧ 0 ≤ v ∧ v ≤ 281474976710655 ∧ 0 ≤ b ∧ b ≤ 512 ∧ (b = 0 ∨ s = 3) ∧ (v = 0 ∨ (s ≠ 0 ∧ s ≠ 1 ∧ s ≠ 5))
theorem slotOk_iff' {s v b : Int} : slotOk s v b = true ↔ slotP s v b := slotOk_iff
def metaP (s0 v0 b0 s1 v1 b1 s2 v2 b2 ac fl cu it : Int) : Prop :=
  (0 ≤ ac ∧ ac ≤ 2) ∧ (0 ≤ fl ∧ fl ≤ 281474976710655) ∧ (0 ≤ cu ∧ cu ≤ 281474976710655) ∧ (0 ≤ it ∧ it ≤ 281474976710655) ∧ s0 = 4 ∧ slotP s0 v0 b0 ∧ slotP s1 v1 b1 ∧ slotP s2 v2 b2 ∧
  (s1 = 3 → ac = 1) ∧ (s2 = 3 → ac = 2) ∧ (ac = 1 → s1 = 4 ∨ s1 = 3) ∧ (ac = 2 → s2 = 4 ∨ s2 = 3)
instance (s0 v0 b0 s1 v1 b1 s2 v2 b2 ac fl cu it : Int) : Decidable (metaP s0 v0 b0 s1 v1 b1 s2 v2 b2 ac fl cu it) := by unfold metaP slotP; infer_instance
def metaOk (s0 v0 b0 s1 v1 b1 s2 v2 b2 ac fl cu it : Int) : Bool := decide (metaP s0 v0 b0 s1 v1 b1 s2 v2 b2 ac fl cu it)
theorem metaOk_iff {s0 v0 b0 s1 v1 b1 s2 v2 b2 ac fl cu it : Int} : metaOk s0 v0 b0 s1 v1 b1 s2 v2 b2 ac fl cu it = true ↔ metaP s0 v0 b0 s1 v1 b1 s2 v2 b2 ac fl cu it := by unfold metaOk; exact decide_eq_true_iff
/-- What is known, in a block of its own. -/
def MM (w : World) (B : Nat) (s0 v0 b0 s1 v1 b1 s2 v2 b2 ac fl cu it : Int) : Prop :=
  w.cell? ⟨B, 0, none⟩ = some (.int .i64 s0) ∧ w.cell? ⟨B, 1, none⟩ = some (.int .i64 v0) ∧ w.cell? ⟨B, 2, none⟩ = some (.int .i64 b0) ∧
  w.cell? ⟨B, 3, none⟩ = some (.int .i64 s1) ∧ w.cell? ⟨B, 4, none⟩ = some (.int .i64 v1) ∧ w.cell? ⟨B, 5, none⟩ = some (.int .i64 b1) ∧
  w.cell? ⟨B, 6, none⟩ = some (.int .i64 s2) ∧ w.cell? ⟨B, 7, none⟩ = some (.int .i64 v2) ∧ w.cell? ⟨B, 8, none⟩ = some (.int .i64 b2) ∧
  w.cell? ⟨B, 9, none⟩ = some (.int .i64 ac) ∧ w.cell? ⟨B, 10, none⟩ = some (.int .i64 fl) ∧ w.cell? ⟨B, 11, none⟩ = some (.int .i64 cu) ∧ w.cell? ⟨B, 12, none⟩ = some (.int .i64 it)
theorem Blk.mm {w : World} {B : Nat} {t : TypeId} {s0 v0 b0 s1 v1 b1 s2 v2 b2 ac fl cu it : Int} (h : Blk w B t #[.int .i64 s0, .int .i64 v0, .int .i64 b0, .int .i64 s1, .int .i64 v1, .int .i64 b1, .int .i64 s2, .int .i64 v2, .int .i64 b2, .int .i64 ac, .int .i64 fl, .int .i64 cu, .int .i64 it]) : MM w B s0 v0 b0 s1 v1 b1 s2 v2 b2 ac fl cu it :=
  ⟨h.cell 0 _ rfl, h.cell 1 _ rfl, h.cell 2 _ rfl, h.cell 3 _ rfl, h.cell 4 _ rfl, h.cell 5 _ rfl, h.cell 6 _ rfl, h.cell 7 _ rfl, h.cell 8 _ rfl, h.cell 9 _ rfl, h.cell 10 _ rfl, h.cell 11 _ rfl, h.cell 12 _ rfl⟩
theorem any_badV3 (a b c : Int) : ([a, b, c].any badV = false) ↔ ((0 ≤ a ∧ a ≤ 281474976710655) ∧ (0 ≤ b ∧ b ≤ 281474976710655) ∧ (0 ≤ c ∧ c ≤ 281474976710655)) := by
  simp [badV]
theorem index3 (t : TypeId) (s0 v0 b0 s1 v1 b1 s2 v2 b2 : Int) (h : t = 27) : 
    (∀ w : World, (Instr.index t (.agg #[.int .i64 s0, .int .i64 v0, .int .i64 b0, .int .i64 s1, .int .i64 v1, .int .i64 b1, .int .i64 s2, .int .i64 v2, .int .i64 b2]) (.int .i64 0)).run Try.prog w = .ok (.agg #[.int .i64 s0, .int .i64 v0, .int .i64 b0]) w) ∧
    (∀ w : World, (Instr.index t (.agg #[.int .i64 s0, .int .i64 v0, .int .i64 b0, .int .i64 s1, .int .i64 v1, .int .i64 b1, .int .i64 s2, .int .i64 v2, .int .i64 b2]) (.int .i64 1)).run Try.prog w = .ok (.agg #[.int .i64 s1, .int .i64 v1, .int .i64 b1]) w) ∧
    (∀ w : World, (Instr.index t (.agg #[.int .i64 s0, .int .i64 v0, .int .i64 b0, .int .i64 s1, .int .i64 v1, .int .i64 b1, .int .i64 s2, .int .i64 v2, .int .i64 b2]) (.int .i64 2)).run Try.prog w = .ok (.agg #[.int .i64 s2, .int .i64 v2, .int .i64 b2]) w) := by
  subst h
  exact ⟨fun _ => by kernel_rfl, fun _ => by kernel_rfl, fun _ => by kernel_rfl⟩
set_option maxHeartbeats 8000000 in
set_option maxRecDepth 100000 in
theorem meta_Right (s0 v0 b0 s1 v1 b1 s2 v2 b2 ac fl cu it : Int) (w : World) :
    Calls Try.prog 44 #[.agg #[.int .i64 s0, .int .i64 v0, .int .i64 b0, .int .i64 s1, .int .i64 v1, .int .i64 b1, .int .i64 s2, .int .i64 v2, .int .i64 b2, .int .i64 ac, .int .i64 fl, .int .i64 cu, .int .i64 it]] w fun e w' => e = .returned (.bool (metaOk s0 v0 b0 s1 v1 b1 s2 v2 b2 ac fl cu it)) ∧ Below w.heap.size w w' := by
  have hb0 : Below w.heap.size w (w.alloc (.cells #[.int .i64 s0, .int .i64 v0, .int .i64 b0, .int .i64 s1, .int .i64 v1, .int .i64 b1, .int .i64 s2, .int .i64 v2, .int .i64 b2, .int .i64 ac, .int .i64 fl, .int .i64 cu, .int .i64 it] 29)) := (Below.refl _ _).alloc (Nat.le_refl _) _
  have hM := Blk.new w 29 #[.int .i64 s0, .int .i64 v0, .int .i64 b0, .int .i64 s1, .int .i64 v1, .int .i64 b1, .int .i64 s2, .int .i64 v2, .int .i64 b2, .int .i64 ac, .int .i64 fl, .int .i64 cu, .int .i64 it]
  have hX : Hid (∀ B : Bool, B = metaOk s0 v0 b0 s1 v1 b1 s2 v2 b2 ac fl cu it ↔ (B = true ↔ metaP s0 v0 b0 s1 v1 b1 s2 v2 b2 ac fl cu it)) := by
    intro B
    rw [← metaOk_iff, Bool.eq_iff_iff]
  generalize hR : metaOk s0 v0 b0 s1 v1 b1 s2 v2 b2 ac fl cu it = R at *
  clear hR
  obtain ⟨w1, hw1⟩ : ∃ u, w.alloc (.cells #[.int .i64 s0, .int .i64 v0, .int .i64 b0, .int .i64 s1, .int .i64 v1, .int .i64 b1, .int .i64 s2, .int .i64 v2, .int .i64 b2, .int .i64 ac, .int .i64 fl, .int .i64 cu, .int .i64 it] 29) = u := ⟨_, rfl⟩
  rw [hw1] at hb0 hM
  have HM := hid hM
  obtain ⟨m0, m1, m2, m3, m4, m5, m6, m7, m8, m9, m10, m11, m12⟩ := Blk.mm hM
  clear hM
  obtain ⟨i0, i1, i2⟩ := index3 _ s0 v0 b0 s1 v1 b1 s2 v2 b2 rfl
  (go_enter Try.func44, Try.ntmps44; try simp only [List.append])
  go_wp2_with ((with_reducible refine wpList_unguard ?_ ?_); (focus rfl))
  · have hb1 : Below w1.heap.size w1 (w1.alloc (.cells #[.int .i64 fl, .int .i64 cu, .int .i64 it] 3)) := (Below.refl _ _).alloc (Nat.le_refl _) _
    have HMw2 := hid (HM.out.below hb1)
    have HBw2 := hid (hb0.trans (hb1.mono hb0.size))
    have HC := hid (cellsZ.new w1 [fl, cu, it] #[.int .i64 fl, .int .i64 cu, .int .i64 it] 3 rfl)
    clear HM hb0 hb1
    clear m0 m1 m2 m3 m4 m5 m6 m7 m8 m9 m10 m11 m12
    refine Calls.mono (meta_fits _ 3 3 [fl, cu, it] _ rfl HC.out (by simp)) ?_; rintro e w' ⟨rfl, rfl⟩
    clear HC hw1
    generalize w1.alloc (.cells #[.int .i64 fl, .int .i64 cu, .int .i64 it] 3) = w2 at *
    have HN := hid (any_badV3 fl cu it)
    generalize [fl, cu, it].any badV = N at *
    obtain ⟨m0, m1, m2, m3, m4, m5, m6, m7, m8, m9, m10, m11, m12⟩ := Blk.mm HMw2.out
    rcases Bool.eq_false_or_eq_true N with hN | hN
    · rw [hN] at HN ⊢
      go_wp2_with ((with_reducible refine wpList_unguard ?_ ?_); (focus rfl))
      go_ret
      refine ⟨?_, HBw2.out⟩
      refine congrArg (fun b => Ending.returned (Value.bool b)) ?_
      rw [hX.out]
      have h1 := HN.out
      clear hX
      unfold metaP slotP
      (simp only [bne_iff_ne, Bool.or_eq_true, Bool.and_eq_true, Bool.not_eq_true', Bool.or_eq_false_iff, Bool.and_eq_false_iff, bne_eq_false_iff_eq, beq_iff_eq, beq_eq_false_iff_ne, ne_eq, decide_eq_true_eq, decide_eq_false_iff_not, Bool.false_eq_true, true_iff, false_iff, iff_true, iff_false, reduceCtorEq, Bool.true_eq_false, true_and, and_true, or_true, true_or, false_or, or_false, and_false, false_and, forall_const, not_true_eq_false, not_false_eq_true, false_implies, implies_true] at * <;> omega)
    · rw [hN] at HN ⊢
      have h1 := HN.out.1 rfl
      have HN' := hid h1
      clear h1 HN
      by_cases h4 : s0 = 4
      · subst h4
        have ha : ac = 0 ∨ ac = 1 ∨ ac = 2 := by omega
        rcases ha with rfl | rfl | rfl
        · go_wp2_with ((with_reducible refine wpList_unguard ?_ ?_); (focus rfl))
          refine wp_loop_rounds 4 ?_
          rw [rounds_succ]
          go_wp2_with ((with_reducible refine wpList_unguard ?_ ?_); (focus rfl))
          have ha0 : Below w2.heap.size w2 (w2.alloc (.cells #[.int .i64 4, .int .i64 v0, .int .i64 b0] 26)) := (Below.refl _ _).alloc (Nat.le_refl _) _
          have hK := Blk.new w2 26 #[.int .i64 4, .int .i64 v0, .int .i64 b0]
          have HMn := hid (HMw2.out.below ha0)
          have HBn := hid (HBw2.out.trans (ha0.mono HBw2.out.size))
          clear m0 m1 m2 m3 m4 m5 m6 m7 m8 m9 m10 m11 m12
          clear HMw2 HBw2 ha0
          generalize w2.alloc (.cells #[.int .i64 4, .int .i64 v0, .int .i64 b0] 26) = a0 at *
          generalize w2.heap.size = n0 at *
          refine Calls.mono (meta_right 4 v0 b0 a0) ?_; rintro e c0 ⟨rfl, hb⟩
          have HMc0 := hid (HMn.out.below hb)
          have HBc0 := hid (HBn.out.trans (hb.mono HBn.out.size))
          have hK := hK.below hb
          have k0 := hK.cell 0 _ rfl; have k1 := hK.cell 1 _ rfl; have k2 := hK.cell 2 _ rfl
          clear HMn HBn hb hK
          obtain ⟨m0, m1, m2, m3, m4, m5, m6, m7, m8, m9, m10, m11, m12⟩ := Blk.mm HMc0.out
          have HQ0 := hid (slotOk_iff' (s := 4) (v := v0) (b := b0))
          rcases Bool.eq_false_or_eq_true (slotOk 4 v0 b0) with hq | hq
          · rw [hq]
            have HP0 := hid (HQ0.out.1 hq)
            clear hq HQ0
            go_wp2_with ((with_reducible refine wpList_unguard ?_ ?_); (focus rfl))
            clear k0 k1 k2
            rw [rounds_succ]
            go_wp2_with ((with_reducible refine wpList_unguard ?_ ?_); (focus rfl))
            have ha1 : Below c0.heap.size c0 (c0.alloc (.cells #[.int .i64 s1, .int .i64 v1, .int .i64 b1] 26)) := (Below.refl _ _).alloc (Nat.le_refl _) _
            have hK := Blk.new c0 26 #[.int .i64 s1, .int .i64 v1, .int .i64 b1]
            have HMn := hid (HMc0.out.below ha1)
            have HBn := hid (HBc0.out.trans (ha1.mono HBc0.out.size))
            clear m0 m1 m2 m3 m4 m5 m6 m7 m8 m9 m10 m11 m12
            clear HMc0 HBc0 ha1
            generalize c0.alloc (.cells #[.int .i64 s1, .int .i64 v1, .int .i64 b1] 26) = a1 at *
            generalize c0.heap.size = n1 at *
            refine Calls.mono (meta_right s1 v1 b1 a1) ?_; rintro e c1 ⟨rfl, hb⟩
            have HMc1 := hid (HMn.out.below hb)
            have HBc1 := hid (HBn.out.trans (hb.mono HBn.out.size))
            have hK := hK.below hb
            have k0 := hK.cell 0 _ rfl; have k1 := hK.cell 1 _ rfl; have k2 := hK.cell 2 _ rfl
            clear HMn HBn hb hK
            obtain ⟨m0, m1, m2, m3, m4, m5, m6, m7, m8, m9, m10, m11, m12⟩ := Blk.mm HMc1.out
            have HQ1 := hid (slotOk_iff' (s := s1) (v := v1) (b := b1))
            rcases Bool.eq_false_or_eq_true (slotOk s1 v1 b1) with hq | hq
            · rw [hq]
              have HP1 := hid (HQ1.out.1 hq)
              clear hq HQ1
              by_cases hs : s1 = 3
              · subst hs
                have hp := HP1.out
                go_wp2_with ((with_reducible refine wpList_unguard ?_ ?_); (focus rfl))
                go_ret
                refine ⟨?_, HBc1.out⟩
                refine congrArg (fun b => Ending.returned (Value.bool b)) ?_
                rw [hX.out]
                clear hX
                unfold metaP at *
                unfold slotP at *
                (simp only [bne_iff_ne, Bool.or_eq_true, Bool.and_eq_true, Bool.not_eq_true', Bool.or_eq_false_iff, Bool.and_eq_false_iff, bne_eq_false_iff_eq, beq_iff_eq, beq_eq_false_iff_ne, ne_eq, decide_eq_true_eq, decide_eq_false_iff_not, Bool.false_eq_true, true_iff, false_iff, iff_true, iff_false, reduceCtorEq, Bool.true_eq_false, true_and, and_true, or_true, true_or, false_or, or_false, and_false, false_and, forall_const, not_true_eq_false, not_false_eq_true, false_implies, implies_true] at * <;> omega)
              · have hs' : (s1 == 3) = false := by simpa using hs
                go_wp2_with ((with_reducible refine wpList_unguard ?_ ?_); (focus rfl))
                have HS1 := hid hs
                clear hs hs' k0 k1 k2
                rw [rounds_succ]
                go_wp2_with ((with_reducible refine wpList_unguard ?_ ?_); (focus rfl))
                have ha2 : Below c1.heap.size c1 (c1.alloc (.cells #[.int .i64 s2, .int .i64 v2, .int .i64 b2] 26)) := (Below.refl _ _).alloc (Nat.le_refl _) _
                have hK := Blk.new c1 26 #[.int .i64 s2, .int .i64 v2, .int .i64 b2]
                have HMn := hid (HMc1.out.below ha2)
                have HBn := hid (HBc1.out.trans (ha2.mono HBc1.out.size))
                clear m0 m1 m2 m3 m4 m5 m6 m7 m8 m9 m10 m11 m12
                clear HMc1 HBc1 ha2
                generalize c1.alloc (.cells #[.int .i64 s2, .int .i64 v2, .int .i64 b2] 26) = a2 at *
                generalize c1.heap.size = n2 at *
                refine Calls.mono (meta_right s2 v2 b2 a2) ?_; rintro e c2 ⟨rfl, hb⟩
                have HMc2 := hid (HMn.out.below hb)
                have HBc2 := hid (HBn.out.trans (hb.mono HBn.out.size))
                have hK := hK.below hb
                have k0 := hK.cell 0 _ rfl; have k1 := hK.cell 1 _ rfl; have k2 := hK.cell 2 _ rfl
                clear HMn HBn hb hK
                obtain ⟨m0, m1, m2, m3, m4, m5, m6, m7, m8, m9, m10, m11, m12⟩ := Blk.mm HMc2.out
                have HQ2 := hid (slotOk_iff' (s := s2) (v := v2) (b := b2))
                rcases Bool.eq_false_or_eq_true (slotOk s2 v2 b2) with hq | hq
                · rw [hq]
                  have HP2 := hid (HQ2.out.1 hq)
                  clear hq HQ2
                  by_cases hs : s2 = 3
                  · subst hs
                    have hp := HP2.out
                    go_wp2_with ((with_reducible refine wpList_unguard ?_ ?_); (focus rfl))
                    go_ret
                    refine ⟨?_, HBc2.out⟩
                    refine congrArg (fun b => Ending.returned (Value.bool b)) ?_
                    rw [hX.out]
                    clear hX
                    unfold metaP at *
                    unfold slotP at *
                    (simp only [bne_iff_ne, Bool.or_eq_true, Bool.and_eq_true, Bool.not_eq_true', Bool.or_eq_false_iff, Bool.and_eq_false_iff, bne_eq_false_iff_eq, beq_iff_eq, beq_eq_false_iff_ne, ne_eq, decide_eq_true_eq, decide_eq_false_iff_not, Bool.false_eq_true, true_iff, false_iff, iff_true, iff_false, reduceCtorEq, Bool.true_eq_false, true_and, and_true, or_true, true_or, false_or, or_false, and_false, false_and, forall_const, not_true_eq_false, not_false_eq_true, false_implies, implies_true] at * <;> omega)
                  · have hs' : (s2 == 3) = false := by simpa using hs
                    go_wp2_with ((with_reducible refine wpList_unguard ?_ ?_); (focus rfl))
                    have HS2 := hid hs
                    clear hs hs' k0 k1 k2
                    rw [rounds_succ]
                    go_wp2_with ((with_reducible refine wpList_unguard ?_ ?_); (focus rfl))
                    all_goals
                      have hn := HN'.out; have p0 := HP0.out; have p1 := HP1.out; have p2 := HP2.out; have q1 := HS1.out; have q2 := HS2.out
                      go_ret
                      refine ⟨?_, HBc2.out⟩
                      refine congrArg (fun b => Ending.returned (Value.bool b)) ?_
                      rw [hX.out]
                      clear hX
                      unfold metaP at *
                      unfold slotP at *
                      (simp only [bne_iff_ne, Bool.or_eq_true, Bool.and_eq_true, Bool.not_eq_true', Bool.or_eq_false_iff, Bool.and_eq_false_iff, bne_eq_false_iff_eq, beq_iff_eq, beq_eq_false_iff_ne, ne_eq, decide_eq_true_eq, decide_eq_false_iff_not, Bool.false_eq_true, true_iff, false_iff, iff_true, iff_false, reduceCtorEq, Bool.true_eq_false, true_and, and_true, or_true, true_or, false_or, or_false, and_false, false_and, forall_const, not_true_eq_false, not_false_eq_true, false_implies, implies_true] at * <;> omega)
                · rw [hq]
                  have hp : ¬ slotP s2 v2 b2 := fun h => by have := HQ2.out.2 h; rw [hq] at this; cases this
                  clear hq HQ2
                  go_wp2_with ((with_reducible refine wpList_unguard ?_ ?_); (focus rfl))
                  go_ret
                  refine ⟨?_, HBc2.out⟩
                  refine congrArg (fun b => Ending.returned (Value.bool b)) ?_
                  rw [hX.out]
                  clear hX
                  unfold metaP at *
                  unfold slotP at *
                  (simp only [bne_iff_ne, Bool.or_eq_true, Bool.and_eq_true, Bool.not_eq_true', Bool.or_eq_false_iff, Bool.and_eq_false_iff, bne_eq_false_iff_eq, beq_iff_eq, beq_eq_false_iff_ne, ne_eq, decide_eq_true_eq, decide_eq_false_iff_not, Bool.false_eq_true, true_iff, false_iff, iff_true, iff_false, reduceCtorEq, Bool.true_eq_false, true_and, and_true, or_true, true_or, false_or, or_false, and_false, false_and, forall_const, not_true_eq_false, not_false_eq_true, false_implies, implies_true] at * <;> omega)
            · rw [hq]
              have hp : ¬ slotP s1 v1 b1 := fun h => by have := HQ1.out.2 h; rw [hq] at this; cases this
              clear hq HQ1
              go_wp2_with ((with_reducible refine wpList_unguard ?_ ?_); (focus rfl))
              go_ret
              refine ⟨?_, HBc1.out⟩
              refine congrArg (fun b => Ending.returned (Value.bool b)) ?_
              rw [hX.out]
              clear hX
              unfold metaP at *
              unfold slotP at *
              (simp only [bne_iff_ne, Bool.or_eq_true, Bool.and_eq_true, Bool.not_eq_true', Bool.or_eq_false_iff, Bool.and_eq_false_iff, bne_eq_false_iff_eq, beq_iff_eq, beq_eq_false_iff_ne, ne_eq, decide_eq_true_eq, decide_eq_false_iff_not, Bool.false_eq_true, true_iff, false_iff, iff_true, iff_false, reduceCtorEq, Bool.true_eq_false, true_and, and_true, or_true, true_or, false_or, or_false, and_false, false_and, forall_const, not_true_eq_false, not_false_eq_true, false_implies, implies_true] at * <;> omega)
          · rw [hq]
            have hp : ¬ slotP 4 v0 b0 := fun h => by have := HQ0.out.2 h; rw [hq] at this; cases this
            clear hq HQ0
            go_wp2_with ((with_reducible refine wpList_unguard ?_ ?_); (focus rfl))
            go_ret
            refine ⟨?_, HBc0.out⟩
            refine congrArg (fun b => Ending.returned (Value.bool b)) ?_
            rw [hX.out]
            clear hX
            unfold metaP at *
            unfold slotP at *
            (simp only [bne_iff_ne, Bool.or_eq_true, Bool.and_eq_true, Bool.not_eq_true', Bool.or_eq_false_iff, Bool.and_eq_false_iff, bne_eq_false_iff_eq, beq_iff_eq, beq_eq_false_iff_ne, ne_eq, decide_eq_true_eq, decide_eq_false_iff_not, Bool.false_eq_true, true_iff, false_iff, iff_true, iff_false, reduceCtorEq, Bool.true_eq_false, true_and, and_true, or_true, true_or, false_or, or_false, and_false, false_and, forall_const, not_true_eq_false, not_false_eq_true, false_implies, implies_true] at * <;> omega)
        · go_wp2_with ((with_reducible refine wpList_unguard ?_ ?_); (focus rfl))
          refine wp_loop_rounds 4 ?_
          rw [rounds_succ]
          go_wp2_with ((with_reducible refine wpList_unguard ?_ ?_); (focus rfl))
          have ha0 : Below w2.heap.size w2 (w2.alloc (.cells #[.int .i64 4, .int .i64 v0, .int .i64 b0] 26)) := (Below.refl _ _).alloc (Nat.le_refl _) _
          have hK := Blk.new w2 26 #[.int .i64 4, .int .i64 v0, .int .i64 b0]
          have HMn := hid (HMw2.out.below ha0)
          have HBn := hid (HBw2.out.trans (ha0.mono HBw2.out.size))
          clear m0 m1 m2 m3 m4 m5 m6 m7 m8 m9 m10 m11 m12
          clear HMw2 HBw2 ha0
          generalize w2.alloc (.cells #[.int .i64 4, .int .i64 v0, .int .i64 b0] 26) = a0 at *
          generalize w2.heap.size = n0 at *
          refine Calls.mono (meta_right 4 v0 b0 a0) ?_; rintro e c0 ⟨rfl, hb⟩
          have HMc0 := hid (HMn.out.below hb)
          have HBc0 := hid (HBn.out.trans (hb.mono HBn.out.size))
          have hK := hK.below hb
          have k0 := hK.cell 0 _ rfl; have k1 := hK.cell 1 _ rfl; have k2 := hK.cell 2 _ rfl
          clear HMn HBn hb hK
          obtain ⟨m0, m1, m2, m3, m4, m5, m6, m7, m8, m9, m10, m11, m12⟩ := Blk.mm HMc0.out
          have HQ0 := hid (slotOk_iff' (s := 4) (v := v0) (b := b0))
          rcases Bool.eq_false_or_eq_true (slotOk 4 v0 b0) with hq | hq
          · rw [hq]
            have HP0 := hid (HQ0.out.1 hq)
            clear hq HQ0
            go_wp2_with ((with_reducible refine wpList_unguard ?_ ?_); (focus rfl))
            clear k0 k1 k2
            rw [rounds_succ]
            go_wp2_with ((with_reducible refine wpList_unguard ?_ ?_); (focus rfl))
            have ha1 : Below c0.heap.size c0 (c0.alloc (.cells #[.int .i64 s1, .int .i64 v1, .int .i64 b1] 26)) := (Below.refl _ _).alloc (Nat.le_refl _) _
            have hK := Blk.new c0 26 #[.int .i64 s1, .int .i64 v1, .int .i64 b1]
            have HMn := hid (HMc0.out.below ha1)
            have HBn := hid (HBc0.out.trans (ha1.mono HBc0.out.size))
            clear m0 m1 m2 m3 m4 m5 m6 m7 m8 m9 m10 m11 m12
            clear HMc0 HBc0 ha1
            generalize c0.alloc (.cells #[.int .i64 s1, .int .i64 v1, .int .i64 b1] 26) = a1 at *
            generalize c0.heap.size = n1 at *
            refine Calls.mono (meta_right s1 v1 b1 a1) ?_; rintro e c1 ⟨rfl, hb⟩
            have HMc1 := hid (HMn.out.below hb)
            have HBc1 := hid (HBn.out.trans (hb.mono HBn.out.size))
            have hK := hK.below hb
            have k0 := hK.cell 0 _ rfl; have k1 := hK.cell 1 _ rfl; have k2 := hK.cell 2 _ rfl
            clear HMn HBn hb hK
            obtain ⟨m0, m1, m2, m3, m4, m5, m6, m7, m8, m9, m10, m11, m12⟩ := Blk.mm HMc1.out
            have HQ1 := hid (slotOk_iff' (s := s1) (v := v1) (b := b1))
            rcases Bool.eq_false_or_eq_true (slotOk s1 v1 b1) with hq | hq
            · rw [hq]
              have HP1 := hid (HQ1.out.1 hq)
              clear hq HQ1
              by_cases hs : s1 = 3
              · subst hs
                go_wp2_with ((with_reducible refine wpList_unguard ?_ ?_); (focus rfl))
                have HS1 : Hid True := trivial
                clear k0 k1 k2
                rw [rounds_succ]
                go_wp2_with ((with_reducible refine wpList_unguard ?_ ?_); (focus rfl))
                have ha2 : Below c1.heap.size c1 (c1.alloc (.cells #[.int .i64 s2, .int .i64 v2, .int .i64 b2] 26)) := (Below.refl _ _).alloc (Nat.le_refl _) _
                have hK := Blk.new c1 26 #[.int .i64 s2, .int .i64 v2, .int .i64 b2]
                have HMn := hid (HMc1.out.below ha2)
                have HBn := hid (HBc1.out.trans (ha2.mono HBc1.out.size))
                clear m0 m1 m2 m3 m4 m5 m6 m7 m8 m9 m10 m11 m12
                clear HMc1 HBc1 ha2
                generalize c1.alloc (.cells #[.int .i64 s2, .int .i64 v2, .int .i64 b2] 26) = a2 at *
                generalize c1.heap.size = n2 at *
                refine Calls.mono (meta_right s2 v2 b2 a2) ?_; rintro e c2 ⟨rfl, hb⟩
                have HMc2 := hid (HMn.out.below hb)
                have HBc2 := hid (HBn.out.trans (hb.mono HBn.out.size))
                have hK := hK.below hb
                have k0 := hK.cell 0 _ rfl; have k1 := hK.cell 1 _ rfl; have k2 := hK.cell 2 _ rfl
                clear HMn HBn hb hK
                obtain ⟨m0, m1, m2, m3, m4, m5, m6, m7, m8, m9, m10, m11, m12⟩ := Blk.mm HMc2.out
                have HQ2 := hid (slotOk_iff' (s := s2) (v := v2) (b := b2))
                rcases Bool.eq_false_or_eq_true (slotOk s2 v2 b2) with hq | hq
                · rw [hq]
                  have HP2 := hid (HQ2.out.1 hq)
                  clear hq HQ2
                  by_cases hs : s2 = 3
                  · subst hs
                    have hp := HP2.out
                    go_wp2_with ((with_reducible refine wpList_unguard ?_ ?_); (focus rfl))
                    go_ret
                    refine ⟨?_, HBc2.out⟩
                    refine congrArg (fun b => Ending.returned (Value.bool b)) ?_
                    rw [hX.out]
                    clear hX
                    unfold metaP at *
                    unfold slotP at *
                    (simp only [bne_iff_ne, Bool.or_eq_true, Bool.and_eq_true, Bool.not_eq_true', Bool.or_eq_false_iff, Bool.and_eq_false_iff, bne_eq_false_iff_eq, beq_iff_eq, beq_eq_false_iff_ne, ne_eq, decide_eq_true_eq, decide_eq_false_iff_not, Bool.false_eq_true, true_iff, false_iff, iff_true, iff_false, reduceCtorEq, Bool.true_eq_false, true_and, and_true, or_true, true_or, false_or, or_false, and_false, false_and, forall_const, not_true_eq_false, not_false_eq_true, false_implies, implies_true] at * <;> omega)
                  · have hs' : (s2 == 3) = false := by simpa using hs
                    go_wp2_with ((with_reducible refine wpList_unguard ?_ ?_); (focus rfl))
                    have HS2 := hid hs
                    clear hs hs' k0 k1 k2
                    rw [rounds_succ]
                    go_wp2_with ((with_reducible refine wpList_unguard ?_ ?_); (focus rfl))
                    all_goals
                      have hn := HN'.out; have p0 := HP0.out; have p1 := HP1.out; have p2 := HP2.out; have q1 := HS1.out; have q2 := HS2.out
                      go_ret
                      refine ⟨?_, HBc2.out⟩
                      refine congrArg (fun b => Ending.returned (Value.bool b)) ?_
                      rw [hX.out]
                      clear hX
                      unfold metaP at *
                      unfold slotP at *
                      (simp only [bne_iff_ne, Bool.or_eq_true, Bool.and_eq_true, Bool.not_eq_true', Bool.or_eq_false_iff, Bool.and_eq_false_iff, bne_eq_false_iff_eq, beq_iff_eq, beq_eq_false_iff_ne, ne_eq, decide_eq_true_eq, decide_eq_false_iff_not, Bool.false_eq_true, true_iff, false_iff, iff_true, iff_false, reduceCtorEq, Bool.true_eq_false, true_and, and_true, or_true, true_or, false_or, or_false, and_false, false_and, forall_const, not_true_eq_false, not_false_eq_true, false_implies, implies_true] at * <;> omega)
                · rw [hq]
                  have hp : ¬ slotP s2 v2 b2 := fun h => by have := HQ2.out.2 h; rw [hq] at this; cases this
                  clear hq HQ2
                  go_wp2_with ((with_reducible refine wpList_unguard ?_ ?_); (focus rfl))
                  go_ret
                  refine ⟨?_, HBc2.out⟩
                  refine congrArg (fun b => Ending.returned (Value.bool b)) ?_
                  rw [hX.out]
                  clear hX
                  unfold metaP at *
                  unfold slotP at *
                  (simp only [bne_iff_ne, Bool.or_eq_true, Bool.and_eq_true, Bool.not_eq_true', Bool.or_eq_false_iff, Bool.and_eq_false_iff, bne_eq_false_iff_eq, beq_iff_eq, beq_eq_false_iff_ne, ne_eq, decide_eq_true_eq, decide_eq_false_iff_not, Bool.false_eq_true, true_iff, false_iff, iff_true, iff_false, reduceCtorEq, Bool.true_eq_false, true_and, and_true, or_true, true_or, false_or, or_false, and_false, false_and, forall_const, not_true_eq_false, not_false_eq_true, false_implies, implies_true] at * <;> omega)
              · have hs' : (s1 == 3) = false := by simpa using hs
                go_wp2_with ((with_reducible refine wpList_unguard ?_ ?_); (focus rfl))
                have HS1 := hid hs
                clear hs hs' k0 k1 k2
                rw [rounds_succ]
                go_wp2_with ((with_reducible refine wpList_unguard ?_ ?_); (focus rfl))
                have ha2 : Below c1.heap.size c1 (c1.alloc (.cells #[.int .i64 s2, .int .i64 v2, .int .i64 b2] 26)) := (Below.refl _ _).alloc (Nat.le_refl _) _
                have hK := Blk.new c1 26 #[.int .i64 s2, .int .i64 v2, .int .i64 b2]
                have HMn := hid (HMc1.out.below ha2)
                have HBn := hid (HBc1.out.trans (ha2.mono HBc1.out.size))
                clear m0 m1 m2 m3 m4 m5 m6 m7 m8 m9 m10 m11 m12
                clear HMc1 HBc1 ha2
                generalize c1.alloc (.cells #[.int .i64 s2, .int .i64 v2, .int .i64 b2] 26) = a2 at *
                generalize c1.heap.size = n2 at *
                refine Calls.mono (meta_right s2 v2 b2 a2) ?_; rintro e c2 ⟨rfl, hb⟩
                have HMc2 := hid (HMn.out.below hb)
                have HBc2 := hid (HBn.out.trans (hb.mono HBn.out.size))
                have hK := hK.below hb
                have k0 := hK.cell 0 _ rfl; have k1 := hK.cell 1 _ rfl; have k2 := hK.cell 2 _ rfl
                clear HMn HBn hb hK
                obtain ⟨m0, m1, m2, m3, m4, m5, m6, m7, m8, m9, m10, m11, m12⟩ := Blk.mm HMc2.out
                have HQ2 := hid (slotOk_iff' (s := s2) (v := v2) (b := b2))
                rcases Bool.eq_false_or_eq_true (slotOk s2 v2 b2) with hq | hq
                · rw [hq]
                  have HP2 := hid (HQ2.out.1 hq)
                  clear hq HQ2
                  by_cases hs : s2 = 3
                  · subst hs
                    have hp := HP2.out
                    go_wp2_with ((with_reducible refine wpList_unguard ?_ ?_); (focus rfl))
                    go_ret
                    refine ⟨?_, HBc2.out⟩
                    refine congrArg (fun b => Ending.returned (Value.bool b)) ?_
                    rw [hX.out]
                    clear hX
                    unfold metaP at *
                    unfold slotP at *
                    (simp only [bne_iff_ne, Bool.or_eq_true, Bool.and_eq_true, Bool.not_eq_true', Bool.or_eq_false_iff, Bool.and_eq_false_iff, bne_eq_false_iff_eq, beq_iff_eq, beq_eq_false_iff_ne, ne_eq, decide_eq_true_eq, decide_eq_false_iff_not, Bool.false_eq_true, true_iff, false_iff, iff_true, iff_false, reduceCtorEq, Bool.true_eq_false, true_and, and_true, or_true, true_or, false_or, or_false, and_false, false_and, forall_const, not_true_eq_false, not_false_eq_true, false_implies, implies_true] at * <;> omega)
                  · have hs' : (s2 == 3) = false := by simpa using hs
                    go_wp2_with ((with_reducible refine wpList_unguard ?_ ?_); (focus rfl))
                    have HS2 := hid hs
                    clear hs hs' k0 k1 k2
                    rw [rounds_succ]
                    go_wp2_with ((with_reducible refine wpList_unguard ?_ ?_); (focus rfl))
                    all_goals
                      have hn := HN'.out; have p0 := HP0.out; have p1 := HP1.out; have p2 := HP2.out; have q1 := HS1.out; have q2 := HS2.out
                      go_ret
                      refine ⟨?_, HBc2.out⟩
                      refine congrArg (fun b => Ending.returned (Value.bool b)) ?_
                      rw [hX.out]
                      clear hX
                      unfold metaP at *
                      unfold slotP at *
                      (simp only [bne_iff_ne, Bool.or_eq_true, Bool.and_eq_true, Bool.not_eq_true', Bool.or_eq_false_iff, Bool.and_eq_false_iff, bne_eq_false_iff_eq, beq_iff_eq, beq_eq_false_iff_ne, ne_eq, decide_eq_true_eq, decide_eq_false_iff_not, Bool.false_eq_true, true_iff, false_iff, iff_true, iff_false, reduceCtorEq, Bool.true_eq_false, true_and, and_true, or_true, true_or, false_or, or_false, and_false, false_and, forall_const, not_true_eq_false, not_false_eq_true, false_implies, implies_true] at * <;> omega)
                · rw [hq]
                  have hp : ¬ slotP s2 v2 b2 := fun h => by have := HQ2.out.2 h; rw [hq] at this; cases this
                  clear hq HQ2
                  go_wp2_with ((with_reducible refine wpList_unguard ?_ ?_); (focus rfl))
                  go_ret
                  refine ⟨?_, HBc2.out⟩
                  refine congrArg (fun b => Ending.returned (Value.bool b)) ?_
                  rw [hX.out]
                  clear hX
                  unfold metaP at *
                  unfold slotP at *
                  (simp only [bne_iff_ne, Bool.or_eq_true, Bool.and_eq_true, Bool.not_eq_true', Bool.or_eq_false_iff, Bool.and_eq_false_iff, bne_eq_false_iff_eq, beq_iff_eq, beq_eq_false_iff_ne, ne_eq, decide_eq_true_eq, decide_eq_false_iff_not, Bool.false_eq_true, true_iff, false_iff, iff_true, iff_false, reduceCtorEq, Bool.true_eq_false, true_and, and_true, or_true, true_or, false_or, or_false, and_false, false_and, forall_const, not_true_eq_false, not_false_eq_true, false_implies, implies_true] at * <;> omega)
            · rw [hq]
              have hp : ¬ slotP s1 v1 b1 := fun h => by have := HQ1.out.2 h; rw [hq] at this; cases this
              clear hq HQ1
              go_wp2_with ((with_reducible refine wpList_unguard ?_ ?_); (focus rfl))
              go_ret
              refine ⟨?_, HBc1.out⟩
              refine congrArg (fun b => Ending.returned (Value.bool b)) ?_
              rw [hX.out]
              clear hX
              unfold metaP at *
              unfold slotP at *
              (simp only [bne_iff_ne, Bool.or_eq_true, Bool.and_eq_true, Bool.not_eq_true', Bool.or_eq_false_iff, Bool.and_eq_false_iff, bne_eq_false_iff_eq, beq_iff_eq, beq_eq_false_iff_ne, ne_eq, decide_eq_true_eq, decide_eq_false_iff_not, Bool.false_eq_true, true_iff, false_iff, iff_true, iff_false, reduceCtorEq, Bool.true_eq_false, true_and, and_true, or_true, true_or, false_or, or_false, and_false, false_and, forall_const, not_true_eq_false, not_false_eq_true, false_implies, implies_true] at * <;> omega)
          · rw [hq]
            have hp : ¬ slotP 4 v0 b0 := fun h => by have := HQ0.out.2 h; rw [hq] at this; cases this
            clear hq HQ0
            go_wp2_with ((with_reducible refine wpList_unguard ?_ ?_); (focus rfl))
            go_ret
            refine ⟨?_, HBc0.out⟩
            refine congrArg (fun b => Ending.returned (Value.bool b)) ?_
            rw [hX.out]
            clear hX
            unfold metaP at *
            unfold slotP at *
            (simp only [bne_iff_ne, Bool.or_eq_true, Bool.and_eq_true, Bool.not_eq_true', Bool.or_eq_false_iff, Bool.and_eq_false_iff, bne_eq_false_iff_eq, beq_iff_eq, beq_eq_false_iff_ne, ne_eq, decide_eq_true_eq, decide_eq_false_iff_not, Bool.false_eq_true, true_iff, false_iff, iff_true, iff_false, reduceCtorEq, Bool.true_eq_false, true_and, and_true, or_true, true_or, false_or, or_false, and_false, false_and, forall_const, not_true_eq_false, not_false_eq_true, false_implies, implies_true] at * <;> omega)
        · go_wp2_with ((with_reducible refine wpList_unguard ?_ ?_); (focus rfl))
          refine wp_loop_rounds 4 ?_
          rw [rounds_succ]
          go_wp2_with ((with_reducible refine wpList_unguard ?_ ?_); (focus rfl))
          have ha0 : Below w2.heap.size w2 (w2.alloc (.cells #[.int .i64 4, .int .i64 v0, .int .i64 b0] 26)) := (Below.refl _ _).alloc (Nat.le_refl _) _
          have hK := Blk.new w2 26 #[.int .i64 4, .int .i64 v0, .int .i64 b0]
          have HMn := hid (HMw2.out.below ha0)
          have HBn := hid (HBw2.out.trans (ha0.mono HBw2.out.size))
          clear m0 m1 m2 m3 m4 m5 m6 m7 m8 m9 m10 m11 m12
          clear HMw2 HBw2 ha0
          generalize w2.alloc (.cells #[.int .i64 4, .int .i64 v0, .int .i64 b0] 26) = a0 at *
          generalize w2.heap.size = n0 at *
          refine Calls.mono (meta_right 4 v0 b0 a0) ?_; rintro e c0 ⟨rfl, hb⟩
          have HMc0 := hid (HMn.out.below hb)
          have HBc0 := hid (HBn.out.trans (hb.mono HBn.out.size))
          have hK := hK.below hb
          have k0 := hK.cell 0 _ rfl; have k1 := hK.cell 1 _ rfl; have k2 := hK.cell 2 _ rfl
          clear HMn HBn hb hK
          obtain ⟨m0, m1, m2, m3, m4, m5, m6, m7, m8, m9, m10, m11, m12⟩ := Blk.mm HMc0.out
          have HQ0 := hid (slotOk_iff' (s := 4) (v := v0) (b := b0))
          rcases Bool.eq_false_or_eq_true (slotOk 4 v0 b0) with hq | hq
          · rw [hq]
            have HP0 := hid (HQ0.out.1 hq)
            clear hq HQ0
            go_wp2_with ((with_reducible refine wpList_unguard ?_ ?_); (focus rfl))
            clear k0 k1 k2
            rw [rounds_succ]
            go_wp2_with ((with_reducible refine wpList_unguard ?_ ?_); (focus rfl))
            have ha1 : Below c0.heap.size c0 (c0.alloc (.cells #[.int .i64 s1, .int .i64 v1, .int .i64 b1] 26)) := (Below.refl _ _).alloc (Nat.le_refl _) _
            have hK := Blk.new c0 26 #[.int .i64 s1, .int .i64 v1, .int .i64 b1]
            have HMn := hid (HMc0.out.below ha1)
            have HBn := hid (HBc0.out.trans (ha1.mono HBc0.out.size))
            clear m0 m1 m2 m3 m4 m5 m6 m7 m8 m9 m10 m11 m12
            clear HMc0 HBc0 ha1
            generalize c0.alloc (.cells #[.int .i64 s1, .int .i64 v1, .int .i64 b1] 26) = a1 at *
            generalize c0.heap.size = n1 at *
            refine Calls.mono (meta_right s1 v1 b1 a1) ?_; rintro e c1 ⟨rfl, hb⟩
            have HMc1 := hid (HMn.out.below hb)
            have HBc1 := hid (HBn.out.trans (hb.mono HBn.out.size))
            have hK := hK.below hb
            have k0 := hK.cell 0 _ rfl; have k1 := hK.cell 1 _ rfl; have k2 := hK.cell 2 _ rfl
            clear HMn HBn hb hK
            obtain ⟨m0, m1, m2, m3, m4, m5, m6, m7, m8, m9, m10, m11, m12⟩ := Blk.mm HMc1.out
            have HQ1 := hid (slotOk_iff' (s := s1) (v := v1) (b := b1))
            rcases Bool.eq_false_or_eq_true (slotOk s1 v1 b1) with hq | hq
            · rw [hq]
              have HP1 := hid (HQ1.out.1 hq)
              clear hq HQ1
              by_cases hs : s1 = 3
              · subst hs
                have hp := HP1.out
                go_wp2_with ((with_reducible refine wpList_unguard ?_ ?_); (focus rfl))
                go_ret
                refine ⟨?_, HBc1.out⟩
                refine congrArg (fun b => Ending.returned (Value.bool b)) ?_
                rw [hX.out]
                clear hX
                unfold metaP at *
                unfold slotP at *
                (simp only [bne_iff_ne, Bool.or_eq_true, Bool.and_eq_true, Bool.not_eq_true', Bool.or_eq_false_iff, Bool.and_eq_false_iff, bne_eq_false_iff_eq, beq_iff_eq, beq_eq_false_iff_ne, ne_eq, decide_eq_true_eq, decide_eq_false_iff_not, Bool.false_eq_true, true_iff, false_iff, iff_true, iff_false, reduceCtorEq, Bool.true_eq_false, true_and, and_true, or_true, true_or, false_or, or_false, and_false, false_and, forall_const, not_true_eq_false, not_false_eq_true, false_implies, implies_true] at * <;> omega)
              · have hs' : (s1 == 3) = false := by simpa using hs
                go_wp2_with ((with_reducible refine wpList_unguard ?_ ?_); (focus rfl))
                have HS1 := hid hs
                clear hs hs' k0 k1 k2
                rw [rounds_succ]
                go_wp2_with ((with_reducible refine wpList_unguard ?_ ?_); (focus rfl))
                have ha2 : Below c1.heap.size c1 (c1.alloc (.cells #[.int .i64 s2, .int .i64 v2, .int .i64 b2] 26)) := (Below.refl _ _).alloc (Nat.le_refl _) _
                have hK := Blk.new c1 26 #[.int .i64 s2, .int .i64 v2, .int .i64 b2]
                have HMn := hid (HMc1.out.below ha2)
                have HBn := hid (HBc1.out.trans (ha2.mono HBc1.out.size))
                clear m0 m1 m2 m3 m4 m5 m6 m7 m8 m9 m10 m11 m12
                clear HMc1 HBc1 ha2
                generalize c1.alloc (.cells #[.int .i64 s2, .int .i64 v2, .int .i64 b2] 26) = a2 at *
                generalize c1.heap.size = n2 at *
                refine Calls.mono (meta_right s2 v2 b2 a2) ?_; rintro e c2 ⟨rfl, hb⟩
                have HMc2 := hid (HMn.out.below hb)
                have HBc2 := hid (HBn.out.trans (hb.mono HBn.out.size))
                have hK := hK.below hb
                have k0 := hK.cell 0 _ rfl; have k1 := hK.cell 1 _ rfl; have k2 := hK.cell 2 _ rfl
                clear HMn HBn hb hK
                obtain ⟨m0, m1, m2, m3, m4, m5, m6, m7, m8, m9, m10, m11, m12⟩ := Blk.mm HMc2.out
                have HQ2 := hid (slotOk_iff' (s := s2) (v := v2) (b := b2))
                rcases Bool.eq_false_or_eq_true (slotOk s2 v2 b2) with hq | hq
                · rw [hq]
                  have HP2 := hid (HQ2.out.1 hq)
                  clear hq HQ2
                  by_cases hs : s2 = 3
                  · subst hs
                    go_wp2_with ((with_reducible refine wpList_unguard ?_ ?_); (focus rfl))
                    have HS2 : Hid True := trivial
                    clear k0 k1 k2
                    rw [rounds_succ]
                    go_wp2_with ((with_reducible refine wpList_unguard ?_ ?_); (focus rfl))
                    all_goals
                      have hn := HN'.out; have p0 := HP0.out; have p1 := HP1.out; have p2 := HP2.out; have q1 := HS1.out; have q2 := HS2.out
                      go_ret
                      refine ⟨?_, HBc2.out⟩
                      refine congrArg (fun b => Ending.returned (Value.bool b)) ?_
                      rw [hX.out]
                      clear hX
                      unfold metaP at *
                      unfold slotP at *
                      (simp only [bne_iff_ne, Bool.or_eq_true, Bool.and_eq_true, Bool.not_eq_true', Bool.or_eq_false_iff, Bool.and_eq_false_iff, bne_eq_false_iff_eq, beq_iff_eq, beq_eq_false_iff_ne, ne_eq, decide_eq_true_eq, decide_eq_false_iff_not, Bool.false_eq_true, true_iff, false_iff, iff_true, iff_false, reduceCtorEq, Bool.true_eq_false, true_and, and_true, or_true, true_or, false_or, or_false, and_false, false_and, forall_const, not_true_eq_false, not_false_eq_true, false_implies, implies_true] at * <;> omega)
                  · have hs' : (s2 == 3) = false := by simpa using hs
                    go_wp2_with ((with_reducible refine wpList_unguard ?_ ?_); (focus rfl))
                    have HS2 := hid hs
                    clear hs hs' k0 k1 k2
                    rw [rounds_succ]
                    go_wp2_with ((with_reducible refine wpList_unguard ?_ ?_); (focus rfl))
                    all_goals
                      have hn := HN'.out; have p0 := HP0.out; have p1 := HP1.out; have p2 := HP2.out; have q1 := HS1.out; have q2 := HS2.out
                      go_ret
                      refine ⟨?_, HBc2.out⟩
                      refine congrArg (fun b => Ending.returned (Value.bool b)) ?_
                      rw [hX.out]
                      clear hX
                      unfold metaP at *
                      unfold slotP at *
                      (simp only [bne_iff_ne, Bool.or_eq_true, Bool.and_eq_true, Bool.not_eq_true', Bool.or_eq_false_iff, Bool.and_eq_false_iff, bne_eq_false_iff_eq, beq_iff_eq, beq_eq_false_iff_ne, ne_eq, decide_eq_true_eq, decide_eq_false_iff_not, Bool.false_eq_true, true_iff, false_iff, iff_true, iff_false, reduceCtorEq, Bool.true_eq_false, true_and, and_true, or_true, true_or, false_or, or_false, and_false, false_and, forall_const, not_true_eq_false, not_false_eq_true, false_implies, implies_true] at * <;> omega)
                · rw [hq]
                  have hp : ¬ slotP s2 v2 b2 := fun h => by have := HQ2.out.2 h; rw [hq] at this; cases this
                  clear hq HQ2
                  go_wp2_with ((with_reducible refine wpList_unguard ?_ ?_); (focus rfl))
                  go_ret
                  refine ⟨?_, HBc2.out⟩
                  refine congrArg (fun b => Ending.returned (Value.bool b)) ?_
                  rw [hX.out]
                  clear hX
                  unfold metaP at *
                  unfold slotP at *
                  (simp only [bne_iff_ne, Bool.or_eq_true, Bool.and_eq_true, Bool.not_eq_true', Bool.or_eq_false_iff, Bool.and_eq_false_iff, bne_eq_false_iff_eq, beq_iff_eq, beq_eq_false_iff_ne, ne_eq, decide_eq_true_eq, decide_eq_false_iff_not, Bool.false_eq_true, true_iff, false_iff, iff_true, iff_false, reduceCtorEq, Bool.true_eq_false, true_and, and_true, or_true, true_or, false_or, or_false, and_false, false_and, forall_const, not_true_eq_false, not_false_eq_true, false_implies, implies_true] at * <;> omega)
            · rw [hq]
              have hp : ¬ slotP s1 v1 b1 := fun h => by have := HQ1.out.2 h; rw [hq] at this; cases this
              clear hq HQ1
              go_wp2_with ((with_reducible refine wpList_unguard ?_ ?_); (focus rfl))
              go_ret
              refine ⟨?_, HBc1.out⟩
              refine congrArg (fun b => Ending.returned (Value.bool b)) ?_
              rw [hX.out]
              clear hX
              unfold metaP at *
              unfold slotP at *
              (simp only [bne_iff_ne, Bool.or_eq_true, Bool.and_eq_true, Bool.not_eq_true', Bool.or_eq_false_iff, Bool.and_eq_false_iff, bne_eq_false_iff_eq, beq_iff_eq, beq_eq_false_iff_ne, ne_eq, decide_eq_true_eq, decide_eq_false_iff_not, Bool.false_eq_true, true_iff, false_iff, iff_true, iff_false, reduceCtorEq, Bool.true_eq_false, true_and, and_true, or_true, true_or, false_or, or_false, and_false, false_and, forall_const, not_true_eq_false, not_false_eq_true, false_implies, implies_true] at * <;> omega)
          · rw [hq]
            have hp : ¬ slotP 4 v0 b0 := fun h => by have := HQ0.out.2 h; rw [hq] at this; cases this
            clear hq HQ0
            go_wp2_with ((with_reducible refine wpList_unguard ?_ ?_); (focus rfl))
            go_ret
            refine ⟨?_, HBc0.out⟩
            refine congrArg (fun b => Ending.returned (Value.bool b)) ?_
            rw [hX.out]
            clear hX
            unfold metaP at *
            unfold slotP at *
            (simp only [bne_iff_ne, Bool.or_eq_true, Bool.and_eq_true, Bool.not_eq_true', Bool.or_eq_false_iff, Bool.and_eq_false_iff, bne_eq_false_iff_eq, beq_iff_eq, beq_eq_false_iff_ne, ne_eq, decide_eq_true_eq, decide_eq_false_iff_not, Bool.false_eq_true, true_iff, false_iff, iff_true, iff_false, reduceCtorEq, Bool.true_eq_false, true_and, and_true, or_true, true_or, false_or, or_false, and_false, false_and, forall_const, not_true_eq_false, not_false_eq_true, false_implies, implies_true] at * <;> omega)
      · have h4' : (s0 != 4) = true := by simpa using h4
        go_wp2_with ((with_reducible refine wpList_unguard ?_ ?_); (focus rfl))
        go_ret
        refine ⟨?_, HBw2.out⟩
        refine congrArg (fun b => Ending.returned (Value.bool b)) ?_
        rw [hX.out]
        clear hX
        unfold metaP slotP
        (simp only [bne_iff_ne, Bool.or_eq_true, Bool.and_eq_true, Bool.not_eq_true', Bool.or_eq_false_iff, Bool.and_eq_false_iff, bne_eq_false_iff_eq, beq_iff_eq, beq_eq_false_iff_ne, ne_eq, decide_eq_true_eq, decide_eq_false_iff_not, Bool.false_eq_true, true_iff, false_iff, iff_true, iff_false, reduceCtorEq, Bool.true_eq_false, true_and, and_true, or_true, true_or, false_or, or_false, and_false, false_and, forall_const, not_true_eq_false, not_false_eq_true, false_implies, implies_true] at * <;> omega)
  all_goals
    go_ret
    refine ⟨?_, hb0⟩
    refine congrArg (fun b => Ending.returned (Value.bool b)) ?_
    rw [hX.out]
    clear hX
    unfold metaP slotP
    (simp only [bne_iff_ne, Bool.or_eq_true, Bool.and_eq_true, Bool.not_eq_true', Bool.or_eq_false_iff, Bool.and_eq_false_iff, bne_eq_false_iff_eq, beq_iff_eq, beq_eq_false_iff_ne, ne_eq, decide_eq_true_eq, decide_eq_false_iff_not, Bool.false_eq_true, true_iff, false_iff, iff_true, iff_false, reduceCtorEq, Bool.true_eq_false, true_and, and_true, or_true, true_or, false_or, or_false, and_false, false_and, forall_const, not_true_eq_false, not_false_eq_true, false_implies, implies_true] at * <;> omega)
end Go.Proofs.Ytngkmlchblgmeaa
