/-
  ladder.Rungs, Target in the program; Rungs in the reference.
-/
import Derived.Test.YtngkmlchblgmeaaLad4
namespace Go.Proofs.Ytngkmlchblgmeaa
open Go.RowKit

def rungsOf (ac s1 s2 : Int) : List Int := if ac = 1 then (if s2 = 4 then [1, 2, 0] else [1, 0]) else if ac = 2 then (if s1 = 4 then [2, 1, 0] else [2, 0]) else [0]
def rungsL (s0 v0 b0 s1 v1 b1 s2 v2 b2 ac fl cu it : Int) : List Int := if metaOk s0 v0 b0 s1 v1 b1 s2 v2 b2 ac fl cu it = true then rungsOf ac s1 s2 else [0]
/-- A slice of ints is told. -/
def retZ (l : List Int) (e : Ending) (w : World) : Prop := ∃ p c, e = .returned (.slice p l.length c) ∧ l.length ≤ c ∧ cellsZ w p l
set_option maxHeartbeats 4000000 in
set_option maxRecDepth 100000 in
theorem lad_Rungs (s0 v0 b0 s1 v1 b1 s2 v2 b2 ac fl cu it : Int) (w : World) :
    Calls Try.prog 38 #[.agg #[.int .i64 s0, .int .i64 v0, .int .i64 b0, .int .i64 s1, .int .i64 v1, .int .i64 b1, .int .i64 s2, .int .i64 v2, .int .i64 b2, .int .i64 ac, .int .i64 fl, .int .i64 cu, .int .i64 it]] w fun e w' => retZ (rungsL s0 v0 b0 s1 v1 b1 s2 v2 b2 ac fl cu it) e w' ∧ Below w.heap.size w w' := by
  have hb0 : Below w.heap.size w (w.alloc (.cells #[.int .i64 s0, .int .i64 v0, .int .i64 b0, .int .i64 s1, .int .i64 v1, .int .i64 b1, .int .i64 s2, .int .i64 v2, .int .i64 b2, .int .i64 ac, .int .i64 fl, .int .i64 cu, .int .i64 it] 29)) := (Below.refl _ _).alloc (Nat.le_refl _) _
  have hM := Blk.new w 29 #[.int .i64 s0, .int .i64 v0, .int .i64 b0, .int .i64 s1, .int .i64 v1, .int .i64 b1, .int .i64 s2, .int .i64 v2, .int .i64 b2, .int .i64 ac, .int .i64 fl, .int .i64 cu, .int .i64 it]
  obtain ⟨w1, hw1⟩ : ∃ u, w.alloc (.cells #[.int .i64 s0, .int .i64 v0, .int .i64 b0, .int .i64 s1, .int .i64 v1, .int .i64 b1, .int .i64 s2, .int .i64 v2, .int .i64 b2, .int .i64 ac, .int .i64 fl, .int .i64 cu, .int .i64 it] 29) = u := ⟨_, rfl⟩
  rw [hw1] at hb0 hM
  have HM := hid hM
  have HB := hid hb0
  clear hb0
  obtain ⟨m0, m1, m2, m3, m4, m5, m6, m7, m8, m9, m10, m11, m12⟩ := Blk.mm hM
  clear hM
  have HX := hid (metaOk_iff (s0 := s0) (v0 := v0) (b0 := b0) (s1 := s1) (v1 := v1) (b1 := b1) (s2 := s2) (v2 := v2) (b2 := b2) (ac := ac) (fl := fl) (cu := cu) (it := it))
  have HL : Hid (rungsL s0 v0 b0 s1 v1 b1 s2 v2 b2 ac fl cu it = if metaOk s0 v0 b0 s1 v1 b1 s2 v2 b2 ac fl cu it = true then rungsOf ac s1 s2 else [0]) := rfl
  generalize rungsL s0 v0 b0 s1 v1 b1 s2 v2 b2 ac fl cu it = L at *
  (go_enter Try.func38, Try.ntmps38; try simp only [List.append])
  go_wp2_with ((with_reducible refine wpList_unguard ?_ ?_); (focus rfl))
  refine Calls.mono (meta_Right s0 v0 b0 s1 v1 b1 s2 v2 b2 ac fl cu it w1) ?_; rintro e w2 ⟨rfl, hb⟩
  clear m0 m1 m2 m3 m4 m5 m6 m7 m8 m9 m10 m11 m12
  clear hw1
  have HM2 := hid (HM.out.below hb)
  have HB2 := hid (HB.out.trans (hb.mono HB.out.size))
  clear HM HB hb
  rcases Bool.eq_false_or_eq_true (metaOk s0 v0 b0 s1 v1 b1 s2 v2 b2 ac fl cu it) with hq | hq
  · rw [hq] at HX HL ⊢
    rw [if_pos rfl] at HL
    have hp := HX.out.1 rfl
    have ha : ac = 0 ∨ ac = 1 ∨ ac = 2 := by unfold metaP at hp; omega
    clear HX hp hq
    rcases ha with rfl | rfl | rfl
    · obtain ⟨m0, m1, m2, m3, m4, m5, m6, m7, m8, m9, m10, m11, m12⟩ := Blk.mm HM2.out
      go_wp2_with ((with_reducible refine wpList_unguard ?_ ?_); (focus rfl))
      refine Calls.mono (lad_Sibling 0 w2) ?_; rintro e w' ⟨rfl, rfl⟩
      rw [show sibI 0 = 0 from rfl, show sibB 0 = false from rfl]
      go_wp2_with ((with_reducible refine wpList_unguard ?_ ?_); (focus rfl))
      have hb3 : Below w2.heap.size w2 (w2.alloc (.cells #[.int .i64 0, .int .i64 (-1), .int .i64 0] 3)) := (Below.refl _ _).alloc (Nat.le_refl _) _
      have HC := hid (cellsZ.new w2 [0, -1, 0] #[.int .i64 0, .int .i64 (-1), .int .i64 0] 3 rfl)
      have HB3 := hid (HB2.out.trans (hb3.mono HB2.out.size))
      clear hb3
      clear m0 m1 m2 m3 m4 m5 m6 m7 m8 m9 m10 m11 m12
      generalize w2.alloc (.cells #[.int .i64 0, .int .i64 (-1), .int .i64 0] 3) = w3 at *
      refine Calls.mono (lad_distinct (-1) _ 3 3 [0, -1, 0] w3 rfl HC.out (by simp)) ?_; rintro e w4 ⟨v, rfl, hr, hb⟩
      have HR := hid hr
      have HB4 := hid (HB3.out.trans (hb.mono HB3.out.size))
      clear hr hb
      go_wp2_with ((with_reducible refine wpList_unguard ?_ ?_); (focus rfl))
      go_ret
      obtain ⟨q, c, rfl, hle, hc⟩ := HR.out.cells
      refine ⟨?_, HB4.out⟩
      rw [HL.out]
      exact ⟨q, c, rfl, hle, hc⟩
    · obtain ⟨z, hz⟩ : ∃ z, (s2 == (4 : Int)) = z := ⟨_, rfl⟩
      obtain ⟨m0, m1, m2, m3, m4, m5, m6, m7, m8, m9, m10, m11, m12⟩ := Blk.mm HM2.out
      go_wp2_with ((with_reducible refine wpList_unguard ?_ ?_); (focus rfl))
      refine Calls.mono (lad_Sibling 1 w2) ?_; rintro e w' ⟨rfl, rfl⟩
      rw [show sibI 1 = 2 from rfl, show sibB 1 = true from rfl]
      cases z with
      | true =>
        have HL' : Hid (L = [1, 2, 0]) := by
          show _ = _
          rw [HL.out]
          unfold rungsOf
          rw [if_pos rfl, if_pos (eq_of_beq hz)]
        clear HL
        go_wp2_with ((with_reducible refine wpList_unguard ?_ ?_); (focus rfl))
        have hb3 : Below w2.heap.size w2 (w2.alloc (.cells #[.int .i64 1, .int .i64 2, .int .i64 0] 3)) := (Below.refl _ _).alloc (Nat.le_refl _) _
        have HC := hid (cellsZ.new w2 [1, 2, 0] #[.int .i64 1, .int .i64 2, .int .i64 0] 3 rfl)
        have HB3 := hid (HB2.out.trans (hb3.mono HB2.out.size))
        clear hb3
        clear m0 m1 m2 m3 m4 m5 m6 m7 m8 m9 m10 m11 m12
        generalize w2.alloc (.cells #[.int .i64 1, .int .i64 2, .int .i64 0] 3) = w3 at *
        refine Calls.mono (lad_distinct (-1) _ 3 3 [1, 2, 0] w3 rfl HC.out (by simp)) ?_; rintro e w4 ⟨v, rfl, hr, hb⟩
        have HR := hid hr
        have HB4 := hid (HB3.out.trans (hb.mono HB3.out.size))
        clear hr hb
        go_wp2_with ((with_reducible refine wpList_unguard ?_ ?_); (focus rfl))
        go_ret
        obtain ⟨q, c, rfl, hle, hc⟩ := HR.out.cells
        refine ⟨?_, HB4.out⟩
        rw [HL'.out]
        exact ⟨q, c, rfl, hle, hc⟩
      | false =>
        have HL' : Hid (L = [1, 0]) := by
          show _ = _
          rw [HL.out]
          unfold rungsOf
          rw [if_pos rfl, if_neg (fun h => by rw [h] at hz; cases hz)]
        clear HL
        go_wp2_with ((with_reducible refine wpList_unguard ?_ ?_); (focus rfl))
        have hb3 : Below w2.heap.size w2 (w2.alloc (.cells #[.int .i64 1, .int .i64 (-1), .int .i64 0] 3)) := (Below.refl _ _).alloc (Nat.le_refl _) _
        have HC := hid (cellsZ.new w2 [1, -1, 0] #[.int .i64 1, .int .i64 (-1), .int .i64 0] 3 rfl)
        have HB3 := hid (HB2.out.trans (hb3.mono HB2.out.size))
        clear hb3
        clear m0 m1 m2 m3 m4 m5 m6 m7 m8 m9 m10 m11 m12
        generalize w2.alloc (.cells #[.int .i64 1, .int .i64 (-1), .int .i64 0] 3) = w3 at *
        refine Calls.mono (lad_distinct (-1) _ 3 3 [1, -1, 0] w3 rfl HC.out (by simp)) ?_; rintro e w4 ⟨v, rfl, hr, hb⟩
        have HR := hid hr
        have HB4 := hid (HB3.out.trans (hb.mono HB3.out.size))
        clear hr hb
        go_wp2_with ((with_reducible refine wpList_unguard ?_ ?_); (focus rfl))
        go_ret
        obtain ⟨q, c, rfl, hle, hc⟩ := HR.out.cells
        refine ⟨?_, HB4.out⟩
        rw [HL'.out]
        exact ⟨q, c, rfl, hle, hc⟩
    · obtain ⟨z, hz⟩ : ∃ z, (s1 == (4 : Int)) = z := ⟨_, rfl⟩
      obtain ⟨m0, m1, m2, m3, m4, m5, m6, m7, m8, m9, m10, m11, m12⟩ := Blk.mm HM2.out
      go_wp2_with ((with_reducible refine wpList_unguard ?_ ?_); (focus rfl))
      refine Calls.mono (lad_Sibling 2 w2) ?_; rintro e w' ⟨rfl, rfl⟩
      rw [show sibI 2 = 1 from rfl, show sibB 2 = true from rfl]
      cases z with
      | true =>
        have HL' : Hid (L = [2, 1, 0]) := by
          show _ = _
          rw [HL.out]
          unfold rungsOf
          rw [if_neg (by decide), if_pos rfl, if_pos (eq_of_beq hz)]
        clear HL
        go_wp2_with ((with_reducible refine wpList_unguard ?_ ?_); (focus rfl))
        have hb3 : Below w2.heap.size w2 (w2.alloc (.cells #[.int .i64 2, .int .i64 1, .int .i64 0] 3)) := (Below.refl _ _).alloc (Nat.le_refl _) _
        have HC := hid (cellsZ.new w2 [2, 1, 0] #[.int .i64 2, .int .i64 1, .int .i64 0] 3 rfl)
        have HB3 := hid (HB2.out.trans (hb3.mono HB2.out.size))
        clear hb3
        clear m0 m1 m2 m3 m4 m5 m6 m7 m8 m9 m10 m11 m12
        generalize w2.alloc (.cells #[.int .i64 2, .int .i64 1, .int .i64 0] 3) = w3 at *
        refine Calls.mono (lad_distinct (-1) _ 3 3 [2, 1, 0] w3 rfl HC.out (by simp)) ?_; rintro e w4 ⟨v, rfl, hr, hb⟩
        have HR := hid hr
        have HB4 := hid (HB3.out.trans (hb.mono HB3.out.size))
        clear hr hb
        go_wp2_with ((with_reducible refine wpList_unguard ?_ ?_); (focus rfl))
        go_ret
        obtain ⟨q, c, rfl, hle, hc⟩ := HR.out.cells
        refine ⟨?_, HB4.out⟩
        rw [HL'.out]
        exact ⟨q, c, rfl, hle, hc⟩
      | false =>
        have HL' : Hid (L = [2, 0]) := by
          show _ = _
          rw [HL.out]
          unfold rungsOf
          rw [if_neg (by decide), if_pos rfl, if_neg (fun h => by rw [h] at hz; cases hz)]
        clear HL
        go_wp2_with ((with_reducible refine wpList_unguard ?_ ?_); (focus rfl))
        have hb3 : Below w2.heap.size w2 (w2.alloc (.cells #[.int .i64 2, .int .i64 (-1), .int .i64 0] 3)) := (Below.refl _ _).alloc (Nat.le_refl _) _
        have HC := hid (cellsZ.new w2 [2, -1, 0] #[.int .i64 2, .int .i64 (-1), .int .i64 0] 3 rfl)
        have HB3 := hid (HB2.out.trans (hb3.mono HB2.out.size))
        clear hb3
        clear m0 m1 m2 m3 m4 m5 m6 m7 m8 m9 m10 m11 m12
        generalize w2.alloc (.cells #[.int .i64 2, .int .i64 (-1), .int .i64 0] 3) = w3 at *
        refine Calls.mono (lad_distinct (-1) _ 3 3 [2, -1, 0] w3 rfl HC.out (by simp)) ?_; rintro e w4 ⟨v, rfl, hr, hb⟩
        have HR := hid hr
        have HB4 := hid (HB3.out.trans (hb.mono HB3.out.size))
        clear hr hb
        go_wp2_with ((with_reducible refine wpList_unguard ?_ ?_); (focus rfl))
        go_ret
        obtain ⟨q, c, rfl, hle, hc⟩ := HR.out.cells
        refine ⟨?_, HB4.out⟩
        rw [HL'.out]
        exact ⟨q, c, rfl, hle, hc⟩
  · rw [hq] at HX HL ⊢
    rw [if_neg (by simp)] at HL
    clear HX hq
    obtain ⟨m0, m1, m2, m3, m4, m5, m6, m7, m8, m9, m10, m11, m12⟩ := Blk.mm HM2.out
    go_wp2_with ((with_reducible refine wpList_unguard ?_ ?_); (focus rfl))
    have hb3 : Below w2.heap.size w2 (w2.alloc (.cells #[.int .i64 0] 3)) := (Below.refl _ _).alloc (Nat.le_refl _) _
    have HC := hid (cellsZ.new w2 [0] #[.int .i64 0] 3 rfl)
    go_ret
    refine ⟨?_, HB2.out.trans (hb3.mono HB2.out.size)⟩
    rw [HL.out]
    exact ⟨_, _, rfl, Nat.le_refl _, HC.out⟩
def targI (s0 v0 b0 s1 v1 b1 s2 v2 b2 ac fl cu it : Int) : Int := if metaOk s0 v0 b0 s1 v1 b1 s2 v2 b2 ac fl cu it = true then (if ac = 1 then 2 else 1) else 0
set_option maxHeartbeats 4000000 in
set_option maxRecDepth 100000 in
theorem lad_Target (s0 v0 b0 s1 v1 b1 s2 v2 b2 ac fl cu it : Int) (w : World) :
    Calls Try.prog 40 #[.agg #[.int .i64 s0, .int .i64 v0, .int .i64 b0, .int .i64 s1, .int .i64 v1, .int .i64 b1, .int .i64 s2, .int .i64 v2, .int .i64 b2, .int .i64 ac, .int .i64 fl, .int .i64 cu, .int .i64 it]] w fun e w' => e = .returned (.tuple #[.int .i64 (targI s0 v0 b0 s1 v1 b1 s2 v2 b2 ac fl cu it), .bool (metaOk s0 v0 b0 s1 v1 b1 s2 v2 b2 ac fl cu it)]) ∧ Below w.heap.size w w' := by
  have hb0 : Below w.heap.size w (w.alloc (.cells #[.int .i64 s0, .int .i64 v0, .int .i64 b0, .int .i64 s1, .int .i64 v1, .int .i64 b1, .int .i64 s2, .int .i64 v2, .int .i64 b2, .int .i64 ac, .int .i64 fl, .int .i64 cu, .int .i64 it] 29)) := (Below.refl _ _).alloc (Nat.le_refl _) _
  have hM := Blk.new w 29 #[.int .i64 s0, .int .i64 v0, .int .i64 b0, .int .i64 s1, .int .i64 v1, .int .i64 b1, .int .i64 s2, .int .i64 v2, .int .i64 b2, .int .i64 ac, .int .i64 fl, .int .i64 cu, .int .i64 it]
  obtain ⟨w1, hw1⟩ : ∃ u, w.alloc (.cells #[.int .i64 s0, .int .i64 v0, .int .i64 b0, .int .i64 s1, .int .i64 v1, .int .i64 b1, .int .i64 s2, .int .i64 v2, .int .i64 b2, .int .i64 ac, .int .i64 fl, .int .i64 cu, .int .i64 it] 29) = u := ⟨_, rfl⟩
  rw [hw1] at hb0 hM
  have HM := hid hM
  have HB := hid hb0
  clear hb0
  obtain ⟨m0, m1, m2, m3, m4, m5, m6, m7, m8, m9, m10, m11, m12⟩ := Blk.mm hM
  clear hM
  have HL : Hid (targI s0 v0 b0 s1 v1 b1 s2 v2 b2 ac fl cu it = if metaOk s0 v0 b0 s1 v1 b1 s2 v2 b2 ac fl cu it = true then (if ac = 1 then 2 else 1) else 0) := rfl
  generalize targI s0 v0 b0 s1 v1 b1 s2 v2 b2 ac fl cu it = T at *
  generalize hBB : metaOk s0 v0 b0 s1 v1 b1 s2 v2 b2 ac fl cu it = B at *
  have HBB := hid hBB
  clear hBB
  (go_enter Try.func40, Try.ntmps40; try simp only [List.append])
  go_wp2_with ((with_reducible refine wpList_unguard ?_ ?_); (focus rfl))
  refine Calls.mono (meta_Right s0 v0 b0 s1 v1 b1 s2 v2 b2 ac fl cu it w1) ?_; rintro e w2 ⟨rfl, hb⟩
  clear m0 m1 m2 m3 m4 m5 m6 m7 m8 m9 m10 m11 m12
  clear hw1
  have HM2 := hid (HM.out.below hb)
  have HB2 := hid (HB.out.trans (hb.mono HB.out.size))
  clear HM HB hb
  rw [HBB.out]
  clear HBB
  obtain ⟨m0, m1, m2, m3, m4, m5, m6, m7, m8, m9, m10, m11, m12⟩ := Blk.mm HM2.out
  cases B with
  | true =>
    rw [if_pos rfl] at HL
    by_cases h1 : ac = 1
    · rw [if_pos h1] at HL
      subst h1
      go_wp2_with ((with_reducible refine wpList_unguard ?_ ?_); (focus rfl))
      go_ret2
      exact ⟨by rw [HL.out]; rfl, HB2.out⟩
    · rw [if_neg h1] at HL
      have hz : (ac == 1) = false := beq_eq_false_iff_ne.2 h1
      go_wp2_with ((with_reducible refine wpList_unguard ?_ ?_); (focus rfl))
      go_ret2
      exact ⟨by rw [HL.out]; rfl, HB2.out⟩
  | false =>
    rw [if_neg (by simp)] at HL
    go_wp2_with ((with_reducible refine wpList_unguard ?_ ?_); (focus rfl))
    go_ret2
    exact ⟨by rw [HL.out]; rfl, HB2.out⟩
end Go.Proofs.Ytngkmlchblgmeaa
