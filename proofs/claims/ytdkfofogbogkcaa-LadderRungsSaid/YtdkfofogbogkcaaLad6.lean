/-
  ladder.Same in the program; Rungs and Same in the references.
-/
import Derived.Test.YtdkfofogbogkcaaLad5
import Derived.RegionTactic
import Derived.ChangeAlike
import Derived.Deep.QuietTactic
import Derived.BigQuiet
namespace Go.Proofs.Ytdkfofogbogkcaa
open Go.RowKit

set_option maxHeartbeats 4000000 in
set_option maxRecDepth 100000 in
theorem ref01_Same (p q : Option Addr) (n m c d : Nat) (l r : List Int) (w : World) (hn : n = l.length) (hm : m = r.length) (hp : cellsZ w p l) (hq : cellsZ w q r) (hl : l.length ≤ 1000) (hr : r.length ≤ 1000) :
    Calls Try.prog 15 #[.slice p n c, .slice q m d] w fun e w' => e = .returned (.bool (decide (l = r))) ∧ Below w.heap.size w w' := by
  subst hn hm
  have HP := hid hp
  have HQ := hid hq
  clear hp hq
  by_cases hlen : l.length = r.length
  · have hlr : (l.length != r.length) = false := by simpa using hlen
    have HLen := hid hlen
    obtain ⟨L, hL⟩ : ∃ n, l.length = n := ⟨_, rfl⟩
    have HLL := hid hL
    rw [← hlen, hL] at hlr ⊢
    rw [hL] at hl
    have hlr' : (((L : Int)) != (L : Int)) = false := by simp
    have HR2 : Hid (r.length = L) := by show _ = _; rw [← hlen, hL]
    clear hlr hlen hr hL
    generalize hB : decide (l = r) = B at *
    have HB := hid hB
    clear hB
    (go_enter Try.func15, Try.ntmps15; try simp only [List.append])
    go_wp2
    go_loopw [5] (fun i wr => ∃ k : Nat, k ≤ L ∧ i = .int .i64 k ∧ Below w.heap.size w wr ∧ l.take k = r.take k) (fun i _ => L - (intOf i).toNat)
    case atStart => exact ⟨0, Nat.zero_le _, rfl, Below.refl _ _, rfl⟩
    case round =>
      obtain ⟨k, hk, rfl, hb, ht⟩ := hrel
      have HT := hid ht
      have HW := hid hb
      clear ht hb
      by_cases hlt : k < L
      · obtain ⟨a1, o1, hp1, hc1⟩ := (HP.out.below HW.out) k (by rw [HLL.out]; exact hlt)
        obtain ⟨a2, o2, hp2, hc2⟩ := (HQ.out.below HW.out) k (by rw [HR2.out]; exact hlt)
        subst hp1 hp2
        have HX : Hid (l.take (k + 1) = l.take k ++ [l.getD k 0]) := by
          show _ = _
          rw [List.take_succ_eq_append_getElem (by rw [HLL.out]; exact hlt)]
          congr 1
          rw [List.getD_eq_getElem?_getD, List.getElem?_eq_getElem (by rw [HLL.out]; exact hlt)]
          rfl
        have HY : Hid (r.take (k + 1) = r.take k ++ [r.getD k 0]) := by
          show _ = _
          rw [List.take_succ_eq_append_getElem (by rw [HR2.out]; exact hlt)]
          congr 1
          rw [List.getD_eq_getElem?_getD, List.getElem?_eq_getElem (by rw [HR2.out]; exact hlt)]
          rfl
        have HXY : Hid (l = r → l.getD k 0 = r.getD k 0) := fun h => by rw [h]
        generalize l.getD k 0 = x at *
        generalize r.getD k 0 = y at *
        by_cases hxy : x = y
        · have hb : (x != y) = false := by simpa using hxy
          have HE := hid hxy
          clear hxy HXY
          go_wp2
          go_quiet (fail)
          go_wp2
          go_roundw
          case rel => exact ⟨k + 1, by omega, by go_num, HW.out.trans (below_drewN (Below.refl _ _) _), by rw [HX.out, HY.out, HT.out, HE.out]⟩
          case measure => simp [intOf]; omega
        · have hb : (x != y) = true := by simpa using hxy
          have HE := hid hxy
          clear hxy
          go_wp2
          go_quiet (fail)
          go_wp2
          go_ret
          refine ⟨?_, HW.out.trans (below_drewN (Below.refl _ _) _)⟩
          rw [← HB.out, decide_eq_false (fun h => HE.out (HXY.out h))]
          rfl
      · have HT' : Hid (l = r) := by
          have := HT.out
          rw [List.take_of_length_le (by rw [HLL.out]; omega), List.take_of_length_le (by rw [HR2.out]; omega)] at this
          exact this
        go_wp2
        go_ret
        refine ⟨?_, HW.out⟩
        rw [← HB.out, decide_eq_true HT'.out]
        rfl
  · have hlr : (((l.length : Nat) : Int) != ((r.length : Nat) : Int)) = true := by rw [bne_iff_ne]; omega
    have hB : decide (l = r) = false := decide_eq_false (fun h => hlen (by rw [h]))
    rw [hB]
    clear hlen hB
    (go_enter Try.func15, Try.ntmps15; try simp only [List.append])
    go_wp2
    go_ret
    exact ⟨rfl, Below.refl _ _⟩
set_option maxHeartbeats 4000000 in
set_option maxRecDepth 100000 in
theorem ref23_Rungs (s0 v0 b0 s1 v1 b1 s2 v2 b2 ac fl cu it : Int) (w : World) :
    Calls Try.prog 16 #[.agg #[.int .i64 s0, .int .i64 v0, .int .i64 b0, .int .i64 s1, .int .i64 v1, .int .i64 b1, .int .i64 s2, .int .i64 v2, .int .i64 b2, .int .i64 ac, .int .i64 fl, .int .i64 cu, .int .i64 it]] w fun e w' => retZ (rungsL s0 v0 b0 s1 v1 b1 s2 v2 b2 ac fl cu it) e w' ∧ Below w.heap.size w w' := by
  have hb0 : Below w.heap.size w (w.alloc (.cells #[.int .i64 s0, .int .i64 v0, .int .i64 b0, .int .i64 s1, .int .i64 v1, .int .i64 b1, .int .i64 s2, .int .i64 v2, .int .i64 b2, .int .i64 ac, .int .i64 fl, .int .i64 cu, .int .i64 it] 31)) := (Below.refl _ _).alloc (Nat.le_refl _) _
  have hM := Blk.new w 31 #[.int .i64 s0, .int .i64 v0, .int .i64 b0, .int .i64 s1, .int .i64 v1, .int .i64 b1, .int .i64 s2, .int .i64 v2, .int .i64 b2, .int .i64 ac, .int .i64 fl, .int .i64 cu, .int .i64 it]
  obtain ⟨w1, hw1⟩ : ∃ u, w.alloc (.cells #[.int .i64 s0, .int .i64 v0, .int .i64 b0, .int .i64 s1, .int .i64 v1, .int .i64 b1, .int .i64 s2, .int .i64 v2, .int .i64 b2, .int .i64 ac, .int .i64 fl, .int .i64 cu, .int .i64 it] 31) = u := ⟨_, rfl⟩
  rw [hw1] at hb0 hM
  have HM := hid hM
  have HB := hid hb0
  clear hb0
  obtain ⟨m0, m1, m2, m3, m4, m5, m6, m7, m8, m9, m10, m11, m12⟩ := Blk.mm hM
  clear hM
  have HX := hid (metaOk_iff (s0 := s0) (v0 := v0) (b0 := b0) (s1 := s1) (v1 := v1) (b1 := b1) (s2 := s2) (v2 := v2) (b2 := b2) (ac := ac) (fl := fl) (cu := cu) (it := it))
  have HL : Hid (rungsL s0 v0 b0 s1 v1 b1 s2 v2 b2 ac fl cu it = if metaOk s0 v0 b0 s1 v1 b1 s2 v2 b2 ac fl cu it = true then rungsOf ac s1 s2 else [0]) := rfl
  generalize rungsL s0 v0 b0 s1 v1 b1 s2 v2 b2 ac fl cu it = L at *
  (go_enter Try.func16, Try.ntmps16; try simp only [List.append])
  go_wp2_with ((with_reducible refine wpList_unguard ?_ ?_); (focus rfl))
  refine Calls.mono (ref17_Right s0 v0 b0 s1 v1 b1 s2 v2 b2 ac fl cu it w1) ?_; rintro e w2 ⟨rfl, hb⟩
  clear m0 m1 m2 m3 m4 m5 m6 m7 m8 m9 m10 m11 m12
  clear hw1
  have HM2 := hid (HM.out.below hb)
  have HB2 := hid (HB.out.trans (hb.mono HB.out.size))
  clear HM HB hb
  rcases Bool.eq_false_or_eq_true (metaOk s0 v0 b0 s1 v1 b1 s2 v2 b2 ac fl cu it) with hq | hq
  · rw [hq] at HX HL ⊢
    rw [if_pos rfl] at HL
    have hp := HX.out.1 rfl
    have ha : ac = 0 ∨ ac = 1 ∨ ac = 2 := by unfold metaP at hp; omega
    clear HX hp hq
    rcases ha with rfl | rfl | rfl
    · obtain ⟨m0, m1, m2, m3, m4, m5, m6, m7, m8, m9, m10, m11, m12⟩ := Blk.mm HM2.out
      go_wp2_with ((with_reducible refine wpList_unguard ?_ ?_); (focus rfl))
      have hb3 : Below w2.heap.size w2 (w2.alloc (.cells #[.int .i64 0] 3)) := (Below.refl _ _).alloc (Nat.le_refl _) _
      have HC := hid (cellsZ.new w2 [0] #[.int .i64 0] 3 rfl)
      go_ret
      refine ⟨?_, HB2.out.trans (hb3.mono HB2.out.size)⟩
      rw [HL.out]
      exact ⟨_, _, rfl, Nat.le_refl _, HC.out⟩
    · obtain ⟨z, hz⟩ : ∃ z, (s2 == (4 : Int)) = z := ⟨_, rfl⟩
      obtain ⟨m0, m1, m2, m3, m4, m5, m6, m7, m8, m9, m10, m11, m12⟩ := Blk.mm HM2.out
      cases z with
      | true =>
        have HL' : Hid (L = [1, 2, 0]) := by
          show _ = _
          rw [HL.out]
          unfold rungsOf
          rw [if_pos rfl, if_pos (eq_of_beq hz)]
        clear HL
        go_wp2_with ((with_reducible refine wpList_unguard ?_ ?_); (focus rfl))
        have hb3 : Below w2.heap.size w2 (w2.alloc (.cells #[.int .i64 1, .int .i64 2, .int .i64 0] 3)) := (Below.refl _ _).alloc (Nat.le_refl _) _
        have HC := hid (cellsZ.new w2 [1, 2, 0] #[.int .i64 1, .int .i64 2, .int .i64 0] 3 rfl)
        go_ret
        refine ⟨?_, HB2.out.trans (hb3.mono HB2.out.size)⟩
        rw [HL'.out]
        exact ⟨_, _, rfl, Nat.le_refl _, HC.out⟩
      | false =>
        have HL' : Hid (L = [1, 0]) := by
          show _ = _
          rw [HL.out]
          unfold rungsOf
          rw [if_pos rfl, if_neg (fun h => by rw [h] at hz; cases hz)]
        clear HL
        go_wp2_with ((with_reducible refine wpList_unguard ?_ ?_); (focus rfl))
        have hb3 : Below w2.heap.size w2 (w2.alloc (.cells #[.int .i64 1, .int .i64 0] 3)) := (Below.refl _ _).alloc (Nat.le_refl _) _
        have HC := hid (cellsZ.new w2 [1, 0] #[.int .i64 1, .int .i64 0] 3 rfl)
        go_ret
        refine ⟨?_, HB2.out.trans (hb3.mono HB2.out.size)⟩
        rw [HL'.out]
        exact ⟨_, _, rfl, Nat.le_refl _, HC.out⟩
    · obtain ⟨z, hz⟩ : ∃ z, (s1 == (4 : Int)) = z := ⟨_, rfl⟩
      obtain ⟨m0, m1, m2, m3, m4, m5, m6, m7, m8, m9, m10, m11, m12⟩ := Blk.mm HM2.out
      cases z with
      | true =>
        have HL' : Hid (L = [2, 1, 0]) := by
          show _ = _
          rw [HL.out]
          unfold rungsOf
          rw [if_neg (by decide), if_pos rfl, if_pos (eq_of_beq hz)]
        clear HL
        go_wp2_with ((with_reducible refine wpList_unguard ?_ ?_); (focus rfl))
        have hb3 : Below w2.heap.size w2 (w2.alloc (.cells #[.int .i64 2, .int .i64 1, .int .i64 0] 3)) := (Below.refl _ _).alloc (Nat.le_refl _) _
        have HC := hid (cellsZ.new w2 [2, 1, 0] #[.int .i64 2, .int .i64 1, .int .i64 0] 3 rfl)
        go_ret
        refine ⟨?_, HB2.out.trans (hb3.mono HB2.out.size)⟩
        rw [HL'.out]
        exact ⟨_, _, rfl, Nat.le_refl _, HC.out⟩
      | false =>
        have HL' : Hid (L = [2, 0]) := by
          show _ = _
          rw [HL.out]
          unfold rungsOf
          rw [if_neg (by decide), if_pos rfl, if_neg (fun h => by rw [h] at hz; cases hz)]
        clear HL
        go_wp2_with ((with_reducible refine wpList_unguard ?_ ?_); (focus rfl))
        have hb3 : Below w2.heap.size w2 (w2.alloc (.cells #[.int .i64 2, .int .i64 0] 3)) := (Below.refl _ _).alloc (Nat.le_refl _) _
        have HC := hid (cellsZ.new w2 [2, 0] #[.int .i64 2, .int .i64 0] 3 rfl)
        go_ret
        refine ⟨?_, HB2.out.trans (hb3.mono HB2.out.size)⟩
        rw [HL'.out]
        exact ⟨_, _, rfl, Nat.le_refl _, HC.out⟩
  · rw [hq] at HX HL ⊢
    rw [if_neg (by simp)] at HL
    clear HX hq
    obtain ⟨m0, m1, m2, m3, m4, m5, m6, m7, m8, m9, m10, m11, m12⟩ := Blk.mm HM2.out
    go_wp2_with ((with_reducible refine wpList_unguard ?_ ?_); (focus rfl))
    have hb3 : Below w2.heap.size w2 (w2.alloc (.cells #[.int .i64 0] 3)) := (Below.refl _ _).alloc (Nat.le_refl _) _
    have HC := hid (cellsZ.new w2 [0] #[.int .i64 0] 3 rfl)
    go_ret
    refine ⟨?_, HB2.out.trans (hb3.mono HB2.out.size)⟩
    rw [HL.out]
    exact ⟨_, _, rfl, Nat.le_refl _, HC.out⟩
end Go.Proofs.Ytdkfofogbogkcaa
