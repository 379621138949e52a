/-
  ladder: Over, Next, in the program.
-/
import Derived.Test.YtngkmlchblgmeaaMet3
import Derived.Test.YtngkmlchblgmeaaLadA
import Derived.Test.YtngkmlchblgmeaaQstg2
namespace Tri
open Go.Proofs.Ytngkmlchblgmeaa
/-- Is a trial over? -/
def Mt.over (m : Mt) (c t : Int) : Bool := decide (0 ≤ m.tri) && decide (max t 1 ≤ c - m.bas m.tri)
def Mt.rungs (m : Mt) : List Int := rungsL m.s0 m.v0 m.b0 m.s1 m.v1 m.b1 m.s2 m.v2 m.b2 m.ac m.fl m.cu m.it
theorem Mt.ok_bas {m : Mt} (h : m.ok) : (0 ≤ m.b0 ∧ m.b0 ≤ 512) ∧ (0 ≤ m.b1 ∧ m.b1 ≤ 512) ∧ (0 ≤ m.b2 ∧ m.b2 ≤ 512) := by
  unfold Mt.ok metaP slotP at h; omega
end Tri
namespace Go.Proofs.Ytngkmlchblgmeaa
open Go.RowKit Tri
set_option linter.unusedSimpArgs false

theorem Blk.m13' {w : World} {B : Nat} {t : TypeId} {m : Mt} (h : Blk w B t (mtA m)) :
    w.cell? ⟨B, 0, none⟩ = some (.int .i64 m.s0) ∧ w.cell? ⟨B, 1, none⟩ = some (.int .i64 m.v0) ∧ w.cell? ⟨B, 2, none⟩ = some (.int .i64 m.b0) ∧ w.cell? ⟨B, 3, none⟩ = some (.int .i64 m.s1) ∧ w.cell? ⟨B, 4, none⟩ = some (.int .i64 m.v1) ∧ w.cell? ⟨B, 5, none⟩ = some (.int .i64 m.b1) ∧ w.cell? ⟨B, 6, none⟩ = some (.int .i64 m.s2) ∧ w.cell? ⟨B, 7, none⟩ = some (.int .i64 m.v2) ∧ w.cell? ⟨B, 8, none⟩ = some (.int .i64 m.b2) ∧ w.cell? ⟨B, 9, none⟩ = some (.int .i64 m.ac) ∧ w.cell? ⟨B, 10, none⟩ = some (.int .i64 m.fl) ∧ w.cell? ⟨B, 11, none⟩ = some (.int .i64 m.cu) ∧ w.cell? ⟨B, 12, none⟩ = some (.int .i64 m.it) :=
  ⟨h.cell 0 _ rfl, h.cell 1 _ rfl, h.cell 2 _ rfl, h.cell 3 _ rfl, h.cell 4 _ rfl, h.cell 5 _ rfl, h.cell 6 _ rfl, h.cell 7 _ rfl, h.cell 8 _ rfl, h.cell 9 _ rfl, h.cell 10 _ rfl, h.cell 11 _ rfl, h.cell 12 _ rfl⟩
theorem Blk.newM (w : World) (t : TypeId) (m : Mt) : Blk (w.alloc (.cells #[.int .i64 m.s0, .int .i64 m.v0, .int .i64 m.b0, .int .i64 m.s1, .int .i64 m.v1, .int .i64 m.b1, .int .i64 m.s2, .int .i64 m.v2, .int .i64 m.b2, .int .i64 m.ac, .int .i64 m.fl, .int .i64 m.cu, .int .i64 m.it] t)) w.heap.size t (mtA m) := Blk.new w t _
theorem chg_TrialAt (m : Mt) (j : Int) (h : m.tri = j) (w : World) (q : Int) (z : Bool) (hq : max j 0 = q) (hz : decide (0 ≤ j) = z) :
    Calls Try.prog 10 #[.agg #[.int .i64 m.s0, .int .i64 m.v0, .int .i64 m.b0, .int .i64 m.s1, .int .i64 m.v1, .int .i64 m.b1, .int .i64 m.s2, .int .i64 m.v2, .int .i64 m.b2, .int .i64 m.ac, .int .i64 m.fl, .int .i64 m.cu, .int .i64 m.it]] w fun e w' => e = .returned (.tuple #[.int .i64 q, .bool z]) ∧ Below w.heap.size w w' := by
  subst hq
  subst h
  exact chg_Trial m w z hz
set_option maxHeartbeats 4000000 in
set_option maxRecDepth 100000 in
theorem lad_Over (m : Mt) (c t : Int) (w : World) (hm : m.ok) (hc : 0 ≤ c ∧ c ≤ 100000) :
    Calls Try.prog 45 #[.agg #[.int .i64 m.s0, .int .i64 m.v0, .int .i64 m.b0, .int .i64 m.s1, .int .i64 m.v1, .int .i64 m.b1, .int .i64 m.s2, .int .i64 m.v2, .int .i64 m.b2, .int .i64 m.ac, .int .i64 m.fl, .int .i64 m.cu, .int .i64 m.it], .int .i64 c, .int .i64 t] w fun e w' => e = .returned (.bool (m.over c t)) ∧ Below w.heap.size w w' := by
  have hb0 : Below w.heap.size w (w.alloc (.cells #[.int .i64 m.s0, .int .i64 m.v0, .int .i64 m.b0, .int .i64 m.s1, .int .i64 m.v1, .int .i64 m.b1, .int .i64 m.s2, .int .i64 m.v2, .int .i64 m.b2, .int .i64 m.ac, .int .i64 m.fl, .int .i64 m.cu, .int .i64 m.it] 29)) := (Below.refl _ _).alloc (Nat.le_refl _) _
  have hM := Blk.newM w 29 m
  obtain ⟨w1, hw1⟩ : ∃ u, w.alloc (.cells #[.int .i64 m.s0, .int .i64 m.v0, .int .i64 m.b0, .int .i64 m.s1, .int .i64 m.v1, .int .i64 m.b1, .int .i64 m.s2, .int .i64 m.v2, .int .i64 m.b2, .int .i64 m.ac, .int .i64 m.fl, .int .i64 m.cu, .int .i64 m.it] 29) = u := ⟨_, rfl⟩
  rw [hw1] at hb0 hM
  have HM := hid hM
  have HB := hid hb0
  clear hb0 hM
  obtain ⟨⟨k0, l0⟩, ⟨k1, l1⟩, ⟨k2, l2⟩⟩ := Mt.ok_bas hm
  have w0' : wrap64 (c - m.b0) = c - m.b0 := by unfold wrap64; omega
  have w1' : wrap64 (c - m.b1) = c - m.b1 := by unfold wrap64; omega
  have w2' : wrap64 (c - m.b2) = c - m.b2 := by unfold wrap64; omega
  obtain ⟨q0, q1, q2, q3, q4, q5, q6, q7, q8, q9, qa, qb, qc⟩ := HM.out.m13'
  rcases m.tri_cases with ht | ht | ht | ht
  · have HR : Hid (m.over c t = decide (max t 1 ≤ c - m.b0)) := by show _ = _; unfold Mt.over; rw [ht]; rfl
    have HT := fun w => hid (chg_TrialAt m (0) ht w 0 true (by decide) (by decide))
    clear ht
    (go_enter Try.func45, Try.ntmps45; try simp only [List.append])
    go_wp2_with ((with_reducible refine wpList_unguard ?_ ?_); (focus rfl))
    refine Calls.mono (HT _).out ?_; rintro e w2 ⟨rfl, hb⟩
    (replace HM := hid (HM.out.below hb); replace HB := hid (HB.out.trans (hb.mono HB.out.size)); clear hb)
    clear q0 q1 q2 q3 q4 q5 q6 q7 q8 q9 qa qb qc
    obtain ⟨q0, q1, q2, q3, q4, q5, q6, q7, q8, q9, qa, qb, qc⟩ := HM.out.m13'
    go_wp2_with ((with_reducible refine wpList_unguard ?_ ?_); (focus rfl))
    go_ret
    exact ⟨by rw [HR.out]; rfl, HB.out⟩
  · have HR : Hid (m.over c t = decide (max t 1 ≤ c - m.b1)) := by show _ = _; unfold Mt.over; rw [ht]; rfl
    have HT := fun w => hid (chg_TrialAt m (1) ht w 1 true (by decide) (by decide))
    clear ht
    (go_enter Try.func45, Try.ntmps45; try simp only [List.append])
    go_wp2_with ((with_reducible refine wpList_unguard ?_ ?_); (focus rfl))
    refine Calls.mono (HT _).out ?_; rintro e w2 ⟨rfl, hb⟩
    (replace HM := hid (HM.out.below hb); replace HB := hid (HB.out.trans (hb.mono HB.out.size)); clear hb)
    clear q0 q1 q2 q3 q4 q5 q6 q7 q8 q9 qa qb qc
    obtain ⟨q0, q1, q2, q3, q4, q5, q6, q7, q8, q9, qa, qb, qc⟩ := HM.out.m13'
    go_wp2_with ((with_reducible refine wpList_unguard ?_ ?_); (focus rfl))
    go_ret
    exact ⟨by rw [HR.out]; rfl, HB.out⟩
  · have HR : Hid (m.over c t = decide (max t 1 ≤ c - m.b2)) := by show _ = _; unfold Mt.over; rw [ht]; rfl
    have HT := fun w => hid (chg_TrialAt m (2) ht w 2 true (by decide) (by decide))
    clear ht
    (go_enter Try.func45, Try.ntmps45; try simp only [List.append])
    go_wp2_with ((with_reducible refine wpList_unguard ?_ ?_); (focus rfl))
    refine Calls.mono (HT _).out ?_; rintro e w2 ⟨rfl, hb⟩
    (replace HM := hid (HM.out.below hb); replace HB := hid (HB.out.trans (hb.mono HB.out.size)); clear hb)
    clear q0 q1 q2 q3 q4 q5 q6 q7 q8 q9 qa qb qc
    obtain ⟨q0, q1, q2, q3, q4, q5, q6, q7, q8, q9, qa, qb, qc⟩ := HM.out.m13'
    go_wp2_with ((with_reducible refine wpList_unguard ?_ ?_); (focus rfl))
    go_ret
    exact ⟨by rw [HR.out]; rfl, HB.out⟩
  · have HR : Hid (m.over c t = false) := by show _ = _; unfold Mt.over; rw [ht]; rfl
    have HT := fun w => hid (chg_TrialAt m (-1) ht w 0 false (by decide) (by decide))
    clear ht
    (go_enter Try.func45, Try.ntmps45; try simp only [List.append])
    go_wp2_with ((with_reducible refine wpList_unguard ?_ ?_); (focus rfl))
    refine Calls.mono (HT _).out ?_; rintro e w2 ⟨rfl, hb⟩
    (replace HM := hid (HM.out.below hb); replace HB := hid (HB.out.trans (hb.mono HB.out.size)); clear hb)
    clear q0 q1 q2 q3 q4 q5 q6 q7 q8 q9 qa qb qc
    obtain ⟨q0, q1, q2, q3, q4, q5, q6, q7, q8, q9, qa, qb, qc⟩ := HM.out.m13'
    go_wp2_with ((with_reducible refine wpList_unguard ?_ ?_); (focus rfl))
    go_ret
    exact ⟨by rw [HR.out]; rfl, HB.out⟩
set_option maxHeartbeats 4000000 in
set_option maxRecDepth 100000 in
theorem lad_Next (m : Mt) (c t : Int) (w : World) (hm : m.ok) (hc : 0 ≤ c ∧ c ≤ 100000) :
    Calls Try.prog 11 #[.agg #[.int .i64 m.s0, .int .i64 m.v0, .int .i64 m.b0, .int .i64 m.s1, .int .i64 m.v1, .int .i64 m.b1, .int .i64 m.s2, .int .i64 m.v2, .int .i64 m.b2, .int .i64 m.ac, .int .i64 m.fl, .int .i64 m.cu, .int .i64 m.it], .int .i64 c, .int .i64 t] w fun e w' =>
      ((m.over c t = false ∧ e = .returned (.tuple #[.int .i64 (m.rungs.getD 0 0), .slice none 0 0])) ∨ (m.over c t = true ∧ ∃ p, e = .returned (.tuple #[.int .i64 (m.rungs.getD 1 0), .slice p 1 1]))) ∧ Below w.heap.size w w' := by
  have hb0 : Below w.heap.size w (w.alloc (.cells #[.int .i64 m.s0, .int .i64 m.v0, .int .i64 m.b0, .int .i64 m.s1, .int .i64 m.v1, .int .i64 m.b1, .int .i64 m.s2, .int .i64 m.v2, .int .i64 m.b2, .int .i64 m.ac, .int .i64 m.fl, .int .i64 m.cu, .int .i64 m.it] 29)) := (Below.refl _ _).alloc (Nat.le_refl _) _
  have hM := Blk.newM w 29 m
  obtain ⟨w1, hw1⟩ : ∃ u, w.alloc (.cells #[.int .i64 m.s0, .int .i64 m.v0, .int .i64 m.b0, .int .i64 m.s1, .int .i64 m.v1, .int .i64 m.b1, .int .i64 m.s2, .int .i64 m.v2, .int .i64 m.b2, .int .i64 m.ac, .int .i64 m.fl, .int .i64 m.cu, .int .i64 m.it] 29) = u := ⟨_, rfl⟩
  rw [hw1] at hb0 hM
  have HM := hid hM
  have HB := hid hb0
  clear hb0 hM
  have hok : metaOk m.s0 m.v0 m.b0 m.s1 m.v1 m.b1 m.s2 m.v2 m.b2 m.ac m.fl m.cu m.it = true := metaOk_iff.2 hm
  have HRI := fun w => hid (meta_Right m.s0 m.v0 m.b0 m.s1 m.v1 m.b1 m.s2 m.v2 m.b2 m.ac m.fl m.cu m.it w)
  rw [hok] at HRI
  have HRU := fun w => hid (lad_Rungs m.s0 m.v0 m.b0 m.s1 m.v1 m.b1 m.s2 m.v2 m.b2 m.ac m.fl m.cu m.it w)
  have HOV := fun w => hid (lad_Over m c t w hm hc)
  have HL : Hid (0 < m.rungs.length ∧ (m.over c t = true → 1 < m.rungs.length)) := by
    refine ⟨?_, ?_⟩
    · unfold Mt.rungs rungsL rungsOf
      repeat' split
      all_goals simp
    · intro ho
      unfold Mt.over at ho
      rw [Bool.and_eq_true, decide_eq_true_eq] at ho
      obtain ⟨h1, h2, -⟩ := Mt.tri_eq hm ho.1
      unfold Mt.rungs rungsL rungsOf
      rw [if_pos hok]
      have h3 : m.ac = 1 ∨ m.ac = 2 := by omega
      rcases h3 with h3 | h3
      · rw [h3, if_pos rfl]
        split <;> simp
      · rw [h3, if_neg (by decide), if_pos rfl]
        split <;> simp
  rw [show rungsL m.s0 m.v0 m.b0 m.s1 m.v1 m.b1 m.s2 m.v2 m.b2 m.ac m.fl m.cu m.it = m.rungs from rfl] at HRU
  clear hm hc hok
  obtain ⟨q0, q1, q2, q3, q4, q5, q6, q7, q8, q9, qa, qb, qc⟩ := HM.out.m13'
  (go_enter Try.func11, Try.ntmps11; try simp only [List.append])
  go_wp2_with ((with_reducible refine wpList_unguard ?_ ?_); (focus rfl))
  refine Calls.mono (HRU _).out ?_; rintro e w2 ⟨⟨p, cp, rfl, hle, hcz⟩, hb⟩
  have HC := hid hcz
  (replace HM := hid (HM.out.below hb); replace HB := hid (HB.out.trans (hb.mono HB.out.size)); clear hb)
  clear q0 q1 q2 q3 q4 q5 q6 q7 q8 q9 qa qb qc hcz
  obtain ⟨q0, q1, q2, q3, q4, q5, q6, q7, q8, q9, qa, qb, qc⟩ := HM.out.m13'
  generalize hLe : m.rungs = L at *
  have HLe := hid hLe
  clear hLe
  go_wp2_with ((with_reducible refine wpList_unguard ?_ ?_); (focus rfl))
  refine Calls.mono (HRI _).out ?_; rintro e w3 ⟨rfl, hb⟩
  (replace HM := hid (HM.out.below hb); replace HC := hid (HC.out.below hb); replace HB := hid (HB.out.trans (hb.mono HB.out.size)); clear hb)
  clear q0 q1 q2 q3 q4 q5 q6 q7 q8 q9 qa qb qc
  obtain ⟨q0, q1, q2, q3, q4, q5, q6, q7, q8, q9, qa, qb, qc⟩ := HM.out.m13'
  go_wp2_with ((with_reducible refine wpList_unguard ?_ ?_); (focus rfl))
  refine Calls.mono (HOV _).out ?_; rintro e w4 ⟨rfl, hb⟩
  (replace HM := hid (HM.out.below hb); replace HC := hid (HC.out.below hb); replace HB := hid (HB.out.trans (hb.mono HB.out.size)); clear hb)
  clear q0 q1 q2 q3 q4 q5 q6 q7 q8 q9 qa qb qc
  obtain ⟨hl0, hl1⟩ := HL.out
  generalize hz : m.over c t = z at *
  have HZ := hid hz
  clear hz
  obtain ⟨b, o, rfl, hc0⟩ := HC.out 0 hl0
  have i0 : (0 : Int) < (L.length : Int) := by omega
  rw [Nat.add_zero] at hc0
  generalize hy0 : L.getD 0 0 = y0 at *
  have HY0 := hid hy0
  clear hy0
  cases z with
  | false =>
    go_wp2_with ((with_reducible refine wpList_unguard ?_ ?_); (focus rfl))
    go_ret2
    exact ⟨.inl ⟨HZ.out, by rw [HLe.out, HY0.out]; rfl⟩, HB.out⟩
  | true =>
    have h1 := hl1 rfl
    obtain ⟨b', o', e', hc1⟩ := HC.out 1 h1
    simp only [Option.some.injEq, Addr.mk.injEq] at e'
    obtain ⟨rfl, rfl, -⟩ := e'
    have i1 : (1 : Int) < (L.length : Int) := by omega
    clear hl1
    generalize hy1 : L.getD 1 0 = y1 at *
    have HY1 := hid hy1
    clear hy1
    have H1 := hid hc1
    clear hc0 HL
    go_wp2_with ((with_reducible refine wpList_unguard ?_ ?_); (focus rfl))
    have hbD : Below w4.heap.size w4 w4.drew := (Below.refl _ _).drew
    (refine wp_region_stg2 0 [([0, 1, 2, 8, 3, 4, 5, 6], 7)] [9] (fun u => Below w4.heap.size w4 u) (by kernel_rfl) (by kernel_rfl) (by intro t v c a w h; cases t <;> exact h) (hbD) ?_; (simp only [List.take_succ_cons, List.take_zero, List.map_cons, List.map_nil, stOf, opAt, List.getD_cons_zero, List.getD_cons_succ]); (repeat (first | go_big_quiet_skip | (go_big_quiet_want; first | (go_big_quiet_op; go_big_quiet_on) | (apply Exists.intro; refine And.intro (fun wq hq => ?_) ?_; (focus (skip; (try go_simp); first | done | rfl | (fail))); go_simp; go_big_quiet_on)))); refine quietC_nil _ rfl ?_; intro wE hE; unfold wpSt)
    have hbE := hE.alloc hE.size (.cells #[.int .i64 7, .int .i64 y1, .int .i64 0, .int .i64 0] 37)
    have HBE := hid hbE
    have HBF := hid (HB.out.trans (hbE.mono HB.out.size))
    clear hbE hE
    ((repeat (first | go_big_quiet_skip | (go_big_quiet_want; first | (go_big_quiet_op; go_big_quiet_on) | (apply Exists.intro; refine And.intro (fun wq hq => ?_) ?_; (focus ((have hc1' := (hq.cell (block_lt_of_cell H1.out)).trans H1.out); (try go_simp); first | done | rfl)); go_simp; go_big_quiet_on)))); refine quietC_nil _ rfl ?_)
    go_wp2_with ((with_reducible refine wpList_unguard ?_ ?_); (focus rfl))
    refine ⟨fun u => Below w4.heap.size w4 u, fun _ h => h, HBE.out, ?_⟩
    unfold wpSt
    go_wp2_with ((with_reducible refine wpList_unguard ?_ ?_); (focus rfl))
    go_ret2
    exact ⟨.inr ⟨HZ.out, _, by rw [HLe.out, HY1.out]; rfl⟩, HBF.out⟩
end Go.Proofs.Ytngkmlchblgmeaa
