/-
  LadderTries: what is known behind some records; the statement, walked.
-/
import Derived.Test.YtngkmlchblgmeaaMet5
import Derived.Test.YtngkmlchblgmeaaMet6
import Derived.Test.YtngkmlchblgmeaaORec
namespace Tri
open Go.Proofs.Ytngkmlchblgmeaa
def Mt.step (m : Mt) (r : RecI) : Mt := if r.k ≤ 13 then (m.doR r.k r.s r.n r.v).1 else m
def knownM (l : List RecI) : Mt := l.foldl Mt.step Mt.new
theorem knownM_take (l : List RecI) (k : Nat) (h : k < l.length) : knownM (l.take (k + 1)) = (knownM (l.take k)).step l[k] := by
  unfold knownM
  rw [List.take_succ_eq_append_getElem h, List.foldl_append]
  rfl
theorem knownM_ok (l : List RecI) : (knownM l).ok := by
  unfold knownM
  have : ∀ (l : List RecI) (m : Mt), m.ok → (l.foldl Mt.step m).ok := by
    intro l
    induction l with
    | nil => intro m h; exact h
    | cons r l ih =>
      intro m h
      rw [List.foldl_cons]
      refine ih _ ?_
      unfold Mt.step
      by_cases hk : r.k ≤ 13
      · rw [if_pos hk]; exact Mt.doR_ok h hk
      · rw [if_neg hk]; exact h
  exact this l _ Mt.new_ok
end Tri
namespace Go.Proofs.Ytngkmlchblgmeaa
open Go.RowKit Tri
set_option linter.unusedSimpArgs false

set_option maxHeartbeats 8000000 in
set_option maxRecDepth 100000 in
theorem law23_known (a : Option Addr) (len cap : Nat) (l : List RecI) (w : World) (hl : len = l.length) (h100 : l.length ≤ 1000) (hlc : len ≤ cap) (hc : cellsG w a 4 (l.map rcC)) :
    Calls Try.prog 9 #[.slice a len cap] w fun e w' => e = .returned (.agg #[.int .i64 (knownM l).s0, .int .i64 (knownM l).v0, .int .i64 (knownM l).b0, .int .i64 (knownM l).s1, .int .i64 (knownM l).v1, .int .i64 (knownM l).b1, .int .i64 (knownM l).s2, .int .i64 (knownM l).v2, .int .i64 (knownM l).b2, .int .i64 (knownM l).ac, .int .i64 (knownM l).fl, .int .i64 (knownM l).cu, .int .i64 (knownM l).it]) ∧ Below w.heap.size w w' := by
  subst hl
  have HC := hid hc
  clear hc
  have hb0 : Below w.heap.size w (w.alloc (.cells #[.int .i64 0, .int .i64 0, .int .i64 0, .int .i64 0, .int .i64 0, .int .i64 0, .int .i64 0, .int .i64 0, .int .i64 0, .int .i64 0, .int .i64 0, .int .i64 0, .int .i64 0] 29)) := (Below.refl _ _).alloc (Nat.le_refl _) _
  have hZ : Blk _ _ _ (mtA ⟨0, 0, 0, 0, 0, 0, 0, 0, 0, 0, 0, 0, 0⟩) := Blk.new w 29 #[.int .i64 0, .int .i64 0, .int .i64 0, .int .i64 0, .int .i64 0, .int .i64 0, .int .i64 0, .int .i64 0, .int .i64 0, .int .i64 0, .int .i64 0, .int .i64 0, .int .i64 0]
  obtain ⟨w1, hw1⟩ : ∃ u, w.alloc (.cells #[.int .i64 0, .int .i64 0, .int .i64 0, .int .i64 0, .int .i64 0, .int .i64 0, .int .i64 0, .int .i64 0, .int .i64 0, .int .i64 0, .int .i64 0, .int .i64 0, .int .i64 0] 29) = u := ⟨_, rfl⟩
  rw [hw1] at hb0 hZ
  have HB := hid hb0
  have HZ := hid hZ
  clear hb0 hZ
  (go_enter Try.func9, Try.ntmps9; try simp only [List.append])
  go_wp2_with ((with_reducible refine wpList_unguard ?_ ?_); (focus rfl))
  refine Calls.mono (meta_New w1) ?_; rintro e w2 ⟨rfl, hb⟩
  (replace HZ := hid (HZ.out.below hb); replace HB := hid (HB.out.trans (hb.mono HB.out.size)); clear hb)
  have hb1 : Below w2.heap.size w2 (w2.alloc (.cells #[.int .i64 4, .int .i64 0, .int .i64 0, .int .i64 0, .int .i64 0, .int .i64 0, .int .i64 0, .int .i64 0, .int .i64 0, .int .i64 0, .int .i64 0, .int .i64 0, .int .i64 0] 29)) := (Below.refl _ _).alloc (Nat.le_refl _) _
  have hM : Blk _ _ _ (mtA Mt.new) := Blk.new w2 29 #[.int .i64 4, .int .i64 0, .int .i64 0, .int .i64 0, .int .i64 0, .int .i64 0, .int .i64 0, .int .i64 0, .int .i64 0, .int .i64 0, .int .i64 0, .int .i64 0, .int .i64 0]
  have hsz : w.heap.size ≤ w2.heap.size := HB.out.size
  have hZ := HZ.out.below hb1
  have hB := HB.out.trans (hb1.mono HB.out.size)
  have hlt2 : w.heap.size < w2.heap.size := HZ.out.lt
  go_wp2_with ((with_reducible refine wpList_unguard ?_ ?_); (focus rfl))
  generalize w2.alloc (.cells #[.int .i64 4, .int .i64 0, .int .i64 0, .int .i64 0, .int .i64 0, .int .i64 0, .int .i64 0, .int .i64 0, .int .i64 0, .int .i64 0, .int .i64 0, .int .i64 0, .int .i64 0] 29) = w3 at *
  generalize w2.heap.size = M at *
  clear hb1 hw1 HZ HB
  go_loopw [9] (fun v wr => ∃ k : Nat, k ≤ l.length ∧ v = .int .i64 k ∧ Blk wr M 29 (mtA (knownM (l.take k))) ∧ Blk wr w.heap.size 29 (mtA ⟨0, 0, 0, 0, 0, 0, 0, 0, 0, 0, 0, 0, 0⟩) ∧ Below w.heap.size w wr) (fun v _ => l.length - (intOf v).toNat)
  case atStart => exact ⟨0, Nat.zero_le _, rfl, hM, hZ, hB⟩
  case round =>
    clear hM hZ hB
    obtain ⟨k, hk, rfl, hM, hZ, hB⟩ := hrel
    have HM := hid hM
    have HZ := hid hZ
    have HB := hid hB
    clear hM hZ hB
    by_cases hlt : k < l.length
    · have HS := hid (knownM_take l k hlt)
      obtain ⟨b, o, rfl, g0, g1, g2, g3⟩ := recs_at (HC.out.below HB.out) k hlt
      generalize l[k] = r at *
      generalize knownM (l.take k) = m at *
      have hA : Below wr.heap.size wr (wr.alloc (.cells #[.int .i64 r.k, .int .i64 r.s, .int .i64 r.n, .int .i64 r.v] 37)) := (Below.refl _ _).alloc (Nat.le_refl _) _
      have hR : R4 (wr.alloc (.cells #[.int .i64 r.k, .int .i64 r.s, .int .i64 r.n, .int .i64 r.v] 37)) wr.heap.size r.k r.s r.n r.v := heap_alloc_new wr _
      have c0 := hR.c0
      have c1 := hR.c1
      have c2 := hR.c2
      have c3 := hR.c3
      have HM4 := hid (HM.out.below hA)
      have HZ4 := hid (HZ.out.below hA)
      have HB4 := hid (HB.out.trans (hA.mono HB.out.size))
      clear hA hR
      by_cases hk13 : r.k ≤ 13
      · have hkb : decide (r.k ≤ 13) = true := decide_eq_true hk13
        have HS' : Hid (knownM (l.take (k + 1)) = (m.doR r.k r.s r.n r.v).1) := by show _ = _; rw [HS.out]; unfold Mt.step; rw [if_pos hk13]
        obtain ⟨q0, q1, q2, q3, q4, q5, q6, q7, q8, q9, qa, qb, qc⟩ := HM4.out.m13
        go_wp2_with ((with_reducible refine wpList_unguard ?_ ?_); (focus rfl))
        clear q0 q1 q2 q3 q4 q5 q6 q7 q8 q9 qa qb qc c0 c1 c2 c3 g0 g1 g2 g3 hkb
        generalize wr.alloc (.cells #[.int .i64 r.k, .int .i64 r.s, .int .i64 r.n, .int .i64 r.v] 37) = w4 at *
        refine Calls.mono (meta_Do m r.k r.s r.n r.v w4 hk13) ?_; rintro e w5 ⟨rfl, hb⟩
        have HM5 := hid (HM4.out.below hb)
        have HZ5 := hid (HZ4.out.below hb)
        have HB5 := hid (HB4.out.trans (hb.mono HB4.out.size))
        clear hb
        generalize (m.doR r.k r.s r.n r.v).1 = m1 at *
        generalize (m.doR r.k r.s r.n r.v).2 = er at *
        unfold mtA
        have HS5 := hid (HM5.out.sets13 m1)
        have HT5 := hid (below13 HB5.out (B := M) hsz m1)
        have HZ6 : Hid (Blk (((((((((((((w5.setCell ⟨M, 0, none⟩ (.int .i64 m1.s0)).setCell ⟨M, 1, none⟩ (.int .i64 m1.v0)).setCell ⟨M, 2, none⟩ (.int .i64 m1.b0)).setCell ⟨M, 3, none⟩ (.int .i64 m1.s1)).setCell ⟨M, 4, none⟩ (.int .i64 m1.v1)).setCell ⟨M, 5, none⟩ (.int .i64 m1.b1)).setCell ⟨M, 6, none⟩ (.int .i64 m1.s2)).setCell ⟨M, 7, none⟩ (.int .i64 m1.v2)).setCell ⟨M, 8, none⟩ (.int .i64 m1.b2)).setCell ⟨M, 9, none⟩ (.int .i64 m1.ac)).setCell ⟨M, 10, none⟩ (.int .i64 m1.fl)).setCell ⟨M, 11, none⟩ (.int .i64 m1.cu)).setCell ⟨M, 12, none⟩ (.int .i64 m1.it)) w.heap.size 29 (mtA ⟨0, 0, 0, 0, 0, 0, 0, 0, 0, 0, 0, 0, 0⟩)) := ((((((((((((HZ5.out.setOther _ _ (by show _ ≠ M; omega)).setOther _ _ (by show _ ≠ M; omega)).setOther _ _ (by show _ ≠ M; omega)).setOther _ _ (by show _ ≠ M; omega)).setOther _ _ (by show _ ≠ M; omega)).setOther _ _ (by show _ ≠ M; omega)).setOther _ _ (by show _ ≠ M; omega)).setOther _ _ (by show _ ≠ M; omega)).setOther _ _ (by show _ ≠ M; omega)).setOther _ _ (by show _ ≠ M; omega)).setOther _ _ (by show _ ≠ M; omega)).setOther _ _ (by show _ ≠ M; omega)).setOther _ _ (by show _ ≠ M; omega)
        obtain ⟨q0, q1, q2, q3, q4, q5, q6, q7, q8, q9, qa, qb, qc⟩ := HM5.out.m13
        have fz := HM5.out.free
        have z0 := fz 0
        have z1 := fz 1
        have z2 := fz 2
        have z3 := fz 3
        have z4 := fz 4
        have z5 := fz 5
        have z6 := fz 6
        have z7 := fz 7
        have z8 := fz 8
        have z9 := fz 9
        have za := fz 10
        have zb := fz 11
        have zc := fz 12
        clear fz
        go_wp2_with ((with_reducible refine wpList_unguard ?_ ?_); (focus rfl))
        clear q0 q1 q2 q3 q4 q5 q6 q7 q8 q9 qa qb qc
        clear z0 z1 z2 z3 z4 z5 z6 z7 z8 z9 za zb zc
        go_roundw
        case rel => exact ⟨k + 1, by omega, by go_num, by rw [HS'.out]; exact HS5.out, HZ6.out, HT5.out⟩
        case measure => simp [intOf]; omega
      · have hkb : decide (r.k ≤ 13) = false := decide_eq_false hk13
        have HS' : Hid (knownM (l.take (k + 1)) = m) := by show _ = _; rw [HS.out]; unfold Mt.step; rw [if_neg hk13]
        go_wp2_with ((with_reducible refine wpList_unguard ?_ ?_); (focus rfl))
        go_roundw
        case rel => exact ⟨k + 1, by omega, by go_num, by rw [HS'.out]; exact HM4.out, HZ4.out, HB4.out⟩
        case measure => simp [intOf]; omega
    · have HT : Hid (l.take k = l) := by show _ = _; exact List.take_of_length_le (by omega)
      rw [HT.out] at HM
      generalize hg : knownM l = m at *
      have HG := hid hg
      clear hg
      obtain ⟨q0, q1, q2, q3, q4, q5, q6, q7, q8, q9, qa, qb, qc⟩ := HM.out.m13
      have HS5 := hid (HZ.out.sets13 m)
      have HT5 := hid (below13 HB.out (B := w.heap.size) (Nat.le_refl _) m)
      obtain ⟨r0, r1, r2, r3, r4, r5, r6, r7, r8, r9, ra, rb, rc⟩ := HZ.out.m13
      have fz := HZ.out.free
      have z0 := fz 0
      have z1 := fz 1
      have z2 := fz 2
      have z3 := fz 3
      have z4 := fz 4
      have z5 := fz 5
      have z6 := fz 6
      have z7 := fz 7
      have z8 := fz 8
      have z9 := fz 9
      have za := fz 10
      have zb := fz 11
      have zc := fz 12
      clear fz
      go_wp2_with ((with_reducible refine wpList_unguard ?_ ?_); (focus rfl))
      clear q0 q1 q2 q3 q4 q5 q6 q7 q8 q9 qa qb qc
      clear z0 z1 z2 z3 z4 z5 z6 z7 z8 z9 za zb zc r0 r1 r2 r3 r4 r5 r6 r7 r8 r9 ra rb rc
      generalize (((((((((((((wr.setCell ⟨w.heap.size, 0, none⟩ (.int .i64 m.s0)).setCell ⟨w.heap.size, 1, none⟩ (.int .i64 m.v0)).setCell ⟨w.heap.size, 2, none⟩ (.int .i64 m.b0)).setCell ⟨w.heap.size, 3, none⟩ (.int .i64 m.s1)).setCell ⟨w.heap.size, 4, none⟩ (.int .i64 m.v1)).setCell ⟨w.heap.size, 5, none⟩ (.int .i64 m.b1)).setCell ⟨w.heap.size, 6, none⟩ (.int .i64 m.s2)).setCell ⟨w.heap.size, 7, none⟩ (.int .i64 m.v2)).setCell ⟨w.heap.size, 8, none⟩ (.int .i64 m.b2)).setCell ⟨w.heap.size, 9, none⟩ (.int .i64 m.ac)).setCell ⟨w.heap.size, 10, none⟩ (.int .i64 m.fl)).setCell ⟨w.heap.size, 11, none⟩ (.int .i64 m.cu)).setCell ⟨w.heap.size, 12, none⟩ (.int .i64 m.it)) = wz at *
      obtain ⟨r0, r1, r2, r3, r4, r5, r6, r7, r8, r9, ra, rb, rc⟩ := HS5.out.m13
      refine bodyPost_ret (v := .agg #[.int .i64 m.s0, .int .i64 m.v0, .int .i64 m.b0, .int .i64 m.s1, .int .i64 m.v1, .int .i64 m.b1, .int .i64 m.s2, .int .i64 m.v2, .int .i64 m.b2, .int .i64 m.ac, .int .i64 m.fl, .int .i64 m.cu, .int .i64 m.it]) (by simp [results, Try.results9, go_sem, r0, r1, r2, r3, r4, r5, r6, r7, r8, r9, ra, rb, rc]) rfl ⟨?_, HT5.out⟩
      rw [HG.out]
/-- Which slot comes first, and which next, where a trial is on. -/
theorem rungs_tri {m : Mt} (h : m.ok) (ht : 0 ≤ m.tri) : m.rungs.getD 0 0 = m.tri ∧ m.rungs.getD 1 0 ≠ m.tri := by
  obtain ⟨h1, h2, -⟩ := Mt.tri_eq h ht
  have hok := metaOk_iff.2 (show metaP m.s0 m.v0 m.b0 m.s1 m.v1 m.b1 m.s2 m.v2 m.b2 m.ac m.fl m.cu m.it from h)
  unfold Mt.rungs rungsL rungsOf
  rw [if_pos hok, h2]
  rcases h1 with h1 | h1
  · rw [h1, if_pos rfl]
    split <;> simp
  · rw [h1, if_neg (by decide), if_pos rfl]
    split <;> simp
theorem ok_basAt {m : Mt} (h : m.ok) (i : Int) : 0 ≤ m.bas i ∧ m.bas i ≤ 512 := by
  have := Mt.ok_bas h
  unfold Mt.bas
  repeat' split
  all_goals omega
set_option maxHeartbeats 8000000 in
set_option maxRecDepth 100000 in
theorem ladderTries.walk (a0 : Option Addr) (len0 cap0 : Nat) (l0 : List Tri.RecI) (a1 : Int) (a2 : Int) (w : World) (w0 : IsRecs w a0 len0 cap0 l0) (w1 : (Lit.int .u16 a1).wf = true) (w2 : (Lit.int .u8 a2).wf = true) :
    Calls Try.prog 3 #[.slice a0 len0 cap0, .int .u16 a1, .int .u8 a2] w fun e w' => e = .returned (.bool true) ∧ Below w.heap.size w w' := by
  obtain ⟨rfl, hlc, hcm, hcg, -⟩ := w0
  have HC := hid hcg
  clear hcg
  have u1 := bounds_u16 w1
  have u2 := bounds_u8 w2
  clear w1 w2
  (go_enter Try.func3, Try.ntmps3; try simp only [List.append])
  go_wp2_with ((with_reducible refine wpList_unguard ?_ ?_); (focus rfl))
  refine Calls.mono (law23_awake w) ?_; rintro e w1 ⟨rfl, hb⟩
  have HB := hid hb
  replace HC := hid (HC.out.below hb)
  clear hb
  by_cases h100 : (100 : Int) < (l0.length : Int)
  · have hd : decide ((100 : Int) < (l0.length : Int)) = true := decide_eq_true h100
    go_wp2_with ((with_reducible refine wpList_unguard ?_ ?_); (focus rfl))
    go_ret
    exact ⟨rfl, HB.out⟩
  · have hd : decide ((100 : Int) < (l0.length : Int)) = false := decide_eq_false h100
    go_wp2_with ((with_reducible refine wpList_unguard ?_ ?_); (focus rfl))
    refine Calls.mono (law23_known a0 l0.length cap0 l0 w1 rfl (by omega) hlc HC.out) ?_; rintro e w2 ⟨rfl, hb⟩
    replace HB := hid (HB.out.trans (hb.mono HB.out.size))
    clear hb HC hd h100
    have hok := knownM_ok l0
    generalize knownM l0 = m at *
    have hM := Blk.newM w2 29 m
    have hA : Below w2.heap.size w2 (w2.alloc (.cells #[.int .i64 m.s0, .int .i64 m.v0, .int .i64 m.b0, .int .i64 m.s1, .int .i64 m.v1, .int .i64 m.b1, .int .i64 m.s2, .int .i64 m.v2, .int .i64 m.b2, .int .i64 m.ac, .int .i64 m.fl, .int .i64 m.cu, .int .i64 m.it] 29)) := (Below.refl _ _).alloc (Nat.le_refl _) _
    have HM := hid hM
    replace HB := hid (HB.out.trans (hA.mono HB.out.size))
    clear hM hA
    obtain ⟨q0, q1, q2, q3, q4, q5, q6, q7, q8, q9, qa, qb, qc⟩ := HM.out.m13
    have HT := fun w => hid (meta_Trial m w)
    have HTC := hid m.tri_cases
    obtain ⟨z, hz⟩ : ∃ z, decide (0 ≤ m.tri) = z := ⟨_, rfl⟩
    rw [hz] at HT
    have HZ := hid hz
    clear hz
    go_wp2_with ((with_reducible refine wpList_unguard ?_ ?_); (focus rfl))
    clear q0 q1 q2 q3 q4 q5 q6 q7 q8 q9 qa qb qc
    generalize w2.alloc (.cells #[.int .i64 m.s0, .int .i64 m.v0, .int .i64 m.b0, .int .i64 m.s1, .int .i64 m.v1, .int .i64 m.b1, .int .i64 m.s2, .int .i64 m.v2, .int .i64 m.b2, .int .i64 m.ac, .int .i64 m.fl, .int .i64 m.cu, .int .i64 m.it] 29) = w3 at *
    generalize w2.heap.size = M at *
    refine Calls.mono (HT _).out ?_; rintro e w4 ⟨rfl, hb⟩
    (replace HM := hid (HM.out.below hb); replace HB := hid (HB.out.trans (hb.mono HB.out.size)); clear hb)
    clear HT
    cases z with
    | false =>
      go_wp2_with ((with_reducible refine wpList_unguard ?_ ?_); (focus rfl))
      go_ret
      exact ⟨rfl, HB.out⟩
    | true =>
      have htri : 0 ≤ m.tri := of_decide_eq_true HZ.out
      have HR := hid (rungs_tri hok htri)
      have HOK := hid hok
      have HO : Hid (∀ c t, m.over c t = decide (max t 1 ≤ c - m.bas m.tri)) := by
        intro c t
        unfold Mt.over
        rw [decide_eq_true htri, Bool.true_and]
      have hmx : max m.tri 0 = m.tri := by omega
      obtain ⟨hb0, hb5⟩ := ok_basAt hok m.tri
      have HT2 := hid (Mt.tri_eq hok htri)
      rw [hmx]
      clear hmx hok HZ HTC
      obtain ⟨B, hB⟩ : ∃ B, m.bas m.tri = B := ⟨_, rfl⟩
      have HBB := hid hB
      rw [hB] at hb0 hb5 HO
      have hr : Int.tmod a1 513 = a1 % 513 := Int.tmod_eq_emod_of_nonneg (by omega)
      obtain ⟨n0, hn0⟩ : ∃ n0, max (a1 % 513) B = n0 := ⟨_, rfl⟩
      have hn1 : B ≤ n0 ∧ n0 ≤ 512 := by omega
      have HN := hid hn0
      have ht12 := HT2.out.1
      obtain ⟨T, hT⟩ : ∃ T, m.tri = T := ⟨_, rfl⟩
      rw [hT] at HR HBB htri ht12 ⊢
      clear hB hT HT2 hn0
      obtain ⟨q0, q1, q2, q3, q4, q5, q6, q7, q8, q9, qa, qb, qc⟩ := HM.out.m13
      have hcellB : w4.cell? ⟨M, T.toNat * 3 + 2, none⟩ = some (.int .i64 B) := by
        rcases ht12 with rfl | rfl
        · rw [← HBB.out]; exact q5
        · rw [← HBB.out]; exact q8
      have HCB := hid hcellB
      clear q0 q1 q2 q3 q4 q5 q6 q7 q8 q9 qa qb qc hcellB
      have main : ∀ wx : World, Below w.heap.size w wx → Blk wx M 29 (mtA m) → True := fun _ _ _ => trivial
      clear main
      rcases ht12 with rfl | rfl
      all_goals
        obtain ⟨q0, q1, q2, q3, q4, q5, q6, q7, q8, q9, qa, qb, qc⟩ := HM.out.m13
        first
        | rw [show m.b1 = B from HBB.out] at q5
        | rw [show m.b2 = B from HBB.out] at q8
        go_wp2_with ((with_reducible refine wpList_unguard ?_ ?_); (focus rfl))
        clear q0 q1 q2 q3 q4 q5 q6 q7 q8 q9 qa qb qc
        go_loopw [12, 11, 10] (fun i b n wr => ∃ j : Nat, j ≤ 300 ∧ i = .int .i64 j ∧ b = .int .i64 j ∧ n = .int .i64 (n0 + j) ∧ (j = 0 ∨ n0 + j - B ≤ max a2 1) ∧ Blk wr M 29 (mtA m) ∧ Below w.heap.size w wr) (fun i _ _ _ => 300 - (intOf i).toNat)
        case atStart => exact ⟨0, by omega, rfl, rfl, by refine congrArg (Value.int IntKind.i64) ?_; have := HN.out; omega, .inl rfl, HM.out, HB.out⟩
        case round =>
          clear HM HB
          obtain ⟨j, hj, rfl, rfl, rfl, hst, hM, hB⟩ := hrel
          have HM := hid hM
          have HB := hid hB
          clear hM hB
          have hj3 : j < 300 := by omega
          have HST := hid hst
          clear hst
          obtain ⟨q0, q1, q2, q3, q4, q5, q6, q7, q8, q9, qa, qb, qc⟩ := HM.out.m13
          have HNX := hid (lad_Next m (n0 + j) a2 wr HOK.out (by omega))
          have HJ : Hid (j ≤ max a2 1) := by show (j : Int) ≤ _; have := HST.out; omega
          go_wp2_with ((with_reducible refine wpList_unguard ?_ ?_); (focus rfl))
          clear q0 q1 q2 q3 q4 q5 q6 q7 q8 q9 qa qb qc
          refine Calls.mono HNX.out ?_; intro e w5 hR
          obtain ⟨hR, hb⟩ := hR
          (replace HM := hid (HM.out.below hb); replace HB := hid (HB.out.trans (hb.mono HB.out.size)); clear hb)
          rcases hR with ⟨hov, rfl⟩ | ⟨hov, p, rfl⟩
          · rw [HR.out.1]
            rw [HO.out, decide_eq_false_iff_not] at hov
            have HV : Hid (n0 + ((j + 1 : Nat) : Int) - B ≤ max a2 1) := by show _ ≤ _; omega
            clear hov
            go_wp2_with ((with_reducible refine wpList_unguard ?_ ?_); (focus rfl))
            go_roundw
            case rel => exact ⟨j + 1, by omega, by go_num, by go_num, by refine congrArg (Value.int IntKind.i64) ?_; omega, .inr HV.out, HM.out, HB.out⟩
            case measure => simp [intOf]; omega
          · obtain ⟨y, hy⟩ : ∃ y, m.rungs.getD 1 0 = y := ⟨_, rfl⟩
            have hyT := HR.out.2
            rw [hy] at hyT ⊢
            first
            | have hyb : (y != 1) = true := by simpa using hyT
            | have hyb : (y != 2) = true := by simpa using hyT
            have hle : decide ((j : Int) ≤ max a2 1) = true := decide_eq_true HJ.out
            clear hov hy hyT
            go_wp2_with ((with_reducible refine wpList_unguard ?_ ?_); (focus rfl))
            go_ret
            exact ⟨rfl, HB.out⟩
end Go.Proofs.Ytngkmlchblgmeaa
