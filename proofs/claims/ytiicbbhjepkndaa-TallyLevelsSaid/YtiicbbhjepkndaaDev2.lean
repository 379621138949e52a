/-
  A device that changes: part.
-/
import Derived.Test.YtiicbbhjepkndaaDev1
namespace Tri
open Go Go.RowKit
def partS (s : FS) : FS := if s.lf = 0 then { s with ops := wrap64 (s.ops + 1), lf := -1, dn := true } else if s.lf > 0 then { s with ops := wrap64 (s.ops + 1), lf := s.lf - 1 } else { s with ops := wrap64 (s.ops + 1) }
def partN (s : FS) (k : Nat) : Int := if s.lf = 0 then s.k % (k + 1) else k
end Tri
namespace Go.Proofs.Ytiicbbhjepkndaa
open Go.RowKit Tri

theorem DevP.setD {w : World} {i : DI} {n : Nat} {s : FS} (h : DevP w i n s) (j : Nat) (v : Value) (s' : FS) (hj : j < 8) (hc : (devC i n s).set j v = devC i n s') (hb : s'.b = s.b) (hl : s'.lk = s.lk) (hw : s'.wr = s.wr)
    (hlf : -1 ≤ s'.lf ∧ s'.lf < 9223372036854775808) (hm : s'.m < 256) : DevP (w.setCell ⟨i.D, j, none⟩ v) i n s' := by
  obtain ⟨h1, h2, h3, h4, h5, h6, h7, h8, h9, h10⟩ := h
  have h5' := h5
  unfold DI.ok at h5'
  refine ⟨?_, ?_, ?_, ?_, h5, by simpa using h6, ?_, h8, h9, h10⟩
  · rw [← hc]; exact h1.set j v hj
  · rw [hb]; exact h2.setOther _ _ (by show i.B ≠ i.D; omega)
  · rw [hl]; exact h3.setOther _ _ (by show i.L ≠ i.D; omega)
  · rw [hw]; exact h4.setOther _ _ (by show i.W ≠ i.D; omega)
  · unfold FS.ok at h7 ⊢
    rw [hb, hl, hw]
    exact ⟨h7.1, h7.2.1, h7.2.2.1, h7.2.2.2.1, hm, h7.2.2.2.2.2.1, hlf⟩
theorem outD {i : DI} (h : i.ok) {a w : World} (ho : Out i.lo i.hi a w) (j : Nat) (v : Value) : Out i.lo i.hi a (w.setCell ⟨i.D, j, none⟩ v) := by
  unfold DI.ok at h
  exact ho.set _ _ (by show i.lo ≤ i.D; omega) (by show i.D < i.hi; omega)

theorem part_mod (x : Int) (k : Nat) : (Int.tmod x (k + 1) + k + 1) % (k + 1) = x % (k + 1) := by
  have h3 := Int.tmod_add_mul_tdiv x (k + 1)
  rw [Int.add_assoc, Int.add_emod_right]
  conv => rhs; rw [← h3]
  rw [Int.add_mul_emod_self_left]
set_option maxHeartbeats 2000000 in
theorem dev_part (i : DI) (n : Nat) (s : FS) (w : World) (k : Nat) (h : DevP w i n s) (hk : k ≤ 1000) :
    Calls Try.prog 69 #[.pointer (some ⟨i.D, 0, none⟩), .int .i64 k] w fun e w' =>
      e = .returned (.tuple #[.int .i64 (partN s k), .bool (decide (s.lf ≠ 0))]) ∧ DevP w' i n (partS s) ∧ Out i.lo i.hi w w' := by
  have c7 := h.c7
  have f7 := h.free 7 (by omega)
  have H1 := hid (h.setD 7 (.int .i64 (wrap64 (s.ops + 1))) { s with ops := wrap64 (s.ops + 1) } (by omega) rfl rfl rfl rfl h.fs.2.2.2.2.2.2 h.fs.2.2.2.2.1)
  have O1 := hid (outD h.ok (Out.refl _ _ w) 7 (.int .i64 (wrap64 (s.ops + 1))))
  obtain ⟨w1, hw1⟩ : ∃ u, w.setCell ⟨i.D, 7, none⟩ (.int .i64 (wrap64 (s.ops + 1))) = u := ⟨_, rfl⟩
  rw [hw1] at H1 O1
  have c2 := H1.out.c2
  have c0 := H1.out.c0
  have f2 := H1.out.free 2 (by omega)
  have f6 := H1.out.free 6 (by omega)
  simp only at c2 c0
  rcases Int.lt_trichotomy s.lf 0 with hl | hl | hl
  · have q1 : (s.lf != 0) = true := by simp; omega
    have q2 : decide ((0 : Int) < s.lf) = false := decide_eq_false (by omega)
    have hS : Hid (partS s = { s with ops := wrap64 (s.ops + 1) }) := by show _ = _; unfold partS; rw [if_neg (by omega), if_neg (by omega)]
    have hN : Hid (partN s k = k) := by show _ = _; unfold partN; rw [if_neg (by omega)]
    have hD : Hid (decide (s.lf ≠ 0) = true) := decide_eq_true (by omega)
    clear h hl
    (go_enter Try.func69, Try.ntmps69; try simp only [List.append])
    go_wp2_with ((with_reducible refine wpList_unguard ?_ ?_); (focus rfl))
    go_ret2
    rw [hS.out, hN.out, hD.out]
    exact ⟨rfl, H1.out, O1.out⟩
  · have hS : Hid (partS s = { s with ops := wrap64 (s.ops + 1), lf := -1, dn := true }) := by show _ = _; unfold partS; rw [if_pos hl]
    have hN : Hid (partN s k = s.k % (k + 1)) := by show _ = _; unfold partN; rw [if_pos hl]
    have hD : Hid (decide (s.lf ≠ 0) = false) := decide_eq_false (by omega)
    have hM := hid (part_mod s.k k)
    have H2 := hid (H1.out.setD 2 (.int .i64 (-1)) { s with ops := wrap64 (s.ops + 1), lf := -1 } (by omega) rfl rfl rfl rfl (by simp) h.fs.2.2.2.2.1)
    have O2 := hid (outD h.ok O1.out 2 (.int .i64 (-1)))
    obtain ⟨w2, hw2⟩ : ∃ u, w1.setCell ⟨i.D, 2, none⟩ (.int .i64 (-1)) = u := ⟨_, rfl⟩
    rw [hw2] at H2 O2
    have H3 := hid (H2.out.setD 6 (.bool true) { s with ops := wrap64 (s.ops + 1), lf := -1, dn := true } (by omega) rfl rfl rfl rfl (by simp) h.fs.2.2.2.2.1)
    have O3 := hid (outD h.ok O2.out 6 (.bool true))
    obtain ⟨w3, hw3⟩ : ∃ u, w2.setCell ⟨i.D, 6, none⟩ (.bool true) = u := ⟨_, rfl⟩
    rw [hw3] at H3 O3
    have f6' := H2.out.free 6 (by omega)
    have c6' := H2.out.c6
    simp only at c6'
    have c0' := H3.out.c0
    simp only at c0'
    clear h c0 f6 O1 O2 H1 H2
    rw [hl] at c2
    have b1 := Int.tmod_lt_of_pos s.k (b := (k + 1 : Int)) (by omega)
    have b2 := Int.tmod_lt_of_pos (-s.k) (b := (k + 1 : Int)) (by omega)
    rw [Int.neg_tmod] at b2
    (go_enter Try.func69, Try.ntmps69; try simp only [List.append])
    go_wp2_with ((with_reducible refine wpList_unguard ?_ ?_); (focus rfl))
    go_ret2
    rw [hS.out, hN.out, hD.out, ← hM.out]
    exact ⟨rfl, H3.out, O3.out⟩
  · have q1 : (s.lf != 0) = true := by simp; omega
    have q2 : decide ((0 : Int) < s.lf) = true := decide_eq_true (by omega)
    have hS : Hid (partS s = { s with ops := wrap64 (s.ops + 1), lf := s.lf - 1 }) := by show _ = _; unfold partS; rw [if_neg (by omega), if_pos hl]
    have hN : Hid (partN s k = k) := by show _ = _; unfold partN; rw [if_neg (by omega)]
    have hD : Hid (decide (s.lf ≠ 0) = true) := decide_eq_true (by omega)
    have H2 := hid (H1.out.setD 2 (.int .i64 (s.lf - 1)) { s with ops := wrap64 (s.ops + 1), lf := s.lf - 1 } (by omega) rfl rfl rfl rfl (by have := h.fs.2.2.2.2.2.2; show -1 ≤ s.lf - 1 ∧ s.lf - 1 < 9223372036854775808; omega) h.fs.2.2.2.2.1)
    have O2 := hid (outD h.ok O1.out 2 (.int .i64 (s.lf - 1)))
    obtain ⟨w2, hw2⟩ : ∃ u, w1.setCell ⟨i.D, 2, none⟩ (.int .i64 (s.lf - 1)) = u := ⟨_, rfl⟩
    rw [hw2] at H2 O2
    have hlw : wrap64 (s.lf - 1) = s.lf - 1 := by have := h.fs.2.2.2.2.2.2; unfold wrap64; omega
    clear h c0 f6 O1 H1
    (go_enter Try.func69, Try.ntmps69; try simp only [List.append])
    go_wp2_with ((with_reducible refine wpList_unguard ?_ ?_); (focus rfl))
    go_ret2
    rw [hS.out, hN.out, hD.out]
    exact ⟨rfl, H2.out, O2.out⟩
end Go.Proofs.Ytiicbbhjepkndaa
