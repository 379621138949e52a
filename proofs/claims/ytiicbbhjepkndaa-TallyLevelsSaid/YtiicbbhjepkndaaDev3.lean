/-
  A device: Down, PowerOn, Fuse.
-/
import Derived.Test.YtiicbbhjepkndaaDev2
namespace Go.Proofs.Ytiicbbhjepkndaa
open Go.RowKit Tri

set_option maxHeartbeats 400000 in
theorem dev_Down (i : DI) (n : Nat) (s : FS) (w : World) (h : DevP w i n s) :
    Calls Try.prog 22 #[.pointer (some ⟨i.D, 0, none⟩)] w fun e w' => e = .returned (.bool s.dn) ∧ w = w' := by
  have c6 := h.c6
  clear h
  obtain ⟨dn, hd⟩ : ∃ d, s.dn = d := ⟨_, rfl⟩
  rw [hd] at c6 ⊢
  (go_enter Try.func22, Try.ntmps22; try simp only [List.append])
  go_wp2_with ((with_reducible refine wpList_unguard ?_ ?_); (focus rfl))
  go_ret
  exact ⟨rfl, rfl⟩
theorem dev_Down_nil (w : World) :
    Calls Try.prog 22 #[.pointer none] w fun e w' => e = .returned (.bool true) ∧ w = w' := by
  (go_enter Try.func22, Try.ntmps22; try simp only [List.append])
  go_wp2_with ((with_reducible refine wpList_unguard ?_ ?_); (focus rfl))
  go_ret
  exact ⟨rfl, rfl⟩
def powerS (s : FS) : FS := { s with dn := false, lf := -1 }
set_option maxHeartbeats 400000 in
theorem dev_PowerOn (i : DI) (n : Nat) (s : FS) (w : World) (h : DevP w i n s) :
    Calls Try.prog 26 #[.pointer (some ⟨i.D, 0, none⟩)] w fun e w' => e = .returned (.tuple #[]) ∧ DevP w' i n (powerS s) ∧ Out i.lo i.hi w w' := by
  have c6 := h.c6
  have f6 := h.free 6 (by omega)
  have H1 := hid (h.setD 6 (.bool false) { s with dn := false } (by omega) rfl rfl rfl rfl h.fs.2.2.2.2.2.2 h.fs.2.2.2.2.1)
  have O1 := hid (outD h.ok (Out.refl _ _ w) 6 (.bool false))
  obtain ⟨w1, hw1⟩ : ∃ u, w.setCell ⟨i.D, 6, none⟩ (.bool false) = u := ⟨_, rfl⟩
  rw [hw1] at H1 O1
  have c2 := H1.out.c2
  have f2 := H1.out.free 2 (by omega)
  simp only at c2
  have H2 := hid (H1.out.setD 2 (.int .i64 (-1)) { s with dn := false, lf := -1 } (by omega) rfl rfl rfl rfl (by simp) h.fs.2.2.2.2.1)
  have O2 := hid (outD h.ok O1.out 2 (.int .i64 (-1)))
  clear h
  (go_enter Try.func26, Try.ntmps26; try simp only [List.append])
  go_wp2_with ((with_reducible refine wpList_unguard ?_ ?_); (focus rfl))
  refine bodyPost_end (results_none rfl _ _ _) rfl ?_
  exact ⟨rfl, H2.out, O2.out⟩
/-- A fuse of n with a way to be torn. -/
def fuseS (s : FS) (k : Int) (m : Nat) (c : Int) : FS := { s with k := k, m := m, lf := max c (-1) }
set_option maxHeartbeats 400000 in
theorem dev_Fuse (i : DI) (n : Nat) (s : FS) (w : World) (k : Int) (m : Nat) (c : Int) (h : DevP w i n s) (hm : m < 256) (hc : c < 9223372036854775808) :
    Calls Try.prog 18 #[.pointer (some ⟨i.D, 0, none⟩), .int .i64 c, .agg #[.int .i64 k, .int .u8 (m : Nat)]] w fun e w' => e = .returned (.tuple #[]) ∧ DevP w' i n (fuseS s k m c) ∧ Out i.lo i.hi w w' := by
  have hb := (Below.refl w.heap.size w).alloc (Nat.le_refl _) (.cells #[.int .i64 k, .int .u8 (m : Nat)] 23)
  have H0 := hid (h.below hb)
  have O0 := hid (Out.of (lo := i.lo) (hi := i.hi) hb)
  clear hb
  obtain ⟨w1, hw1⟩ : ∃ u, w.alloc (.cells #[.int .i64 k, .int .u8 (m : Nat)] 23) = u := ⟨_, rfl⟩
  have t0 : (w.alloc (.cells #[.int .i64 k, .int .u8 (m : Nat)] 23)).cell? ⟨w.heap.size, 0, none⟩ = some (.int .i64 k) := by simp [go_sem]
  have t1 : (w.alloc (.cells #[.int .i64 k, .int .u8 (m : Nat)] 23)).cell? ⟨w.heap.size, 1, none⟩ = some (.int .u8 (m : Nat)) := by simp [go_sem]
  rw [hw1] at H0 O0 t0 t1
  have c0 := H0.out.c0
  have f0 := H0.out.free 0 (by omega)
  have H2 := hid (H0.out.setD 0 (.int .i64 k) { s with k := k } (by omega) rfl rfl rfl rfl h.fs.2.2.2.2.2.2 h.fs.2.2.2.2.1)
  have O2 := hid (outD h.ok O0.out 0 (.int .i64 k))
  obtain ⟨w2, hw2⟩ : ∃ u, w1.setCell ⟨i.D, 0, none⟩ (.int .i64 k) = u := ⟨_, rfl⟩
  rw [hw2] at H2 O2
  have c1 := H2.out.c1
  have f1 := H2.out.free 1 (by omega)
  simp only at c1
  have H3 := hid (H2.out.setD 1 (.int .u8 (m : Nat)) { s with k := k, m := m } (by omega) rfl rfl rfl rfl h.fs.2.2.2.2.2.2 hm)
  have O3 := hid (outD h.ok O2.out 1 (.int .u8 (m : Nat)))
  obtain ⟨w3, hw3⟩ : ∃ u, w2.setCell ⟨i.D, 1, none⟩ (.int .u8 (m : Nat)) = u := ⟨_, rfl⟩
  rw [hw3] at H3 O3
  have c2 := H3.out.c2
  have f2 := H3.out.free 2 (by omega)
  simp only at c2
  have H4 := hid (H3.out.setD 2 (.int .i64 (max c (-1))) { s with k := k, m := m, lf := max c (-1) } (by omega) rfl rfl rfl rfl (by show -1 ≤ max c (-1) ∧ max c (-1) < 9223372036854775808; omega) hm)
  have O4 := hid (outD h.ok O3.out 2 (.int .i64 (max c (-1))))
  unfold fuseS
  clear h H0 O0 H2 O2 H3 O3
  rcases Int.lt_or_le c (-1) with hx | hx
  · have hmx : max c (-1) = -1 := by omega
    rw [hmx] at H4 O4 ⊢
    clear hmx
    (go_enter Try.func18, Try.ntmps18; try simp only [List.append])
    go_wp2_with ((with_reducible refine wpList_unguard ?_ ?_); (focus rfl))
    all_goals first
      | omega
      | (refine bodyPost_end (results_none rfl _ _ _) rfl ?_
         exact ⟨rfl, H4.out, O4.out⟩)
  · have hmx : max c (-1) = c := by omega
    rw [hmx] at H4 O4 ⊢
    clear hmx
    (go_enter Try.func18, Try.ntmps18; try simp only [List.append])
    go_wp2_with ((with_reducible refine wpList_unguard ?_ ?_); (focus rfl))
    all_goals first
      | (exfalso; omega)
      | (refine bodyPost_end (results_none rfl _ _ _) rfl ?_
         exact ⟨rfl, H4.out, O4.out⟩)
end Go.Proofs.Ytiicbbhjepkndaa
