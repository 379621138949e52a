/-
  A device: Sectors, Ops, Read, Locked, Dump.
-/
import Derived.Test.YtiicbbhjepkndaaDevQ
import Derived.Test.YtiicbbhjepkndaaDev3
namespace Go.Proofs.Ytiicbbhjepkndaa
open Go.RowKit Tri

set_option maxHeartbeats 400000 in
theorem dev_Sectors (i : DI) (n : Nat) (s : FS) (w : World) (h : DevP w i n s) :
    Calls Try.prog 30 #[.pointer (some ⟨i.D, 0, none⟩)] w fun e w' => e = .returned (.int .i64 n) ∧ w = w' := by
  have c4 := h.c4
  clear h
  (go_enter Try.func30, Try.ntmps30; try simp only [List.append])
  go_wp2_with ((with_reducible refine wpList_unguard ?_ ?_); (focus rfl))
  go_ret
  exact ⟨rfl, rfl⟩
theorem dev_Sectors_nil (w : World) :
    Calls Try.prog 30 #[.pointer none] w fun e w' => e = .returned (.int .i64 0) ∧ w = w' := by
  (go_enter Try.func30, Try.ntmps30; try simp only [List.append])
  go_wp2_with ((with_reducible refine wpList_unguard ?_ ?_); (focus rfl))
  go_ret
  exact ⟨rfl, rfl⟩
set_option maxHeartbeats 400000 in
theorem dev_Ops (i : DI) (n : Nat) (s : FS) (w : World) (h : DevP w i n s) :
    Calls Try.prog 31 #[.pointer (some ⟨i.D, 0, none⟩)] w fun e w' => e = .returned (.int .i64 s.ops) ∧ w = w' := by
  have c7 := h.c7
  clear h
  (go_enter Try.func31, Try.ntmps31; try simp only [List.append])
  go_wp2_with ((with_reducible refine wpList_unguard ?_ ?_); (focus rfl))
  go_ret
  exact ⟨rfl, rfl⟩
theorem dev_Ops_nil (w : World) :
    Calls Try.prog 31 #[.pointer none] w fun e w' => e = .returned (.int .i64 0) ∧ w = w' := by
  (go_enter Try.func31, Try.ntmps31; try simp only [List.append])
  go_wp2_with ((with_reducible refine wpList_unguard ?_ ?_); (focus rfl))
  go_ret
  exact ⟨rfl, rfl⟩
theorem wrongE_zero {n : Nat} {dn : Bool} {at_ k : Int} (h : wrongE n dn at_ k = 0) : dn = false ∧ 0 ≤ at_ ∧ 0 ≤ k ∧ at_ + k ≤ 64 * n := by
  unfold wrongE at h
  split at h
  · omega
  · rename_i hd
    split at h
    · rename_i h1; exact ⟨by simpa using hd, h1⟩
    · omega
theorem wrongE_of {n : Nat} {dn : Bool} {at_ k : Int} (h : dn = false ∧ 0 ≤ at_ ∧ 0 ≤ k ∧ at_ + k ≤ 64 * n) : wrongE n dn at_ k = 0 := by
  unfold wrongE
  rw [h.1, if_neg (by decide), if_pos h.2]
theorem wrongE_le (n : Nat) (dn : Bool) (at_ k : Int) : wrongE n dn at_ k = 0 ∨ wrongE n dn at_ k = 2 ∨ wrongE n dn at_ k = 5 := by
  unfold wrongE
  repeat (first | omega | split)
theorem dev_slice {w : World} {i : DI} {n : Nat} {s : FS} (h : DevP w i n s) (a k : Nat) (hk : a + k ≤ 64 * n) : cellsB w (some ⟨i.B, a, none⟩) ((s.b.drop a).take k) := by
  intro j hj
  rw [List.length_take] at hj
  refine ⟨i.B, a, rfl, ?_⟩
  rw [h.bAt (a + j) (by omega), List.getD_eq_getElem?_getD, List.getD_eq_getElem?_getD, List.getElem?_take, if_pos (by omega), List.getElem?_drop]
set_option maxHeartbeats 2000000 in
set_option maxRecDepth 100000 in
theorem dev_Read (i : DI) (n : Nat) (s : FS) (w : World) (at_ k : Int) (h : DevP w i n s) (hk : -9223372036854775808 ≤ k ∧ k ≤ 9223372036854775807) (ha : -9223372036854775808 ≤ at_ ∧ at_ ≤ 9223372036854775807) :
    Calls Try.prog 25 #[.pointer (some ⟨i.D, 0, none⟩), .int .i64 at_, .int .i64 k] w fun e w' =>
      e = .returned (.tuple #[.string (ofB (s.readB n at_ k)), .int .i64 (wrongE n s.dn at_ k : Nat)]) ∧ DevP w' i n (s.read n at_ k) ∧ Out i.lo i.hi w w' := by
  have H := hid h
  have hW := hid (dev_wrong i n s w at_ k h hk ha)
  by_cases hc : s.dn = false ∧ 0 ≤ at_ ∧ 0 ≤ k ∧ at_ + k ≤ 64 * n
  · have hE := wrongE_of hc
    rw [hE] at hW ⊢
    have c7 := h.c7
    have f7 := h.free 7 (by omega)
    have hS : Hid (s.read n at_ k = { s with ops := wrap64 (s.ops + 1) }) := by show _ = _; unfold FS.read; rw [if_pos hc]
    have hB : Hid (s.readB n at_ k = (s.b.drop at_.toNat).take k.toNat) := by show _ = _; unfold FS.readB; rw [if_pos hc]
    have H1 := hid (h.setD 7 (.int .i64 (wrap64 (s.ops + 1))) { s with ops := wrap64 (s.ops + 1) } (by omega) rfl rfl rfl rfl h.fs.2.2.2.2.2.2 h.fs.2.2.2.2.1)
    have O1 := hid (outD h.ok (Out.refl _ _ w) 7 (.int .i64 (wrap64 (s.ops + 1))))
    obtain ⟨w1, hw1⟩ : ∃ u, w.setCell ⟨i.D, 7, none⟩ (.int .i64 (wrap64 (s.ops + 1))) = u := ⟨_, rfl⟩
    rw [hw1] at H1 O1
    have c3 := H1.out.c3
    have hn : n ≤ 512 := h.fs.2.2.2.1
    have hcb := h.cb
    obtain ⟨_, ha0, hk0, hle⟩ := hc
    obtain ⟨a, rfl⟩ : ∃ a : Nat, at_ = a := ⟨at_.toNat, by omega⟩
    obtain ⟨m, rfl⟩ : ∃ m : Nat, k = m := ⟨k.toNat, by omega⟩
    simp only [Int.toNat_natCast] at hB
    have hlen : ((s.b.drop a).take m).length = m := by rw [List.length_take, List.length_drop, h.fs.1]; omega
    have hcs := fun c => conv_str (dev_slice H1.out a m (by omega)) m c (by show m = ((s.b.drop a).take m).length; rw [hlen])
    simp only at hcs
    have hcs0 : i.cb = a → (convert 30 9 (.slice (some ⟨i.B, 0, none⟩) m 0)).run Try.prog w1 = .ok (.string (ofB ((s.b.drop a).take m))) w1 := by
      intro hz
      obtain rfl : m = 0 := by omega
      exact conv_str (l := []) (cellsB.nil _ _) 0 0 rfl
    clear h hE
    by_cases hz : i.cb = a
    · have hcs0' := hcs0 hz
      clear hcs0
      (go_enter Try.func25, Try.ntmps25; try simp only [List.append])
      go_wp2_with ((with_reducible refine wpList_unguard ?_ ?_); (focus rfl))
      refine Calls.mono hW.out ?_; rintro e w2 ⟨rfl, rfl⟩
      go_wp2_with ((with_reducible refine wpList_unguard ?_ ?_); (focus rfl))
      go_ret2
      rw [hS.out, hB.out]
      exact ⟨rfl, H1.out, O1.out⟩
    · clear hcs0
      (go_enter Try.func25, Try.ntmps25; try simp only [List.append])
      go_wp2_with ((with_reducible refine wpList_unguard ?_ ?_); (focus rfl))
      refine Calls.mono hW.out ?_; rintro e w2 ⟨rfl, rfl⟩
      go_wp2_with ((with_reducible refine wpList_unguard ?_ ?_); (focus rfl))
      go_ret2
      rw [hS.out, hB.out]
      exact ⟨rfl, H1.out, O1.out⟩
  · have hS : Hid (s.read n at_ k = s) := by show _ = _; unfold FS.read; rw [if_neg hc]
    have hB : Hid (s.readB n at_ k = []) := by show _ = _; unfold FS.readB; rw [if_neg hc]
    have hE : wrongE n s.dn at_ k ≠ 0 := fun h0 => hc (wrongE_zero h0)
    have hE2 : ((wrongE n s.dn at_ k : Nat) : Int) ≠ 0 := by omega
    generalize wrongE n s.dn at_ k = E at *
    have q1 : ((E : Int) != 0) = true := by simpa using hE
    clear h hc
    (go_enter Try.func25, Try.ntmps25; try simp only [List.append])
    go_wp2_with ((with_reducible refine wpList_unguard ?_ ?_); (focus rfl))
    refine Calls.mono hW.out ?_; rintro e w2 ⟨rfl, rfl⟩
    go_wp2_with ((with_reducible refine wpList_unguard ?_ ?_); (focus rfl))
    go_ret2
    rw [hS.out, hB.out]
    exact ⟨rfl, H.out, Out.refl _ _ _⟩
def FS.lockedB (s : FS) (n : Nat) (c : Int) : Bool := decide (0 ≤ c ∧ c < n) && s.lkd c
set_option maxHeartbeats 2000000 in
theorem dev_Locked (i : DI) (n : Nat) (s : FS) (w : World) (c : Int) (h : DevP w i n s) :
    Calls Try.prog 29 #[.pointer (some ⟨i.D, 0, none⟩), .int .i64 c] w fun e w' => e = .returned (.bool (FS.lockedB s n c)) ∧ w = w' := by
  have c4 := h.c4
  have hcl := h.cl
  rcases Int.lt_or_le c 0 with h0 | h0
  · have hR : Hid (FS.lockedB s n c = false) := by show _ = _; unfold FS.lockedB; rw [decide_eq_false (by omega)]; rfl
    have q1 : decide (0 ≤ c) = false := decide_eq_false (by omega)
    clear h
    (go_enter Try.func29, Try.ntmps29; try simp only [List.append])
    go_wp2_with ((with_reducible refine wpList_unguard ?_ ?_); (focus rfl))
    go_ret
    rw [hR.out]
    exact ⟨rfl, rfl⟩
  · rcases Int.lt_or_le c n with h1 | h1
    · obtain ⟨j, rfl⟩ : ∃ j : Nat, c = j := ⟨c.toNat, by omega⟩
      have hj : j < n := by omega
      have hR : Hid (FS.lockedB s n j = s.lk.getD j false) := by show _ = _; unfold FS.lockedB FS.lkd; rw [decide_eq_true (by omega)]; rfl
      have q1 : decide (0 ≤ (j : Int)) = true := decide_eq_true (by omega)
      have q2 : decide ((j : Int) < n) = true := decide_eq_true (by omega)
      have cl := h.lAt j hj
      clear h
      generalize s.lk.getD j false = x at *
      (go_enter Try.func29, Try.ntmps29; try simp only [List.append])
      go_wp2_with ((with_reducible refine wpList_unguard ?_ ?_); (focus rfl))
      go_ret
      rw [hR.out]
      exact ⟨rfl, rfl⟩
    · have hR : Hid (FS.lockedB s n c = false) := by show _ = _; unfold FS.lockedB; rw [decide_eq_false (by omega)]; rfl
      have q1 : decide (0 ≤ c) = true := decide_eq_true (by omega)
      have q2 : decide (c < n) = false := decide_eq_false (by omega)
      clear h
      (go_enter Try.func29, Try.ntmps29; try simp only [List.append])
      go_wp2_with ((with_reducible refine wpList_unguard ?_ ?_); (focus rfl))
      go_ret
      rw [hR.out]
      exact ⟨rfl, rfl⟩
theorem dev_Locked_nil (w : World) (c : Int) :
    Calls Try.prog 29 #[.pointer none, .int .i64 c] w fun e w' => e = .returned (.bool false) ∧ w = w' := by
  (go_enter Try.func29, Try.ntmps29; try simp only [List.append])
  go_wp2_with ((with_reducible refine wpList_unguard ?_ ?_); (focus rfl))
  go_ret
  exact ⟨rfl, rfl⟩
set_option maxHeartbeats 2000000 in
set_option maxRecDepth 100000 in
theorem dev_Dump (i : DI) (n : Nat) (s : FS) (w : World) (c : Int) (h : DevP w i n s) :
    Calls Try.prog 17 #[.pointer (some ⟨i.D, 0, none⟩), .int .i64 c] w fun e w' => e = .returned (.string (ofB (s.dumpB n c))) ∧ w = w' := by
  have c4 := h.c4
  have c3 := h.c3
  have hcb := h.cb
  have hn : n ≤ 512 := h.fs.2.2.2.1
  rcases Int.lt_or_le c 0 with h0 | h0
  · have hR : Hid (s.dumpB n c = []) := by show _ = _; unfold FS.dumpB; rw [if_neg (by omega)]
    have q1 : decide (c < 0) = true := decide_eq_true (by omega)
    clear h
    (go_enter Try.func17, Try.ntmps17; try simp only [List.append])
    go_wp2_with ((with_reducible refine wpList_unguard ?_ ?_); (focus rfl))
    go_ret
    rw [hR.out]
    exact ⟨rfl, rfl⟩
  · have q1 : decide (c < 0) = false := decide_eq_false (by omega)
    rcases Int.lt_or_le c n with h1 | h1
    · obtain ⟨j, rfl⟩ : ∃ j : Nat, c = j := ⟨c.toNat, by omega⟩
      have hj : j < n := by omega
      have hR : Hid (s.dumpB n j = (s.b.drop (64 * j)).take 64) := by show _ = _; unfold FS.dumpB; rw [if_pos (by omega), Int.toNat_natCast]
      have q2 : decide ((n : Int) ≤ j) = false := decide_eq_false (by omega)
      have hlen : ((s.b.drop (64 * j)).take 64).length = 64 := by rw [List.length_take, List.length_drop, h.fs.1]; omega
      have hcs := fun c => conv_str (dev_slice h (64 * j) 64 (by omega)) 64 c (by rw [hlen])
      rw [show 64 * j = j * 64 from by omega] at hcs
      have hcs2 := hcs (i.cb - j * 64)
      rw [show (.slice (some ⟨i.B, j * 64, none⟩) 64 (i.cb - j * 64) : Value) = .slice (some ⟨i.B, j * 64, none⟩) ((j + 1) * 64 - j * 64) (i.cb - j * 64) from by congr 1; omega] at hcs2
      clear hcs
      have hz : ¬ (i.cb = j * 64) := by omega
      clear h
      (go_enter Try.func17, Try.ntmps17; try simp only [List.append])
      go_wp2_with ((with_reducible refine wpList_unguard ?_ ?_); (focus rfl))
      go_ret
      rw [hR.out, show 64 * j = j * 64 from by omega]
      exact ⟨rfl, rfl⟩
    · have hR : Hid (s.dumpB n c = []) := by show _ = _; unfold FS.dumpB; rw [if_neg (by omega)]
      have q2 : decide ((n : Int) ≤ c) = true := decide_eq_true (by omega)
      clear h
      (go_enter Try.func17, Try.ntmps17; try simp only [List.append])
      go_wp2_with ((with_reducible refine wpList_unguard ?_ ?_); (focus rfl))
      go_ret
      rw [hR.out]
      exact ⟨rfl, rfl⟩
theorem dev_Dump_nil (w : World) (c : Int) :
    Calls Try.prog 17 #[.pointer none, .int .i64 c] w fun e w' => e = .returned (.string ByteArray.empty) ∧ w = w' := by
  (go_enter Try.func17, Try.ntmps17; try simp only [List.append])
  go_wp2_with ((with_reducible refine wpList_unguard ?_ ?_); (focus rfl))
  go_ret
  exact ⟨rfl, rfl⟩
end Go.Proofs.Ytiicbbhjepkndaa
