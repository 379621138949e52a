/-
  A device (flash.Dev) as the program holds it; what is asked of it without change.
-/
import Derived.Test.YtiicbbhjepkndaaDev0
namespace Tri
/-- What a device holds. -/
structure FS where
  k : Int
  m : Nat
  lf : Int
  b : List Nat
  lk : List Bool
  wr : List Int
  dn : Bool
  ops : Int
/-- Where it lies. -/
structure DI where
  lo : Nat
  hi : Nat
  D : Nat
  B : Nat
  L : Nat
  W : Nat
  cb : Nat
  cl : Nat
  cw : Nat
def DI.ok (i : DI) : Prop := i.lo ≤ i.D ∧ i.lo ≤ i.B ∧ i.lo ≤ i.L ∧ i.lo ≤ i.W ∧ i.D < i.hi ∧ i.B < i.hi ∧ i.L < i.hi ∧ i.W < i.hi ∧ i.D ≠ i.B ∧ i.D ≠ i.L ∧ i.D ≠ i.W ∧ i.B ≠ i.L ∧ i.B ≠ i.W ∧ i.L ≠ i.W
def FS.ok (s : FS) (n : Nat) : Prop := s.b.length = 64 * n ∧ s.lk.length = n ∧ s.wr.length = n ∧ n ≤ 512 ∧ s.m < 256 ∧ (∀ y ∈ s.b, y < 256) ∧ (-1 ≤ s.lf ∧ s.lf < 9223372036854775808)
end Tri
namespace Go.Proofs.Ytiicbbhjepkndaa
open Go.RowKit Tri

def devC (i : DI) (n : Nat) (s : FS) : List Value :=
  [.int .i64 s.k, .int .u8 (s.m : Nat), .int .i64 s.lf, .slice (some ⟨i.B, 0, none⟩) (64 * n) i.cb, .slice (some ⟨i.L, 0, none⟩) n i.cl, .slice (some ⟨i.W, 0, none⟩) n i.cw, .bool s.dn, .int .i64 s.ops]
structure DevP (w : World) (i : DI) (n : Nat) (s : FS) : Prop where
  dev : rowP w i.D 114 (devC i n s)
  rb : rowP w i.B 5 (s.b.map fun x => Value.int .u8 (x : Nat))
  rl : rowP w i.L 4 (s.lk.map Value.bool)
  rw : rowP w i.W 3 (s.wr.map fun x => Value.int .i64 x)
  ok : i.ok
  hi : i.hi ≤ w.heap.size
  fs : s.ok n
  cb : 64 * n ≤ i.cb
  cl : n ≤ i.cl
  cw : n ≤ i.cw
theorem DevP.out {w w' : World} {i : DI} {n : Nat} {s : FS} {lo hi : Nat} (h : DevP w i n s) (ho : Out lo hi w w') (hx : hi ≤ i.lo ∨ i.hi ≤ lo) : DevP w' i n s := by
  obtain ⟨h1, h2, h3, h4, h5, h6, h7, h8, h9, h10⟩ := h
  have h5' := h5
  unfold DI.ok at h5'
  exact ⟨h1.out ho (by omega), h2.out ho (by omega), h3.out ho (by omega), h4.out ho (by omega), h5, Nat.le_trans h6 ho.size, h7, h8, h9, h10⟩
theorem DevP.below {w w' : World} {i : DI} {n : Nat} {s : FS} (h : DevP w i n s) (hb : Below w.heap.size w w') : DevP w' i n s :=
  h.out (Out.of (lo := 0) (hi := 0) hb) (.inl (Nat.zero_le _))
theorem DevP.drew {w : World} {i : DI} {n : Nat} {s : FS} (h : DevP w i n s) : DevP w.drew i n s := h.below (Below.refl _ _).drew
section
variable {w : World} {i : DI} {n : Nat} {s : FS}
theorem DevP.c0 (h : DevP w i n s) : w.cell? ⟨i.D, 0, none⟩ = some (.int .i64 s.k) := h.dev.cell 0 _ rfl
theorem DevP.c1 (h : DevP w i n s) : w.cell? ⟨i.D, 1, none⟩ = some (.int .u8 (s.m : Nat)) := h.dev.cell 1 _ rfl
theorem DevP.c2 (h : DevP w i n s) : w.cell? ⟨i.D, 2, none⟩ = some (.int .i64 s.lf) := h.dev.cell 2 _ rfl
theorem DevP.c3 (h : DevP w i n s) : w.cell? ⟨i.D, 3, none⟩ = some (.slice (some ⟨i.B, 0, none⟩) (64 * n) i.cb) := h.dev.cell 3 _ rfl
theorem DevP.c4 (h : DevP w i n s) : w.cell? ⟨i.D, 4, none⟩ = some (.slice (some ⟨i.L, 0, none⟩) n i.cl) := h.dev.cell 4 _ rfl
theorem DevP.c5 (h : DevP w i n s) : w.cell? ⟨i.D, 5, none⟩ = some (.slice (some ⟨i.W, 0, none⟩) n i.cw) := h.dev.cell 5 _ rfl
theorem DevP.c6 (h : DevP w i n s) : w.cell? ⟨i.D, 6, none⟩ = some (.bool s.dn) := h.dev.cell 6 _ rfl
theorem DevP.c7 (h : DevP w i n s) : w.cell? ⟨i.D, 7, none⟩ = some (.int .i64 s.ops) := h.dev.cell 7 _ rfl
theorem DevP.free (h : DevP w i n s) (j : Nat) (hj : j < 8) : w.frozen? ⟨i.D, j, none⟩ = false := h.dev.free j hj
end

def toldE (s : FS) : Nat := if s.dn then 5 else 0
set_option maxHeartbeats 400000 in
theorem dev_told (i : DI) (n : Nat) (s : FS) (w : World) (h : DevP w i n s) :
    Calls Try.prog 70 #[.pointer (some ⟨i.D, 0, none⟩)] w fun e w' => e = .returned (.int .i64 (toldE s : Nat)) ∧ w = w' := by
  have c6 := h.c6
  unfold toldE
  obtain ⟨k, m, lf, b, lk, wr, dn, ops⟩ := s
  obtain ⟨lo, hi, D, B, L, W, cb, cl, cw⟩ := i
  simp only at *
  clear h
  cases dn <;>
  · (go_enter Try.func70, Try.ntmps70; try simp only [List.append])
    go_wp2_with ((with_reducible refine wpList_unguard ?_ ?_); (focus rfl))
    go_ret
    exact ⟨rfl, rfl⟩
def wrongE (n : Nat) (dn : Bool) (at_ k : Int) : Nat := if dn then 5 else if 0 ≤ at_ ∧ 0 ≤ k ∧ at_ + k ≤ 64 * n then 0 else 2
set_option maxHeartbeats 1000000 in
theorem dev_wrong (i : DI) (n : Nat) (s : FS) (w : World) (at_ k : Int) (h : DevP w i n s) (hk : -9223372036854775808 ≤ k ∧ k ≤ 9223372036854775807) (ha : -9223372036854775808 ≤ at_ ∧ at_ ≤ 9223372036854775807) :
    Calls Try.prog 68 #[.pointer (some ⟨i.D, 0, none⟩), .int .i64 at_, .int .i64 k] w fun e w' => e = .returned (.int .i64 (wrongE n s.dn at_ k : Nat)) ∧ w = w' := by
  have c6 := h.c6
  have c3 := h.c3
  have hn : n ≤ 512 := h.fs.2.2.2.1
  obtain ⟨k', m, lf, b, lk, wr, dn, ops⟩ := s
  obtain ⟨lo, hi, D, B, L, W, cb, cl, cw⟩ := i
  simp only at *
  clear h
  cases dn with
  | true =>
    have he : wrongE n true at_ k = 5 := rfl
    rw [he]
    (go_enter Try.func68, Try.ntmps68; try simp only [List.append])
    go_wp2_with ((with_reducible refine wpList_unguard ?_ ?_); (focus rfl))
    go_ret
    exact ⟨rfl, rfl⟩
  | false =>
    obtain ⟨z1, e1⟩ : ∃ z, decide (at_ < 0) = z := ⟨_, rfl⟩
    obtain ⟨z2, e2⟩ : ∃ z, decide (k < 0) = z := ⟨_, rfl⟩
    obtain ⟨z3, e3⟩ : ∃ z, decide ((64 * n : Int) < at_) = z := ⟨_, rfl⟩
    obtain ⟨z4, e4⟩ : ∃ z, decide ((64 * n : Int) - at_ < k) = z := ⟨_, rfl⟩
    have hw : Hid (wrongE n false at_ k = if z1 || z2 || z3 || z4 then 2 else 0) := by
      show _ = _
      unfold wrongE
      rw [if_neg (by decide)]
      subst e1 e2 e3 e4
      by_cases h1 : at_ < 0 <;> by_cases h2 : k < 0 <;> by_cases h3 : (64 * n : Int) < at_ <;> by_cases h4 : (64 * n : Int) - at_ < k <;> simp [h1, h2, h3, h4] <;> omega
    generalize wrongE n false at_ k = E at *
    cases z1 <;> cases z2 <;> cases z3 <;> cases z4
    all_goals
      have hw' := hw.out
      simp only [Bool.or_true, Bool.true_or, Bool.or_false, Bool.false_or, Bool.or_self, if_true, if_false, reduceIte, Bool.false_eq_true] at hw'
      subst hw'
      try
        have hwr : wrap64 (64 * (n : Int) - at_) = 64 * n - at_ := by
          have e1' := e1
          have e3' := e3
          simp only [decide_eq_false_iff_not] at e1' e3'
          unfold wrap64
          omega
      (go_enter Try.func68, Try.ntmps68; try simp only [List.append])
      go_wp2_with ((with_reducible refine wpList_unguard ?_ ?_); (focus rfl))
      go_ret
      exact ⟨rfl, rfl⟩
end Go.Proofs.Ytiicbbhjepkndaa
