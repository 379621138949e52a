/-
  Rows of which a beginning is known (rowP); what may change between two blocks (Out).
  A device (flash.Dev) as the program holds it; what is asked of it without change.
  A device that changes: part.
  A device's bytes and locks as they are written; what an erase and a program let it be, in plain words.
  A device: Down, PowerOn, Fuse.
  A device: Sectors, Ops, Read, Locked, Dump.
  The log's places: geo.Half at the statements' geometry; Log.place.
-/
import Derived.Test.YtngkmlchblgmeaaPak1
namespace Go.Proofs.Ytngkmlchblgmeaa
open Go.RowKit

/-- A block whose first cells are known, and may be written. -/
def rowP (w : World) (B : Nat) (t : TypeId) (cs : List Value) : Prop :=
  ∃ (pad : List Value) (fr : Nat × Nat), w.heap[B]? = some (.cells (cs ++ pad).toArray t fr) ∧ (fr.2 ≤ fr.1 ∨ cs.length ≤ fr.1)
theorem rowP.lt {w : World} {B : Nat} {t : TypeId} {cs : List Value} (h : rowP w B t cs) : B < w.heap.size := by
  obtain ⟨_, _, h, _⟩ := h
  exact (Array.getElem?_eq_some_iff.1 h).1
theorem rowP.cell {w : World} {B : Nat} {t : TypeId} {cs : List Value} (h : rowP w B t cs) (i : Nat) (v : Value) (hv : cs[i]? = some v) : w.cell? ⟨B, i, none⟩ = some v := by
  obtain ⟨pad, fr, h, _⟩ := h
  rw [cell_of_row _ _ _ _ _ _ h]
  have hi : i < cs.length := (List.getElem?_eq_some_iff.1 hv).1
  simp only [List.getElem?_toArray, List.getElem?_append_left hi, hv]
theorem rowP.free {w : World} {B : Nat} {t : TypeId} {cs : List Value} (h : rowP w B t cs) (i : Nat) (hi : i < cs.length) : w.frozen? ⟨B, i, none⟩ = false := by
  obtain ⟨pad, ⟨lo, hi'⟩, h, hf⟩ := h
  unfold World.frozen?
  simp only [h]
  simp only at hf
  simp
  omega
theorem rowP.same {w w' : World} {B : Nat} {t : TypeId} {cs : List Value} (h : rowP w B t cs) (he : w'.heap[B]? = w.heap[B]?) : rowP w' B t cs := by
  obtain ⟨pad, fr, h, hf⟩ := h
  exact ⟨pad, fr, he.trans h, hf⟩
theorem rowP.below {w w' : World} {B n : Nat} {t : TypeId} {cs : List Value} (h : rowP w B t cs) (hb : Below n w w') (hn : B < n) : rowP w' B t cs := h.same (hb.block B hn)
theorem rowP.new (w : World) (t : TypeId) (cs : Array Value) : rowP (w.alloc (.cells cs t)) w.heap.size t cs.toList := ⟨[], (0, 0), by simpa using heap_alloc_new w (.cells cs t), .inl (Nat.le_refl _)⟩
theorem rowP.set {w : World} {B : Nat} {t : TypeId} {cs : List Value} (h : rowP w B t cs) (i : Nat) (v : Value) (hi : i < cs.length) : rowP (w.setCell ⟨B, i, none⟩ v) B t (cs.set i v) := by
  obtain ⟨pad, fr, h, hf⟩ := h
  refine ⟨pad, fr, ?_, by rw [List.length_set]; exact hf⟩
  have hlt := (Array.getElem?_eq_some_iff.1 h).1
  unfold World.setCell
  simp only [Array.getElem?_modify, if_pos, h, Option.map_some]
  simp [List.set_append_left _ _ hi]
theorem rowP.setOther {w : World} {B : Nat} {t : TypeId} {cs : List Value} (h : rowP w B t cs) (p : Addr) (v : Value) (hp : B ≠ p.block) : rowP (w.setCell p v) B t cs := h.same (Below.heap_setCell w p v B hp)
theorem rowP.drew {w : World} {B : Nat} {t : TypeId} {cs : List Value} (h : rowP w B t cs) : rowP w.drew B t cs := h

/-- Nothing that was there is another one but what lies between two numbers. -/
structure Out (lo hi : Nat) (w w' : World) : Prop where
  os : w'.os = w.os
  tape : w'.tape = w.tape
  output : w'.output = w.output
  size : w.heap.size ≤ w'.heap.size
  block : ∀ k, k < w.heap.size → (k < lo ∨ hi ≤ k) → w'.heap[k]? = w.heap[k]?
theorem Out.refl (lo hi : Nat) (w : World) : Out lo hi w w := ⟨rfl, rfl, rfl, Nat.le_refl _, fun _ _ _ => rfl⟩
theorem Out.trans {lo hi : Nat} {a b c : World} (h : Out lo hi a b) (k : Out lo hi b c) : Out lo hi a c :=
  ⟨k.os.trans h.os, k.tape.trans h.tape, k.output.trans h.output, Nat.le_trans h.size k.size, fun i hi ho => (k.block i (Nat.lt_of_lt_of_le hi h.size) ho).trans (h.block i hi ho)⟩
theorem Out.of {lo hi : Nat} {w w' : World} (h : Below w.heap.size w w') : Out lo hi w w' := ⟨h.os, h.tape, h.output, h.size, fun k hk _ => h.block k hk⟩
theorem Out.set {lo hi : Nat} {a w : World} (h : Out lo hi a w) (p : Addr) (v : Value) (h1 : lo ≤ p.block) (h2 : p.block < hi) : Out lo hi a (w.setCell p v) :=
  ⟨h.os, h.tape, h.output, by simpa using h.size, fun k hk ho => (Below.heap_setCell w p v k (by omega)).trans (h.block k hk ho)⟩
theorem Out.drew {lo hi : Nat} {a w : World} (h : Out lo hi a w) : Out lo hi a w.drew := ⟨h.os, h.tape, h.output, h.size, h.block⟩
theorem Out.below {lo hi : Nat} {w0 a w : World} (h : Out lo hi a w) (hb : Below w0.heap.size w0 a) (hlo : w0.heap.size ≤ lo) : Below w0.heap.size w0 w :=
  ⟨h.os.trans hb.os, h.tape.trans hb.tape, h.output.trans hb.output, Nat.le_trans hb.size h.size, fun k hk => (h.block k (Nat.lt_of_lt_of_le hk hb.size) (.inl (Nat.lt_of_lt_of_le hk hlo))).trans (hb.block k hk)⟩
theorem rowP.out {lo hi : Nat} {w w' : World} {B : Nat} {t : TypeId} {cs : List Value} (h : rowP w B t cs) (ho : Out lo hi w w') (hB : B < lo ∨ hi ≤ B) : rowP w' B t cs := h.same (ho.block B h.lt hB)
end Go.Proofs.Ytngkmlchblgmeaa

namespace Tri
/-- What a device holds. -/
structure FS where
  k : Int
  m : Nat
  lf : Int
  b : List Nat
  lk : List Bool
  wr : List Int
  dn : Bool
  ops : Int
/-- Where it lies. -/
structure DI where
  lo : Nat
  hi : Nat
  D : Nat
  B : Nat
  L : Nat
  W : Nat
  cb : Nat
  cl : Nat
  cw : Nat
def DI.ok (i : DI) : Prop := i.lo ≤ i.D ∧ i.lo ≤ i.B ∧ i.lo ≤ i.L ∧ i.lo ≤ i.W ∧ i.D < i.hi ∧ i.B < i.hi ∧ i.L < i.hi ∧ i.W < i.hi ∧ i.D ≠ i.B ∧ i.D ≠ i.L ∧ i.D ≠ i.W ∧ i.B ≠ i.L ∧ i.B ≠ i.W ∧ i.L ≠ i.W
def FS.ok (s : FS) (n : Nat) : Prop := s.b.length = 64 * n ∧ s.lk.length = n ∧ s.wr.length = n ∧ n ≤ 512 ∧ s.m < 256 ∧ (∀ y ∈ s.b, y < 256) ∧ (-1 ≤ s.lf ∧ s.lf < 9223372036854775808)
end Tri
namespace Go.Proofs.Ytngkmlchblgmeaa
open Go.RowKit Tri

def devC (i : DI) (n : Nat) (s : FS) : List Value :=
  [.int .i64 s.k, .int .u8 (s.m : Nat), .int .i64 s.lf, .slice (some ⟨i.B, 0, none⟩) (64 * n) i.cb, .slice (some ⟨i.L, 0, none⟩) n i.cl, .slice (some ⟨i.W, 0, none⟩) n i.cw, .bool s.dn, .int .i64 s.ops]
structure DevP (w : World) (i : DI) (n : Nat) (s : FS) : Prop where
  dev : rowP w i.D 116 (devC i n s)
  rb : rowP w i.B 5 (s.b.map fun x => Value.int .u8 (x : Nat))
  rl : rowP w i.L 4 (s.lk.map Value.bool)
  rw : rowP w i.W 3 (s.wr.map fun x => Value.int .i64 x)
  ok : i.ok
  hi : i.hi ≤ w.heap.size
  fs : s.ok n
  cb : 64 * n ≤ i.cb
  cl : n ≤ i.cl
  cw : n ≤ i.cw
theorem DevP.out {w w' : World} {i : DI} {n : Nat} {s : FS} {lo hi : Nat} (h : DevP w i n s) (ho : Out lo hi w w') (hx : hi ≤ i.lo ∨ i.hi ≤ lo) : DevP w' i n s := by
  obtain ⟨h1, h2, h3, h4, h5, h6, h7, h8, h9, h10⟩ := h
  have h5' := h5
  unfold DI.ok at h5'
  exact ⟨h1.out ho (by omega), h2.out ho (by omega), h3.out ho (by omega), h4.out ho (by omega), h5, Nat.le_trans h6 ho.size, h7, h8, h9, h10⟩
theorem DevP.below {w w' : World} {i : DI} {n : Nat} {s : FS} (h : DevP w i n s) (hb : Below w.heap.size w w') : DevP w' i n s :=
  h.out (Out.of (lo := 0) (hi := 0) hb) (.inl (Nat.zero_le _))
theorem DevP.drew {w : World} {i : DI} {n : Nat} {s : FS} (h : DevP w i n s) : DevP w.drew i n s := h.below (Below.refl _ _).drew
section
variable {w : World} {i : DI} {n : Nat} {s : FS}
theorem DevP.c0 (h : DevP w i n s) : w.cell? ⟨i.D, 0, none⟩ = some (.int .i64 s.k) := h.dev.cell 0 _ rfl
theorem DevP.c1 (h : DevP w i n s) : w.cell? ⟨i.D, 1, none⟩ = some (.int .u8 (s.m : Nat)) := h.dev.cell 1 _ rfl
theorem DevP.c2 (h : DevP w i n s) : w.cell? ⟨i.D, 2, none⟩ = some (.int .i64 s.lf) := h.dev.cell 2 _ rfl
theorem DevP.c3 (h : DevP w i n s) : w.cell? ⟨i.D, 3, none⟩ = some (.slice (some ⟨i.B, 0, none⟩) (64 * n) i.cb) := h.dev.cell 3 _ rfl
theorem DevP.c4 (h : DevP w i n s) : w.cell? ⟨i.D, 4, none⟩ = some (.slice (some ⟨i.L, 0, none⟩) n i.cl) := h.dev.cell 4 _ rfl
theorem DevP.c5 (h : DevP w i n s) : w.cell? ⟨i.D, 5, none⟩ = some (.slice (some ⟨i.W, 0, none⟩) n i.cw) := h.dev.cell 5 _ rfl
theorem DevP.c6 (h : DevP w i n s) : w.cell? ⟨i.D, 6, none⟩ = some (.bool s.dn) := h.dev.cell 6 _ rfl
theorem DevP.c7 (h : DevP w i n s) : w.cell? ⟨i.D, 7, none⟩ = some (.int .i64 s.ops) := h.dev.cell 7 _ rfl
theorem DevP.free (h : DevP w i n s) (j : Nat) (hj : j < 8) : w.frozen? ⟨i.D, j, none⟩ = false := h.dev.free j hj
end

def toldE (s : FS) : Nat := if s.dn then 5 else 0
set_option maxHeartbeats 400000 in
theorem dev_told (i : DI) (n : Nat) (s : FS) (w : World) (h : DevP w i n s) :
    Calls Try.prog 108 #[.pointer (some ⟨i.D, 0, none⟩)] w fun e w' => e = .returned (.int .i64 (toldE s : Nat)) ∧ w = w' := by
  have c6 := h.c6
  unfold toldE
  obtain ⟨k, m, lf, b, lk, wr, dn, ops⟩ := s
  obtain ⟨lo, hi, D, B, L, W, cb, cl, cw⟩ := i
  simp only at *
  clear h
  cases dn <;>
  · (go_enter Try.func108, Try.ntmps108; try simp only [List.append])
    go_wp2_with ((with_reducible refine wpList_unguard ?_ ?_); (focus rfl))
    go_ret
    exact ⟨rfl, rfl⟩
def wrongE (n : Nat) (dn : Bool) (at_ k : Int) : Nat := if dn then 5 else if 0 ≤ at_ ∧ 0 ≤ k ∧ at_ + k ≤ 64 * n then 0 else 2
set_option maxHeartbeats 1000000 in
theorem dev_wrong (i : DI) (n : Nat) (s : FS) (w : World) (at_ k : Int) (h : DevP w i n s) (hk : -9223372036854775808 ≤ k ∧ k ≤ 9223372036854775807) (ha : -9223372036854775808 ≤ at_ ∧ at_ ≤ 9223372036854775807) :
    Calls Try.prog 106 #[.pointer (some ⟨i.D, 0, none⟩), .int .i64 at_, .int .i64 k] w fun e w' => e = .returned (.int .i64 (wrongE n s.dn at_ k : Nat)) ∧ w = w' := by
  have c6 := h.c6
  have c3 := h.c3
  have hn : n ≤ 512 := h.fs.2.2.2.1
  obtain ⟨k', m, lf, b, lk, wr, dn, ops⟩ := s
  obtain ⟨lo, hi, D, B, L, W, cb, cl, cw⟩ := i
  simp only at *
  clear h
  cases dn with
  | true =>
    have he : wrongE n true at_ k = 5 := rfl
    rw [he]
    (go_enter Try.func106, Try.ntmps106; try simp only [List.append])
    go_wp2_with ((with_reducible refine wpList_unguard ?_ ?_); (focus rfl))
    go_ret
    exact ⟨rfl, rfl⟩
  | false =>
    obtain ⟨z1, e1⟩ : ∃ z, decide (at_ < 0) = z := ⟨_, rfl⟩
    obtain ⟨z2, e2⟩ : ∃ z, decide (k < 0) = z := ⟨_, rfl⟩
    obtain ⟨z3, e3⟩ : ∃ z, decide ((64 * n : Int) < at_) = z := ⟨_, rfl⟩
    obtain ⟨z4, e4⟩ : ∃ z, decide ((64 * n : Int) - at_ < k) = z := ⟨_, rfl⟩
    have hw : Hid (wrongE n false at_ k = if z1 || z2 || z3 || z4 then 2 else 0) := by
      show _ = _
      unfold wrongE
      rw [if_neg (by decide)]
      subst e1 e2 e3 e4
      by_cases h1 : at_ < 0 <;> by_cases h2 : k < 0 <;> by_cases h3 : (64 * n : Int) < at_ <;> by_cases h4 : (64 * n : Int) - at_ < k <;> simp [h1, h2, h3, h4] <;> omega
    generalize wrongE n false at_ k = E at *
    cases z1 <;> cases z2 <;> cases z3 <;> cases z4
    all_goals
      have hw' := hw.out
      simp only [Bool.or_true, Bool.true_or, Bool.or_false, Bool.false_or, Bool.or_self, if_true, if_false, reduceIte, Bool.false_eq_true] at hw'
      subst hw'
      try
        have hwr : wrap64 (64 * (n : Int) - at_) = 64 * n - at_ := by
          have e1' := e1
          have e3' := e3
          simp only [decide_eq_false_iff_not] at e1' e3'
          unfold wrap64
          omega
      (go_enter Try.func106, Try.ntmps106; try simp only [List.append])
      go_wp2_with ((with_reducible refine wpList_unguard ?_ ?_); (focus rfl))
      go_ret
      exact ⟨rfl, rfl⟩
end Go.Proofs.Ytngkmlchblgmeaa

namespace Tri
open Go Go.RowKit
def partS (s : FS) : FS := if s.lf = 0 then { s with ops := wrap64 (s.ops + 1), lf := -1, dn := true } else if s.lf > 0 then { s with ops := wrap64 (s.ops + 1), lf := s.lf - 1 } else { s with ops := wrap64 (s.ops + 1) }
def partN (s : FS) (k : Nat) : Int := if s.lf = 0 then s.k % (k + 1) else k
end Tri
namespace Go.Proofs.Ytngkmlchblgmeaa
open Go.RowKit Tri

theorem DevP.setD {w : World} {i : DI} {n : Nat} {s : FS} (h : DevP w i n s) (j : Nat) (v : Value) (s' : FS) (hj : j < 8) (hc : (devC i n s).set j v = devC i n s') (hb : s'.b = s.b) (hl : s'.lk = s.lk) (hw : s'.wr = s.wr)
    (hlf : -1 ≤ s'.lf ∧ s'.lf < 9223372036854775808) (hm : s'.m < 256) : DevP (w.setCell ⟨i.D, j, none⟩ v) i n s' := by
  obtain ⟨h1, h2, h3, h4, h5, h6, h7, h8, h9, h10⟩ := h
  have h5' := h5
  unfold DI.ok at h5'
  refine ⟨?_, ?_, ?_, ?_, h5, by simpa using h6, ?_, h8, h9, h10⟩
  · rw [← hc]; exact h1.set j v hj
  · rw [hb]; exact h2.setOther _ _ (by show i.B ≠ i.D; omega)
  · rw [hl]; exact h3.setOther _ _ (by show i.L ≠ i.D; omega)
  · rw [hw]; exact h4.setOther _ _ (by show i.W ≠ i.D; omega)
  · unfold FS.ok at h7 ⊢
    rw [hb, hl, hw]
    exact ⟨h7.1, h7.2.1, h7.2.2.1, h7.2.2.2.1, hm, h7.2.2.2.2.2.1, hlf⟩
theorem outD {i : DI} (h : i.ok) {a w : World} (ho : Out i.lo i.hi a w) (j : Nat) (v : Value) : Out i.lo i.hi a (w.setCell ⟨i.D, j, none⟩ v) := by
  unfold DI.ok at h
  exact ho.set _ _ (by show i.lo ≤ i.D; omega) (by show i.D < i.hi; omega)

theorem part_mod (x : Int) (k : Nat) : (Int.tmod x (k + 1) + k + 1) % (k + 1) = x % (k + 1) := by
  have h3 := Int.tmod_add_mul_tdiv x (k + 1)
  rw [Int.add_assoc, Int.add_emod_right]
  conv => rhs; rw [← h3]
  rw [Int.add_mul_emod_self_left]
set_option maxHeartbeats 2000000 in
theorem dev_part (i : DI) (n : Nat) (s : FS) (w : World) (k : Nat) (h : DevP w i n s) (hk : k ≤ 1000) :
    Calls Try.prog 107 #[.pointer (some ⟨i.D, 0, none⟩), .int .i64 k] w fun e w' =>
      e = .returned (.tuple #[.int .i64 (partN s k), .bool (decide (s.lf ≠ 0))]) ∧ DevP w' i n (partS s) ∧ Out i.lo i.hi w w' := by
  have c7 := h.c7
  have f7 := h.free 7 (by omega)
  have H1 := hid (h.setD 7 (.int .i64 (wrap64 (s.ops + 1))) { s with ops := wrap64 (s.ops + 1) } (by omega) rfl rfl rfl rfl h.fs.2.2.2.2.2.2 h.fs.2.2.2.2.1)
  have O1 := hid (outD h.ok (Out.refl _ _ w) 7 (.int .i64 (wrap64 (s.ops + 1))))
  obtain ⟨w1, hw1⟩ : ∃ u, w.setCell ⟨i.D, 7, none⟩ (.int .i64 (wrap64 (s.ops + 1))) = u := ⟨_, rfl⟩
  rw [hw1] at H1 O1
  have c2 := H1.out.c2
  have c0 := H1.out.c0
  have f2 := H1.out.free 2 (by omega)
  have f6 := H1.out.free 6 (by omega)
  simp only at c2 c0
  rcases Int.lt_trichotomy s.lf 0 with hl | hl | hl
  · have q1 : (s.lf != 0) = true := by simp; omega
    have q2 : decide ((0 : Int) < s.lf) = false := decide_eq_false (by omega)
    have hS : Hid (partS s = { s with ops := wrap64 (s.ops + 1) }) := by show _ = _; unfold partS; rw [if_neg (by omega), if_neg (by omega)]
    have hN : Hid (partN s k = k) := by show _ = _; unfold partN; rw [if_neg (by omega)]
    have hD : Hid (decide (s.lf ≠ 0) = true) := decide_eq_true (by omega)
    clear h hl
    (go_enter Try.func107, Try.ntmps107; try simp only [List.append])
    go_wp2_with ((with_reducible refine wpList_unguard ?_ ?_); (focus rfl))
    go_ret2
    rw [hS.out, hN.out, hD.out]
    exact ⟨rfl, H1.out, O1.out⟩
  · have hS : Hid (partS s = { s with ops := wrap64 (s.ops + 1), lf := -1, dn := true }) := by show _ = _; unfold partS; rw [if_pos hl]
    have hN : Hid (partN s k = s.k % (k + 1)) := by show _ = _; unfold partN; rw [if_pos hl]
    have hD : Hid (decide (s.lf ≠ 0) = false) := decide_eq_false (by omega)
    have hM := hid (part_mod s.k k)
    have H2 := hid (H1.out.setD 2 (.int .i64 (-1)) { s with ops := wrap64 (s.ops + 1), lf := -1 } (by omega) rfl rfl rfl rfl (by simp) h.fs.2.2.2.2.1)
    have O2 := hid (outD h.ok O1.out 2 (.int .i64 (-1)))
    obtain ⟨w2, hw2⟩ : ∃ u, w1.setCell ⟨i.D, 2, none⟩ (.int .i64 (-1)) = u := ⟨_, rfl⟩
    rw [hw2] at H2 O2
    have H3 := hid (H2.out.setD 6 (.bool true) { s with ops := wrap64 (s.ops + 1), lf := -1, dn := true } (by omega) rfl rfl rfl rfl (by simp) h.fs.2.2.2.2.1)
    have O3 := hid (outD h.ok O2.out 6 (.bool true))
    obtain ⟨w3, hw3⟩ : ∃ u, w2.setCell ⟨i.D, 6, none⟩ (.bool true) = u := ⟨_, rfl⟩
    rw [hw3] at H3 O3
    have f6' := H2.out.free 6 (by omega)
    have c6' := H2.out.c6
    simp only at c6'
    have c0' := H3.out.c0
    simp only at c0'
    clear h c0 f6 O1 O2 H1 H2
    rw [hl] at c2
    have b1 := Int.tmod_lt_of_pos s.k (b := (k + 1 : Int)) (by omega)
    have b2 := Int.tmod_lt_of_pos (-s.k) (b := (k + 1 : Int)) (by omega)
    rw [Int.neg_tmod] at b2
    (go_enter Try.func107, Try.ntmps107; try simp only [List.append])
    go_wp2_with ((with_reducible refine wpList_unguard ?_ ?_); (focus rfl))
    go_ret2
    rw [hS.out, hN.out, hD.out, ← hM.out]
    exact ⟨rfl, H3.out, O3.out⟩
  · have q1 : (s.lf != 0) = true := by simp; omega
    have q2 : decide ((0 : Int) < s.lf) = true := decide_eq_true (by omega)
    have hS : Hid (partS s = { s with ops := wrap64 (s.ops + 1), lf := s.lf - 1 }) := by show _ = _; unfold partS; rw [if_neg (by omega), if_pos hl]
    have hN : Hid (partN s k = k) := by show _ = _; unfold partN; rw [if_neg (by omega)]
    have hD : Hid (decide (s.lf ≠ 0) = true) := decide_eq_true (by omega)
    have H2 := hid (H1.out.setD 2 (.int .i64 (s.lf - 1)) { s with ops := wrap64 (s.ops + 1), lf := s.lf - 1 } (by omega) rfl rfl rfl rfl (by have := h.fs.2.2.2.2.2.2; show -1 ≤ s.lf - 1 ∧ s.lf - 1 < 9223372036854775808; omega) h.fs.2.2.2.2.1)
    have O2 := hid (outD h.ok O1.out 2 (.int .i64 (s.lf - 1)))
    obtain ⟨w2, hw2⟩ : ∃ u, w1.setCell ⟨i.D, 2, none⟩ (.int .i64 (s.lf - 1)) = u := ⟨_, rfl⟩
    rw [hw2] at H2 O2
    have hlw : wrap64 (s.lf - 1) = s.lf - 1 := by have := h.fs.2.2.2.2.2.2; unfold wrap64; omega
    clear h c0 f6 O1 H1
    (go_enter Try.func107, Try.ntmps107; try simp only [List.append])
    go_wp2_with ((with_reducible refine wpList_unguard ?_ ?_); (focus rfl))
    go_ret2
    rw [hS.out, hN.out, hD.out]
    exact ⟨rfl, H2.out, O2.out⟩
end Go.Proofs.Ytngkmlchblgmeaa

namespace Tri
open Go Go.RowKit
theorem mapIdx_len {α : Type} (f : Nat → α → α) (l : List α) : (l.mapIdx f).length = l.length := List.length_mapIdx
theorem getD_mapIdx (f : Nat → Nat → Nat) (l : List Nat) (j : Nat) (h : j < l.length) : (l.mapIdx f).getD j 0 = f j (l.getD j 0) := by
  rw [List.getD_eq_getElem?_getD, List.getElem?_mapIdx, List.getElem?_eq_getElem h, List.getD_eq_getElem?_getD, List.getElem?_eq_getElem h]
  rfl
/-- Bytes of which those from one place on are others, up to so many. -/
def fillB (f : Nat → Nat → Nat) (at_ k : Nat) (b : List Nat) : List Nat := b.mapIdx fun j x => if at_ ≤ j ∧ j < at_ + k then f (j - at_) x else x
theorem fillB_zero (f : Nat → Nat → Nat) (at_ : Nat) (b : List Nat) : fillB f at_ 0 b = b := by
  unfold fillB
  apply List.ext_getElem?
  intro j
  rw [List.getElem?_mapIdx]
  cases h : b[j]? with
  | none => rfl
  | some x =>
    have : ¬ (at_ ≤ j ∧ j < at_ + 0) := by omega
    simp only [Option.map_some, if_neg this]
theorem fillB_length (f : Nat → Nat → Nat) (at_ k : Nat) (b : List Nat) : (fillB f at_ k b).length = b.length := by unfold fillB; rw [List.length_mapIdx]
theorem fillB_step (f : Nat → Nat → Nat) (at_ k : Nat) (b : List Nat) (h : at_ + k < b.length) : (fillB f at_ k b).set (at_ + k) (f k (b.getD (at_ + k) 0)) = fillB f at_ (k + 1) b := by
  apply List.ext_getElem?
  intro j
  unfold fillB
  by_cases hj : j = at_ + k
  · subst hj
    rw [List.getElem?_set_self (by rw [List.length_mapIdx]; exact h), List.getElem?_mapIdx, List.getElem?_eq_getElem h]
    have : at_ ≤ at_ + k ∧ at_ + k < at_ + (k + 1) := by omega
    simp only [Option.map_some, if_pos this, List.getD_eq_getElem?_getD, List.getElem?_eq_getElem h, Option.getD_some, Nat.add_sub_cancel_left]
  · rw [List.getElem?_set_ne (by omega), List.getElem?_mapIdx, List.getElem?_mapIdx]
    cases b[j]? with
    | none => rfl
    | some x =>
      simp only [Option.map_some, Option.some.injEq]
      by_cases h1 : at_ ≤ j ∧ j < at_ + k
      · rw [if_pos h1, if_pos (by omega)]
      · rw [if_neg h1, if_neg (by omega)]
theorem fillB_at (f : Nat → Nat → Nat) (at_ k : Nat) (b : List Nat) (j : Nat) (h : j < b.length) : (fillB f at_ k b).getD j 0 = if at_ ≤ j ∧ j < at_ + k then f (j - at_) (b.getD j 0) else b.getD j 0 := by
  unfold fillB
  rw [getD_mapIdx _ _ _ h]
theorem fillB_lt {f : Nat → Nat → Nat} {at_ k : Nat} {b : List Nat} (hb : ∀ y ∈ b, y < 256) (hf : ∀ j x, x < 256 → f j x < 256) : ∀ y ∈ fillB f at_ k b, y < 256 := by
  intro y hy
  unfold fillB at hy
  rw [List.mem_mapIdx] at hy
  obtain ⟨i, hi, rfl⟩ := hy
  have h1 := hb _ (List.getElem_mem hi)
  split
  · exact hf _ _ h1
  · exact h1
/-- How many bytes of so many are done. -/
def FS.done (s : FS) (k : Nat) : Nat := if s.lf = 0 then (s.k % (k + 1)).toNat else k
theorem FS.done_le (s : FS) (k : Nat) : s.done k ≤ k := by
  unfold FS.done
  split
  · have := Int.emod_lt_of_pos s.k (b := (k + 1 : Int)) (by omega)
    omega
  · exact Nat.le_refl _
/-- What is written on some bytes: all of it, or, torn, a part, and one byte by the mask. -/
def FS.wroteB (s : FS) (f t : Nat → Nat → Nat) (at_ k : Nat) : List Nat :=
  if s.lf = 0 ∧ s.done k < k then (fillB f at_ (s.done k) s.b).set (at_ + s.done k) (t (s.done k) (s.b.getD (at_ + s.done k) 0)) else fillB f at_ (s.done k) s.b
theorem or_lt {a b : Nat} (ha : a < 256) (hb : b < 256) : a ||| b < 256 := Nat.or_lt_two_pow (n := 8) ha hb
theorem and_lt (a b : Nat) (ha : a < 256) : a &&& b < 256 := Nat.lt_of_le_of_lt Nat.and_le_left ha
theorem wroteB_length (s : FS) (f t : Nat → Nat → Nat) (at_ k : Nat) : (s.wroteB f t at_ k).length = s.b.length := by
  unfold FS.wroteB
  split
  · rw [List.length_set, fillB_length]
  · rw [fillB_length]
theorem wroteB_at (s : FS) (f t : Nat → Nat → Nat) (at_ k j : Nat) (h : j < s.b.length) : (s.wroteB f t at_ k).getD j 0 =
    if at_ ≤ j ∧ j < at_ + s.done k then f (j - at_) (s.b.getD j 0) else if s.lf = 0 ∧ j = at_ + s.done k ∧ s.done k < k then t (j - at_) (s.b.getD j 0) else s.b.getD j 0 := by
  unfold FS.wroteB
  by_cases hc : s.lf = 0 ∧ s.done k < k
  · rw [if_pos hc]
    by_cases hj : j = at_ + s.done k
    · subst hj
      rw [List.getD_eq_getElem?_getD, List.getElem?_set_self (by rw [fillB_length]; exact h), if_neg (by omega), if_pos ⟨hc.1, rfl, hc.2⟩, Nat.add_sub_cancel_left]
      rfl
    · rw [List.getD_eq_getElem?_getD, List.getElem?_set_ne (by omega), ← List.getD_eq_getElem?_getD, fillB_at _ _ _ _ _ h]
      split
      · rfl
      · rw [if_neg (by omega)]
  · rw [if_neg hc, fillB_at _ _ _ _ _ h]
    split
    · rfl
    · rw [if_neg (by omega)]
def FS.lkd (s : FS) (c : Int) : Bool := s.lk.getD c.toNat false
/-- What an erase answers; what it lets the device be. -/
def FS.eraseE (s : FS) (n : Nat) (c : Int) : Nat := if s.dn then 5 else if 0 ≤ c ∧ c < n then (if s.lkd c then 4 else if s.lf = 0 then 5 else 0) else 2
def FS.erase (s : FS) (n : Nat) (c : Int) : FS :=
  if s.dn = false ∧ (0 ≤ c ∧ c < n) ∧ s.lkd c = false then
    { partS s with b := s.wroteB (fun _ _ => 255) (fun _ x => x ||| s.m) (64 * c.toNat) 64, wr := s.wr.set c.toNat (wrap64 (s.wr.getD c.toNat 0 + 1)) }
  else s
/-- What a program answers; what it lets the device be. -/
def FS.progE (s : FS) (n : Nat) (at_ : Int) (pg : List Nat) : Nat :=
  if s.dn then 5 else if at_ % 16 ≠ 0 ∨ pg.length ≠ 16 then 3 else if 0 ≤ at_ ∧ at_ < 64 * n then (if s.lkd (at_ / 64) then 4 else if s.lf = 0 then 5 else 0) else 2
def FS.prog (s : FS) (n : Nat) (at_ : Int) (pg : List Nat) : FS :=
  if s.dn = false ∧ (at_ % 16 = 0 ∧ pg.length = 16) ∧ (0 ≤ at_ ∧ at_ < 64 * n) ∧ s.lkd (at_ / 64) = false then
    { partS s with b := s.wroteB (fun j x => x &&& pg.getD j 0) (fun j x => x &&& (pg.getD j 0 ||| s.m)) at_.toNat 16 }
  else s
/-- Reads. -/
def FS.read (s : FS) (n : Nat) (at_ k : Int) : FS := if s.dn = false ∧ 0 ≤ at_ ∧ 0 ≤ k ∧ at_ + k ≤ 64 * n then { s with ops := wrap64 (s.ops + 1) } else s
def FS.readB (s : FS) (n : Nat) (at_ k : Int) : List Nat := if s.dn = false ∧ 0 ≤ at_ ∧ 0 ≤ k ∧ at_ + k ≤ 64 * n then (s.b.drop at_.toNat).take k.toNat else []
def FS.lockE (n : Nat) (a b : Int) : Nat := if 0 ≤ a ∧ a ≤ b ∧ b ≤ n then 0 else 2
def FS.lock (s : FS) (n : Nat) (a b : Int) : FS := if 0 ≤ a ∧ a ≤ b ∧ b ≤ n then { s with lk := s.lk.mapIdx fun j x => if a.toNat ≤ j ∧ j < b.toNat then true else x } else s
def FS.rotE (n : Nat) (at_ : Int) (l : List Nat) : Nat := if 0 ≤ at_ ∧ at_ + l.length ≤ 64 * n then 0 else 2
def FS.rot (s : FS) (n : Nat) (at_ : Int) (l : List Nat) : FS := if 0 ≤ at_ ∧ at_ + l.length ≤ 64 * n then { s with b := fillB (fun j x => x ^^^ l.getD j 0) at_.toNat l.length s.b } else s
def FS.dumpB (s : FS) (n : Nat) (c : Int) : List Nat := if 0 ≤ c ∧ c < n then (s.b.drop (64 * c.toNat)).take 64 else []
end Tri
namespace Go.Proofs.Ytngkmlchblgmeaa
open Go.RowKit Tri

theorem DevP.setB {w : World} {i : DI} {n : Nat} {s : FS} (h : DevP w i n s) (j x : Nat) (hj : j < 64 * n) (hx : x < 256) : DevP (w.setCell ⟨i.B, j, none⟩ (.int .u8 (x : Nat))) i n { s with b := s.b.set j x } := by
  obtain ⟨h1, h2, h3, h4, h5, h6, h7, h8, h9, h10⟩ := h
  have h5' := h5
  unfold DI.ok at h5'
  refine ⟨?_, ?_, ?_, ?_, h5, by simpa using h6, ?_, h8, h9, h10⟩
  · exact h1.setOther _ _ (by show i.D ≠ i.B; omega)
  · have := h2.set j (.int .u8 (x : Nat)) (by rw [List.length_map, h7.1]; exact hj)
    show rowP _ _ _ ((s.b.set j x).map _)
    rw [List.map_set]
    exact this
  · exact h3.setOther _ _ (by show i.L ≠ i.B; omega)
  · exact h4.setOther _ _ (by show i.W ≠ i.B; omega)
  · unfold FS.ok at h7 ⊢
    refine ⟨by show (s.b.set j x).length = _; rw [List.length_set]; exact h7.1, h7.2.1, h7.2.2.1, h7.2.2.2.1, h7.2.2.2.2.1, ?_, h7.2.2.2.2.2.2⟩
    intro y hy
    rcases List.mem_or_eq_of_mem_set hy with h | h
    · exact h7.2.2.2.2.2.1 y h
    · omega
theorem DevP.setL {w : World} {i : DI} {n : Nat} {s : FS} (h : DevP w i n s) (j : Nat) (x : Bool) (hj : j < n) : DevP (w.setCell ⟨i.L, j, none⟩ (.bool x)) i n { s with lk := s.lk.set j x } := by
  obtain ⟨h1, h2, h3, h4, h5, h6, h7, h8, h9, h10⟩ := h
  have h5' := h5
  unfold DI.ok at h5'
  refine ⟨?_, ?_, ?_, ?_, h5, by simpa using h6, ?_, h8, h9, h10⟩
  · exact h1.setOther _ _ (by show i.D ≠ i.L; omega)
  · exact h2.setOther _ _ (by show i.B ≠ i.L; omega)
  · have := h3.set j (.bool x) (by rw [List.length_map, h7.2.1]; exact hj)
    show rowP _ _ _ ((s.lk.set j x).map _)
    rw [List.map_set]
    exact this
  · exact h4.setOther _ _ (by show i.W ≠ i.L; omega)
  · unfold FS.ok at h7 ⊢
    exact ⟨h7.1, by show (s.lk.set j x).length = _; rw [List.length_set]; exact h7.2.1, h7.2.2⟩
theorem DevP.setW {w : World} {i : DI} {n : Nat} {s : FS} (h : DevP w i n s) (j : Nat) (x : Int) (hj : j < n) : DevP (w.setCell ⟨i.W, j, none⟩ (.int .i64 x)) i n { s with wr := s.wr.set j x } := by
  obtain ⟨h1, h2, h3, h4, h5, h6, h7, h8, h9, h10⟩ := h
  have h5' := h5
  unfold DI.ok at h5'
  refine ⟨?_, ?_, ?_, ?_, h5, by simpa using h6, ?_, h8, h9, h10⟩
  · exact h1.setOther _ _ (by show i.D ≠ i.W; omega)
  · exact h2.setOther _ _ (by show i.B ≠ i.W; omega)
  · exact h3.setOther _ _ (by show i.L ≠ i.W; omega)
  · have := h4.set j (.int .i64 x) (by rw [List.length_map, h7.2.2.1]; exact hj)
    show rowP _ _ _ ((s.wr.set j x).map _)
    rw [List.map_set]
    exact this
  · unfold FS.ok at h7 ⊢
    exact ⟨h7.1, h7.2.1, by show (s.wr.set j x).length = _; rw [List.length_set]; exact h7.2.2.1, h7.2.2.2⟩
section
variable {w : World} {i : DI} {n : Nat} {s : FS}
theorem DevP.bAt (h : DevP w i n s) (j : Nat) (hj : j < 64 * n) : w.cell? ⟨i.B, j, none⟩ = some (.int .u8 (s.b.getD j 0 : Nat)) := by
  have hl : j < s.b.length := by rw [h.fs.1]; exact hj
  refine h.rb.cell j _ ?_
  rw [List.getElem?_map, List.getElem?_eq_getElem hl, List.getD_eq_getElem?_getD, List.getElem?_eq_getElem hl]
  rfl
theorem DevP.bFree (h : DevP w i n s) (j : Nat) (hj : j < 64 * n) : w.frozen? ⟨i.B, j, none⟩ = false := h.rb.free j (by rw [List.length_map, h.fs.1]; exact hj)
theorem DevP.lAt (h : DevP w i n s) (j : Nat) (hj : j < n) : w.cell? ⟨i.L, j, none⟩ = some (.bool (s.lk.getD j false)) := by
  have hl : j < s.lk.length := by rw [h.fs.2.1]; exact hj
  refine h.rl.cell j _ ?_
  rw [List.getElem?_map, List.getElem?_eq_getElem hl, List.getD_eq_getElem?_getD, List.getElem?_eq_getElem hl]
  rfl
theorem DevP.lFree (h : DevP w i n s) (j : Nat) (hj : j < n) : w.frozen? ⟨i.L, j, none⟩ = false := h.rl.free j (by rw [List.length_map, h.fs.2.1]; exact hj)
theorem DevP.wAt (h : DevP w i n s) (j : Nat) (hj : j < n) : w.cell? ⟨i.W, j, none⟩ = some (.int .i64 (s.wr.getD j 0)) := by
  have hl : j < s.wr.length := by rw [h.fs.2.2.1]; exact hj
  refine h.rw.cell j _ ?_
  rw [List.getElem?_map, List.getElem?_eq_getElem hl, List.getD_eq_getElem?_getD, List.getElem?_eq_getElem hl]
  rfl
theorem DevP.wFree (h : DevP w i n s) (j : Nat) (hj : j < n) : w.frozen? ⟨i.W, j, none⟩ = false := h.rw.free j (by rw [List.length_map, h.fs.2.2.1]; exact hj)
theorem DevP.bLt (h : DevP w i n s) (j : Nat) : s.b.getD j 0 < 256 := by
  rw [List.getD_eq_getElem?_getD]
  cases hj : s.b[j]? with
  | none => decide
  | some x => exact h.fs.2.2.2.2.2.1 x (List.mem_of_getElem? hj)
theorem outX {lo hi : Nat} {a w : World} (ho : Out lo hi a w) (p : Addr) (v : Value) (h1 : lo ≤ p.block) (h2 : p.block < hi) : Out lo hi a (w.setCell p v) := ho.set p v h1 h2
end
end Go.Proofs.Ytngkmlchblgmeaa

namespace Go.Proofs.Ytngkmlchblgmeaa
open Go.RowKit Tri

set_option maxHeartbeats 400000 in
theorem dev_Down (i : DI) (n : Nat) (s : FS) (w : World) (h : DevP w i n s) :
    Calls Try.prog 34 #[.pointer (some ⟨i.D, 0, none⟩)] w fun e w' => e = .returned (.bool s.dn) ∧ w = w' := by
  have c6 := h.c6
  clear h
  obtain ⟨dn, hd⟩ : ∃ d, s.dn = d := ⟨_, rfl⟩
  rw [hd] at c6 ⊢
  (go_enter Try.func34, Try.ntmps34; try simp only [List.append])
  go_wp2_with ((with_reducible refine wpList_unguard ?_ ?_); (focus rfl))
  go_ret
  exact ⟨rfl, rfl⟩
theorem dev_Down_nil (w : World) :
    Calls Try.prog 34 #[.pointer none] w fun e w' => e = .returned (.bool true) ∧ w = w' := by
  (go_enter Try.func34, Try.ntmps34; try simp only [List.append])
  go_wp2_with ((with_reducible refine wpList_unguard ?_ ?_); (focus rfl))
  go_ret
  exact ⟨rfl, rfl⟩
def powerS (s : FS) : FS := { s with dn := false, lf := -1 }
set_option maxHeartbeats 400000 in
theorem dev_PowerOn (i : DI) (n : Nat) (s : FS) (w : World) (h : DevP w i n s) :
    Calls Try.prog 35 #[.pointer (some ⟨i.D, 0, none⟩)] w fun e w' => e = .returned (.tuple #[]) ∧ DevP w' i n (powerS s) ∧ Out i.lo i.hi w w' := by
  have c6 := h.c6
  have f6 := h.free 6 (by omega)
  have H1 := hid (h.setD 6 (.bool false) { s with dn := false } (by omega) rfl rfl rfl rfl h.fs.2.2.2.2.2.2 h.fs.2.2.2.2.1)
  have O1 := hid (outD h.ok (Out.refl _ _ w) 6 (.bool false))
  obtain ⟨w1, hw1⟩ : ∃ u, w.setCell ⟨i.D, 6, none⟩ (.bool false) = u := ⟨_, rfl⟩
  rw [hw1] at H1 O1
  have c2 := H1.out.c2
  have f2 := H1.out.free 2 (by omega)
  simp only at c2
  have H2 := hid (H1.out.setD 2 (.int .i64 (-1)) { s with dn := false, lf := -1 } (by omega) rfl rfl rfl rfl (by simp) h.fs.2.2.2.2.1)
  have O2 := hid (outD h.ok O1.out 2 (.int .i64 (-1)))
  clear h
  (go_enter Try.func35, Try.ntmps35; try simp only [List.append])
  go_wp2_with ((with_reducible refine wpList_unguard ?_ ?_); (focus rfl))
  refine bodyPost_end (results_none rfl _ _ _) rfl ?_
  exact ⟨rfl, H2.out, O2.out⟩
/-- A fuse of n with a way to be torn. -/
def fuseS (s : FS) (k : Int) (m : Nat) (c : Int) : FS := { s with k := k, m := m, lf := max c (-1) }
set_option maxHeartbeats 400000 in
theorem dev_Fuse (i : DI) (n : Nat) (s : FS) (w : World) (k : Int) (m : Nat) (c : Int) (h : DevP w i n s) (hm : m < 256) (hc : c < 9223372036854775808) :
    Calls Try.prog 33 #[.pointer (some ⟨i.D, 0, none⟩), .int .i64 c, .agg #[.int .i64 k, .int .u8 (m : Nat)]] w fun e w' => e = .returned (.tuple #[]) ∧ DevP w' i n (fuseS s k m c) ∧ Out i.lo i.hi w w' := by
  have hb := (Below.refl w.heap.size w).alloc (Nat.le_refl _) (.cells #[.int .i64 k, .int .u8 (m : Nat)] 76)
  have H0 := hid (h.below hb)
  have O0 := hid (Out.of (lo := i.lo) (hi := i.hi) hb)
  clear hb
  obtain ⟨w1, hw1⟩ : ∃ u, w.alloc (.cells #[.int .i64 k, .int .u8 (m : Nat)] 76) = u := ⟨_, rfl⟩
  have t0 : (w.alloc (.cells #[.int .i64 k, .int .u8 (m : Nat)] 76)).cell? ⟨w.heap.size, 0, none⟩ = some (.int .i64 k) := by simp [go_sem]
  have t1 : (w.alloc (.cells #[.int .i64 k, .int .u8 (m : Nat)] 76)).cell? ⟨w.heap.size, 1, none⟩ = some (.int .u8 (m : Nat)) := by simp [go_sem]
  rw [hw1] at H0 O0 t0 t1
  have c0 := H0.out.c0
  have f0 := H0.out.free 0 (by omega)
  have H2 := hid (H0.out.setD 0 (.int .i64 k) { s with k := k } (by omega) rfl rfl rfl rfl h.fs.2.2.2.2.2.2 h.fs.2.2.2.2.1)
  have O2 := hid (outD h.ok O0.out 0 (.int .i64 k))
  obtain ⟨w2, hw2⟩ : ∃ u, w1.setCell ⟨i.D, 0, none⟩ (.int .i64 k) = u := ⟨_, rfl⟩
  rw [hw2] at H2 O2
  have c1 := H2.out.c1
  have f1 := H2.out.free 1 (by omega)
  simp only at c1
  have H3 := hid (H2.out.setD 1 (.int .u8 (m : Nat)) { s with k := k, m := m } (by omega) rfl rfl rfl rfl h.fs.2.2.2.2.2.2 hm)
  have O3 := hid (outD h.ok O2.out 1 (.int .u8 (m : Nat)))
  obtain ⟨w3, hw3⟩ : ∃ u, w2.setCell ⟨i.D, 1, none⟩ (.int .u8 (m : Nat)) = u := ⟨_, rfl⟩
  rw [hw3] at H3 O3
  have c2 := H3.out.c2
  have f2 := H3.out.free 2 (by omega)
  simp only at c2
  have H4 := hid (H3.out.setD 2 (.int .i64 (max c (-1))) { s with k := k, m := m, lf := max c (-1) } (by omega) rfl rfl rfl rfl (by show -1 ≤ max c (-1) ∧ max c (-1) < 9223372036854775808; omega) hm)
  have O4 := hid (outD h.ok O3.out 2 (.int .i64 (max c (-1))))
  unfold fuseS
  clear h H0 O0 H2 O2 H3 O3
  rcases Int.lt_or_le c (-1) with hx | hx
  · have hmx : max c (-1) = -1 := by omega
    rw [hmx] at H4 O4 ⊢
    clear hmx
    (go_enter Try.func33, Try.ntmps33; try simp only [List.append])
    go_wp2_with ((with_reducible refine wpList_unguard ?_ ?_); (focus rfl))
    all_goals first
      | omega
      | (refine bodyPost_end (results_none rfl _ _ _) rfl ?_
         exact ⟨rfl, H4.out, O4.out⟩)
  · have hmx : max c (-1) = c := by omega
    rw [hmx] at H4 O4 ⊢
    clear hmx
    (go_enter Try.func33, Try.ntmps33; try simp only [List.append])
    go_wp2_with ((with_reducible refine wpList_unguard ?_ ?_); (focus rfl))
    all_goals first
      | (exfalso; omega)
      | (refine bodyPost_end (results_none rfl _ _ _) rfl ?_
         exact ⟨rfl, H4.out, O4.out⟩)
end Go.Proofs.Ytngkmlchblgmeaa

namespace Go.Proofs.Ytngkmlchblgmeaa
open Go.RowKit Tri

set_option maxHeartbeats 400000 in
theorem dev_Sectors (i : DI) (n : Nat) (s : FS) (w : World) (h : DevP w i n s) :
    Calls Try.prog 58 #[.pointer (some ⟨i.D, 0, none⟩)] w fun e w' => e = .returned (.int .i64 n) ∧ w = w' := by
  have c4 := h.c4
  clear h
  (go_enter Try.func58, Try.ntmps58; try simp only [List.append])
  go_wp2_with ((with_reducible refine wpList_unguard ?_ ?_); (focus rfl))
  go_ret
  exact ⟨rfl, rfl⟩
theorem dev_Sectors_nil (w : World) :
    Calls Try.prog 58 #[.pointer none] w fun e w' => e = .returned (.int .i64 0) ∧ w = w' := by
  (go_enter Try.func58, Try.ntmps58; try simp only [List.append])
  go_wp2_with ((with_reducible refine wpList_unguard ?_ ?_); (focus rfl))
  go_ret
  exact ⟨rfl, rfl⟩
theorem wrongE_zero {n : Nat} {dn : Bool} {at_ k : Int} (h : wrongE n dn at_ k = 0) : dn = false ∧ 0 ≤ at_ ∧ 0 ≤ k ∧ at_ + k ≤ 64 * n := by
  unfold wrongE at h
  split at h
  · omega
  · rename_i hd
    split at h
    · rename_i h1; exact ⟨by simpa using hd, h1⟩
    · omega
theorem wrongE_of {n : Nat} {dn : Bool} {at_ k : Int} (h : dn = false ∧ 0 ≤ at_ ∧ 0 ≤ k ∧ at_ + k ≤ 64 * n) : wrongE n dn at_ k = 0 := by
  unfold wrongE
  rw [h.1, if_neg (by decide), if_pos h.2]
theorem wrongE_le (n : Nat) (dn : Bool) (at_ k : Int) : wrongE n dn at_ k = 0 ∨ wrongE n dn at_ k = 2 ∨ wrongE n dn at_ k = 5 := by
  unfold wrongE
  repeat (first | omega | split)
theorem dev_slice {w : World} {i : DI} {n : Nat} {s : FS} (h : DevP w i n s) (a k : Nat) (hk : a + k ≤ 64 * n) : cellsB w (some ⟨i.B, a, none⟩) ((s.b.drop a).take k) := by
  intro j hj
  rw [List.length_take] at hj
  refine ⟨i.B, a, rfl, ?_⟩
  rw [h.bAt (a + j) (by omega), List.getD_eq_getElem?_getD, List.getD_eq_getElem?_getD, List.getElem?_take, if_pos (by omega), List.getElem?_drop]
set_option maxHeartbeats 2000000 in
set_option maxRecDepth 100000 in
theorem dev_Read (i : DI) (n : Nat) (s : FS) (w : World) (at_ k : Int) (h : DevP w i n s) (hk : -9223372036854775808 ≤ k ∧ k ≤ 9223372036854775807) (ha : -9223372036854775808 ≤ at_ ∧ at_ ≤ 9223372036854775807) :
    Calls Try.prog 97 #[.pointer (some ⟨i.D, 0, none⟩), .int .i64 at_, .int .i64 k] w fun e w' =>
      e = .returned (.tuple #[.string (ofB (s.readB n at_ k)), .int .i64 (wrongE n s.dn at_ k : Nat)]) ∧ DevP w' i n (s.read n at_ k) ∧ Out i.lo i.hi w w' := by
  have H := hid h
  have hW := hid (dev_wrong i n s w at_ k h hk ha)
  by_cases hc : s.dn = false ∧ 0 ≤ at_ ∧ 0 ≤ k ∧ at_ + k ≤ 64 * n
  · have hE := wrongE_of hc
    rw [hE] at hW ⊢
    have c7 := h.c7
    have f7 := h.free 7 (by omega)
    have hS : Hid (s.read n at_ k = { s with ops := wrap64 (s.ops + 1) }) := by show _ = _; unfold FS.read; rw [if_pos hc]
    have hB : Hid (s.readB n at_ k = (s.b.drop at_.toNat).take k.toNat) := by show _ = _; unfold FS.readB; rw [if_pos hc]
    have H1 := hid (h.setD 7 (.int .i64 (wrap64 (s.ops + 1))) { s with ops := wrap64 (s.ops + 1) } (by omega) rfl rfl rfl rfl h.fs.2.2.2.2.2.2 h.fs.2.2.2.2.1)
    have O1 := hid (outD h.ok (Out.refl _ _ w) 7 (.int .i64 (wrap64 (s.ops + 1))))
    obtain ⟨w1, hw1⟩ : ∃ u, w.setCell ⟨i.D, 7, none⟩ (.int .i64 (wrap64 (s.ops + 1))) = u := ⟨_, rfl⟩
    rw [hw1] at H1 O1
    have c3 := H1.out.c3
    have hn : n ≤ 512 := h.fs.2.2.2.1
    have hcb := h.cb
    obtain ⟨_, ha0, hk0, hle⟩ := hc
    obtain ⟨a, rfl⟩ : ∃ a : Nat, at_ = a := ⟨at_.toNat, by omega⟩
    obtain ⟨m, rfl⟩ : ∃ m : Nat, k = m := ⟨k.toNat, by omega⟩
    simp only [Int.toNat_natCast] at hB
    have hlen : ((s.b.drop a).take m).length = m := by rw [List.length_take, List.length_drop, h.fs.1]; omega
    have hcs := fun c => conv_str (dev_slice H1.out a m (by omega)) m c (by show m = ((s.b.drop a).take m).length; rw [hlen])
    simp only at hcs
    have hcs0 : i.cb = a → (convert 111 9 (.slice (some ⟨i.B, 0, none⟩) m 0)).run Try.prog w1 = .ok (.string (ofB ((s.b.drop a).take m))) w1 := by
      intro hz
      obtain rfl : m = 0 := by omega
      exact conv_str (l := []) (cellsB.nil _ _) 0 0 rfl
    clear h hE
    by_cases hz : i.cb = a
    · have hcs0' := hcs0 hz
      clear hcs0
      (go_enter Try.func97, Try.ntmps97; try simp only [List.append])
      go_wp2_with ((with_reducible refine wpList_unguard ?_ ?_); (focus rfl))
      refine Calls.mono hW.out ?_; rintro e w2 ⟨rfl, rfl⟩
      go_wp2_with ((with_reducible refine wpList_unguard ?_ ?_); (focus rfl))
      go_ret2
      rw [hS.out, hB.out]
      exact ⟨rfl, H1.out, O1.out⟩
    · clear hcs0
      (go_enter Try.func97, Try.ntmps97; try simp only [List.append])
      go_wp2_with ((with_reducible refine wpList_unguard ?_ ?_); (focus rfl))
      refine Calls.mono hW.out ?_; rintro e w2 ⟨rfl, rfl⟩
      go_wp2_with ((with_reducible refine wpList_unguard ?_ ?_); (focus rfl))
      go_ret2
      rw [hS.out, hB.out]
      exact ⟨rfl, H1.out, O1.out⟩
  · have hS : Hid (s.read n at_ k = s) := by show _ = _; unfold FS.read; rw [if_neg hc]
    have hB : Hid (s.readB n at_ k = []) := by show _ = _; unfold FS.readB; rw [if_neg hc]
    have hE : wrongE n s.dn at_ k ≠ 0 := fun h0 => hc (wrongE_zero h0)
    have hE2 : ((wrongE n s.dn at_ k : Nat) : Int) ≠ 0 := by omega
    generalize wrongE n s.dn at_ k = E at *
    have q1 : ((E : Int) != 0) = true := by simpa using hE
    clear h hc
    (go_enter Try.func97, Try.ntmps97; try simp only [List.append])
    go_wp2_with ((with_reducible refine wpList_unguard ?_ ?_); (focus rfl))
    refine Calls.mono hW.out ?_; rintro e w2 ⟨rfl, rfl⟩
    go_wp2_with ((with_reducible refine wpList_unguard ?_ ?_); (focus rfl))
    go_ret2
    rw [hS.out, hB.out]
    exact ⟨rfl, H.out, Out.refl _ _ _⟩
def FS.lockedB (s : FS) (n : Nat) (c : Int) : Bool := decide (0 ≤ c ∧ c < n) && s.lkd c
set_option maxHeartbeats 2000000 in
set_option maxRecDepth 100000 in
theorem dev_Dump (i : DI) (n : Nat) (s : FS) (w : World) (c : Int) (h : DevP w i n s) :
    Calls Try.prog 59 #[.pointer (some ⟨i.D, 0, none⟩), .int .i64 c] w fun e w' => e = .returned (.string (ofB (s.dumpB n c))) ∧ w = w' := by
  have c4 := h.c4
  have c3 := h.c3
  have hcb := h.cb
  have hn : n ≤ 512 := h.fs.2.2.2.1
  rcases Int.lt_or_le c 0 with h0 | h0
  · have hR : Hid (s.dumpB n c = []) := by show _ = _; unfold FS.dumpB; rw [if_neg (by omega)]
    have q1 : decide (c < 0) = true := decide_eq_true (by omega)
    clear h
    (go_enter Try.func59, Try.ntmps59; try simp only [List.append])
    go_wp2_with ((with_reducible refine wpList_unguard ?_ ?_); (focus rfl))
    go_ret
    rw [hR.out]
    exact ⟨rfl, rfl⟩
  · have q1 : decide (c < 0) = false := decide_eq_false (by omega)
    rcases Int.lt_or_le c n with h1 | h1
    · obtain ⟨j, rfl⟩ : ∃ j : Nat, c = j := ⟨c.toNat, by omega⟩
      have hj : j < n := by omega
      have hR : Hid (s.dumpB n j = (s.b.drop (64 * j)).take 64) := by show _ = _; unfold FS.dumpB; rw [if_pos (by omega), Int.toNat_natCast]
      have q2 : decide ((n : Int) ≤ j) = false := decide_eq_false (by omega)
      have hlen : ((s.b.drop (64 * j)).take 64).length = 64 := by rw [List.length_take, List.length_drop, h.fs.1]; omega
      have hcs := fun c => conv_str (dev_slice h (64 * j) 64 (by omega)) 64 c (by rw [hlen])
      rw [show 64 * j = j * 64 from by omega] at hcs
      have hcs2 := hcs (i.cb - j * 64)
      rw [show (.slice (some ⟨i.B, j * 64, none⟩) 64 (i.cb - j * 64) : Value) = .slice (some ⟨i.B, j * 64, none⟩) ((j + 1) * 64 - j * 64) (i.cb - j * 64) from by congr 1; omega] at hcs2
      clear hcs
      have hz : ¬ (i.cb = j * 64) := by omega
      clear h
      (go_enter Try.func59, Try.ntmps59; try simp only [List.append])
      go_wp2_with ((with_reducible refine wpList_unguard ?_ ?_); (focus rfl))
      go_ret
      rw [hR.out, show 64 * j = j * 64 from by omega]
      exact ⟨rfl, rfl⟩
    · have hR : Hid (s.dumpB n c = []) := by show _ = _; unfold FS.dumpB; rw [if_neg (by omega)]
      have q2 : decide ((n : Int) ≤ c) = true := decide_eq_true (by omega)
      clear h
      (go_enter Try.func59, Try.ntmps59; try simp only [List.append])
      go_wp2_with ((with_reducible refine wpList_unguard ?_ ?_); (focus rfl))
      go_ret
      rw [hR.out]
      exact ⟨rfl, rfl⟩
theorem dev_Dump_nil (w : World) (c : Int) :
    Calls Try.prog 59 #[.pointer none, .int .i64 c] w fun e w' => e = .returned (.string ByteArray.empty) ∧ w = w' := by
  (go_enter Try.func59, Try.ntmps59; try simp only [List.append])
  go_wp2_with ((with_reducible refine wpList_unguard ?_ ?_); (focus rfl))
  go_ret
  exact ⟨rfl, rfl⟩
end Go.Proofs.Ytngkmlchblgmeaa

namespace Tri
open Go Go.RowKit
/-- Where a half's copy begins. -/
def halfAt (h c : Nat) : Nat := 9 + (h * 2 + c) * 4
/-- Where a page of a half's copy lies. -/
def placeAt (h c p : Nat) : Nat := halfAt h c * 64 + p * 16
end Tri
namespace Go.Proofs.Ytngkmlchblgmeaa
open Go.RowKit Tri

set_option maxHeartbeats 4000000 in
set_option maxRecDepth 100000 in
theorem geo_Half (h c : Nat) (w : World) (hh : h < 2) (hc : c < 2) :
    Calls Try.prog 28 #[.agg #[.int .i64 1, .int .i64 2, .int .i64 1], .int .i64 h, .int .i64 c] w fun e w' => e = .returned (.tuple #[.int .i64 (halfAt h c : Nat), .int .i64 0]) ∧ Below w.heap.size w w' := by
  obtain ⟨w1, hw1, -, hG, hB⟩ := geo_box w 39 1 2 1
  have HB := hid hB
  have HG := hid hG
  have c0 := hG.c0
  have c1 := hG.c1
  have c2 := hG.c2
  clear hG hB
  have HR := hid (geo_Right 1 2 1 w1)
  rw [show geoOk 1 2 1 = true from by decide] at HR
  have HL := fun w => hid (geo_log 1 2 1 w (by unfold i64r; omega))
  rw [show 3 * slotI 1 2 1 = 9 from by decide] at HL
  have hwb : withinB [0, (h : Int), 1, 0, (c : Int), 1] = true := by simp only [withinB, Bool.and_true]; rw [decide_eq_true (by omega), decide_eq_true (by omega)]; rfl
  (go_enter Try.func28, Try.ntmps28; try simp only [List.append])
  go_wp2_with ((with_reducible refine wpList_unguard ?_ ?_); (focus rfl))
  refine Calls.mono HR.out ?_; rintro e w3 ⟨rfl, hb⟩
  have HG3 := hid (HG.out.below hb)
  have HB3 := hid (HB.out.trans (hb.mono HB.out.size))
  have hb2 := (Below.refl w3.heap.size w3).alloc (Nat.le_refl _) (.cells ([0, (h : Int), 1, 0, (c : Int), 1].map fun x => Value.int .i64 x).toArray 3)
  have hz := cellsZ_new w3 [0, (h : Int), 1, 0, (c : Int), 1]
  have HG4 := hid (HG3.out.below hb2)
  have HB4 := hid (HB3.out.trans (hb2.mono HB3.out.size))
  have hwi := geo_within (some ⟨w3.heap.size, 0, none⟩) 6 6 [0, (h : Int), 1, 0, (c : Int), 1] _ rfl (Nat.le_refl _) hz (by simp) (by simp)
  rw [hwb] at hwi
  clear hb HB c0 c1 c2 hb2 hz HB3 HG3
  go_wp2_with ((with_reducible refine wpList_unguard ?_ ?_); (focus rfl))
  refine Calls.mono hwi ?_; rintro e w5 ⟨rfl, hb⟩
  have HG5 := HG4.out.below hb
  have HB5 := hid (HB4.out.trans (hb.mono HB4.out.size))
  clear hb HB4 HG4 hwi
  have c0 := HG5.c0
  have c1 := HG5.c1
  have c2 := HG5.c2
  clear HG5
  go_wp2_with ((with_reducible refine wpList_unguard ?_ ?_); (focus rfl))
  refine Calls.mono (HL w5).out ?_; rintro e w6 ⟨rfl, hb⟩
  have HB6 := hid (HB5.out.trans (hb.mono HB5.out.size))
  clear hb HB5
  go_wp2_with ((with_reducible refine wpList_unguard ?_ ?_); (focus rfl))
  go_ret2
  refine ⟨?_, HB6.out⟩
  have e1 : ((halfAt h c : Nat) : Int) = 9 + (h * 2 + c) * 4 := by unfold halfAt; omega
  rw [e1]
  rfl
/-- The cells of a log: device, what its half holds (records, generation, pages, whether it holds, is clean), geometry, sums, which half. -/
def logC (D S at_ : Nat) (rs : Value) (gen used : Int) (holds clean : Bool) : Array Value := #[.pointer (some ⟨D, 0, none⟩), rs, .int .i64 gen, .int .i64 used, .bool holds, .bool clean, .int .i64 1, .int .i64 2, .int .i64 1, .pointer (some ⟨S, 0, none⟩), .int .i64 at_]
set_option maxHeartbeats 4000000 in
set_option maxRecDepth 100000 in
theorem log_place (L D S at_ : Nat) (rs : Value) (gen used : Int) (holds clean : Bool) (h c p : Nat) (w : World) (hL : Blk w L 102 (logC D S at_ rs gen used holds clean)) (hh : h < 2) (hc : c < 2) (hp : p < 16) :
    Calls Try.prog 80 #[.pointer (some ⟨L, 0, none⟩), .int .i64 h, .int .i64 c, .int .i64 p] w fun e w' => e = .returned (.int .i64 (placeAt h c p : Nat)) ∧ Below w.heap.size w w' := by
  have c6 := hL.cell 6 _ rfl
  have c7 := hL.cell 7 _ rfl
  have c8 := hL.cell 8 _ rfl
  have HH := hid (geo_Half h c w hh hc)
  clear hL
  have hhr : halfAt h c ≤ 25 := by unfold halfAt; omega
  (go_enter Try.func80, Try.ntmps80; try simp only [List.append])
  go_wp2_with ((with_reducible refine wpList_unguard ?_ ?_); (focus rfl))
  refine Calls.mono HH.out ?_; rintro e w1 ⟨rfl, hb⟩
  have HB1 := hid hb
  clear hb
  go_wp2_with ((with_reducible refine wpList_unguard ?_ ?_); (focus rfl))
  go_ret
  refine ⟨?_, HB1.out⟩
  have e1 : ((placeAt h c p : Nat) : Int) = (halfAt h c : Nat) * 64 + p * 16 := by unfold placeAt; omega
  rw [e1]
  rfl
end Go.Proofs.Ytngkmlchblgmeaa
