/-
  meta.Do in the program (for records of kinds up to 13).
-/
import Derived.Test.YtngkmlchblgmeaaMet4
import Derived.Test.YtngkmlchblgmeaaRecG
namespace Go.Proofs.Ytngkmlchblgmeaa
open Go.RowKit Tri
set_option linter.unusedSimpArgs false

theorem Blk.stM {w : World} {B : Nat} {t : TypeId} {m0 m1 : Mt} (h : Blk w B t (mtA m0)) (j : Nat) (x : Value) (e : (mtA m0).setIfInBounds j x = mtA m1) : Blk (w.setCell ⟨B, j, none⟩ x) B t (mtA m1) := by
  rw [← e]; exact h.set j x
theorem Blk.sets13 {w : World} {B : Nat} {t : TypeId} {m0 : Mt} (h : Blk w B t (mtA m0)) (m : Mt) : Blk (((((((((((((w.setCell ⟨B, 0, none⟩ (.int .i64 m.s0)).setCell ⟨B, 1, none⟩ (.int .i64 m.v0)).setCell ⟨B, 2, none⟩ (.int .i64 m.b0)).setCell ⟨B, 3, none⟩ (.int .i64 m.s1)).setCell ⟨B, 4, none⟩ (.int .i64 m.v1)).setCell ⟨B, 5, none⟩ (.int .i64 m.b1)).setCell ⟨B, 6, none⟩ (.int .i64 m.s2)).setCell ⟨B, 7, none⟩ (.int .i64 m.v2)).setCell ⟨B, 8, none⟩ (.int .i64 m.b2)).setCell ⟨B, 9, none⟩ (.int .i64 m.ac)).setCell ⟨B, 10, none⟩ (.int .i64 m.fl)).setCell ⟨B, 11, none⟩ (.int .i64 m.cu)).setCell ⟨B, 12, none⟩ (.int .i64 m.it)) B t (mtA m) := by
  have h0 := h.stM (m1 := { m0 with s0 := m.s0 }) 0 (.int .i64 m.s0) rfl
  have h1 := h0.stM (m1 := { m0 with s0 := m.s0, v0 := m.v0 }) 1 (.int .i64 m.v0) rfl
  have h2 := h1.stM (m1 := { m0 with s0 := m.s0, v0 := m.v0, b0 := m.b0 }) 2 (.int .i64 m.b0) rfl
  have h3 := h2.stM (m1 := { m0 with s0 := m.s0, v0 := m.v0, b0 := m.b0, s1 := m.s1 }) 3 (.int .i64 m.s1) rfl
  have h4 := h3.stM (m1 := { m0 with s0 := m.s0, v0 := m.v0, b0 := m.b0, s1 := m.s1, v1 := m.v1 }) 4 (.int .i64 m.v1) rfl
  have h5 := h4.stM (m1 := { m0 with s0 := m.s0, v0 := m.v0, b0 := m.b0, s1 := m.s1, v1 := m.v1, b1 := m.b1 }) 5 (.int .i64 m.b1) rfl
  have h6 := h5.stM (m1 := { m0 with s0 := m.s0, v0 := m.v0, b0 := m.b0, s1 := m.s1, v1 := m.v1, b1 := m.b1, s2 := m.s2 }) 6 (.int .i64 m.s2) rfl
  have h7 := h6.stM (m1 := { m0 with s0 := m.s0, v0 := m.v0, b0 := m.b0, s1 := m.s1, v1 := m.v1, b1 := m.b1, s2 := m.s2, v2 := m.v2 }) 7 (.int .i64 m.v2) rfl
  have h8 := h7.stM (m1 := { m0 with s0 := m.s0, v0 := m.v0, b0 := m.b0, s1 := m.s1, v1 := m.v1, b1 := m.b1, s2 := m.s2, v2 := m.v2, b2 := m.b2 }) 8 (.int .i64 m.b2) rfl
  have h9 := h8.stM (m1 := { m0 with s0 := m.s0, v0 := m.v0, b0 := m.b0, s1 := m.s1, v1 := m.v1, b1 := m.b1, s2 := m.s2, v2 := m.v2, b2 := m.b2, ac := m.ac }) 9 (.int .i64 m.ac) rfl
  have h10 := h9.stM (m1 := { m0 with s0 := m.s0, v0 := m.v0, b0 := m.b0, s1 := m.s1, v1 := m.v1, b1 := m.b1, s2 := m.s2, v2 := m.v2, b2 := m.b2, ac := m.ac, fl := m.fl }) 10 (.int .i64 m.fl) rfl
  have h11 := h10.stM (m1 := { m0 with s0 := m.s0, v0 := m.v0, b0 := m.b0, s1 := m.s1, v1 := m.v1, b1 := m.b1, s2 := m.s2, v2 := m.v2, b2 := m.b2, ac := m.ac, fl := m.fl, cu := m.cu }) 11 (.int .i64 m.cu) rfl
  have h12 := h11.stM (m1 := m) 12 (.int .i64 m.it) rfl
  exact h12
theorem below13 {w0 w : World} {B : Nat} (h : Below w0.heap.size w0 w) (hB : w0.heap.size ≤ B) (m : Mt) : Below w0.heap.size w0 (((((((((((((w.setCell ⟨B, 0, none⟩ (.int .i64 m.s0)).setCell ⟨B, 1, none⟩ (.int .i64 m.v0)).setCell ⟨B, 2, none⟩ (.int .i64 m.b0)).setCell ⟨B, 3, none⟩ (.int .i64 m.s1)).setCell ⟨B, 4, none⟩ (.int .i64 m.v1)).setCell ⟨B, 5, none⟩ (.int .i64 m.b1)).setCell ⟨B, 6, none⟩ (.int .i64 m.s2)).setCell ⟨B, 7, none⟩ (.int .i64 m.v2)).setCell ⟨B, 8, none⟩ (.int .i64 m.b2)).setCell ⟨B, 9, none⟩ (.int .i64 m.ac)).setCell ⟨B, 10, none⟩ (.int .i64 m.fl)).setCell ⟨B, 11, none⟩ (.int .i64 m.cu)).setCell ⟨B, 12, none⟩ (.int .i64 m.it)) := by
  have h0 := Below.setCell h (p := ⟨B, 0, none⟩) hB (.int .i64 m.s0)
  have h1 := Below.setCell h0 (p := ⟨B, 1, none⟩) hB (.int .i64 m.v0)
  have h2 := Below.setCell h1 (p := ⟨B, 2, none⟩) hB (.int .i64 m.b0)
  have h3 := Below.setCell h2 (p := ⟨B, 3, none⟩) hB (.int .i64 m.s1)
  have h4 := Below.setCell h3 (p := ⟨B, 4, none⟩) hB (.int .i64 m.v1)
  have h5 := Below.setCell h4 (p := ⟨B, 5, none⟩) hB (.int .i64 m.b1)
  have h6 := Below.setCell h5 (p := ⟨B, 6, none⟩) hB (.int .i64 m.s2)
  have h7 := Below.setCell h6 (p := ⟨B, 7, none⟩) hB (.int .i64 m.v2)
  have h8 := Below.setCell h7 (p := ⟨B, 8, none⟩) hB (.int .i64 m.b2)
  have h9 := Below.setCell h8 (p := ⟨B, 9, none⟩) hB (.int .i64 m.ac)
  have h10 := Below.setCell h9 (p := ⟨B, 10, none⟩) hB (.int .i64 m.fl)
  have h11 := Below.setCell h10 (p := ⟨B, 11, none⟩) hB (.int .i64 m.cu)
  have h12 := Below.setCell h11 (p := ⟨B, 12, none⟩) hB (.int .i64 m.it)
  exact h12
theorem Blk.m13 {w : World} {B : Nat} {t : TypeId} {m : Mt} (h : Blk w B t (mtA m)) :
    w.cell? ⟨B, 0, none⟩ = some (.int .i64 m.s0) ∧ w.cell? ⟨B, 1, none⟩ = some (.int .i64 m.v0) ∧ w.cell? ⟨B, 2, none⟩ = some (.int .i64 m.b0) ∧ w.cell? ⟨B, 3, none⟩ = some (.int .i64 m.s1) ∧ w.cell? ⟨B, 4, none⟩ = some (.int .i64 m.v1) ∧ w.cell? ⟨B, 5, none⟩ = some (.int .i64 m.b1) ∧ w.cell? ⟨B, 6, none⟩ = some (.int .i64 m.s2) ∧ w.cell? ⟨B, 7, none⟩ = some (.int .i64 m.v2) ∧ w.cell? ⟨B, 8, none⟩ = some (.int .i64 m.b2) ∧ w.cell? ⟨B, 9, none⟩ = some (.int .i64 m.ac) ∧ w.cell? ⟨B, 10, none⟩ = some (.int .i64 m.fl) ∧ w.cell? ⟨B, 11, none⟩ = some (.int .i64 m.cu) ∧ w.cell? ⟨B, 12, none⟩ = some (.int .i64 m.it) :=
  ⟨h.cell 0 _ rfl, h.cell 1 _ rfl, h.cell 2 _ rfl, h.cell 3 _ rfl, h.cell 4 _ rfl, h.cell 5 _ rfl, h.cell 6 _ rfl, h.cell 7 _ rfl, h.cell 8 _ rfl, h.cell 9 _ rfl, h.cell 10 _ rfl, h.cell 11 _ rfl, h.cell 12 _ rfl⟩
theorem othersK_any (k : Int) : ([8, 9, 10, 11].any fun y => decide (k = y)) = othersK k := by
  rw [any4]
  unfold othersK
  rw [decide_eq_decide]
  omega
theorem doR_arg {m : Mt} {k s n v : Int} (h : recOk k s n v = false ∨ (speaksK k = false ∧ othersK k = false) ∨ (speaksK k = true ∧ 3 ≤ s)) : m.doR k s n v = (m, 1) := by
  unfold Mt.doR; rw [if_pos h]
def doO (m : Mt) (o : Option Mt) : Mt × Int := match o with | none => (m, 10) | some m' => (m', 0)
theorem oth_speaks {k : Int} (h2 : othersK k = true) : speaksK k = false := by
  unfold othersK at h2
  rw [decide_eq_true_eq] at h2
  unfold speaksK
  rw [decide_eq_false_iff_not]
  omega
theorem doR_other {m : Mt} {k s n v : Int} (h1 : recOk k s n v = true) (h2 : othersK k = true) : m.doR k s n v = doO m (m.other k v) := by
  have h3 := oth_speaks h2
  unfold Mt.doR doO; rw [if_neg (by rw [h1, h2, h3]; simp), if_pos h2]
  cases m.other k v <;> rfl
theorem doR_slot {m : Mt} {k s n v : Int} (h1 : recOk k s n v = true) (h2 : othersK k = false) (h3 : speaksK k = true) (h4 : ¬ 3 ≤ s) : m.doR k s n v = doO m (m.slot k s v) := by
  unfold Mt.doR doO; rw [if_neg (by rw [h1, h2, h3]; simpa using h4), if_neg (by rw [h2]; simp)]
  cases m.slot k s v <;> rfl
/-- What lies beside a change is kept where the change alone is written. -/
def SameB (B : Nat) (w w' : World) : Prop := ∀ b, b ≤ B → w'.heap[b]? = w.heap[b]?
set_option maxHeartbeats 8000000 in
set_option maxRecDepth 100000 in
theorem meta_Do (m : Mt) (k i n v : Int) (w : World) (hk : k ≤ 13) :
    Calls Try.prog 41 #[.agg #[.int .i64 m.s0, .int .i64 m.v0, .int .i64 m.b0, .int .i64 m.s1, .int .i64 m.v1, .int .i64 m.b1, .int .i64 m.s2, .int .i64 m.v2, .int .i64 m.b2, .int .i64 m.ac, .int .i64 m.fl, .int .i64 m.cu, .int .i64 m.it], .agg #[.int .i64 k, .int .i64 i, .int .i64 n, .int .i64 v]] w
      fun e w' => e = .returned (.tuple #[.agg (mtA (m.doR k i n v).1), .int .i64 (m.doR k i n v).2]) ∧ Below w.heap.size w w' := by
  have b1 := (Below.refl w.heap.size w).alloc (Nat.le_refl _) (.cells #[.int .i64 m.s0, .int .i64 m.v0, .int .i64 m.b0, .int .i64 m.s1, .int .i64 m.v1, .int .i64 m.b1, .int .i64 m.s2, .int .i64 m.v2, .int .i64 m.b2, .int .i64 m.ac, .int .i64 m.fl, .int .i64 m.cu, .int .i64 m.it] 29)
  have hM : Blk _ _ _ (mtA m) := Blk.new w 29 #[.int .i64 m.s0, .int .i64 m.v0, .int .i64 m.b0, .int .i64 m.s1, .int .i64 m.v1, .int .i64 m.b1, .int .i64 m.s2, .int .i64 m.v2, .int .i64 m.b2, .int .i64 m.ac, .int .i64 m.fl, .int .i64 m.cu, .int .i64 m.it]
  have s1 : (w.alloc (.cells #[.int .i64 m.s0, .int .i64 m.v0, .int .i64 m.b0, .int .i64 m.s1, .int .i64 m.v1, .int .i64 m.b1, .int .i64 m.s2, .int .i64 m.v2, .int .i64 m.b2, .int .i64 m.ac, .int .i64 m.fl, .int .i64 m.cu, .int .i64 m.it] 29)).heap.size = w.heap.size + 1 := by simp
  obtain ⟨w1, hw1⟩ : ∃ u, w.alloc (.cells #[.int .i64 m.s0, .int .i64 m.v0, .int .i64 m.b0, .int .i64 m.s1, .int .i64 m.v1, .int .i64 m.b1, .int .i64 m.s2, .int .i64 m.v2, .int .i64 m.b2, .int .i64 m.ac, .int .i64 m.fl, .int .i64 m.cu, .int .i64 m.it] 29) = u := ⟨_, rfl⟩
  rw [hw1] at b1 hM s1
  have b2 := (Below.refl w1.heap.size w1).alloc (Nat.le_refl _) (.cells #[.int .i64 k, .int .i64 i, .int .i64 n, .int .i64 v] 37)
  have hR : R4 (w1.alloc (.cells #[.int .i64 k, .int .i64 i, .int .i64 n, .int .i64 v] 37)) w1.heap.size k i n v := heap_alloc_new w1 _
  have s2 : (w1.alloc (.cells #[.int .i64 k, .int .i64 i, .int .i64 n, .int .i64 v] 37)).heap.size = w1.heap.size + 1 := by simp
  have hM2 := hM.below b2
  obtain ⟨w2, hw2⟩ : ∃ u, w1.alloc (.cells #[.int .i64 k, .int .i64 i, .int .i64 n, .int .i64 v] 37) = u := ⟨_, rfl⟩
  rw [hw2] at b2 hR s2 hM2
  have b3 := (Below.refl w2.heap.size w2).alloc (Nat.le_refl _) (.cells #[.int .i64 0, .int .i64 0, .int .i64 0, .int .i64 0, .int .i64 0, .int .i64 0, .int .i64 0, .int .i64 0, .int .i64 0, .int .i64 0, .int .i64 0, .int .i64 0, .int .i64 0] 29)
  have hZ : Blk _ _ _ (mtA ⟨0, 0, 0, 0, 0, 0, 0, 0, 0, 0, 0, 0, 0⟩) := Blk.new w2 29 #[.int .i64 0, .int .i64 0, .int .i64 0, .int .i64 0, .int .i64 0, .int .i64 0, .int .i64 0, .int .i64 0, .int .i64 0, .int .i64 0, .int .i64 0, .int .i64 0, .int .i64 0]
  have s3 : (w2.alloc (.cells #[.int .i64 0, .int .i64 0, .int .i64 0, .int .i64 0, .int .i64 0, .int .i64 0, .int .i64 0, .int .i64 0, .int .i64 0, .int .i64 0, .int .i64 0, .int .i64 0, .int .i64 0] 29)).heap.size = w2.heap.size + 1 := by simp
  have hM3 := hM2.below b3
  have hR3 := hR.below b3
  obtain ⟨w3, hw3⟩ : ∃ u, w2.alloc (.cells #[.int .i64 0, .int .i64 0, .int .i64 0, .int .i64 0, .int .i64 0, .int .i64 0, .int .i64 0, .int .i64 0, .int .i64 0, .int .i64 0, .int .i64 0, .int .i64 0, .int .i64 0] 29) = u := ⟨_, rfl⟩
  rw [hw3] at b3 hZ s3 hM3 hR3
  have b4 := (Below.refl w3.heap.size w3).alloc (Nat.le_refl _) (.cells (chgA m k i n v) 126)
  have hC := Blk.new w3 126 (chgA m k i n v)
  have s4 : (w3.alloc (.cells (chgA m k i n v) 126)).heap.size = w3.heap.size + 1 := by simp
  have hM4 := hM3.below b4
  have hR4 := hR3.below b4
  have hZ4 := hZ.below b4
  obtain ⟨w4, hw4⟩ : ∃ u, w3.alloc (.cells (chgA m k i n v) 126) = u := ⟨_, rfl⟩
  rw [hw4] at b4 hC s4 hM4 hR4 hZ4
  have H4 : Hid (w.heap.size + 1 = w1.heap.size ∧ w1.heap.size + 1 = w2.heap.size ∧ w2.heap.size + 1 = w3.heap.size ∧ w3.heap.size + 1 = w4.heap.size) := ⟨s1.symm, s2.symm, s3.symm, s4.symm⟩
  have b5 := (Below.refl w4.heap.size w4).alloc (Nat.le_refl _) (.cells #[.int .i64 8, .int .i64 9, .int .i64 10, .int .i64 11] 3)
  have HL := hid (cellsZ.new w4 [8, 9, 10, 11] #[.int .i64 8, .int .i64 9, .int .i64 10, .int .i64 11] 3 rfl)
  have HM := hid (hM4.below b5)
  have HR := hid (hR4.below b5)
  have HZ : Hid (∃ m0, Blk _ w2.heap.size 29 (mtA m0)) := ⟨_, hZ4.below b5⟩
  have hB4 : Below w.heap.size w w4 := ((b1.trans (b2.mono (by omega))).trans (b3.mono (by omega))).trans (b4.mono (by omega))
  have hB5 : Below w.heap.size w _ := hB4.trans (b5.mono (by omega))
  have hC5 : Chg w3 _ w3.heap.size m k i n v := Chg.below ⟨hC, Nat.le_refl _, b4⟩ b5
  have HB := hid hB5
  have HC := hid hC5
  have HM3 := hid hM3
  have HZ3 : Hid (∃ m0, Blk w3 w2.heap.size 29 (mtA m0)) := ⟨_, hZ⟩
  have HB3 : Hid (Below w.heap.size w w3) := (b1.trans (b2.mono (by omega))).trans (b3.mono (by omega))
  have d0 := hR4.c0
  have HSP := fun w => hid (meta_speaks k w)
  have HRO := fun w => hid (rec_Right k i n v w)
  obtain ⟨q0, q1, q2, q3, q4, q5, q6, q7, q8, q9, qa, qb, qc⟩ := hM3.m13
  have c0 := hR3.c0
  have c1 := hR3.c1
  have c2 := hR3.c2
  have c3 := hR3.c3
  have g0 : (w4.alloc (.cells #[.int .i64 8, .int .i64 9, .int .i64 10, .int .i64 11] 3)).cell? ⟨w1.heap.size, 0, none⟩ = some (.int .i64 k) := HR.out.c0
  clear b1 b2 b3 b4 b5 hM hR hZ hM2 hM3 hR3 hM4 hR4 hZ4 hC hB4 hB5 hC5 s1 s2 s3 s4
  unfold chgA at hw4
  (go_enter Try.func41, Try.ntmps41; try simp only [List.append])
  go_wp2_with ((with_reducible refine wpList_unguard ?_ ?_); (focus rfl))
  clear q0 q1 q2 q3 q4 q5 q6 q7 q8 q9 qa qb qc hw1 hw2 hw3 hw4 c0 c1 c2 c3 d0 g0
  refine Calls.mono (sl_ContainsZ k _ 4 4 [8, 9, 10, 11] _ rfl HL.out (by simp)) ?_; rintro e w6 ⟨rfl, rfl⟩
  clear HL
  rw [othersK_any]
  generalize w4.alloc (.cells #[.int .i64 8, .int .i64 9, .int .i64 10, .int .i64 11] 3) = w5 at *
  have HDA := hid (fun h => doR_arg (m := m) (k := k) (s := i) (n := n) (v := v) h)
  have HDO := hid (fun h1 h2 => doR_other (m := m) (k := k) (s := i) (n := n) (v := v) h1 h2)
  have HDS := hid (fun h1 h2 h3 h4 => doR_slot (m := m) (k := k) (s := i) (n := n) (v := v) h1 h2 h3 h4)
  have HI : Hid (recOk k i n v = true → ¬ 3 ≤ i → i = 0 ∨ i = 1 ∨ i = 2) := fun h1 h2 => by have := recOkI_iff.1 h1; omega
  have HKK : Hid (speaksK k = true → k = 1 ∨ k = 2 ∨ k = 3 ∨ k = 4 ∨ k = 5 ∨ k = 6 ∨ k = 7 ∨ k = 12 ∨ k = 13) := fun h1 => by unfold speaksK at h1; rw [decide_eq_true_eq] at h1; omega
  have HKO : Hid (othersK k = true → k = 8 ∨ k = 9 ∨ k = 10 ∨ k = 11) := fun h1 => by unfold othersK at h1; rw [decide_eq_true_eq] at h1; omega
  have HOS : Hid (othersK k = true → speaksK k = false) := oth_speaks
  generalize othersK k = xo at *
  generalize speaksK k = xs at *
  generalize recOk k i n v = xr at *
  obtain ⟨x3, hx3⟩ : ∃ x, decide (3 ≤ i) = x := ⟨_, rfl⟩
  have HX3 := hid hx3
  have c0 := HR.out.c0
  have c1 := HR.out.c1
  have c2 := HR.out.c2
  have c3 := HR.out.c3
  go_wp2_with ((with_reducible refine wpList_unguard ?_ ?_); (focus rfl))
  refine Calls.mono (HRO _).out ?_; rintro e w6 ⟨rfl, hb⟩
  replace HZ : Hid (∃ m0, Blk w6 w2.heap.size 29 (mtA m0)) := by obtain ⟨m0, h⟩ := HZ.out; exact ⟨m0, h.below hb⟩
  (replace HM := hid (HM.out.below hb); replace HR := hid (HR.out.below hb); replace HC := hid (HC.out.below hb); replace HB := hid (HB.out.trans (hb.mono HB.out.size)); clear hb)
  clear c0 c1 c2 c3
  cases xr with
  | false =>
    obtain ⟨q0, q1, q2, q3, q4, q5, q6, q7, q8, q9, qa, qb, qc⟩ := HM.out.m13
    obtain ⟨m0, hk0⟩ := HZ.out
    have HS := hid (hk0.sets13 m)
    have HT := hid (below13 HB.out (B := w2.heap.size) (by have := H4.out; omega) m)
    obtain ⟨r0, r1, r2, r3, r4, r5, r6, r7, r8, r9, ra, rb, rc⟩ := hk0.m13
    have fz := hk0.free
    have z0 := fz 0
    have z1 := fz 1
    have z2 := fz 2
    have z3 := fz 3
    have z4 := fz 4
    have z5 := fz 5
    have z6 := fz 6
    have z7 := fz 7
    have z8 := fz 8
    have z9 := fz 9
    have za := fz 10
    have zb := fz 11
    have zc := fz 12
    clear fz hk0
    go_wp2_with ((with_reducible refine wpList_unguard ?_ ?_); (focus rfl))
    clear r0 r1 r2 r3 r4 r5 r6 r7 r8 r9 ra rb rc z0 z1 z2 z3 z4 z5 z6 z7 z8 z9 za zb zc
    generalize (((((((((((((w6.setCell ⟨w2.heap.size, 0, none⟩ (.int .i64 m.s0)).setCell ⟨w2.heap.size, 1, none⟩ (.int .i64 m.v0)).setCell ⟨w2.heap.size, 2, none⟩ (.int .i64 m.b0)).setCell ⟨w2.heap.size, 3, none⟩ (.int .i64 m.s1)).setCell ⟨w2.heap.size, 4, none⟩ (.int .i64 m.v1)).setCell ⟨w2.heap.size, 5, none⟩ (.int .i64 m.b1)).setCell ⟨w2.heap.size, 6, none⟩ (.int .i64 m.s2)).setCell ⟨w2.heap.size, 7, none⟩ (.int .i64 m.v2)).setCell ⟨w2.heap.size, 8, none⟩ (.int .i64 m.b2)).setCell ⟨w2.heap.size, 9, none⟩ (.int .i64 m.ac)).setCell ⟨w2.heap.size, 10, none⟩ (.int .i64 m.fl)).setCell ⟨w2.heap.size, 11, none⟩ (.int .i64 m.cu)).setCell ⟨w2.heap.size, 12, none⟩ (.int .i64 m.it)) = wz at *
    obtain ⟨r0, r1, r2, r3, r4, r5, r6, r7, r8, r9, ra, rb, rc⟩ := HS.out.m13
    refine bodyPost_ret (v := .tuple #[.agg #[.int .i64 m.s0, .int .i64 m.v0, .int .i64 m.b0, .int .i64 m.s1, .int .i64 m.v1, .int .i64 m.b1, .int .i64 m.s2, .int .i64 m.v2, .int .i64 m.b2, .int .i64 m.ac, .int .i64 m.fl, .int .i64 m.cu, .int .i64 m.it], .int .i64 1]) (by simp [results, Try.results41, go_sem, r0, r1, r2, r3, r4, r5, r6, r7, r8, r9, ra, rb, rc]) rfl ⟨?_, HT.out⟩
    rw [HDA.out (by simp_all)]; rfl
  | true =>
    have c0 := HR.out.c0
    go_wp2_with ((with_reducible refine wpList_unguard ?_ ?_); (focus rfl))
    refine Calls.mono (HSP _).out ?_; rintro e w7 ⟨rfl, hb⟩
    replace HZ : Hid (∃ m0, Blk w7 w2.heap.size 29 (mtA m0)) := by obtain ⟨m0, h⟩ := HZ.out; exact ⟨m0, h.below hb⟩
    (replace HM := hid (HM.out.below hb); replace HR := hid (HR.out.below hb); replace HC := hid (HC.out.below hb); replace HB := hid (HB.out.trans (hb.mono HB.out.size)); clear hb)
    clear c0
    have c0 := HR.out.c0
    have c1 := HR.out.c1
    cases xs with
    | false =>
      cases xo with
      | false =>
        obtain ⟨q0, q1, q2, q3, q4, q5, q6, q7, q8, q9, qa, qb, qc⟩ := HM.out.m13
        obtain ⟨m0, hk0⟩ := HZ.out
        have HS := hid (hk0.sets13 m)
        have HT := hid (below13 HB.out (B := w2.heap.size) (by have := H4.out; omega) m)
        obtain ⟨r0, r1, r2, r3, r4, r5, r6, r7, r8, r9, ra, rb, rc⟩ := hk0.m13
        have fz := hk0.free
        have z0 := fz 0
        have z1 := fz 1
        have z2 := fz 2
        have z3 := fz 3
        have z4 := fz 4
        have z5 := fz 5
        have z6 := fz 6
        have z7 := fz 7
        have z8 := fz 8
        have z9 := fz 9
        have za := fz 10
        have zb := fz 11
        have zc := fz 12
        clear fz hk0
        go_wp2_with ((with_reducible refine wpList_unguard ?_ ?_); (focus rfl))
        clear r0 r1 r2 r3 r4 r5 r6 r7 r8 r9 ra rb rc z0 z1 z2 z3 z4 z5 z6 z7 z8 z9 za zb zc
        generalize (((((((((((((w7.setCell ⟨w2.heap.size, 0, none⟩ (.int .i64 m.s0)).setCell ⟨w2.heap.size, 1, none⟩ (.int .i64 m.v0)).setCell ⟨w2.heap.size, 2, none⟩ (.int .i64 m.b0)).setCell ⟨w2.heap.size, 3, none⟩ (.int .i64 m.s1)).setCell ⟨w2.heap.size, 4, none⟩ (.int .i64 m.v1)).setCell ⟨w2.heap.size, 5, none⟩ (.int .i64 m.b1)).setCell ⟨w2.heap.size, 6, none⟩ (.int .i64 m.s2)).setCell ⟨w2.heap.size, 7, none⟩ (.int .i64 m.v2)).setCell ⟨w2.heap.size, 8, none⟩ (.int .i64 m.b2)).setCell ⟨w2.heap.size, 9, none⟩ (.int .i64 m.ac)).setCell ⟨w2.heap.size, 10, none⟩ (.int .i64 m.fl)).setCell ⟨w2.heap.size, 11, none⟩ (.int .i64 m.cu)).setCell ⟨w2.heap.size, 12, none⟩ (.int .i64 m.it)) = wz at *
        obtain ⟨r0, r1, r2, r3, r4, r5, r6, r7, r8, r9, ra, rb, rc⟩ := HS.out.m13
        refine bodyPost_ret (v := .tuple #[.agg #[.int .i64 m.s0, .int .i64 m.v0, .int .i64 m.b0, .int .i64 m.s1, .int .i64 m.v1, .int .i64 m.b1, .int .i64 m.s2, .int .i64 m.v2, .int .i64 m.b2, .int .i64 m.ac, .int .i64 m.fl, .int .i64 m.cu, .int .i64 m.it], .int .i64 1]) (by simp [results, Try.results41, go_sem, r0, r1, r2, r3, r4, r5, r6, r7, r8, r9, ra, rb, rc]) rfl ⟨?_, HT.out⟩
        rw [HDA.out (by simp_all)]; rfl
      | true =>
        go_wp2_with ((with_reducible refine wpList_unguard ?_ ?_); (focus rfl))
        refine Calls.mono (HSP _).out ?_; rintro e w9 ⟨rfl, hb⟩
        replace HZ : Hid (∃ m0, Blk w9 w2.heap.size 29 (mtA m0)) := by obtain ⟨m0, h⟩ := HZ.out; exact ⟨m0, h.below hb⟩
        (replace HM := hid (HM.out.below hb); replace HR := hid (HR.out.below hb); replace HC := hid (HC.out.below hb); replace HB := hid (HB.out.trans (hb.mono HB.out.size)); clear hb)
        clear c0 c1
        go_wp2_with ((with_reducible refine wpList_unguard ?_ ?_); (focus rfl))
        refine Calls.mono (chg_other w3 w9 _ m k i n v HC.out (HKO.out (by simp))) ?_; intro e w8 hR
        rcases hR with ⟨m', ho, rfl, h'⟩ | ⟨ho, rfl, m', h'⟩
        · have HE : Hid (m.doR k i n v = (m', 0)) := by show _ = _; rw [HDO.out (by simp) (by simp), ho]; rfl
          replace HC := hid h'
          replace HB := hid (HB3.out.trans (h'.2.2.mono HB3.out.size))
          replace HZ : Hid (∃ m0, Blk w8 w2.heap.size 29 (mtA m0)) := by obtain ⟨m0, h⟩ := HZ3.out; exact ⟨m0, h.below h'.2.2⟩
          clear ho h'
          obtain ⟨a0, a1, a2, a3, a4, a5, a6, a7, a8, a9, aa, ab, ac, ad, ae, af, ag⟩ := HC.out.cells
          clear ad ae af ag
          obtain ⟨m0, hk0⟩ := HZ.out
          have HS := hid (hk0.sets13 m')
          have HT := hid (below13 HB.out (B := w2.heap.size) (by have := H4.out; omega) m')
          obtain ⟨r0, r1, r2, r3, r4, r5, r6, r7, r8, r9, ra, rb, rc⟩ := hk0.m13
          have fz := hk0.free
          have z0 := fz 0
          have z1 := fz 1
          have z2 := fz 2
          have z3 := fz 3
          have z4 := fz 4
          have z5 := fz 5
          have z6 := fz 6
          have z7 := fz 7
          have z8 := fz 8
          have z9 := fz 9
          have za := fz 10
          have zb := fz 11
          have zc := fz 12
          clear fz hk0
          go_wp2_with ((with_reducible refine wpList_unguard ?_ ?_); (focus rfl))
          clear r0 r1 r2 r3 r4 r5 r6 r7 r8 r9 ra rb rc z0 z1 z2 z3 z4 z5 z6 z7 z8 z9 za zb zc
          generalize (((((((((((((w8.setCell ⟨w2.heap.size, 0, none⟩ (.int .i64 m'.s0)).setCell ⟨w2.heap.size, 1, none⟩ (.int .i64 m'.v0)).setCell ⟨w2.heap.size, 2, none⟩ (.int .i64 m'.b0)).setCell ⟨w2.heap.size, 3, none⟩ (.int .i64 m'.s1)).setCell ⟨w2.heap.size, 4, none⟩ (.int .i64 m'.v1)).setCell ⟨w2.heap.size, 5, none⟩ (.int .i64 m'.b1)).setCell ⟨w2.heap.size, 6, none⟩ (.int .i64 m'.s2)).setCell ⟨w2.heap.size, 7, none⟩ (.int .i64 m'.v2)).setCell ⟨w2.heap.size, 8, none⟩ (.int .i64 m'.b2)).setCell ⟨w2.heap.size, 9, none⟩ (.int .i64 m'.ac)).setCell ⟨w2.heap.size, 10, none⟩ (.int .i64 m'.fl)).setCell ⟨w2.heap.size, 11, none⟩ (.int .i64 m'.cu)).setCell ⟨w2.heap.size, 12, none⟩ (.int .i64 m'.it)) = wz at *
          obtain ⟨r0, r1, r2, r3, r4, r5, r6, r7, r8, r9, ra, rb, rc⟩ := HS.out.m13
          refine bodyPost_ret (v := .tuple #[.agg #[.int .i64 m'.s0, .int .i64 m'.v0, .int .i64 m'.b0, .int .i64 m'.s1, .int .i64 m'.v1, .int .i64 m'.b1, .int .i64 m'.s2, .int .i64 m'.v2, .int .i64 m'.b2, .int .i64 m'.ac, .int .i64 m'.fl, .int .i64 m'.cu, .int .i64 m'.it], .int .i64 0]) (by simp [results, Try.results41, go_sem, r0, r1, r2, r3, r4, r5, r6, r7, r8, r9, ra, rb, rc]) rfl ⟨?_, HT.out⟩
          rw [HE.out]; rfl
        · have HE : Hid (m.doR k i n v = (m, 10)) := by show _ = _; rw [HDO.out (by simp) (by simp), ho]; rfl
          have HM8 := hid (HM3.out.below h'.2.2)
          replace HB := hid (HB3.out.trans (h'.2.2.mono HB3.out.size))
          replace HZ : Hid (∃ m0, Blk w8 w2.heap.size 29 (mtA m0)) := by obtain ⟨m0, h⟩ := HZ3.out; exact ⟨m0, h.below h'.2.2⟩
          clear ho h'
          obtain ⟨q0, q1, q2, q3, q4, q5, q6, q7, q8, q9, qa, qb, qc⟩ := HM8.out.m13
          obtain ⟨m0, hk0⟩ := HZ.out
          have HS := hid (hk0.sets13 m)
          have HT := hid (below13 HB.out (B := w2.heap.size) (by have := H4.out; omega) m)
          obtain ⟨r0, r1, r2, r3, r4, r5, r6, r7, r8, r9, ra, rb, rc⟩ := hk0.m13
          have fz := hk0.free
          have z0 := fz 0
          have z1 := fz 1
          have z2 := fz 2
          have z3 := fz 3
          have z4 := fz 4
          have z5 := fz 5
          have z6 := fz 6
          have z7 := fz 7
          have z8 := fz 8
          have z9 := fz 9
          have za := fz 10
          have zb := fz 11
          have zc := fz 12
          clear fz hk0
          go_wp2_with ((with_reducible refine wpList_unguard ?_ ?_); (focus rfl))
          clear r0 r1 r2 r3 r4 r5 r6 r7 r8 r9 ra rb rc z0 z1 z2 z3 z4 z5 z6 z7 z8 z9 za zb zc
          generalize (((((((((((((w8.setCell ⟨w2.heap.size, 0, none⟩ (.int .i64 m.s0)).setCell ⟨w2.heap.size, 1, none⟩ (.int .i64 m.v0)).setCell ⟨w2.heap.size, 2, none⟩ (.int .i64 m.b0)).setCell ⟨w2.heap.size, 3, none⟩ (.int .i64 m.s1)).setCell ⟨w2.heap.size, 4, none⟩ (.int .i64 m.v1)).setCell ⟨w2.heap.size, 5, none⟩ (.int .i64 m.b1)).setCell ⟨w2.heap.size, 6, none⟩ (.int .i64 m.s2)).setCell ⟨w2.heap.size, 7, none⟩ (.int .i64 m.v2)).setCell ⟨w2.heap.size, 8, none⟩ (.int .i64 m.b2)).setCell ⟨w2.heap.size, 9, none⟩ (.int .i64 m.ac)).setCell ⟨w2.heap.size, 10, none⟩ (.int .i64 m.fl)).setCell ⟨w2.heap.size, 11, none⟩ (.int .i64 m.cu)).setCell ⟨w2.heap.size, 12, none⟩ (.int .i64 m.it)) = wz at *
          obtain ⟨r0, r1, r2, r3, r4, r5, r6, r7, r8, r9, ra, rb, rc⟩ := HS.out.m13
          refine bodyPost_ret (v := .tuple #[.agg #[.int .i64 m.s0, .int .i64 m.v0, .int .i64 m.b0, .int .i64 m.s1, .int .i64 m.v1, .int .i64 m.b1, .int .i64 m.s2, .int .i64 m.v2, .int .i64 m.b2, .int .i64 m.ac, .int .i64 m.fl, .int .i64 m.cu, .int .i64 m.it], .int .i64 10]) (by simp [results, Try.results41, go_sem, r0, r1, r2, r3, r4, r5, r6, r7, r8, r9, ra, rb, rc]) rfl ⟨?_, HT.out⟩
          rw [HE.out]; rfl
    | true =>
      go_wp2_with ((with_reducible refine wpList_unguard ?_ ?_); (focus rfl))
      refine Calls.mono (HSP _).out ?_; rintro e w9 ⟨rfl, hb⟩
      replace HZ : Hid (∃ m0, Blk w9 w2.heap.size 29 (mtA m0)) := by obtain ⟨m0, h⟩ := HZ.out; exact ⟨m0, h.below hb⟩
      (replace HM := hid (HM.out.below hb); replace HR := hid (HR.out.below hb); replace HC := hid (HC.out.below hb); replace HB := hid (HB.out.trans (hb.mono HB.out.size)); clear hb)
      clear c0 c1
      have c1 := HR.out.c1
      cases x3 with
      | true =>
        have hx3' : 3 ≤ i := of_decide_eq_true HX3.out
        have HX3' := hid hx3'
        clear hx3'
        obtain ⟨q0, q1, q2, q3, q4, q5, q6, q7, q8, q9, qa, qb, qc⟩ := HM.out.m13
        obtain ⟨m0, hk0⟩ := HZ.out
        have HS := hid (hk0.sets13 m)
        have HT := hid (below13 HB.out (B := w2.heap.size) (by have := H4.out; omega) m)
        obtain ⟨r0, r1, r2, r3, r4, r5, r6, r7, r8, r9, ra, rb, rc⟩ := hk0.m13
        have fz := hk0.free
        have z0 := fz 0
        have z1 := fz 1
        have z2 := fz 2
        have z3 := fz 3
        have z4 := fz 4
        have z5 := fz 5
        have z6 := fz 6
        have z7 := fz 7
        have z8 := fz 8
        have z9 := fz 9
        have za := fz 10
        have zb := fz 11
        have zc := fz 12
        clear fz hk0
        go_wp2_with ((with_reducible refine wpList_unguard ?_ ?_); (focus rfl))
        clear r0 r1 r2 r3 r4 r5 r6 r7 r8 r9 ra rb rc z0 z1 z2 z3 z4 z5 z6 z7 z8 z9 za zb zc
        generalize (((((((((((((w9.setCell ⟨w2.heap.size, 0, none⟩ (.int .i64 m.s0)).setCell ⟨w2.heap.size, 1, none⟩ (.int .i64 m.v0)).setCell ⟨w2.heap.size, 2, none⟩ (.int .i64 m.b0)).setCell ⟨w2.heap.size, 3, none⟩ (.int .i64 m.s1)).setCell ⟨w2.heap.size, 4, none⟩ (.int .i64 m.v1)).setCell ⟨w2.heap.size, 5, none⟩ (.int .i64 m.b1)).setCell ⟨w2.heap.size, 6, none⟩ (.int .i64 m.s2)).setCell ⟨w2.heap.size, 7, none⟩ (.int .i64 m.v2)).setCell ⟨w2.heap.size, 8, none⟩ (.int .i64 m.b2)).setCell ⟨w2.heap.size, 9, none⟩ (.int .i64 m.ac)).setCell ⟨w2.heap.size, 10, none⟩ (.int .i64 m.fl)).setCell ⟨w2.heap.size, 11, none⟩ (.int .i64 m.cu)).setCell ⟨w2.heap.size, 12, none⟩ (.int .i64 m.it)) = wz at *
        obtain ⟨r0, r1, r2, r3, r4, r5, r6, r7, r8, r9, ra, rb, rc⟩ := HS.out.m13
        refine bodyPost_ret (v := .tuple #[.agg #[.int .i64 m.s0, .int .i64 m.v0, .int .i64 m.b0, .int .i64 m.s1, .int .i64 m.v1, .int .i64 m.b1, .int .i64 m.s2, .int .i64 m.v2, .int .i64 m.b2, .int .i64 m.ac, .int .i64 m.fl, .int .i64 m.cu, .int .i64 m.it], .int .i64 1]) (by simp [results, Try.results41, go_sem, r0, r1, r2, r3, r4, r5, r6, r7, r8, r9, ra, rb, rc]) rfl ⟨?_, HT.out⟩
        rw [HDA.out (by have := HX3'.out; simp_all)]; rfl
      | false =>
        cases xo with
        | true => exact absurd (HOS.out rfl) (by simp)
        | false =>
          go_wp2_with ((with_reducible refine wpList_unguard ?_ ?_); (focus rfl))
          refine Calls.mono (chg_slot w3 w9 _ m k i n v HC.out (HI.out (by simp) (by have := of_decide_eq_false HX3.out; omega)) (HKK.out (by simp))) ?_; intro e w8 hR
          rcases hR with ⟨m', ho, rfl, h'⟩ | ⟨ho, rfl, m', h'⟩
          · have HE : Hid (m.doR k i n v = (m', 0)) := by show _ = _; rw [HDS.out (by simp) (by simp) (by simp) (by have := of_decide_eq_false HX3.out; omega), ho]; rfl
            replace HC := hid h'
            replace HB := hid (HB3.out.trans (h'.2.2.mono HB3.out.size))
            replace HZ : Hid (∃ m0, Blk w8 w2.heap.size 29 (mtA m0)) := by obtain ⟨m0, h⟩ := HZ3.out; exact ⟨m0, h.below h'.2.2⟩
            clear ho h'
            obtain ⟨a0, a1, a2, a3, a4, a5, a6, a7, a8, a9, aa, ab, ac, ad, ae, af, ag⟩ := HC.out.cells
            clear ad ae af ag
            obtain ⟨m0, hk0⟩ := HZ.out
            have HS := hid (hk0.sets13 m')
            have HT := hid (below13 HB.out (B := w2.heap.size) (by have := H4.out; omega) m')
            obtain ⟨r0, r1, r2, r3, r4, r5, r6, r7, r8, r9, ra, rb, rc⟩ := hk0.m13
            have fz := hk0.free
            have z0 := fz 0
            have z1 := fz 1
            have z2 := fz 2
            have z3 := fz 3
            have z4 := fz 4
            have z5 := fz 5
            have z6 := fz 6
            have z7 := fz 7
            have z8 := fz 8
            have z9 := fz 9
            have za := fz 10
            have zb := fz 11
            have zc := fz 12
            clear fz hk0
            go_wp2_with ((with_reducible refine wpList_unguard ?_ ?_); (focus rfl))
            clear r0 r1 r2 r3 r4 r5 r6 r7 r8 r9 ra rb rc z0 z1 z2 z3 z4 z5 z6 z7 z8 z9 za zb zc
            generalize (((((((((((((w8.setCell ⟨w2.heap.size, 0, none⟩ (.int .i64 m'.s0)).setCell ⟨w2.heap.size, 1, none⟩ (.int .i64 m'.v0)).setCell ⟨w2.heap.size, 2, none⟩ (.int .i64 m'.b0)).setCell ⟨w2.heap.size, 3, none⟩ (.int .i64 m'.s1)).setCell ⟨w2.heap.size, 4, none⟩ (.int .i64 m'.v1)).setCell ⟨w2.heap.size, 5, none⟩ (.int .i64 m'.b1)).setCell ⟨w2.heap.size, 6, none⟩ (.int .i64 m'.s2)).setCell ⟨w2.heap.size, 7, none⟩ (.int .i64 m'.v2)).setCell ⟨w2.heap.size, 8, none⟩ (.int .i64 m'.b2)).setCell ⟨w2.heap.size, 9, none⟩ (.int .i64 m'.ac)).setCell ⟨w2.heap.size, 10, none⟩ (.int .i64 m'.fl)).setCell ⟨w2.heap.size, 11, none⟩ (.int .i64 m'.cu)).setCell ⟨w2.heap.size, 12, none⟩ (.int .i64 m'.it)) = wz at *
            obtain ⟨r0, r1, r2, r3, r4, r5, r6, r7, r8, r9, ra, rb, rc⟩ := HS.out.m13
            refine bodyPost_ret (v := .tuple #[.agg #[.int .i64 m'.s0, .int .i64 m'.v0, .int .i64 m'.b0, .int .i64 m'.s1, .int .i64 m'.v1, .int .i64 m'.b1, .int .i64 m'.s2, .int .i64 m'.v2, .int .i64 m'.b2, .int .i64 m'.ac, .int .i64 m'.fl, .int .i64 m'.cu, .int .i64 m'.it], .int .i64 0]) (by simp [results, Try.results41, go_sem, r0, r1, r2, r3, r4, r5, r6, r7, r8, r9, ra, rb, rc]) rfl ⟨?_, HT.out⟩
            rw [HE.out]; rfl
          · have HE : Hid (m.doR k i n v = (m, 10)) := by show _ = _; rw [HDS.out (by simp) (by simp) (by simp) (by have := of_decide_eq_false HX3.out; omega), ho]; rfl
            have HM8 := hid (HM3.out.below h'.2.2)
            replace HB := hid (HB3.out.trans (h'.2.2.mono HB3.out.size))
            replace HZ : Hid (∃ m0, Blk w8 w2.heap.size 29 (mtA m0)) := by obtain ⟨m0, h⟩ := HZ3.out; exact ⟨m0, h.below h'.2.2⟩
            clear ho h'
            obtain ⟨q0, q1, q2, q3, q4, q5, q6, q7, q8, q9, qa, qb, qc⟩ := HM8.out.m13
            obtain ⟨m0, hk0⟩ := HZ.out
            have HS := hid (hk0.sets13 m)
            have HT := hid (below13 HB.out (B := w2.heap.size) (by have := H4.out; omega) m)
            obtain ⟨r0, r1, r2, r3, r4, r5, r6, r7, r8, r9, ra, rb, rc⟩ := hk0.m13
            have fz := hk0.free
            have z0 := fz 0
            have z1 := fz 1
            have z2 := fz 2
            have z3 := fz 3
            have z4 := fz 4
            have z5 := fz 5
            have z6 := fz 6
            have z7 := fz 7
            have z8 := fz 8
            have z9 := fz 9
            have za := fz 10
            have zb := fz 11
            have zc := fz 12
            clear fz hk0
            go_wp2_with ((with_reducible refine wpList_unguard ?_ ?_); (focus rfl))
            clear r0 r1 r2 r3 r4 r5 r6 r7 r8 r9 ra rb rc z0 z1 z2 z3 z4 z5 z6 z7 z8 z9 za zb zc
            generalize (((((((((((((w8.setCell ⟨w2.heap.size, 0, none⟩ (.int .i64 m.s0)).setCell ⟨w2.heap.size, 1, none⟩ (.int .i64 m.v0)).setCell ⟨w2.heap.size, 2, none⟩ (.int .i64 m.b0)).setCell ⟨w2.heap.size, 3, none⟩ (.int .i64 m.s1)).setCell ⟨w2.heap.size, 4, none⟩ (.int .i64 m.v1)).setCell ⟨w2.heap.size, 5, none⟩ (.int .i64 m.b1)).setCell ⟨w2.heap.size, 6, none⟩ (.int .i64 m.s2)).setCell ⟨w2.heap.size, 7, none⟩ (.int .i64 m.v2)).setCell ⟨w2.heap.size, 8, none⟩ (.int .i64 m.b2)).setCell ⟨w2.heap.size, 9, none⟩ (.int .i64 m.ac)).setCell ⟨w2.heap.size, 10, none⟩ (.int .i64 m.fl)).setCell ⟨w2.heap.size, 11, none⟩ (.int .i64 m.cu)).setCell ⟨w2.heap.size, 12, none⟩ (.int .i64 m.it)) = wz at *
            obtain ⟨r0, r1, r2, r3, r4, r5, r6, r7, r8, r9, ra, rb, rc⟩ := HS.out.m13
            refine bodyPost_ret (v := .tuple #[.agg #[.int .i64 m.s0, .int .i64 m.v0, .int .i64 m.b0, .int .i64 m.s1, .int .i64 m.v1, .int .i64 m.b1, .int .i64 m.s2, .int .i64 m.v2, .int .i64 m.b2, .int .i64 m.ac, .int .i64 m.fl, .int .i64 m.cu, .int .i64 m.it], .int .i64 10]) (by simp [results, Try.results41, go_sem, r0, r1, r2, r3, r4, r5, r6, r7, r8, r9, ra, rb, rc]) rfl ⟨?_, HT.out⟩
            rw [HE.out]; rfl
end Go.Proofs.Ytngkmlchblgmeaa
