/-
  meta: a change, and what its methods do (is, set, idle, bad), in the program.
-/
import Derived.Test.YtngkmlchblgmeaaMet0
import Derived.Test.YtngkmlchblgmeaaZ
import Derived.Test.YtngkmlchblgmeaaQstg
namespace Go.Proofs.Ytngkmlchblgmeaa
open Go.RowKit Tri
set_option linter.unusedSimpArgs false

def mtA (m : Mt) : Array Value := #[.int .i64 m.s0, .int .i64 m.v0, .int .i64 m.b0, .int .i64 m.s1, .int .i64 m.v1, .int .i64 m.b1, .int .i64 m.s2, .int .i64 m.v2, .int .i64 m.b2, .int .i64 m.ac, .int .i64 m.fl, .int .i64 m.cu, .int .i64 m.it]
def chgA (m : Mt) (k i n v : Int) : Array Value := #[.int .i64 m.s0, .int .i64 m.v0, .int .i64 m.b0, .int .i64 m.s1, .int .i64 m.v1, .int .i64 m.b1, .int .i64 m.s2, .int .i64 m.v2, .int .i64 m.b2, .int .i64 m.ac, .int .i64 m.fl, .int .i64 m.cu, .int .i64 m.it, .int .i64 k, .int .i64 i, .int .i64 n, .int .i64 v]
/-- A change in a block of its own, laid since w0. -/
def Chg (w0 w : World) (C : Nat) (m : Mt) (k i n v : Int) : Prop := Blk w C 126 (chgA m k i n v) ∧ w0.heap.size ≤ C ∧ Below w0.heap.size w0 w
theorem Chg.below {w0 w w' : World} {C : Nat} {m : Mt} {k i n v : Int} (h : Chg w0 w C m k i n v) (hb : Below w.heap.size w w') : Chg w0 w' C m k i n v :=
  ⟨h.1.below hb, h.2.1, h.2.2.trans (hb.mono h.2.2.size)⟩
theorem Chg.cells {w0 w : World} {C : Nat} {m : Mt} {k i n v : Int} (h : Chg w0 w C m k i n v) :
    w.cell? ⟨C, 0, none⟩ = some (.int .i64 m.s0) ∧ w.cell? ⟨C, 1, none⟩ = some (.int .i64 m.v0) ∧ w.cell? ⟨C, 2, none⟩ = some (.int .i64 m.b0) ∧
    w.cell? ⟨C, 3, none⟩ = some (.int .i64 m.s1) ∧ w.cell? ⟨C, 4, none⟩ = some (.int .i64 m.v1) ∧ w.cell? ⟨C, 5, none⟩ = some (.int .i64 m.b1) ∧
    w.cell? ⟨C, 6, none⟩ = some (.int .i64 m.s2) ∧ w.cell? ⟨C, 7, none⟩ = some (.int .i64 m.v2) ∧ w.cell? ⟨C, 8, none⟩ = some (.int .i64 m.b2) ∧
    w.cell? ⟨C, 9, none⟩ = some (.int .i64 m.ac) ∧ w.cell? ⟨C, 10, none⟩ = some (.int .i64 m.fl) ∧ w.cell? ⟨C, 11, none⟩ = some (.int .i64 m.cu) ∧ w.cell? ⟨C, 12, none⟩ = some (.int .i64 m.it) ∧
    w.cell? ⟨C, 13, none⟩ = some (.int .i64 k) ∧ w.cell? ⟨C, 14, none⟩ = some (.int .i64 i) ∧ w.cell? ⟨C, 15, none⟩ = some (.int .i64 n) ∧ w.cell? ⟨C, 16, none⟩ = some (.int .i64 v) :=
  ⟨h.1.cell 0 _ rfl, h.1.cell 1 _ rfl, h.1.cell 2 _ rfl, h.1.cell 3 _ rfl, h.1.cell 4 _ rfl, h.1.cell 5 _ rfl, h.1.cell 6 _ rfl, h.1.cell 7 _ rfl, h.1.cell 8 _ rfl, h.1.cell 9 _ rfl, h.1.cell 10 _ rfl, h.1.cell 11 _ rfl, h.1.cell 12 _ rfl, h.1.cell 13 _ rfl, h.1.cell 14 _ rfl, h.1.cell 15 _ rfl, h.1.cell 16 _ rfl⟩
theorem Chg.free {w0 w : World} {C : Nat} {m : Mt} {k i n v : Int} (h : Chg w0 w C m k i n v) (j : Nat) : w.frozen? ⟨C, j, none⟩ = false := h.1.free j
theorem Chg.st {w0 w : World} {C : Nat} {m m' : Mt} {k i n v : Int} (h : Chg w0 w C m k i n v) (j : Nat) (x : Value) (e : (chgA m k i n v).setIfInBounds j x = chgA m' k i n v) : Chg w0 (w.setCell ⟨C, j, none⟩ x) C m' k i n v :=
  ⟨by rw [← e]; exact h.1.set j x, h.2.1, h.2.2.setCell h.2.1 x⟩
set_option maxHeartbeats 1000000 in
set_option maxRecDepth 100000 in
theorem chg_is (w0 w : World) (C : Nat) (m : Mt) (k i n v : Int) (h : Chg w0 w C m k i n v) (hi : i = 0 ∨ i = 1 ∨ i = 2) (p : Option Addr) (c : Nat) (l : List Int) (N : Nat) (hN : N = l.length) (hp : cellsZ w p l) (hl : l.length ≤ 1000) :
    Calls Try.prog 88 #[.pointer (some ⟨C, 0, none⟩), .slice p N c] w fun e w' => e = .returned (.bool (l.any fun y => decide (m.st i = y))) ∧ Below w.heap.size w w' := by
  subst hN
  obtain ⟨a0, a1, a2, a3, a4, a5, a6, a7, a8, a9, aa, ab, ac, ad, ae, af, ag⟩ := h.cells
  have HP := hid hp
  clear hp h
  rcases hi with rfl | rfl | rfl
  · (go_enter Try.func88, Try.ntmps88; try simp only [List.append])
    go_wp2_with ((with_reducible refine wpList_unguard ?_ ?_); (focus rfl))
    (refine wp_region_quietC (fun w' => Below (w).heap.size w w') (by kernel_rfl) (by kernel_rfl) ((Below.refl _ _).drew) ?_; (repeat (first | go_big_quiet_skip | (go_big_quiet_want; first | (go_big_quiet_op; go_big_quiet_on) | (apply Exists.intro; refine And.intro (fun wq hq => ?_) ?_; (focus ((have c14 := (hq.cell (block_lt_of_cell ae)).trans ae; have c0 := (hq.cell (block_lt_of_cell a0)).trans a0); (try go_simp); first | done | rfl | ((refine Calls.mono (sl_ContainsZ m.s0 p _ c l _ rfl (HP.out.below hq) (by omega)) ?_; rintro e w6 ⟨rfl, rfl⟩; exact ⟨rfl, hq⟩)))); go_simp; go_big_quiet_on)))); refine quietC_nil _ rfl ?_; intro wE hE)
    have HB := hid hE
    clear hE
    go_wp2_with ((with_reducible refine wpList_unguard ?_ ?_); (focus rfl))
    go_ret
    exact ⟨rfl, HB.out⟩
  · (go_enter Try.func88, Try.ntmps88; try simp only [List.append])
    go_wp2_with ((with_reducible refine wpList_unguard ?_ ?_); (focus rfl))
    (refine wp_region_quietC (fun w' => Below (w).heap.size w w') (by kernel_rfl) (by kernel_rfl) ((Below.refl _ _).drew) ?_; (repeat (first | go_big_quiet_skip | (go_big_quiet_want; first | (go_big_quiet_op; go_big_quiet_on) | (apply Exists.intro; refine And.intro (fun wq hq => ?_) ?_; (focus ((have c14 := (hq.cell (block_lt_of_cell ae)).trans ae; have c0 := (hq.cell (block_lt_of_cell a3)).trans a3); (try go_simp); first | done | rfl | ((refine Calls.mono (sl_ContainsZ m.s1 p _ c l _ rfl (HP.out.below hq) (by omega)) ?_; rintro e w6 ⟨rfl, rfl⟩; exact ⟨rfl, hq⟩)))); go_simp; go_big_quiet_on)))); refine quietC_nil _ rfl ?_; intro wE hE)
    have HB := hid hE
    clear hE
    go_wp2_with ((with_reducible refine wpList_unguard ?_ ?_); (focus rfl))
    go_ret
    exact ⟨rfl, HB.out⟩
  · (go_enter Try.func88, Try.ntmps88; try simp only [List.append])
    go_wp2_with ((with_reducible refine wpList_unguard ?_ ?_); (focus rfl))
    (refine wp_region_quietC (fun w' => Below (w).heap.size w w') (by kernel_rfl) (by kernel_rfl) ((Below.refl _ _).drew) ?_; (repeat (first | go_big_quiet_skip | (go_big_quiet_want; first | (go_big_quiet_op; go_big_quiet_on) | (apply Exists.intro; refine And.intro (fun wq hq => ?_) ?_; (focus ((have c14 := (hq.cell (block_lt_of_cell ae)).trans ae; have c0 := (hq.cell (block_lt_of_cell a6)).trans a6); (try go_simp); first | done | rfl | ((refine Calls.mono (sl_ContainsZ m.s2 p _ c l _ rfl (HP.out.below hq) (by omega)) ?_; rintro e w6 ⟨rfl, rfl⟩; exact ⟨rfl, hq⟩)))); go_simp; go_big_quiet_on)))); refine quietC_nil _ rfl ?_; intro wE hE)
    have HB := hid hE
    clear hE
    go_wp2_with ((with_reducible refine wpList_unguard ?_ ?_); (focus rfl))
    go_ret
    exact ⟨rfl, HB.out⟩
set_option maxHeartbeats 1000000 in
set_option maxRecDepth 100000 in
theorem chg_set (w0 w : World) (C : Nat) (m : Mt) (k i n v : Int) (h : Chg w0 w C m k i n v) (hi : i = 0 ∨ i = 1 ∨ i = 2) (x y z : Int) :
    Calls Try.prog 87 #[.pointer (some ⟨C, 0, none⟩), .int .i64 x, .int .i64 y, .int .i64 z] w fun e w' => e = .returned (.tuple #[]) ∧ Chg w0 w' C (m.set i x y z) k i n v := by
  have hD0 : Chg w0 w.drew C m k i n v := ⟨h.1.drew, h.2.1, h.2.2.drew⟩
  have HD := hid hD0
  clear hD0 h
  rcases hi with rfl | rfl | rfl
  · (go_enter Try.func87, Try.ntmps87; try simp only [List.append])
    go_wp2_with ((with_reducible refine wpList_unguard ?_ ?_); (focus rfl))
    (refine wp_region_stg 14 [] [14] (fun u => Chg w0 u C m k 0 n v) (by kernel_rfl) (by kernel_rfl) (by intro t v c a w h; cases t <;> exact h) (HD.out) ?_; (simp only [List.take_succ_cons, List.take_zero, List.map_cons, List.map_nil, stOf, opAt, List.getD_cons_zero, List.getD_cons_succ]); (repeat (first | go_big_quiet_skip | (go_big_quiet_want; first | (go_big_quiet_op; go_big_quiet_on) | (apply Exists.intro; refine And.intro (fun wq hq => ?_) ?_; (focus ((obtain ⟨a0, a1, a2, a3, a4, a5, a6, a7, a8, a9, aa, ab, ac, ad, ae, af, ag⟩ := hq.cells); (try go_simp); first | done | rfl | (fail))); go_simp; go_big_quiet_on)))); refine quietC_nil _ rfl ?_; intro wE hE; unfold wpSt)
    obtain ⟨a0, a1, a2, a3, a4, a5, a6, a7, a8, a9, aa, ab, ac, ad, ae, af, ag⟩ := hE.cells
    clear a9 aa ab ac ad ae af ag
    have f0 := hE.free 0
    have f1 := hE.free 1
    have f2 := hE.free 2
    have H1 := hid (((hE.st (m' := { m with s0 := x }) 0 (.int .i64 x) rfl).st (m' := { m with s0 := x, v0 := y }) 1 (.int .i64 y) rfl).st (m' := m.set 0 x y z) 2 (.int .i64 z) rfl)
    clear hE
    go_wp2_with ((with_reducible refine wpList_unguard ?_ ?_); (focus rfl))
    refine bodyPost_end (results_none rfl _ _ _) rfl ?_
    exact ⟨rfl, H1.out⟩
  · (go_enter Try.func87, Try.ntmps87; try simp only [List.append])
    go_wp2_with ((with_reducible refine wpList_unguard ?_ ?_); (focus rfl))
    (refine wp_region_stg 14 [] [14] (fun u => Chg w0 u C m k 1 n v) (by kernel_rfl) (by kernel_rfl) (by intro t v c a w h; cases t <;> exact h) (HD.out) ?_; (simp only [List.take_succ_cons, List.take_zero, List.map_cons, List.map_nil, stOf, opAt, List.getD_cons_zero, List.getD_cons_succ]); (repeat (first | go_big_quiet_skip | (go_big_quiet_want; first | (go_big_quiet_op; go_big_quiet_on) | (apply Exists.intro; refine And.intro (fun wq hq => ?_) ?_; (focus ((obtain ⟨a0, a1, a2, a3, a4, a5, a6, a7, a8, a9, aa, ab, ac, ad, ae, af, ag⟩ := hq.cells); (try go_simp); first | done | rfl | (fail))); go_simp; go_big_quiet_on)))); refine quietC_nil _ rfl ?_; intro wE hE; unfold wpSt)
    obtain ⟨a0, a1, a2, a3, a4, a5, a6, a7, a8, a9, aa, ab, ac, ad, ae, af, ag⟩ := hE.cells
    clear a9 aa ab ac ad ae af ag
    have f0 := hE.free 3
    have f1 := hE.free 4
    have f2 := hE.free 5
    have H1 := hid (((hE.st (m' := { m with s1 := x }) 3 (.int .i64 x) rfl).st (m' := { m with s1 := x, v1 := y }) 4 (.int .i64 y) rfl).st (m' := m.set 1 x y z) 5 (.int .i64 z) rfl)
    clear hE
    go_wp2_with ((with_reducible refine wpList_unguard ?_ ?_); (focus rfl))
    refine bodyPost_end (results_none rfl _ _ _) rfl ?_
    exact ⟨rfl, H1.out⟩
  · (go_enter Try.func87, Try.ntmps87; try simp only [List.append])
    go_wp2_with ((with_reducible refine wpList_unguard ?_ ?_); (focus rfl))
    (refine wp_region_stg 14 [] [14] (fun u => Chg w0 u C m k 2 n v) (by kernel_rfl) (by kernel_rfl) (by intro t v c a w h; cases t <;> exact h) (HD.out) ?_; (simp only [List.take_succ_cons, List.take_zero, List.map_cons, List.map_nil, stOf, opAt, List.getD_cons_zero, List.getD_cons_succ]); (repeat (first | go_big_quiet_skip | (go_big_quiet_want; first | (go_big_quiet_op; go_big_quiet_on) | (apply Exists.intro; refine And.intro (fun wq hq => ?_) ?_; (focus ((obtain ⟨a0, a1, a2, a3, a4, a5, a6, a7, a8, a9, aa, ab, ac, ad, ae, af, ag⟩ := hq.cells); (try go_simp); first | done | rfl | (fail))); go_simp; go_big_quiet_on)))); refine quietC_nil _ rfl ?_; intro wE hE; unfold wpSt)
    obtain ⟨a0, a1, a2, a3, a4, a5, a6, a7, a8, a9, aa, ab, ac, ad, ae, af, ag⟩ := hE.cells
    clear a9 aa ab ac ad ae af ag
    have f0 := hE.free 6
    have f1 := hE.free 7
    have f2 := hE.free 8
    have H1 := hid (((hE.st (m' := { m with s2 := x }) 6 (.int .i64 x) rfl).st (m' := { m with s2 := x, v2 := y }) 7 (.int .i64 y) rfl).st (m' := m.set 2 x y z) 8 (.int .i64 z) rfl)
    clear hE
    go_wp2_with ((with_reducible refine wpList_unguard ?_ ?_); (focus rfl))
    refine bodyPost_end (results_none rfl _ _ _) rfl ?_
    exact ⟨rfl, H1.out⟩
theorem any1 (s x : Int) : ([x].any fun y => decide (s = y)) = decide (s = x) := by simp
theorem any2 (s x y : Int) : ([x, y].any fun z => decide (s = z)) = decide (s = x ∨ s = y) := by simp [Bool.decide_or]
set_option maxHeartbeats 1000000 in
set_option maxRecDepth 100000 in
theorem chg_idle (w0 w : World) (C : Nat) (m : Mt) (k i n v : Int) (h : Chg w0 w C m k i n v) (hi : i = 0 ∨ i = 1 ∨ i = 2) :
    Calls Try.prog 86 #[.pointer (some ⟨C, 0, none⟩)] w fun e w' => e = .returned (.bool (m.idle i)) ∧ Chg w0 w' C m k i n v := by
  have HC := hid h
  clear h
  have hD0 : Chg w0 w.drew C m k i n v := ⟨HC.out.1.drew, HC.out.2.1, HC.out.2.2.drew⟩
  have HD := hid hD0
  clear hD0
  by_cases h0 : i = 0
  · have HR : Hid (m.idle i = false) := by show _ = _; unfold Mt.idle; rw [decide_eq_false (by omega)]; rfl
    have q0 : (i != 0) = false := by rw [h0]; rfl
    clear h0
    (go_enter Try.func86, Try.ntmps86; try simp only [List.append])
    go_wp2_with ((with_reducible refine wpList_unguard ?_ ?_); (focus rfl))
    (refine wp_region_stg 20 [([20], 21)] [22, 23, 24, 25] (fun u => Chg w0 u C m k i n v) (by kernel_rfl) (by kernel_rfl) (by intro t v c a w h; cases t <;> exact h) (HD.out) ?_; (simp only [List.take_succ_cons, List.take_zero, List.map_cons, List.map_nil, stOf, opAt, List.getD_cons_zero, List.getD_cons_succ]); (repeat (first | go_big_quiet_skip | (go_big_quiet_want; first | (go_big_quiet_op; go_big_quiet_on) | (apply Exists.intro; refine And.intro (fun wq hq => ?_) ?_; (focus ((obtain ⟨a0, a1, a2, a3, a4, a5, a6, a7, a8, a9, aa, ab, ac, ad, ae, af, ag⟩ := hq.cells); (try go_simp); first | done | rfl | (fail))); go_simp; go_big_quiet_on)))); refine quietC_nil _ rfl ?_; intro wE hE; unfold wpSt)
    have HE := hid hE
    clear hE
    ((repeat (first | go_big_quiet_skip | (go_big_quiet_want; first | (go_big_quiet_op; go_big_quiet_on) | (apply Exists.intro; refine And.intro (fun wq hq => ?_) ?_; (focus (skip; (try go_simp); first | done | rfl)); go_simp; go_big_quiet_on)))); refine quietC_nil _ rfl ?_)
    go_wp2_with ((with_reducible refine wpList_unguard ?_ ?_); (focus rfl))
    refine ⟨fun u => Chg w0 u C m k i n v, fun _ h => h, HE.out, ?_⟩
    unfold wpSt
    go_wp2_with ((with_reducible refine wpList_unguard ?_ ?_); (focus rfl))
    go_ret
    exact ⟨by rw [HR.out]; rfl, HE.out⟩
  · have q0 : (i != 0) = true := by simpa using h0
    by_cases h1 : i = m.ac
    · have HR : Hid (m.idle i = false) := by show _ = _; unfold Mt.idle; rw [decide_eq_false (p := i ≠ m.ac) (by omega)]; simp
      have q1 : (i != m.ac) = false := by rw [h1]; simp
      clear h0 h1
      (go_enter Try.func86, Try.ntmps86; try simp only [List.append])
      go_wp2_with ((with_reducible refine wpList_unguard ?_ ?_); (focus rfl))
      (refine wp_region_stg 20 [([20], 21)] [22, 23, 24, 25] (fun u => Chg w0 u C m k i n v) (by kernel_rfl) (by kernel_rfl) (by intro t v c a w h; cases t <;> exact h) (HD.out) ?_; (simp only [List.take_succ_cons, List.take_zero, List.map_cons, List.map_nil, stOf, opAt, List.getD_cons_zero, List.getD_cons_succ]); (repeat (first | go_big_quiet_skip | (go_big_quiet_want; first | (go_big_quiet_op; go_big_quiet_on) | (apply Exists.intro; refine And.intro (fun wq hq => ?_) ?_; (focus ((obtain ⟨a0, a1, a2, a3, a4, a5, a6, a7, a8, a9, aa, ab, ac, ad, ae, af, ag⟩ := hq.cells); (try go_simp); first | done | rfl | (fail))); go_simp; go_big_quiet_on)))); refine quietC_nil _ rfl ?_; intro wE hE; unfold wpSt)
      have HE := hid hE
      clear hE
      ((repeat (first | go_big_quiet_skip | (go_big_quiet_want; first | (go_big_quiet_op; go_big_quiet_on) | (apply Exists.intro; refine And.intro (fun wq hq => ?_) ?_; (focus (skip; (try go_simp); first | done | rfl)); go_simp; go_big_quiet_on)))); refine quietC_nil _ rfl ?_)
      go_wp2_with ((with_reducible refine wpList_unguard ?_ ?_); (focus rfl))
      refine ⟨fun u => Chg w0 u C m k i n v, fun _ h => h, HE.out, ?_⟩
      unfold wpSt
      go_wp2_with ((with_reducible refine wpList_unguard ?_ ?_); (focus rfl))
      go_ret
      exact ⟨by rw [HR.out]; rfl, HE.out⟩
    · have q1 : (i != m.ac) = true := by simpa using h1
      have HR : Hid (m.idle i = decide (m.st i ≠ 3)) := by show _ = _; unfold Mt.idle; rw [decide_eq_true h1, decide_eq_true h0]; rfl
      clear h0 h1
      (go_enter Try.func86, Try.ntmps86; try simp only [List.append])
      go_wp2_with ((with_reducible refine wpList_unguard ?_ ?_); (focus rfl))
      (refine wp_region_stg 20 [([20], 21)] [22, 23, 24, 25] (fun u => Chg w0 u C m k i n v) (by kernel_rfl) (by kernel_rfl) (by intro t v c a w h; cases t <;> exact h) (HD.out) ?_; (simp only [List.take_succ_cons, List.take_zero, List.map_cons, List.map_nil, stOf, opAt, List.getD_cons_zero, List.getD_cons_succ]); (repeat (first | go_big_quiet_skip | (go_big_quiet_want; first | (go_big_quiet_op; go_big_quiet_on) | (apply Exists.intro; refine And.intro (fun wq hq => ?_) ?_; (focus ((obtain ⟨a0, a1, a2, a3, a4, a5, a6, a7, a8, a9, aa, ab, ac, ad, ae, af, ag⟩ := hq.cells); (try go_simp); first | done | rfl | (fail))); go_simp; go_big_quiet_on)))); refine quietC_nil _ rfl ?_; intro wE hE; unfold wpSt)
      have hb := (Below.refl wE.heap.size wE).alloc (Nat.le_refl _) (.cells #[.int .i64 3] 3)
      have HC2 := hid (hE.below hb)
      have HL := hid (cellsZ.new wE [3] #[.int .i64 3] 3 rfl)
      clear hb hE
      ((repeat (first | go_big_quiet_skip | (go_big_quiet_want; first | (go_big_quiet_op; go_big_quiet_on) | (apply Exists.intro; refine And.intro (fun wq hq => ?_) ?_; (focus (skip; (try go_simp); first | done | rfl)); go_simp; go_big_quiet_on)))); refine quietC_nil _ rfl ?_)
      go_wp2_with ((with_reducible refine wpList_unguard ?_ ?_); (focus rfl))
      refine ⟨fun u => Chg w0 u C m k i n v ∧ cellsZ u (some ⟨wE.heap.size, 0, none⟩) [3], fun _ h => h.1, ⟨HC2.out, HL.out⟩, ?_⟩
      unfold wpSt
      go_wp2_with ((with_reducible refine wpList_unguard ?_ ?_); (focus rfl))
      refine Calls.mono (chg_is w0 _ C m k i n v HC2.out hi _ 1 [3] 1 rfl HL.out (by simp)) ?_; rintro e w' ⟨rfl, hb⟩
      have HC3 := hid (HC2.out.below hb)
      clear hb HC2 HL
      rw [any1]
      go_wp2_with ((with_reducible refine wpList_unguard ?_ ?_); (focus rfl))
      go_ret
      exact ⟨by rw [HR.out]; simp, HC3.out⟩
set_option maxHeartbeats 1000000 in
set_option maxRecDepth 100000 in
theorem chg_bad (w0 w : World) (C : Nat) (m : Mt) (k i n v : Int) (h : Chg w0 w C m k i n v) (j : Int) (hj : j = 0 ∨ j = 1 ∨ j = 2) :
    Calls Try.prog 91 #[.pointer (some ⟨C, 0, none⟩), .int .i64 j] w fun e w' => e = .returned (.tuple #[]) ∧ Chg w0 w' C (m.bad j) k i n v := by
  obtain ⟨a0, a1, a2, a3, a4, a5, a6, a7, a8, a9, aa, ab, ac, ad, ae, af, ag⟩ := h.cells
  have HC := hid h
  have hf := h.free
  have f0 := hf 0
  have f1 := hf 1
  have f2 := hf 2
  have f3 := hf 3
  have f4 := hf 4
  have f5 := hf 5
  have f6 := hf 6
  have f7 := hf 7
  have f8 := hf 8
  have f9 := hf 9
  clear h hf
  have hG := HC.out.2.1
  obtain ⟨z, hz⟩ : ∃ z, (m.ac == j) = z := ⟨_, rfl⟩
  have hB : Hid (m.bad j = if z = true then (m.set j 5 0 0).act 0 else m.set j 5 0 0) := by
    show _ = _
    unfold Mt.bad
    by_cases hh : m.ac = j
    · rw [if_pos hh, if_pos (by rw [← hz]; simpa using hh)]
    · rw [if_neg hh, if_neg (by rw [← hz]; simpa using hh)]
  rcases hj with rfl | rfl | rfl
  · have H1 := hid (((HC.out.st (m' := { m with s0 := 5 }) 0 (.int .i64 5) rfl).st (m' := { m with s0 := 5, v0 := 0 }) 1 (.int .i64 0) rfl).st (m' := m.set 0 5 0 0) 2 (.int .i64 0) rfl)
    have H2 := hid (H1.out.st (m' := (m.set 0 5 0 0).act 0) 9 (.int .i64 0) rfl)
    cases z
    all_goals
      (go_enter Try.func91, Try.ntmps91; try simp only [List.append])
      go_wp2_with ((with_reducible refine wpList_unguard ?_ ?_); (focus rfl))
      refine bodyPost_end (results_none rfl _ _ _) rfl ?_
      first | exact ⟨rfl, by rw [hB.out]; exact H1.out⟩ | exact ⟨rfl, by rw [hB.out]; exact H2.out⟩
  · have H1 := hid (((HC.out.st (m' := { m with s1 := 5 }) 3 (.int .i64 5) rfl).st (m' := { m with s1 := 5, v1 := 0 }) 4 (.int .i64 0) rfl).st (m' := m.set 1 5 0 0) 5 (.int .i64 0) rfl)
    have H2 := hid (H1.out.st (m' := (m.set 1 5 0 0).act 0) 9 (.int .i64 0) rfl)
    cases z
    all_goals
      (go_enter Try.func91, Try.ntmps91; try simp only [List.append])
      go_wp2_with ((with_reducible refine wpList_unguard ?_ ?_); (focus rfl))
      refine bodyPost_end (results_none rfl _ _ _) rfl ?_
      first | exact ⟨rfl, by rw [hB.out]; exact H1.out⟩ | exact ⟨rfl, by rw [hB.out]; exact H2.out⟩
  · have H1 := hid (((HC.out.st (m' := { m with s2 := 5 }) 6 (.int .i64 5) rfl).st (m' := { m with s2 := 5, v2 := 0 }) 7 (.int .i64 0) rfl).st (m' := m.set 2 5 0 0) 8 (.int .i64 0) rfl)
    have H2 := hid (H1.out.st (m' := (m.set 2 5 0 0).act 0) 9 (.int .i64 0) rfl)
    cases z
    all_goals
      (go_enter Try.func91, Try.ntmps91; try simp only [List.append])
      go_wp2_with ((with_reducible refine wpList_unguard ?_ ?_); (focus rfl))
      refine bodyPost_end (results_none rfl _ _ _) rfl ?_
      first | exact ⟨rfl, by rw [hB.out]; exact H1.out⟩ | exact ⟨rfl, by rw [hB.out]; exact H2.out⟩
end Go.Proofs.Ytngkmlchblgmeaa
