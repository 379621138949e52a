/-
  meta: what is told of a change's method; try, confirm, activate, drop, in the program.
-/
import Derived.Test.YtngkmlchblgmeaaMet2
namespace Go.Proofs.Ytngkmlchblgmeaa
open Go.RowKit Tri
set_option linter.unusedSimpArgs false

/-- What a method of a change tells, and what it leaves: what is known behind it, or none (then nothing is told of what it left). -/
def chgR (w0 : World) (C : Nat) (o : Option Mt) (k i n v : Int) (e : Ending) (w' : World) : Prop :=
  (∃ m', o = some m' ∧ e = .returned (.bool true) ∧ Chg w0 w' C m' k i n v) ∨ (o = none ∧ e = .returned (.bool false) ∧ ∃ m', Chg w0 w' C m' k i n v)
theorem Chg.drew {w0 w : World} {C : Nat} {m : Mt} {k i n v : Int} (h : Chg w0 w C m k i n v) : Chg w0 w.drew C m k i n v := ⟨h.1.drew, h.2.1, h.2.2.drew⟩
theorem chg_Trial (m : Mt) (w : World) (z : Bool) (hz : decide (0 ≤ m.tri) = z) :
    Calls Try.prog 10 #[.agg #[.int .i64 m.s0, .int .i64 m.v0, .int .i64 m.b0, .int .i64 m.s1, .int .i64 m.v1, .int .i64 m.b1, .int .i64 m.s2, .int .i64 m.v2, .int .i64 m.b2, .int .i64 m.ac, .int .i64 m.fl, .int .i64 m.cu, .int .i64 m.it]] w
      fun e w' => e = .returned (.tuple #[.int .i64 (max m.tri 0), .bool z]) ∧ Below w.heap.size w w' := by
  have := meta_Trial m w
  rw [hz] at this
  exact this
set_option maxHeartbeats 2000000 in
set_option maxRecDepth 100000 in
theorem chg_try (w0 w : World) (C : Nat) (m : Mt) (k i n v : Int) (h : Chg w0 w C m k i n v) (hi : i = 0 ∨ i = 1 ∨ i = 2) :
    Calls Try.prog 89 #[.pointer (some ⟨C, 0, none⟩)] w fun e w' => chgR w0 C (m.tryS i v) k i n v e w' := by
  have HC := hid h
  clear h
  obtain ⟨z, hz⟩ : ∃ z, decide (0 ≤ m.tri) = z := ⟨_, rfl⟩
  obtain ⟨y, hy⟩ : ∃ y, decide (m.st i = 2) = y := ⟨_, rfl⟩
  obtain ⟨x, hx⟩ : ∃ x, decide (512 < v) = x := ⟨_, rfl⟩
  have HR : Hid (m.tryS i v = if z = true ∨ y = false ∨ x = true then none else some ((m.set i 3 (m.ver i) v).act i)) := by
    show _ = _
    unfold Mt.tryS
    rw [← hz, ← hy, ← hx]
    simp only [decide_eq_true_eq, decide_eq_false_iff_not, ne_eq]
  have HT := fun w => hid (chg_Trial m w z hz)
  have HY := hid hy
  clear hz hy
  obtain ⟨a0, a1, a2, a3, a4, a5, a6, a7, a8, a9, aa, ab, ac, ad, ae, af, ag⟩ := HC.out.cells
  (go_enter Try.func89, Try.ntmps89; try simp only [List.append])
  go_wp2_with ((with_reducible refine wpList_unguard ?_ ?_); (focus rfl))
  refine Calls.mono (HT _).out ?_; rintro e w1 ⟨rfl, hb⟩
  replace HC := hid (HC.out.below hb)
  clear hb a0 a1 a2 a3 a4 a5 a6 a7 a8 a9 aa ab ac ad ae af ag HT
  cases z with
  | true =>
    go_wp2_with ((with_reducible refine wpList_unguard ?_ ?_); (focus rfl))
    go_ret
    exact .inr ⟨by rw [HR.out]; simp, rfl, _, HC.out⟩
  | false =>
    have hb := (Below.refl w1.heap.size w1).alloc (Nat.le_refl _) (.cells #[.int .i64 2] 3)
    have HC2 := hid (HC.out.below hb)
    have HL := hid (cellsZ.new w1 [2] #[.int .i64 2] 3 rfl)
    clear hb HC
    go_wp2_with ((with_reducible refine wpList_unguard ?_ ?_); (focus rfl))
    refine Calls.mono (chg_is w0 _ C m k i n v HC2.out hi _ 1 [2] 1 rfl HL.out (by simp)) ?_; rintro e w2 ⟨rfl, hb⟩
    have HC := hid (HC2.out.below hb)
    clear hb HC2 HL
    rw [any1, HY.out]
    clear HY
    cases y with
    | false =>
      go_wp2_with ((with_reducible refine wpList_unguard ?_ ?_); (focus rfl))
      go_ret
      exact .inr ⟨by rw [HR.out]; simp, rfl, _, HC.out⟩
    | true =>
      obtain ⟨a0, a1, a2, a3, a4, a5, a6, a7, a8, a9, aa, ab, ac, ad, ae, af, ag⟩ := HC.out.cells
      cases x with
      | true =>
        go_wp2_with ((with_reducible refine wpList_unguard ?_ ?_); (focus rfl))
        go_ret
        exact .inr ⟨by rw [HR.out]; simp, rfl, _, HC.out⟩
      | false =>
        have HR' : Hid (m.tryS i v = some ((m.set i 3 (m.ver i) v).act i)) := by show _ = _; rw [HR.out]; simp
        clear HR
        have HD := hid HC.out.drew
        go_wp2_with ((with_reducible refine wpList_unguard ?_ ?_); (focus rfl))
        clear a0 a1 a2 a3 a4 a5 a6 a7 a8 a9 aa ab ac ad ae af ag hx
        rcases hi with rfl | rfl | rfl
        · (refine wp_region_stg 18 [] [18] (fun u => Chg w0 u C m k 0 n v) (by kernel_rfl) (by kernel_rfl) (by intro t v c a w h; cases t <;> exact h) (HD.out) ?_; (simp only [List.take_succ_cons, List.take_zero, List.map_cons, List.map_nil, stOf, opAt, List.getD_cons_zero, List.getD_cons_succ]); (repeat (first | go_big_quiet_skip | (go_big_quiet_want; first | (go_big_quiet_op; go_big_quiet_on) | (apply Exists.intro; refine And.intro (fun wq hq => ?_) ?_; (focus ((obtain ⟨a0, a1, a2, a3, a4, a5, a6, a7, a8, a9, aa, ab, ac, ad, ae, af, ag⟩ := hq.cells); (try go_simp); first | done | rfl | (fail))); go_simp; go_big_quiet_on)))); refine quietC_nil _ rfl ?_; intro wE hE; unfold wpSt)
          have HE := hid hE
          clear hE
          go_wp2_with ((with_reducible refine wpList_unguard ?_ ?_); (focus rfl))
          refine Calls.mono (chg_set w0 wE C m k 0 n v HE.out (by omega) 3 (m.ver 0) v) ?_; rintro e w3 ⟨rfl, h3⟩
          generalize m.set 0 3 (m.ver 0) v = m1 at *
          obtain ⟨a0, a1, a2, a3, a4, a5, a6, a7, a8, a9, aa, ab, ac, ad, ae, af, ag⟩ := h3.cells
          have f9 := h3.free 9
          have H4 := hid (h3.st (m' := m1.act 0) 9 (.int .i64 0) rfl)
          clear h3 HE HD HC
          go_wp2_with ((with_reducible refine wpList_unguard ?_ ?_); (focus rfl))
          go_ret
          exact .inl ⟨_, HR'.out, rfl, H4.out⟩
        · (refine wp_region_stg 18 [] [18] (fun u => Chg w0 u C m k 1 n v) (by kernel_rfl) (by kernel_rfl) (by intro t v c a w h; cases t <;> exact h) (HD.out) ?_; (simp only [List.take_succ_cons, List.take_zero, List.map_cons, List.map_nil, stOf, opAt, List.getD_cons_zero, List.getD_cons_succ]); (repeat (first | go_big_quiet_skip | (go_big_quiet_want; first | (go_big_quiet_op; go_big_quiet_on) | (apply Exists.intro; refine And.intro (fun wq hq => ?_) ?_; (focus ((obtain ⟨a0, a1, a2, a3, a4, a5, a6, a7, a8, a9, aa, ab, ac, ad, ae, af, ag⟩ := hq.cells); (try go_simp); first | done | rfl | (fail))); go_simp; go_big_quiet_on)))); refine quietC_nil _ rfl ?_; intro wE hE; unfold wpSt)
          have HE := hid hE
          clear hE
          go_wp2_with ((with_reducible refine wpList_unguard ?_ ?_); (focus rfl))
          refine Calls.mono (chg_set w0 wE C m k 1 n v HE.out (by omega) 3 (m.ver 1) v) ?_; rintro e w3 ⟨rfl, h3⟩
          generalize m.set 1 3 (m.ver 1) v = m1 at *
          obtain ⟨a0, a1, a2, a3, a4, a5, a6, a7, a8, a9, aa, ab, ac, ad, ae, af, ag⟩ := h3.cells
          have f9 := h3.free 9
          have H4 := hid (h3.st (m' := m1.act 1) 9 (.int .i64 1) rfl)
          clear h3 HE HD HC
          go_wp2_with ((with_reducible refine wpList_unguard ?_ ?_); (focus rfl))
          go_ret
          exact .inl ⟨_, HR'.out, rfl, H4.out⟩
        · (refine wp_region_stg 18 [] [18] (fun u => Chg w0 u C m k 2 n v) (by kernel_rfl) (by kernel_rfl) (by intro t v c a w h; cases t <;> exact h) (HD.out) ?_; (simp only [List.take_succ_cons, List.take_zero, List.map_cons, List.map_nil, stOf, opAt, List.getD_cons_zero, List.getD_cons_succ]); (repeat (first | go_big_quiet_skip | (go_big_quiet_want; first | (go_big_quiet_op; go_big_quiet_on) | (apply Exists.intro; refine And.intro (fun wq hq => ?_) ?_; (focus ((obtain ⟨a0, a1, a2, a3, a4, a5, a6, a7, a8, a9, aa, ab, ac, ad, ae, af, ag⟩ := hq.cells); (try go_simp); first | done | rfl | (fail))); go_simp; go_big_quiet_on)))); refine quietC_nil _ rfl ?_; intro wE hE; unfold wpSt)
          have HE := hid hE
          clear hE
          go_wp2_with ((with_reducible refine wpList_unguard ?_ ?_); (focus rfl))
          refine Calls.mono (chg_set w0 wE C m k 2 n v HE.out (by omega) 3 (m.ver 2) v) ?_; rintro e w3 ⟨rfl, h3⟩
          generalize m.set 2 3 (m.ver 2) v = m1 at *
          obtain ⟨a0, a1, a2, a3, a4, a5, a6, a7, a8, a9, aa, ab, ac, ad, ae, af, ag⟩ := h3.cells
          have f9 := h3.free 9
          have H4 := hid (h3.st (m' := m1.act 2) 9 (.int .i64 2) rfl)
          clear h3 HE HD HC
          go_wp2_with ((with_reducible refine wpList_unguard ?_ ?_); (focus rfl))
          go_ret
          exact .inl ⟨_, HR'.out, rfl, H4.out⟩
set_option maxHeartbeats 2000000 in
set_option maxRecDepth 100000 in
theorem chg_confirm (w0 w : World) (C : Nat) (m : Mt) (k i n v : Int) (h : Chg w0 w C m k i n v) (hi : i = 0 ∨ i = 1 ∨ i = 2) :
    Calls Try.prog 90 #[.pointer (some ⟨C, 0, none⟩)] w fun e w' => chgR w0 C (m.conf i) k i n v e w' := by
  have HC := hid h
  clear h
  obtain ⟨y, hy⟩ : ∃ y, decide (m.st i = 3) = y := ⟨_, rfl⟩
  have HR : Hid (m.conf i = if y = false then none else some { m.set i 4 (m.ver i) 0 with fl := if m.fl < m.ver i then m.ver i else m.fl }) := by
    show _ = _
    unfold Mt.conf
    rw [← hy]
    simp only [decide_eq_false_iff_not, ne_eq]
  have HY := hid hy
  clear hy
  have hb := (Below.refl w.heap.size w).alloc (Nat.le_refl _) (.cells #[.int .i64 3] 3)
  have HC2 := hid (HC.out.below hb)
  have HL := hid (cellsZ.new w [3] #[.int .i64 3] 3 rfl)
  clear hb HC
  (go_enter Try.func90, Try.ntmps90; try simp only [List.append])
  go_wp2_with ((with_reducible refine wpList_unguard ?_ ?_); (focus rfl))
  refine Calls.mono (chg_is w0 _ C m k i n v HC2.out hi _ 1 [3] 1 rfl HL.out (by simp)) ?_; rintro e w2 ⟨rfl, hb⟩
  have HC := hid (HC2.out.below hb)
  clear hb HC2 HL
  rw [any1, HY.out]
  clear HY
  cases y with
  | false =>
    go_wp2_with ((with_reducible refine wpList_unguard ?_ ?_); (focus rfl))
    go_ret
    exact .inr ⟨by rw [HR.out]; simp, rfl, _, HC.out⟩
  | true =>
    have HR' : Hid (m.conf i = some { m.set i 4 (m.ver i) 0 with fl := if m.fl < m.ver i then m.ver i else m.fl }) := by show _ = _; rw [HR.out]; simp
    clear HR
    have HD := hid HC.out.drew
    go_wp2_with ((with_reducible refine wpList_unguard ?_ ?_); (focus rfl))
    rcases hi with rfl | rfl | rfl
    · (refine wp_region_quietC (fun u => Chg w0 u C m k 0 n v) (by kernel_rfl) (by kernel_rfl) (HD.out) ?_; (repeat (first | go_big_quiet_skip | (go_big_quiet_want; first | (go_big_quiet_op; go_big_quiet_on) | (apply Exists.intro; refine And.intro (fun wq hq => ?_) ?_; (focus ((obtain ⟨a0, a1, a2, a3, a4, a5, a6, a7, a8, a9, aa, ab, ac, ad, ae, af, ag⟩ := hq.cells); (try go_simp); first | done | rfl | (fail))); go_simp; go_big_quiet_on)))); refine quietC_nil _ rfl ?_; intro wE hE)
      have HE := hid hE
      clear hE HD HC
      go_wp2_with ((with_reducible refine wpList_unguard ?_ ?_); (focus rfl))
      refine Calls.mono (chg_set w0 wE C m k 0 n v HE.out (by omega) 4 (m.ver 0) 0) ?_; rintro e w3 ⟨rfl, h3⟩
      have hfl : (m.set 0 4 (m.ver 0) 0).fl = m.fl := rfl
      generalize m.set 0 4 (m.ver 0) 0 = m1 at *
      obtain ⟨u, hu⟩ : ∃ u, m.v0 = u := ⟨_, rfl⟩
      have huv : m.ver 0 = u := hu
      rw [huv, ← hfl] at HR'
      rw [hu]
      obtain ⟨a0, a1, a2, a3, a4, a5, a6, a7, a8, a9, aa, ab, ac, ad, ae, af, ag⟩ := h3.cells
      have fa := h3.free 10
      have hmx : (if m1.fl < u then u else m1.fl) = max m1.fl u := by split <;> omega
      rw [hmx] at HR'
      clear hmx
      have H4 := hid (h3.st (m' := { m1 with fl := max m1.fl u }) 10 (.int .i64 (max m1.fl u)) rfl)
      clear h3 HE hfl hu huv
      go_wp2_with ((with_reducible refine wpList_unguard ?_ ?_); (focus rfl))
      go_ret
      exact .inl ⟨_, HR'.out, rfl, H4.out⟩
    · (refine wp_region_quietC (fun u => Chg w0 u C m k 1 n v) (by kernel_rfl) (by kernel_rfl) (HD.out) ?_; (repeat (first | go_big_quiet_skip | (go_big_quiet_want; first | (go_big_quiet_op; go_big_quiet_on) | (apply Exists.intro; refine And.intro (fun wq hq => ?_) ?_; (focus ((obtain ⟨a0, a1, a2, a3, a4, a5, a6, a7, a8, a9, aa, ab, ac, ad, ae, af, ag⟩ := hq.cells); (try go_simp); first | done | rfl | (fail))); go_simp; go_big_quiet_on)))); refine quietC_nil _ rfl ?_; intro wE hE)
      have HE := hid hE
      clear hE HD HC
      go_wp2_with ((with_reducible refine wpList_unguard ?_ ?_); (focus rfl))
      refine Calls.mono (chg_set w0 wE C m k 1 n v HE.out (by omega) 4 (m.ver 1) 0) ?_; rintro e w3 ⟨rfl, h3⟩
      have hfl : (m.set 1 4 (m.ver 1) 0).fl = m.fl := rfl
      generalize m.set 1 4 (m.ver 1) 0 = m1 at *
      obtain ⟨u, hu⟩ : ∃ u, m.v1 = u := ⟨_, rfl⟩
      have huv : m.ver 1 = u := hu
      rw [huv, ← hfl] at HR'
      rw [hu]
      obtain ⟨a0, a1, a2, a3, a4, a5, a6, a7, a8, a9, aa, ab, ac, ad, ae, af, ag⟩ := h3.cells
      have fa := h3.free 10
      have hmx : (if m1.fl < u then u else m1.fl) = max m1.fl u := by split <;> omega
      rw [hmx] at HR'
      clear hmx
      have H4 := hid (h3.st (m' := { m1 with fl := max m1.fl u }) 10 (.int .i64 (max m1.fl u)) rfl)
      clear h3 HE hfl hu huv
      go_wp2_with ((with_reducible refine wpList_unguard ?_ ?_); (focus rfl))
      go_ret
      exact .inl ⟨_, HR'.out, rfl, H4.out⟩
    · (refine wp_region_quietC (fun u => Chg w0 u C m k 2 n v) (by kernel_rfl) (by kernel_rfl) (HD.out) ?_; (repeat (first | go_big_quiet_skip | (go_big_quiet_want; first | (go_big_quiet_op; go_big_quiet_on) | (apply Exists.intro; refine And.intro (fun wq hq => ?_) ?_; (focus ((obtain ⟨a0, a1, a2, a3, a4, a5, a6, a7, a8, a9, aa, ab, ac, ad, ae, af, ag⟩ := hq.cells); (try go_simp); first | done | rfl | (fail))); go_simp; go_big_quiet_on)))); refine quietC_nil _ rfl ?_; intro wE hE)
      have HE := hid hE
      clear hE HD HC
      go_wp2_with ((with_reducible refine wpList_unguard ?_ ?_); (focus rfl))
      refine Calls.mono (chg_set w0 wE C m k 2 n v HE.out (by omega) 4 (m.ver 2) 0) ?_; rintro e w3 ⟨rfl, h3⟩
      have hfl : (m.set 2 4 (m.ver 2) 0).fl = m.fl := rfl
      generalize m.set 2 4 (m.ver 2) 0 = m1 at *
      obtain ⟨u, hu⟩ : ∃ u, m.v2 = u := ⟨_, rfl⟩
      have huv : m.ver 2 = u := hu
      rw [huv, ← hfl] at HR'
      rw [hu]
      obtain ⟨a0, a1, a2, a3, a4, a5, a6, a7, a8, a9, aa, ab, ac, ad, ae, af, ag⟩ := h3.cells
      have fa := h3.free 10
      have hmx : (if m1.fl < u then u else m1.fl) = max m1.fl u := by split <;> omega
      rw [hmx] at HR'
      clear hmx
      have H4 := hid (h3.st (m' := { m1 with fl := max m1.fl u }) 10 (.int .i64 (max m1.fl u)) rfl)
      clear h3 HE hfl hu huv
      go_wp2_with ((with_reducible refine wpList_unguard ?_ ?_); (focus rfl))
      go_ret
      exact .inl ⟨_, HR'.out, rfl, H4.out⟩
set_option maxHeartbeats 2000000 in
set_option maxRecDepth 100000 in
theorem chg_activate (w0 w : World) (C : Nat) (m : Mt) (k i n v : Int) (h : Chg w0 w C m k i n v) (hi : i = 0 ∨ i = 1 ∨ i = 2) :
    Calls Try.prog 92 #[.pointer (some ⟨C, 0, none⟩)] w fun e w' => chgR w0 C (m.actv i) k i n v e w' := by
  have HC := hid h
  clear h
  obtain ⟨z, hz⟩ : ∃ z, decide (0 ≤ m.tri) = z := ⟨_, rfl⟩
  obtain ⟨y, hy⟩ : ∃ y, decide (m.st i = 4) = y := ⟨_, rfl⟩
  obtain ⟨x, hx⟩ : ∃ x, (i != 0) = x := ⟨_, rfl⟩
  have HR : Hid (m.actv i = if x = true ∧ y = false then none else some ((if z = true then m.bad m.tri else m).act i)) := by
    show _ = _
    unfold Mt.actv
    rw [← hz, ← hy, ← hx]
    simp only [decide_eq_true_eq, decide_eq_false_iff_not, ne_eq, bne_iff_ne]
  have HTR : Hid (decide (0 ≤ m.tri) = true → m.tri = 0 ∨ m.tri = 1 ∨ m.tri = 2) := by
    intro h
    rw [decide_eq_true_eq] at h
    have := m.tri_cases
    omega
  have HT := fun w => hid (chg_Trial m w z hz)
  have HY := hid hy
  have HZ := hid hz
  clear hz hy
  obtain ⟨a0, a1, a2, a3, a4, a5, a6, a7, a8, a9, aa, ab, ac, ad, ae, af, ag⟩ := HC.out.cells
  (go_enter Try.func92, Try.ntmps92; try simp only [List.append])
  cases x with
  | false =>
    have HR' : Hid (m.actv i = some ((if z = true then m.bad m.tri else m).act i)) := by show _ = _; rw [HR.out]; simp
    clear HR HY
    obtain ⟨a0, a1, a2, a3, a4, a5, a6, a7, a8, a9, aa, ab, ac, ad, ae, af, ag⟩ := HC.out.cells
    go_wp2_with ((with_reducible refine wpList_unguard ?_ ?_); (focus rfl))
    refine Calls.mono (HT _).out ?_; rintro e w3 ⟨rfl, hb⟩
    replace HC := hid (HC.out.below hb)
    clear hb a0 a1 a2 a3 a4 a5 a6 a7 a8 a9 aa ab ac ad ae af ag HT
    cases z with
    | false =>
      obtain ⟨a0, a1, a2, a3, a4, a5, a6, a7, a8, a9, aa, ab, ac, ad, ae, af, ag⟩ := HC.out.cells
      have f9 := HC.out.free 9
      have H4 := hid (HC.out.st (m' := m.act i) 9 (.int .i64 i) rfl)
      clear HC
      go_wp2_with ((with_reducible refine wpList_unguard ?_ ?_); (focus rfl))
      go_ret
      exact .inl ⟨_, by rw [HR'.out]; rfl, rfl, H4.out⟩
    | true =>
      have htm : max m.tri 0 = m.tri := by have := HZ.out; rw [decide_eq_true_eq] at this; omega
      rw [htm]
      go_wp2_with ((with_reducible refine wpList_unguard ?_ ?_); (focus rfl))
      refine Calls.mono (chg_bad w0 w3 C m k i n v HC.out m.tri (HTR.out HZ.out)) ?_; rintro e w4 ⟨rfl, h4⟩
      have HR2 : Hid (m.actv i = some ((m.bad m.tri).act i)) := HR'.out
      generalize m.bad m.tri = m1 at *
      obtain ⟨a0, a1, a2, a3, a4, a5, a6, a7, a8, a9, aa, ab, ac, ad, ae, af, ag⟩ := h4.cells
      have f9 := h4.free 9
      have H4 := hid (h4.st (m' := m1.act i) 9 (.int .i64 i) rfl)
      clear HC h4
      go_wp2_with ((with_reducible refine wpList_unguard ?_ ?_); (focus rfl))
      go_ret
      exact .inl ⟨_, HR2.out, rfl, H4.out⟩
  | true =>
    have hb := (Below.refl w.heap.size w).alloc (Nat.le_refl _) (.cells #[.int .i64 4] 3)
    have HC2 := hid (HC.out.below hb)
    have HL := hid (cellsZ.new w [4] #[.int .i64 4] 3 rfl)
    clear hb
    go_wp2_with ((with_reducible refine wpList_unguard ?_ ?_); (focus rfl))
    refine Calls.mono (chg_is w0 _ C m k i n v HC2.out hi _ 1 [4] 1 rfl HL.out (by simp)) ?_; rintro e w2 ⟨rfl, hb⟩
    replace HC := hid (HC2.out.below hb)
    clear hb HC2 HL a0 a1 a2 a3 a4 a5 a6 a7 a8 a9 aa ab ac ad ae af ag
    rw [any1, HY.out]
    clear HY
    cases y with
    | false =>
      go_wp2_with ((with_reducible refine wpList_unguard ?_ ?_); (focus rfl))
      go_ret
      exact .inr ⟨by rw [HR.out]; simp, rfl, _, HC.out⟩
    | true =>
      have HR' : Hid (m.actv i = some ((if z = true then m.bad m.tri else m).act i)) := by show _ = _; rw [HR.out]; simp
      clear HR
      obtain ⟨a0, a1, a2, a3, a4, a5, a6, a7, a8, a9, aa, ab, ac, ad, ae, af, ag⟩ := HC.out.cells
      go_wp2_with ((with_reducible refine wpList_unguard ?_ ?_); (focus rfl))
      refine Calls.mono (HT _).out ?_; rintro e w3 ⟨rfl, hb⟩
      replace HC := hid (HC.out.below hb)
      clear hb a0 a1 a2 a3 a4 a5 a6 a7 a8 a9 aa ab ac ad ae af ag HT
      cases z with
      | false =>
        obtain ⟨a0, a1, a2, a3, a4, a5, a6, a7, a8, a9, aa, ab, ac, ad, ae, af, ag⟩ := HC.out.cells
        have f9 := HC.out.free 9
        have H4 := hid (HC.out.st (m' := m.act i) 9 (.int .i64 i) rfl)
        clear HC
        go_wp2_with ((with_reducible refine wpList_unguard ?_ ?_); (focus rfl))
        go_ret
        exact .inl ⟨_, by rw [HR'.out]; rfl, rfl, H4.out⟩
      | true =>
        have htm : max m.tri 0 = m.tri := by have := HZ.out; rw [decide_eq_true_eq] at this; omega
        rw [htm]
        go_wp2_with ((with_reducible refine wpList_unguard ?_ ?_); (focus rfl))
        refine Calls.mono (chg_bad w0 w3 C m k i n v HC.out m.tri (HTR.out HZ.out)) ?_; rintro e w4 ⟨rfl, h4⟩
        have HR2 : Hid (m.actv i = some ((m.bad m.tri).act i)) := HR'.out
        generalize m.bad m.tri = m1 at *
        obtain ⟨a0, a1, a2, a3, a4, a5, a6, a7, a8, a9, aa, ab, ac, ad, ae, af, ag⟩ := h4.cells
        have f9 := h4.free 9
        have H4 := hid (h4.st (m' := m1.act i) 9 (.int .i64 i) rfl)
        clear HC h4
        go_wp2_with ((with_reducible refine wpList_unguard ?_ ?_); (focus rfl))
        go_ret
        exact .inl ⟨_, HR2.out, rfl, H4.out⟩
set_option maxHeartbeats 2000000 in
set_option maxRecDepth 100000 in
theorem chg_drop (w0 w : World) (C : Nat) (m : Mt) (k i n v : Int) (h : Chg w0 w C m k i n v) (hi : i = 0 ∨ i = 1 ∨ i = 2) :
    Calls Try.prog 93 #[.pointer (some ⟨C, 0, none⟩)] w fun e w' => chgR w0 C (m.drop i) k i n v e w' := by
  have HC := hid h
  have HD := hid h.drew
  clear h
  obtain ⟨x1, h1⟩ : ∃ x, decide (m.ac ≤ 0) = x := ⟨_, rfl⟩
  obtain ⟨x2, h2⟩ : ∃ x, decide (3 ≤ m.ac) = x := ⟨_, rfl⟩
  obtain ⟨x3, h3⟩ : ∃ x, (i == m.ac) = x := ⟨_, rfl⟩
  obtain ⟨x4, h4⟩ : ∃ x, (i != 0) = x := ⟨_, rfl⟩
  obtain ⟨y, hy⟩ : ∃ y, decide (m.st i = 4) = y := ⟨_, rfl⟩
  have HR : Hid (m.drop i = if x1 = true ∨ x2 = true ∨ x3 = true ∨ (x4 = true ∧ y = false) then none else some ((m.bad m.ac).act i)) := by
    show _ = _
    unfold Mt.drop
    rw [← h1, ← h2, ← h3, ← h4, ← hy]
    simp only [decide_eq_true_eq, decide_eq_false_iff_not, ne_eq, bne_iff_ne, beq_iff_eq]
  have HY := hid hy
  have H1 := hid h1
  have H2 := hid h2
  clear hy
  (go_enter Try.func93, Try.ntmps93; try simp only [List.append])
  go_wp2_with ((with_reducible refine wpList_unguard ?_ ?_); (focus rfl))
  cases x1 with
  | true =>
    (refine wp_region_stg 35 [([35], 36)] [37, 38, 39, 40] (fun u => Chg w0 u C m k i n v) (by kernel_rfl) (by kernel_rfl) (by intro t v c a w h; cases t <;> exact h) (HD.out) ?_; (simp only [List.take_succ_cons, List.take_zero, List.map_cons, List.map_nil, stOf, opAt, List.getD_cons_zero, List.getD_cons_succ]); (repeat (first | go_big_quiet_skip | (go_big_quiet_want; first | (go_big_quiet_op; go_big_quiet_on) | (apply Exists.intro; refine And.intro (fun wq hq => ?_) ?_; (focus ((obtain ⟨a0, a1, a2, a3, a4, a5, a6, a7, a8, a9, aa, ab, ac, ad, ae, af, ag⟩ := hq.cells); (try go_simp); first | done | rfl | (fail))); go_simp; go_big_quiet_on)))); refine quietC_nil _ rfl ?_; intro wE hE; unfold wpSt)
    have HE := hid hE
    clear hE
    ((repeat (first | go_big_quiet_skip | (go_big_quiet_want; first | (go_big_quiet_op; go_big_quiet_on) | (apply Exists.intro; refine And.intro (fun wq hq => ?_) ?_; (focus (skip; (try go_simp); first | done | rfl)); go_simp; go_big_quiet_on)))); refine quietC_nil _ rfl ?_)
    go_wp2_with ((with_reducible refine wpList_unguard ?_ ?_); (focus rfl))
    refine ⟨fun u => Chg w0 u C m k i n v, fun _ h => h, HE.out, ?_⟩
    unfold wpSt
    go_wp2_with ((with_reducible refine wpList_unguard ?_ ?_); (focus rfl))
    go_ret
    exact .inr ⟨by rw [HR.out]; simp, rfl, _, HE.out⟩
  | false =>
    cases x2 with
    | true =>
      (refine wp_region_stg 35 [([35], 36)] [37, 38, 39, 40] (fun u => Chg w0 u C m k i n v) (by kernel_rfl) (by kernel_rfl) (by intro t v c a w h; cases t <;> exact h) (HD.out) ?_; (simp only [List.take_succ_cons, List.take_zero, List.map_cons, List.map_nil, stOf, opAt, List.getD_cons_zero, List.getD_cons_succ]); (repeat (first | go_big_quiet_skip | (go_big_quiet_want; first | (go_big_quiet_op; go_big_quiet_on) | (apply Exists.intro; refine And.intro (fun wq hq => ?_) ?_; (focus ((obtain ⟨a0, a1, a2, a3, a4, a5, a6, a7, a8, a9, aa, ab, ac, ad, ae, af, ag⟩ := hq.cells); (try go_simp); first | done | rfl | (fail))); go_simp; go_big_quiet_on)))); refine quietC_nil _ rfl ?_; intro wE hE; unfold wpSt)
      have HE := hid hE
      clear hE
      ((repeat (first | go_big_quiet_skip | (go_big_quiet_want; first | (go_big_quiet_op; go_big_quiet_on) | (apply Exists.intro; refine And.intro (fun wq hq => ?_) ?_; (focus (skip; (try go_simp); first | done | rfl)); go_simp; go_big_quiet_on)))); refine quietC_nil _ rfl ?_)
      go_wp2_with ((with_reducible refine wpList_unguard ?_ ?_); (focus rfl))
      refine ⟨fun u => Chg w0 u C m k i n v, fun _ h => h, HE.out, ?_⟩
      unfold wpSt
      go_wp2_with ((with_reducible refine wpList_unguard ?_ ?_); (focus rfl))
      go_ret
      exact .inr ⟨by rw [HR.out]; simp, rfl, _, HE.out⟩
    | false =>
      cases x3 with
      | true =>
        (refine wp_region_stg 35 [([35], 36)] [37, 38, 39, 40] (fun u => Chg w0 u C m k i n v) (by kernel_rfl) (by kernel_rfl) (by intro t v c a w h; cases t <;> exact h) (HD.out) ?_; (simp only [List.take_succ_cons, List.take_zero, List.map_cons, List.map_nil, stOf, opAt, List.getD_cons_zero, List.getD_cons_succ]); (repeat (first | go_big_quiet_skip | (go_big_quiet_want; first | (go_big_quiet_op; go_big_quiet_on) | (apply Exists.intro; refine And.intro (fun wq hq => ?_) ?_; (focus ((obtain ⟨a0, a1, a2, a3, a4, a5, a6, a7, a8, a9, aa, ab, ac, ad, ae, af, ag⟩ := hq.cells); (try go_simp); first | done | rfl | (fail))); go_simp; go_big_quiet_on)))); refine quietC_nil _ rfl ?_; intro wE hE; unfold wpSt)
        have HE := hid hE
        clear hE
        ((repeat (first | go_big_quiet_skip | (go_big_quiet_want; first | (go_big_quiet_op; go_big_quiet_on) | (apply Exists.intro; refine And.intro (fun wq hq => ?_) ?_; (focus (skip; (try go_simp); first | done | rfl)); go_simp; go_big_quiet_on)))); refine quietC_nil _ rfl ?_)
        go_wp2_with ((with_reducible refine wpList_unguard ?_ ?_); (focus rfl))
        refine ⟨fun u => Chg w0 u C m k i n v, fun _ h => h, HE.out, ?_⟩
        unfold wpSt
        go_wp2_with ((with_reducible refine wpList_unguard ?_ ?_); (focus rfl))
        go_ret
        exact .inr ⟨by rw [HR.out]; simp, rfl, _, HE.out⟩
      | false =>
        cases x4 with
        | false =>
          (refine wp_region_stg 35 [([35], 36)] [37, 38, 39, 40] (fun u => Chg w0 u C m k i n v) (by kernel_rfl) (by kernel_rfl) (by intro t v c a w h; cases t <;> exact h) (HD.out) ?_; (simp only [List.take_succ_cons, List.take_zero, List.map_cons, List.map_nil, stOf, opAt, List.getD_cons_zero, List.getD_cons_succ]); (repeat (first | go_big_quiet_skip | (go_big_quiet_want; first | (go_big_quiet_op; go_big_quiet_on) | (apply Exists.intro; refine And.intro (fun wq hq => ?_) ?_; (focus ((obtain ⟨a0, a1, a2, a3, a4, a5, a6, a7, a8, a9, aa, ab, ac, ad, ae, af, ag⟩ := hq.cells); (try go_simp); first | done | rfl | (fail))); go_simp; go_big_quiet_on)))); refine quietC_nil _ rfl ?_; intro wE hE; unfold wpSt)
          replace HC := hid hE
          clear hE
          ((repeat (first | go_big_quiet_skip | (go_big_quiet_want; first | (go_big_quiet_op; go_big_quiet_on) | (apply Exists.intro; refine And.intro (fun wq hq => ?_) ?_; (focus (skip; (try go_simp); first | done | rfl)); go_simp; go_big_quiet_on)))); refine quietC_nil _ rfl ?_)
          go_wp2_with ((with_reducible refine wpList_unguard ?_ ?_); (focus rfl))
          refine ⟨fun u => Chg w0 u C m k i n v, fun _ h => h, HC.out, ?_⟩
          unfold wpSt
          have HR2 : Hid (m.drop i = some ((m.bad m.ac).act i)) := by show _ = _; rw [HR.out]; simp
          clear HR
          obtain ⟨a0, a1, a2, a3, a4, a5, a6, a7, a8, a9, aa, ab, ac, ad, ae, af, ag⟩ := HC.out.cells
          go_wp2_with ((with_reducible refine wpList_unguard ?_ ?_); (focus rfl))
          refine Calls.mono (chg_bad w0 _ C m k i n v HC.out m.ac (by have h1 := H1.out; have h2 := H2.out; rw [decide_eq_false_iff_not] at h1 h2; omega)) ?_; rintro e w4 ⟨rfl, h4⟩
          generalize m.bad m.ac = m1 at *
          clear a0 a1 a2 a3 a4 a5 a6 a7 a8 a9 aa ab ac ad ae af ag
          obtain ⟨a0, a1, a2, a3, a4, a5, a6, a7, a8, a9, aa, ab, ac, ad, ae, af, ag⟩ := h4.cells
          have f9 := h4.free 9
          have H4 := hid (h4.st (m' := m1.act i) 9 (.int .i64 i) rfl)
          clear HC h4
          go_wp2_with ((with_reducible refine wpList_unguard ?_ ?_); (focus rfl))
          go_ret
          exact .inl ⟨_, HR2.out, rfl, H4.out⟩
        | true =>
          (refine wp_region_stg 35 [([35], 36)] [37, 38, 39, 40] (fun u => Chg w0 u C m k i n v) (by kernel_rfl) (by kernel_rfl) (by intro t v c a w h; cases t <;> exact h) (HD.out) ?_; (simp only [List.take_succ_cons, List.take_zero, List.map_cons, List.map_nil, stOf, opAt, List.getD_cons_zero, List.getD_cons_succ]); (repeat (first | go_big_quiet_skip | (go_big_quiet_want; first | (go_big_quiet_op; go_big_quiet_on) | (apply Exists.intro; refine And.intro (fun wq hq => ?_) ?_; (focus ((obtain ⟨a0, a1, a2, a3, a4, a5, a6, a7, a8, a9, aa, ab, ac, ad, ae, af, ag⟩ := hq.cells); (try go_simp); first | done | rfl | (fail))); go_simp; go_big_quiet_on)))); refine quietC_nil _ rfl ?_; intro wE hE; unfold wpSt)
          have hb := (Below.refl wE.heap.size wE).alloc (Nat.le_refl _) (.cells #[.int .i64 4] 3)
          have HC2 := hid (hE.below hb)
          have HL := hid (cellsZ.new wE [4] #[.int .i64 4] 3 rfl)
          clear hb hE
          ((repeat (first | go_big_quiet_skip | (go_big_quiet_want; first | (go_big_quiet_op; go_big_quiet_on) | (apply Exists.intro; refine And.intro (fun wq hq => ?_) ?_; (focus (skip; (try go_simp); first | done | rfl)); go_simp; go_big_quiet_on)))); refine quietC_nil _ rfl ?_)
          go_wp2_with ((with_reducible refine wpList_unguard ?_ ?_); (focus rfl))
          refine ⟨fun u => Chg w0 u C m k i n v ∧ cellsZ u (some ⟨wE.heap.size, 0, none⟩) [4], fun _ h => h.1, ⟨HC2.out, HL.out⟩, ?_⟩
          unfold wpSt
          go_wp2_with ((with_reducible refine wpList_unguard ?_ ?_); (focus rfl))
          refine Calls.mono (chg_is w0 _ C m k i n v HC2.out hi _ 1 [4] 1 rfl HL.out (by simp)) ?_; rintro e w2 ⟨rfl, hb⟩
          replace HC := hid (HC2.out.below hb)
          clear hb HC2 HL
          rw [any1, HY.out]
          clear HY
          cases y with
          | false =>
            go_wp2_with ((with_reducible refine wpList_unguard ?_ ?_); (focus rfl))
            go_ret
            exact .inr ⟨by rw [HR.out]; simp, rfl, _, HC.out⟩
          | true =>
            have HR2 : Hid (m.drop i = some ((m.bad m.ac).act i)) := by show _ = _; rw [HR.out]; simp
            clear HR
            obtain ⟨a0, a1, a2, a3, a4, a5, a6, a7, a8, a9, aa, ab, ac, ad, ae, af, ag⟩ := HC.out.cells
            go_wp2_with ((with_reducible refine wpList_unguard ?_ ?_); (focus rfl))
            refine Calls.mono (chg_bad w0 _ C m k i n v HC.out m.ac (by have h1 := H1.out; have h2 := H2.out; rw [decide_eq_false_iff_not] at h1 h2; omega)) ?_; rintro e w4 ⟨rfl, h4⟩
            generalize m.bad m.ac = m1 at *
            clear a0 a1 a2 a3 a4 a5 a6 a7 a8 a9 aa ab ac ad ae af ag
            obtain ⟨a0, a1, a2, a3, a4, a5, a6, a7, a8, a9, aa, ab, ac, ad, ae, af, ag⟩ := h4.cells
            have f9 := h4.free 9
            have H4 := hid (h4.st (m' := m1.act i) 9 (.int .i64 i) rfl)
            clear HC h4
            go_wp2_with ((with_reducible refine wpList_unguard ?_ ?_); (focus rfl))
            go_ret
            exact .inl ⟨_, HR2.out, rfl, H4.out⟩
end Go.Proofs.Ytngkmlchblgmeaa
