/-
  meta: a change's told, slot and other; speaks, in the program.
-/
import Derived.Test.YtngkmlchblgmeaaMet3
namespace Go.Proofs.Ytngkmlchblgmeaa
open Go.RowKit Tri
set_option linter.unusedSimpArgs false

theorem any4 (s a b c d : Int) : ([a, b, c, d].any fun z => decide (s = z)) = decide (s = a ∨ s = b ∨ s = c ∨ s = d) := by simp [Bool.decide_or]
set_option maxHeartbeats 2000000 in
set_option maxRecDepth 100000 in
theorem meta_speaks (k : Int) (w : World) : Calls Try.prog 67 #[.int .i64 k] w fun e w' => e = .returned (.bool (speaksK k)) ∧ Below w.heap.size w w' := by
  have hb := (Below.refl w.heap.size w).alloc (Nat.le_refl _) (.cells #[.int .i64 12, .int .i64 13, .int .i64 110, .int .i64 111] 3)
  have HB := hid hb
  have HL := hid (cellsZ.new w [12, 13, 110, 111] #[.int .i64 12, .int .i64 13, .int .i64 110, .int .i64 111] 3 rfl)
  clear hb
  obtain ⟨x1, h1⟩ : ∃ x, decide (1 ≤ k) = x := ⟨_, rfl⟩
  obtain ⟨x2, h2⟩ : ∃ x, decide (k ≤ 7) = x := ⟨_, rfl⟩
  obtain ⟨x3, h3⟩ : ∃ x, decide (100 ≤ k) = x := ⟨_, rfl⟩
  obtain ⟨x4, h4⟩ : ∃ x, decide (k ≤ 105) = x := ⟨_, rfl⟩
  obtain ⟨y, hy⟩ : ∃ y, decide (k = 12 ∨ k = 13 ∨ k = 110 ∨ k = 111) = y := ⟨_, rfl⟩
  have HR : Hid (speaksK k = ((x1 && x2) || ((x3 && x4) || y))) := by
    show _ = _
    unfold speaksK
    rw [← h1, ← h2, ← h3, ← h4, ← hy, Bool.eq_iff_iff]
    simp only [Bool.or_eq_true, Bool.and_eq_true, decide_eq_true_eq]
  have HY := hid hy
  clear hy
  (go_enter Try.func67, Try.ntmps67; try simp only [List.append])
  cases x1 <;> cases x2 <;> cases x3 <;> cases x4
  all_goals
    first
    | (exfalso
       rw [decide_eq_false_iff_not] at h1 h3
       omega)
    | (exfalso
       rw [decide_eq_false_iff_not] at h2 h4
       omega)
    | skip
  all_goals
    go_wp2_with ((with_reducible refine wpList_unguard ?_ ?_); (focus rfl))
    first
    | (go_ret
       exact ⟨by rw [HR.out]; rfl, by go_grown⟩)
    | (refine Calls.mono (sl_ContainsZ k _ 4 4 [12, 13, 110, 111] _ rfl HL.out (by simp)) ?_; rintro e w' ⟨rfl, rfl⟩
       rw [any4, HY.out]
       go_wp2_with ((with_reducible refine wpList_unguard ?_ ?_); (focus rfl))
       go_ret
       exact ⟨by rw [HR.out]; cases y <;> rfl, HB.out⟩)
set_option maxHeartbeats 2000000 in
set_option maxRecDepth 100000 in
theorem chg_other (w0 w : World) (C : Nat) (m : Mt) (k i n v : Int) (h : Chg w0 w C m k i n v) (hk : k = 8 ∨ k = 9 ∨ k = 10 ∨ k = 11) :
    Calls Try.prog 68 #[.pointer (some ⟨C, 0, none⟩)] w fun e w' => chgR w0 C (m.other k v) k i n v e w' := by
  have HC := hid h
  clear h
  obtain ⟨a0, a1, a2, a3, a4, a5, a6, a7, a8, a9, aa, ab, ac, ad, ae, af, ag⟩ := HC.out.cells
  have fa := HC.out.free 10
  have fb := HC.out.free 11
  have fc := HC.out.free 12
  have HD := hid HC.out.drew
  rcases hk with rfl | rfl | rfl | rfl
  · obtain ⟨x, hx⟩ : ∃ x, decide (v ≤ m.fl) = x := ⟨_, rfl⟩
    have HR : Hid (m.other 8 v = if x = true then none else some { m with fl := v }) := by
      show _ = _
      rw [← hx]
      simp only [Mt.other, if_true, decide_eq_true_eq]
    (go_enter Try.func68, Try.ntmps68; try simp only [List.append])
    go_wp2_with ((with_reducible refine wpList_unguard ?_ ?_); (focus rfl))
    (refine wp_region_quietC (fun u => Chg w0 u C m 8 i n v) (by kernel_rfl) (by kernel_rfl) (HD.out) ?_; (repeat (first | go_big_quiet_skip | (go_big_quiet_want; first | (go_big_quiet_op; go_big_quiet_on) | (apply Exists.intro; refine And.intro (fun wq hq => ?_) ?_; (focus ((obtain ⟨a0, a1, a2, a3, a4, a5, a6, a7, a8, a9, aa, ab, ac, ad, ae, af, ag⟩ := hq.cells); (try go_simp); first | done | rfl | (fail))); go_simp; go_big_quiet_on)))); refine quietC_nil _ rfl ?_; intro wE hE)
    clear HC HD fa fb fc
    clear a0 a1 a2 a3 a4 a5 a6 a7 a8 a9 aa ab ac ad ae af ag
    have HC := hid hE
    have H4 := hid (hE.st (m' := { m with fl := v }) 10 (.int .i64 v) rfl)
    clear hE
    obtain ⟨a0, a1, a2, a3, a4, a5, a6, a7, a8, a9, aa, ab, ac, ad, ae, af, ag⟩ := HC.out.cells
    have fa := HC.out.free 10
    cases x
    · go_wp2_with ((with_reducible refine wpList_unguard ?_ ?_); (focus rfl))
      go_ret
      exact .inl ⟨_, by rw [HR.out]; simp, rfl, H4.out⟩
    · go_wp2_with ((with_reducible refine wpList_unguard ?_ ?_); (focus rfl))
      go_ret
      exact .inr ⟨by rw [HR.out]; simp, rfl, _, HC.out⟩
  · have HR : Hid (m.other 9 v = some { m with cu := v }) := by
      show _ = _
      simp only [Mt.other, if_true, Int.reduceEq, if_false]
    have H4 := hid (HC.out.st (m' := { m with cu := v }) 11 (.int .i64 v) rfl)
    (go_enter Try.func68, Try.ntmps68; try simp only [List.append])
    go_wp2_with ((with_reducible refine wpList_unguard ?_ ?_); (focus rfl))
    go_ret
    exact .inl ⟨_, HR.out, rfl, H4.out⟩
  · obtain ⟨x, hx⟩ : ∃ x, (v == 0) = x := ⟨_, rfl⟩
    obtain ⟨y, hy⟩ : ∃ y, (m.it != 0) = y := ⟨_, rfl⟩
    have HR : Hid (m.other 10 v = if x = true ∨ y = true then none else some { m with it := v }) := by
      show _ = _
      rw [← hx, ← hy]
      simp only [Mt.other, if_true, Int.reduceEq, if_false, beq_iff_eq, bne_iff_ne]
    have H4 := hid (HC.out.st (m' := { m with it := v }) 12 (.int .i64 v) rfl)
    (go_enter Try.func68, Try.ntmps68; try simp only [List.append])
    cases x <;> cases y
    all_goals
      go_wp2_with ((with_reducible refine wpList_unguard ?_ ?_); (focus rfl))
      go_ret
      first
      | exact .inl ⟨_, by rw [HR.out]; simp, rfl, H4.out⟩
      | exact .inr ⟨by rw [HR.out]; simp, rfl, _, HC.out⟩
  · obtain ⟨y, hy⟩ : ∃ y, (m.it == 0) = y := ⟨_, rfl⟩
    have HR : Hid (m.other 11 v = if y = true then none else some { m with it := 0 }) := by
      show _ = _
      rw [← hy]
      simp only [Mt.other, if_true, Int.reduceEq, if_false, beq_iff_eq]
    have H4 := hid (HC.out.st (m' := { m with it := 0 }) 12 (.int .i64 0) rfl)
    (go_enter Try.func68, Try.ntmps68; try simp only [List.append])
    cases y
    all_goals
      go_wp2_with ((with_reducible refine wpList_unguard ?_ ?_); (focus rfl))
      go_ret
      first
      | exact .inl ⟨_, by rw [HR.out]; simp, rfl, H4.out⟩
      | exact .inr ⟨by rw [HR.out]; simp, rfl, _, HC.out⟩
set_option maxHeartbeats 2000000 in
set_option maxRecDepth 100000 in
theorem chg_slot (w0 w : World) (C : Nat) (m : Mt) (k i n v : Int) (h : Chg w0 w C m k i n v) (hi : i = 0 ∨ i = 1 ∨ i = 2) (hk : k = 1 ∨ k = 2 ∨ k = 3 ∨ k = 4 ∨ k = 5 ∨ k = 6 ∨ k = 7 ∨ k = 12 ∨ k = 13) :
    Calls Try.prog 69 #[.pointer (some ⟨C, 0, none⟩)] w fun e w' => chgR w0 C (m.slot k i v) k i n v e w' := by
  have HC := hid h
  clear h
  have hgr := fun (w1 : World) (h1 : Chg w0 w1 C m k i n v) (x : Int) => h1.below ((Below.refl w1.heap.size w1).alloc (Nat.le_refl _) (.cells #[.int .i64 x] 3))
  have HGR := hid hgr
  clear hgr
  obtain ⟨a0, a1, a2, a3, a4, a5, a6, a7, a8, a9, aa, ab, ac, ad, ae, af, ag⟩ := HC.out.cells
  rcases hk with rfl | rfl | rfl | rfl | rfl | rfl | rfl | rfl | rfl
  · have HR : Hid (m.slot 1 i v = if m.idle i = true then some (m.set i 1 0 0) else none) := rfl
    (go_enter Try.func69, Try.ntmps69; try simp only [List.append])
    go_wp2_with ((with_reducible refine wpList_unguard ?_ ?_); (focus rfl))
    refine Calls.mono (chg_idle w0 w C m _ i n v HC.out hi) ?_; rintro e w1 ⟨rfl, h1⟩
    clear HC
    generalize m.idle i = z at *
    have HC := hid h1
    clear h1
    cases z with
    | false =>
      go_wp2_with ((with_reducible refine wpList_unguard ?_ ?_); (focus rfl))
      go_ret
      exact .inr ⟨HR.out, rfl, m, HC.out⟩
    | true =>
      go_wp2_with ((with_reducible refine wpList_unguard ?_ ?_); (focus rfl))
      refine Calls.mono (chg_set w0 w1 C m _ i n v HC.out hi 1 0 0) ?_; rintro e w2 ⟨rfl, h2⟩
      have H2 := hid h2
      clear h2
      go_wp2_with ((with_reducible refine wpList_unguard ?_ ?_); (focus rfl))
      go_ret
      exact .inl ⟨_, HR.out, rfl, H2.out⟩
  · obtain ⟨z, hz⟩ : ∃ z, decide (m.st i = 1) = z := ⟨_, rfl⟩
    have HR : Hid (m.slot 2 i v = if z = true then some (m.set i 2 v 0) else none) := by
      show _ = _
      rw [← hz]
      simp only [Mt.slot, if_true, Int.reduceEq, if_false, decide_eq_true_eq]
    have HZ := hid hz
    clear hz
    have hb := (Below.refl w.heap.size w).alloc (Nat.le_refl _) (.cells #[.int .i64 1] 3)
    have HC2 := hid (HC.out.below hb)
    have HL := hid (cellsZ.new w [1] #[.int .i64 1] 3 rfl)
    clear hb
    (go_enter Try.func69, Try.ntmps69; try simp only [List.append])
    go_wp2_with ((with_reducible refine wpList_unguard ?_ ?_); (focus rfl))
    refine Calls.mono (chg_is w0 _ C m 2 i n v HC2.out hi _ 1 [1] 1 rfl HL.out (by simp)) ?_; rintro e w1 ⟨rfl, hb⟩
    have HC3 := hid (HC2.out.below hb)
    clear hb HC2 HC HL
    clear a0 a1 a2 a3 a4 a5 a6 a7 a8 a9 aa ab ac ad ae af ag
    rw [any1, HZ.out]
    obtain ⟨a0, a1, a2, a3, a4, a5, a6, a7, a8, a9, aa, ab, ac, ad, ae, af, ag⟩ := HC3.out.cells
    cases z with
    | false =>
      go_wp2_with ((with_reducible refine wpList_unguard ?_ ?_); (focus rfl))
      go_ret
      exact .inr ⟨HR.out, rfl, m, HC3.out⟩
    | true =>
      go_wp2_with ((with_reducible refine wpList_unguard ?_ ?_); (focus rfl))
      refine Calls.mono (chg_set w0 w1 C m _ i n v HC3.out hi 2 v 0) ?_; rintro e w2 ⟨rfl, h2⟩
      have H2 := hid h2
      clear h2
      go_wp2_with ((with_reducible refine wpList_unguard ?_ ?_); (focus rfl))
      go_ret
      exact .inl ⟨_, HR.out, rfl, H2.out⟩
  · (go_enter Try.func69, Try.ntmps69; try simp only [List.append])
    go_wp2_with ((with_reducible refine wpList_unguard ?_ ?_); (focus rfl))
    refine Calls.mono (chg_try w0 w C m _ i n v HC.out hi) ?_; intro e w' hR
    rcases hR with ⟨m', ho, rfl, h'⟩ | ⟨ho, rfl, m', h'⟩
    · have HX := hid ho
      have H' := hid h'
      clear ho h'
      go_wp2_with ((with_reducible refine wpList_unguard ?_ ?_); (focus rfl))
      go_ret
      exact .inl ⟨m', HX.out, rfl, H'.out⟩
    · have HX := hid ho
      have H' := hid h'
      clear ho h'
      go_wp2_with ((with_reducible refine wpList_unguard ?_ ?_); (focus rfl))
      go_ret
      exact .inr ⟨HX.out, rfl, m', H'.out⟩
  · (go_enter Try.func69, Try.ntmps69; try simp only [List.append])
    go_wp2_with ((with_reducible refine wpList_unguard ?_ ?_); (focus rfl))
    refine Calls.mono (chg_confirm w0 w C m _ i n v HC.out hi) ?_; intro e w' hR
    rcases hR with ⟨m', ho, rfl, h'⟩ | ⟨ho, rfl, m', h'⟩
    · have HX := hid ho
      have H' := hid h'
      clear ho h'
      go_wp2_with ((with_reducible refine wpList_unguard ?_ ?_); (focus rfl))
      go_ret
      exact .inl ⟨m', HX.out, rfl, H'.out⟩
    · have HX := hid ho
      have H' := hid h'
      clear ho h'
      go_wp2_with ((with_reducible refine wpList_unguard ?_ ?_); (focus rfl))
      go_ret
      exact .inr ⟨HX.out, rfl, m', H'.out⟩
  · obtain ⟨z, hz⟩ : ∃ z, decide (m.st i = 0) = z := ⟨_, rfl⟩
    obtain ⟨y, hy⟩ : ∃ y, (i == 0) = y := ⟨_, rfl⟩
    have HR : Hid (m.slot 5 i v = if y = true ∨ z = true then none else some (m.bad i)) := by
      show _ = _
      rw [← hz, ← hy]
      simp only [Mt.slot, if_true, Int.reduceEq, if_false, decide_eq_true_eq, beq_iff_eq]
    have HZ := hid hz
    clear hz
    have hb := (Below.refl w.heap.size w).alloc (Nat.le_refl _) (.cells #[.int .i64 0] 3)
    have HC2 := hid (HC.out.below hb)
    have HL := hid (cellsZ.new w [0] #[.int .i64 0] 3 rfl)
    clear hb
    (go_enter Try.func69, Try.ntmps69; try simp only [List.append])
    cases y with
    | true =>
      go_wp2_with ((with_reducible refine wpList_unguard ?_ ?_); (focus rfl))
      go_ret
      exact .inr ⟨by rw [HR.out]; simp, rfl, m, HC.out⟩
    | false =>
      go_wp2_with ((with_reducible refine wpList_unguard ?_ ?_); (focus rfl))
      refine Calls.mono (chg_is w0 _ C m 5 i n v HC2.out hi _ 1 [0] 1 rfl HL.out (by simp)) ?_; rintro e w1 ⟨rfl, hb⟩
      have HC3 := hid (HC2.out.below hb)
      clear hb HC2 HC HL
      clear a0 a1 a2 a3 a4 a5 a6 a7 a8 a9 aa ab ac ad ae af ag
      rw [any1, HZ.out]
      obtain ⟨a0, a1, a2, a3, a4, a5, a6, a7, a8, a9, aa, ab, ac, ad, ae, af, ag⟩ := HC3.out.cells
      cases z with
      | true =>
        go_wp2_with ((with_reducible refine wpList_unguard ?_ ?_); (focus rfl))
        go_ret
        exact .inr ⟨by rw [HR.out]; simp, rfl, m, HC3.out⟩
      | false =>
        go_wp2_with ((with_reducible refine wpList_unguard ?_ ?_); (focus rfl))
        refine Calls.mono (chg_bad w0 w1 C m _ i n v HC3.out i hi) ?_; rintro e w2 ⟨rfl, h2⟩
        have H2 := hid h2
        clear h2
        go_wp2_with ((with_reducible refine wpList_unguard ?_ ?_); (focus rfl))
        go_ret
        exact .inl ⟨_, by rw [HR.out]; simp, rfl, H2.out⟩
  · have HR : Hid (m.slot 6 i v = if m.idle i = true then some (m.set i 0 0 0) else none) := rfl
    (go_enter Try.func69, Try.ntmps69; try simp only [List.append])
    go_wp2_with ((with_reducible refine wpList_unguard ?_ ?_); (focus rfl))
    refine Calls.mono (chg_idle w0 w C m _ i n v HC.out hi) ?_; rintro e w1 ⟨rfl, h1⟩
    clear HC
    generalize m.idle i = z at *
    have HC := hid h1
    clear h1
    cases z with
    | false =>
      go_wp2_with ((with_reducible refine wpList_unguard ?_ ?_); (focus rfl))
      go_ret
      exact .inr ⟨HR.out, rfl, m, HC.out⟩
    | true =>
      go_wp2_with ((with_reducible refine wpList_unguard ?_ ?_); (focus rfl))
      refine Calls.mono (chg_set w0 w1 C m _ i n v HC.out hi 0 0 0) ?_; rintro e w2 ⟨rfl, h2⟩
      have H2 := hid h2
      clear h2
      go_wp2_with ((with_reducible refine wpList_unguard ?_ ?_); (focus rfl))
      go_ret
      exact .inl ⟨_, HR.out, rfl, H2.out⟩
  · (go_enter Try.func69, Try.ntmps69; try simp only [List.append])
    go_wp2_with ((with_reducible refine wpList_unguard ?_ ?_); (focus rfl))
    refine Calls.mono (chg_activate w0 w C m _ i n v HC.out hi) ?_; intro e w' hR
    rcases hR with ⟨m', ho, rfl, h'⟩ | ⟨ho, rfl, m', h'⟩
    · have HX := hid ho
      have H' := hid h'
      clear ho h'
      go_wp2_with ((with_reducible refine wpList_unguard ?_ ?_); (focus rfl))
      go_ret
      exact .inl ⟨m', HX.out, rfl, H'.out⟩
    · have HX := hid ho
      have H' := hid h'
      clear ho h'
      go_wp2_with ((with_reducible refine wpList_unguard ?_ ?_); (focus rfl))
      go_ret
      exact .inr ⟨HX.out, rfl, m', H'.out⟩
  · obtain ⟨z, hz⟩ : ∃ z, decide (m.st i = 5 ∨ m.st i = 1) = z := ⟨_, rfl⟩
    obtain ⟨y, hy⟩ : ∃ y, (i == 0) = y := ⟨_, rfl⟩
    have HR : Hid (m.slot 12 i v = if y = true ∨ z = false then none else some (m.set i 4 v 0)) := by
      show _ = _
      rw [← hz, ← hy]
      simp only [Mt.slot, if_true, Int.reduceEq, if_false, decide_eq_false_iff_not, beq_iff_eq]
    have HZ := hid hz
    clear hz
    have hb := (Below.refl w.heap.size w).alloc (Nat.le_refl _) (.cells #[.int .i64 5, .int .i64 1] 3)
    have HC2 := hid (HC.out.below hb)
    have HL := hid (cellsZ.new w [5, 1] #[.int .i64 5, .int .i64 1] 3 rfl)
    clear hb
    (go_enter Try.func69, Try.ntmps69; try simp only [List.append])
    cases y with
    | true =>
      go_wp2_with ((with_reducible refine wpList_unguard ?_ ?_); (focus rfl))
      go_ret
      exact .inr ⟨by rw [HR.out]; simp, rfl, m, HC.out⟩
    | false =>
      go_wp2_with ((with_reducible refine wpList_unguard ?_ ?_); (focus rfl))
      refine Calls.mono (chg_is w0 _ C m 12 i n v HC2.out hi _ 2 [5, 1] 2 rfl HL.out (by simp)) ?_; rintro e w1 ⟨rfl, hb⟩
      have HC3 := hid (HC2.out.below hb)
      clear hb HC2 HC HL
      clear a0 a1 a2 a3 a4 a5 a6 a7 a8 a9 aa ab ac ad ae af ag
      rw [any2, HZ.out]
      obtain ⟨a0, a1, a2, a3, a4, a5, a6, a7, a8, a9, aa, ab, ac, ad, ae, af, ag⟩ := HC3.out.cells
      cases z with
      | false =>
        go_wp2_with ((with_reducible refine wpList_unguard ?_ ?_); (focus rfl))
        go_ret
        exact .inr ⟨by rw [HR.out]; simp, rfl, m, HC3.out⟩
      | true =>
        go_wp2_with ((with_reducible refine wpList_unguard ?_ ?_); (focus rfl))
        refine Calls.mono (chg_set w0 w1 C m _ i n v HC3.out hi 4 v 0) ?_; rintro e w2 ⟨rfl, h2⟩
        have H2 := hid h2
        clear h2
        go_wp2_with ((with_reducible refine wpList_unguard ?_ ?_); (focus rfl))
        go_ret
        exact .inl ⟨_, by rw [HR.out]; simp, rfl, H2.out⟩
  · (go_enter Try.func69, Try.ntmps69; try simp only [List.append])
    go_wp2_with ((with_reducible refine wpList_unguard ?_ ?_); (focus rfl))
    refine Calls.mono (chg_drop w0 w C m _ i n v HC.out hi) ?_; intro e w' hR
    rcases hR with ⟨m', ho, rfl, h'⟩ | ⟨ho, rfl, m', h'⟩
    · have HX := hid ho
      have H' := hid h'
      clear ho h'
      go_wp2_with ((with_reducible refine wpList_unguard ?_ ?_); (focus rfl))
      go_ret
      exact .inl ⟨m', HX.out, rfl, H'.out⟩
    · have HX := hid ho
      have H' := hid h'
      clear ho h'
      go_wp2_with ((with_reducible refine wpList_unguard ?_ ?_); (focus rfl))
      go_ret
      exact .inr ⟨HX.out, rfl, m', H'.out⟩
end Go.Proofs.Ytngkmlchblgmeaa
