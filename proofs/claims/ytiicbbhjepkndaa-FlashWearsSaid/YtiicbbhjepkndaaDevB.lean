/-
  A device: Copy.
-/
import Derived.Test.YtiicbbhjepkndaaDev9
import Derived.Test.YtiicbbhjepkndaaClone
import Derived.Test.YtiicbbhjepkndaaRegS
namespace Go.Proofs.Ytiicbbhjepkndaa
open Go.RowKit Tri

theorem rowP.ne {w : World} {B B' : Nat} {t t' : TypeId} {cs cs' : List Value} (h : rowP w B t cs) (h' : rowP w B' t' cs') (ht : t ≠ t') : B ≠ B' := by
  intro e
  subst e
  obtain ⟨_, _, h, _⟩ := h
  obtain ⟨_, _, h', _⟩ := h'
  rw [h] at h'
  simp only [Option.some.injEq, Obj.cells.injEq] at h'
  exact ht h'.2.1
def newRow (N n : Nat) (t : TypeId) (cs : List Value) (v : Value) (w : World) : Prop := ∃ g cap, v = .slice (some ⟨g, 0, none⟩) n cap ∧ N ≤ g ∧ n ≤ cap ∧ g < w.heap.size ∧ rowP w g t cs
theorem newRow.below {N n : Nat} {t : TypeId} {cs : List Value} {v : Value} {w w' : World} (h : newRow N n t cs v w) (hb : Below w.heap.size w w') : newRow N n t cs v w' := by
  obtain ⟨g, cap, rfl, h1, h2, h3, h4⟩ := h
  exact ⟨g, cap, rfl, h1, h2, Nat.lt_of_lt_of_le h3 hb.size, h4.below hb h3⟩
def cpyV (i : DI) (n : Nat) (s : FS) (N : Nat) (j : Nat) (v : Value) (w : World) : Prop := match j with
  | 0 | 1 | 5 | 6 => v = .pointer (some ⟨i.D, 0, none⟩)
  | 2 => v = .pointer (some ⟨i.D, 3, none⟩)
  | 7 => v = .pointer (some ⟨i.D, 4, none⟩)
  | 3 => v = .slice (some ⟨i.B, 0, none⟩) (64 * n) i.cb
  | 8 => v = .slice (some ⟨i.L, 0, none⟩) n i.cl
  | 4 => newRow N (64 * n) 5 (s.b.map fun x => Value.int .u8 (x : Nat)) v w
  | 9 => newRow N n 4 (s.lk.map Value.bool) v w
  | _ => True
theorem cpyV_st (i : DI) (n : Nat) (s : FS) (N : Nat) (j : Nat) (v : Value) (w w' : World) (hb : Below w.heap.size w w') (h : cpyV i n s N j v w) : cpyV i n s N j v w' := by
  unfold cpyV at *
  split at h <;> first | exact h | exact h.below hb
theorem dev_Copy_nil (w : World) :
    Calls Try.prog 27 #[.pointer none] w fun e w' => e = .returned (.pointer none) ∧ w = w' := by
  (go_enter Try.func27, Try.ntmps27; try simp only [List.append])
  go_wp2_with ((with_reducible refine wpList_unguard ?_ ?_); (focus rfl))
  go_ret
  exact ⟨rfl, rfl⟩
set_option maxHeartbeats 4000000 in
set_option maxRecDepth 100000 in
theorem dev_Copy (i : DI) (n : Nat) (s : FS) (w : World) (h : DevP w i n s) (hn : 0 < n) :
    Calls Try.prog 27 #[.pointer (some ⟨i.D, 0, none⟩)] w fun e w' => ∃ i' : DI, e = .returned (.pointer (some ⟨i'.D, 0, none⟩)) ∧ i'.lo = w.heap.size ∧ i'.hi = w'.heap.size ∧ DevP w' i' n s ∧ Below w.heap.size w w' := by
  have c0 := h.c0
  have c1 := h.c1
  have c2 := h.c2
  have c3 := h.c3
  have c4 := h.c4
  have c5 := h.c5
  have c6 := h.c6
  have c7 := h.c7
  have H := hid h
  clear h
  (go_enter Try.func27, Try.ntmps27; try simp only [List.append])
  go_wp2_with ((with_reducible refine wpList_unguard ?_ ?_); (focus rfl))
  have hb1 : Below w.heap.size w (w.alloc (.cells (devC i n s).toArray 114)) := (Below.refl _ _).alloc (Nat.le_refl _) _
  have H1 := hid (H.out.below hb1)
  have HT := hid (rowP.new w 114 (devC i n s).toArray)
  have HB1 := hid hb1
  have hsz1 : (w.alloc (.cells (devC i n s).toArray 114)).heap.size = w.heap.size + 1 := by simp
  clear hb1
  rw [show (.cells #[.int .i64 s.k, .int .u8 (s.m : Nat), .int .i64 s.lf, .slice (some ⟨i.B, 0, none⟩) (64 * n) i.cb, .slice (some ⟨i.L, 0, none⟩) n i.cl, .slice (some ⟨i.W, 0, none⟩) n i.cw, .bool s.dn, .int .i64 s.ops] 114 : Obj) = .cells (devC i n s).toArray 114 from rfl]
  generalize w.alloc (.cells (devC i n s).toArray 114) = w1 at *
  clear c0 c1 c2 c3 c4 c5 c6 c7
  have hbl : s.b.length = 64 * n := H1.out.fs.1
  have hll : s.lk.length = n := H1.out.fs.2.1
  have hwl : s.wr.length = n := H1.out.fs.2.2.1
  have hn5 : n ≤ 512 := H1.out.fs.2.2.2.1
  refine region_seq (m := 10) _ _ (fun w' => Below w1.heap.size w1 w') (fun a b => Below a.heap.size a b) (Below.refl _ _) (fun a b c h1 h2 => h1.trans (h2.mono h1.size)) (cpyV i n s w1.heap.size) (by kernel_rfl) (by kernel_rfl) (by kernel_rfl) (by decide) (by kernel_rfl) ⟨by decide, rfl⟩ ((Below.refl _ _).drew) (cpyV_st i n s _) ?_ ?_
  · refine ⟨fun A w3 hC hu hd K hK => ?_, ?_⟩
    · exact op_tmp 0 _ rfl (hu 0 rfl) (hK _ _ rfl hC (Below.refl _ _))
    refine ⟨fun A w3 hC hu hd K hK => ?_, ?_⟩
    · have h1 : A.tmps[9]?.getD undef = Value.pointer (some ⟨i.D, 0, none⟩) := by have this : A.tmps.getD 9 undef = Value.pointer (some ⟨i.D, 0, none⟩) := hd ⟨0, .data⟩ (by simp) rfl _ _ rfl rfl; simpa using this
      clear hu hd
      go_simp
      exact hK _ _ rfl hC (Below.refl _ _)
    refine ⟨fun A w3 hC hu hd K hK => ?_, ?_⟩
    · have h1 : A.tmps[10]?.getD undef = Value.pointer (some ⟨i.D, 0, none⟩) := by have this : A.tmps.getD 10 undef = Value.pointer (some ⟨i.D, 0, none⟩) := hd ⟨1, .data⟩ (by simp) rfl _ _ rfl rfl; simpa using this
      clear hu hd
      go_simp
      exact hK _ _ rfl hC (Below.refl _ _)
    refine ⟨fun A w3 hC hu hd K hK => ?_, ?_⟩
    · have h1 : A.tmps[11]?.getD undef = Value.pointer (some ⟨i.D, 3, none⟩) := by have this : A.tmps.getD 11 undef = Value.pointer (some ⟨i.D, 3, none⟩) := hd ⟨2, .data⟩ (by simp) rfl _ _ rfl rfl; simpa using this
      have hl := (H1.out.below hC).c3
      clear hu hd
      go_simp
      exact hK _ _ rfl hC (Below.refl _ _)
    refine ⟨fun A w3 hC hu hd K hK => ?_, ?_⟩
    · have h1 : A.tmps[12]?.getD undef = Value.slice (some ⟨i.B, 0, none⟩) (64 * n) i.cb := by have this : A.tmps.getD 12 undef = Value.slice (some ⟨i.B, 0, none⟩) (64 * n) i.cb := hd ⟨3, .data⟩ (by simp) rfl _ _ rfl rfl; simpa using this
      clear hu hd
      go_simp
      have hcl := cl_B i.B i.cb s.b w3 (H1.out.below hC).rb (by omega) (by omega)
      rw [hbl] at hcl
      refine hcl.mono ?_
      rintro e w5 ⟨g, cap, rfl, k1, k2, k3, k4, k5⟩
      exact hK _ _ ⟨g, cap, rfl, Nat.le_trans hC.size k1, k2, k3, k4⟩ (hC.trans (k5.mono hC.size)) k5
    refine ⟨fun A w3 hC hu hd K hK => ?_, ?_⟩
    · exact op_tmp 0 _ rfl (hu 0 rfl) (hK _ _ rfl hC (Below.refl _ _))
    refine ⟨fun A w3 hC hu hd K hK => ?_, ?_⟩
    · have h1 : A.tmps[14]?.getD undef = Value.pointer (some ⟨i.D, 0, none⟩) := by have this : A.tmps.getD 14 undef = Value.pointer (some ⟨i.D, 0, none⟩) := hd ⟨5, .data⟩ (by simp) rfl _ _ rfl rfl; simpa using this
      clear hu hd
      go_simp
      exact hK _ _ rfl hC (Below.refl _ _)
    refine ⟨fun A w3 hC hu hd K hK => ?_, ?_⟩
    · have h1 : A.tmps[15]?.getD undef = Value.pointer (some ⟨i.D, 0, none⟩) := by have this : A.tmps.getD 15 undef = Value.pointer (some ⟨i.D, 0, none⟩) := hd ⟨6, .data⟩ (by simp) rfl _ _ rfl rfl; simpa using this
      clear hu hd
      go_simp
      exact hK _ _ rfl hC (Below.refl _ _)
    refine ⟨fun A w3 hC hu hd K hK => ?_, ?_⟩
    · have h1 : A.tmps[16]?.getD undef = Value.pointer (some ⟨i.D, 4, none⟩) := by have this : A.tmps.getD 16 undef = Value.pointer (some ⟨i.D, 4, none⟩) := hd ⟨7, .data⟩ (by simp) rfl _ _ rfl rfl; simpa using this
      have hl := (H1.out.below hC).c4
      clear hu hd
      go_simp
      exact hK _ _ rfl hC (Below.refl _ _)
    refine ⟨fun A w3 hC hu hd K hK => ?_, ?_⟩
    · have h1 : A.tmps[17]?.getD undef = Value.slice (some ⟨i.L, 0, none⟩) n i.cl := by have this : A.tmps.getD 17 undef = Value.slice (some ⟨i.L, 0, none⟩) n i.cl := hd ⟨8, .data⟩ (by simp) rfl _ _ rfl rfl; simpa using this
      clear hu hd
      go_simp
      have hcl := cl_L i.L i.cl s.lk w3 (H1.out.below hC).rl (by omega) (by omega)
      rw [hll] at hcl
      refine hcl.mono ?_
      rintro e w5 ⟨g, cap, rfl, k1, k2, k3, k4, k5⟩
      exact hK _ _ ⟨g, cap, rfl, Nat.le_trans hC.size k1, k2, k3, k4⟩ (hC.trans (k5.mono hC.size)) k5
    trivial
  · intro vs w2 hC hbl2 hv
    obtain ⟨g1, cap1, h13, a1, a2, a3, a4⟩ : newRow w1.heap.size (64 * n) 5 (s.b.map fun x => Value.int .u8 (x : Nat)) (vs 13) w2 := hv 4 _ 13 (by decide) rfl rfl
    obtain ⟨g2, cap2, h18, b1, b2, b3, b4⟩ : newRow w1.heap.size n 4 (s.lk.map Value.bool) (vs 18) w2 := hv 9 _ 18 (by decide) rfl rfl
    clear hv
    refine seqW_wpList (ops' := #[]) _ _ _ (by kernel_rfl) ?_
    simp only [List.take_succ_cons, List.take_zero, List.drop_succ_cons, List.drop_zero, wrote_cons, wrote_nil]
    have HT2 := hid (HT.out.below hC (by omega))
    have ct1 := HT2.out.cell 3 _ rfl
    have ft1 := HT2.out.free 3 (by simp [devC])
    have HC := hid hC
    have HA4 := hid a4
    have HB4 := hid b4
    clear hC hbl2 a4 b4
    have hT3 := HT2.out.set 3 (.slice (some ⟨g1, 0, none⟩) (64 * n) cap1) (by simp [devC])
    have ct2 := hT3.cell 4 _ rfl
    have ft2 := hT3.free 4 (by simp [devC])
    have hT4 := hT3.set 4 (.slice (some ⟨g2, 0, none⟩) n cap2) (by simp [devC])
    have HT4 := hid hT4
    have hO3 : Out w.heap.size (w.heap.size + 1) w2 ((w2.setCell ⟨w.heap.size, 3, none⟩ (.slice (some ⟨g1, 0, none⟩) (64 * n) cap1)).setCell ⟨w.heap.size, 4, none⟩ (.slice (some ⟨g2, 0, none⟩) n cap2)) :=
      ((Out.refl _ _ w2).set ⟨w.heap.size, 3, none⟩ _ (Nat.le_refl w.heap.size) (Nat.lt_succ_self w.heap.size)).set ⟨w.heap.size, 4, none⟩ _ (Nat.le_refl w.heap.size) (Nat.lt_succ_self w.heap.size)
    have hD2 := H1.out.below HC.out
    have hDhi := H.out.hi
    have HD3 := hid (hD2.out hO3 (.inr hDhi))
    have HA5 := hid (HA4.out.out hO3 (.inr (by omega)))
    have HB5 := hid (HB4.out.out hO3 (.inr (by omega)))
    have HB6 : Hid (Below w.heap.size w ((w2.setCell ⟨w.heap.size, 3, none⟩ (.slice (some ⟨g1, 0, none⟩) (64 * n) cap1)).setCell ⟨w.heap.size, 4, none⟩ (.slice (some ⟨g2, 0, none⟩) n cap2))) :=
      Out.below hO3 (HB1.out.trans (HC.out.mono HB1.out.size)) (Nat.le_refl _)
    have c5 := HD3.out.c5
    obtain ⟨w3, hw3⟩ : ∃ u, (w2.setCell ⟨w.heap.size, 3, none⟩ (.slice (some ⟨g1, 0, none⟩) (64 * n) cap1)).setCell ⟨w.heap.size, 4, none⟩ (.slice (some ⟨g2, 0, none⟩) n cap2) = u := ⟨_, rfl⟩
    have hs32 : w2.heap.size ≤ w3.heap.size := by rw [← hw3]; exact hO3.size
    rw [hw3] at HD3 HA5 HB5 HT4 HB6 c5
    clear hT3 hT4 HT2 hO3 hD2 HA4 HB4 H1
    go_wp2_with ((with_reducible refine wpList_unguard ?_ ?_); (focus rfl))
    have hcl := cl_I i.W i.cw s.wr w3 HD3.out.rw (by omega) (by omega)
    rw [hwl] at hcl
    refine hcl.mono ?_
    rintro e w4 ⟨g3, cap3, rfl, k1, k2, k3, k4, k5⟩
    have HT5 := hid (HT4.out.below k5 (by have := HT4.out.lt; omega))
    have HA6 := hid (HA5.out.below k5 (by omega))
    have HB7 := hid (HB5.out.below k5 (by omega))
    have HB8 := hid (HB6.out.trans (k5.mono HB6.out.size))
    have HC3 := hid k4
    have hs43 := k5.size
    clear k4 k5 hcl HT4 HB6 HA5 HB5 ct1 ft1 ct2 ft2 hw3 c5
    have ct5 := HT5.out.cell 5 _ rfl
    have ft5 := HT5.out.free 5 (by simp [devC])
    have hO5 : Out w.heap.size (w.heap.size + 1) w4 (w4.setCell ⟨w.heap.size, 5, none⟩ (.slice (some ⟨g3, 0, none⟩) n cap3)) := (Out.refl _ _ w4).set ⟨w.heap.size, 5, none⟩ _ (Nat.le_refl w.heap.size) (Nat.lt_succ_self w.heap.size)
    have HT6 := hid (HT5.out.set 5 (.slice (some ⟨g3, 0, none⟩) n cap3) (by simp [devC]))
    have HA7 := hid (HA6.out.out hO5 (.inr (by omega)))
    have HB9 := hid (HB7.out.out hO5 (.inr (by omega)))
    have HC4 := hid (HC3.out.out hO5 (.inr (by omega)))
    have HBE := hid (Out.below hO5 HB8.out (Nat.le_refl _))
    have hg12 : g1 ≠ g2 := HA7.out.ne HB9.out (by decide)
    have hg13 : g1 ≠ g3 := HA7.out.ne HC4.out (by decide)
    have hg23 : g2 ≠ g3 := HB9.out.ne HC4.out (by decide)
    have hs5 : (w4.setCell ⟨w.heap.size, 5, none⟩ (.slice (some ⟨g3, 0, none⟩) n cap3)).heap.size = w4.heap.size := by simp
    have HFS := hid HD3.out.fs
    clear hO5 HT5 HA6 HB7 HC3 HB8 HD3
    go_wp2_with ((with_reducible refine wpList_unguard ?_ ?_); (focus rfl))
    go_ret
    refine ⟨⟨w.heap.size, w4.heap.size, w.heap.size, g1, g2, g3, cap1, cap2, cap3⟩, rfl, rfl, hs5.symm, ⟨HT6.out, HA7.out, HB9.out, HC4.out, ?_, by rw [hs5]; exact Nat.le_refl _, HFS.out, a2, b2, k2⟩, HBE.out⟩
    unfold DI.ok
    simp only
    have := HC4.out.lt
    have := HA7.out.lt
    have := HB9.out.lt
    omega
end Go.Proofs.Ytiicbbhjepkndaa
