/-
  tally.Open of a device that is up, and a geometry that fits.
-/
import Derived.Test.YtiicbbhjepkndaaTal4
import Derived.Test.YtiicbbhjepkndaaReg2
namespace Tri
open Go Go.RowKit
def opnS1 (s : FS) (n a : Nat) : FS := s.read n ((64 * a : Nat) : Int) 64
def opnS (s : FS) (n a b : Nat) : FS := opnS1 (opnS1 s n a) n b
def opnL (s : FS) (n a : Nat) : Nat := lead (s.dumpB n a)
theorem opnS1_b (s : FS) (n a : Nat) : (opnS1 s n a).b = s.b ∧ (opnS1 s n a).dn = s.dn ∧ (opnS1 s n a).lk = s.lk ∧ (opnS1 s n a).lf = s.lf ∧ (opnS1 s n a).m = s.m := by unfold opnS1 FS.read; split <;> exact ⟨rfl, rfl, rfl, rfl, rfl⟩
theorem opn_read (s : FS) (n a : Nat) (hd : s.dn = false) (ha : a < n) : s.readB n ((64 * a : Nat) : Int) 64 = s.dumpB n a ∧ Go.Proofs.Ytiicbbhjepkndaa.wrongE n s.dn ((64 * a : Nat) : Int) 64 = 0 := by
  have h : s.dn = false ∧ 0 ≤ ((64 * a : Nat) : Int) ∧ 0 ≤ (64 : Int) ∧ ((64 * a : Nat) : Int) + 64 ≤ 64 * n := ⟨hd, by omega, by omega, by omega⟩
  refine ⟨?_, Go.Proofs.Ytiicbbhjepkndaa.wrongE_of h⟩
  unfold FS.readB FS.dumpB
  rw [if_pos h, if_pos (by omega), Int.toNat_natCast, Int.toNat_natCast]
  rfl
end Tri
namespace Go.Proofs.Ytiicbbhjepkndaa
open Go.RowKit Tri

/-- Whether the store of a place has been done. -/
def TalN (T D : Nat) (a b : Int) (j : Nat) (x : Int) (w : World) : Prop := (j = 0 → TalP w T D x b 0 false) ∧ (j = 1 → TalP w T D a x 0 false)
def opnR (T D : Nat) (a b : Int) (j : Nat) (x : Int) (u v : World) : Prop := Out T (T + 1) u v ∧ (TalN T D a b j x u → TalN T D a b j x v)
theorem TalN.below {T D : Nat} {a b : Int} {j : Nat} {x : Int} {w w' : World} (h : TalN T D a b j x w) (hb : Below w.heap.size w w') : TalN T D a b j x w' := ⟨fun h0 => (h.1 h0).below hb, fun h0 => (h.2 h0).below hb⟩
theorem opnR.of {T D : Nat} {a b : Int} {j : Nat} {x : Int} {u v : World} (h : Below u.heap.size u v) : opnR T D a b j x u v := ⟨Out.of h, fun hu => hu.below h⟩
def opnV (g T D : Nat) (d p st a b : Int) (j : Nat) (x e : Int) (m : Nat) (v : Value) (w : World) : Prop := match m with
  | 0 | 8 => v = .pointer (some ⟨T, 0, none⟩)
  | 1 | 3 => v = .int .i64 (j : Nat)
  | 2 => v = .agg #[.int .i64 d, .int .i64 p, .int .i64 st]
  | 4 | 5 => v = .tuple #[.int .i64 x, .int .i64 e]
  | 6 => v = .int .i64 x
  | 7 => v = .int .i64 e
  | 9 => v = .pointer (some ⟨T, 1, none⟩)
  | 10 => v = .pointer (some ⟨T, 1 + j, none⟩)
  | 11 => TalN T D a b j x w
  | _ => True
theorem opnV_st (g T D : Nat) (d p st a b : Int) (j : Nat) (x e : Int) (m : Nat) (v : Value) (w w' : World) (hb : opnR T D a b j x w w') (h : opnV g T D d p st a b j x e m v w) : opnV g T D d p st a b j x e m v w' := by
  unfold opnV at *
  split at h <;> first | exact h | exact hb.2 h
set_option maxHeartbeats 8000000 in
set_option maxRecDepth 100000 in
theorem tal_Open_ok (i : DI) (n A : Nat) (s : FS) (d p st : Int) (w : World) (h : DevP w i n s) (hs : i64r st) (hd : s.dn = false) (hok : geoOk d p st = true) (hA : allI d p st = (A : Nat)) (hAn : A ≤ n) :
    Calls Try.prog 40 #[.pointer (some ⟨i.D, 0, none⟩), .agg #[.int .i64 d, .int .i64 p, .int .i64 st]] w fun e w' => ∃ T, e = .returned (.tuple #[.pointer (some ⟨T, 0, none⟩), .int .i64 0]) ∧ w.heap.size ≤ T ∧ T < w'.heap.size ∧
      TalP w' T i.D ((A - 2 : Nat) : Int) ((A - 1 : Nat) : Int) ((max (opnL s n (A - 2)) (opnL s n (A - 1)) : Nat) : Int) (decide (opnL s n (A - 2) = opnL s n (A - 1))) ∧ DevP w' i n (opnS s n (A - 2) (A - 1)) ∧ Out i.lo i.hi w w' := by
  obtain ⟨w1, hw1, -, hG, hB⟩ := geo_box w 64 d p st
  have HB := hid hB
  have HG := hid hG
  have HD := hid (h.below hB)
  have hn512 : n ≤ 512 := h.fs.2.2.2.1
  have c0 := hG.c0
  have c1 := hG.c1
  have c2 := hG.c2
  have hih : i.hi ≤ w.heap.size := h.hi
  clear hG hB h
  have HAl := fun w => hid (geo_All d p st w hs)
  have HR := fun w => hid (geo_Right d p st w)
  have HT := fun c w => hid (geo_Tally d p st c w hs)
  have hA27 : 27 ≤ A := by have := slot_le hok; unfold allI at hA; rw [if_pos hok] at hA; omega
  have hT0 : tallyI d p st 0 = ((A - 2 : Nat) : Int) := by unfold tallyI; rw [hok, hA]; simp; omega
  have hT1 : tallyI d p st 1 = ((A - 1 : Nat) : Int) := by unfold tallyI; rw [hok, hA]; simp; omega
  rw [hA] at HAl
  rw [hok] at HR
  have HTI := hid (And.intro hT0 hT1)
  clear hok hA hT0 hT1
  have hlt : decide ((n : Int) < A) = false := decide_eq_false (by omega)
  have hlt2 : decide (n < A) = false := decide_eq_false (by omega)
  have HDN := hid hd
  clear hd
  obtain ⟨a, ha⟩ : ∃ a, A - 2 = a := ⟨_, rfl⟩
  obtain ⟨b, hb⟩ : ∃ b, A - 1 = b := ⟨_, rfl⟩
  have han : a < n := by omega
  have hbn : b < n := by omega
  rw [ha, hb] at HTI ⊢
  clear ha hb hA27 hAn
  (go_enter Try.func40, Try.ntmps40; try simp only [List.append])
  go_wp2_with ((with_reducible refine wpList_unguard ?_ ?_); (focus rfl))
  (refine wp_region_quietC (fun w' => Below (w1).heap.size w1 w') (by kernel_rfl) (by kernel_rfl) ((Below.refl _ _).drew) ?_; (repeat (first | go_big_quiet_skip | (go_big_quiet_want; first | (go_big_quiet_op; go_big_quiet_on) | (apply Exists.intro; refine And.intro (fun wq hq => ?_) ?_; (focus ((have a0' := (hq.cell (block_lt_of_cell c0)).trans c0; have a1' := (hq.cell (block_lt_of_cell c1)).trans c1; have a2' := (hq.cell (block_lt_of_cell c2)).trans c2); (try go_simp); first | done | rfl | ((first | (go_at_call 86; refine Calls.mono (HR _).out ?_; rintro e w6 ⟨rfl, hb5⟩; exact ⟨rfl, hq.trans (hb5.mono hq.size)⟩) | (go_at_call 30; refine Calls.mono (dev_Sectors i n s _ (HD.out.below hq)) ?_; rintro e w6 ⟨rfl, rfl⟩; exact ⟨rfl, hq⟩) | (go_at_call 47; refine Calls.mono (HAl _).out ?_; rintro e w6 ⟨rfl, hb5⟩; exact ⟨rfl, hq.trans (hb5.mono hq.size)⟩))))); go_simp; go_big_quiet_on)))); refine quietC_nil _ rfl ?_; intro wE hE)
  have HG2 := hid (HG.out.below hE)
  have HD2 := hid (HD.out.below hE)
  have HB2 := hid (HB.out.trans (hE.mono HB.out.size))
  clear hE HG HD HB c0 c1 c2
  have hbT := (Below.refl wE.heap.size wE).alloc (Nat.le_refl _) (.cells #[.pointer (some ⟨i.D, 0, none⟩), .int .i64 0, .int .i64 0, .int .i64 0, .bool false] 149)
  have hTn : TalP (wE.alloc (.cells #[.pointer (some ⟨i.D, 0, none⟩), .int .i64 0, .int .i64 0, .int .i64 0, .bool false] 149)) wE.heap.size i.D 0 0 0 false := Blk.new wE _ _
  obtain ⟨w3, hw3⟩ : ∃ u, wE.alloc (.cells #[.pointer (some ⟨i.D, 0, none⟩), .int .i64 0, .int .i64 0, .int .i64 0, .bool false] 149) = u := ⟨_, rfl⟩
  rw [hw3] at hbT hTn
  have hs3 : w3.heap.size = wE.heap.size + 1 := by rw [← hw3]; simp
  have hbK := (Below.refl w3.heap.size w3).alloc (Nat.le_refl _) (.cells #[.int .i64 0, .int .i64 0] 143)
  have hKn : Blk (w3.alloc (.cells #[.int .i64 0, .int .i64 0] 143)) w3.heap.size 143 #[.int .i64 0, .int .i64 0] := Blk.new w3 _ _
  have HB4 := hid ((HB2.out.trans (hbT.mono HB2.out.size)).trans (hbK.mono (Nat.le_trans HB2.out.size hbT.size)))
  have HG4 := hid ((HG2.out.below hbT).below hbK)
  have HD4 := hid ((HD2.out.below hbT).below hbK)
  have HT4 := hid (hTn.below hbK)
  have HK4 := hid hKn
  rw [hs3] at HK4
  have hTw : w.heap.size ≤ wE.heap.size := HB2.out.size
  have hGT : w.heap.size < wE.heap.size := HG2.out.lt
  clear hbT hTn hbK hKn HG2 HD2 HB2
  go_wp2_with ((with_reducible refine wpList_unguard ?_ ?_); (focus rfl))
  generalize w3.alloc (.cells #[.int .i64 0, .int .i64 0] 143) = w4 at *
  obtain ⟨T, hT⟩ : ∃ T, wE.heap.size = T := ⟨_, rfl⟩
  rw [hT] at HK4 HT4 hTw hGT ⊢
  have HO4 : Hid (Out i.lo i.hi w w4) := Out.of HB4.out
  clear HB4 hT hw3 hlt hs3
  have hTi : i.hi ≤ T := by omega
  go_loopw [28] (fun v wr => ∃ k : Nat, k ≤ 2 ∧ v = .int .i64 k ∧ G3 wr w.heap.size 64 d p st ∧ Out i.lo i.hi w wr ∧
      ((k = 0 ∧ TalP wr T i.D 0 0 0 false ∧ Blk wr (T + 1) 143 #[.int .i64 0, .int .i64 0] ∧ DevP wr i n s) ∨
       (k = 1 ∧ TalP wr T i.D (a : Nat) 0 0 false ∧ Blk wr (T + 1) 143 #[.int .i64 (opnL s n a : Nat), .int .i64 0] ∧ DevP wr i n (opnS1 s n a)) ∨
       (k = 2 ∧ TalP wr T i.D (a : Nat) (b : Nat) 0 false ∧ Blk wr (T + 1) 143 #[.int .i64 (opnL s n a : Nat), .int .i64 (opnL s n b : Nat)] ∧ DevP wr i n (opnS s n a b)))) (fun v _ => 2 - (intOf v).toNat)
  case atStart => exact ⟨0, by omega, rfl, HG4.out, HO4.out, .inl ⟨rfl, HT4.out, HK4.out, HD4.out⟩⟩
  case round =>
    clear HG4 HO4 HT4 HK4 HD4
    obtain ⟨k, hk, rfl, hG, hO, hcase⟩ := hrel
    have HGr := hid hG
    have HOr := hid hO
    clear hG hO
    rcases hcase with ⟨rfl, hTl, hKb, hD⟩ | ⟨rfl, hTl, hKb, hD⟩ | ⟨rfl, hTl, hKb, hD⟩
    · have HDr := hid hD
      have HTr := hid hTl
      have HKr := hid hKb
      have g0 := HGr.out.c0
      have g1 := HGr.out.c1
      have g2 := HGr.out.c2
      clear hD hTl hKb
      have HRR : Hid (∀ u, opnR T i.D 0 0 0 (a : Nat) u u) := fun u => opnR.of (Below.refl _ _)
      have htrans : ∀ u v y, opnR T i.D 0 0 0 (a : Nat) u v → opnR T i.D 0 0 0 (a : Nat) v y → opnR T i.D 0 0 0 (a : Nat) u y := fun u v y h1 h2 => ⟨h1.1.trans h2.1, fun h => h2.2 (h1.2 h)⟩
      go_wp2_with ((with_reducible refine wpList_unguard ?_ ?_); (focus rfl))
      refine region_gen _ _ (fun u => Out T (T + 1) wr u ∧ (TalP u T i.D 0 0 0 false ∨ TalN T i.D 0 0 0 (a : Nat) u)) (opnR T i.D 0 0 0 (a : Nat)) HRR.out htrans (opnV w.heap.size T i.D d p st 0 0 0 (a : Nat) (tallyE d p st 0)) (by kernel_rfl) (by kernel_rfl) (by kernel_rfl) ⟨by decide, rfl⟩ ⟨(Out.refl _ _ _).drew, .inl HTr.out⟩ (opnV_st _ _ _ _ _ _ _ _ _ _ _) ?_ ?_
      · refine ⟨fun A w3 hC hu hd K hK => ?_, ?_⟩
        · exact op_tmp 6 _ rfl (hu 6 rfl) (hK _ _ rfl hC (HRR.out _))
        refine ⟨fun A w3 hC hu hd K hK => ?_, ?_⟩
        · exact op_tmp 8 _ rfl (hu 8 rfl) (hK _ _ rfl hC (HRR.out _))
        refine ⟨fun A w3 hC hu hd K hK => ?_, ?_⟩
        · have hG3 : G3 w3 w.heap.size 64 d p st := by unfold G3; rw [hC.1.block _ HGr.out.lt (.inl hGT)]; exact HGr.out
          have a0' := hG3.c0
          have a1' := hG3.c1
          have a2' := hG3.c2
          have h3 : A.tmps[3]?.getD undef = .pointer (some ⟨w.heap.size, 0, none⟩) := by have := hu 3 rfl; simpa using this
          clear hu hd
          go_simp
          exact hK _ _ rfl hC (HRR.out _)
        refine ⟨fun A w3 hC hu hd K hK => ?_, ?_⟩
        · exact op_tmp 8 _ rfl (hu 8 rfl) (hK _ _ rfl hC (HRR.out _))
        refine ⟨fun A w3 hC hu hd K hK => ?_, ?_⟩
        · have h1 : A.tmps[34]?.getD undef = Value.agg #[.int .i64 d, .int .i64 p, .int .i64 st] := by have this : A.tmps.getD 34 undef = Value.agg #[.int .i64 d, .int .i64 p, .int .i64 st] := hd ⟨2, .data⟩ (by simp) rfl _ _ rfl rfl; simpa using this
          have h2 : A.tmps[35]?.getD undef = Value.int .i64 0 := by have this : A.tmps.getD 35 undef = Value.int .i64 0 := hd ⟨3, .data⟩ (by simp) rfl _ _ rfl rfl; simpa using this
          clear hu hd
          go_simp
          refine Calls.mono (HT 0 w3).out ?_
          rintro e w5 ⟨rfl, hb5⟩
          rw [HTI.out.1]
          exact hK _ _ rfl ⟨hC.1.trans (Out.of hb5), hC.2.imp (fun h => h.below hb5) (fun h => h.below hb5)⟩ (opnR.of hb5)
        refine ⟨fun A w3 hC hu hd K hK => ?_, ?_⟩
        · exact op_tmp 36 _ rfl (hd ⟨4, .data⟩ (by simp) rfl _ _ rfl rfl) (hK _ _ rfl hC (HRR.out _))
        refine ⟨fun A w3 hC hu hd K hK => ?_, ?_⟩
        · have h1 : A.tmps[31]?.getD undef = Value.tuple #[.int .i64 (a : Nat), .int .i64 (tallyE d p st 0)] := by have this : A.tmps.getD 31 undef = Value.tuple #[.int .i64 (a : Nat), .int .i64 (tallyE d p st 0)] := hd ⟨5, .data⟩ (by simp) rfl _ _ rfl rfl; simpa using this
          clear hu hd
          go_simp
          exact hK _ _ rfl hC (HRR.out _)
        refine ⟨fun A w3 hC hu hd K hK => ?_, ?_⟩
        · have h1 : A.tmps[31]?.getD undef = Value.tuple #[.int .i64 (a : Nat), .int .i64 (tallyE d p st 0)] := by have this : A.tmps.getD 31 undef = Value.tuple #[.int .i64 (a : Nat), .int .i64 (tallyE d p st 0)] := hd ⟨5, .data⟩ (by simp) rfl _ _ rfl rfl; simpa using this
          clear hu hd
          go_simp
          exact hK _ _ rfl hC (HRR.out _)
        refine ⟨fun A w3 hC hu hd K hK => ?_, ?_⟩
        · have h1 : A.tmps[32]?.getD undef = Value.pointer (some ⟨T, 0, none⟩) := by have this : A.tmps.getD 32 undef = Value.pointer (some ⟨T, 0, none⟩) := hd ⟨0, .data⟩ (by simp) rfl _ _ rfl rfl; simpa using this
          clear hu hd
          go_simp
          exact hK _ _ rfl hC (HRR.out _)
        refine ⟨fun A w3 hC hu hd K hK => ?_, ?_⟩
        · have h1 : A.tmps[39]?.getD undef = Value.pointer (some ⟨T, 0, none⟩) := by have this : A.tmps.getD 39 undef = Value.pointer (some ⟨T, 0, none⟩) := hd ⟨8, .data⟩ (by simp) rfl _ _ rfl rfl; simpa using this
          clear hu hd
          go_simp
          exact hK _ _ rfl hC (HRR.out _)
        refine ⟨fun A w3 hC hu hd K hK => ?_, ?_⟩
        · have h1 : A.tmps[40]?.getD undef = Value.pointer (some ⟨T, 1, none⟩) := by have this : A.tmps.getD 40 undef = Value.pointer (some ⟨T, 1, none⟩) := hd ⟨9, .data⟩ (by simp) rfl _ _ rfl rfl; simpa using this
          have h2 : A.tmps[33]?.getD undef = Value.int .i64 0 := by have this : A.tmps.getD 33 undef = Value.int .i64 0 := hd ⟨1, .data⟩ (by simp) rfl _ _ rfl rfl; simpa using this
          clear hu hd
          go_simp
          exact hK _ _ rfl hC (HRR.out _)
        refine ⟨fun A w3 hC hu hd K hK => ?_, ?_⟩
        · have h1 : A.tmps[41]?.getD undef = Value.pointer (some ⟨T, 1 + 0, none⟩) := by have this : A.tmps.getD 41 undef = Value.pointer (some ⟨T, 1 + 0, none⟩) := hd ⟨10, .data⟩ (by simp) rfl _ _ rfl rfl; simpa using this
          have h2 : A.tmps[37]?.getD undef = Value.int .i64 (a : Nat) := by have this : A.tmps.getD 37 undef = Value.int .i64 (a : Nat) := hd ⟨6, .data⟩ (by simp) rfl _ _ rfl rfl; simpa using this
          have hcell : ∃ v, w3.cell? ⟨T, 1, none⟩ = some v := by
            rcases hC.2 with h | h
            · exact ⟨_, h.c1⟩
            · exact ⟨_, (h.1 rfl).c1⟩
          obtain ⟨v0, hv0⟩ := hcell
          have hfr : w3.frozen? ⟨T, 1, none⟩ = false := by
            rcases hC.2 with h | h
            · exact Blk.free h 1
            · exact Blk.free (h.1 rfl) 1
          have hNew : TalN T i.D 0 0 0 (a : Nat) (w3.setCell ⟨T, 1, none⟩ (.int .i64 (a : Nat))) := by
            have hset : TalP (w3.setCell ⟨T, 1, none⟩ (.int .i64 (a : Nat))) T i.D (a : Nat) 0 0 false := by
              rcases hC.2 with h | h
              · exact Blk.set h 1 _
              · exact Blk.set (h.1 rfl) 1 _
            exact ⟨fun h0 => hset, fun h0 => absurd h0 (by decide)⟩
          have hOut : Out T (T + 1) w3 (w3.setCell ⟨T, 1, none⟩ (.int .i64 (a : Nat))) := (Out.refl T (T + 1) w3).set ⟨T, 1, none⟩ _ (Nat.le_refl T) (Nat.lt_succ_self T)
          clear hu hd
          go_simp
          exact hK undef _ hNew ⟨hC.1.trans hOut, .inr hNew⟩ ⟨hOut, fun _ => hNew⟩
        trivial
      · intro vs u hC hRu hv hnone
        obtain ⟨_, hNew⟩ := hnone 11 _ rfl rfl
        have hNew : TalN T i.D 0 0 0 (a : Nat) u := hNew
        have HTu : Hid (TalP u T i.D (a : Nat) 0 0 false) := hNew.1 rfl
        have HGu : Hid (G3 u w.heap.size 64 d p st) := by show G3 _ _ _ _ _ _; unfold G3; rw [hC.1.block _ HGr.out.lt (.inl hGT)]; exact HGr.out
        have HKu : Hid (Blk u (T + 1) 143 #[.int .i64 0, .int .i64 0]) := by show Blk _ _ _ _; unfold Blk; rw [hC.1.block _ HKr.out.lt (.inr (Nat.le_refl _))]; exact HKr.out
        have HDu := hid (HDr.out.out hC.1 (.inr (by omega)))
        have HOu : Hid (Out i.lo i.hi w u) := by
          have h1 := HOr.out
          have h2 := hC.1
          exact ⟨h2.os.trans h1.os, h2.tape.trans h1.tape, h2.output.trans h1.output, Nat.le_trans h1.size h2.size, fun k hk ho => (h2.block k (Nat.lt_of_lt_of_le hk h1.size) (.inl (by omega))).trans (h1.block k hk ho)⟩
        clear hC hRu hv hnone hNew HTr HKr HDr HOr HGr g0 g1 g2 HRR htrans
        simp only [wrote_cons, wrote_none, wrote_nil]
        have c1 := HTu.out.c1
        have hrd := opn_read s n a (by exact HDN.out) (by omega)
        have hRd := dev_Read i n s u ((64 * a : Nat) : Int) 64 HDu.out (by omega) (by omega)
        rw [hrd.1, hrd.2] at hRd
        have HRd := hid hRd
        have hdl : (s.dumpB n a).length ≤ 64 := by unfold FS.dumpB; split <;> simp; omega
        clear hrd hRd
        go_wp2_with ((with_reducible refine wpList_unguard ?_ ?_); (focus rfl))
        rw [show ((a : Nat) : Int) * 64 = ((64 * a : Nat) : Int) from by omega]
        refine Calls.mono HRd.out ?_; rintro e w5 ⟨rfl, hD5, hO5⟩
        have HD5 : Hid (DevP w5 i n (opnS1 s n a)) := hD5
        have HT5 := hid (HTu.out.out hO5 (.inr (by omega)))
        have HG5 : Hid (G3 w5 w.heap.size 64 d p st) := by show G3 _ _ _ _ _ _; unfold G3; rw [hO5.block _ HGu.out.lt (.inr (by omega))]; exact HGu.out
        have HK5 : Hid (Blk w5 (T + 1) 143 #[.int .i64 0, .int .i64 0]) := by show Blk _ _ _ _; unfold Blk; rw [hO5.block _ HKu.out.lt (.inr (by omega))]; exact HKu.out
        have HO5 := hid (HOu.out.trans hO5)
        clear hD5 hO5 HTu HGu HKu HDu HOu HRd c1
        go_wp2_with ((with_reducible refine wpList_unguard ?_ ?_); (focus rfl))
        have hLe := tal_leading (ofB (s.dumpB n a)) w5 (by rw [ofB_size]; omega)
        rw [sb_ofB _ (by
          intro y hy
          unfold FS.dumpB at hy
          split at hy
          · have := HD5.out.fs.2.2.2.2.2.1 y
            rw [(opnS1_b s n a).1] at this
            exact this (List.mem_of_mem_drop (List.mem_of_mem_take hy))
          · cases hy)] at hLe
        have hLd : lead (s.dumpB n a) = opnL s n a := rfl
        rw [hLd] at hLe
        refine Calls.mono hLe ?_; rintro e w6 ⟨rfl, hb6⟩
        have HD6 := hid (HD5.out.below hb6)
        have HT6 := hid (HT5.out.below hb6)
        have HG6 := hid (HG5.out.below hb6)
        have HK6 := hid (Blk.below HK5.out hb6)
        have HO6 := hid (HO5.out.trans (Out.of hb6))
        clear hLe hb6 HD5 HT5 HG5 HK5 HO5 hLd
        have k0 := Blk.cell HK6.out 0 _ rfl
        have f0 := Blk.free HK6.out 0
        have HK7 := hid (Blk.set HK6.out 0 (.int .i64 (opnL s n a : Nat)))
        have hOK : Out (T + 1) (T + 2) w6 (w6.setCell ⟨T + 1, 0, none⟩ (.int .i64 (opnL s n a : Nat))) := (Out.refl (T + 1) (T + 2) w6).set ⟨T + 1, 0, none⟩ _ (Nat.le_refl _) (Nat.lt_succ_self _)
        have HD7 := hid (HD6.out.out hOK (.inr (by omega)))
        have HT7 := hid (HT6.out.out hOK (.inl (Nat.lt_succ_self _)))
        have HG7 : Hid (G3 (w6.setCell ⟨T + 1, 0, none⟩ (.int .i64 (opnL s n a : Nat))) w.heap.size 64 d p st) := by show G3 _ _ _ _ _ _; unfold G3; rw [hOK.block _ HG6.out.lt (.inl (by omega))]; exact HG6.out
        have HO7 : Hid (Out i.lo i.hi w (w6.setCell ⟨T + 1, 0, none⟩ (.int .i64 (opnL s n a : Nat)))) := by
          have h1 := HO6.out
          have h2 := hOK
          exact ⟨h2.os.trans h1.os, h2.tape.trans h1.tape, h2.output.trans h1.output, Nat.le_trans h1.size h2.size, fun k hk ho => (h2.block k (Nat.lt_of_lt_of_le hk h1.size) (.inl (by omega))).trans (h1.block k hk ho)⟩
        clear hOK HD6 HT6 HG6 HK6 HO6
        go_wp2_with ((with_reducible refine wpList_unguard ?_ ?_); (focus rfl))
        go_roundw
        case rel => exact ⟨1, by omega, by go_num, HG7.out, HO7.out, .inr (.inl ⟨rfl, HT7.out, HK7.out, HD7.out⟩)⟩
        case measure => simp [intOf]
    · have HDr := hid hD
      have HTr := hid hTl
      have HKr := hid hKb
      have g0 := HGr.out.c0
      have g1 := HGr.out.c1
      have g2 := HGr.out.c2
      clear hD hTl hKb
      have HRR : Hid (∀ u, opnR T i.D (a : Nat) 0 1 (b : Nat) u u) := fun u => opnR.of (Below.refl _ _)
      have htrans : ∀ u v y, opnR T i.D (a : Nat) 0 1 (b : Nat) u v → opnR T i.D (a : Nat) 0 1 (b : Nat) v y → opnR T i.D (a : Nat) 0 1 (b : Nat) u y := fun u v y h1 h2 => ⟨h1.1.trans h2.1, fun h => h2.2 (h1.2 h)⟩
      go_wp2_with ((with_reducible refine wpList_unguard ?_ ?_); (focus rfl))
      refine region_gen _ _ (fun u => Out T (T + 1) wr u ∧ (TalP u T i.D (a : Nat) 0 0 false ∨ TalN T i.D (a : Nat) 0 1 (b : Nat) u)) (opnR T i.D (a : Nat) 0 1 (b : Nat)) HRR.out htrans (opnV w.heap.size T i.D d p st (a : Nat) 0 1 (b : Nat) (tallyE d p st 1)) (by kernel_rfl) (by kernel_rfl) (by kernel_rfl) ⟨by decide, rfl⟩ ⟨(Out.refl _ _ _).drew, .inl HTr.out⟩ (opnV_st _ _ _ _ _ _ _ _ _ _ _) ?_ ?_
      · refine ⟨fun A w3 hC hu hd K hK => ?_, ?_⟩
        · exact op_tmp 6 _ rfl (hu 6 rfl) (hK _ _ rfl hC (HRR.out _))
        refine ⟨fun A w3 hC hu hd K hK => ?_, ?_⟩
        · exact op_tmp 8 _ rfl (hu 8 rfl) (hK _ _ rfl hC (HRR.out _))
        refine ⟨fun A w3 hC hu hd K hK => ?_, ?_⟩
        · have hG3 : G3 w3 w.heap.size 64 d p st := by unfold G3; rw [hC.1.block _ HGr.out.lt (.inl hGT)]; exact HGr.out
          have a0' := hG3.c0
          have a1' := hG3.c1
          have a2' := hG3.c2
          have h3 : A.tmps[3]?.getD undef = .pointer (some ⟨w.heap.size, 0, none⟩) := by have := hu 3 rfl; simpa using this
          clear hu hd
          go_simp
          exact hK _ _ rfl hC (HRR.out _)
        refine ⟨fun A w3 hC hu hd K hK => ?_, ?_⟩
        · exact op_tmp 8 _ rfl (hu 8 rfl) (hK _ _ rfl hC (HRR.out _))
        refine ⟨fun A w3 hC hu hd K hK => ?_, ?_⟩
        · have h1 : A.tmps[34]?.getD undef = Value.agg #[.int .i64 d, .int .i64 p, .int .i64 st] := by have this : A.tmps.getD 34 undef = Value.agg #[.int .i64 d, .int .i64 p, .int .i64 st] := hd ⟨2, .data⟩ (by simp) rfl _ _ rfl rfl; simpa using this
          have h2 : A.tmps[35]?.getD undef = Value.int .i64 1 := by have this : A.tmps.getD 35 undef = Value.int .i64 1 := hd ⟨3, .data⟩ (by simp) rfl _ _ rfl rfl; simpa using this
          clear hu hd
          go_simp
          refine Calls.mono (HT 1 w3).out ?_
          rintro e w5 ⟨rfl, hb5⟩
          rw [HTI.out.2]
          exact hK _ _ rfl ⟨hC.1.trans (Out.of hb5), hC.2.imp (fun h => h.below hb5) (fun h => h.below hb5)⟩ (opnR.of hb5)
        refine ⟨fun A w3 hC hu hd K hK => ?_, ?_⟩
        · exact op_tmp 36 _ rfl (hd ⟨4, .data⟩ (by simp) rfl _ _ rfl rfl) (hK _ _ rfl hC (HRR.out _))
        refine ⟨fun A w3 hC hu hd K hK => ?_, ?_⟩
        · have h1 : A.tmps[31]?.getD undef = Value.tuple #[.int .i64 (b : Nat), .int .i64 (tallyE d p st 1)] := by have this : A.tmps.getD 31 undef = Value.tuple #[.int .i64 (b : Nat), .int .i64 (tallyE d p st 1)] := hd ⟨5, .data⟩ (by simp) rfl _ _ rfl rfl; simpa using this
          clear hu hd
          go_simp
          exact hK _ _ rfl hC (HRR.out _)
        refine ⟨fun A w3 hC hu hd K hK => ?_, ?_⟩
        · have h1 : A.tmps[31]?.getD undef = Value.tuple #[.int .i64 (b : Nat), .int .i64 (tallyE d p st 1)] := by have this : A.tmps.getD 31 undef = Value.tuple #[.int .i64 (b : Nat), .int .i64 (tallyE d p st 1)] := hd ⟨5, .data⟩ (by simp) rfl _ _ rfl rfl; simpa using this
          clear hu hd
          go_simp
          exact hK _ _ rfl hC (HRR.out _)
        refine ⟨fun A w3 hC hu hd K hK => ?_, ?_⟩
        · have h1 : A.tmps[32]?.getD undef = Value.pointer (some ⟨T, 0, none⟩) := by have this : A.tmps.getD 32 undef = Value.pointer (some ⟨T, 0, none⟩) := hd ⟨0, .data⟩ (by simp) rfl _ _ rfl rfl; simpa using this
          clear hu hd
          go_simp
          exact hK _ _ rfl hC (HRR.out _)
        refine ⟨fun A w3 hC hu hd K hK => ?_, ?_⟩
        · have h1 : A.tmps[39]?.getD undef = Value.pointer (some ⟨T, 0, none⟩) := by have this : A.tmps.getD 39 undef = Value.pointer (some ⟨T, 0, none⟩) := hd ⟨8, .data⟩ (by simp) rfl _ _ rfl rfl; simpa using this
          clear hu hd
          go_simp
          exact hK _ _ rfl hC (HRR.out _)
        refine ⟨fun A w3 hC hu hd K hK => ?_, ?_⟩
        · have h1 : A.tmps[40]?.getD undef = Value.pointer (some ⟨T, 1, none⟩) := by have this : A.tmps.getD 40 undef = Value.pointer (some ⟨T, 1, none⟩) := hd ⟨9, .data⟩ (by simp) rfl _ _ rfl rfl; simpa using this
          have h2 : A.tmps[33]?.getD undef = Value.int .i64 1 := by have this : A.tmps.getD 33 undef = Value.int .i64 1 := hd ⟨1, .data⟩ (by simp) rfl _ _ rfl rfl; simpa using this
          clear hu hd
          go_simp
          exact hK _ _ rfl hC (HRR.out _)
        refine ⟨fun A w3 hC hu hd K hK => ?_, ?_⟩
        · have h1 : A.tmps[41]?.getD undef = Value.pointer (some ⟨T, 1 + 1, none⟩) := by have this : A.tmps.getD 41 undef = Value.pointer (some ⟨T, 1 + 1, none⟩) := hd ⟨10, .data⟩ (by simp) rfl _ _ rfl rfl; simpa using this
          have h2 : A.tmps[37]?.getD undef = Value.int .i64 (b : Nat) := by have this : A.tmps.getD 37 undef = Value.int .i64 (b : Nat) := hd ⟨6, .data⟩ (by simp) rfl _ _ rfl rfl; simpa using this
          have hcell : ∃ v, w3.cell? ⟨T, 2, none⟩ = some v := by
            rcases hC.2 with h | h
            · exact ⟨_, h.c2⟩
            · exact ⟨_, (h.2 rfl).c2⟩
          obtain ⟨v0, hv0⟩ := hcell
          have hfr : w3.frozen? ⟨T, 2, none⟩ = false := by
            rcases hC.2 with h | h
            · exact Blk.free h 2
            · exact Blk.free (h.2 rfl) 2
          have hNew : TalN T i.D (a : Nat) 0 1 (b : Nat) (w3.setCell ⟨T, 2, none⟩ (.int .i64 (b : Nat))) := by
            have hset : TalP (w3.setCell ⟨T, 2, none⟩ (.int .i64 (b : Nat))) T i.D (a : Nat) (b : Nat) 0 false := by
              rcases hC.2 with h | h
              · exact Blk.set h 2 _
              · exact Blk.set (h.2 rfl) 2 _
            exact ⟨fun h0 => absurd h0 (by decide), fun h0 => hset⟩
          have hOut : Out T (T + 1) w3 (w3.setCell ⟨T, 2, none⟩ (.int .i64 (b : Nat))) := (Out.refl T (T + 1) w3).set ⟨T, 2, none⟩ _ (Nat.le_refl T) (Nat.lt_succ_self T)
          clear hu hd
          go_simp
          exact hK undef _ hNew ⟨hC.1.trans hOut, .inr hNew⟩ ⟨hOut, fun _ => hNew⟩
        trivial
      · intro vs u hC hRu hv hnone
        obtain ⟨_, hNew⟩ := hnone 11 _ rfl rfl
        have hNew : TalN T i.D (a : Nat) 0 1 (b : Nat) u := hNew
        have HTu : Hid (TalP u T i.D (a : Nat) (b : Nat) 0 false) := hNew.2 rfl
        have HGu : Hid (G3 u w.heap.size 64 d p st) := by show G3 _ _ _ _ _ _; unfold G3; rw [hC.1.block _ HGr.out.lt (.inl hGT)]; exact HGr.out
        have HKu : Hid (Blk u (T + 1) 143 #[.int .i64 (opnL s n a : Nat), .int .i64 0]) := by show Blk _ _ _ _; unfold Blk; rw [hC.1.block _ HKr.out.lt (.inr (Nat.le_refl _))]; exact HKr.out
        have HDu := hid (HDr.out.out hC.1 (.inr (by omega)))
        have HOu : Hid (Out i.lo i.hi w u) := by
          have h1 := HOr.out
          have h2 := hC.1
          exact ⟨h2.os.trans h1.os, h2.tape.trans h1.tape, h2.output.trans h1.output, Nat.le_trans h1.size h2.size, fun k hk ho => (h2.block k (Nat.lt_of_lt_of_le hk h1.size) (.inl (by omega))).trans (h1.block k hk ho)⟩
        clear hC hRu hv hnone hNew HTr HKr HDr HOr HGr g0 g1 g2 HRR htrans
        simp only [wrote_cons, wrote_none, wrote_nil]
        have c1 := HTu.out.c2
        have hrd := opn_read (opnS1 s n a) n b (by rw [(opnS1_b s n a).2.1]; exact HDN.out) (by omega)
        have hRd := dev_Read i n (opnS1 s n a) u ((64 * b : Nat) : Int) 64 HDu.out (by omega) (by omega)
        rw [hrd.1, hrd.2] at hRd
        have HRd := hid hRd
        have hdl : ((opnS1 s n a).dumpB n b).length ≤ 64 := by unfold FS.dumpB; split <;> simp; omega
        clear hrd hRd
        go_wp2_with ((with_reducible refine wpList_unguard ?_ ?_); (focus rfl))
        rw [show ((b : Nat) : Int) * 64 = ((64 * b : Nat) : Int) from by omega]
        refine Calls.mono HRd.out ?_; rintro e w5 ⟨rfl, hD5, hO5⟩
        have HD5 : Hid (DevP w5 i n (opnS1 (opnS1 s n a) n b)) := hD5
        have HT5 := hid (HTu.out.out hO5 (.inr (by omega)))
        have HG5 : Hid (G3 w5 w.heap.size 64 d p st) := by show G3 _ _ _ _ _ _; unfold G3; rw [hO5.block _ HGu.out.lt (.inr (by omega))]; exact HGu.out
        have HK5 : Hid (Blk w5 (T + 1) 143 #[.int .i64 (opnL s n a : Nat), .int .i64 0]) := by show Blk _ _ _ _; unfold Blk; rw [hO5.block _ HKu.out.lt (.inr (by omega))]; exact HKu.out
        have HO5 := hid (HOu.out.trans hO5)
        clear hD5 hO5 HTu HGu HKu HDu HOu HRd c1
        go_wp2_with ((with_reducible refine wpList_unguard ?_ ?_); (focus rfl))
        have hLe := tal_leading (ofB ((opnS1 s n a).dumpB n b)) w5 (by rw [ofB_size]; omega)
        rw [sb_ofB _ (by
          intro y hy
          unfold FS.dumpB at hy
          split at hy
          · have := HD5.out.fs.2.2.2.2.2.1 y
            rw [(opnS1_b (opnS1 s n a) n b).1] at this
            exact this (List.mem_of_mem_drop (List.mem_of_mem_take hy))
          · cases hy)] at hLe
        have hLd : lead ((opnS1 s n a).dumpB n b) = opnL s n b := by unfold opnL; rw [dump_same (opnS1_b s n a).1]
        rw [hLd] at hLe
        refine Calls.mono hLe ?_; rintro e w6 ⟨rfl, hb6⟩
        have HD6 := hid (HD5.out.below hb6)
        have HT6 := hid (HT5.out.below hb6)
        have HG6 := hid (HG5.out.below hb6)
        have HK6 := hid (Blk.below HK5.out hb6)
        have HO6 := hid (HO5.out.trans (Out.of hb6))
        clear hLe hb6 HD5 HT5 HG5 HK5 HO5 hLd
        have k0 := Blk.cell HK6.out 1 _ rfl
        have f0 := Blk.free HK6.out 1
        have HK7 := hid (Blk.set HK6.out 1 (.int .i64 (opnL s n b : Nat)))
        have hOK : Out (T + 1) (T + 2) w6 (w6.setCell ⟨T + 1, 1, none⟩ (.int .i64 (opnL s n b : Nat))) := (Out.refl (T + 1) (T + 2) w6).set ⟨T + 1, 1, none⟩ _ (Nat.le_refl _) (Nat.lt_succ_self _)
        have HD7 := hid (HD6.out.out hOK (.inr (by omega)))
        have HT7 := hid (HT6.out.out hOK (.inl (Nat.lt_succ_self _)))
        have HG7 : Hid (G3 (w6.setCell ⟨T + 1, 1, none⟩ (.int .i64 (opnL s n b : Nat))) w.heap.size 64 d p st) := by show G3 _ _ _ _ _ _; unfold G3; rw [hOK.block _ HG6.out.lt (.inl (by omega))]; exact HG6.out
        have HO7 : Hid (Out i.lo i.hi w (w6.setCell ⟨T + 1, 1, none⟩ (.int .i64 (opnL s n b : Nat)))) := by
          have h1 := HO6.out
          have h2 := hOK
          exact ⟨h2.os.trans h1.os, h2.tape.trans h1.tape, h2.output.trans h1.output, Nat.le_trans h1.size h2.size, fun k hk ho => (h2.block k (Nat.lt_of_lt_of_le hk h1.size) (.inl (by omega))).trans (h1.block k hk ho)⟩
        clear hOK HD6 HT6 HG6 HK6 HO6
        go_wp2_with ((with_reducible refine wpList_unguard ?_ ?_); (focus rfl))
        go_roundw
        case rel => exact ⟨2, by omega, by go_num, HG7.out, HO7.out, .inr (.inr ⟨rfl, HT7.out, HK7.out, HD7.out⟩)⟩
        case measure => simp [intOf]
    · have HTr := hid hTl
      have HDr := hid hD
      have HOr' := HOr
      have k0 := Blk.cell hKb 0 _ rfl
      have k1 := Blk.cell hKb 1 _ rfl
      clear hTl hD hKb HOr'
      obtain ⟨la, hla⟩ : ∃ la, opnL s n a = la := ⟨_, rfl⟩
      obtain ⟨lb, hlb⟩ : ∃ lb, opnL s n b = lb := ⟨_, rfl⟩
      rw [hla] at k0
      rw [hlb] at k1
      have HLA := hid hla
      have HLB := hid hlb
      clear hla hlb
      rcases Nat.lt_trichotomy la lb with hlt | heq | hgt
      · have q1 : decide ((la : Int) < lb) = true := decide_eq_true (by omega)
        have q2 : ((la : Int) == lb) = false := beq_eq_false_iff_ne.2 (by omega)
        have q3 : (la : Int) < lb := by omega
        have hmx : ((max la lb : Nat) : Int) = (lb : Int) := by omega
        have hev : decide (la = lb) = false := decide_eq_false (by omega)
        have HEV := hid hev
        have HMX := hid hmx
        clear hev hmx
        have e3 := HTr.out.c3
        have f3 := Blk.free HTr.out 3
        have hT1 := HTr.out.setC (lb : Int)
        have e4 := hT1.c4
        have f4 := Blk.free hT1 4
        have HT2 := hid (hT1.setE false)
        have hO3 : Out T (T + 1) wr ((wr.setCell ⟨T, 3, none⟩ (.int .i64 (lb : Int))).setCell ⟨T, 4, none⟩ (.bool false)) := ((Out.refl T (T + 1) wr).set ⟨T, 3, none⟩ _ (Nat.le_refl T) (Nat.lt_succ_self T)).set ⟨T, 4, none⟩ _ (Nat.le_refl T) (Nat.lt_succ_self T)
        have HD3 := hid (HDr.out.out hO3 (.inr hTi))
        have HO3 : Hid (Out i.lo i.hi w ((wr.setCell ⟨T, 3, none⟩ (.int .i64 (lb : Int))).setCell ⟨T, 4, none⟩ (.bool false))) := by
          have h1 := HOr.out
          exact ⟨hO3.os.trans h1.os, hO3.tape.trans h1.tape, hO3.output.trans h1.output, Nat.le_trans h1.size hO3.size, fun k hk ho => (hO3.block k (Nat.lt_of_lt_of_le hk h1.size) (.inl (by omega))).trans (h1.block k hk ho)⟩
        clear hT1 hO3 HTr HDr HOr
        go_wp2_with ((with_reducible refine wpList_unguard ?_ ?_); (focus rfl))
        go_region
        go_wp2_with ((with_reducible refine wpList_unguard ?_ ?_); (focus rfl))
        go_ret2
        refine ⟨T, rfl, hTw, Blk.lt HT2.out, ?_, HD3.out.drew, HO3.out.drew⟩
        rw [HLA.out, HLB.out, HEV.out, HMX.out]
        exact HT2.out
      · subst heq
        have hmx : ((max la la : Nat) : Int) = (la : Int) := by omega
        have hev : decide (la = la) = true := decide_eq_true rfl
        have HEV := hid hev
        have HMX := hid hmx
        clear hev hmx
        have e3 := HTr.out.c3
        have f3 := Blk.free HTr.out 3
        have hT1 := HTr.out.setC (la : Int)
        have e4 := hT1.c4
        have f4 := Blk.free hT1 4
        have HT2 := hid (hT1.setE true)
        have hO3 : Out T (T + 1) wr ((wr.setCell ⟨T, 3, none⟩ (.int .i64 (la : Int))).setCell ⟨T, 4, none⟩ (.bool true)) := ((Out.refl T (T + 1) wr).set ⟨T, 3, none⟩ _ (Nat.le_refl T) (Nat.lt_succ_self T)).set ⟨T, 4, none⟩ _ (Nat.le_refl T) (Nat.lt_succ_self T)
        have HD3 := hid (HDr.out.out hO3 (.inr hTi))
        have HO3 : Hid (Out i.lo i.hi w ((wr.setCell ⟨T, 3, none⟩ (.int .i64 (la : Int))).setCell ⟨T, 4, none⟩ (.bool true))) := by
          have h1 := HOr.out
          exact ⟨hO3.os.trans h1.os, hO3.tape.trans h1.tape, hO3.output.trans h1.output, Nat.le_trans h1.size hO3.size, fun k hk ho => (hO3.block k (Nat.lt_of_lt_of_le hk h1.size) (.inl (by omega))).trans (h1.block k hk ho)⟩
        clear hT1 hO3 HTr HDr HOr
        go_wp2_with ((with_reducible refine wpList_unguard ?_ ?_); (focus rfl))
        go_region
        go_wp2_with ((with_reducible refine wpList_unguard ?_ ?_); (focus rfl))
        go_ret2
        refine ⟨T, rfl, hTw, Blk.lt HT2.out, ?_, HD3.out.drew, HO3.out.drew⟩
        rw [HLA.out, HLB.out, decide_eq_true (rfl : la = la), HMX.out]
        exact HT2.out
      · have q1 : decide ((la : Int) < lb) = false := decide_eq_false (by omega)
        have q2 : ((la : Int) == lb) = false := beq_eq_false_iff_ne.2 (by omega)
        have q3 : ¬ ((la : Int) < lb) := by omega
        have hmx : ((max la lb : Nat) : Int) = (la : Int) := by omega
        have hev : decide (la = lb) = false := decide_eq_false (by omega)
        have HEV := hid hev
        have HMX := hid hmx
        clear hev hmx
        have e3 := HTr.out.c3
        have f3 := Blk.free HTr.out 3
        have hT1 := HTr.out.setC (la : Int)
        have e4 := hT1.c4
        have f4 := Blk.free hT1 4
        have HT2 := hid (hT1.setE false)
        have hO3 : Out T (T + 1) wr ((wr.setCell ⟨T, 3, none⟩ (.int .i64 (la : Int))).setCell ⟨T, 4, none⟩ (.bool false)) := ((Out.refl T (T + 1) wr).set ⟨T, 3, none⟩ _ (Nat.le_refl T) (Nat.lt_succ_self T)).set ⟨T, 4, none⟩ _ (Nat.le_refl T) (Nat.lt_succ_self T)
        have HD3 := hid (HDr.out.out hO3 (.inr hTi))
        have HO3 : Hid (Out i.lo i.hi w ((wr.setCell ⟨T, 3, none⟩ (.int .i64 (la : Int))).setCell ⟨T, 4, none⟩ (.bool false))) := by
          have h1 := HOr.out
          exact ⟨hO3.os.trans h1.os, hO3.tape.trans h1.tape, hO3.output.trans h1.output, Nat.le_trans h1.size hO3.size, fun k hk ho => (hO3.block k (Nat.lt_of_lt_of_le hk h1.size) (.inl (by omega))).trans (h1.block k hk ho)⟩
        clear hT1 hO3 HTr HDr HOr
        go_wp2_with ((with_reducible refine wpList_unguard ?_ ?_); (focus rfl))
        go_region
        go_wp2_with ((with_reducible refine wpList_unguard ?_ ?_); (focus rfl))
        go_ret2
        refine ⟨T, rfl, hTw, Blk.lt HT2.out, ?_, HD3.out.drew, HO3.out.drew⟩
        rw [HLA.out, HLB.out, HEV.out, HMX.out]
        exact HT2.out
end Go.Proofs.Ytiicbbhjepkndaa
