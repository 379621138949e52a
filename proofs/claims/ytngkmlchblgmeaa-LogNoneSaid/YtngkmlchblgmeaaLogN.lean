/-
  LogNone, walked.
-/
import Derived.Test.YtngkmlchblgmeaaPak12
import Derived.Deep.RegionHeld3
namespace Go.Proofs.Ytngkmlchblgmeaa
open Go.RowKit Tri

theorem cells4_below {w w' : World} {B : Nat} {a b c d : Value} (h : w.cell? ⟨B, 0, none⟩ = some a ∧ w.cell? ⟨B, 1, none⟩ = some b ∧ w.cell? ⟨B, 2, none⟩ = some c ∧ w.cell? ⟨B, 3, none⟩ = some d) (hb : Below w.heap.size w w') :
    w'.cell? ⟨B, 0, none⟩ = some a ∧ w'.cell? ⟨B, 1, none⟩ = some b ∧ w'.cell? ⟨B, 2, none⟩ = some c ∧ w'.cell? ⟨B, 3, none⟩ = some d := by
  obtain ⟨h0, h1, h2, h3⟩ := h
  have hl := block_lt_of_cell h0
  exact ⟨(hb.cell (p := ⟨B, 0, none⟩) hl).trans h0, (hb.cell (p := ⟨B, 1, none⟩) hl).trans h1, (hb.cell (p := ⟨B, 2, none⟩) hl).trans h2, (hb.cell (p := ⟨B, 3, none⟩) hl).trans h3⟩
theorem bl_a {a b c : World} {o : Obj} (hb : Below a.drew.heap.size a.drew b) (h9 : Below (b.alloc o).heap.size (b.alloc o) c) : Below a.heap.size a c := by
  have h0 : Below a.heap.size a a.drew := (Below.refl _ _).drew
  have h1 := h0.trans (hb.mono (Nat.le_refl _))
  have h2 := h1.alloc h1.size o
  exact h2.trans (h9.mono h2.size)
theorem bl_b {a b c : World} {o : Obj} (hb : Below (a.drew.alloc o).heap.size (a.drew.alloc o) b) (h9 : Below b.heap.size b c) : Below a.heap.size a c := by
  have h0 : Below a.heap.size a a.drew := (Below.refl _ _).drew
  have h1 := h0.alloc (Nat.le_refl _) o
  have h2 := h1.trans (hb.mono h1.size)
  exact h2.trans (h9.mono h2.size)
theorem bl_c {a b c : World} {lo hi : Nat} (hb : Below a.heap.size a b) (ho : Out lo hi b c) (hlo : a.heap.size ≤ lo) : Below a.heap.size a c := ho.below hb hlo
theorem cells3_below {w w' : World} {B : Nat} {a b c : Value} (h : w.cell? ⟨B, 0, none⟩ = some a ∧ w.cell? ⟨B, 1, none⟩ = some b ∧ w.cell? ⟨B, 2, none⟩ = some c) (hb : Below w.heap.size w w') :
    w'.cell? ⟨B, 0, none⟩ = some a ∧ w'.cell? ⟨B, 1, none⟩ = some b ∧ w'.cell? ⟨B, 2, none⟩ = some c := by
  obtain ⟨h0, h1, h2⟩ := h
  have hl := block_lt_of_cell h0
  exact ⟨(hb.cell (p := ⟨B, 0, none⟩) hl).trans h0, (hb.cell (p := ⟨B, 1, none⟩) hl).trans h1, (hb.cell (p := ⟨B, 2, none⟩) hl).trans h2⟩
theorem cells3_out {w w' : World} {B lo hi : Nat} {a b c : Value} (h : w.cell? ⟨B, 0, none⟩ = some a ∧ w.cell? ⟨B, 1, none⟩ = some b ∧ w.cell? ⟨B, 2, none⟩ = some c) (ho : Out lo hi w w') (hB : B < lo) :
    w'.cell? ⟨B, 0, none⟩ = some a ∧ w'.cell? ⟨B, 1, none⟩ = some b ∧ w'.cell? ⟨B, 2, none⟩ = some c := by
  obtain ⟨h0, h1, h2⟩ := h
  have hl := block_lt_of_cell h0
  have e := ho.block B hl (.inl hB)
  refine ⟨Eq.trans ?_ h0, Eq.trans ?_ h1, Eq.trans ?_ h2⟩ <;> (unfold World.cell?; simp only [e])
/-- The error that Open tells on a blank device. -/
def wantG (d p st : Int) : Int := if geoOk d p st = true ∧ allI d p st ≤ 27 then 14 else 1
theorem geo_one {d p st : Int} (h : geoOk d p st = true) (ha : allI d p st ≤ 27) : d = 1 ∧ p = 2 ∧ st = 1 := by
  have h3 := slot_le h
  obtain ⟨h1, h2, h4⟩ := geoOk_iff.1 h
  unfold allI at ha
  rw [if_pos h] at ha
  have a2 : 3 * st ≤ (d + p) * st := Int.mul_le_mul_of_nonneg_right (by omega) (by omega)
  have h5 : st = 1 := by omega
  subst h5
  omega
theorem log_OpenN (i : DI) (d p st : Int) (w : World) (hD : DevP w i 27 (newS 27)) (hs : i64r st) :
    Calls Try.prog 13 #[.pointer (some ⟨i.D, 0, none⟩), .agg #[.int .i64 d, .int .i64 p, .int .i64 st]] w fun e w' => e = .returned (.tuple #[.pointer none, .int .i64 (wantG d p st)]) ∧ Out i.lo i.hi w w' := by
  by_cases hw : geoOk d p st = true ∧ allI d p st ≤ 27
  · obtain ⟨rfl, rfl, rfl⟩ := geo_one hw.1 hw.2
    refine Calls.mono (log_Open i (newS 27) w hD rfl) ?_
    rintro e w7 hpost
    unfold OpenPost at hpost
    rw [outH_blank (newS 27) 0 (new_blank 0 (by omega)), outH_blank (newS 27) 1 (new_blank 1 (by omega))] at hpost
    obtain ⟨hx, rfl, hrd, hno, -⟩ := hpost
    exact ⟨hno rfl, hrd.out⟩
  · refine Calls.mono (log_Open_no i 27 (newS 27) d p st w hD hs ?_) ?_
    · by_cases hg : geoOk d p st = true
      · exact .inr (by have : ¬ allI d p st ≤ 27 := fun h => hw ⟨hg, h⟩; omega)
      · exact .inl (by simpa using hg)
    · rintro e w7 ⟨rfl, hb⟩
      exact ⟨by unfold wantG; rw [if_neg hw], Out.of hb⟩
set_option maxHeartbeats 4000000 in
set_option maxRecDepth 100000 in
theorem logNone.walk (x00 x01 x02 x03 : Int) (x10 x11 x12 : Int) (w : World) (w0 : (Lit.int .i64 x00).wf = true ∧ (Lit.int .i64 x01).wf = true ∧ (Lit.int .i64 x02).wf = true ∧ (Lit.int .i64 x03).wf = true) (w1 : Tri.i64ok x10 ∧ Tri.i64ok x11 ∧ Tri.i64ok x12) :
    Calls Try.prog 4 #[.agg #[.int .i64 x00, .int .i64 x01, .int .i64 x02, .int .i64 x03], .agg #[.int .i64 x10, .int .i64 x11, .int .i64 x12]] w fun e w' => e = .returned (.bool true) ∧ Below w.heap.size w w' := by
  have hR0 : R4 (w.alloc (.cells #[.int .i64 x00, .int .i64 x01, .int .i64 x02, .int .i64 x03] 37)) w.heap.size x00 x01 x02 x03 := heap_alloc_new w _
  have hb0 := (Below.refl w.heap.size w).alloc (Nat.le_refl _) (.cells #[.int .i64 x00, .int .i64 x01, .int .i64 x02, .int .i64 x03] 37)
  obtain ⟨wa, hwa⟩ : ∃ u, w.alloc (.cells #[.int .i64 x00, .int .i64 x01, .int .i64 x02, .int .i64 x03] 37) = u := ⟨_, rfl⟩
  rw [hwa] at hR0 hb0
  obtain ⟨wb, hwb, -, hG, hB⟩ := geo_box wa 39 x10 x11 x12
  have HG := hid hG
  have HR := hid (hR0.below hB)
  have HB := hid (hb0.trans (hB.mono hb0.size))
  have HS : Hid (i64r x12) := w1.2.2
  have hza := hR0.lt
  clear hG hB hR0 hb0 w0 w1
  (go_enter Try.func4, Try.ntmps4; try simp only [List.append])
  go_wp2_with ((with_reducible refine wpList_unguard ?_ ?_); (focus rfl))
  refine Calls.mono (law15_awake _) ?_; rintro e w2 ⟨rfl, hb⟩
  replace HG := hid (HG.out.below hb)
  replace HR := hid (HR.out.below hb)
  (replace HB := hid (HB.out.trans (hb.mono HB.out.size)); clear hb)
  go_wp2_with ((with_reducible refine wpList_unguard ?_ ?_); (focus rfl))
  refine Calls.mono (law15_Geo w2) ?_; rintro e w3 ⟨rfl, hb⟩
  replace HG := hid (HG.out.below hb)
  replace HR := hid (HR.out.below hb)
  (replace HB := hid (HB.out.trans (hb.mono HB.out.size)); clear hb)
  go_wp2_with ((with_reducible refine wpList_unguard ?_ ?_); (focus rfl))
  refine Calls.mono (log_Open_nil 1 2 1 w3) ?_; rintro e w4 ⟨rfl, hb⟩
  replace HG := hid (HG.out.below hb)
  replace HR := hid (HR.out.below hb)
  (replace HB := hid (HB.out.trans (hb.mono HB.out.size)); clear hb)
  go_wp2_with ((with_reducible refine wpList_unguard ?_ ?_); (focus rfl))
  refine Calls.mono (law15_blank w4) ?_; rintro e w5 ⟨i, rfl, hwz, hD, hb⟩
  have hwl : wa.heap.size < i.lo := Nat.lt_of_lt_of_le HG.out.lt hwz
  replace HG := hid (HG.out.below hb)
  replace HR := hid (HR.out.below hb)
  have HD := hid hD
  have hwi : w.heap.size ≤ i.lo := Nat.le_trans HB.out.size hwz
  clear hD hwz
  (replace HB := hid (HB.out.trans (hb.mono HB.out.size)); clear hb)
  go_wp2_with ((with_reducible refine wpList_unguard ?_ ?_); (focus rfl))
  refine Calls.mono (law15_Geo w5) ?_; rintro e w6 ⟨rfl, hb⟩
  replace HG := hid (HG.out.below hb)
  replace HR := hid (HR.out.below hb)
  replace HD := hid (HD.out.below hb)
  (replace HB := hid (HB.out.trans (hb.mono HB.out.size)); clear hb)
  go_wp2_with ((with_reducible refine wpList_unguard ?_ ?_); (focus rfl))
  refine Calls.mono (log_Open i (newS 27) w6 HD.out rfl) ?_; rintro e w7 hpost
  unfold OpenPost at hpost
  rw [outH_blank (newS 27) 0 (new_blank 0 (by omega)), outH_blank (newS 27) 1 (new_blank 1 (by omega))] at hpost
  obtain ⟨hx, rfl, hrd, hno, -⟩ := hpost
  obtain rfl := hno rfl
  have hG7 : G3 w7 wa.heap.size 39 x10 x11 x12 := by
    have h1 := HG.out
    unfold G3 at h1 ⊢
    rw [hrd.out.block _ (Array.getElem?_eq_some_iff.1 h1).1 (.inl hwl)]; exact h1
  have hR7 : R4 w7 w.heap.size x00 x01 x02 x03 := HR.out.outS hrd.out (.inl (by omega))
  have HB7 := hid (hrd.out.belowB HB.out hwi)
  replace HB := HB7
  replace HG := hid hG7
  replace HR := hid hR7
  clear hG7 hR7 HB7 hrd hno HD
  go_upto_region 5 with fail
  go_cut [9, 10] from 28 to 35 (fun a b u => a = .pointer none ∧ b = .int .i64 1 ∧ Below w7.heap.size w7 u)
  case first =>
    have r0 := HR.out.c0
    have r1 := HR.out.c1
    have r2 := HR.out.c2
    have r3 := HR.out.c3
    go_region_held3 (fun u => u.cell? ⟨w.heap.size, 0, none⟩ = some (.int .i64 x00) ∧ u.cell? ⟨w.heap.size, 1, none⟩ = some (.int .i64 x01) ∧ u.cell? ⟨w.heap.size, 2, none⟩ = some (.int .i64 x02) ∧ u.cell? ⟨w.heap.size, 3, none⟩ = some (.int .i64 x03)) ((first | go_keep | exact cells4_below (by assumption) (by assumption) | exact cells4_below ⟨by assumption, by assumption, by assumption, by assumption⟩ (by assumption))) (first | (go_at_call 14; refine Calls.mono (law15_Geo _) ?_; rintro e w8 ⟨rfl, hb⟩) | (go_at_call 16; refine Calls.mono (log_Format_nil 1 2 1 _ _) ?_; rintro e w9 ⟨rfl, hb9⟩))
    all_goals (go_wp2_with fail)
    all_goals go_meet
    all_goals (refine ⟨rfl, rfl, ?_⟩; first | exact bl_a hb hb9 | exact bl_b hb hb9)
  case rest =>
    obtain ⟨rfl, rfl, hb⟩ := hcut
    replace HG := hid (HG.out.below hb)
    replace HR := hid (HR.out.below hb)
    replace HB := hid (HB.out.trans (hb.mono HB.out.size))
    have hZ := HG.out.lt
    clear hb
    go_upto_region 6 with fail
    go_cut [11, 12] from 35 to 40 (fun a b u => a = .pointer none ∧ b = .int .i64 (wantG x10 x11 x12) ∧ Below wc.heap.size wc u)
    case first =>
      have c0 := HG.out.c0
      have c1 := HG.out.c1
      have c2 := HG.out.c2
      have hO := fun i w h => hid (log_OpenN i x10 x11 x12 w h HS.out)
      go_region_held3 (fun u => u.cell? ⟨wa.heap.size, 0, none⟩ = some (.int .i64 x10) ∧ u.cell? ⟨wa.heap.size, 1, none⟩ = some (.int .i64 x11) ∧ u.cell? ⟨wa.heap.size, 2, none⟩ = some (.int .i64 x12)) ((first | go_keep | exact cells3_below (by assumption) (by assumption) | exact cells3_below ⟨by assumption, by assumption, by assumption⟩ (by assumption) | exact cells3_out (by assumption) (by assumption) (by assumption))) (first | (go_at_call 15; refine Calls.mono (law15_blank _) ?_; rintro e w8 ⟨i, rfl, hlo, hD, hb⟩; have hlz : wa.heap.size < i.lo := Nat.lt_of_lt_of_le hZ hlo) | (go_at_call 13; refine Calls.mono (hO _ _ hD).out ?_; rintro e w9 ⟨rfl, hb9⟩))
      all_goals (go_wp2_with fail)
      all_goals go_meet
      all_goals exact ⟨rfl, rfl, (Below.refl _ _).drew.trans ((bl_c hb hb9 hlo).mono (Nat.le_refl _))⟩
    case rest =>
      obtain ⟨rfl, rfl, hb⟩ := hcut
      replace HG := hid (HG.out.below hb)
      replace HR := hid (HR.out.below hb)
      replace HB := hid (HB.out.trans (hb.mono HB.out.size))
      clear hb
      have c0 := HG.out.c0
      have c1 := HG.out.c1
      have c2 := HG.out.c2
      have HQ := fun w => hid (ref09_Right x10 x11 x12 w)
      have HA := fun w => hid (geo_All x10 x11 x12 w HS.out)
      have HA1 := fun w => hid (geo_All 1 2 1 w (by unfold i64r; omega))
      rw [show allI 1 2 1 = 27 from by decide] at HA1
      cases hok : geoOk x10 x11 x12 with
      | false =>
        have hW : wantG x10 x11 x12 = 1 := by unfold wantG; rw [if_neg (by rw [hok]; simp)]
        rw [hok] at HQ
        rw [hW]
        clear hok
        go_wp2_with ((with_reducible refine wpList_unguard ?_ ?_); (focus rfl))
        refine Calls.mono (HQ _).out ?_; rintro e wp ⟨rfl, hb⟩
        replace HR := hid (HR.out.below hb)
        (replace HB := hid (HB.out.trans (hb.mono HB.out.size)); clear hb)
        have r0 := HR.out.c0
        have r1 := HR.out.c1
        have r2 := HR.out.c2
        have r3 := HR.out.c3
        go_wp2_with ((with_reducible refine wpList_unguard ?_ ?_); (focus rfl))
        refine Calls.mono (log_Append_nil x00 x01 x02 x03 _) ?_; rintro e wq ⟨rfl, hb⟩
        replace HR := hid (HR.out.below hb)
        (replace HB := hid (HB.out.trans (hb.mono HB.out.size)); clear hb)
        clear r0 r1 r2 r3
        have r0 := HR.out.c0
        have r1 := HR.out.c1
        have r2 := HR.out.c2
        have r3 := HR.out.c3
        go_wp2_with ((with_reducible refine wpList_unguard ?_ ?_); (focus rfl))
        refine Calls.mono (log_Compact_nil _ _) ?_; rintro e wr ⟨rfl, rfl⟩
        go_wp2_with ((with_reducible refine wpList_unguard ?_ ?_); (focus rfl))
        refine Calls.mono (log_All_nil _) ?_; rintro e wr ⟨rfl, rfl⟩
        go_wp2_with ((with_reducible refine wpList_unguard ?_ ?_); (focus rfl))
        refine Calls.mono (log_Clean_nil _) ?_; rintro e wr ⟨rfl, rfl⟩
        go_wp2_with ((with_reducible refine wpList_unguard ?_ ?_); (focus rfl))
        refine Calls.mono (log_Room_nil _) ?_; rintro e wr ⟨rfl, rfl⟩
        go_wp2_with ((with_reducible refine wpList_unguard ?_ ?_); (focus rfl))
        refine Calls.mono (log_Gen_nil _) ?_; rintro e wr ⟨rfl, rfl⟩
        go_wp2_with ((with_reducible refine wpList_unguard ?_ ?_); (focus rfl))
        go_ret
        exact ⟨rfl, HB.out.alloc HB.out.size _⟩
      | true =>
        rw [hok] at HQ
        by_cases ha : allI x10 x11 x12 ≤ 27
        · have hW : wantG x10 x11 x12 = 14 := by unfold wantG; rw [if_pos ⟨hok, ha⟩]
          obtain ⟨A, hA⟩ : ∃ A, allI x10 x11 x12 = A := ⟨_, rfl⟩
          rw [hA] at ha HA
          have q1 : decide ((27 : Int) < A) = false := decide_eq_false (by omega)
          rw [hW]
          clear hok ha
          go_wp2_with ((with_reducible refine wpList_unguard ?_ ?_); (focus rfl))
          refine Calls.mono (HQ _).out ?_; rintro e wp ⟨rfl, hb⟩
          replace HG := hid (HG.out.below hb)
          replace HR := hid (HR.out.below hb)
          (replace HB := hid (HB.out.trans (hb.mono HB.out.size)); clear hb)
          clear c0 c1 c2
          have c0 := HG.out.c0
          have c1 := HG.out.c1
          have c2 := HG.out.c2
          go_wp2_with ((with_reducible refine wpList_unguard ?_ ?_); (focus rfl))
          refine Calls.mono (HA _).out ?_; rintro e wp ⟨rfl, hb⟩
          replace HR := hid (HR.out.below hb)
          (replace HB := hid (HB.out.trans (hb.mono HB.out.size)); clear hb)
          go_wp2_with ((with_reducible refine wpList_unguard ?_ ?_); (focus rfl))
          refine Calls.mono (law15_Geo _) ?_; rintro e wp ⟨rfl, hb⟩
          replace HR := hid (HR.out.below hb)
          (replace HB := hid (HB.out.trans (hb.mono HB.out.size)); clear hb)
          go_wp2_with ((with_reducible refine wpList_unguard ?_ ?_); (focus rfl))
          refine Calls.mono (HA1 _).out ?_; rintro e wp ⟨rfl, hb⟩
          replace HR := hid (HR.out.below hb)
          (replace HB := hid (HB.out.trans (hb.mono HB.out.size)); clear hb)
          have r0 := HR.out.c0
          have r1 := HR.out.c1
          have r2 := HR.out.c2
          have r3 := HR.out.c3
          go_wp2_with ((with_reducible refine wpList_unguard ?_ ?_); (focus rfl))
          refine Calls.mono (log_Append_nil x00 x01 x02 x03 _) ?_; rintro e wq ⟨rfl, hb⟩
          replace HR := hid (HR.out.below hb)
          (replace HB := hid (HB.out.trans (hb.mono HB.out.size)); clear hb)
          clear r0 r1 r2 r3
          have r0 := HR.out.c0
          have r1 := HR.out.c1
          have r2 := HR.out.c2
          have r3 := HR.out.c3
          go_wp2_with ((with_reducible refine wpList_unguard ?_ ?_); (focus rfl))
          refine Calls.mono (log_Compact_nil _ _) ?_; rintro e wr ⟨rfl, rfl⟩
          go_wp2_with ((with_reducible refine wpList_unguard ?_ ?_); (focus rfl))
          refine Calls.mono (log_All_nil _) ?_; rintro e wr ⟨rfl, rfl⟩
          go_wp2_with ((with_reducible refine wpList_unguard ?_ ?_); (focus rfl))
          refine Calls.mono (log_Clean_nil _) ?_; rintro e wr ⟨rfl, rfl⟩
          go_wp2_with ((with_reducible refine wpList_unguard ?_ ?_); (focus rfl))
          refine Calls.mono (log_Room_nil _) ?_; rintro e wr ⟨rfl, rfl⟩
          go_wp2_with ((with_reducible refine wpList_unguard ?_ ?_); (focus rfl))
          refine Calls.mono (log_Gen_nil _) ?_; rintro e wr ⟨rfl, rfl⟩
          go_wp2_with ((with_reducible refine wpList_unguard ?_ ?_); (focus rfl))
          go_ret
          exact ⟨rfl, HB.out.alloc HB.out.size _⟩
        · have hW : wantG x10 x11 x12 = 1 := by unfold wantG; rw [if_neg (fun h => ha h.2)]
          obtain ⟨A, hA⟩ : ∃ A, allI x10 x11 x12 = A := ⟨_, rfl⟩
          rw [hA] at ha HA
          have q1 : decide ((27 : Int) < A) = true := decide_eq_true (by omega)
          rw [hW]
          clear hok ha
          go_wp2_with ((with_reducible refine wpList_unguard ?_ ?_); (focus rfl))
          refine Calls.mono (HQ _).out ?_; rintro e wp ⟨rfl, hb⟩
          replace HG := hid (HG.out.below hb)
          replace HR := hid (HR.out.below hb)
          (replace HB := hid (HB.out.trans (hb.mono HB.out.size)); clear hb)
          clear c0 c1 c2
          have c0 := HG.out.c0
          have c1 := HG.out.c1
          have c2 := HG.out.c2
          go_wp2_with ((with_reducible refine wpList_unguard ?_ ?_); (focus rfl))
          refine Calls.mono (HA _).out ?_; rintro e wp ⟨rfl, hb⟩
          replace HR := hid (HR.out.below hb)
          (replace HB := hid (HB.out.trans (hb.mono HB.out.size)); clear hb)
          go_wp2_with ((with_reducible refine wpList_unguard ?_ ?_); (focus rfl))
          refine Calls.mono (law15_Geo _) ?_; rintro e wp ⟨rfl, hb⟩
          replace HR := hid (HR.out.below hb)
          (replace HB := hid (HB.out.trans (hb.mono HB.out.size)); clear hb)
          go_wp2_with ((with_reducible refine wpList_unguard ?_ ?_); (focus rfl))
          refine Calls.mono (HA1 _).out ?_; rintro e wp ⟨rfl, hb⟩
          replace HR := hid (HR.out.below hb)
          (replace HB := hid (HB.out.trans (hb.mono HB.out.size)); clear hb)
          have r0 := HR.out.c0
          have r1 := HR.out.c1
          have r2 := HR.out.c2
          have r3 := HR.out.c3
          go_wp2_with ((with_reducible refine wpList_unguard ?_ ?_); (focus rfl))
          refine Calls.mono (log_Append_nil x00 x01 x02 x03 _) ?_; rintro e wq ⟨rfl, hb⟩
          replace HR := hid (HR.out.below hb)
          (replace HB := hid (HB.out.trans (hb.mono HB.out.size)); clear hb)
          clear r0 r1 r2 r3
          have r0 := HR.out.c0
          have r1 := HR.out.c1
          have r2 := HR.out.c2
          have r3 := HR.out.c3
          go_wp2_with ((with_reducible refine wpList_unguard ?_ ?_); (focus rfl))
          refine Calls.mono (log_Compact_nil _ _) ?_; rintro e wr ⟨rfl, rfl⟩
          go_wp2_with ((with_reducible refine wpList_unguard ?_ ?_); (focus rfl))
          refine Calls.mono (log_All_nil _) ?_; rintro e wr ⟨rfl, rfl⟩
          go_wp2_with ((with_reducible refine wpList_unguard ?_ ?_); (focus rfl))
          refine Calls.mono (log_Clean_nil _) ?_; rintro e wr ⟨rfl, rfl⟩
          go_wp2_with ((with_reducible refine wpList_unguard ?_ ?_); (focus rfl))
          refine Calls.mono (log_Room_nil _) ?_; rintro e wr ⟨rfl, rfl⟩
          go_wp2_with ((with_reducible refine wpList_unguard ?_ ?_); (focus rfl))
          refine Calls.mono (log_Gen_nil _) ?_; rintro e wr ⟨rfl, rfl⟩
          go_wp2_with ((with_reducible refine wpList_unguard ?_ ?_); (focus rfl))
          go_ret
          exact ⟨rfl, HB.out.alloc HB.out.size _⟩
end Go.Proofs.Ytngkmlchblgmeaa
