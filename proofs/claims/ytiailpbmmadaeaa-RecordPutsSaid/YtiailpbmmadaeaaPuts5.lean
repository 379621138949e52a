/-
  RecordPuts, walked.
-/
import Derived.Test.YtiailpbmmadaeaaPuts3
import Derived.Test.YtiailpbmmadaeaaPuts4
import Derived.Test.YtiailpbmmadaeaaUnlY
set_option linter.unusedSimpArgs false
namespace Go.Proofs.Ytiailpbmmadaeaa
open Go.RowKit Tri

set_option maxRecDepth 100000 in
theorem neq_rec (a b c d : Int) (w : World) :
    (binOp .neq 40 (.agg #[.int .i64 a, .int .i64 b, .int .i64 c, .int .i64 d]) (.agg #[.int .i64 a, .int .i64 b, .int .i64 c, .int .i64 d])).run Try.prog w = .ok (.bool false) w := by
  simp [go_sem]
set_option maxRecDepth 100000 in
theorem eql_rec14 (a b c d : Int) (w : World) :
    (binOp .eql 46 (.agg #[.int .i64 a, .int .i64 b, .int .i64 c, .int .i64 d]) (.agg #[.int .i64 a, .int .i64 b, .int .i64 c, .int .i64 d])).run Try.prog w = .ok (.bool true) w := by
  simp [go_sem]
theorem getRet_val (S : List Nat) : ∃ (a b c d : Int) (g : Bool), ∀ e, getRet S e → e = .returned (.tuple #[.agg #[.int .i64 a, .int .i64 b, .int .i64 c, .int .i64 d], .bool g]) := by
  cases h : getOk S with
  | true => exact ⟨_, _, _, _, _, fun e he => by unfold getRet at he; rw [if_pos h] at he; exact he⟩
  | false => exact ⟨_, _, _, _, _, fun e he => by unfold getRet at he; rw [if_neg (by rw [h]; decide)] at he; exact he⟩
theorem blank_eq (s : ByteArray) : (s.toList == (repS 16 255).toList) = isBlank16 s := by
  have hq := str_beq s (repS 16 255)
  rw [show sb (repS 16 255) = List.replicate 16 255 from sb_ofB _ (by decide)] at hq
  exact hq
theorem blank_recP (k s n v : Nat) (hk : k ≤ 127) : isBlank16 (ofB (recP k s n v)) = false := by
  unfold isBlank16
  rw [sb_ofB _ (recP_lt k s n v)]
  refine decide_eq_false fun h => ?_
  rw [recP_eq] at h
  have := List.head_eq_of_cons_eq (h.trans (show List.replicate 16 255 = 255 :: List.replicate 15 255 from rfl))
  omega

/-- The statement's record, and the document's form of it. -/
def PU (w0 : World) (A D : Nat) (k s n v : Int) (w : World) : Prop := Below w0.heap.size w0 w ∧ R4 w A k s n v ∧ E4 w D k s n v
theorem PU.below {w0 w w' : World} {A D : Nat} {k s n v : Int} (h : PU w0 A D k s n v w) (hb : Below w.heap.size w w') : PU w0 A D k s n v w' :=
  ⟨h.1.trans (hb.mono h.1.size), h.2.1.below hb, h.2.2.below hb⟩

set_option maxHeartbeats 4000000 in
set_option maxRecDepth 100000 in
theorem puts_ok (k s n v : Nat) (page : ByteArray) (w : World) (hpg : page.size ≤ 100) (hok : recOk (k : Int) s n v = true) :
    Calls Try.prog 8 #[.agg #[.int .i64 k, .int .i64 s, .int .i64 n, .int .i64 v], .string page] w fun e w' => e = .returned (.bool true) ∧ Below w.heap.size w w' := by
  have hr := hid (recOk_iff.1 hok)
  have HO := hid hok
  clear hok
  have hR0 : R4 (w.alloc (.cells #[.int .i64 k, .int .i64 s, .int .i64 n, .int .i64 v] 40)) w.heap.size k s n v := heap_alloc_new w _
  have hB0 : Below w.heap.size w (w.alloc (.cells #[.int .i64 k, .int .i64 s, .int .i64 n, .int .i64 v] 40)) := (Below.refl _ _).alloc (Nat.le_refl _) _
  have hd : decide ((page.size : Int) > 100) = false := decide_eq_false (by omega)
  have hd2 : decide ((100 : Int) < page.size) = false := decide_eq_false (by omega)
  have HZ := hid hpg
  clear hpg
  (go_enter Try.func8, Try.ntmps8; try simp only [List.append])
  go_wp2_with ((with_reducible refine wpList_unguard ?_ ?_); (focus rfl))
  generalize w.alloc (.cells #[.int .i64 k, .int .i64 s, .int .i64 n, .int .i64 v] 40) = w1 at *
  generalize hA : w.heap.size = A at *
  have HA := hid hA
  clear hA
  have hlt0 := hid hR0.lt
  refine Calls.mono (law14_awake w1) ?_; rintro e w2 ⟨rfl, hb⟩; have R2 := hid (hR0.below hb); have B2 := hid (hB0.trans (hb.mono (Nat.le_of_lt hlt0.out))); have hlt2 := hid R2.out.lt; clear hb hR0 hB0 hlt0
  go_wp2_with ((with_reducible refine wpList_unguard ?_ ?_); (focus rfl))
  clear hd hd2
  refine Calls.mono (crc_NewK w2 w2 (Below.refl _ _)) ?_; rintro e w3 ⟨b, rfl, hKC⟩; have R3 := hid (R2.out.below hKC.1); have B3 := hid (B2.out.trans (hKC.1.mono (Nat.le_of_lt hlt2.out))); have C3 := hid hKC.2; clear hKC R2 B2 hlt2
  have a0 := R3.out.c0; have a1 := R3.out.c1; have a2 := R3.out.c2; have a3 := R3.out.c3
  have hb4 : Below w3.heap.size w3 (w3.alloc (.cells #[.int .i64 k, .int .i64 s, .int .i64 n, .int .i64 v] 46)) := (Below.refl _ _).alloc (Nat.le_refl _) _
  have hE4 : E4 (w3.alloc (.cells #[.int .i64 k, .int .i64 s, .int .i64 n, .int .i64 v] 46)) w3.heap.size k s n v := heap_alloc_new w3 _
  have hC4 := C3.out.alloc (.cells #[.int .i64 k, .int .i64 s, .int .i64 n, .int .i64 v] 46)
  obtain ⟨w4, hw4⟩ : ∃ u, w3.alloc (.cells #[.int .i64 k, .int .i64 s, .int .i64 n, .int .i64 v] 46) = u := ⟨_, rfl⟩
  rw [hw4] at hb4 hE4 hC4
  have B4 : Below w.heap.size w w4 := by rw [HA.out]; exact B3.out.trans (hb4.mono (Nat.le_of_lt R3.out.lt))
  obtain ⟨D, hD⟩ : ∃ D, w3.heap.size = D := ⟨_, rfl⟩
  rw [hD] at hE4
  have K4 : Hid (PU w A D k s n v w4) := ⟨B4, R3.out.below hb4, hE4⟩
  have C4 := hid hC4
  clear hb4 hE4 hC4 B4 R3 B3 C3
  have b0 := K4.out.2.1.c0; have b1 := K4.out.2.1.c1; have b2 := K4.out.2.1.c2; have b3 := K4.out.2.1.c3
  go_wp2_with ((with_reducible refine wpList_unguard ?_ ?_); (focus rfl))
  clear a0 a1 a2 a3 b0 b1 b2 b3 hw4 hD
  refine Calls.mono (rec_Put w4 b k s n v w4 ⟨Below.refl _ _, C4.out⟩ hr.out.1 hr.out.2.1 hr.out.2.2.1 hr.out.2.2.2) ?_; rintro e w5 ⟨rfl, hKC⟩; have K5 := hid (K4.out.below hKC.1); have C5 := hid hKC.2; clear hKC K4 C4
  have hPs : Hid ((ofB (recP k s n v)).size ≤ 1000000) := by show _ ≤ _; rw [ofB_size, recP_len]; omega
  have hGv : Hid (getRet (sb (ofB (recP k s n v))) = fun e => e = .returned (.tuple #[.agg #[.int .i64 k, .int .i64 s, .int .i64 n, .int .i64 v], .bool true])) := by
    show _ = _
    funext e
    rw [sb_ofB _ (recP_lt k s n v)]
    unfold getRet
    have hpg := pg_recP k s n v hr.out.1 hr.out.2.1 hr.out.2.2.1 hr.out.2.2.2
    rw [if_pos (getOk_recP k s n v hr.out.1 hr.out.2.1 hr.out.2.2.1 hr.out.2.2.2), hpg.1, hpg.2.1, hpg.2.2.1, hpg.2.2.2]
  have hBl : Hid (isBlank16 (ofB (recP k s n v)) = false) := blank_recP k s n v hr.out.1
  have hPut := fun (w : World) => ref14_Put k s n v w hr.out.1 hr.out.2.1 hr.out.2.2.1 hr.out.2.2.2
  generalize ofB (recP k s n v) = T at *
  have HPut := hid hPut
  clear hPut
  have d0 := K5.out.2.2.c0; have d1 := K5.out.2.2.c1; have d2 := K5.out.2.2.c2; have d3 := K5.out.2.2.c3
  go_wp2_with ((with_reducible refine wpList_unguard ?_ ?_); (focus rfl))
  clear d0 d1 d2 d3
  refine Calls.mono (ref14_Right k s n v w5) ?_; rintro e w6 ⟨rfl, hb⟩; have K6 := hid (K5.out.below hb); have C6 := hid (C5.out.below hb C5.out.lt); clear hb K5 C5
  rw [HO.out]
  have a0 := K6.out.2.1.c0; have a1 := K6.out.2.1.c1; have a2 := K6.out.2.1.c2; have a3 := K6.out.2.1.c3
  go_wp2_with ((with_reducible refine wpList_unguard ?_ ?_); (focus rfl))
  clear a0 a1 a2 a3
  refine Calls.mono (rec_Right k s n v w6) ?_; rintro e w7 ⟨rfl, hb⟩; have K7 := hid (K6.out.below hb); have C7 := hid (C6.out.below hb C6.out.lt); clear hb K6 C6
  rw [HO.out]
  go_wp2_with ((with_reducible refine wpList_unguard ?_ ?_); (focus rfl))
  refine Calls.mono (rec_Get_any w7 b T w7 ⟨Below.refl _ _, C7.out⟩ hPs.out) ?_
  rintro e w8 ⟨hge, hKC⟩
  rw [hGv.out] at hge
  subst hge
  have K8 := hid (K7.out.below hKC.1); have C8 := hid hKC.2; clear hKC K7 C7
  have hb9 : Below w8.heap.size w8 (w8.alloc (.cells #[.int .i64 k, .int .i64 s, .int .i64 n, .int .i64 v] 40)) := (Below.refl _ _).alloc (Nat.le_refl _) _
  have hX9 : R4 (w8.alloc (.cells #[.int .i64 k, .int .i64 s, .int .i64 n, .int .i64 v] 40)) w8.heap.size k s n v := heap_alloc_new w8 _
  obtain ⟨w9, hw9⟩ : ∃ u, w8.alloc (.cells #[.int .i64 k, .int .i64 s, .int .i64 n, .int .i64 v] 40) = u := ⟨_, rfl⟩
  rw [hw9] at hb9 hX9
  obtain ⟨X, hX⟩ : ∃ X, w8.heap.size = X := ⟨_, rfl⟩
  have K9 := hid (K8.out.below hb9); have C9 := hid (C8.out.below hb9 C8.out.lt); clear hb9 K8 C8
  rw [hX] at hX9
  have X9 := hid hX9
  clear hX9
  have d0 := K9.out.2.2.c0; have d1 := K9.out.2.2.c1; have d2 := K9.out.2.2.c2; have d3 := K9.out.2.2.c3
  go_wp2_with ((with_reducible refine wpList_unguard ?_ ?_); (focus rfl))
  clear d0 d1 d2 d3
  clear hw9 hX
  refine Calls.mono (HPut.out w9) ?_; rintro e w10 ⟨rfl, hb⟩; have K10 := hid (K9.out.below hb); have C10 := hid (C9.out.below hb C9.out.lt); have X10 := hid (X9.out.below hb); clear hb K9 C9 X9
  have a0 := K10.out.2.1.c0; have a1 := K10.out.2.1.c1; have a2 := K10.out.2.1.c2; have a3 := K10.out.2.1.c3
  have x0 := X10.out.c0; have x1 := X10.out.c1; have x2 := X10.out.c2; have x3 := X10.out.c3
  have hne := fun (w : World) => neq_rec k s n v w
  go_wp2_with ((with_reducible refine wpList_unguard ?_ ?_); (focus rfl))
  clear a0 a1 a2 a3
  clear x0 x1 x2 x3 hne
  refine Calls.mono (rec_Blank T w10) ?_; rintro e w11 ⟨rfl, hb⟩; have K11 := hid (K10.out.below hb); have C11 := hid (C10.out.below hb C10.out.lt); clear hb K10 C10 X10
  rw [hBl.out]
  go_wp2_with ((with_reducible refine wpList_unguard ?_ ?_); (focus rfl))
  obtain ⟨p0, p1, p2, p3, g, hgv⟩ := getRet_val (sb page)
  have HV := hid hgv
  clear hgv
  refine Calls.mono (rec_Get_any w11 b page w11 ⟨Below.refl _ _, C11.out⟩ (by have := HZ.out; omega)) ?_
  rintro e v1 ⟨hge, hKC⟩
  have hge := HV.out e hge
  subst hge
  have L1 := hid (K11.out.below hKC.1); clear hKC K11 C11
  have hb2 : Below v1.heap.size v1 (v1.alloc (.cells #[.int .i64 p0, .int .i64 p1, .int .i64 p2, .int .i64 p3] 40)) := (Below.refl _ _).alloc (Nat.le_refl _) _
  have hY2 : R4 (v1.alloc (.cells #[.int .i64 p0, .int .i64 p1, .int .i64 p2, .int .i64 p3] 40)) v1.heap.size p0 p1 p2 p3 := heap_alloc_new v1 _
  obtain ⟨v2, hv2⟩ : ∃ u, v1.alloc (.cells #[.int .i64 p0, .int .i64 p1, .int .i64 p2, .int .i64 p3] 40) = u := ⟨_, rfl⟩
  rw [hv2] at hb2 hY2
  obtain ⟨Y, hY⟩ : ∃ Y, v1.heap.size = Y := ⟨_, rfl⟩
  have L2 := hid (L1.out.below hb2); clear hb2 L1
  rw [hY] at hY2
  have Y2 := hid hY2
  clear hY2
  go_wp2_with ((with_reducible refine wpList_unguard ?_ ?_); (focus rfl))
  clear hv2 hY
  refine Calls.mono (ref14_Get page v2 (by have := HZ.out; omega)) ?_
  rintro e v3 ⟨hge, hb⟩
  have hge := HV.out e hge
  subst hge
  have L3 := hid (L2.out.below hb); have Y3 := hid (Y2.out.below hb); clear hb L2 Y2
  have hb4 : Below v3.heap.size v3 (v3.alloc (.cells #[.int .i64 p0, .int .i64 p1, .int .i64 p2, .int .i64 p3] 46)) := (Below.refl _ _).alloc (Nat.le_refl _) _
  have hZ4 : E4 (v3.alloc (.cells #[.int .i64 p0, .int .i64 p1, .int .i64 p2, .int .i64 p3] 46)) v3.heap.size p0 p1 p2 p3 := heap_alloc_new v3 _
  obtain ⟨v4, hv4⟩ : ∃ u, v3.alloc (.cells #[.int .i64 p0, .int .i64 p1, .int .i64 p2, .int .i64 p3] 46) = u := ⟨_, rfl⟩
  rw [hv4] at hb4 hZ4
  obtain ⟨Z, hZ⟩ : ∃ Z, v3.heap.size = Z := ⟨_, rfl⟩
  have L4 := hid (L3.out.below hb4); have Y4 := hid (Y3.out.below hb4); clear hb4 L3 Y3
  rw [hZ] at hZ4
  have Z4 := hid hZ4
  clear hZ4
  have a0 := L4.out.2.1.c0; have a1 := L4.out.2.1.c1; have a2 := L4.out.2.1.c2; have a3 := L4.out.2.1.c3
  go_wp2_with ((with_reducible refine wpList_unguard ?_ ?_); (focus rfl))
  clear a0 a1 a2 a3
  clear hv4 hZ
  refine Calls.mono (rec_Put_nil k s n v v4) ?_; rintro e v5 ⟨rfl, hb⟩; have L5 := hid (L4.out.below hb); have Y5 := hid (Y4.out.below hb); have Z5 := hid (Z4.out.below hb); clear hb L4 Y4 Z4
  have y0 := Y5.out.c0; have y1 := Y5.out.c1; have y2 := Y5.out.c2; have y3 := Y5.out.c3
  have z0 := Z5.out.c0; have z1 := Z5.out.c1; have z2 := Z5.out.c2; have z3 := Z5.out.c3
  have heq := fun (w : World) => eql_rec14 p0 p1 p2 p3 w
  go_wp2_with ((with_reducible refine wpList_unguard ?_ ?_); (focus rfl))
  clear y0 y1 y2 y3 z0 z1 z2 z3 heq
  refine Calls.mono (rec_Blank page v5) ?_; rintro e v6 ⟨rfl, hb⟩; have L6 := hid (L5.out.below hb); clear hb L5 Y5 Z5
  go_wp2_with ((with_reducible refine wpList_unguard ?_ ?_); (focus rfl))
  have HR := hid (strRep 255 16 v6 (by omega))
  have hbe := blank_eq page
  generalize repS 16 255 = RP at *
  refine Calls.mono HR.out ?_; rintro e v7 ⟨rfl, hb⟩; have L7 := hid (L6.out.below hb); clear hb L6 HR
  generalize isBlank16 page = bl at *
  go_wp2_with ((with_reducible refine wpList_unguard ?_ ?_); (focus rfl))
  go_ret
  exact ⟨by simp, L7.out.1⟩
set_option maxHeartbeats 4000000 in
set_option maxRecDepth 100000 in
theorem puts_bad (k s n v : Int) (page : ByteArray) (w : World) (hpg : page.size ≤ 100) (hok : recOk (k : Int) s n v = false) :
    Calls Try.prog 8 #[.agg #[.int .i64 k, .int .i64 s, .int .i64 n, .int .i64 v], .string page] w fun e w' => e = .returned (.bool true) ∧ Below w.heap.size w w' := by
  have HO := hid hok
  clear hok
  have hR0 : R4 (w.alloc (.cells #[.int .i64 k, .int .i64 s, .int .i64 n, .int .i64 v] 40)) w.heap.size k s n v := heap_alloc_new w _
  have hB0 : Below w.heap.size w (w.alloc (.cells #[.int .i64 k, .int .i64 s, .int .i64 n, .int .i64 v] 40)) := (Below.refl _ _).alloc (Nat.le_refl _) _
  have hd : decide ((page.size : Int) > 100) = false := decide_eq_false (by omega)
  have hd2 : decide ((100 : Int) < page.size) = false := decide_eq_false (by omega)
  have HZ := hid hpg
  clear hpg
  (go_enter Try.func8, Try.ntmps8; try simp only [List.append])
  go_wp2_with ((with_reducible refine wpList_unguard ?_ ?_); (focus rfl))
  generalize w.alloc (.cells #[.int .i64 k, .int .i64 s, .int .i64 n, .int .i64 v] 40) = w1 at *
  generalize hA : w.heap.size = A at *
  have HA := hid hA
  clear hA
  have hlt0 := hid hR0.lt
  refine Calls.mono (law14_awake w1) ?_; rintro e w2 ⟨rfl, hb⟩; have R2 := hid (hR0.below hb); have B2 := hid (hB0.trans (hb.mono (Nat.le_of_lt hlt0.out))); have hlt2 := hid R2.out.lt; clear hb hR0 hB0 hlt0
  go_wp2_with ((with_reducible refine wpList_unguard ?_ ?_); (focus rfl))
  clear hd hd2
  refine Calls.mono (crc_NewK w2 w2 (Below.refl _ _)) ?_; rintro e w3 ⟨b, rfl, hKC⟩; have R3 := hid (R2.out.below hKC.1); have B3 := hid (B2.out.trans (hKC.1.mono (Nat.le_of_lt hlt2.out))); have C3 := hid hKC.2; clear hKC R2 B2 hlt2
  have a0 := R3.out.c0; have a1 := R3.out.c1; have a2 := R3.out.c2; have a3 := R3.out.c3
  have hb4 : Below w3.heap.size w3 (w3.alloc (.cells #[.int .i64 k, .int .i64 s, .int .i64 n, .int .i64 v] 46)) := (Below.refl _ _).alloc (Nat.le_refl _) _
  have hE4 : E4 (w3.alloc (.cells #[.int .i64 k, .int .i64 s, .int .i64 n, .int .i64 v] 46)) w3.heap.size k s n v := heap_alloc_new w3 _
  have hC4 := C3.out.alloc (.cells #[.int .i64 k, .int .i64 s, .int .i64 n, .int .i64 v] 46)
  obtain ⟨w4, hw4⟩ : ∃ u, w3.alloc (.cells #[.int .i64 k, .int .i64 s, .int .i64 n, .int .i64 v] 46) = u := ⟨_, rfl⟩
  rw [hw4] at hb4 hE4 hC4
  have B4 : Below w.heap.size w w4 := by rw [HA.out]; exact B3.out.trans (hb4.mono (Nat.le_of_lt R3.out.lt))
  obtain ⟨D, hD⟩ : ∃ D, w3.heap.size = D := ⟨_, rfl⟩
  rw [hD] at hE4
  have K4 : Hid (PU w A D k s n v w4) := ⟨B4, R3.out.below hb4, hE4⟩
  have C4 := hid hC4
  clear hb4 hE4 hC4 B4 R3 B3 C3
  have b0 := K4.out.2.1.c0; have b1 := K4.out.2.1.c1; have b2 := K4.out.2.1.c2; have b3 := K4.out.2.1.c3
  go_wp2_with ((with_reducible refine wpList_unguard ?_ ?_); (focus rfl))
  clear a0 a1 a2 a3 b0 b1 b2 b3 hw4 hD
  refine Calls.mono (rec_Put_bad w4 b k s n v w4 ⟨Below.refl _ _, C4.out⟩ HO.out) ?_; rintro e w5 ⟨rfl, hKC⟩; have K5 := hid (K4.out.below hKC.1); have C5 := hid hKC.2; clear hKC K4 C4
  have d0 := K5.out.2.2.c0; have d1 := K5.out.2.2.c1; have d2 := K5.out.2.2.c2; have d3 := K5.out.2.2.c3
  go_wp2_with ((with_reducible refine wpList_unguard ?_ ?_); (focus rfl))
  clear d0 d1 d2 d3
  refine Calls.mono (ref14_Right k s n v w5) ?_; rintro e w6 ⟨rfl, hb⟩; have K6 := hid (K5.out.below hb); have C6 := hid (C5.out.below hb C5.out.lt); clear hb K5 C5
  rw [HO.out]
  have a0 := K6.out.2.1.c0; have a1 := K6.out.2.1.c1; have a2 := K6.out.2.1.c2; have a3 := K6.out.2.1.c3
  go_wp2_with ((with_reducible refine wpList_unguard ?_ ?_); (focus rfl))
  clear a0 a1 a2 a3
  refine Calls.mono (rec_Right k s n v w6) ?_; rintro e w7 ⟨rfl, hb⟩; have K7 := hid (K6.out.below hb); have C7 := hid (C6.out.below hb C6.out.lt); clear hb K6 C6
  rw [HO.out]
  go_wp2_with ((with_reducible refine wpList_unguard ?_ ?_); (focus rfl))
  obtain ⟨p0, p1, p2, p3, g, hgv⟩ := getRet_val (sb page)
  have HV := hid hgv
  clear hgv
  refine Calls.mono (rec_Get_any w7 b page w7 ⟨Below.refl _ _, C7.out⟩ (by have := HZ.out; omega)) ?_
  rintro e v1 ⟨hge, hKC⟩
  have hge := HV.out e hge
  subst hge
  have L1 := hid (K7.out.below hKC.1); clear hKC K7 C7
  have hb2 : Below v1.heap.size v1 (v1.alloc (.cells #[.int .i64 p0, .int .i64 p1, .int .i64 p2, .int .i64 p3] 40)) := (Below.refl _ _).alloc (Nat.le_refl _) _
  have hY2 : R4 (v1.alloc (.cells #[.int .i64 p0, .int .i64 p1, .int .i64 p2, .int .i64 p3] 40)) v1.heap.size p0 p1 p2 p3 := heap_alloc_new v1 _
  obtain ⟨v2, hv2⟩ : ∃ u, v1.alloc (.cells #[.int .i64 p0, .int .i64 p1, .int .i64 p2, .int .i64 p3] 40) = u := ⟨_, rfl⟩
  rw [hv2] at hb2 hY2
  obtain ⟨Y, hY⟩ : ∃ Y, v1.heap.size = Y := ⟨_, rfl⟩
  have L2 := hid (L1.out.below hb2); clear hb2 L1
  rw [hY] at hY2
  have Y2 := hid hY2
  clear hY2
  go_wp2_with ((with_reducible refine wpList_unguard ?_ ?_); (focus rfl))
  clear hv2 hY
  refine Calls.mono (ref14_Get page v2 (by have := HZ.out; omega)) ?_
  rintro e v3 ⟨hge, hb⟩
  have hge := HV.out e hge
  subst hge
  have L3 := hid (L2.out.below hb); have Y3 := hid (Y2.out.below hb); clear hb L2 Y2
  have hb4 : Below v3.heap.size v3 (v3.alloc (.cells #[.int .i64 p0, .int .i64 p1, .int .i64 p2, .int .i64 p3] 46)) := (Below.refl _ _).alloc (Nat.le_refl _) _
  have hZ4 : E4 (v3.alloc (.cells #[.int .i64 p0, .int .i64 p1, .int .i64 p2, .int .i64 p3] 46)) v3.heap.size p0 p1 p2 p3 := heap_alloc_new v3 _
  obtain ⟨v4, hv4⟩ : ∃ u, v3.alloc (.cells #[.int .i64 p0, .int .i64 p1, .int .i64 p2, .int .i64 p3] 46) = u := ⟨_, rfl⟩
  rw [hv4] at hb4 hZ4
  obtain ⟨Z, hZ⟩ : ∃ Z, v3.heap.size = Z := ⟨_, rfl⟩
  have L4 := hid (L3.out.below hb4); have Y4 := hid (Y3.out.below hb4); clear hb4 L3 Y3
  rw [hZ] at hZ4
  have Z4 := hid hZ4
  clear hZ4
  have a0 := L4.out.2.1.c0; have a1 := L4.out.2.1.c1; have a2 := L4.out.2.1.c2; have a3 := L4.out.2.1.c3
  go_wp2_with ((with_reducible refine wpList_unguard ?_ ?_); (focus rfl))
  clear a0 a1 a2 a3
  clear hv4 hZ
  refine Calls.mono (rec_Put_nil k s n v v4) ?_; rintro e v5 ⟨rfl, hb⟩; have L5 := hid (L4.out.below hb); have Y5 := hid (Y4.out.below hb); have Z5 := hid (Z4.out.below hb); clear hb L4 Y4 Z4
  have y0 := Y5.out.c0; have y1 := Y5.out.c1; have y2 := Y5.out.c2; have y3 := Y5.out.c3
  have z0 := Z5.out.c0; have z1 := Z5.out.c1; have z2 := Z5.out.c2; have z3 := Z5.out.c3
  have heq := fun (w : World) => eql_rec14 p0 p1 p2 p3 w
  go_wp2_with ((with_reducible refine wpList_unguard ?_ ?_); (focus rfl))
  clear y0 y1 y2 y3 z0 z1 z2 z3 heq
  refine Calls.mono (rec_Blank page v5) ?_; rintro e v6 ⟨rfl, hb⟩; have L6 := hid (L5.out.below hb); clear hb L5 Y5 Z5
  go_wp2_with ((with_reducible refine wpList_unguard ?_ ?_); (focus rfl))
  have HR := hid (strRep 255 16 v6 (by omega))
  have hbe := blank_eq page
  generalize repS 16 255 = RP at *
  refine Calls.mono HR.out ?_; rintro e v7 ⟨rfl, hb⟩; have L7 := hid (L6.out.below hb); clear hb L6 HR
  generalize isBlank16 page = bl at *
  go_wp2_with ((with_reducible refine wpList_unguard ?_ ?_); (focus rfl))
  go_ret
  exact ⟨by simp, L7.out.1⟩
end Go.Proofs.Ytiailpbmmadaeaa
