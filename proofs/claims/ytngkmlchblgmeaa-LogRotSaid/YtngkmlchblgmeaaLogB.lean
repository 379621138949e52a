/-
  log.Open.
-/
import Derived.Test.YtngkmlchblgmeaaPak11
import Derived.Test.YtngkmlchblgmeaaLog4
namespace Tri
open Go Go.RowKit Go.Proofs.Ytngkmlchblgmeaa
def R4n.toI (r : R4n) : RecI := ⟨(r.k : Nat), (r.s : Nat), (r.n : Nat), (r.v : Nat)⟩
theorem runH_ops (s : FS) (x : Int) (hf : Nat) : ∀ n, runH { s with ops := x } hf n = runH s hf n
  | 0 => rfl
  | n + 1 => by
    unfold runH
    rw [runH_ops s x hf n]
    rfl
/-- Which half counts. -/
def openAt (a b : HD) : Nat := if b.holds = true ∧ (a.holds = false ∨ a.gen < b.gen) then 1 else 0
end Tri
namespace Go.Proofs.Ytngkmlchblgmeaa
open Go.RowKit Tri

theorem recO.toJ {w : World} {base : Nat} {v : Value} {l : List R4n} (h : recO w base v l) : recJ w base v (l.map R4n.toI) := by
  unfold recO at h
  unfold recJ
  have e : (l.map R4n.toI).flatMap rcC = l.flatMap R4n.cells := by
    rw [List.flatMap_map]; rfl
  rw [List.length_map, e]
  exact h
theorem _root_.Tri.LW.setB {i : DI} {L S : Nat} {cs : Array Value} {w : World} (h : LW i L S cs w) (B j : Nat) (v : Value) (h1 : L ≠ B) (h2 : S ≠ B) : LW i L S cs (w.setCell ⟨B, j, none⟩ v) := by
  refine ⟨h.hL.setOther _ _ h1, ?_, h.hLo, h.hSo⟩
  have h3 := h.hS
  unfold isC at h3 ⊢
  rw [heap_setCell_other w _ S _ h2]; exact h3
theorem recO.sl {w : World} {base : Nat} {v : Value} {l : List R4n} (h : recO w base v l) : ∃ p n c, v = .slice p n c := by
  rcases h.2 with ⟨e, _⟩ | ⟨g', cap, cur, e, _⟩
  · exact ⟨_, _, _, e⟩
  · exact ⟨_, _, _, e⟩
set_option maxHeartbeats 4000000 in
set_option maxRecDepth 100000 in
theorem log_Open_nil (d p st : Int) (w : World) :
    Calls Try.prog 13 #[.pointer none, .agg #[.int .i64 d, .int .i64 p, .int .i64 st]] w fun e w' => e = .returned (.tuple #[.pointer none, .int .i64 1]) ∧ Below w.heap.size w w' := by
  obtain ⟨w1, hw1, -, hG, hB⟩ := geo_box w 39 d p st
  have HB := hid hB
  have c0 := hG.c0
  have c1 := hG.c1
  have c2 := hG.c2
  clear hG hB
  (go_enter Try.func13, Try.ntmps13; try simp only [List.append])
  go_wp2_with ((with_reducible refine wpList_unguard ?_ ?_); (focus rfl))
  refine Calls.mono (log_made_nil d p st w1) ?_; rintro e w2 ⟨rfl, hb⟩
  (replace HB := hid (HB.out.trans (hb.mono HB.out.size)); clear hb)
  clear c0 c1 c2
  go_wp2_with ((with_reducible refine wpList_unguard ?_ ?_); (focus rfl))
  go_ret2
  exact ⟨rfl, HB.out⟩
set_option maxHeartbeats 4000000 in
set_option maxRecDepth 100000 in
theorem log_Open_no (i : DI) (n : Nat) (s : FS) (d p st : Int) (w : World) (h : DevP w i n s) (hs : i64r st) (hno : geoOk d p st = false ∨ (n : Int) < allI d p st) :
    Calls Try.prog 13 #[.pointer (some ⟨i.D, 0, none⟩), .agg #[.int .i64 d, .int .i64 p, .int .i64 st]] w fun e w' => e = .returned (.tuple #[.pointer none, .int .i64 1]) ∧ Below w.heap.size w w' := by
  obtain ⟨w1, hw1, -, hG, hB⟩ := geo_box w 39 d p st
  have HB := hid hB
  have HD := hid (h.below hB)
  have c0 := hG.c0
  have c1 := hG.c1
  have c2 := hG.c2
  clear hG hB h
  (go_enter Try.func13, Try.ntmps13; try simp only [List.append])
  go_wp2_with ((with_reducible refine wpList_unguard ?_ ?_); (focus rfl))
  refine Calls.mono (log_made_no i n s d p st w1 HD.out hs hno) ?_; rintro e w2 ⟨rfl, hb⟩
  (replace HB := hid (HB.out.trans (hb.mono HB.out.size)); clear hb)
  clear c0 c1 c2
  go_wp2_with ((with_reducible refine wpList_unguard ?_ ?_); (focus rfl))
  go_ret2
  exact ⟨rfl, HB.out⟩
def OpenPost (i : DI) (s : FS) (w : World) (e : Ending) (w' : World) : Prop :=
  ∃ hx : HD, hx = (if openAt (outH (runH s 0 16)) (outH (runH s 1 16)) = 1 then outH (runH s 1 16) else outH (runH s 0 16)) ∧
      RdC i s w w' ∧
      (hx.holds = false → e = .returned (.tuple #[.pointer none, .int .i64 14])) ∧
      (hx.holds = true → ∃ L S rs b0, e = .returned (.tuple #[.pointer (some ⟨L, 0, none⟩), .int .i64 0]) ∧ w.heap.size ≤ L ∧ w.heap.size ≤ b0 ∧ b0 ≤ w'.heap.size ∧ LogP i L S (openAt (outH (runH s 0 16)) (outH (runH s 1 16))) rs (hx.recs.map R4n.toI) (hx.gen : Nat) hx.used true hx.clean b0 w')
set_option maxHeartbeats 16000000 in
set_option maxRecDepth 100000 in
theorem log_Open (i : DI) (s : FS) (w : World) (hD : DevP w i 27 s) (hd : s.dn = false) :
    Calls Try.prog 13 #[.pointer (some ⟨i.D, 0, none⟩), .agg #[.int .i64 1, .int .i64 2, .int .i64 1]] w (OpenPost i s w) := by
  obtain ⟨w1, hw1, -, hG, hB⟩ := geo_box w 39 1 2 1
  have HB := hid hB
  have HD := hid (hD.below hB)
  have q0 := hG.c0
  have q1 := hG.c1
  have q2 := hG.c2
  have hih : i.hi ≤ w.heap.size := hD.hi
  clear hG hB hD
  (go_enter Try.func13, Try.ntmps13; try simp only [List.append])
  go_wp2_with ((with_reducible refine wpList_unguard ?_ ?_); (focus rfl))
  refine Calls.mono (log_made i s w1 HD.out) ?_; rintro e w2 ⟨L, S, rfl, hS, hL, hSL, hLb, hSc, hb⟩
  have hz1 := HB.out.size
  have hW : LW i L S (logC i.D S 0 (.slice none 0 0) 0 0 false false) w2 := ⟨hLb, hSc, .inr (by omega), .inr (by omega)⟩
  replace HD := hid (HD.out.below hb)
  replace HB := hid (HB.out.trans (hb.mono HB.out.size))
  have hLt := hLb.lt
  have hSt := hSc.lt
  have hA : Below w2.heap.size w2 (w2.alloc (.cells #[.slice none 0 0, .int .i64 0, .int .i64 0, .bool false, .bool false, .slice none 0 0, .int .i64 0, .int .i64 0, .bool false, .bool false] 97)) := (Below.refl _ _).alloc (Nat.le_refl _) _
  have hBo := Blk.new w2 97 #[.slice none 0 0, .int .i64 0, .int .i64 0, .bool false, .bool false, .slice none 0 0, .int .i64 0, .int .i64 0, .bool false, .bool false]
  have hz3 : (w2.alloc (.cells #[.slice none 0 0, .int .i64 0, .int .i64 0, .bool false, .bool false, .slice none 0 0, .int .i64 0, .int .i64 0, .bool false, .bool false] 97)).heap.size = w2.heap.size + 1 := by simp
  have HW := hid (hW.below hA)
  have HBo := hid hBo
  replace HD := hid (HD.out.below hA)
  replace HB := hid (HB.out.trans (hA.mono HB.out.size))
  have hihw : w.heap.size ≤ w2.heap.size := by have := hb.size; omega
  clear hb hW hLb hSc q0 q1 q2 hw1 hA hBo
  go_wp2_with ((with_reducible refine wpList_unguard ?_ ?_); (focus rfl))
  generalize w2.alloc (.cells #[.slice none 0 0, .int .i64 0, .int .i64 0, .bool false, .bool false, .slice none 0 0, .int .i64 0, .int .i64 0, .bool false, .bool false] 97) = w3 at *
  generalize hB2 : w2.heap.size = B at *
  clear hB2
  refine wp_loop_rounds 3 ?_
  rw [rounds_succ]
  go_wp2_with ((with_reducible refine wpList_unguard ?_ ?_); (focus rfl))
  refine Calls.mono (log_read i s L S 0 0 _ 0 0 false false w3 HD.out hd HW.out.hL HW.out.hS HW.out.hLo HW.out.hSo (by omega)) ?_; rintro e w4 ⟨rv0, rfl, hro, hrd⟩
  obtain ⟨x0, hx0⟩ : ∃ x, outH (runH s 0 16) = x := ⟨_, rfl⟩
  rw [hx0] at hro ⊢
  have HX0 := hid hx0
  clear hx0
  obtain ⟨l0, g0, u0, d0, e0⟩ := x0
  obtain ⟨p0, n0, c0, rfl⟩ := hro.sl
  have HJ0 := hid hro
  have HR0 := hid hrd
  have hz4 : w3.heap.size ≤ w4.heap.size := hrd.out.size
  have hBo4 := (HBo.out).outS hrd.out (.inr (by omega))
  have HW4 := hid (HW.out.out hrd.out)
  clear hro hrd
  unfold halfV
  have hA : Below w4.heap.size w4 (w4.alloc (.cells #[.slice p0 n0 c0, .int .i64 (g0 : Nat), .int .i64 (u0 : Nat), .bool d0, .bool e0] 96)) := (Below.refl _ _).alloc (Nat.le_refl _) _
  have hH := Blk.new w4 96 #[.slice p0 n0 c0, .int .i64 (g0 : Nat), .int .i64 (u0 : Nat), .bool d0, .bool e0]
  have hz5 : (w4.alloc (.cells #[.slice p0 n0 c0, .int .i64 (g0 : Nat), .int .i64 (u0 : Nat), .bool d0, .bool e0] 96)).heap.size = w4.heap.size + 1 := by simp
  have hBo5 := hBo4.below hA
  have HW5 := hid (HW4.out.below hA)
  have HJ5 := hid (HJ0.out.below hA)
  have HR5 := hid (HR0.out.below hA)
  clear HBo hBo4 HW4 HJ0 HR0 hA
  obtain ⟨w5, hw5⟩ : ∃ u, w4.alloc (.cells #[.slice p0 n0 c0, .int .i64 (g0 : Nat), .int .i64 (u0 : Nat), .bool d0, .bool e0] 96) = u := ⟨_, rfl⟩
  rw [hw5] at hH hz5 hBo5 HW5 HJ5 HR5
  have HBo := hid hBo5
  have HH := hid hH
  have a0 := hH.cell 0 _ rfl
  have a1 := hH.cell 1 _ rfl
  have a2 := hH.cell 2 _ rfl
  have a3 := hH.cell 3 _ rfl
  have a4 := hH.cell 4 _ rfl
  have b0 := hBo5.cell 0 _ rfl
  have b1 := hBo5.cell 1 _ rfl
  have b2 := hBo5.cell 2 _ rfl
  have b3 := hBo5.cell 3 _ rfl
  have b4 := hBo5.cell 4 _ rfl
  have fb := hBo5.free
  have f0 := fb 0
  have f1 := fb 1
  have f2 := fb 2
  have f3 := fb 3
  have f4 := fb 4
  have hneB : B ≠ w4.heap.size := by omega
  clear fb hH hBo5
  go_wp2_with ((with_reducible refine wpList_unguard ?_ ?_); (focus rfl))
  clear a0 a1 a2 a3 a4 b0 b1 b2 b3 b4 f0 f1 f2 f3 f4 hw5 HH
  have hRw : RdC i s w w3 := ⟨Out.of HB.out, s.ops, HD.out⟩
  have HR6 := hid ((((((hRw.trans HR5.out).set B 0 (.slice p0 n0 c0) hihw hih).set B 1 (.int .i64 (g0 : Nat)) hihw hih).set B 2 (.int .i64 (u0 : Nat)) hihw hih).set B 3 (.bool d0) hihw hih).set B 4 (.bool e0) hihw hih)
  have HW6 := hid (((((HW5.out.setB B 0 (.slice p0 n0 c0) (by omega) (by omega)).setB B 1 (.int .i64 (g0 : Nat)) (by omega) (by omega)).setB B 2 (.int .i64 (u0 : Nat)) (by omega) (by omega)).setB B 3 (.bool d0) (by omega) (by omega)).setB B 4 (.bool e0) (by omega) (by omega))
  have HJ6 := hid (((((HJ5.out.set B 0 (.slice p0 n0 c0) (by omega)).set B 1 (.int .i64 (g0 : Nat)) (by omega)).set B 2 (.int .i64 (u0 : Nat)) (by omega)).set B 3 (.bool d0) (by omega)).set B 4 (.bool e0) (by omega))
  have hbb : Blk (((((w5.setCell ⟨B, 0, none⟩ (.slice p0 n0 c0)).setCell ⟨B, 1, none⟩ (.int .i64 (g0 : Nat))).setCell ⟨B, 2, none⟩ (.int .i64 (u0 : Nat))).setCell ⟨B, 3, none⟩ (.bool d0)).setCell ⟨B, 4, none⟩ (.bool e0)) B 97 #[.slice p0 n0 c0, .int .i64 (g0 : Nat), .int .i64 (u0 : Nat), .bool d0, .bool e0, .slice none 0 0, .int .i64 0, .int .i64 0, .bool false, .bool false] := (((((HBo.out.set 0 (.slice p0 n0 c0)).set 1 (.int .i64 (g0 : Nat))).set 2 (.int .i64 (u0 : Nat))).set 3 (.bool d0)).set 4 (.bool e0))
  have HBo6 := hid hbb
  clear hbb
  have hz6 : (((((w5.setCell ⟨B, 0, none⟩ (.slice p0 n0 c0)).setCell ⟨B, 1, none⟩ (.int .i64 (g0 : Nat))).setCell ⟨B, 2, none⟩ (.int .i64 (u0 : Nat))).setCell ⟨B, 3, none⟩ (.bool d0)).setCell ⟨B, 4, none⟩ (.bool e0)).heap.size = w5.heap.size := by simp
  clear HR5 HW5 HJ5 HBo HD hRw
  generalize (((((w5.setCell ⟨B, 0, none⟩ (.slice p0 n0 c0)).setCell ⟨B, 1, none⟩ (.int .i64 (g0 : Nat))).setCell ⟨B, 2, none⟩ (.int .i64 (u0 : Nat))).setCell ⟨B, 3, none⟩ (.bool d0)).setCell ⟨B, 4, none⟩ (.bool e0)) = w6 at *
  rw [rounds_succ]
  go_wp2_with ((with_reducible refine wpList_unguard ?_ ?_); (focus rfl))
  obtain ⟨hOut6, x6, hD6⟩ := HR6.out
  refine Calls.mono (log_read i { s with ops := x6 } L S 0 1 _ 0 0 false false w6 hD6 hd HW6.out.hL HW6.out.hS HW6.out.hLo HW6.out.hSo (by omega)) ?_; rintro e w7 ⟨rv1, rfl, hro, hrd⟩
  rw [runH_ops] at hro ⊢
  obtain ⟨x1, hx1⟩ : ∃ x, outH (runH s 1 16) = x := ⟨_, rfl⟩
  rw [hx1] at hro ⊢
  have HX1 := hid hx1
  clear hx1
  obtain ⟨l1, g1, u1, d1, e1⟩ := x1
  obtain ⟨p1, n1, c1, rfl⟩ := hro.sl
  have hz7 : w6.heap.size ≤ w7.heap.size := hrd.out.size
  have hR7 : RdC i s w w7 := ⟨hOut6.trans hrd.out, by obtain ⟨y, hy⟩ := hrd.dev; exact ⟨y, hy⟩⟩
  have hBo7 := (HBo6.out).outS hrd.out (.inr (by omega))
  have hW7 := HW6.out.out hrd.out
  have hJ07 := HJ6.out.out hrd.out (by omega)
  have hJ17 := hro
  clear hro hrd hD6 hOut6
  unfold halfV
  have hA : Below w7.heap.size w7 (w7.alloc (.cells #[.slice p1 n1 c1, .int .i64 (g1 : Nat), .int .i64 (u1 : Nat), .bool d1, .bool e1] 96)) := (Below.refl _ _).alloc (Nat.le_refl _) _
  have hH := Blk.new w7 96 #[.slice p1 n1 c1, .int .i64 (g1 : Nat), .int .i64 (u1 : Nat), .bool d1, .bool e1]
  have hz8 : (w7.alloc (.cells #[.slice p1 n1 c1, .int .i64 (g1 : Nat), .int .i64 (u1 : Nat), .bool d1, .bool e1] 96)).heap.size = w7.heap.size + 1 := by simp
  have hBo8 := hBo7.below hA
  have HW8 := hid (hW7.below hA)
  have HJ08 := hid (hJ07.below hA)
  have HJ18 := hid (hJ17.below hA)
  have HR8 := hid (hR7.below hA)
  clear HBo6 hBo7 HW6 hW7 HJ6 hJ07 hJ17 HR6 hR7 hA
  obtain ⟨w8, hw8⟩ : ∃ u, w7.alloc (.cells #[.slice p1 n1 c1, .int .i64 (g1 : Nat), .int .i64 (u1 : Nat), .bool d1, .bool e1] 96) = u := ⟨_, rfl⟩
  rw [hw8] at hH hz8 hBo8 HW8 HJ08 HJ18 HR8
  have HBo := hid hBo8
  have a0 := hH.cell 0 _ rfl
  have a1 := hH.cell 1 _ rfl
  have a2 := hH.cell 2 _ rfl
  have a3 := hH.cell 3 _ rfl
  have a4 := hH.cell 4 _ rfl
  have b5 : w8.cell? ⟨B, 5, none⟩ = some (.slice none 0 0) := hBo8.cell 5 _ rfl
  have b6 : w8.cell? ⟨B, 6, none⟩ = some (.int .i64 0) := hBo8.cell 6 _ rfl
  have b7 : w8.cell? ⟨B, 7, none⟩ = some (.int .i64 0) := hBo8.cell 7 _ rfl
  have b8 : w8.cell? ⟨B, 8, none⟩ = some (.bool false) := hBo8.cell 8 _ rfl
  have b9 : w8.cell? ⟨B, 9, none⟩ = some (.bool false) := hBo8.cell 9 _ rfl
  have fb := hBo8.free
  have f5 := fb 5
  have f6 := fb 6
  have f7 := fb 7
  have f8 := fb 8
  have f9 := fb 9
  have hneB7 : B ≠ w7.heap.size := by omega
  clear fb hH hBo8
  go_wp2_with ((with_reducible refine wpList_unguard ?_ ?_); (focus rfl))
  clear a0 a1 a2 a3 a4 b5 b6 b7 b8 b9 f5 f6 f7 f8 f9 hw8
  have HR9 := hid (((((HR8.out.set B 5 (.slice p1 n1 c1) hihw hih).set B 6 (.int .i64 (g1 : Nat)) hihw hih).set B 7 (.int .i64 (u1 : Nat)) hihw hih).set B 8 (.bool d1) hihw hih).set B 9 (.bool e1) hihw hih)
  have HW9 := hid (((((HW8.out.setB B 5 (.slice p1 n1 c1) (by omega) (by omega)).setB B 6 (.int .i64 (g1 : Nat)) (by omega) (by omega)).setB B 7 (.int .i64 (u1 : Nat)) (by omega) (by omega)).setB B 8 (.bool d1) (by omega) (by omega)).setB B 9 (.bool e1) (by omega) (by omega))
  have HJ09 := hid (((((HJ08.out.set B 5 (.slice p1 n1 c1) (by omega)).set B 6 (.int .i64 (g1 : Nat)) (by omega)).set B 7 (.int .i64 (u1 : Nat)) (by omega)).set B 8 (.bool d1) (by omega)).set B 9 (.bool e1) (by omega))
  have HJ19 := hid (((((HJ18.out.set B 5 (.slice p1 n1 c1) (by omega)).set B 6 (.int .i64 (g1 : Nat)) (by omega)).set B 7 (.int .i64 (u1 : Nat)) (by omega)).set B 8 (.bool d1) (by omega)).set B 9 (.bool e1) (by omega))
  have hbb : Blk (((((w8.setCell ⟨B, 5, none⟩ (.slice p1 n1 c1)).setCell ⟨B, 6, none⟩ (.int .i64 (g1 : Nat))).setCell ⟨B, 7, none⟩ (.int .i64 (u1 : Nat))).setCell ⟨B, 8, none⟩ (.bool d1)).setCell ⟨B, 9, none⟩ (.bool e1)) B 97 #[.slice p0 n0 c0, .int .i64 (g0 : Nat), .int .i64 (u0 : Nat), .bool d0, .bool e0, .slice p1 n1 c1, .int .i64 (g1 : Nat), .int .i64 (u1 : Nat), .bool d1, .bool e1] := (((((HBo.out.set 5 (.slice p1 n1 c1)).set 6 (.int .i64 (g1 : Nat))).set 7 (.int .i64 (u1 : Nat))).set 8 (.bool d1)).set 9 (.bool e1))
  have HBo9 := hid hbb
  clear hbb
  have hz9 : (((((w8.setCell ⟨B, 5, none⟩ (.slice p1 n1 c1)).setCell ⟨B, 6, none⟩ (.int .i64 (g1 : Nat))).setCell ⟨B, 7, none⟩ (.int .i64 (u1 : Nat))).setCell ⟨B, 8, none⟩ (.bool d1)).setCell ⟨B, 9, none⟩ (.bool e1)).heap.size = w8.heap.size := by simp
  clear HR8 HW8 HJ08 HJ18 HBo
  generalize (((((w8.setCell ⟨B, 5, none⟩ (.slice p1 n1 c1)).setCell ⟨B, 6, none⟩ (.int .i64 (g1 : Nat))).setCell ⟨B, 7, none⟩ (.int .i64 (u1 : Nat))).setCell ⟨B, 8, none⟩ (.bool d1)).setCell ⟨B, 9, none⟩ (.bool e1)) = w9 at *
  rw [rounds_succ]
  have hL9 := HW9.out.hL
  have m1 : w9.cell? ⟨L, 1, none⟩ = some (.slice none 0 0) := hL9.cell 1 _ rfl
  have m2 : w9.cell? ⟨L, 2, none⟩ = some (.int .i64 0) := hL9.cell 2 _ rfl
  have m3 : w9.cell? ⟨L, 3, none⟩ = some (.int .i64 0) := hL9.cell 3 _ rfl
  have m4 : w9.cell? ⟨L, 4, none⟩ = some (.bool false) := hL9.cell 4 _ rfl
  have m5 : w9.cell? ⟨L, 5, none⟩ = some (.bool false) := hL9.cell 5 _ rfl
  have m10 : w9.cell? ⟨L, 10, none⟩ = some (.int .i64 0) := hL9.cell 10 _ rfl
  have fl := hL9.free
  have k1 := fl 1
  have k2 := fl 2
  have k3 := fl 3
  have k4 := fl 4
  have k5 := fl 5
  have k10 := fl 10
  have y0 : w9.cell? ⟨B, 0, none⟩ = some (.slice p0 n0 c0) := HBo9.out.cell 0 _ rfl
  have y1 : w9.cell? ⟨B, 1, none⟩ = some (.int .i64 (g0 : Nat)) := HBo9.out.cell 1 _ rfl
  have y2 : w9.cell? ⟨B, 2, none⟩ = some (.int .i64 (u0 : Nat)) := HBo9.out.cell 2 _ rfl
  have y3 : w9.cell? ⟨B, 3, none⟩ = some (.bool d0) := HBo9.out.cell 3 _ rfl
  have y4 : w9.cell? ⟨B, 4, none⟩ = some (.bool e0) := HBo9.out.cell 4 _ rfl
  have y5 : w9.cell? ⟨B, 5, none⟩ = some (.slice p1 n1 c1) := HBo9.out.cell 5 _ rfl
  have y6 : w9.cell? ⟨B, 6, none⟩ = some (.int .i64 (g1 : Nat)) := HBo9.out.cell 6 _ rfl
  have y7 : w9.cell? ⟨B, 7, none⟩ = some (.int .i64 (u1 : Nat)) := HBo9.out.cell 7 _ rfl
  have y8 : w9.cell? ⟨B, 8, none⟩ = some (.bool d1) := HBo9.out.cell 8 _ rfl
  have y9 : w9.cell? ⟨B, 9, none⟩ = some (.bool e1) := HBo9.out.cell 9 _ rfl
  have hBL : B ≠ L := by omega
  have hLB : L ≠ B := by omega
  have HL9 := hid hL9
  have hsz9 : w3.heap.size ≤ w9.heap.size ∧ w.heap.size ≤ w3.heap.size := by omega
  have HSL : Hid (S ≠ L) := by show S ≠ L; omega
  have hww : w.heap.size ≤ L := by omega
  have hb00 : w.heap.size ≤ w3.heap.size ∧ L < w3.heap.size ∧ S < w3.heap.size ∧ i.hi ≤ w3.heap.size := by omega
  clear fl hL9
  cases d1 with
  | false =>
    cases d0 with
    | false =>
      have hLz : Blk ((((((w9.setCell ⟨L, 10, none⟩ (.int .i64 0)).setCell ⟨L, 1, none⟩ (.slice p0 n0 c0)).setCell ⟨L, 2, none⟩ (.int .i64 (g0 : Nat))).setCell ⟨L, 3, none⟩ (.int .i64 (u0 : Nat))).setCell ⟨L, 4, none⟩ (.bool false)).setCell ⟨L, 5, none⟩ (.bool e0)) L 102 (logC i.D S 0 (.slice p0 n0 c0) (g0 : Nat) (u0 : Nat) false e0) := ((((((HL9.out.set 10 (.int .i64 0)).set 1 (.slice p0 n0 c0)).set 2 (.int .i64 (g0 : Nat))).set 3 (.int .i64 (u0 : Nat))).set 4 (.bool false)).set 5 (.bool e0))
      have HLz := hid hLz
      clear hLz
      have HRz := hid ((((((HR9.out.set L 10 (.int .i64 0) hww hih).set L 1 (.slice p0 n0 c0) hww hih).set L 2 (.int .i64 (g0 : Nat)) hww hih).set L 3 (.int .i64 (u0 : Nat)) hww hih).set L 4 (.bool false) hww hih).set L 5 (.bool e0) hww hih)
      have HJz := hid ((((((HJ09.out.set L 10 (.int .i64 0) (by omega)).set L 1 (.slice p0 n0 c0) (by omega)).set L 2 (.int .i64 (g0 : Nat)) (by omega)).set L 3 (.int .i64 (u0 : Nat)) (by omega)).set L 4 (.bool false) (by omega)).set L 5 (.bool e0) (by omega))
      have hSz : isC ((((((w9.setCell ⟨L, 10, none⟩ (.int .i64 0)).setCell ⟨L, 1, none⟩ (.slice p0 n0 c0)).setCell ⟨L, 2, none⟩ (.int .i64 (g0 : Nat))).setCell ⟨L, 3, none⟩ (.int .i64 (u0 : Nat))).setCell ⟨L, 4, none⟩ (.bool false)).setCell ⟨L, 5, none⟩ (.bool e0)) S := by
        have h3 := HW9.out.hS
        unfold isC at h3 ⊢
        rw [heap_setCell_other _ _ S _ HSL.out, heap_setCell_other _ _ S _ HSL.out, heap_setCell_other _ _ S _ HSL.out, heap_setCell_other _ _ S _ HSL.out, heap_setCell_other _ _ S _ HSL.out, heap_setCell_other _ _ S _ HSL.out]; exact h3
      have HSz := hid hSz
      have hzz : ((((((w9.setCell ⟨L, 10, none⟩ (.int .i64 0)).setCell ⟨L, 1, none⟩ (.slice p0 n0 c0)).setCell ⟨L, 2, none⟩ (.int .i64 (g0 : Nat))).setCell ⟨L, 3, none⟩ (.int .i64 (u0 : Nat))).setCell ⟨L, 4, none⟩ (.bool false)).setCell ⟨L, 5, none⟩ (.bool e0)).heap.size = w9.heap.size := by simp
      clear hSz
      go_upto_region 17 with fail
      have v4 : ((((((w9.setCell ⟨L, 10, none⟩ (.int .i64 0)).setCell ⟨L, 1, none⟩ (.slice p0 n0 c0)).setCell ⟨L, 2, none⟩ (.int .i64 (g0 : Nat))).setCell ⟨L, 3, none⟩ (.int .i64 (u0 : Nat))).setCell ⟨L, 4, none⟩ (.bool false)).setCell ⟨L, 5, none⟩ (.bool e0)).cell? ⟨L, 4, none⟩ = some (.bool false) := HLz.out.cell 4 _ rfl
      generalize ((((((w9.setCell ⟨L, 10, none⟩ (.int .i64 0)).setCell ⟨L, 1, none⟩ (.slice p0 n0 c0)).setCell ⟨L, 2, none⟩ (.int .i64 (g0 : Nat))).setCell ⟨L, 3, none⟩ (.int .i64 (u0 : Nat))).setCell ⟨L, 4, none⟩ (.bool false)).setCell ⟨L, 5, none⟩ (.bool e0)) = wz at *
      go_wp2_with ((with_reducible refine wpList_unguard ?_ ?_); (focus rfl))
      go_ret2
      unfold OpenPost
      have hat : openAt (outH (runH s 0 16)) (outH (runH s 1 16)) = 0 := by
        rw [HX0.out, HX1.out]; unfold openAt; rw [if_neg (by simp)]
      rw [hat, HX0.out, HX1.out]
      refine ⟨_, rfl, HRz.out, ?_, ?_⟩
      · intro _; rfl
      · intro h; simp at h
    | true =>
      have hLz : Blk ((((((w9.setCell ⟨L, 10, none⟩ (.int .i64 0)).setCell ⟨L, 1, none⟩ (.slice p0 n0 c0)).setCell ⟨L, 2, none⟩ (.int .i64 (g0 : Nat))).setCell ⟨L, 3, none⟩ (.int .i64 (u0 : Nat))).setCell ⟨L, 4, none⟩ (.bool true)).setCell ⟨L, 5, none⟩ (.bool e0)) L 102 (logC i.D S 0 (.slice p0 n0 c0) (g0 : Nat) (u0 : Nat) true e0) := ((((((HL9.out.set 10 (.int .i64 0)).set 1 (.slice p0 n0 c0)).set 2 (.int .i64 (g0 : Nat))).set 3 (.int .i64 (u0 : Nat))).set 4 (.bool true)).set 5 (.bool e0))
      have HLz := hid hLz
      clear hLz
      have HRz := hid ((((((HR9.out.set L 10 (.int .i64 0) hww hih).set L 1 (.slice p0 n0 c0) hww hih).set L 2 (.int .i64 (g0 : Nat)) hww hih).set L 3 (.int .i64 (u0 : Nat)) hww hih).set L 4 (.bool true) hww hih).set L 5 (.bool e0) hww hih)
      have HJz := hid ((((((HJ09.out.set L 10 (.int .i64 0) (by omega)).set L 1 (.slice p0 n0 c0) (by omega)).set L 2 (.int .i64 (g0 : Nat)) (by omega)).set L 3 (.int .i64 (u0 : Nat)) (by omega)).set L 4 (.bool true) (by omega)).set L 5 (.bool e0) (by omega))
      have hSz : isC ((((((w9.setCell ⟨L, 10, none⟩ (.int .i64 0)).setCell ⟨L, 1, none⟩ (.slice p0 n0 c0)).setCell ⟨L, 2, none⟩ (.int .i64 (g0 : Nat))).setCell ⟨L, 3, none⟩ (.int .i64 (u0 : Nat))).setCell ⟨L, 4, none⟩ (.bool true)).setCell ⟨L, 5, none⟩ (.bool e0)) S := by
        have h3 := HW9.out.hS
        unfold isC at h3 ⊢
        rw [heap_setCell_other _ _ S _ HSL.out, heap_setCell_other _ _ S _ HSL.out, heap_setCell_other _ _ S _ HSL.out, heap_setCell_other _ _ S _ HSL.out, heap_setCell_other _ _ S _ HSL.out, heap_setCell_other _ _ S _ HSL.out]; exact h3
      have HSz := hid hSz
      have hzz : ((((((w9.setCell ⟨L, 10, none⟩ (.int .i64 0)).setCell ⟨L, 1, none⟩ (.slice p0 n0 c0)).setCell ⟨L, 2, none⟩ (.int .i64 (g0 : Nat))).setCell ⟨L, 3, none⟩ (.int .i64 (u0 : Nat))).setCell ⟨L, 4, none⟩ (.bool true)).setCell ⟨L, 5, none⟩ (.bool e0)).heap.size = w9.heap.size := by simp
      clear hSz
      go_upto_region 17 with fail
      have v4 : ((((((w9.setCell ⟨L, 10, none⟩ (.int .i64 0)).setCell ⟨L, 1, none⟩ (.slice p0 n0 c0)).setCell ⟨L, 2, none⟩ (.int .i64 (g0 : Nat))).setCell ⟨L, 3, none⟩ (.int .i64 (u0 : Nat))).setCell ⟨L, 4, none⟩ (.bool true)).setCell ⟨L, 5, none⟩ (.bool e0)).cell? ⟨L, 4, none⟩ = some (.bool true) := HLz.out.cell 4 _ rfl
      generalize ((((((w9.setCell ⟨L, 10, none⟩ (.int .i64 0)).setCell ⟨L, 1, none⟩ (.slice p0 n0 c0)).setCell ⟨L, 2, none⟩ (.int .i64 (g0 : Nat))).setCell ⟨L, 3, none⟩ (.int .i64 (u0 : Nat))).setCell ⟨L, 4, none⟩ (.bool true)).setCell ⟨L, 5, none⟩ (.bool e0)) = wz at *
      go_wp2_with ((with_reducible refine wpList_unguard ?_ ?_); (focus rfl))
      go_ret2
      unfold OpenPost
      have hat : openAt (outH (runH s 0 16)) (outH (runH s 1 16)) = 0 := by
        rw [HX0.out, HX1.out]; unfold openAt; rw [if_neg (by simp)]
      rw [hat, HX0.out, HX1.out]
      refine ⟨_, rfl, HRz.out, ?_, ?_⟩
      · intro h; simp at h
      · intro _
        refine ⟨L, S, _, w3.heap.size, rfl, hww, hb00.1, by omega, ⟨HLz.out, HSz.out, HW9.out.hLo, HW9.out.hSo⟩, (HJz.out.toJ.weak (by omega)), hb00.2.1, hb00.2.2.1, hb00.2.2.2, HSL.out⟩
  | true =>
    cases d0 with
    | false =>
      have hLz : Blk (((((((w9.setCell ⟨L, 10, none⟩ (.int .i64 0)).setCell ⟨L, 10, none⟩ (.int .i64 1)).setCell ⟨L, 1, none⟩ (.slice p1 n1 c1)).setCell ⟨L, 2, none⟩ (.int .i64 (g1 : Nat))).setCell ⟨L, 3, none⟩ (.int .i64 (u1 : Nat))).setCell ⟨L, 4, none⟩ (.bool true)).setCell ⟨L, 5, none⟩ (.bool e1)) L 102 (logC i.D S 1 (.slice p1 n1 c1) (g1 : Nat) (u1 : Nat) true e1) := (((((((HL9.out.set 10 (.int .i64 0)).set 10 (.int .i64 1)).set 1 (.slice p1 n1 c1)).set 2 (.int .i64 (g1 : Nat))).set 3 (.int .i64 (u1 : Nat))).set 4 (.bool true)).set 5 (.bool e1))
      have HLz := hid hLz
      clear hLz
      have HRz := hid (((((((HR9.out.set L 10 (.int .i64 0) hww hih).set L 10 (.int .i64 1) hww hih).set L 1 (.slice p1 n1 c1) hww hih).set L 2 (.int .i64 (g1 : Nat)) hww hih).set L 3 (.int .i64 (u1 : Nat)) hww hih).set L 4 (.bool true) hww hih).set L 5 (.bool e1) hww hih)
      have HJz := hid (((((((HJ19.out.set L 10 (.int .i64 0) (by omega)).set L 10 (.int .i64 1) (by omega)).set L 1 (.slice p1 n1 c1) (by omega)).set L 2 (.int .i64 (g1 : Nat)) (by omega)).set L 3 (.int .i64 (u1 : Nat)) (by omega)).set L 4 (.bool true) (by omega)).set L 5 (.bool e1) (by omega))
      have hSz : isC (((((((w9.setCell ⟨L, 10, none⟩ (.int .i64 0)).setCell ⟨L, 10, none⟩ (.int .i64 1)).setCell ⟨L, 1, none⟩ (.slice p1 n1 c1)).setCell ⟨L, 2, none⟩ (.int .i64 (g1 : Nat))).setCell ⟨L, 3, none⟩ (.int .i64 (u1 : Nat))).setCell ⟨L, 4, none⟩ (.bool true)).setCell ⟨L, 5, none⟩ (.bool e1)) S := by
        have h3 := HW9.out.hS
        unfold isC at h3 ⊢
        rw [heap_setCell_other _ _ S _ HSL.out, heap_setCell_other _ _ S _ HSL.out, heap_setCell_other _ _ S _ HSL.out, heap_setCell_other _ _ S _ HSL.out, heap_setCell_other _ _ S _ HSL.out, heap_setCell_other _ _ S _ HSL.out, heap_setCell_other _ _ S _ HSL.out]; exact h3
      have HSz := hid hSz
      have hzz : (((((((w9.setCell ⟨L, 10, none⟩ (.int .i64 0)).setCell ⟨L, 10, none⟩ (.int .i64 1)).setCell ⟨L, 1, none⟩ (.slice p1 n1 c1)).setCell ⟨L, 2, none⟩ (.int .i64 (g1 : Nat))).setCell ⟨L, 3, none⟩ (.int .i64 (u1 : Nat))).setCell ⟨L, 4, none⟩ (.bool true)).setCell ⟨L, 5, none⟩ (.bool e1)).heap.size = w9.heap.size := by simp
      clear hSz
      go_upto_region 17 with fail
      have v4 : (((((((w9.setCell ⟨L, 10, none⟩ (.int .i64 0)).setCell ⟨L, 10, none⟩ (.int .i64 1)).setCell ⟨L, 1, none⟩ (.slice p1 n1 c1)).setCell ⟨L, 2, none⟩ (.int .i64 (g1 : Nat))).setCell ⟨L, 3, none⟩ (.int .i64 (u1 : Nat))).setCell ⟨L, 4, none⟩ (.bool true)).setCell ⟨L, 5, none⟩ (.bool e1)).cell? ⟨L, 4, none⟩ = some (.bool true) := HLz.out.cell 4 _ rfl
      generalize (((((((w9.setCell ⟨L, 10, none⟩ (.int .i64 0)).setCell ⟨L, 10, none⟩ (.int .i64 1)).setCell ⟨L, 1, none⟩ (.slice p1 n1 c1)).setCell ⟨L, 2, none⟩ (.int .i64 (g1 : Nat))).setCell ⟨L, 3, none⟩ (.int .i64 (u1 : Nat))).setCell ⟨L, 4, none⟩ (.bool true)).setCell ⟨L, 5, none⟩ (.bool e1)) = wz at *
      go_wp2_with ((with_reducible refine wpList_unguard ?_ ?_); (focus rfl))
      go_ret2
      unfold OpenPost
      have hat : openAt (outH (runH s 0 16)) (outH (runH s 1 16)) = 1 := by
        rw [HX0.out, HX1.out]; unfold openAt; rw [if_pos (by simp)]
      rw [hat, HX0.out, HX1.out]
      refine ⟨_, rfl, HRz.out, ?_, ?_⟩
      · intro h; simp at h
      · intro _
        refine ⟨L, S, _, w3.heap.size, rfl, hww, hb00.1, by omega, ⟨HLz.out, HSz.out, HW9.out.hLo, HW9.out.hSo⟩, (HJz.out.toJ.weak (by omega)), hb00.2.1, hb00.2.2.1, hb00.2.2.2, HSL.out⟩
    | true =>
      by_cases hg : g0 < g1
      · have qg : decide ((g0 : Int) < (g1 : Int)) = true := decide_eq_true (by omega)
        have hLz : Blk (((((((w9.setCell ⟨L, 10, none⟩ (.int .i64 0)).setCell ⟨L, 10, none⟩ (.int .i64 1)).setCell ⟨L, 1, none⟩ (.slice p1 n1 c1)).setCell ⟨L, 2, none⟩ (.int .i64 (g1 : Nat))).setCell ⟨L, 3, none⟩ (.int .i64 (u1 : Nat))).setCell ⟨L, 4, none⟩ (.bool true)).setCell ⟨L, 5, none⟩ (.bool e1)) L 102 (logC i.D S 1 (.slice p1 n1 c1) (g1 : Nat) (u1 : Nat) true e1) := (((((((HL9.out.set 10 (.int .i64 0)).set 10 (.int .i64 1)).set 1 (.slice p1 n1 c1)).set 2 (.int .i64 (g1 : Nat))).set 3 (.int .i64 (u1 : Nat))).set 4 (.bool true)).set 5 (.bool e1))
        have HLz := hid hLz
        clear hLz
        have HRz := hid (((((((HR9.out.set L 10 (.int .i64 0) hww hih).set L 10 (.int .i64 1) hww hih).set L 1 (.slice p1 n1 c1) hww hih).set L 2 (.int .i64 (g1 : Nat)) hww hih).set L 3 (.int .i64 (u1 : Nat)) hww hih).set L 4 (.bool true) hww hih).set L 5 (.bool e1) hww hih)
        have HJz := hid (((((((HJ19.out.set L 10 (.int .i64 0) (by omega)).set L 10 (.int .i64 1) (by omega)).set L 1 (.slice p1 n1 c1) (by omega)).set L 2 (.int .i64 (g1 : Nat)) (by omega)).set L 3 (.int .i64 (u1 : Nat)) (by omega)).set L 4 (.bool true) (by omega)).set L 5 (.bool e1) (by omega))
        have hSz : isC (((((((w9.setCell ⟨L, 10, none⟩ (.int .i64 0)).setCell ⟨L, 10, none⟩ (.int .i64 1)).setCell ⟨L, 1, none⟩ (.slice p1 n1 c1)).setCell ⟨L, 2, none⟩ (.int .i64 (g1 : Nat))).setCell ⟨L, 3, none⟩ (.int .i64 (u1 : Nat))).setCell ⟨L, 4, none⟩ (.bool true)).setCell ⟨L, 5, none⟩ (.bool e1)) S := by
          have h3 := HW9.out.hS
          unfold isC at h3 ⊢
          rw [heap_setCell_other _ _ S _ HSL.out, heap_setCell_other _ _ S _ HSL.out, heap_setCell_other _ _ S _ HSL.out, heap_setCell_other _ _ S _ HSL.out, heap_setCell_other _ _ S _ HSL.out, heap_setCell_other _ _ S _ HSL.out, heap_setCell_other _ _ S _ HSL.out]; exact h3
        have HSz := hid hSz
        have hzz : (((((((w9.setCell ⟨L, 10, none⟩ (.int .i64 0)).setCell ⟨L, 10, none⟩ (.int .i64 1)).setCell ⟨L, 1, none⟩ (.slice p1 n1 c1)).setCell ⟨L, 2, none⟩ (.int .i64 (g1 : Nat))).setCell ⟨L, 3, none⟩ (.int .i64 (u1 : Nat))).setCell ⟨L, 4, none⟩ (.bool true)).setCell ⟨L, 5, none⟩ (.bool e1)).heap.size = w9.heap.size := by simp
        clear hSz
        go_upto_region 17 with fail
        have v4 : (((((((w9.setCell ⟨L, 10, none⟩ (.int .i64 0)).setCell ⟨L, 10, none⟩ (.int .i64 1)).setCell ⟨L, 1, none⟩ (.slice p1 n1 c1)).setCell ⟨L, 2, none⟩ (.int .i64 (g1 : Nat))).setCell ⟨L, 3, none⟩ (.int .i64 (u1 : Nat))).setCell ⟨L, 4, none⟩ (.bool true)).setCell ⟨L, 5, none⟩ (.bool e1)).cell? ⟨L, 4, none⟩ = some (.bool true) := HLz.out.cell 4 _ rfl
        generalize (((((((w9.setCell ⟨L, 10, none⟩ (.int .i64 0)).setCell ⟨L, 10, none⟩ (.int .i64 1)).setCell ⟨L, 1, none⟩ (.slice p1 n1 c1)).setCell ⟨L, 2, none⟩ (.int .i64 (g1 : Nat))).setCell ⟨L, 3, none⟩ (.int .i64 (u1 : Nat))).setCell ⟨L, 4, none⟩ (.bool true)).setCell ⟨L, 5, none⟩ (.bool e1)) = wz at *
        go_wp2_with ((with_reducible refine wpList_unguard ?_ ?_); (focus rfl))
        go_ret2
        unfold OpenPost
        have hat : openAt (outH (runH s 0 16)) (outH (runH s 1 16)) = 1 := by
          rw [HX0.out, HX1.out]; unfold openAt; rw [if_pos (by simpa using hg)]
        rw [hat, HX0.out, HX1.out]
        refine ⟨_, rfl, HRz.out, ?_, ?_⟩
        · intro h; simp at h
        · intro _
          refine ⟨L, S, _, w3.heap.size, rfl, hww, hb00.1, by omega, ⟨HLz.out, HSz.out, HW9.out.hLo, HW9.out.hSo⟩, (HJz.out.toJ.weak (by omega)), hb00.2.1, hb00.2.2.1, hb00.2.2.2, HSL.out⟩
      · have qg : decide ((g0 : Int) < (g1 : Int)) = false := decide_eq_false (by omega)
        have hLz : Blk ((((((w9.setCell ⟨L, 10, none⟩ (.int .i64 0)).setCell ⟨L, 1, none⟩ (.slice p0 n0 c0)).setCell ⟨L, 2, none⟩ (.int .i64 (g0 : Nat))).setCell ⟨L, 3, none⟩ (.int .i64 (u0 : Nat))).setCell ⟨L, 4, none⟩ (.bool true)).setCell ⟨L, 5, none⟩ (.bool e0)) L 102 (logC i.D S 0 (.slice p0 n0 c0) (g0 : Nat) (u0 : Nat) true e0) := ((((((HL9.out.set 10 (.int .i64 0)).set 1 (.slice p0 n0 c0)).set 2 (.int .i64 (g0 : Nat))).set 3 (.int .i64 (u0 : Nat))).set 4 (.bool true)).set 5 (.bool e0))
        have HLz := hid hLz
        clear hLz
        have HRz := hid ((((((HR9.out.set L 10 (.int .i64 0) hww hih).set L 1 (.slice p0 n0 c0) hww hih).set L 2 (.int .i64 (g0 : Nat)) hww hih).set L 3 (.int .i64 (u0 : Nat)) hww hih).set L 4 (.bool true) hww hih).set L 5 (.bool e0) hww hih)
        have HJz := hid ((((((HJ09.out.set L 10 (.int .i64 0) (by omega)).set L 1 (.slice p0 n0 c0) (by omega)).set L 2 (.int .i64 (g0 : Nat)) (by omega)).set L 3 (.int .i64 (u0 : Nat)) (by omega)).set L 4 (.bool true) (by omega)).set L 5 (.bool e0) (by omega))
        have hSz : isC ((((((w9.setCell ⟨L, 10, none⟩ (.int .i64 0)).setCell ⟨L, 1, none⟩ (.slice p0 n0 c0)).setCell ⟨L, 2, none⟩ (.int .i64 (g0 : Nat))).setCell ⟨L, 3, none⟩ (.int .i64 (u0 : Nat))).setCell ⟨L, 4, none⟩ (.bool true)).setCell ⟨L, 5, none⟩ (.bool e0)) S := by
          have h3 := HW9.out.hS
          unfold isC at h3 ⊢
          rw [heap_setCell_other _ _ S _ HSL.out, heap_setCell_other _ _ S _ HSL.out, heap_setCell_other _ _ S _ HSL.out, heap_setCell_other _ _ S _ HSL.out, heap_setCell_other _ _ S _ HSL.out, heap_setCell_other _ _ S _ HSL.out]; exact h3
        have HSz := hid hSz
        have hzz : ((((((w9.setCell ⟨L, 10, none⟩ (.int .i64 0)).setCell ⟨L, 1, none⟩ (.slice p0 n0 c0)).setCell ⟨L, 2, none⟩ (.int .i64 (g0 : Nat))).setCell ⟨L, 3, none⟩ (.int .i64 (u0 : Nat))).setCell ⟨L, 4, none⟩ (.bool true)).setCell ⟨L, 5, none⟩ (.bool e0)).heap.size = w9.heap.size := by simp
        clear hSz
        go_upto_region 17 with fail
        have v4 : ((((((w9.setCell ⟨L, 10, none⟩ (.int .i64 0)).setCell ⟨L, 1, none⟩ (.slice p0 n0 c0)).setCell ⟨L, 2, none⟩ (.int .i64 (g0 : Nat))).setCell ⟨L, 3, none⟩ (.int .i64 (u0 : Nat))).setCell ⟨L, 4, none⟩ (.bool true)).setCell ⟨L, 5, none⟩ (.bool e0)).cell? ⟨L, 4, none⟩ = some (.bool true) := HLz.out.cell 4 _ rfl
        generalize ((((((w9.setCell ⟨L, 10, none⟩ (.int .i64 0)).setCell ⟨L, 1, none⟩ (.slice p0 n0 c0)).setCell ⟨L, 2, none⟩ (.int .i64 (g0 : Nat))).setCell ⟨L, 3, none⟩ (.int .i64 (u0 : Nat))).setCell ⟨L, 4, none⟩ (.bool true)).setCell ⟨L, 5, none⟩ (.bool e0)) = wz at *
        go_wp2_with ((with_reducible refine wpList_unguard ?_ ?_); (focus rfl))
        go_ret2
        unfold OpenPost
        have hat : openAt (outH (runH s 0 16)) (outH (runH s 1 16)) = 0 := by
          rw [HX0.out, HX1.out]; unfold openAt; rw [if_neg (by simpa using hg)]
        rw [hat, HX0.out, HX1.out]
        refine ⟨_, rfl, HRz.out, ?_, ?_⟩
        · intro h; simp at h
        · intro _
          refine ⟨L, S, _, w3.heap.size, rfl, hww, hb00.1, by omega, ⟨HLz.out, HSz.out, HW9.out.hLo, HW9.out.hSo⟩, (HJz.out.toJ.weak (by omega)), hb00.2.1, hb00.2.2.1, hb00.2.2.2, HSL.out⟩
end Go.Proofs.Ytngkmlchblgmeaa
