/-
  A page's record in the program (record.Get): pages of at least 10 bytes.
-/
import Derived.Test.YtngkmlchblgmeaaRec3
import Derived.Test.YtngkmlchblgmeaaTake2
namespace Go.Proofs.Ytngkmlchblgmeaa
open Go.RowKit Tri

def pgK (S : List Nat) : Nat := numB (S.take 1)
def pgS (S : List Nat) : Nat := numB ((S.drop 1).take 1)
def pgN (S : List Nat) : Nat := numB ((S.drop 2).take 2)
def pgV (S : List Nat) : Nat := numB ((S.drop 4).take 6)
theorem takeN_pg (S : List Nat) : takeN S [1, 1, 2, 6] 4 = [pgK S, pgS S, pgN S, pgV S] := by
  simp [takeN, List.range_succ, sumN, pgK, pgS, pgN, pgV]
def getOk (S : List Nat) : Bool := recOk (pgK S) (pgS S) (pgN S) (pgV S) && decide (recP (pgK S) (pgS S) (pgN S) (pgV S) = S)
theorem recOk_iff {k s n v : Nat} : recOk (k : Int) s n v = true ↔ k ≤ 127 ∧ s ≤ 3 ∧ n ≤ 65535 ∧ v ≤ 281474976710655 := by
  unfold recOk
  simp only [Bool.and_eq_true, decide_eq_true_eq]
  omega

/-- A block that holds a record. -/
def R4 (w : World) (B : Nat) (a b c d : Int) : Prop := w.heap[B]? = some (.cells #[.int .i64 a, .int .i64 b, .int .i64 c, .int .i64 d] 37)
theorem R4.lt {w : World} {B : Nat} {a b c d : Int} (h : R4 w B a b c d) : B < w.heap.size := (Array.getElem?_eq_some_iff.1 h).1
theorem R4.below {w w' : World} {B : Nat} {a b c d : Int} (h : R4 w B a b c d) (hb : Below w.heap.size w w') : R4 w' B a b c d := by
  unfold R4; rw [hb.block B h.lt]; exact h
theorem R4.c0 {w : World} {B : Nat} {a b c d : Int} (h : R4 w B a b c d) : w.cell? ⟨B, 0, none⟩ = some (.int .i64 a) := cell_of_row _ _ 0 _ _ _ h
theorem R4.c1 {w : World} {B : Nat} {a b c d : Int} (h : R4 w B a b c d) : w.cell? ⟨B, 1, none⟩ = some (.int .i64 b) := cell_of_row _ _ 1 _ _ _ h
theorem R4.c2 {w : World} {B : Nat} {a b c d : Int} (h : R4 w B a b c d) : w.cell? ⟨B, 2, none⟩ = some (.int .i64 c) := cell_of_row _ _ 2 _ _ _ h
theorem R4.c3 {w : World} {B : Nat} {a b c d : Int} (h : R4 w B a b c d) : w.cell? ⟨B, 3, none⟩ = some (.int .i64 d) := cell_of_row _ _ 3 _ _ _ h
theorem R4.free {w : World} {B : Nat} {a b c d : Int} (h : R4 w B a b c d) (i : Nat) : w.frozen? ⟨B, i, none⟩ = false := by
  unfold World.frozen?
  simp only
  rw [show w.heap[B]? = _ from h]
  simp
theorem R4.sets {w : World} {B : Nat} {a b c d : Int} (h : R4 w B a b c d) (k s n v : Int) :
    R4 ((((w.setCell ⟨B, 0, none⟩ (.int .i64 k)).setCell ⟨B, 1, none⟩ (.int .i64 s)).setCell ⟨B, 2, none⟩ (.int .i64 n)).setCell ⟨B, 3, none⟩ (.int .i64 v)) B k s n v := by
  have h0 := heap_setCell_same w B 0 _ _ (.int .i64 k) h
  have h1 := heap_setCell_same _ B 1 _ _ (.int .i64 s) h0
  have h2 := heap_setCell_same _ B 2 _ _ (.int .i64 n) h1
  have h3 := heap_setCell_same _ B 3 _ _ (.int .i64 v) h2
  unfold R4
  simpa using h3
theorem KeepsC.set {w0 w : World} {b : Nat} (h : KeepsC w0 b w) (a : Addr) (v : Value) (h0 : w0.heap.size ≤ a.block) (hb : b ≠ a.block) : KeepsC w0 b (w.setCell a v) := ⟨h.1.setCell h0 v, h.2.setCell a v hb⟩

def getRet (S : List Nat) (e : Ending) : Prop :=
  if getOk S then e = .returned (.tuple #[.agg #[.int .i64 (pgK S : Nat), .int .i64 (pgS S : Nat), .int .i64 (pgN S : Nat), .int .i64 (pgV S : Nat)], .bool true])
  else e = .returned (.tuple #[.agg #[.int .i64 0, .int .i64 0, .int .i64 0, .int .i64 0], .bool false])
set_option maxHeartbeats 4000000 in
set_option maxRecDepth 100000 in
theorem rec_Get (w0 : World) (b : Nat) (page : ByteArray) (w : World) (K : KeepsC w0 b w) (h10 : 10 ≤ page.size) (hsz : page.size ≤ 1000000) :
    Calls Try.prog 98 #[.pointer (some ⟨b, 0, none⟩), .string page] w fun e w' =>
      getRet (sb page) e ∧ KeepsC w0 b w' := by
  have hw0 : w0.heap.size ≤ w.heap.size := K.1.size
  have hbB : b < w.heap.size := K.2.lt
  have hR0 : R4 (w.alloc (.cells #[.int .i64 0, .int .i64 0, .int .i64 0, .int .i64 0] 37)) w.heap.size 0 0 0 0 := heap_alloc_new w _
  have K0 := K.alloc (.cells #[.int .i64 0, .int .i64 0, .int .i64 0, .int .i64 0] 37)
  have hs0 : (w.alloc (.cells #[.int .i64 0, .int .i64 0, .int .i64 0, .int .i64 0] 37)).heap.size = w.heap.size + 1 := by simp
  (go_enter Try.func98, Try.ntmps98; try simp only [List.append])
  go_wp2_with ((with_reducible refine wpList_unguard ?_ ?_); (focus rfl))
  generalize w.alloc (.cells #[.int .i64 0, .int .i64 0, .int .i64 0, .int .i64 0] 37) = w1 at *
  generalize w.heap.size = B at *
  rw [← hs0]
  have hL := cellsI.new w1 [1, 1, 2, 6] #[.int .i64 1, .int .i64 1, .int .i64 2, .int .i64 6] 3 rfl
  have hb1 : Below w1.heap.size w1 (w1.alloc (.cells #[.int .i64 1, .int .i64 1, .int .i64 2, .int .i64 6] 3)) := (Below.refl _ _).alloc (Nat.le_refl _) _
  have K1 := K0.below hb1
  have hR1 := hR0.below hb1
  clear hb1 K0 hR0 hs0
  generalize w1.alloc (.cells #[.int .i64 1, .int .i64 1, .int .i64 2, .int .i64 6] 3) = w2 at *
  have hT := num_Take page (some ⟨w1.heap.size, 0, none⟩) 4 4 [1, 1, 2, 6] w2 rfl hL (by intro x hx; simp at hx; omega) (by simp) (by simp [sumN]; omega) hsz
  rw [show [1, 1, 2, 6].length = 4 from rfl, takeN_pg] at hT
  clear hL
  refine Calls.mono hT ?_
  rintro e w3 ⟨v, rfl, hO, hb⟩
  have K3 := hid (K1.below hb)
  have hR3 := hid (hR1.below hb)
  clear hT K1 hR1 hb
  obtain ⟨q, cap, rfl, hcap, hcl⟩ := hO.cells
  obtain ⟨a0, o0, rfl, d0⟩ := hcl 0 (by simp)
  obtain ⟨a1, o1, e1, d1⟩ := hcl 1 (by simp)
  obtain ⟨a2, o2, e2, d2⟩ := hcl 2 (by simp)
  obtain ⟨a3, o3, e3, d3⟩ := hcl 3 (by simp)
  simp only [Option.some.injEq, Addr.mk.injEq, and_true] at e1 e2 e3
  obtain ⟨rfl, rfl⟩ := e1
  obtain ⟨rfl, rfl⟩ := e2
  obtain ⟨rfl, rfl⟩ := e3
  have hk : Hid (pgK (sb page) = pgK (sb page)) := rfl
  simp only [List.getD_cons_zero, List.getD_cons_succ, Nat.add_zero, List.length_cons, List.length_nil, Nat.zero_add] at d0 d1 d2 d3 hcap ⊢
  have hlen4 : Hid (4 ≤ cap) := hcap
  clear hO hcl hcap hk
  have HG : Hid (getOk (sb page) = (recOk (pgK (sb page)) (pgS (sb page)) (pgN (sb page)) (pgV (sb page)) && decide (recP (pgK (sb page)) (pgS (sb page)) (pgN (sb page)) (pgV (sb page)) = sb page))) := rfl
  generalize hGG : getOk (sb page) = G at *
  have HGG := hid hGG
  clear hGG
  generalize hHKk : pgK (sb page) = k at *
  have HKk := hid hHKk
  clear hHKk
  generalize hHKs : pgS (sb page) = sl at *
  have HKs := hid hHKs
  clear hHKs
  generalize hHKn : pgN (sb page) = no at *
  have HKn := hid hHKn
  clear hHKn
  generalize hHKv : pgV (sb page) = va at *
  have HKv := hid hHKv
  clear hHKv
  go_wp2_with ((with_reducible refine wpList_unguard ?_ ?_); (focus rfl))
  have g0 : (w3.alloc (.cells #[.int .i64 0, .int .i64 0, .int .i64 0, .int .i64 0] 37)).cell? ⟨a0, o0, none⟩ = some (.int .i64 k) := by rw [World.cell?_alloc_lt _ _ _ (block_lt_of_cell d0)]; exact d0
  have g1 : (w3.alloc (.cells #[.int .i64 0, .int .i64 0, .int .i64 0, .int .i64 0] 37)).cell? ⟨a0, o0 + 1, none⟩ = some (.int .i64 sl) := by rw [World.cell?_alloc_lt _ _ _ (block_lt_of_cell d1)]; exact d1
  have g2 : (w3.alloc (.cells #[.int .i64 0, .int .i64 0, .int .i64 0, .int .i64 0] 37)).cell? ⟨a0, o0 + 2, none⟩ = some (.int .i64 no) := by rw [World.cell?_alloc_lt _ _ _ (block_lt_of_cell d2)]; exact d2
  have g3 : (w3.alloc (.cells #[.int .i64 0, .int .i64 0, .int .i64 0, .int .i64 0] 37)).cell? ⟨a0, o0 + 3, none⟩ = some (.int .i64 va) := by rw [World.cell?_alloc_lt _ _ _ (block_lt_of_cell d3)]; exact d3
  go_region
  clear g0 g1 g2 g3 d0 d1 d2 d3
  have hb4 : Below w3.heap.size w3 (w3.alloc (.cells #[.int .i64 k, .int .i64 sl, .int .i64 no, .int .i64 va] 37)).drew := ((Below.refl _ _).alloc (Nat.le_refl _) _).drew
  have K4 := hid (K3.out.below hb4)
  have hR4 := hid (hR3.out.below hb4)
  have hM4 : Hid (R4 (w3.alloc (.cells #[.int .i64 k, .int .i64 sl, .int .i64 no, .int .i64 va] 37)).drew w3.heap.size k sl no va) := heap_alloc_new w3 _
  clear hb4 K3 hR3
  generalize (w3.alloc (.cells #[.int .i64 k, .int .i64 sl, .int .i64 no, .int .i64 va] 37)).drew = w4 at *
  generalize w3.heap.size = D at *
  have m0 := hM4.out.c0; have m1 := hM4.out.c1; have m2 := hM4.out.c2; have m3 := hM4.out.c3
  have hbne : b ≠ B := by omega
  go_wp2_with ((with_reducible refine wpList_unguard ?_ ?_); (focus rfl))
  clear m0 m1 m2 m3
  rcases Bool.eq_false_or_eq_true (recOk (k : Int) sl no va) with hok | hok
  · have hr := recOk_iff.1 hok
    refine Calls.mono (rec_Put w4 b k sl no va w4 ⟨Below.refl _ _, K4.out.2⟩ hr.1 hr.2.1 hr.2.2.1 hr.2.2.2) ?_
    rintro e w5 ⟨rfl, hK5⟩
    have hb5 := hK5.1
    have K5 := hid (K4.out.below hb5)
    have hR5 := hid (hR4.out.below hb5)
    have hM5 := hid (hM4.out.below hb5)
    clear hK5 hb5 K4 hR4 hM4
    have hPl : ∀ y ∈ recP k sl no va, y < 256 := by
      intro y hy
      unfold recP at hy
      rcases List.mem_append.1 hy with h | h
      · exact recL_lt _ _ _ _ y h
      · exact putB_lt _ _ y h
    have hcmp : ((ofB (recP k sl no va)).toList == page.toList) = decide (recP k sl no va = sb page) := by rw [str_beq, sb_ofB _ hPl]
    by_cases hpg : recP k sl no va = sb page
    · have hG : Hid (G = true) := by show _ = _; rw [HG.out, hok, decide_eq_true hpg]; rfl
      rw [decide_eq_true hpg] at hcmp
      clear hPl hpg HG hok hr
      generalize ofB (recP k sl no va) = P at *
      have b0 := hR5.out.c0; have z0 := hR5.out.free 0
      have b1 := hR5.out.c1; have z1 := hR5.out.free 1
      have b2 := hR5.out.c2; have z2 := hR5.out.free 2
      have b3 := hR5.out.c3; have z3 := hR5.out.free 3
      have m0 := hM5.out.c0
      have m1 := hM5.out.c1
      have m2 := hM5.out.c2
      have m3 := hM5.out.c3
      go_wp2_with ((with_reducible refine wpList_unguard ?_ ?_); (focus rfl))
      have hF := hR5.out.sets k sl no va
      have x0 := hF.c0; have x1 := hF.c1; have x2 := hF.c2; have x3 := hF.c3
      refine bodyPost_ret (v := .tuple #[.agg #[.int .i64 k, .int .i64 sl, .int .i64 no, .int .i64 va], .bool true]) (by simp [results, Try.results98, go_sem, x0, x1, x2, x3]) rfl ⟨?_, ?_⟩
      · unfold getRet; rw [if_pos (HGG.out.trans hG.out), HKk.out, HKs.out, HKn.out, HKv.out]
      · exact (((K5.out.set ⟨B, 0, none⟩ _ hw0 hbne).set ⟨B, 1, none⟩ _ hw0 hbne).set ⟨B, 2, none⟩ _ hw0 hbne).set ⟨B, 3, none⟩ _ hw0 hbne
    · have hG : Hid (G = false) := by show _ = _; rw [HG.out, hok, decide_eq_false hpg]; rfl
      rw [decide_eq_false hpg] at hcmp
      clear hPl hpg HG hok hr hM5
      generalize ofB (recP k sl no va) = P at *
      have b0 := hR5.out.c0; have z0 := hR5.out.free 0
      have b1 := hR5.out.c1; have z1 := hR5.out.free 1
      have b2 := hR5.out.c2; have z2 := hR5.out.free 2
      have b3 := hR5.out.c3; have z3 := hR5.out.free 3
      go_wp2_with ((with_reducible refine wpList_unguard ?_ ?_); (focus rfl))
      have hF := hR5.out.sets 0 0 0 0
      have x0 := hF.c0; have x1 := hF.c1; have x2 := hF.c2; have x3 := hF.c3
      refine bodyPost_ret (v := .tuple #[.agg #[.int .i64 0, .int .i64 0, .int .i64 0, .int .i64 0], .bool false]) (by simp [results, Try.results98, go_sem, x0, x1, x2, x3]) rfl ⟨?_, ?_⟩
      · unfold getRet; rw [if_neg (by rw [HGG.out, hG.out]; decide)]
      · exact (((K5.out.set ⟨B, 0, none⟩ _ hw0 hbne).set ⟨B, 1, none⟩ _ hw0 hbne).set ⟨B, 2, none⟩ _ hw0 hbne).set ⟨B, 3, none⟩ _ hw0 hbne
  · refine Calls.mono (rec_Put_bad w4 b k sl no va w4 ⟨Below.refl _ _, K4.out.2⟩ hok) ?_
    rintro e w5 ⟨rfl, hK5⟩
    have hb5 := hK5.1
    have K5 := hid (K4.out.below hb5)
    have hR5 := hid (hR4.out.below hb5)
    have hM5 := hid (hM4.out.below hb5)
    clear hK5 hb5 K4 hR4 hM4
    have hG : Hid (G = false) := by show _ = _; rw [HG.out, hok]; rfl
    clear HG hok hM5
    have b0 := hR5.out.c0; have z0 := hR5.out.free 0
    have b1 := hR5.out.c1; have z1 := hR5.out.free 1
    have b2 := hR5.out.c2; have z2 := hR5.out.free 2
    have b3 := hR5.out.c3; have z3 := hR5.out.free 3
    go_wp2_with ((with_reducible refine wpList_unguard ?_ ?_); (focus rfl))
    have hF := hR5.out.sets 0 0 0 0
    have x0 := hF.c0; have x1 := hF.c1; have x2 := hF.c2; have x3 := hF.c3
    refine bodyPost_ret (v := .tuple #[.agg #[.int .i64 0, .int .i64 0, .int .i64 0, .int .i64 0], .bool false]) (by simp [results, Try.results98, go_sem, x0, x1, x2, x3]) rfl ⟨?_, ?_⟩
    · unfold getRet; rw [if_neg (by rw [HGG.out, hG.out]; decide)]
    · exact (((K5.out.set ⟨B, 0, none⟩ _ hw0 hbne).set ⟨B, 1, none⟩ _ hw0 hbne).set ⟨B, 2, none⟩ _ hw0 hbne).set ⟨B, 3, none⟩ _ hw0 hbne
end Go.Proofs.Ytngkmlchblgmeaa
