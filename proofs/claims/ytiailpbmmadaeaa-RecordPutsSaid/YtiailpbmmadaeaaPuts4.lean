/-
  record.Get of pages that are too short; record.Blank.
-/
import Derived.Test.YtiailpbmmadaeaaUnlQ
import Derived.Test.YtiailpbmmadaeaaTag4
namespace Go.Proofs.Ytiailpbmmadaeaa
open Go.RowKit Tri

set_option maxHeartbeats 4000000 in
set_option maxRecDepth 100000 in
theorem num_Take_short (s : ByteArray) (p : Option Addr) (n c : Nat) (L : List Nat) (w : World) (hn : n = L.length) (hp : cellsI w p L) (hs : sizesL L) (hl : L.length ≤ 1000) (hz : s.size < sumN L) :
    Calls Try.prog 42 #[.string s, .slice p n c] w fun e w' => e = .returned (.tuple #[.slice none 0 0, .int .i64 13]) ∧ w = w' := by
  subst hn
  have HP := hid hp
  have HS := hid hs
  clear hp hs
  have hd : decide ((s.size : Int) < (sumN L : Nat)) = true := decide_eq_true (by omega)
  have hd2 : decide (s.size < sumN L) = true := decide_eq_true (by omega)
  clear hz
  (go_enter Try.func42, Try.ntmps42; try simp only [List.append])
  go_wp2_with ((with_reducible refine wpList_unguard ?_ ?_); (focus rfl))
  refine Calls.mono (sl_ContainsFuncI p _ c L w rfl HP.out HS.out (by omega)) ?_; rintro e w' ⟨rfl, rfl⟩
  go_wp2_with ((with_reducible refine wpList_unguard ?_ ?_); (focus rfl))
  refine Calls.mono (num_Size p _ c L w rfl HP.out HS.out (by omega)) ?_; rintro e w' ⟨rfl, rfl⟩
  go_wp2_with ((with_reducible refine wpList_unguard ?_ ?_); (focus rfl))
  refine bodyPost_ret (v := .tuple #[.slice none 0 0, .int .i64 13]) (by simp [results, Try.results42, go_sem]) rfl ⟨rfl, rfl⟩

set_option maxHeartbeats 4000000 in
set_option maxRecDepth 100000 in
theorem rec_Get_short (w0 : World) (b : Nat) (page : ByteArray) (w : World) (K : KeepsC w0 b w) (h10 : page.size < 10) :
    Calls Try.prog 19 #[.pointer (some ⟨b, 0, none⟩), .string page] w fun e w' =>
      getRet (sb page) e ∧ KeepsC w0 b w' := by
  have hG : getOk (sb page) = false := by
    unfold getOk
    refine Bool.and_eq_false_iff.2 (.inr (decide_eq_false fun h => ?_))
    have := congrArg List.length h
    unfold recP at this
    rw [List.length_append, recL_len, putB_length, sb_length] at this
    omega
  have HG := hid hG
  clear hG
  have hw0 : w0.heap.size ≤ w.heap.size := K.1.size
  have hbB : b < w.heap.size := K.2.lt
  have hbne : b ≠ w.heap.size := by omega
  have hR0 : R4 (w.alloc (.cells #[.int .i64 0, .int .i64 0, .int .i64 0, .int .i64 0] 40)) w.heap.size 0 0 0 0 := heap_alloc_new w _
  have K0 := K.alloc (.cells #[.int .i64 0, .int .i64 0, .int .i64 0, .int .i64 0] 40)
  have hs0 : (w.alloc (.cells #[.int .i64 0, .int .i64 0, .int .i64 0, .int .i64 0] 40)).heap.size = w.heap.size + 1 := by simp
  (go_enter Try.func19, Try.ntmps19; try simp only [List.append])
  go_wp2_with ((with_reducible refine wpList_unguard ?_ ?_); (focus rfl))
  generalize w.alloc (.cells #[.int .i64 0, .int .i64 0, .int .i64 0, .int .i64 0] 40) = w1 at *
  generalize w.heap.size = B at *
  rw [← hs0]
  have hL := cellsI.new w1 [1, 1, 2, 6] #[.int .i64 1, .int .i64 1, .int .i64 2, .int .i64 6] 3 rfl
  have hb1 : Below w1.heap.size w1 (w1.alloc (.cells #[.int .i64 1, .int .i64 1, .int .i64 2, .int .i64 6] 3)) := (Below.refl _ _).alloc (Nat.le_refl _) _
  have K1 := hid (K0.below hb1)
  have hR1 := hid (hR0.below hb1)
  clear hb1 K0 hR0 K
  generalize w1.alloc (.cells #[.int .i64 1, .int .i64 1, .int .i64 2, .int .i64 6] 3) = w2 at *
  have hT := num_Take_short page (some ⟨w1.heap.size, 0, none⟩) 4 4 [1, 1, 2, 6] w2 rfl hL (by intro x hx; simp at hx; omega) (by simp) (by simp [sumN]; omega)
  clear hL
  refine Calls.mono hT ?_
  rintro e w3 ⟨rfl, rfl⟩
  clear hT
  have b0 := hR1.out.c0; have z0 := hR1.out.free 0
  have b1 := hR1.out.c1; have z1 := hR1.out.free 1
  have b2 := hR1.out.c2; have z2 := hR1.out.free 2
  have b3 := hR1.out.c3; have z3 := hR1.out.free 3
  go_wp2_with ((with_reducible refine wpList_unguard ?_ ?_); (focus rfl))
  have hF := hR1.out.sets 0 0 0 0
  have x0 := hF.c0; have x1 := hF.c1; have x2 := hF.c2; have x3 := hF.c3
  refine bodyPost_ret (v := .tuple #[.agg #[.int .i64 0, .int .i64 0, .int .i64 0, .int .i64 0], .bool false]) (by simp [results, Try.results19, go_sem, x0, x1, x2, x3]) rfl ⟨?_, ?_⟩
  · unfold getRet; rw [if_neg (by rw [HG.out]; decide)]
  · exact (((K1.out.set ⟨B, 0, none⟩ _ hw0 hbne).set ⟨B, 1, none⟩ _ hw0 hbne).set ⟨B, 2, none⟩ _ hw0 hbne).set ⟨B, 3, none⟩ _ hw0 hbne

theorem rec_Get_any (w0 : World) (b : Nat) (page : ByteArray) (w : World) (K : KeepsC w0 b w) (hsz : page.size ≤ 1000000) :
    Calls Try.prog 19 #[.pointer (some ⟨b, 0, none⟩), .string page] w fun e w' =>
      getRet (sb page) e ∧ KeepsC w0 b w' := by
  by_cases h : page.size < 10
  · exact rec_Get_short w0 b page w K h
  · exact rec_Get w0 b page w K (by omega) hsz

def isBlank16 (s : ByteArray) : Bool := decide (sb s = List.replicate 16 255)
set_option maxHeartbeats 400000 in
theorem rec_Blank (s : ByteArray) (w : World) :
    Calls Try.prog 30 #[.string s] w fun e w' => e = .returned (.bool (isBlank16 s)) ∧ Below w.heap.size w w' := by
  have hq := str_beq s (repS 16 255)
  rw [show sb (repS 16 255) = List.replicate 16 255 from sb_ofB _ (by decide)] at hq
  have HQ : Hid ((s.toList == (repS 16 255).toList) = isBlank16 s) := hq
  clear hq
  have HR := hid (strRep 255 16 w (by omega))
  generalize isBlank16 s = B at *
  generalize repS 16 255 = R at *
  (go_enter Try.func30, Try.ntmps30; try simp only [List.append])
  go_wp2_with fail
  refine Calls.mono HR.out ?_; rintro e w1 ⟨rfl, hb⟩
  have HB := hid hb
  have hq := HQ.out
  clear hb HR
  go_wp2
  go_ret
  exact ⟨rfl, HB.out⟩

set_option maxHeartbeats 400000 in
theorem rec_Put_nil (k s n v : Int) (w : World) :
    Calls Try.prog 17 #[.pointer none, .agg #[.int .i64 k, .int .i64 s, .int .i64 n, .int .i64 v]] w fun e w' => e = .returned (.tuple #[.string ⟨#[]⟩, .int .i64 1]) ∧ Below w.heap.size w w' := by
  have hb := hid ((Below.refl w.heap.size w).alloc (Nat.le_refl _) (.cells #[.int .i64 k, .int .i64 s, .int .i64 n, .int .i64 v] 40))
  (go_enter Try.func17, Try.ntmps17; try simp only [List.append])
  go_wp2_with ((with_reducible refine wpList_unguard ?_ ?_); (focus rfl))
  refine bodyPost_ret (v := .tuple #[.string ⟨#[]⟩, .int .i64 1]) (by simp [results, Try.results17, go_sem]) rfl ⟨rfl, hb.out⟩
end Go.Proofs.Ytiailpbmmadaeaa
