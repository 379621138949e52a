/-
  FlashNone, walked.
-/
import Derived.Test.YtiicbbhjepkndaaFl0
import Derived.Test.YtiicbbhjepkndaaDevA
import Derived.Test.YtiicbbhjepkndaaDevB
namespace Go.Proofs.Ytiicbbhjepkndaa
open Go.RowKit Tri

theorem dev_PowerOn_nil (w : World) : Calls Try.prog 26 #[.pointer none] w fun e w' => e = .returned (.tuple #[]) ∧ w = w' := by
  (go_enter Try.func26, Try.ntmps26; try simp only [List.append])
  go_wp2_with ((with_reducible refine wpList_unguard ?_ ?_); (focus rfl))
  go_returns
  exact ⟨rfl, rfl⟩
theorem dev_Fuse_nil (w : World) (k : Int) (m : Nat) (c : Int) : Calls Try.prog 18 #[.pointer none, .int .i64 c, .agg #[.int .i64 k, .int .u8 (m : Nat)]] w fun e w' => e = .returned (.tuple #[]) ∧ Below w.heap.size w w' := by
  have hb := (Below.refl w.heap.size w).alloc (Nat.le_refl _) (.cells #[.int .i64 k, .int .u8 (m : Nat)] 23)
  (go_enter Try.func18, Try.ntmps18; try simp only [List.append])
  go_wp2_with ((with_reducible refine wpList_unguard ?_ ?_); (focus rfl))
  go_returns
  exact ⟨rfl, hb⟩
theorem dev_Read_nil (w : World) (a k : Int) : Calls Try.prog 25 #[.pointer none, .int .i64 a, .int .i64 k] w fun e w' => e = .returned (.tuple #[.string ByteArray.empty, .int .i64 1]) ∧ w = w' := by
  (go_enter Try.func25, Try.ntmps25; try simp only [List.append])
  go_wp2_with ((with_reducible refine wpList_unguard ?_ ?_); (focus rfl))
  refine Calls.mono (dev_wrong_nil w a k) ?_; rintro e w2 ⟨rfl, rfl⟩
  go_wp2_with ((with_reducible refine wpList_unguard ?_ ?_); (focus rfl))
  go_ret2
  exact ⟨rfl, rfl⟩
set_option maxHeartbeats 4000000 in
set_option maxRecDepth 100000 in
theorem flashNone.walk (o0 : Tri.OpR) (w : World) (w0 : o0.ok) :
    Calls Try.prog 6 #[.agg (opC o0).toArray] w fun e w' => e = .returned (.bool true) ∧ Below w.heap.size w w' := by
  obtain ⟨k, a, n, s, tb, tm⟩ := o0
  have hb0 := (Below.refl w.heap.size w).alloc (Nat.le_refl _) (.cells #[.int .i64 k, .int .i64 a, .int .i64 n, .string s, .int .i64 tb, .int .u8 (tm : Nat)] 42)
  have t0 := rowP.new w 42 #[.int .i64 k, .int .i64 a, .int .i64 n, .string s, .int .i64 tb, .int .u8 (tm : Nat)]
  show Calls Try.prog _ #[.agg #[.int .i64 k, .int .i64 a, .int .i64 n, .string s, .int .i64 tb, .int .u8 (tm : Nat)]] _ _
  have HT := hid t0
  have HB := hid hb0
  have HW := hid w0
  clear t0 hb0 w0
  (go_enter Try.func6, Try.ntmps6; try simp only [List.append])
  go_wp2_with ((with_reducible refine wpList_unguard ?_ ?_); (focus rfl))
  generalize w.alloc (.cells #[.int .i64 k, .int .i64 a, .int .i64 n, .string s, .int .i64 tb, .int .u8 (tm : Nat)] 42) = w1 at *
  refine Calls.mono (law08_awake w1) ?_; rintro e w2 ⟨rfl, hb⟩
  have HT2 := hid (HT.out.below hb HT.out.lt)
  have HB2 := hid (HB.out.trans (hb.mono HB.out.size))
  clear hb HT HB
  have c0 := HT2.out.cell 0 _ rfl
  have c1 := HT2.out.cell 1 _ rfl
  have c2 := HT2.out.cell 2 _ rfl
  have c3 := HT2.out.cell 3 _ rfl
  have c4 := HT2.out.cell 4 _ rfl
  have c5 := HT2.out.cell 5 _ rfl
  go_wp2_with ((with_reducible refine wpList_unguard ?_ ?_); (focus rfl))
  have hb3 := (Below.refl w2.heap.size w2).alloc (Nat.le_refl _) (.cells #[.int .i64 k, .int .i64 a, .int .i64 n, .string s, .int .i64 tb, .int .u8 (tm : Nat)] 42)
  have t3 := rowP.new w2 42 #[.int .i64 k, .int .i64 a, .int .i64 n, .string s, .int .i64 tb, .int .u8 (tm : Nat)]
  have HT3 := hid (HT2.out.below hb3 HT2.out.lt)
  have HB3 := hid (HB2.out.trans (hb3.mono HB2.out.size))
  clear hb3 HT2 HB2 c0 c1 c2 c3 c4 c5
  have hgc : cellsG (w2.alloc (.cells #[.int .i64 k, .int .i64 a, .int .i64 n, .string s, .int .i64 tb, .int .u8 (tm : Nat)] 42)) (some ⟨w2.heap.size, 0, none⟩) 6 ([OpR.mk k a n s tb tm].map opC) := by
    intro i hi
    have hi0 : i = 0 := by simp at hi; omega
    subst hi0
    exact ⟨_, _, rfl, fun j v hv => by have := t3.cell j v hv; rwa [Nat.zero_mul, Nat.add_zero, Nat.zero_add]⟩
  generalize w2.alloc (.cells #[.int .i64 k, .int .i64 a, .int .i64 n, .string s, .int .i64 tb, .int .u8 (tm : Nat)] 42) = w3 at *
  refine Calls.mono (law08_great _ 1 1 [OpR.mk k a n s tb tm] w3 rfl (by omega) hgc (by intro o ho; rw [List.mem_singleton] at ho; subst ho; exact HW.out)) ?_
  rintro e w4 ⟨rfl, hb⟩
  have HT4 := hid (HT3.out.below hb HT3.out.lt)
  have HB4 := hid (HB3.out.trans (hb.mono HB3.out.size))
  clear hb HT3 HB3 hgc t3
  cases greatB [OpR.mk k a n s tb tm] with
  | true =>
    go_wp2_with ((with_reducible refine wpList_unguard ?_ ?_); (focus rfl))
    go_ret
    exact ⟨rfl, HB4.out⟩
  | false =>
    go_wp2_with ((with_reducible refine wpList_unguard ?_ ?_); (focus rfl))
    refine Calls.mono (dev_PowerOn_nil w4) ?_; rintro e w5 ⟨rfl, rfl⟩
    have c0 := HT4.out.cell 0 _ rfl
    have c1 := HT4.out.cell 1 _ rfl
    have c2 := HT4.out.cell 2 _ rfl
    have c3 := HT4.out.cell 3 _ rfl
    have c4 := HT4.out.cell 4 _ rfl
    have c5 := HT4.out.cell 5 _ rfl
    go_wp2_with ((with_reducible refine wpList_unguard ?_ ?_); (focus rfl))
    refine Calls.mono (dev_Fuse_nil w4 tb tm n) ?_; rintro e w5 ⟨rfl, hb⟩
    have HT5 := hid (HT4.out.below hb HT4.out.lt)
    have HB5 := hid (HB4.out.trans (hb.mono HB4.out.size))
    clear hb HT4 HB4 c0 c1 c2 c3 c4 c5
    have c0 := HT5.out.cell 0 _ rfl
    have c1 := HT5.out.cell 1 _ rfl
    have c2 := HT5.out.cell 2 _ rfl
    have c3 := HT5.out.cell 3 _ rfl
    have c4 := HT5.out.cell 4 _ rfl
    have c5 := HT5.out.cell 5 _ rfl
    go_wp2_with ((with_reducible refine wpList_unguard ?_ ?_); (focus rfl))
    refine Calls.mono (dev_Read_nil w5 a n) ?_; rintro e w6 ⟨rfl, rfl⟩
    go_wp2_with ((with_reducible refine wpList_unguard ?_ ?_); (focus rfl))
    refine Calls.mono (dev_Erase_nil w5 a HW.out.2.1) ?_; rintro e w6 ⟨rfl, rfl⟩
    go_wp2_with ((with_reducible refine wpList_unguard ?_ ?_); (focus rfl))
    refine Calls.mono (dev_Program_nil w5 a s) ?_; rintro e w6 ⟨rfl, rfl⟩
    go_wp2_with ((with_reducible refine wpList_unguard ?_ ?_); (focus rfl))
    refine Calls.mono (dev_Lock_nil w5 a n) ?_; rintro e w6 ⟨rfl, rfl⟩
    go_wp2_with ((with_reducible refine wpList_unguard ?_ ?_); (focus rfl))
    refine Calls.mono (dev_Locked_nil w5 a) ?_; rintro e w6 ⟨rfl, rfl⟩
    go_wp2_with ((with_reducible refine wpList_unguard ?_ ?_); (focus rfl))
    refine Calls.mono (dev_Down_nil w5) ?_; rintro e w6 ⟨rfl, rfl⟩
    go_wp2_with ((with_reducible refine wpList_unguard ?_ ?_); (focus rfl))
    have hb6 := (Below.refl w5.heap.size w5).alloc (Nat.le_refl _) (.cells #[.int .u8 1] 5)
    have HT6 := hid (HT5.out.below hb6 HT5.out.lt)
    have HB6 := hid (HB5.out.trans (hb6.mono HB5.out.size))
    clear hb6 HT5 HB5 c0 c1 c2 c3 c4 c5
    have c1 := HT6.out.cell 1 _ rfl
    refine Calls.mono (dev_Rot_nil _ a _) ?_; rintro e w6 ⟨rfl, rfl⟩
    generalize w5.alloc (.cells #[.int .u8 1] 5) = w6 at *
    go_wp2_with ((with_reducible refine wpList_unguard ?_ ?_); (focus rfl))
    refine Calls.mono (dev_Sectors_nil w6) ?_; rintro e w7 ⟨rfl, rfl⟩
    go_wp2_with ((with_reducible refine wpList_unguard ?_ ?_); (focus rfl))
    refine Calls.mono (dev_Ops_nil w6) ?_; rintro e w7 ⟨rfl, rfl⟩
    go_wp2_with ((with_reducible refine wpList_unguard ?_ ?_); (focus rfl))
    refine Calls.mono (dev_Dump_nil w6 a) ?_; rintro e w7 ⟨rfl, rfl⟩
    go_wp2_with ((with_reducible refine wpList_unguard ?_ ?_); (focus rfl))
    refine Calls.mono (dev_Copy_nil w6) ?_; rintro e w7 ⟨rfl, rfl⟩
    go_wp2_with ((with_reducible refine wpList_unguard ?_ ?_); (focus rfl))
    go_ret
    exact ⟨rfl, HB6.out⟩
end Go.Proofs.Ytiicbbhjepkndaa
