/-
  RecordUnlike, walked: where one of the two records isn't right; the statement's walk for any two records and any turn.
-/
import Derived.Test.YtiailpbmmadaeaaUnlX
namespace Go.Proofs.Ytiailpbmmadaeaa
open Go.RowKit Tri

theorem nat_of_recOk {k s n v : Int} (h : recOk k s n v = true) : ∃ a b c d : Nat, k = a ∧ s = b ∧ n = c ∧ v = d := by
  unfold recOk at h
  simp only [Bool.and_eq_true, decide_eq_true_eq] at h
  exact ⟨k.toNat, s.toNat, n.toNat, v.toNat, by omega, by omega, by omega, by omega⟩
def anyPage (e : Ending) : Prop := ∃ (p : ByteArray) (r : Int), e = .returned (.tuple #[.string p, .int .i64 r])
theorem rec_Put_any (w0 : World) (b : Nat) (k s n v : Int) (w : World) (K : KeepsC w0 b w) :
    Calls Try.prog 17 #[.pointer (some ⟨b, 0, none⟩), .agg #[.int .i64 k, .int .i64 s, .int .i64 n, .int .i64 v]] w fun e w' => anyPage e ∧ KeepsC w0 b w' := by
  rcases Bool.eq_false_or_eq_true (recOk k s n v) with h | h
  · obtain ⟨a, c, d, f, rfl, rfl, rfl, rfl⟩ := nat_of_recOk h
    have hr := recOk_iff.1 h
    exact (rec_Put w0 b a c d f w K hr.1 hr.2.1 hr.2.2.1 hr.2.2.2).mono fun e w' h => ⟨⟨_, _, h.1⟩, h.2⟩
  · exact (rec_Put_bad w0 b k s n v w K h).mono fun e w' h => ⟨⟨_, _, h.1⟩, h.2⟩
theorem P3.newZ (w : World) (k s n v k' s' n' v' : Int) (i t : Nat) : P3 w w.heap.size k s n v k' s' n' v' i t (((w.alloc (.cells #[.int .i64 k, .int .i64 s, .int .i64 n, .int .i64 v] 40)).alloc (.cells #[.int .i64 k', .int .i64 s', .int .i64 n', .int .i64 v'] 40)).alloc (.cells #[.int .u8 (i : Nat), .int .u8 (t : Nat)] 41)) := P3.new w k s n v k' s' n' v' i t
set_option maxHeartbeats 4000000 in
set_option maxRecDepth 100000 in
theorem unlike_bad1 (k s n v k' s' n' v' : Int) (i t : Nat) (w : World) (h1 : recOk k s n v = false) :
    Calls Try.prog 5 #[.agg #[.int .i64 k, .int .i64 s, .int .i64 n, .int .i64 v], .agg #[.int .i64 k', .int .i64 s', .int .i64 n', .int .i64 v'], .agg #[.int .u8 i, .int .u8 t]] w fun e w' => e = .returned (.bool true) ∧ Below w.heap.size w w' := by
  have HO := hid h1
  clear h1
  have K0 := hid (P3.newZ w k s n v k' s' n' v' i t)
  (go_enter Try.func5, Try.ntmps5; try simp only [List.append])
  go_wp2_with ((with_reducible refine wpList_unguard ?_ ?_); (focus rfl))
  generalize ((w.alloc (.cells #[.int .i64 k, .int .i64 s, .int .i64 n, .int .i64 v] 40)).alloc (.cells #[.int .i64 k', .int .i64 s', .int .i64 n', .int .i64 v'] 40)).alloc (.cells #[.int .u8 (i : Nat), .int .u8 (t : Nat)] 41) = w1 at *
  refine Calls.mono (law14_awake w1) ?_; rintro e w2 ⟨rfl, hb⟩; have K2 := hid (K0.out.below hb); clear hb K0
  go_wp2_with ((with_reducible refine wpList_unguard ?_ ?_); (focus rfl))
  refine Calls.mono (crc_NewK w2 w2 (Below.refl _ _)) ?_; rintro e w3 ⟨b, rfl, hKC⟩; have K3 := hid (K2.out.below hKC.1); have C3 := hid hKC.2; clear hKC K2
  have a0 := K3.out.2.1.c0; have a1 := K3.out.2.1.c1; have a2 := K3.out.2.1.c2; have a3 := K3.out.2.1.c3
  go_wp2_with ((with_reducible refine wpList_unguard ?_ ?_); (focus rfl))
  clear a0 a1 a2 a3
  refine Calls.mono (rec_Put_bad w3 b k s n v w3 ⟨Below.refl _ _, C3.out⟩ HO.out) ?_; rintro e w4 ⟨rfl, hKC⟩; have K4 := hid (K3.out.below hKC.1); have C4 := hid hKC.2; clear hKC K3 C3
  have a0 := K4.out.2.2.1.c0; have a1 := K4.out.2.2.1.c1; have a2 := K4.out.2.2.1.c2; have a3 := K4.out.2.2.1.c3
  go_wp2_with ((with_reducible refine wpList_unguard ?_ ?_); (focus rfl))
  clear a0 a1 a2 a3
  refine Calls.mono (rec_Put_any w4 b k' s' n' v' w4 ⟨Below.refl _ _, C4.out⟩) ?_; rintro e w5 ⟨⟨pg, er, rfl⟩, hKC⟩; have K5 := hid (K4.out.below hKC.1); clear hKC K4 C4
  have a0 := K5.out.2.1.c0; have a1 := K5.out.2.1.c1; have a2 := K5.out.2.1.c2; have a3 := K5.out.2.1.c3
  go_wp2_with ((with_reducible refine wpList_unguard ?_ ?_); (focus rfl))
  clear a0 a1 a2 a3
  refine Calls.mono (ref14_Right k s n v w5) ?_; rintro e w6 ⟨rfl, hb⟩; have K6 := hid (K5.out.below hb); clear hb K5
  rw [HO.out]
  go_wp2_with ((with_reducible refine wpList_unguard ?_ ?_); (focus rfl))
  go_ret
  exact ⟨rfl, K6.out.1⟩
set_option maxHeartbeats 4000000 in
set_option maxRecDepth 100000 in
theorem unlike_bad2 (k s n v : Nat) (k' s' n' v' : Int) (i t : Nat) (w : World) (h1 : recOk (k : Int) s n v = true) (h2 : recOk k' s' n' v' = false) :
    Calls Try.prog 5 #[.agg #[.int .i64 k, .int .i64 s, .int .i64 n, .int .i64 v], .agg #[.int .i64 k', .int .i64 s', .int .i64 n', .int .i64 v'], .agg #[.int .u8 i, .int .u8 t]] w fun e w' => e = .returned (.bool true) ∧ Below w.heap.size w w' := by
  have HO := hid h1
  have HO' := hid h2
  have hr := recOk_iff.1 h1
  clear h1 h2
  have K0 := hid (P3.newZ w k s n v k' s' n' v' i t)
  (go_enter Try.func5, Try.ntmps5; try simp only [List.append])
  go_wp2_with ((with_reducible refine wpList_unguard ?_ ?_); (focus rfl))
  generalize ((w.alloc (.cells #[.int .i64 k, .int .i64 s, .int .i64 n, .int .i64 v] 40)).alloc (.cells #[.int .i64 k', .int .i64 s', .int .i64 n', .int .i64 v'] 40)).alloc (.cells #[.int .u8 (i : Nat), .int .u8 (t : Nat)] 41) = w1 at *
  refine Calls.mono (law14_awake w1) ?_; rintro e w2 ⟨rfl, hb⟩; have K2 := hid (K0.out.below hb); clear hb K0
  go_wp2_with ((with_reducible refine wpList_unguard ?_ ?_); (focus rfl))
  refine Calls.mono (crc_NewK w2 w2 (Below.refl _ _)) ?_; rintro e w3 ⟨b, rfl, hKC⟩; have K3 := hid (K2.out.below hKC.1); have C3 := hid hKC.2; clear hKC K2
  have a0 := K3.out.2.1.c0; have a1 := K3.out.2.1.c1; have a2 := K3.out.2.1.c2; have a3 := K3.out.2.1.c3
  go_wp2_with ((with_reducible refine wpList_unguard ?_ ?_); (focus rfl))
  clear a0 a1 a2 a3
  refine Calls.mono (rec_Put w3 b k s n v w3 ⟨Below.refl _ _, C3.out⟩ hr.1 hr.2.1 hr.2.2.1 hr.2.2.2) ?_; rintro e w4 ⟨rfl, hKC⟩; have K4 := hid (K3.out.below hKC.1); have C4 := hid hKC.2; clear hKC K3 C3
  have a0 := K4.out.2.2.1.c0; have a1 := K4.out.2.2.1.c1; have a2 := K4.out.2.2.1.c2; have a3 := K4.out.2.2.1.c3
  go_wp2_with ((with_reducible refine wpList_unguard ?_ ?_); (focus rfl))
  clear a0 a1 a2 a3
  refine Calls.mono (rec_Put_bad w4 b k' s' n' v' w4 ⟨Below.refl _ _, C4.out⟩ HO'.out) ?_; rintro e w5 ⟨rfl, hKC⟩; have K5 := hid (K4.out.below hKC.1); clear hKC K4 C4
  have a0 := K5.out.2.1.c0; have a1 := K5.out.2.1.c1; have a2 := K5.out.2.1.c2; have a3 := K5.out.2.1.c3
  go_wp2_with ((with_reducible refine wpList_unguard ?_ ?_); (focus rfl))
  clear a0 a1 a2 a3
  refine Calls.mono (ref14_Right k s n v w5) ?_; rintro e w6 ⟨rfl, hb⟩; have K6 := hid (K5.out.below hb); clear hb K5
  rw [HO.out]
  have a0 := K6.out.2.2.1.c0; have a1 := K6.out.2.2.1.c1; have a2 := K6.out.2.2.1.c2; have a3 := K6.out.2.2.1.c3
  go_wp2_with ((with_reducible refine wpList_unguard ?_ ?_); (focus rfl))
  clear a0 a1 a2 a3
  refine Calls.mono (ref14_Right k' s' n' v' w6) ?_; rintro e w7 ⟨rfl, hb⟩; have K7 := hid (K6.out.below hb); clear hb K6
  rw [HO'.out]
  go_wp2_with ((with_reducible refine wpList_unguard ?_ ?_); (focus rfl))
  go_ret
  exact ⟨rfl, K7.out.1⟩
theorem recordUnlike.main (k s n v k' s' n' v' i t : Int) (w : World) (hi : (Lit.int .u8 i).wf = true ∧ (Lit.int .u8 t).wf = true) :
    Calls Try.prog 5 #[.agg #[.int .i64 k, .int .i64 s, .int .i64 n, .int .i64 v], .agg #[.int .i64 k', .int .i64 s', .int .i64 n', .int .i64 v'], .agg #[.int .u8 i, .int .u8 t]] w fun e w' => e = .returned (.bool true) ∧ Below w.heap.size w w' := by
  obtain ⟨i, hi', rfl⟩ := u8_of hi.1
  obtain ⟨t, ht', rfl⟩ := u8_of hi.2
  rcases Bool.eq_false_or_eq_true (recOk k s n v) with h | h
  · obtain ⟨a, c, d, f, rfl, rfl, rfl, rfl⟩ := nat_of_recOk h
    rcases Bool.eq_false_or_eq_true (recOk k' s' n' v') with h' | h'
    · obtain ⟨a', c', d', f', rfl, rfl, rfl, rfl⟩ := nat_of_recOk h'
      exact unlike_ok a c d f a' c' d' f' i t w hi' ht' h h'
    · exact unlike_bad2 a c d f k' s' n' v' i t w h h'
  · exact unlike_bad1 k s n v k' s' n' v' i t w h
end Go.Proofs.Ytiailpbmmadaeaa
