/-
  Versions of values; which records may be; '==' of arrays of ints.
-/
import Derived.Test.YtngkmlchblgmeaaRec1
import Derived.Stop.BytesEq
namespace Go.Proofs.Ytngkmlchblgmeaa
open Go.RowKit Tri

theorem and16 (m : Nat) (hm : m < 4611686018427387904) : bits .and .i64 (m : Int) 65535 = ((m % 65536 : Nat) : Int) := by
  have h2 : m &&& 65535 = m % 65536 := Nat.and_two_pow_sub_one_eq_mod m 16
  show IntKind.i64.wrap ((BitVec.ofInt 64 (m : Int) &&& BitVec.ofInt 64 ((65535 : Nat) : Int)).toNat : Int) = _
  rw [BitVec.toNat_and, ofInt_u64 _ (by omega), ofInt_u64 65535 (by omega), h2, IntKind.wrap_i64]
  omega
theorem run_eq_3 (t : Nat) (ht : Try.prog.underlying t = some (.array 3 3)) (a b c x y z : Int) (w : World) :
    (Op.equalIn 10000 t (.agg #[.int .i64 a, .int .i64 b, .int .i64 c]) (.agg #[.int .i64 x, .int .i64 y, .int .i64 z])).run Try.prog w = .ok (decide (a = x ∧ b = y ∧ c = z)) w := by
  have hsz : ∀ w, (sizeOf 3).run Try.prog w = .ok 1 w := by intro w; kernel_rfl
  rw [Op.equalIn]
  have p0 : ∀ u v r : Int, ∀ w, (part 3 #[.int .i64 u, .int .i64 v, .int .i64 r] 0).run Try.prog w = .ok (.int .i64 u) w := fun _ _ _ _ => by kernel_rfl
  have p1 : ∀ u v r : Int, ∀ w, (part 3 #[.int .i64 u, .int .i64 v, .int .i64 r] 1).run Try.prog w = .ok (.int .i64 v) w := fun _ _ _ _ => by kernel_rfl
  have p2 : ∀ u v r : Int, ∀ w, (part 3 #[.int .i64 u, .int .i64 v, .int .i64 r] 2).run Try.prog w = .ok (.int .i64 r) w := fun _ _ _ _ => by kernel_rfl
  have pe : ∀ u v : Int, ∀ w, (Op.equalIn 9999 3 (.int .i64 u) (.int .i64 v)).run Try.prog w = .ok (u == v) w := fun u v w => run_equalIn_int w 9998 3 .i64 .i64 u v Try.underlying3
  simp only [Sem.run_bind, run_underlying ht, Result.andThen_ok, hsz, Std.Legacy.Range.forIn_eq_forIn_range', Std.Legacy.Range.size, Nat.sub_zero, Nat.add_sub_cancel, Nat.div_one]
  by_cases h1 : a = x
  · by_cases h2 : b = y
    · by_cases h3 : c = z
      · simp [List.range', p0, p1, p2, pe, h1, h2, h3]
      · simp [List.range', p0, p1, p2, pe, h1, h2, h3]
    · simp [List.range', p0, p1, p2, pe, h1, h2]
  · simp [List.range', p0, p1, p2, pe, h1]

def recOk (k s n v : Int) : Bool := decide (0 ≤ k ∧ k ≤ 127) && (decide (0 ≤ s ∧ s ≤ 3) && (decide (0 ≤ n ∧ n ≤ 65535) && decide (0 ≤ v ∧ v ≤ 281474976710655)))
set_option maxHeartbeats 2000000 in
set_option maxRecDepth 100000 in
theorem rec_Right (k s n v : Int) (w : World) :
    Calls Try.prog 66 #[.agg #[.int .i64 k, .int .i64 s, .int .i64 n, .int .i64 v]] w fun e w' => e = .returned (.bool (recOk k s n v)) ∧ Below w.heap.size w w' := by
  (go_enter Try.func66, Try.ntmps66; try simp only [List.append])
  go_wp2_with ((with_reducible refine wpList_unguard ?_ ?_); (focus rfl))
  have hb0 : Below w.heap.size w (w.alloc (.cells #[.int .i64 k, .int .i64 s, .int .i64 n, .int .i64 v] 37)) := (Below.refl _ _).alloc (Nat.le_refl _) _
  generalize hT : w.alloc (.cells #[.int .i64 k, .int .i64 s, .int .i64 n, .int .i64 v] 37) = w1 at *
  have hk1 : w1.cell? ⟨w.heap.size, 0, none⟩ = some (.int .i64 k) := by rw [← hT]; simp [go_sem]
  have hs1 : w1.cell? ⟨w.heap.size, 1, none⟩ = some (.int .i64 s) := by rw [← hT]; simp [go_sem]
  have hn1 : w1.cell? ⟨w.heap.size, 2, none⟩ = some (.int .i64 n) := by rw [← hT]; simp [go_sem]
  have hv1 : w1.cell? ⟨w.heap.size, 3, none⟩ = some (.int .i64 v) := by rw [← hT]; simp [go_sem]
  clear hT
  refine Calls.mono (rec_within k 127 _) ?_
  rintro e w' ⟨rfl, rfl⟩
  by_cases hk : 0 ≤ k ∧ k ≤ 127
  · rw [decide_eq_true hk]
    go_wp2_with ((with_reducible refine wpList_unguard ?_ ?_); (focus rfl))
    refine Calls.mono (rec_within s 3 _) ?_
    rintro e w' ⟨rfl, rfl⟩
    by_cases hs : 0 ≤ s ∧ s ≤ 3
    · rw [decide_eq_true hs]
      go_wp2_with ((with_reducible refine wpList_unguard ?_ ?_); (focus rfl))
      refine Calls.mono (rec_within n 65535 _) ?_
      rintro e w' ⟨rfl, rfl⟩
      by_cases hn : 0 ≤ n ∧ n ≤ 65535
      · rw [decide_eq_true hn]
        go_wp2_with ((with_reducible refine wpList_unguard ?_ ?_); (focus rfl))
        refine Calls.mono (rec_within v 281474976710655 _) ?_
        rintro e w' ⟨rfl, rfl⟩
        by_cases hv : 0 ≤ v ∧ v ≤ 281474976710655
        · rw [decide_eq_true hv]
          go_wp2_with ((with_reducible refine wpList_unguard ?_ ?_); (focus rfl))
          go_ret
          refine ⟨?_, hb0⟩
          unfold recOk; rw [decide_eq_true hk, decide_eq_true hs, decide_eq_true hn, decide_eq_true hv]; rfl
        · rw [decide_eq_false hv]
          go_wp2_with ((with_reducible refine wpList_unguard ?_ ?_); (focus rfl))
          go_ret
          refine ⟨?_, hb0⟩
          unfold recOk; rw [decide_eq_true hk, decide_eq_true hs, decide_eq_true hn, decide_eq_false hv]; simp
      · rw [decide_eq_false hn]
        go_wp2_with ((with_reducible refine wpList_unguard ?_ ?_); (focus rfl))
        go_ret
        refine ⟨?_, hb0⟩
        unfold recOk; rw [decide_eq_true hk, decide_eq_true hs, decide_eq_false hn]; simp
    · rw [decide_eq_false hs]
      go_wp2_with ((with_reducible refine wpList_unguard ?_ ?_); (focus rfl))
      go_ret
      refine ⟨?_, hb0⟩
      unfold recOk; rw [decide_eq_true hk, decide_eq_false hs]; simp
  · rw [decide_eq_false hk]
    go_wp2_with ((with_reducible refine wpList_unguard ?_ ?_); (focus rfl))
    go_ret
    refine ⟨?_, hb0⟩
    unfold recOk; rw [decide_eq_false hk]; simp
end Go.Proofs.Ytngkmlchblgmeaa
