/-
  RecordPuts, walked, as the row asks it.
-/
import Derived.Test.YtiailpbmmadaeaaPuts5
import Derived.Test.YtiailpbmmadaeaaOpenG
import Derived.Test.YtiailpbmmadaeaaOpenK
namespace Go.Proofs.Ytiailpbmmadaeaa
open Go.RowKit Tri

set_option maxHeartbeats 400000 in
theorem puts_long (k s n v : Int) (page : ByteArray) (w : World) (hpg : 100 < page.size) :
    Calls Try.prog 8 #[.agg #[.int .i64 k, .int .i64 s, .int .i64 n, .int .i64 v], .string page] w fun e w' => e = .returned (.bool true) ∧ Below w.heap.size w w' := by
  have hb0 := hid ((Below.refl w.heap.size w).alloc (Nat.le_refl _) (.cells #[.int .i64 k, .int .i64 s, .int .i64 n, .int .i64 v] 40))
  have hd : decide ((page.size : Int) > 100) = true := decide_eq_true (by omega)
  have hd2 : decide ((100 : Int) < page.size) = true := decide_eq_true (by omega)
  clear hpg
  (go_enter Try.func8, Try.ntmps8; try simp only [List.append])
  go_wp2_with ((with_reducible refine wpList_unguard ?_ ?_); (focus rfl))
  generalize w.alloc (.cells #[.int .i64 k, .int .i64 s, .int .i64 n, .int .i64 v] 40) = w1 at *
  refine Calls.mono (law14_awake w1) ?_; rintro e w2 ⟨rfl, hb⟩; have B2 := hid (hb0.out.trans (hb.mono hb0.out.size)); clear hb hb0
  go_wp2_with ((with_reducible refine wpList_unguard ?_ ?_); (focus rfl))
  go_ret
  exact ⟨rfl, B2.out⟩
theorem recordPuts.main (k s n v : Int) (page : ByteArray) (w : World) :
    Calls Try.prog 8 #[.agg #[.int .i64 k, .int .i64 s, .int .i64 n, .int .i64 v], .string page] w fun e w' => e = .returned (.bool true) ∧ Below w.heap.size w w' := by
  by_cases hl : page.size ≤ 100
  · rcases Bool.eq_false_or_eq_true (recOk k s n v) with h | h
    · obtain ⟨a, c, d, f, rfl, rfl, rfl, rfl⟩ := nat_of_recOk h
      exact puts_ok a c d f page w hl h
    · exact puts_bad k s n v page w hl h
  · exact puts_long k s n v page w (by omega)

theorem recordPuts.walk (x00 x01 x02 x03 : Int) (a1 : ByteArray) (w : World) (w0 : (Lit.int .i64 x00).wf = true ∧ (Lit.int .i64 x01).wf = true ∧ (Lit.int .i64 x02).wf = true ∧ (Lit.int .i64 x03).wf = true) (w1 : a1.size ≤ maxLen) :
    Calls Try.prog 8 #[.agg #[.int .i64 x00, .int .i64 x01, .int .i64 x02, .int .i64 x03], .string a1] w fun e w' => e = .returned (.bool true) ∧ Below w.heap.size w w' :=
  recordPuts.main x00 x01 x02 x03 a1 w
end Go.Proofs.Ytiailpbmmadaeaa
