/-
  ladder: distinct, Rungs, Target, in the program.
-/
import Derived.Test.YtngkmlchblgmeaaLadS
namespace Go.Proofs.Ytngkmlchblgmeaa
open Go.RowKit

def distS (n : Int) (out : List Int) (x : Int) : List Int := if x ≠ n ∧ (out.any fun y => decide (x = y)) = false then out ++ [x] else out
def distL (n : Int) (l : List Int) : List Int := l.foldl (distS n) []
theorem distL_take (n : Int) (l : List Int) (k : Nat) (h : k < l.length) : distL n (l.take (k + 1)) = distS n (distL n (l.take k)) (l.getD k 0) := by
  unfold distL
  rw [List.take_succ_eq_append_getElem h, List.foldl_append]
  simp [h]
theorem distL_le (n : Int) (l : List Int) : (distL n l).length ≤ l.length := by
  have : ∀ (l acc : List Int), (l.foldl (distS n) acc).length ≤ acc.length + l.length := by
    intro l
    induction l with
    | nil => intro acc; simp
    | cons x l ih =>
      intro acc
      simp only [List.foldl_cons, List.length_cons]
      have h1 := ih (distS n acc x)
      have h2 : (distS n acc x).length ≤ acc.length + 1 := by unfold distS; split <;> simp
      omega
  have := this l []
  simpa [distL] using this
set_option maxHeartbeats 1000000 in
set_option maxRecDepth 100000 in
theorem lad_distinct (n : Int) (p : Option Addr) (m c : Nat) (l : List Int) (w : World) (hm : m = l.length) (hp : cellsZ w p l) (hl : l.length ≤ 1000) :
    Calls Try.prog 64 #[.int .i64 n, .slice p m c] w
      fun e w' => ∃ v, e = .returned v ∧ rowZ w' w.heap.size v (distL n l) ∧ Below w.heap.size w w' := by
  subst hm
  have HP := hid hp
  clear hp
  obtain ⟨i0, hi, hz0, hz1, hz2⟩ := info_parts Try.infoZ
  (go_enter Try.func64, Try.ntmps64; try simp only [List.append])
  go_wp2
  go_loopw [10, 5] (fun i v wr => ∃ k : Nat, k ≤ l.length ∧ i = .int .i64 k ∧ rowZ wr w.heap.size v (distL n (l.take k)) ∧ Below w.heap.size w wr) (fun i _ _ => l.length - (intOf i).toNat)
  case atStart => exact ⟨0, Nat.zero_le _, rfl, rowZ.nil _ _, Below.refl _ _⟩
  case round =>
    obtain ⟨k, hk, rfl, hrow, hbw⟩ := hrel
    have HR := hid hrow
    have HB := hid hbw
    have hsz := hbw.size
    clear hrow hbw
    by_cases hlt : k < l.length
    · have HPw := hid (HP.out.below (HB.out.mono (Nat.le_refl _)))
      obtain ⟨a, o, rfl, hc⟩ := HPw.out k hlt
      have HS := hid (distL_take n l k hlt)
      have hle := distL_le n (l.take k)
      have hlk : (l.take k).length ≤ k := List.length_take_le _ _
      generalize distL n (l.take k) = D at *
      generalize l.getD k 0 = x at *
      obtain ⟨q, d, rfl, hqd, hcz⟩ := HR.out.cells
      have HC := hid hcz
      clear hcz
      by_cases hx : x = n
      · subst hx
        have hb : (x != x) = false := by simp
        go_wp2_with ((with_reducible refine wpList_unguard ?_ ?_); (focus rfl))
        go_roundw
        case rel =>
          refine ⟨k + 1, by omega, by go_num, ?_, HB.out⟩
          rw [HS.out]
          unfold distS
          rw [if_neg (by simp)]
          exact HR.out
        case measure => simp [intOf]; omega
      · have hb : (x != n) = true := by simpa using hx
        go_wp2_with ((with_reducible refine wpList_unguard ?_ ?_); (focus rfl))
        refine Calls.mono (sl_ContainsZ x q D.length d D wr rfl HC.out (by omega)) ?_; rintro e w' ⟨rfl, rfl⟩
        have HD : Hid (distS n D x = if (D.any fun y => decide (x = y)) = false then D ++ [x] else D) := by
          show _ = _
          unfold distS
          by_cases h : (D.any fun y => decide (x = y)) = false
          · rw [if_pos ⟨hx, h⟩, if_pos h]
          · rw [if_neg (fun hh => h hh.2), if_neg h]
        generalize (D.any fun y => decide (x = y)) = B at *
        cases B with
        | true =>
          go_wp2_with ((with_reducible refine wpList_unguard ?_ ?_); (focus rfl))
          go_roundw
          case rel =>
            refine ⟨k + 1, by omega, by go_num, ?_, HB.out⟩
            rw [HS.out, HD.out, if_neg (by simp)]
            exact HR.out
          case measure => simp [intOf]; omega
        | false =>
          go_wp2_with (first | ((with_reducible refine wpList_unguard ?_ ?_); (focus rfl)) | (at_builtin; refine wpList_pushZ (by rfl) _ _ _ (by rfl) w.heap.size i0 Try.underlying84 hi hz0 hz1 hz2 _ D x HR.out (by rfl) _ (by rfl) (by rfl) (by omega) hsz ?_))
          intro v' w1 hrow1 hb1
          have HR1 := hid hrow1
          have HB1 := hid (HB.out.trans hb1)
          clear hrow1 hb1
          go_wp2_with ((with_reducible refine wpList_unguard ?_ ?_); (focus rfl))
          go_roundw
          case rel =>
            refine ⟨k + 1, by omega, by go_num, ?_, HB1.out⟩
            rw [HS.out, HD.out, if_pos trivial]
            exact HR1.out
          case measure => simp [intOf]; omega
    · have HT : Hid (l.take k = l) := by show _ = _; exact List.take_of_length_le (by omega)
      go_wp2_with ((with_reducible refine wpList_unguard ?_ ?_); (focus rfl))
      go_ret
      refine ⟨_, rfl, ?_, HB.out⟩
      have := HR.out
      rw [HT.out] at this
      exact this
end Go.Proofs.Ytngkmlchblgmeaa
