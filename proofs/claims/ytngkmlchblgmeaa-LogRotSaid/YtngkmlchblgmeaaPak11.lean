/-
  slices.Clone of rows of bytes, bools and ints that are known from their block's start.
  slices.Clone of records, Log.All.
-/
import Derived.Test.YtngkmlchblgmeaaPak2
import Derived.Test.YtngkmlchblgmeaaPak6
import Derived.WalkKit
import Derived.Test.YtngkmlchblgmeaaPak10
namespace Go.Proofs.Ytngkmlchblgmeaa
open Go.RowKit

theorem rowP_of_owns {w : World} {base e n : Nat} {v : Value} {xs : List Value} (h : w.ownsRow base e 1 v n xs) (hn : 0 < n) : ∃ g cap, v = .slice (some ⟨g, 0, none⟩) n cap ∧ base ≤ g ∧ n ≤ cap ∧ rowP w g e xs := by
  obtain ⟨hl, ⟨rfl, h0⟩ | ⟨g, cap, cur, rfl, hb, hh, hnc, _, hcs, ht⟩⟩ := h
  · omega
  · refine ⟨g, cap, rfl, hb, hnc, cur.toList.drop n, (0, 0), ?_, .inl (Nat.le_refl _)⟩
    rw [hh]
    congr 2
    rw [← ht, Nat.mul_one, List.take_append_drop]
end Go.Proofs.Ytngkmlchblgmeaa

namespace Go.Proofs.Ytngkmlchblgmeaa
open Go.RowKit Tri

set_option maxHeartbeats 1000000 in
set_option maxRecDepth 100000 in
theorem sl_CloneR (b0 : Nat) (rs : Value) (recs : List RecI) (w : World) (hJ : recJ w b0 rs recs) (hl : recs.length ≤ 100000) :
    Calls Try.prog 55 #[rs] w fun e w' => ∃ v, e = .returned v ∧ recJ w' w.heap.size v recs ∧ Below w.heap.size w w' := by
  have hnil := fun (w : World) (a : Option Addr) (n c : Nat) => Lib.run_eql_slice_nil (P := Try.prog) w 22 37 a n c 0 0 Try.underlying22
  obtain ⟨i0, hi, hz0, hz1, hz2⟩ := info_parts Try.infoRec5
  rcases hJ.2 with ⟨rfl, h0⟩ | ⟨g, cap, cur, rfl, _, _, hnc, _⟩
  · obtain rfl := List.eq_nil_of_length_eq_zero h0
    (go_enter Try.func55, Try.ntmps55; try simp only [List.append])
    go_wp2_with ((with_reducible refine wpList_unguard ?_ ?_); (focus rfl))
    go_ret
    exact ⟨_, rfl, recJ.nil _ _, Below.refl _ _⟩
  · obtain ⟨p, c, e, hpc, hcg⟩ := hJ.cells
    simp only [Value.slice.injEq] at e
    obtain ⟨rfl, -, rfl⟩ := e
    have HC := hid hcg
    clear hcg hJ
    (go_enter Try.func55, Try.ntmps55; try simp only [List.append])
    go_wp2_with (at_builtin; refine wpList_append_own _ rfl _ _ 22 rfl w.heap.size 37 i0 (.agg #[.int .i64 0, .int .i64 0, .int .i64 0, .int .i64 0]) 4 32 Try.underlying22 hi hz0 hz1 hz2 rfl (by decide) _ 0 [] rfl ?c0 ⟨g, 0, none⟩ recs.length cap (recs.flatMap rcC) rfl ?c1a ?c1 ?c2 ?c3 ?c4 ?c5 ?_)
    case c0 => exact World.ownsRow_lit w #[] 0 (Nat.le_refl _) (by unfold maxLen; omega) rfl
    case c1a => exact flatMap_len recs
    case c1 =>
      intro j u hj
      obtain ⟨i, k, h1, h2, rfl, h3⟩ := flat_get recs j u hj
      obtain ⟨a', o', e, hc⟩ := (HC.out.below ((Below.refl w.heap.size w).alloc (Nat.le_refl _) (.cells #[] 37))) i (by rw [List.length_map]; exact h1)
      simp only [Option.some.injEq, Addr.mk.injEq] at e
      obtain ⟨rfl, rfl, _⟩ := e
      have := hc k u h3
      rw [show (⟨g, 0, none⟩ : Addr).add (i * 4 + k) = ⟨g, 0 + i * 4 + k, none⟩ from by unfold Addr.add; split <;> simp_all]
      exact this
    case c2 =>
      intro u hu
      rw [List.mem_flatMap] at hu
      obtain ⟨r, _, hu⟩ := hu
      unfold rcC at hu
      simp only [List.mem_cons, List.not_mem_nil, or_false] at hu
      rcases hu with rfl | rfl | rfl | rfl <;> rfl
    case c3 => unfold maxLen; omega
    case c4 => omega
    case c5 => simp
    intro v' w1 hown' hgrow _
    have hO : Hid (recJ w1 w.heap.size v' recs) := by
      show recJ _ _ _ _
      unfold recJ
      have := hown'
      simpa using this
    have hB : Hid (Below w.heap.size w w1) := ((Below.refl _ _).alloc (Nat.le_refl _) _).grown hgrow (by simp) (by intro k hk; simp [Value.ownBlock] at hk; omega)
    clear hown' hgrow
    go_wp2
    go_ret
    exact ⟨_, rfl, hO.out, hB.out⟩
set_option maxHeartbeats 1000000 in
set_option maxRecDepth 100000 in
theorem log_All (i : DI) (L S at_ : Nat) (rs : Value) (recs : List RecI) (gen : Int) (used : Nat) (holds clean : Bool) (b0 : Nat) (w : World) (hP : LogP i L S at_ rs recs gen used holds clean b0 w) (hl : recs.length ≤ 100000) :
    Calls Try.prog 21 #[.pointer (some ⟨L, 0, none⟩)] w fun e w' => ∃ v, e = .returned v ∧ recJ w' w.heap.size v recs ∧ Below w.heap.size w w' := by
  have c1 : w.cell? ⟨L, 1, none⟩ = some rs := hP.hw.hL.cell 1 _ rfl
  have HC := hid (sl_CloneR b0 rs recs w hP.hj hl)
  clear hP
  (go_enter Try.func21, Try.ntmps21; try simp only [List.append])
  go_wp2_with ((with_reducible refine wpList_unguard ?_ ?_); (focus rfl))
  refine Calls.mono HC.out ?_; rintro e w1 ⟨v, rfl, hJ, hb⟩
  have HJ := hid hJ
  have HB := hid hb
  clear hJ hb
  go_wp2_with ((with_reducible refine wpList_unguard ?_ ?_); (focus rfl))
  go_ret
  exact ⟨_, rfl, HJ.out, HB.out⟩
end Go.Proofs.Ytngkmlchblgmeaa
