/-
  slices.Clone of rows of bytes, bools and ints that are known from their block's start.
-/
import Derived.Test.YtiicbbhjepkndaaDev0
import Derived.Test.YtiicbbhjepkndaaMk
import Derived.WalkKit
namespace Go.Proofs.Ytiicbbhjepkndaa
open Go.RowKit

theorem rowP_of_owns {w : World} {base e n : Nat} {v : Value} {xs : List Value} (h : w.ownsRow base e 1 v n xs) (hn : 0 < n) : ∃ g cap, v = .slice (some ⟨g, 0, none⟩) n cap ∧ base ≤ g ∧ n ≤ cap ∧ rowP w g e xs := by
  obtain ⟨hl, ⟨rfl, h0⟩ | ⟨g, cap, cur, rfl, hb, hh, hnc, _, hcs, ht⟩⟩ := h
  · omega
  · refine ⟨g, cap, rfl, hb, hnc, cur.toList.drop n, (0, 0), ?_, .inl (Nat.le_refl _)⟩
    rw [hh]
    congr 2
    rw [← ht, Nat.mul_one, List.take_append_drop]
set_option maxHeartbeats 400000 in
set_option maxRecDepth 100000 in
theorem cl_B (a c : Nat) (l : List Nat) (w : World) (hp : rowP w a 5 (l.map (fun x => Value.int .u8 (x : Nat)))) (hl : l.length ≤ 1000000) (h0 : 0 < l.length) :
    Calls Try.prog 77 #[.slice (some ⟨a, 0, none⟩) l.length c] w fun e w' => ∃ g cap, e = .returned (.slice (some ⟨g, 0, none⟩) l.length cap) ∧ w.heap.size ≤ g ∧ l.length ≤ cap ∧ g < w'.heap.size ∧ rowP w' g 5 (l.map (fun x => Value.int .u8 (x : Nat))) ∧ Below w.heap.size w w' := by
  have HP := hid hp
  clear hp
  obtain ⟨i0, hi, hz0, hz1, hz2⟩ := info_of (show (Try.prog.info? 5).map (fun i => (i.zero, i.size, i.bytes)) = some (some (.int .u8 0), 1, 1) from by kernel_rfl)
  have hnil := fun (w : World) (a : Option Addr) (n c : Nat) => Lib.run_eql_slice_nil (P := Try.prog) w 30 5 a n c 0 0 Try.underlying30
  (go_enter Try.func77, Try.ntmps77; try simp only [List.append])
  go_wp2_with (at_builtin; refine wpList_append_own _ rfl _ _ 30 rfl w.heap.size 5 i0 (.int .u8 0) 1 1 Try.underlying30 hi hz0 hz1 hz2 rfl (by decide) _ 0 [] rfl ?c0 ⟨a, 0, none⟩ l.length c (l.map (fun x => Value.int .u8 (x : Nat))) rfl ?c1a ?c1 ?c2 ?c3 ?c4 ?c5 ?_)
  case c0 => exact World.ownsRow_lit w #[] 0 (Nat.le_refl _) (by unfold maxLen; omega) rfl
  case c1a => simp
  case c1 =>
    intro j u hj
    have := (HP.out.below ((Below.refl w.heap.size w).alloc (Nat.le_refl _) (.cells #[] 5)) HP.out.lt).cell j u hj
    rw [show (⟨a, 0, none⟩ : Addr).add j = ⟨a, j, none⟩ from by by_cases h : j = 0 <;> simp [Addr.add, h]]
    exact this
  case c2 => intro u hu; rw [List.mem_map] at hu; obtain ⟨x, _, rfl⟩ := hu; rfl
  case c3 => unfold maxLen; omega
  case c4 => omega
  case c5 => simp
  intro v' w1 hown' hgrow _
  have hO : Hid (∃ g cap, v' = .slice (some ⟨g, 0, none⟩) l.length cap ∧ w.heap.size ≤ g ∧ l.length ≤ cap ∧ rowP w1 g 5 (l.map (fun x => Value.int .u8 (x : Nat)))) := by
    exact rowP_of_owns hown' h0
  have hB : Hid (Below w.heap.size w w1) := ((Below.refl _ _).alloc (Nat.le_refl _) _).grown hgrow (by simp) (by intro k hk; simp [Value.ownBlock] at hk; omega)
  clear hown' hgrow
  go_wp2
  go_ret
  obtain ⟨g, cap, rfl, h1, h2, h3⟩ := hO.out
  exact ⟨g, cap, rfl, h1, h2, h3.lt, h3, hB.out⟩
set_option maxHeartbeats 400000 in
set_option maxRecDepth 100000 in
theorem cl_L (a c : Nat) (l : List Bool) (w : World) (hp : rowP w a 4 (l.map Value.bool)) (hl : l.length ≤ 1000000) (h0 : 0 < l.length) :
    Calls Try.prog 78 #[.slice (some ⟨a, 0, none⟩) l.length c] w fun e w' => ∃ g cap, e = .returned (.slice (some ⟨g, 0, none⟩) l.length cap) ∧ w.heap.size ≤ g ∧ l.length ≤ cap ∧ g < w'.heap.size ∧ rowP w' g 4 (l.map Value.bool) ∧ Below w.heap.size w w' := by
  have HP := hid hp
  clear hp
  obtain ⟨i0, hi, hz0, hz1, hz2⟩ := info_of (show (Try.prog.info? 4).map (fun i => (i.zero, i.size, i.bytes)) = some (some (.bool false), 1, 1) from by kernel_rfl)
  have hnil := fun (w : World) (a : Option Addr) (n c : Nat) => Lib.run_eql_slice_nil (P := Try.prog) w 112 4 a n c 0 0 Try.underlying112
  (go_enter Try.func78, Try.ntmps78; try simp only [List.append])
  go_wp2_with (at_builtin; refine wpList_append_own _ rfl _ _ 112 rfl w.heap.size 4 i0 (.bool false) 1 1 Try.underlying112 hi hz0 hz1 hz2 rfl (by decide) _ 0 [] rfl ?c0 ⟨a, 0, none⟩ l.length c (l.map Value.bool) rfl ?c1a ?c1 ?c2 ?c3 ?c4 ?c5 ?_)
  case c0 => exact World.ownsRow_lit w #[] 0 (Nat.le_refl _) (by unfold maxLen; omega) rfl
  case c1a => simp
  case c1 =>
    intro j u hj
    have := (HP.out.below ((Below.refl w.heap.size w).alloc (Nat.le_refl _) (.cells #[] 4)) HP.out.lt).cell j u hj
    rw [show (⟨a, 0, none⟩ : Addr).add j = ⟨a, j, none⟩ from by by_cases h : j = 0 <;> simp [Addr.add, h]]
    exact this
  case c2 => intro u hu; rw [List.mem_map] at hu; obtain ⟨x, _, rfl⟩ := hu; rfl
  case c3 => unfold maxLen; omega
  case c4 => omega
  case c5 => simp
  intro v' w1 hown' hgrow _
  have hO : Hid (∃ g cap, v' = .slice (some ⟨g, 0, none⟩) l.length cap ∧ w.heap.size ≤ g ∧ l.length ≤ cap ∧ rowP w1 g 4 (l.map Value.bool)) := by
    exact rowP_of_owns hown' h0
  have hB : Hid (Below w.heap.size w w1) := ((Below.refl _ _).alloc (Nat.le_refl _) _).grown hgrow (by simp) (by intro k hk; simp [Value.ownBlock] at hk; omega)
  clear hown' hgrow
  go_wp2
  go_ret
  obtain ⟨g, cap, rfl, h1, h2, h3⟩ := hO.out
  exact ⟨g, cap, rfl, h1, h2, h3.lt, h3, hB.out⟩
set_option maxHeartbeats 400000 in
set_option maxRecDepth 100000 in
theorem cl_I (a c : Nat) (l : List Int) (w : World) (hp : rowP w a 3 (l.map (fun x => Value.int .i64 x))) (hl : l.length ≤ 1000000) (h0 : 0 < l.length) :
    Calls Try.prog 79 #[.slice (some ⟨a, 0, none⟩) l.length c] w fun e w' => ∃ g cap, e = .returned (.slice (some ⟨g, 0, none⟩) l.length cap) ∧ w.heap.size ≤ g ∧ l.length ≤ cap ∧ g < w'.heap.size ∧ rowP w' g 3 (l.map (fun x => Value.int .i64 x)) ∧ Below w.heap.size w w' := by
  have HP := hid hp
  clear hp
  obtain ⟨i0, hi, hz0, hz1, hz2⟩ := info_of (show (Try.prog.info? 3).map (fun i => (i.zero, i.size, i.bytes)) = some (some (.int .i64 0), 1, 8) from by kernel_rfl)
  have hnil := fun (w : World) (a : Option Addr) (n c : Nat) => Lib.run_eql_slice_nil (P := Try.prog) w 46 3 a n c 0 0 Try.underlying46
  (go_enter Try.func79, Try.ntmps79; try simp only [List.append])
  go_wp2_with (at_builtin; refine wpList_append_own _ rfl _ _ 46 rfl w.heap.size 3 i0 (.int .i64 0) 1 8 Try.underlying46 hi hz0 hz1 hz2 rfl (by decide) _ 0 [] rfl ?c0 ⟨a, 0, none⟩ l.length c (l.map (fun x => Value.int .i64 x)) rfl ?c1a ?c1 ?c2 ?c3 ?c4 ?c5 ?_)
  case c0 => exact World.ownsRow_lit w #[] 0 (Nat.le_refl _) (by unfold maxLen; omega) rfl
  case c1a => simp
  case c1 =>
    intro j u hj
    have := (HP.out.below ((Below.refl w.heap.size w).alloc (Nat.le_refl _) (.cells #[] 3)) HP.out.lt).cell j u hj
    rw [show (⟨a, 0, none⟩ : Addr).add j = ⟨a, j, none⟩ from by by_cases h : j = 0 <;> simp [Addr.add, h]]
    exact this
  case c2 => intro u hu; rw [List.mem_map] at hu; obtain ⟨x, _, rfl⟩ := hu; rfl
  case c3 => unfold maxLen; omega
  case c4 => omega
  case c5 => simp
  intro v' w1 hown' hgrow _
  have hO : Hid (∃ g cap, v' = .slice (some ⟨g, 0, none⟩) l.length cap ∧ w.heap.size ≤ g ∧ l.length ≤ cap ∧ rowP w1 g 3 (l.map (fun x => Value.int .i64 x))) := by
    exact rowP_of_owns hown' h0
  have hB : Hid (Below w.heap.size w w1) := ((Below.refl _ _).alloc (Nat.le_refl _) _).grown hgrow (by simp) (by intro k hk; simp [Value.ownBlock] at hk; omega)
  clear hown' hgrow
  go_wp2
  go_ret
  obtain ⟨g, cap, rfl, h1, h2, h3⟩ := hO.out
  exact ⟨g, cap, rfl, h1, h2, h3.lt, h3, hB.out⟩
end Go.Proofs.Ytiicbbhjepkndaa
