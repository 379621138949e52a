/-
  slices.ContainsFunc in the program.
-/
import Derived.Test.YtlipedigmokgbaaRs1
namespace Go.Proofs.Ytlipedigmokgbaa
open Go.RowKit Tri
set_option maxHeartbeats 400000 in
set_option maxRecDepth 100000 in
theorem sl_ContainsFunc (p : Option Addr) (n c : Nat) (l : List Nat) (w : World) (hn : n = l.length) (hp : cellsB w p l) (hl : l.length ≤ 1000000) :
    Calls Try.prog 63 #[.slice p n c, .func (.func 64) #[] #[]] w
      fun e w' => e = .returned (.bool (!(l.all fun y => decide (y = 0)))) ∧ w = w' := by
  subst hn
  have HPP := hid hp
  have hf : Hid (decide (firstNz l < l.length) = !(l.all fun y => decide (y = 0))) := firstNz_all l
  have hi : Hid (idxNz l = if firstNz l < l.length then (firstNz l : Int) else -1) := rfl
  clear hp
  generalize (!(l.all fun y => decide (y = 0))) = b at *
  go_enter Try.func63, Try.ntmps63
  go_wp2_with ((with_reducible refine wpList_unguard ?_ ?_); (focus rfl))
  refine Calls.mono (sl_IndexFuncR p _ c l w rfl HPP.out hl) ?_; rintro e w' ⟨rfl, rfl⟩
  by_cases h : firstNz l < l.length
  · have hb : b = true := by rw [← hf.out]; exact decide_eq_true h
    rw [hi.out, if_pos h]
    subst hb
    generalize firstNz l = k at *
    go_wp2_with ((with_reducible refine wpList_unguard ?_ ?_); (focus rfl))
    go_ret
    exact ⟨rfl, rfl⟩
  · have hb : b = false := by rw [← hf.out]; exact decide_eq_false h
    rw [hi.out, if_neg h]
    subst hb
    go_wp2_with ((with_reducible refine wpList_unguard ?_ ?_); (focus rfl))
    go_ret
    exact ⟨rfl, rfl⟩


set_option maxHeartbeats 1000000 in
set_option maxRecDepth 100000 in
theorem rs_Syndromes_bad (c f n k : Nat) (p : Option Addr) (m d : Nat) (w : World) (hR : isR w c f n k) (hm : m ≠ n) (_hn : n ≤ 255) (hmm : m ≤ 140737488351232) :
    Calls Try.prog 41 #[.pointer (some ⟨c, 0, none⟩), .slice p m d] w fun e w' => e = .returned (.tuple #[.slice none 0 0, .int .i64 1]) ∧ w = w' := by
  have c1 := hR.n
  have hne : ((m : Int) != (n : Int)) = true := by rw [bne_iff_ne]; omega
  have hne' : (m != n) = true := by rw [bne_iff_ne]; omega
  clear hR hm
  (go_enter Try.func41, Try.ntmps41; try simp only [List.append])
  go_wp2_with ((with_reducible refine wpList_unguard ?_ ?_); (focus rfl))
  refine bodyPost_ret (v := .tuple #[.slice none 0 0, .int .i64 1]) (by simp [results, Try.results41, go_sem]) rfl ⟨rfl, rfl⟩
set_option maxHeartbeats 1000000 in
set_option maxRecDepth 100000 in
theorem rs_Syndromes_nil (p : Option Addr) (m d : Nat) (w : World) :
    Calls Try.prog 41 #[.pointer none, .slice p m d] w fun e w' => e = .returned (.tuple #[.slice none 0 0, .int .i64 1]) ∧ w = w' := by
  (go_enter Try.func41, Try.ntmps41; try simp only [List.append])
  go_wp2_with ((with_reducible refine wpList_unguard ?_ ?_); (focus rfl))
  refine bodyPost_ret (v := .tuple #[.slice none 0 0, .int .i64 1]) (by simp [results, Try.results41, go_sem]) rfl ⟨rfl, rfl⟩
set_option maxHeartbeats 1000000 in
set_option maxRecDepth 100000 in
theorem rs_Right (c f n k : Nat) (p : Option Addr) (m d : Nat) (word : List Nat) (w : World) (hR : isR w c f n k) (hk : k < n) (hn : n ≤ 255) (hm : m = word.length) (hp : cellsB w p word) (hb : bytesL word) (hl : word.length = n) :
    Calls Try.prog 42 #[.pointer (some ⟨c, 0, none⟩), .slice p m d] w fun e w' => e = .returned (.bool (rightB word (n - k))) ∧ Below w.heap.size w w' := by
  subst hm
  have HR := hid hR
  have HP := hid hp
  have HB := hid hb
  have HL := hid hl
  have hsl6 : (synd word (n - k)).length ≤ 1000000 := by have := synd_length word (n - k); omega
  have HRB : Hid (rightB word (n - k) = (synd word (n - k)).all fun y => decide (y = 0)) := rfl
  clear hR hp hb hl
  generalize hrb : rightB word (n - k) = b at *
  have HRb := hid hrb
  clear hrb
  (go_enter Try.func42, Try.ntmps42; try simp only [List.append])
  go_wp2_with ((with_reducible refine wpList_unguard ?_ ?_); (focus rfl))
  refine Calls.mono (rs_Syndromes c f n k p _ d word w HR.out hk hn rfl HP.out HB.out HL.out) ?_
  rintro e w1 ⟨v, rfl, hO, hbel⟩
  obtain ⟨p1, c1, rfl, hc1⟩ := hO.cells
  have HC := hid hc1
  have HBel := hid hbel
  clear hO hc1 hbel
  go_wp2_with ((with_reducible refine wpList_unguard ?_ ?_); (focus rfl))
  refine Calls.mono (sl_ContainsFunc p1 _ c1 (synd word (n - k)) w1 rfl HC.out hsl6) ?_
  rintro e w' ⟨rfl, rfl⟩
  rw [← HRB.out]
  cases b with
  | true =>
    go_wp2_with ((with_reducible refine wpList_unguard ?_ ?_); (focus rfl))
    go_ret
    exact ⟨rfl, HBel.out⟩
  | false =>
    go_wp2_with ((with_reducible refine wpList_unguard ?_ ?_); (focus rfl))
    go_ret
    exact ⟨rfl, HBel.out⟩
set_option maxHeartbeats 1000000 in
set_option maxRecDepth 100000 in
theorem rs_Right_bad (c f n k : Nat) (p : Option Addr) (m d : Nat) (w : World) (hR : isR w c f n k) (hm : m ≠ n) (hn : n ≤ 255) (hmm : m ≤ 140737488351232) :
    Calls Try.prog 42 #[.pointer (some ⟨c, 0, none⟩), .slice p m d] w fun e w' => e = .returned (.bool false) ∧ w = w' := by
  have HR := hid hR
  have HM := hid hm
  clear hR hm
  (go_enter Try.func42, Try.ntmps42; try simp only [List.append])
  go_wp2_with ((with_reducible refine wpList_unguard ?_ ?_); (focus rfl))
  refine Calls.mono (rs_Syndromes_bad c f n k p m d w HR.out HM.out hn hmm) ?_
  rintro e w1 ⟨rfl, rfl⟩
  go_wp2_with ((with_reducible refine wpList_unguard ?_ ?_); (focus rfl))
  go_ret
  exact ⟨rfl, rfl⟩
set_option maxHeartbeats 1000000 in
set_option maxRecDepth 100000 in
theorem rs_Right_nil (p : Option Addr) (m d : Nat) (w : World) :
    Calls Try.prog 42 #[.pointer none, .slice p m d] w fun e w' => e = .returned (.bool false) ∧ w = w' := by
  (go_enter Try.func42, Try.ntmps42; try simp only [List.append])
  go_wp2_with ((with_reducible refine wpList_unguard ?_ ?_); (focus rfl))
  refine Calls.mono (rs_Syndromes_nil p m d w) ?_
  rintro e w1 ⟨rfl, rfl⟩
  go_wp2_with ((with_reducible refine wpList_unguard ?_ ?_); (focus rfl))
  go_ret
  exact ⟨rfl, rfl⟩
end Go.Proofs.Ytlipedigmokgbaa
