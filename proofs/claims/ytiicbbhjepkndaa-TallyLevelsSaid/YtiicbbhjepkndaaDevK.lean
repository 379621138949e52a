/-
  What stays of a device's bytes and locks (plain).
-/
import Derived.Test.YtiicbbhjepkndaaDev6
namespace Tri
open Go Go.RowKit
theorem part_ext {b b' : List Nat} (p m : Nat) (hl : b'.length = b.length) (h : ∀ j, p ≤ j → j < p + m → b'.getD j 0 = b.getD j 0) : (b'.drop p).take m = (b.drop p).take m := by
  apply List.ext_getElem?
  intro q
  rw [List.getElem?_take, List.getElem?_take]
  by_cases hq : q < m
  · rw [if_pos hq, if_pos hq, List.getElem?_drop, List.getElem?_drop]
    have := h (p + q) (by omega) (by omega)
    rw [List.getD_eq_getElem?_getD, List.getD_eq_getElem?_getD] at this
    by_cases hb : p + q < b.length
    · rw [List.getElem?_eq_getElem hb, List.getElem?_eq_getElem (by omega)] at this ⊢
      exact congrArg some this
    · rw [List.getElem?_eq_none (by omega), List.getElem?_eq_none (by omega)]
  · rw [if_neg hq, if_neg hq]
theorem erase_lk (s : FS) (n : Nat) (c : Int) : (s.erase n c).lk = s.lk := by
  unfold FS.erase
  split
  · exact partS_lk s
  · rfl
theorem prog_lk (s : FS) (n : Nat) (a : Int) (p : List Nat) : (s.prog n a p).lk = s.lk := by
  unfold FS.prog
  split
  · exact partS_lk s
  · rfl
theorem erase_len (s : FS) (n : Nat) (c : Int) : (s.erase n c).b.length = s.b.length := by
  unfold FS.erase
  split
  · exact wroteB_length s (fun _ _ => 255) (fun _ x => x ||| s.m) (64 * c.toNat) 64
  · rfl
theorem prog_len (s : FS) (n : Nat) (a : Int) (p : List Nat) : (s.prog n a p).b.length = s.b.length := by
  unfold FS.prog
  split
  · exact wroteB_length s (fun j x => x &&& p.getD j 0) (fun j x => x &&& (p.getD j 0 ||| s.m)) a.toNat 16
  · rfl
/-- An erase changes its sector alone. -/
theorem erase_at (s : FS) (n : Nat) (c : Int) (j : Nat) (hj : j < s.b.length) (h : ¬ (0 ≤ c ∧ 64 * c.toNat ≤ j ∧ j < 64 * c.toNat + 64)) : (s.erase n c).b.getD j 0 = s.b.getD j 0 := by
  unfold FS.erase
  split
  · rename_i hc
    have hdl := s.done_le 64
    show (s.wroteB (fun _ _ => 255) (fun _ x => x ||| s.m) (64 * c.toNat) 64).getD j 0 = _
    rw [wroteB_at _ _ _ _ _ _ hj, if_neg (by omega), if_neg (by omega)]
  · rfl
/-- A program changes its page alone. -/
theorem prog_at (s : FS) (n : Nat) (a : Int) (p : List Nat) (j : Nat) (hj : j < s.b.length) (h : ¬ (0 ≤ a ∧ a.toNat ≤ j ∧ j < a.toNat + 16)) : (s.prog n a p).b.getD j 0 = s.b.getD j 0 := by
  unfold FS.prog
  split
  · rename_i hc
    have hdl := s.done_le 16
    show (s.wroteB (fun j x => x &&& p.getD j 0) (fun j x => x &&& (p.getD j 0 ||| s.m)) a.toNat 16).getD j 0 = _
    rw [wroteB_at _ _ _ _ _ _ hj, if_neg (by omega), if_neg (by omega)]
  · rfl
/-- A locked sector stays. -/
theorem erase_locked (s : FS) (n : Nat) (a : Int) (c : Nat) (hb : s.b.length = 64 * n) (hc : c < n) (hl : s.lk.getD c false = true) : (s.erase n a).dumpB n c = s.dumpB n c := by
  by_cases hac : a = c
  · subst hac
    have : s.erase n c = s := by
      unfold FS.erase FS.lkd
      rw [if_neg]
      rintro ⟨_, _, h⟩
      rw [Int.toNat_natCast, hl] at h
      cases h
    rw [this]
  · unfold FS.dumpB
    rw [if_pos (by omega), if_pos (by omega)]
    exact part_ext _ _ (erase_len s n a) fun j h1 h2 => erase_at s n a j (by omega) (by omega)
theorem prog_locked (s : FS) (n : Nat) (a : Int) (p : List Nat) (c : Nat) (hb : s.b.length = 64 * n) (hc : c < n) (hl : s.lk.getD c false = true) : (s.prog n a p).dumpB n c = s.dumpB n c := by
  by_cases hac : 0 ≤ a ∧ a / 64 = c
  · have : s.prog n a p = s := by
      unfold FS.prog FS.lkd
      rw [if_neg]
      rintro ⟨_, _, _, h⟩
      rw [hac.2, Int.toNat_natCast, hl] at h
      cases h
    rw [this]
  · by_cases hm : a % 16 = 0
    · unfold FS.dumpB
      rw [if_pos (by omega), if_pos (by omega)]
      exact part_ext _ _ (prog_len s n a p) fun j h1 h2 => prog_at s n a p j (by omega) (by omega)
    · have : s.prog n a p = s := by
        unfold FS.prog
        rw [if_neg]
        rintro ⟨_, ⟨h, _⟩, _⟩
        exact hm h
      rw [this]
theorem read_b (s : FS) (n : Nat) (a k : Int) : (s.read n a k).b = s.b ∧ (s.read n a k).lk = s.lk := by unfold FS.read; split <;> exact ⟨rfl, rfl⟩
theorem dump_same {s s' : FS} (h : s'.b = s.b) (n : Nat) (c : Int) : s'.dumpB n c = s.dumpB n c := by unfold FS.dumpB; rw [h]
/-- The sectors, one behind the other. -/
theorem take_dump (s : FS) (n k : Nat) (hk : k < n) : s.b.take (64 * k) ++ s.dumpB n (k : Int) = s.b.take (64 * (k + 1)) := by
  unfold FS.dumpB
  rw [if_pos (by omega), Int.toNat_natCast, show 64 * (k + 1) = 64 * k + 64 from by omega, List.take_add]
end Tri
