/-
  A device's bytes and locks as they are written; what an erase and a program let it be, in plain words.
-/
import Derived.Test.YtiicbbhjepkndaaDev2
namespace Tri
open Go Go.RowKit
theorem mapIdx_len {α : Type} (f : Nat → α → α) (l : List α) : (l.mapIdx f).length = l.length := List.length_mapIdx
theorem getD_mapIdx (f : Nat → Nat → Nat) (l : List Nat) (j : Nat) (h : j < l.length) : (l.mapIdx f).getD j 0 = f j (l.getD j 0) := by
  rw [List.getD_eq_getElem?_getD, List.getElem?_mapIdx, List.getElem?_eq_getElem h, List.getD_eq_getElem?_getD, List.getElem?_eq_getElem h]
  rfl
/-- Bytes of which those from one place on are others, up to so many. -/
def fillB (f : Nat → Nat → Nat) (at_ k : Nat) (b : List Nat) : List Nat := b.mapIdx fun j x => if at_ ≤ j ∧ j < at_ + k then f (j - at_) x else x
theorem fillB_zero (f : Nat → Nat → Nat) (at_ : Nat) (b : List Nat) : fillB f at_ 0 b = b := by
  unfold fillB
  apply List.ext_getElem?
  intro j
  rw [List.getElem?_mapIdx]
  cases h : b[j]? with
  | none => rfl
  | some x =>
    have : ¬ (at_ ≤ j ∧ j < at_ + 0) := by omega
    simp only [Option.map_some, if_neg this]
theorem fillB_length (f : Nat → Nat → Nat) (at_ k : Nat) (b : List Nat) : (fillB f at_ k b).length = b.length := by unfold fillB; rw [List.length_mapIdx]
theorem fillB_step (f : Nat → Nat → Nat) (at_ k : Nat) (b : List Nat) (h : at_ + k < b.length) : (fillB f at_ k b).set (at_ + k) (f k (b.getD (at_ + k) 0)) = fillB f at_ (k + 1) b := by
  apply List.ext_getElem?
  intro j
  unfold fillB
  by_cases hj : j = at_ + k
  · subst hj
    rw [List.getElem?_set_self (by rw [List.length_mapIdx]; exact h), List.getElem?_mapIdx, List.getElem?_eq_getElem h]
    have : at_ ≤ at_ + k ∧ at_ + k < at_ + (k + 1) := by omega
    simp only [Option.map_some, if_pos this, List.getD_eq_getElem?_getD, List.getElem?_eq_getElem h, Option.getD_some, Nat.add_sub_cancel_left]
  · rw [List.getElem?_set_ne (by omega), List.getElem?_mapIdx, List.getElem?_mapIdx]
    cases b[j]? with
    | none => rfl
    | some x =>
      simp only [Option.map_some, Option.some.injEq]
      by_cases h1 : at_ ≤ j ∧ j < at_ + k
      · rw [if_pos h1, if_pos (by omega)]
      · rw [if_neg h1, if_neg (by omega)]
theorem fillB_at (f : Nat → Nat → Nat) (at_ k : Nat) (b : List Nat) (j : Nat) (h : j < b.length) : (fillB f at_ k b).getD j 0 = if at_ ≤ j ∧ j < at_ + k then f (j - at_) (b.getD j 0) else b.getD j 0 := by
  unfold fillB
  rw [getD_mapIdx _ _ _ h]
theorem fillB_lt {f : Nat → Nat → Nat} {at_ k : Nat} {b : List Nat} (hb : ∀ y ∈ b, y < 256) (hf : ∀ j x, x < 256 → f j x < 256) : ∀ y ∈ fillB f at_ k b, y < 256 := by
  intro y hy
  unfold fillB at hy
  rw [List.mem_mapIdx] at hy
  obtain ⟨i, hi, rfl⟩ := hy
  have h1 := hb _ (List.getElem_mem hi)
  split
  · exact hf _ _ h1
  · exact h1
/-- How many bytes of so many are done. -/
def FS.done (s : FS) (k : Nat) : Nat := if s.lf = 0 then (s.k % (k + 1)).toNat else k
theorem FS.done_le (s : FS) (k : Nat) : s.done k ≤ k := by
  unfold FS.done
  split
  · have := Int.emod_lt_of_pos s.k (b := (k + 1 : Int)) (by omega)
    omega
  · exact Nat.le_refl _
/-- What is written on some bytes: all of it, or, torn, a part, and one byte by the mask. -/
def FS.wroteB (s : FS) (f t : Nat → Nat → Nat) (at_ k : Nat) : List Nat :=
  if s.lf = 0 ∧ s.done k < k then (fillB f at_ (s.done k) s.b).set (at_ + s.done k) (t (s.done k) (s.b.getD (at_ + s.done k) 0)) else fillB f at_ (s.done k) s.b
theorem or_lt {a b : Nat} (ha : a < 256) (hb : b < 256) : a ||| b < 256 := Nat.or_lt_two_pow (n := 8) ha hb
theorem and_lt (a b : Nat) (ha : a < 256) : a &&& b < 256 := Nat.lt_of_le_of_lt Nat.and_le_left ha
theorem wroteB_length (s : FS) (f t : Nat → Nat → Nat) (at_ k : Nat) : (s.wroteB f t at_ k).length = s.b.length := by
  unfold FS.wroteB
  split
  · rw [List.length_set, fillB_length]
  · rw [fillB_length]
theorem wroteB_at (s : FS) (f t : Nat → Nat → Nat) (at_ k j : Nat) (h : j < s.b.length) : (s.wroteB f t at_ k).getD j 0 =
    if at_ ≤ j ∧ j < at_ + s.done k then f (j - at_) (s.b.getD j 0) else if s.lf = 0 ∧ j = at_ + s.done k ∧ s.done k < k then t (j - at_) (s.b.getD j 0) else s.b.getD j 0 := by
  unfold FS.wroteB
  by_cases hc : s.lf = 0 ∧ s.done k < k
  · rw [if_pos hc]
    by_cases hj : j = at_ + s.done k
    · subst hj
      rw [List.getD_eq_getElem?_getD, List.getElem?_set_self (by rw [fillB_length]; exact h), if_neg (by omega), if_pos ⟨hc.1, rfl, hc.2⟩, Nat.add_sub_cancel_left]
      rfl
    · rw [List.getD_eq_getElem?_getD, List.getElem?_set_ne (by omega), ← List.getD_eq_getElem?_getD, fillB_at _ _ _ _ _ h]
      split
      · rfl
      · rw [if_neg (by omega)]
  · rw [if_neg hc, fillB_at _ _ _ _ _ h]
    split
    · rfl
    · rw [if_neg (by omega)]
def FS.lkd (s : FS) (c : Int) : Bool := s.lk.getD c.toNat false
/-- What an erase answers; what it lets the device be. -/
def FS.eraseE (s : FS) (n : Nat) (c : Int) : Nat := if s.dn then 5 else if 0 ≤ c ∧ c < n then (if s.lkd c then 4 else if s.lf = 0 then 5 else 0) else 2
def FS.erase (s : FS) (n : Nat) (c : Int) : FS :=
  if s.dn = false ∧ (0 ≤ c ∧ c < n) ∧ s.lkd c = false then
    { partS s with b := s.wroteB (fun _ _ => 255) (fun _ x => x ||| s.m) (64 * c.toNat) 64, wr := s.wr.set c.toNat (wrap64 (s.wr.getD c.toNat 0 + 1)) }
  else s
/-- What a program answers; what it lets the device be. -/
def FS.progE (s : FS) (n : Nat) (at_ : Int) (pg : List Nat) : Nat :=
  if s.dn then 5 else if at_ % 16 ≠ 0 ∨ pg.length ≠ 16 then 3 else if 0 ≤ at_ ∧ at_ < 64 * n then (if s.lkd (at_ / 64) then 4 else if s.lf = 0 then 5 else 0) else 2
def FS.prog (s : FS) (n : Nat) (at_ : Int) (pg : List Nat) : FS :=
  if s.dn = false ∧ (at_ % 16 = 0 ∧ pg.length = 16) ∧ (0 ≤ at_ ∧ at_ < 64 * n) ∧ s.lkd (at_ / 64) = false then
    { partS s with b := s.wroteB (fun j x => x &&& pg.getD j 0) (fun j x => x &&& (pg.getD j 0 ||| s.m)) at_.toNat 16 }
  else s
/-- Reads. -/
def FS.read (s : FS) (n : Nat) (at_ k : Int) : FS := if s.dn = false ∧ 0 ≤ at_ ∧ 0 ≤ k ∧ at_ + k ≤ 64 * n then { s with ops := wrap64 (s.ops + 1) } else s
def FS.readB (s : FS) (n : Nat) (at_ k : Int) : List Nat := if s.dn = false ∧ 0 ≤ at_ ∧ 0 ≤ k ∧ at_ + k ≤ 64 * n then (s.b.drop at_.toNat).take k.toNat else []
def FS.lockE (n : Nat) (a b : Int) : Nat := if 0 ≤ a ∧ a ≤ b ∧ b ≤ n then 0 else 2
def FS.lock (s : FS) (n : Nat) (a b : Int) : FS := if 0 ≤ a ∧ a ≤ b ∧ b ≤ n then { s with lk := s.lk.mapIdx fun j x => if a.toNat ≤ j ∧ j < b.toNat then true else x } else s
def FS.rotE (n : Nat) (at_ : Int) (l : List Nat) : Nat := if 0 ≤ at_ ∧ at_ + l.length ≤ 64 * n then 0 else 2
def FS.rot (s : FS) (n : Nat) (at_ : Int) (l : List Nat) : FS := if 0 ≤ at_ ∧ at_ + l.length ≤ 64 * n then { s with b := fillB (fun j x => x ^^^ l.getD j 0) at_.toNat l.length s.b } else s
def FS.dumpB (s : FS) (n : Nat) (c : Int) : List Nat := if 0 ≤ c ∧ c < n then (s.b.drop (64 * c.toNat)).take 64 else []
end Tri
namespace Go.Proofs.Ytiicbbhjepkndaa
open Go.RowKit Tri

theorem DevP.setB {w : World} {i : DI} {n : Nat} {s : FS} (h : DevP w i n s) (j x : Nat) (hj : j < 64 * n) (hx : x < 256) : DevP (w.setCell ⟨i.B, j, none⟩ (.int .u8 (x : Nat))) i n { s with b := s.b.set j x } := by
  obtain ⟨h1, h2, h3, h4, h5, h6, h7, h8, h9, h10⟩ := h
  have h5' := h5
  unfold DI.ok at h5'
  refine ⟨?_, ?_, ?_, ?_, h5, by simpa using h6, ?_, h8, h9, h10⟩
  · exact h1.setOther _ _ (by show i.D ≠ i.B; omega)
  · have := h2.set j (.int .u8 (x : Nat)) (by rw [List.length_map, h7.1]; exact hj)
    show rowP _ _ _ ((s.b.set j x).map _)
    rw [List.map_set]
    exact this
  · exact h3.setOther _ _ (by show i.L ≠ i.B; omega)
  · exact h4.setOther _ _ (by show i.W ≠ i.B; omega)
  · unfold FS.ok at h7 ⊢
    refine ⟨by show (s.b.set j x).length = _; rw [List.length_set]; exact h7.1, h7.2.1, h7.2.2.1, h7.2.2.2.1, h7.2.2.2.2.1, ?_, h7.2.2.2.2.2.2⟩
    intro y hy
    rcases List.mem_or_eq_of_mem_set hy with h | h
    · exact h7.2.2.2.2.2.1 y h
    · omega
theorem DevP.setL {w : World} {i : DI} {n : Nat} {s : FS} (h : DevP w i n s) (j : Nat) (x : Bool) (hj : j < n) : DevP (w.setCell ⟨i.L, j, none⟩ (.bool x)) i n { s with lk := s.lk.set j x } := by
  obtain ⟨h1, h2, h3, h4, h5, h6, h7, h8, h9, h10⟩ := h
  have h5' := h5
  unfold DI.ok at h5'
  refine ⟨?_, ?_, ?_, ?_, h5, by simpa using h6, ?_, h8, h9, h10⟩
  · exact h1.setOther _ _ (by show i.D ≠ i.L; omega)
  · exact h2.setOther _ _ (by show i.B ≠ i.L; omega)
  · have := h3.set j (.bool x) (by rw [List.length_map, h7.2.1]; exact hj)
    show rowP _ _ _ ((s.lk.set j x).map _)
    rw [List.map_set]
    exact this
  · exact h4.setOther _ _ (by show i.W ≠ i.L; omega)
  · unfold FS.ok at h7 ⊢
    exact ⟨h7.1, by show (s.lk.set j x).length = _; rw [List.length_set]; exact h7.2.1, h7.2.2⟩
theorem DevP.setW {w : World} {i : DI} {n : Nat} {s : FS} (h : DevP w i n s) (j : Nat) (x : Int) (hj : j < n) : DevP (w.setCell ⟨i.W, j, none⟩ (.int .i64 x)) i n { s with wr := s.wr.set j x } := by
  obtain ⟨h1, h2, h3, h4, h5, h6, h7, h8, h9, h10⟩ := h
  have h5' := h5
  unfold DI.ok at h5'
  refine ⟨?_, ?_, ?_, ?_, h5, by simpa using h6, ?_, h8, h9, h10⟩
  · exact h1.setOther _ _ (by show i.D ≠ i.W; omega)
  · exact h2.setOther _ _ (by show i.B ≠ i.W; omega)
  · exact h3.setOther _ _ (by show i.L ≠ i.W; omega)
  · have := h4.set j (.int .i64 x) (by rw [List.length_map, h7.2.2.1]; exact hj)
    show rowP _ _ _ ((s.wr.set j x).map _)
    rw [List.map_set]
    exact this
  · unfold FS.ok at h7 ⊢
    exact ⟨h7.1, h7.2.1, by show (s.wr.set j x).length = _; rw [List.length_set]; exact h7.2.2.1, h7.2.2.2⟩
section
variable {w : World} {i : DI} {n : Nat} {s : FS}
theorem DevP.bAt (h : DevP w i n s) (j : Nat) (hj : j < 64 * n) : w.cell? ⟨i.B, j, none⟩ = some (.int .u8 (s.b.getD j 0 : Nat)) := by
  have hl : j < s.b.length := by rw [h.fs.1]; exact hj
  refine h.rb.cell j _ ?_
  rw [List.getElem?_map, List.getElem?_eq_getElem hl, List.getD_eq_getElem?_getD, List.getElem?_eq_getElem hl]
  rfl
theorem DevP.bFree (h : DevP w i n s) (j : Nat) (hj : j < 64 * n) : w.frozen? ⟨i.B, j, none⟩ = false := h.rb.free j (by rw [List.length_map, h.fs.1]; exact hj)
theorem DevP.lAt (h : DevP w i n s) (j : Nat) (hj : j < n) : w.cell? ⟨i.L, j, none⟩ = some (.bool (s.lk.getD j false)) := by
  have hl : j < s.lk.length := by rw [h.fs.2.1]; exact hj
  refine h.rl.cell j _ ?_
  rw [List.getElem?_map, List.getElem?_eq_getElem hl, List.getD_eq_getElem?_getD, List.getElem?_eq_getElem hl]
  rfl
theorem DevP.lFree (h : DevP w i n s) (j : Nat) (hj : j < n) : w.frozen? ⟨i.L, j, none⟩ = false := h.rl.free j (by rw [List.length_map, h.fs.2.1]; exact hj)
theorem DevP.wAt (h : DevP w i n s) (j : Nat) (hj : j < n) : w.cell? ⟨i.W, j, none⟩ = some (.int .i64 (s.wr.getD j 0)) := by
  have hl : j < s.wr.length := by rw [h.fs.2.2.1]; exact hj
  refine h.rw.cell j _ ?_
  rw [List.getElem?_map, List.getElem?_eq_getElem hl, List.getD_eq_getElem?_getD, List.getElem?_eq_getElem hl]
  rfl
theorem DevP.wFree (h : DevP w i n s) (j : Nat) (hj : j < n) : w.frozen? ⟨i.W, j, none⟩ = false := h.rw.free j (by rw [List.length_map, h.fs.2.2.1]; exact hj)
theorem DevP.bLt (h : DevP w i n s) (j : Nat) : s.b.getD j 0 < 256 := by
  rw [List.getD_eq_getElem?_getD]
  cases hj : s.b[j]? with
  | none => decide
  | some x => exact h.fs.2.2.2.2.2.1 x (List.mem_of_getElem? hj)
theorem outX {lo hi : Nat} {a w : World} (ho : Out lo hi a w) (p : Addr) (v : Value) (h1 : lo ≤ p.block) (h2 : p.block < hi) : Out lo hi a (w.setCell p v) := ho.set p v h1 h2
end
end Go.Proofs.Ytiicbbhjepkndaa
