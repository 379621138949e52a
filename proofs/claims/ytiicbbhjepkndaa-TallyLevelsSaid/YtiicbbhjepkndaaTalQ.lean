/-
  Plain: a tally's two sectors through Bump, Level and what tears them.
-/
import Derived.Test.YtiicbbhjepkndaaTal6
namespace Tri
open Go Go.RowKit Go.Proofs.Ytiicbbhjepkndaa
/-- What stays of a device of so many sectors of which none is locked. -/
structure Tdy (s : FS) (n : Nat) : Prop where
  len : s.b.length = 64 * n
  m : s.m < 256
  lk : s.lk = List.replicate n false
theorem prog_m (s : FS) (n : Nat) (a : Int) (p : List Nat) : (s.prog n a p).m = s.m := by
  unfold FS.prog
  split
  · exact partS_m s
  · rfl
theorem Tdy.prog {s : FS} {n : Nat} (h : Tdy s n) (a : Int) (p : List Nat) : Tdy (s.prog n a p) n := ⟨(prog_len s n a p).trans h.len, by rw [prog_m]; exact h.m, (prog_lk s n a p).trans h.lk⟩
theorem Tdy.clr {s : FS} {n : Nat} (h : Tdy s n) (a b c : Nat) : Tdy (clrS s n a b c) n := by
  unfold clrS
  split
  · exact h.prog _ _
  · exact (h.prog _ _).prog _ _
theorem Tdy.opn {s : FS} {n : Nat} (h : Tdy s n) (a b : Nat) : Tdy (opnS s n a b) n := by
  have h1 := opnS1_b s n a
  have h2 := opnS1_b (opnS1 s n a) n b
  unfold opnS
  exact ⟨by rw [h2.1, h1.1]; exact h.len, by rw [h2.2.2.2.2, h1.2.2.2.2]; exact h.m, by rw [h2.2.2.1, h1.2.2.1]; exact h.lk⟩
theorem Tdy.power {s : FS} {n : Nat} (h : Tdy s n) : Tdy (powerS s) n := ⟨h.len, h.m, h.lk⟩
theorem Tdy.fuse {s : FS} {n : Nat} (h : Tdy s n) (k : Int) (m : Nat) (c : Int) (hm : m < 256) : Tdy (fuseS s k m c) n := ⟨h.len, hm, h.lk⟩
theorem Tdy.newS (n : Nat) : Tdy (newS n) n := ⟨by simp [Go.Proofs.Ytiicbbhjepkndaa.newS], by simp [Go.Proofs.Ytiicbbhjepkndaa.newS], rfl⟩
theorem Tdy.lkd {s : FS} {n : Nat} (h : Tdy s n) (c : Int) : s.lkd c = false := by
  unfold FS.lkd
  rw [h.lk, List.getD_eq_getElem?_getD, List.getElem?_replicate]
  split <;> rfl
theorem opn_same (s : FS) (n a b : Nat) : (opnS s n a b).b = s.b ∧ (opnS s n a b).dn = s.dn ∧ (opnS s n a b).lf = s.lf := by
  have h1 := opnS1_b s n a
  have h2 := opnS1_b (opnS1 s n a) n b
  unfold opnS
  exact ⟨by rw [h2.1, h1.1], by rw [h2.2.1, h1.2.1], by rw [h2.2.2.2.1, h1.2.2.2.1]⟩
theorem lev_b {s s' : FS} {sec x : Nat} (h : lev s sec x) (hb : s'.b = s.b) : lev s' sec x := lev_other h fun i _ => by rw [hb]
theorem opnL_lev {s : FS} {n sec x : Nat} (hn : Tdy s n) (hs : sec < n) (hx : x ≤ 512) (h : lev s sec x) : opnL s n sec = x := by
  unfold opnL
  have hl : (s.dumpB n sec).length = 64 := by
    unfold FS.dumpB
    rw [if_pos (by omega), Int.toNat_natCast, List.length_take, List.length_drop, hn.len]
    omega
  refine lead_sector _ x hl hx fun i hi => ?_
  unfold FS.dumpB
  rw [if_pos (by omega), Int.toNat_natCast, List.getD_eq_getElem?_getD, List.getElem?_take, if_pos hi, List.getElem?_drop, ← List.getD_eq_getElem?_getD]
  exact h i hi
theorem lev_blank (n sec : Nat) (hs : sec < n) : lev (newS n) sec 0 := by
  intro i hi
  show (List.replicate (64 * n) 255).getD _ 0 = _
  rw [List.getD_eq_getElem?_getD, List.getElem?_replicate, if_pos (by omega)]
  unfold sbyte
  simp
/-- Whatever happens, each sector is of its level, or of the next one. -/
theorem clr_any {s : FS} {x y c : Nat} (h : Tdy s 27) (hx : lev s 25 x) (hy : lev s 26 y) (hcx : c + 1 = x ∨ c + 1 = x + 1) (hcy : c + 1 = y ∨ c + 1 = y + 1) (hc : c < 512) :
    ∃ x' y', lev (clrS s 27 25 26 c) 25 x' ∧ lev (clrS s 27 25 26 c) 26 y' ∧ (x' = x ∨ x' = c + 1) ∧ (y' = y ∨ y' = c + 1) := by
  have e : ∀ sec, pgAt sec c = 64 * sec + 16 * ((c + 1 - 1) / 128) := by intro sec; unfold pgAt; rw [Nat.add_sub_cancel]
  have hA := (lev_prog s 27 25 x (c + 1) h.len (by omega) hx hcx (by omega) (by omega) h.m).1
  have hB := lev_prog_other s 27 26 25 ((c + 1 - 1) / 128) y (pageT ((c + 1 - 1) % 128 + 1)) h.len (by omega) (by omega) (by omega) hy
  rw [← e 25, Nat.add_sub_cancel] at hA hB
  have h1 : Tdy (clrS1 s 27 25 c) 27 := h.prog _ _
  have hA' : ∃ x', lev (clrS1 s 27 25 c) 25 x' ∧ (x' = x ∨ x' = c + 1) := by
    rcases hA with h | h
    · exact ⟨x, h, .inl rfl⟩
    · exact ⟨c + 1, h, .inr rfl⟩
  obtain ⟨x', hx', hxx⟩ := hA'
  have hB' : lev (clrS1 s 27 25 c) 26 y := hB
  unfold clrS
  split
  · exact ⟨x', y, hx', hB', hxx, .inl rfl⟩
  · have hC := (lev_prog (clrS1 s 27 25 c) 27 26 y (c + 1) h1.len (by omega) hB' hcy (by omega) (by omega) h1.m).1
    have hD := lev_prog_other (clrS1 s 27 25 c) 27 25 26 ((c + 1 - 1) / 128) x' (pageT ((c + 1 - 1) % 128 + 1)) h1.len (by omega) (by omega) (by omega) hx'
    rw [← e 26, Nat.add_sub_cancel] at hC hD
    rcases hC with h | h
    · exact ⟨x', y, hD, h, hxx, .inl rfl⟩
    · exact ⟨x', c + 1, hD, h, hxx, .inr rfl⟩
theorem fine_prog {s : FS} {n : Nat} (h : Tdy s n) (hd : s.dn = false) (hl : s.lf = -1) (sec c : Nat) (hs : sec < n) (hc : c < 512) :
    clrE1 s n sec c = 0 ∧ (clrS1 s n sec c).dn = false ∧ (clrS1 s n sec c).lf = -1 := by
  have hP : (pageT (c % 128 + 1)).length = 16 := pageT_len _
  have h16 : ((pgAt sec c : Nat) : Int) % 16 = 0 := by unfold pgAt; omega
  have hr : 0 ≤ ((pgAt sec c : Nat) : Int) ∧ ((pgAt sec c : Nat) : Int) < 64 * n := by unfold pgAt; omega
  have hk := h.lkd (((pgAt sec c : Nat) : Int) / 64)
  refine ⟨?_, ?_⟩
  · unfold clrE1 FS.progE
    rw [hd, if_neg (by decide), if_neg (by rw [hP]; omega), if_pos hr, hk, if_neg (by decide), if_neg (by omega)]
  · unfold clrS1 FS.prog
    rw [if_pos ⟨hd, ⟨h16, hP⟩, hr, hk⟩]
    show (partS s).dn = false ∧ (partS s).lf = -1
    unfold partS
    rw [if_neg (by omega), if_neg (by omega)]
    exact ⟨hd, hl⟩
/-- Where nothing is torn both sectors are of the next level. -/
theorem clr_fine {s : FS} {x y c : Nat} (h : Tdy s 27) (hd : s.dn = false) (hl : s.lf = -1) (hx : lev s 25 x) (hy : lev s 26 y) (hcx : c + 1 = x ∨ c + 1 = x + 1) (hcy : c + 1 = y ∨ c + 1 = y + 1) (hc : c < 512) :
    clrE s 27 25 26 c = 0 ∧ (clrS s 27 25 26 c).dn = false ∧ (clrS s 27 25 26 c).lf = -1 ∧ lev (clrS s 27 25 26 c) 25 (c + 1) ∧ lev (clrS s 27 25 26 c) 26 (c + 1) := by
  have e : ∀ sec, pgAt sec c = 64 * sec + 16 * ((c + 1 - 1) / 128) := by intro sec; unfold pgAt; rw [Nat.add_sub_cancel]
  obtain ⟨e1, d1, l1⟩ := fine_prog h hd hl 25 c (by omega) hc
  have h1 : Tdy (clrS1 s 27 25 c) 27 := h.prog _ _
  obtain ⟨e2, d2, l2⟩ := fine_prog h1 d1 l1 26 c (by omega) hc
  have hA := (lev_prog s 27 25 x (c + 1) h.len (by omega) hx hcx (by omega) (by omega) h.m).2
  have hB := lev_prog_other s 27 26 25 ((c + 1 - 1) / 128) y (pageT ((c + 1 - 1) % 128 + 1)) h.len (by omega) (by omega) (by omega) hy
  rw [← e 25, Nat.add_sub_cancel] at hA hB
  have hA' : lev (clrS1 s 27 25 c) 25 (c + 1) := hA hd (h.lkd _) (by omega)
  have hB' : lev (clrS1 s 27 25 c) 26 y := hB
  have hC := (lev_prog (clrS1 s 27 25 c) 27 26 y (c + 1) h1.len (by omega) hB' hcy (by omega) (by omega) h1.m).2
  have hD := lev_prog_other (clrS1 s 27 25 c) 27 25 26 ((c + 1 - 1) / 128) (c + 1) (pageT ((c + 1 - 1) % 128 + 1)) h1.len (by omega) (by omega) (by omega) hA'
  rw [← e 26, Nat.add_sub_cancel] at hC hD
  have hC' : lev (clrS1 (clrS1 s 27 25 c) 27 26 c) 26 (c + 1) := hC d1 (h1.lkd _) (by omega)
  unfold clrE clrS
  rw [if_neg (fun h => h e1), if_neg (fun h => h e1)]
  exact ⟨e2, d2, l2, hD, hC'⟩
end Tri
