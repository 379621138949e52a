/-
  What a half says whose pages are known (plain).
  A device that no fuse burns in and no lock holds: what is wiped, laid and written on it (plain).
  What is opened of a device that is calm, or turned in one copy (plain).
  Log.Compact.
  Plain: leading bits that are 0; a tally's sectors, level by level, and what a torn program makes of them.
  tally.leading and the reference's Count: how many leading bits are 0.
  The reference's Count.
  tally.page.
  A tally as the program holds it: Count, Even, clear, Bump, Level.
  The statements' own blank() and awake().
-/
import Derived.Test.YtngkmlchblgmeaaLogB
import Derived.Test.YtngkmlchblgmeaaPak6
import Derived.Test.YtngkmlchblgmeaaPak1
import Derived.WalkKit
import Derived.Laws.BitsAllLaws
import Derived.Test.YtngkmlchblgmeaaPak7
namespace Tri
open Go Go.RowKit Go.Proofs.Ytngkmlchblgmeaa
/-- A record as a half's walk knows it. -/
def r4 (r : RecI) : R4n := ⟨r.k.toNat, r.s.toNat, 0, r.v.toNat⟩
/-- Each page holds its record in one copy at least, and none behind the last. -/
def HalfHas (s : FS) (h : Nat) (l : List RecI) : Prop :=
  ∀ p, p < 16 → (∀ r, l[p]? = some r → (pgV4 s h p).holds = true ∧ (pgV4 s h p).r = ⟨r.k.toNat, r.s.toNat, p, r.v.toNat⟩) ∧ (l.length ≤ p → (pgV4 s h p).holds = false)
/-- Are the copies alike, and blank behind the last? -/
def clB (s : FS) (h L : Nat) : Nat → Bool
  | 0 => true
  | n + 1 => if n < L then clB s h L n && (pgV4 s h n).alike else clB s h L n && (pgV4 s h n).alike && (pgV4 s h n).blank
def stA (s : FS) (h : Nat) (gen : Nat) (base more : List RecI) (n : Nat) : HS :=
  ⟨(base.take (n - 1) ++ more.take (n - (base.length + 2))).map r4, if n = 0 then 0 else gen, min n (base.length + 2 + more.length), clB s h (base.length + 2 + more.length) n, decide (base.length + 2 + more.length < n), decide (base.length + 2 ≤ n)⟩
theorem all_len (gen : Int) (base more : List RecI) : (allR gen base ++ more).length = base.length + 2 + more.length := by
  unfold allR; simp only [List.length_append, List.length_cons, List.length_nil]; omega
theorem all_beg (gen : Int) (base more : List RecI) : (allR gen base ++ more)[0]? = some (begR gen) := by unfold allR; rfl
theorem all_base (gen : Int) (base more : List RecI) (n : Nat) (hn : n < base.length) : (allR gen base ++ more)[n + 1]? = some base[n] := by
  unfold allR
  rw [List.append_assoc, List.append_assoc, List.getElem?_append_right (by simp), List.getElem?_append_left (by simpa using hn)]
  simp [hn]
theorem all_seal (gen : Int) (base more : List RecI) : (allR gen base ++ more)[base.length + 1]? = some (seaR gen) := by
  unfold allR
  rw [List.append_assoc, List.append_assoc, List.getElem?_append_right (by simp), List.getElem?_append_right (by simp)]
  simp
theorem all_more (gen : Int) (base more : List RecI) (n : Nat) (hn : n < more.length) : (allR gen base ++ more)[base.length + 2 + n]? = some more[n] := by
  have hl : (allR gen base).length = base.length + 2 := by unfold allR; simp
  rw [List.getElem?_append_right (by omega), hl, show base.length + 2 + n - (base.length + 2) = n from by omega, List.getElem?_eq_getElem hn]
theorem take_one {l : List RecI} {m : Nat} (h : m < l.length) : l.take (m + 1) = l.take m ++ [l[m]] := by
  rw [List.take_add_one, List.getElem?_eq_getElem h]; rfl
theorem runH_has (s : FS) (h : Nat) (gen : Nat) (base more : List RecI) (hH : HalfHas s h (allR gen base ++ more)) (hg : 1 ≤ gen) (hf : ∀ r ∈ base ++ more, r.k.toNat < 126) :
    ∀ n, n ≤ 16 → runH s h n = some (stA s h gen base more n)
  | 0, _ => by
    unfold stA runH clB
    rw [decide_eq_false (by omega), decide_eq_false (by omega)]
    simp
  | n + 1, hn => by
    have ih := runH_has s h gen base more hH hg hf n (by omega)
    obtain ⟨h1, h2⟩ := hH n (by omega)
    rw [runH, ih, Option.bind_some]
    rw [all_len] at h2
    unfold stepH
    by_cases hL : base.length + 2 + more.length ≤ n
    · have hh := h2 hL
      by_cases he : base.length + 2 + more.length < n
      · rw [if_pos (show (stA s h gen base more n).ended = true from decide_eq_true he)]
        unfold stA
        simp only [clB]
        rw [if_neg (show ¬ n < base.length + 2 + more.length from by omega), decide_eq_true he, decide_eq_true (show base.length + 2 + more.length < n + 1 from by omega), decide_eq_true (show base.length + 2 ≤ n from by omega), decide_eq_true (show base.length + 2 ≤ n + 1 from by omega), if_neg (show ¬ n = 0 from by omega), if_neg (show ¬ n + 1 = 0 from by omega),
          List.take_of_length_le (show base.length ≤ n - 1 from by omega), List.take_of_length_le (show base.length ≤ n + 1 - 1 from by omega), List.take_of_length_le (show more.length ≤ n - (base.length + 2) from by omega), List.take_of_length_le (show more.length ≤ n + 1 - (base.length + 2) from by omega),
          Nat.min_eq_right (show base.length + 2 + more.length ≤ n from hL), Nat.min_eq_right (show base.length + 2 + more.length ≤ n + 1 from by omega)]
      · rw [if_neg (show ¬ (stA s h gen base more n).ended = true from by show ¬ decide _ = true; rw [decide_eq_false he]; decide), if_pos hh, if_neg (show ¬ n = 0 from by omega)]
        unfold stA
        simp only [clB]
        rw [if_neg (show ¬ n < base.length + 2 + more.length from by omega), decide_eq_true (show base.length + 2 + more.length < n + 1 from by omega), decide_eq_true (show base.length + 2 ≤ n from by omega), decide_eq_true (show base.length + 2 ≤ n + 1 from by omega), if_neg (show ¬ n = 0 from by omega), if_neg (show ¬ n + 1 = 0 from by omega),
          List.take_of_length_le (show base.length ≤ n - 1 from by omega), List.take_of_length_le (show base.length ≤ n + 1 - 1 from by omega), List.take_of_length_le (show more.length ≤ n - (base.length + 2) from by omega), List.take_of_length_le (show more.length ≤ n + 1 - (base.length + 2) from by omega),
          Nat.min_eq_right (show base.length + 2 + more.length ≤ n from hL), Nat.min_eq_right (show base.length + 2 + more.length ≤ n + 1 from by omega)]
    · have he : ¬ (stA s h gen base more n).ended = true := by
        show ¬ decide _ = true
        rw [decide_eq_false (by omega)]; decide
      rw [if_neg he]
      have hcl : clB s h (base.length + 2 + more.length) (n + 1) = (clB s h (base.length + 2 + more.length) n && (pgV4 s h n).alike) := by
        rw [clB, if_pos (by omega)]
      have hm1 : min n (base.length + 2 + more.length) = n := by omega
      have hm2 : min (n + 1) (base.length + 2 + more.length) = n + 1 := by omega
      have hd2 : decide (base.length + 2 + more.length < n + 1) = false := decide_eq_false (by omega)
      have hd1 : decide (base.length + 2 + more.length < n) = false := decide_eq_false (by omega)
      rcases Nat.eq_zero_or_pos n with rfl | hn0
      · obtain ⟨hh, hr⟩ := h1 _ (all_beg gen base more)
        rw [if_neg (by rw [hh]; decide), if_pos rfl, if_neg (by rw [hr]; unfold badB begR; simp; omega)]
        unfold stA
        rw [hcl, hm2, hd2, hd1, hr]
        rw [decide_eq_false (show ¬ base.length + 2 ≤ 0 + 1 from by omega), decide_eq_false (show ¬ base.length + 2 ≤ 0 from by omega), show 0 + 1 - (base.length + 2) = 0 from by omega, show 0 - (base.length + 2) = 0 from by omega]
        simp [begR]
      · rcases Nat.lt_trichotomy n (base.length + 1) with hb | hb | hb
        · obtain ⟨m, rfl⟩ : ∃ m, n = m + 1 := ⟨n - 1, by omega⟩
          have hmb : m < base.length := by omega
          obtain ⟨hh, hr⟩ := h1 _ (all_base gen base more m hmb)
          have hk := hf base[m] (List.mem_append_left _ (List.getElem_mem hmb))
          rw [if_neg (by rw [hh]; decide), if_neg (by omega), if_neg (by rw [hr]; show ¬ (base[m].k.toNat = 127 ∧ _); omega)]
          unfold stA
          rw [hcl, hm2, hd2, hd1, hr]
          rw [decide_eq_false (show ¬ base.length + 2 ≤ m + 1 + 1 from by omega), decide_eq_false (show ¬ base.length + 2 ≤ m + 1 from by omega), show m + 1 + 1 - (base.length + 2) = 0 from by omega, show m + 1 - (base.length + 2) = 0 from by omega,
            show m + 1 + 1 - 1 = m + 1 from by omega, show m + 1 - 1 = m from by omega, take_one hmb, if_neg (by omega), if_neg (by omega), List.take_zero, List.append_nil, List.append_nil, List.map_append]
          rfl
        · subst hb
          obtain ⟨hh, hr⟩ := h1 _ (all_seal gen base more)
          rw [if_neg (by rw [hh]; decide), if_neg (by omega), if_pos ⟨by rw [hr]; rfl, by show decide _ = false; exact decide_eq_false (by omega)⟩, if_pos (by rw [hr]; show (seaR (gen : Int)).v.toNat = (if base.length + 1 = 0 then 0 else gen); rw [if_neg (by omega)]; exact Int.toNat_natCast gen)]
          unfold stA
          rw [hcl, hm2, hd2, hd1]
          rw [decide_eq_true (show base.length + 2 ≤ base.length + 1 + 1 from by omega), show base.length + 1 + 1 - (base.length + 2) = 0 from by omega, show base.length + 1 - (base.length + 2) = 0 from by omega, show base.length + 1 + 1 - 1 = base.length + 1 from by omega, show base.length + 1 - 1 = base.length from by omega,
            List.take_of_length_le (show base.length ≤ base.length + 1 from by omega), List.take_of_length_le (Nat.le_refl base.length), if_neg (by omega), if_neg (by omega)]
        · obtain ⟨m, rfl⟩ : ∃ m, n = base.length + 2 + m := ⟨n - (base.length + 2), by omega⟩
          have hmb : m < more.length := by omega
          obtain ⟨hh, hr⟩ := h1 _ (all_more gen base more m hmb)
          have hk := hf more[m] (List.mem_append_right _ (List.getElem_mem hmb))
          rw [if_neg (by rw [hh]; decide), if_neg (by omega), if_neg (by rw [hr]; show ¬ (more[m].k.toNat = 127 ∧ _); omega)]
          unfold stA
          rw [hcl, hm2, hd2, hd1, hr]
          rw [decide_eq_true (show base.length + 2 ≤ base.length + 2 + m + 1 from by omega), decide_eq_true (show base.length + 2 ≤ base.length + 2 + m from by omega), show base.length + 2 + m + 1 - (base.length + 2) = m + 1 from by omega, show base.length + 2 + m - (base.length + 2) = m from by omega,
            List.take_of_length_le (show base.length ≤ base.length + 2 + m - 1 from by omega), List.take_of_length_le (show base.length ≤ base.length + 2 + m + 1 - 1 from by omega), take_one hmb, if_neg (by omega), if_neg (by omega), ← List.append_assoc, List.map_append (l₂ := [more[m]])]
          rfl
/-- What is opened. -/
theorem outH_has (s : FS) (h : Nat) (gen : Nat) (base more : List RecI) (hH : HalfHas s h (allR gen base ++ more)) (hg : 1 ≤ gen) (hf : ∀ r ∈ base ++ more, r.k.toNat < 126) (hl : base.length + 2 + more.length ≤ 16) :
    outH (runH s h 16) = ⟨(base ++ more).map r4, gen, base.length + 2 + more.length, true, clB s h (base.length + 2 + more.length) 16⟩ := by
  rw [runH_has s h gen base more hH hg hf 16 (Nat.le_refl _)]
  unfold outH stA
  rw [List.take_of_length_le (by omega), List.take_of_length_le (by omega), if_neg (by omega), Nat.min_eq_right hl]
  simp only [decide_eq_true (show base.length + 2 ≤ 16 from by omega)]
/-- A half without a first page. -/
theorem outH_none (s : FS) (h : Nat) (hH : (pgV4 s h 0).holds = false) : outH (runH s h 16) = ⟨[], 0, 0, false, false⟩ := by
  have h1 : runH s h 1 = none := by
    rw [runH, runH, Option.bind_some]
    unfold stepH
    rw [if_neg (by decide), if_pos hH, if_pos rfl]
  rw [runH_none h1 16 (by omega)]
  rfl
end Tri

namespace Tri
open Go Go.RowKit Go.Proofs.Ytngkmlchblgmeaa
structure Calm (s : FS) : Prop where
  dn : s.dn = false
  lf : s.lf < 0
  lk : ∀ c, s.lkd c = false
  len : s.b.length = 1728
  lt : ∀ x ∈ s.b, x < 256
def FS.at_ (s : FS) (j : Nat) : Nat := s.b.getD j 0
theorem Calm.atLt {s : FS} (h : Calm s) (j : Nat) : s.at_ j < 256 := by
  unfold FS.at_
  rw [List.getD_eq_getElem?_getD]
  cases hj : s.b[j]? with
  | none => decide
  | some x => exact h.lt x (List.mem_of_getElem? hj)
theorem Calm.done {s : FS} (h : Calm s) (k : Nat) : s.done k = k := by
  unfold FS.done
  rw [if_neg (by have := h.lf; omega)]
theorem partS_calm {s : FS} (h : s.lf < 0) : (partS s).dn = s.dn ∧ (partS s).lf = s.lf := by
  unfold partS
  rw [if_neg (by omega), if_neg (by omega)]
  exact ⟨rfl, rfl⟩
theorem calm_erase {s : FS} (h : Calm s) (c : Nat) (hc : c < 27) :
    s.eraseE 27 (c : Nat) = 0 ∧ Calm (s.erase 27 (c : Nat)) ∧ ∀ j, j < 1728 → (s.erase 27 (c : Nat)).at_ j = if 64 * c ≤ j ∧ j < 64 * c + 64 then 255 else s.at_ j := by
  have hcond : s.dn = false ∧ (0 ≤ (c : Int) ∧ (c : Int) < (27 : Nat)) ∧ s.lkd (c : Nat) = false := ⟨h.dn, ⟨by omega, by omega⟩, h.lk _⟩
  have hlf := h.lf
  refine ⟨?_, ?_, ?_⟩
  · unfold FS.eraseE
    rw [h.dn, if_neg (by decide), if_pos hcond.2.1, h.lk, if_neg (by decide), if_neg (by omega)]
  · have hb : ∀ x ∈ (s.wroteB (fun _ _ => 255) (fun _ x => x ||| s.m) (64 * (c : Int).toNat) 64), x < 256 := by
      unfold FS.wroteB
      rw [if_neg (by omega)]
      exact fillB_lt h.lt fun _ _ _ => by decide
    unfold FS.erase
    rw [if_pos hcond]
    exact ⟨by show (partS s).dn = false; rw [(partS_calm hlf).1]; exact h.dn, by show (partS s).lf < 0; rw [(partS_calm hlf).2]; exact hlf,
      fun d => by have := h.lk d; unfold FS.lkd at this ⊢; show (partS s).lk.getD _ _ = _; rw [partS_lk]; exact this, by show (s.wroteB (fun _ _ => 255) (fun _ x => x ||| s.m) (64 * (c : Int).toNat) 64).length = _; rw [wroteB_length]; exact h.len, hb⟩
  · intro j hj
    unfold FS.erase
    rw [if_pos hcond]
    show (s.wroteB (fun _ _ => 255) (fun _ x => x ||| s.m) (64 * (c : Int).toNat) 64).getD j 0 = _
    rw [wroteB_at _ _ _ _ _ _ (by rw [h.len]; exact hj), h.done, Int.toNat_natCast]
    split
    · rfl
    · rw [if_neg (by omega)]; rfl
theorem calm_prog {s : FS} (h : Calm s) (a : Nat) (pg : List Nat) (ha : a % 16 = 0) (ha2 : a + 16 ≤ 1728) (hp : pg.length = 16) :
    s.progE 27 (a : Nat) pg = 0 ∧ Calm (s.prog 27 (a : Nat) pg) ∧ ∀ j, j < 1728 → (s.prog 27 (a : Nat) pg).at_ j = if a ≤ j ∧ j < a + 16 then s.at_ j &&& pg.getD (j - a) 0 else s.at_ j := by
  have hcond : s.dn = false ∧ ((a : Int) % 16 = 0 ∧ pg.length = 16) ∧ (0 ≤ (a : Int) ∧ (a : Int) < 64 * (27 : Nat)) ∧ s.lkd ((a : Int) / 64) = false := ⟨h.dn, ⟨by omega, hp⟩, ⟨by omega, by omega⟩, h.lk _⟩
  have hlf := h.lf
  refine ⟨?_, ?_, ?_⟩
  · unfold FS.progE
    rw [h.dn, if_neg (by decide), if_neg (by omega), if_pos hcond.2.2.1, h.lk, if_neg (by decide), if_neg (by omega)]
  · have hb : ∀ x ∈ (s.wroteB (fun j x => x &&& pg.getD j 0) (fun j x => x &&& (pg.getD j 0 ||| s.m)) (a : Int).toNat 16), x < 256 := by
      unfold FS.wroteB
      rw [if_neg (by omega)]
      exact fillB_lt h.lt fun j x hx => and_lt _ _ hx
    unfold FS.prog
    rw [if_pos hcond]
    exact ⟨by show (partS s).dn = false; rw [(partS_calm hlf).1]; exact h.dn, by show (partS s).lf < 0; rw [(partS_calm hlf).2]; exact hlf,
      fun d => by have := h.lk d; unfold FS.lkd at this ⊢; show (partS s).lk.getD _ _ = _; rw [partS_lk]; exact this, by show (s.wroteB (fun j x => x &&& pg.getD j 0) (fun j x => x &&& (pg.getD j 0 ||| s.m)) (a : Int).toNat 16).length = _; rw [wroteB_length]; exact h.len, hb⟩
  · intro j hj
    unfold FS.prog
    rw [if_pos hcond]
    show (s.wroteB (fun j x => x &&& pg.getD j 0) (fun j x => x &&& (pg.getD j 0 ||| s.m)) (a : Int).toNat 16).getD j 0 = _
    rw [wroteB_at _ _ _ _ _ _ (by rw [h.len]; exact hj), h.done, Int.toNat_natCast]
    split
    · rfl
    · rw [if_neg (by omega)]; rfl
/-- A half is wiped. -/
theorem calm_wipe {s : FS} (h : Calm s) (f : Nat) (hf : f < 2) : ∀ n, n ≤ 8 →
    (wipeN s f n).2 = 0 ∧ Calm (wipeN s f n).1 ∧ ∀ j, j < 1728 → (wipeN s f n).1.at_ j = if 576 + 512 * f ≤ j ∧ j < 576 + 512 * f + 64 * n then 255 else s.at_ j
  | 0, _ => ⟨rfl, h, fun j _ => by rw [if_neg (by omega)]; rfl⟩
  | n + 1, hn => by
    obtain ⟨h1, h2, h3⟩ := calm_wipe h f hf n (by omega)
    have hs : sect f n = 9 + 8 * f + n := by unfold sect halfAt; omega
    obtain ⟨k1, k2, k3⟩ := calm_erase h2 (sect f n) (by omega)
    rw [wipeN, if_neg (by omega)]
    refine ⟨k1, k2, fun j hj => ?_⟩
    rw [k3 j hj, h3 j hj, hs]
    by_cases ha : 64 * (9 + 8 * f + n) ≤ j ∧ j < 64 * (9 + 8 * f + n) + 64
    · rw [if_pos ha, if_pos (by omega)]
    · rw [if_neg ha]
      by_cases hb : 576 + 512 * f ≤ j ∧ j < 576 + 512 * f + 64 * n
      · rw [if_pos hb, if_pos (by omega)]
      · rw [if_neg hb, if_neg (by omega)]
theorem place_eq (h c p : Nat) : placeAt h c p = 576 + 512 * h + 256 * c + 16 * p := by unfold placeAt halfAt; omega
/-- A page is laid. -/
theorem calm_lay {s : FS} (h : Calm s) (f n : Nat) (pg : List Nat) (hf : f < 2) (hn : n < 16) (hp : pg.length = 16) :
    (layS s f n pg).2 = 0 ∧ Calm (layS s f n pg).1 ∧ ∀ j, j < 1728 → (layS s f n pg).1.at_ j =
      if placeAt f 0 n ≤ j ∧ j < placeAt f 0 n + 16 then s.at_ j &&& pg.getD (j - placeAt f 0 n) 0 else if placeAt f 1 n ≤ j ∧ j < placeAt f 1 n + 16 then s.at_ j &&& pg.getD (j - placeAt f 1 n) 0 else s.at_ j := by
  have e0 := place_eq f 0 n
  have e1 := place_eq f 1 n
  obtain ⟨h1, h2, h3⟩ := calm_prog h (placeAt f 0 n) pg (by omega) (by omega) hp
  obtain ⟨k1, k2, k3⟩ := calm_prog h2 (placeAt f 1 n) pg (by omega) (by omega) hp
  unfold layS
  rw [if_neg (by omega)]
  refine ⟨k1, k2, fun j hj => ?_⟩
  rw [k3 j hj, h3 j hj]
  by_cases ha : placeAt f 0 n ≤ j ∧ j < placeAt f 0 n + 16
  · rw [if_neg (by omega), if_pos ha, if_pos ha]
  · rw [if_neg ha, if_neg ha]
/-- The page that lies there, byte by byte. -/
theorem pgB_eq {s : FS} {h c p : Nat} {l : List Nat} (hs : s.b.length = 1728) (hh : h < 2) (hc : c < 2) (hp : p < 16) (hl : l.length = 16) (hb : ∀ q, q < 16 → s.at_ (placeAt h c p + q) = l.getD q 0) : pgB s h c p = l := by
  have e := place_eq h c p
  unfold pgB
  apply List.ext_getElem?
  intro q
  rw [List.getElem?_take]
  by_cases hq : q < 16
  · rw [if_pos hq, List.getElem?_drop]
    have := hb q hq
    unfold FS.at_ at this
    rw [List.getD_eq_getElem?_getD, List.getD_eq_getElem?_getD, List.getElem?_eq_getElem (by omega), List.getElem?_eq_getElem (by omega)] at this
    rw [List.getElem?_eq_getElem (by omega), List.getElem?_eq_getElem (by omega)]
    exact congrArg some this
  · rw [if_neg hq, List.getElem?_eq_none (by omega)]
theorem pgB_at {s : FS} {h c p : Nat} (hs : s.b.length = 1728) (hh : h < 2) (hc : c < 2) (hp : p < 16) (q : Nat) (hq : q < 16) : (pgB s h c p).getD q 0 = s.at_ (placeAt h c p + q) := by
  have e := place_eq h c p
  unfold pgB FS.at_
  rw [List.getD_eq_getElem?_getD, List.getD_eq_getElem?_getD, List.getElem?_take, if_pos hq, List.getElem?_drop]
/-- What a half holds, page by page, both copies alike. -/
def pageL (l : List RecI) (p : Nat) : List Nat := match l[p]? with | some r => pgI p r | none => List.replicate 16 255
def HalfIs (s : FS) (h : Nat) (l : List RecI) : Prop := ∀ c p, c < 2 → p < 16 → pgB s h c p = pageL l p
theorem pgI_len (m : Nat) (r : RecI) : (pgI m r).length = 16 := recP_len _ _ _ _
theorem halfIs_same {s s' : FS} {h : Nat} {l : List RecI} (hI : HalfIs s h l) (h1 : s.b.length = 1728) (h2 : s'.b.length = 1728) (hh : h < 2) (hb : ∀ j, 576 + 512 * h ≤ j → j < 576 + 512 * h + 512 → s'.at_ j = s.at_ j) : HalfIs s' h l := by
  intro c p hc hp
  rw [← hI c p hc hp]
  have e := place_eq h c p
  refine pgB_eq h2 hh hc hp (by unfold pgB; rw [List.length_take, List.length_drop]; omega) fun q hq => ?_
  rw [pgB_at h1 hh hc hp q hq]
  exact hb _ (by omega) (by omega)
theorem calm_wiped {s : FS} (h : Calm s) (f : Nat) (hf : f < 2) :
    (wipeN s f 8).2 = 0 ∧ Calm (wipeN s f 8).1 ∧ HalfIs (wipeN s f 8).1 f [] ∧ ∀ g l, g < 2 → g ≠ f → HalfIs s g l → HalfIs (wipeN s f 8).1 g l := by
  obtain ⟨h1, h2, h3⟩ := calm_wipe h f hf 8 (by omega)
  refine ⟨h1, h2, ?_, ?_⟩
  · intro c p hc hp
    have e := place_eq f c p
    refine pgB_eq h2.len hf hc hp rfl fun q hq => ?_
    rw [h3 _ (by omega), if_pos (by omega)]
    show 255 = (List.replicate 16 255).getD q 0
    rw [List.getD_eq_getElem?_getD, List.getElem?_replicate_of_lt hq]; rfl
  · intro g l hg hne hI
    refine halfIs_same hI h.len h2.len hg fun j j1 j2 => ?_
    rw [h3 _ (by omega), if_neg (by omega)]
theorem andFF (x : Nat) (h : x < 256) : 255 &&& x = x := by
  rw [Nat.and_comm]; exact Nat.and_two_pow_sub_one_of_lt_two_pow (n := 8) h
theorem calm_laid {s : FS} (h : Calm s) (f : Nat) (l : List RecI) (r : RecI) (hf : f < 2) (hl : l.length < 16) (hI : HalfIs s f l) :
    (layS s f l.length (pgI l.length r)).2 = 0 ∧ Calm (layS s f l.length (pgI l.length r)).1 ∧ HalfIs (layS s f l.length (pgI l.length r)).1 f (l ++ [r]) ∧ ∀ g l', g < 2 → g ≠ f → HalfIs s g l' → HalfIs (layS s f l.length (pgI l.length r)).1 g l' := by
  obtain ⟨h1, h2, h3⟩ := calm_lay h f l.length (pgI l.length r) hf hl (pgI_len _ _)
  have e0 := place_eq f 0 l.length
  have e1 := place_eq f 1 l.length
  refine ⟨h1, h2, ?_, ?_⟩
  · intro c p hc hp
    have e := place_eq f c p
    by_cases hpl : p = l.length
    · subst hpl
      have hx : pageL (l ++ [r]) l.length = pgI l.length r := by unfold pageL; rw [List.getElem?_append_right (Nat.le_refl _), Nat.sub_self]; rfl
      rw [hx]
      refine pgB_eq h2.len hf hc hp (pgI_len _ _) fun q hq => ?_
      have hold : s.at_ (placeAt f c l.length + q) = 255 := by
        rw [← pgB_at h.len hf hc hp q hq, hI c _ hc hp]
        unfold pageL
        rw [List.getElem?_eq_none (Nat.le_refl _), List.getD_eq_getElem?_getD, List.getElem?_replicate_of_lt hq]; rfl
      have hlt : (pgI l.length r).getD q 0 < 256 := by
        rw [List.getD_eq_getElem?_getD, List.getElem?_eq_getElem (by rw [pgI_len]; exact hq)]
        exact recP_lt _ _ _ _ _ (List.getElem_mem _)
      rw [h3 _ (by omega), hold]
      by_cases hc0 : c = 0
      · subst hc0
        rw [if_pos (by omega), Nat.add_sub_cancel_left, andFF _ hlt]
      · obtain rfl : c = 1 := by omega
        rw [if_neg (by omega), if_pos (by omega), Nat.add_sub_cancel_left, andFF _ hlt]
    · have hx : pageL (l ++ [r]) p = pageL l p := by
        unfold pageL
        by_cases hlt : p < l.length
        · rw [List.getElem?_append_left hlt]
        · rw [List.getElem?_eq_none (by simp; omega), List.getElem?_eq_none (by omega)]
      rw [hx, ← hI c p hc hp]
      refine pgB_eq h2.len hf hc hp (by unfold pgB; rw [List.length_take, List.length_drop, h.len]; omega) fun q hq => ?_
      rw [pgB_at h.len hf hc hp q hq, h3 _ (by omega), if_neg (by omega), if_neg (by omega)]
  · intro g l' hg hne hI'
    refine halfIs_same hI' h.len h2.len hg fun j j1 j2 => ?_
    rw [h3 _ (by omega), if_neg (by omega), if_neg (by omega)]
theorem calm_layL {s : FS} (h : Calm s) (f : Nat) (l : List RecI) (hf : f < 2) (hI : HalfIs s f []) : ∀ n, n ≤ l.length → n ≤ 16 →
    (layL s f l n).2 = 0 ∧ Calm (layL s f l n).1 ∧ HalfIs (layL s f l n).1 f (l.take n) ∧ ∀ g l', g < 2 → g ≠ f → HalfIs s g l' → HalfIs (layL s f l n).1 g l'
  | 0, _, _ => ⟨rfl, h, hI, fun _ _ _ _ h => h⟩
  | n + 1, hn, h16 => by
    obtain ⟨h1, h2, h3, h4⟩ := calm_layL h f l hf hI n (by omega) (by omega)
    have hlen : (l.take n).length = n := by rw [List.length_take]; omega
    have := calm_laid h2 f (l.take n) (l.getD n ⟨0, 0, 0, 0⟩) hf (by omega) h3
    rw [hlen] at this
    obtain ⟨k1, k2, k3, k4⟩ := this
    rw [layL, if_neg (by omega)]
    refine ⟨k1, k2, ?_, fun g l' hg hne hI' => k4 g l' hg hne (h4 g l' hg hne hI')⟩
    rw [take_one (show n < l.length from by omega)]
    rw [List.getD_eq_getElem?_getD, List.getElem?_eq_getElem (show n < l.length from by omega), Option.getD_some] at k3 ⊢
    exact k3
/-- A half is written anew. -/
theorem calm_write {s : FS} (h : Calm s) (f : Nat) (gen : Int) (base : List RecI) (hf : f < 2) (hb : base.length ≤ 14) :
    (writeS s f gen base).2 = 0 ∧ Calm (writeS s f gen base).1 ∧ HalfIs (writeS s f gen base).1 f (allR gen base) ∧ ∀ g l', g < 2 → g ≠ f → HalfIs s g l' → HalfIs (writeS s f gen base).1 g l' := by
  obtain ⟨h1, h2, h3, h4⟩ := calm_wiped h f hf
  have hl := allR_len gen base
  obtain ⟨k1, k2, k3, k4⟩ := calm_layL h2 f (allR gen base) hf h3 (base.length + 2) (by omega) (by omega)
  unfold writeS
  rw [if_neg (by omega)]
  rw [List.take_of_length_le (by omega)] at k3
  exact ⟨k1, k2, k3, fun g l' hg hne hI => k4 g l' hg hne (h4 g l' hg hne hI)⟩
theorem rep_getD (n x i : Nat) (h : i < n) : (List.replicate n x).getD i 0 = x := by
  rw [List.getD_eq_getElem?_getD, List.getElem?_replicate_of_lt h]; rfl
theorem calm_new : Calm (newS 27) := ⟨rfl, by decide, fun c => by
    unfold FS.lkd newS
    show (List.replicate 27 false).getD _ _ = false
    rw [List.getD_eq_getElem?_getD, List.getElem?_replicate]
    split <;> rfl, List.length_replicate, fun x hx => by unfold newS at hx; simp only [List.mem_replicate] at hx; omega⟩
theorem new_len : (newS 27).b.length = 1728 := List.length_replicate
theorem new_at (j : Nat) (h : j < 1728) : (newS 27).at_ j = 255 := rep_getD (64 * 27) 255 j h
theorem new_blank (h : Nat) (hh : h < 2) : HalfIs (newS 27) h [] := by
  intro c p hc hp
  have e := place_eq h c p
  have hq2 : ∀ q, q < 16 → (newS 27).at_ (placeAt h c p + q) = (List.replicate 16 255).getD q 0 := by
    intro q hq
    rw [new_at _ (by omega), rep_getD 16 255 q hq]
  exact pgB_eq new_len hh hc hp List.length_replicate hq2
/-- A log is laid. -/
theorem calm_format {s : FS} (h : Calm s) (base : List RecI) (hf : fitsE base = 0) :
    (formatS s base).2 = 0 ∧ Calm (formatS s base).1 ∧ HalfIs (formatS s base).1 0 (allR 1 base) ∧ HalfIs (formatS s base).1 1 [] := by
  obtain ⟨h1, h2, h3, h4⟩ := calm_wiped h 1 (by omega)
  obtain ⟨-, hbl⟩ := fitsE_zero hf
  obtain ⟨k1, k2, k3, k4⟩ := calm_write h2 0 1 base (by omega) (by omega)
  have k5 := k4 1 [] (by omega) (by omega) h3
  clear k4 h4 h3 h
  unfold formatS
  generalize wipeN s 1 8 = x at *
  generalize writeS x.1 0 1 base = y at *
  rw [if_neg (not_not_intro hf), if_neg (not_not_intro h1)]
  exact ⟨congrArg Int.ofNat k1, k2, k3, k5⟩
end Tri

namespace Tri
open Go Go.RowKit Go.Proofs.Ytngkmlchblgmeaa
theorem getOk_blank : getOk (List.replicate 16 255) = false := by
  have h : pgK (List.replicate 16 255) = 255 := by decide
  unfold getOk
  rw [h]
  unfold recOk
  rw [decide_eq_false (show ¬ (0 ≤ ((255 : Nat) : Int) ∧ ((255 : Nat) : Int) ≤ 127) from by omega)]
  rfl
theorem recOk_any {k s v : Int} (h : recOk k s 0 v = true) (p : Nat) (hp : p < 16) : getOk (recP k.toNat s.toNat p v.toNat) = true ∧ rOf (recP k.toNat s.toNat p v.toNat) = ⟨k.toNat, s.toNat, p, v.toNat⟩ ∧ oneB p (recP k.toNat s.toNat p v.toNat) = true := by
  obtain ⟨k', s', n', v', rfl, rfl, -, rfl, h1, h2, h3, h4⟩ := recOk_nat h
  obtain ⟨e1, e2, e3, e4⟩ := pg_recP k' s' p v' h1 h2 (by omega) h4
  have e5 := getOk_recP k' s' p v' h1 h2 (by omega) h4
  rw [Int.toNat_natCast, Int.toNat_natCast, Int.toNat_natCast]
  refine ⟨e5, ?_, ?_⟩
  · unfold rOf; rw [e1, e2, e3, e4]
  · unfold oneB; rw [e5, e3]; simp
/-- Pages of which one copy is its record's, the other likewise or none's. -/
structure PgHas (s : FS) (h p : Nat) (x : List Nat) : Prop where
  one : oneB p x = true
  cp : ∀ c, c < 2 → pgB s h c p = x ∨ getOk (pgB s h c p) = false
  some : pgB s h 0 p = x ∨ pgB s h 1 p = x
theorem oneB_bad {p : Nat} {x : List Nat} (h : getOk x = false) : oneB p x = false := by unfold oneB; rw [h]; rfl
theorem PgHas.v4 {s : FS} {h p : Nat} {x : List Nat} (hP : PgHas s h p x) : (pgV4 s h p).holds = true ∧ (pgV4 s h p).r = rOf x := by
  unfold pgV4
  have h0 := hP.cp 0 (by omega)
  have h1 := hP.cp 1 (by omega)
  rcases h0 with h0 | h0
  · rw [h0]
    exact ⟨by simp only [hP.one, Bool.true_or], stpR_t hP.one⟩
  · have hx : pgB s h 1 p = x := by
      rcases hP.some with h2 | h2
      · exfalso
        have := hP.one
        rw [← h2, oneB_bad h0] at this; cases this
      · exact h2
    rw [hx]
    refine ⟨by simp only [hP.one, Bool.or_true], ?_⟩
    show stpR p (pgB s h 0 p) (stpR p x ⟨0, 0, 0, 0⟩) = _
    rw [stpR_f (oneB_bad h0), stpR_t hP.one]
theorem halfIs_has {s : FS} {h : Nat} {l : List RecI} (hI : HalfIs s h l) (hok : ∀ r ∈ l, recOk r.k r.s 0 r.v = true) : HalfHas s h l := by
  intro p hp
  refine ⟨fun r hr => ?_, fun hl => ?_⟩
  · have hx : pageL l p = pgI p r := by unfold pageL; rw [hr]
    obtain ⟨h1, h2, h3⟩ := recOk_any (hok r (List.mem_of_getElem? hr)) p hp
    have hP : PgHas s h p (pgI p r) := ⟨h3, fun c hc => .inl ((hI c p hc hp).trans hx), .inl ((hI 0 p (by omega) hp).trans hx)⟩
    exact ⟨hP.v4.1, hP.v4.2.trans h2⟩
  · have hx : pageL l p = List.replicate 16 255 := by unfold pageL; rw [List.getElem?_eq_none hl]
    unfold pgV4
    rw [hI 0 p (by omega) hp, hI 1 p (by omega) hp, hx]
    show (oneB p (List.replicate 16 255) || oneB p (List.replicate 16 255)) = false
    rw [oneB_bad getOk_blank]; rfl
theorem halfIs_clean {s : FS} {h : Nat} {l : List RecI} (hI : HalfIs s h l) : ∀ n, n ≤ 16 → clB s h l.length n = true
  | 0, _ => rfl
  | n + 1, hn => by
    have ih := halfIs_clean hI n (by omega)
    have ha : (pgV4 s h n).alike = true := by
      unfold pgV4
      rw [hI 0 n (by omega) (by omega), hI 1 n (by omega) (by omega)]
      exact decide_eq_true rfl
    rw [clB, ih, ha]
    split
    · rfl
    · have hx : pageL l n = List.replicate 16 255 := by unfold pageL; rw [List.getElem?_eq_none (by omega)]
      have hb : (pgV4 s h n).blank = true := by
        unfold pgV4
        rw [hI 0 n (by omega) (by omega), hI 1 n (by omega) (by omega), hx]
        show (blankB (List.replicate 16 255) && blankB (List.replicate 16 255)) = true
        decide
      rw [hb]; rfl
theorem allR_oks {gen : Int} {base more : List RecI} (hg : 1 ≤ gen ∧ gen ≤ 281474976710655) (hb : (base ++ more).all fitB = true) : ∀ r ∈ allR gen base ++ more, recOk r.k r.s 0 r.v = true := by
  intro r hr
  unfold allR at hr
  simp only [List.mem_append, List.mem_singleton] at hr
  have hf : ∀ r ∈ base ++ more, recOk r.k r.s 0 r.v = true := fun r hr => (fitB_ok (List.all_eq_true.1 hb r hr) 0 (by omega)).1
  rcases hr with ((rfl | hr) | rfl) | hr
  · unfold begR recOk; simp; omega
  · exact hf r (List.mem_append_left _ hr)
  · unfold seaR recOk; simp; omega
  · exact hf r (List.mem_append_right _ hr)
theorem fit_lt {l : List RecI} (hb : l.all fitB = true) : ∀ r ∈ l, r.k.toNat < 126 := by
  intro r hr
  have := (fitB_ok (List.all_eq_true.1 hb r hr) 0 (by omega)).2
  omega
theorem r4_z0 {r : RecI} (h : fitB r = true) : (r4 r).toI = z0 r := by
  obtain ⟨k', s', n', v', e1, e2, -, e4, -⟩ := recOk_nat (fitB_ok h 0 (by omega)).1
  unfold r4 R4n.toI z0
  rw [e1, e2, e4]
  simp
theorem map_r4 {l : List RecI} (hb : l.all fitB = true) : (l.map r4).map R4n.toI = l.map z0 := by
  rw [List.map_map]
  exact List.map_congr_left fun r hr => r4_z0 (List.all_eq_true.1 hb r hr)
/-- A half that is as it was written. -/
theorem outH_is (s : FS) (h : Nat) (gen : Nat) (base more : List RecI) (hI : HalfIs s h (allR gen base ++ more)) (hg : 1 ≤ gen ∧ gen ≤ 281474976710655) (hb : (base ++ more).all fitB = true) (hl : base.length + 2 + more.length ≤ 16) :
    outH (runH s h 16) = ⟨(base ++ more).map r4, gen, base.length + 2 + more.length, true, true⟩ := by
  rw [outH_has s h gen base more (halfIs_has hI (allR_oks (by omega) hb)) hg.1 (fit_lt hb) hl]
  have := halfIs_clean hI 16 (Nat.le_refl _)
  rw [all_len] at this
  rw [this]
theorem outH_blank (s : FS) (h : Nat) (hI : HalfIs s h []) : outH (runH s h 16) = ⟨[], 0, 0, false, false⟩ :=
  outH_none s h (((halfIs_has hI (fun _ h => nomatch h)) 0 (by omega)).2 (Nat.le_refl _))
end Tri

namespace Tri
open Go Go.RowKit Go.Proofs.Ytngkmlchblgmeaa
/-- A log is laid anew in its other half. -/
def compactS (s : FS) (at_ : Nat) (gen : Int) (base : List RecI) : FS × Int :=
  if fitsE base ≠ 0 then (s, fitsE base) else if 281474976710655 ≤ gen then (s, 9) else ((writeS s (1 - at_) (gen + 1) base).1, ((writeS s (1 - at_) (gen + 1) base).2 : Nat))
end Tri
namespace Go.Proofs.Ytngkmlchblgmeaa
open Go.RowKit Tri

def CmpPost (i : DI) (s : FS) (L S at_ : Nat) (rs : Value) (recs : List RecI) (gen : Int) (used : Nat) (holds clean : Bool) (b0 : Nat) (base : List RecI) (w : World) (e : Ending) (w' : World) : Prop :=
  e = .returned (.int .i64 (compactS s at_ gen base).2) ∧ OutL i.lo i.hi L w w' ∧ DevP w' i 27 (compactS s at_ gen base).1 ∧
  ((compactS s at_ gen base).2 ≠ 0 → LogP i L S at_ rs recs gen used holds (if fitsE base = 0 ∧ gen < 281474976710655 then false else clean) b0 w') ∧
  ((compactS s at_ gen base).2 = 0 → ∃ rv, LogP i L S (1 - at_) rv (base.map z0) (gen + 1) (base.length + 2) true true w.heap.size w')
set_option maxHeartbeats 8000000 in
set_option maxRecDepth 100000 in
theorem log_Compact (i : DI) (s : FS) (L S at_ : Nat) (rs : Value) (recs : List RecI) (gen : Int) (used : Nat) (holds clean : Bool) (b0 : Nat) (base : List RecI) (p : Option Addr) (c : Nat) (w : World) (hD : DevP w i 27 s) (hP : LogP i L S at_ rs recs gen used holds clean b0 w) (hat : at_ < 2) (hg : 0 ≤ gen ∧ gen ≤ 281474976710655)
    (hb : cellsG w p 4 (base.map rcC)) (ho : offL base p i.lo i.hi) (hbl : base.length ≤ 100000) (hbc : base.length ≤ c) :
    Calls Try.prog 20 #[.pointer (some ⟨L, 0, none⟩), .slice p base.length c] w fun e w' =>
      CmpPost i s L S at_ rs recs gen used holds clean b0 base w e w' := by
  have HD := hid hD
  have HP := hid hP
  have HBC := hid hb
  have HOF := hid ho
  have HB := hid (Below.refl w.heap.size w)
  have hih : i.hi ≤ w.heap.size := hD.hi
  have HFS : Hid (compactS s at_ gen base = if fitsE base ≠ 0 then (s, fitsE base) else if 281474976710655 ≤ gen then (s, 9) else ((writeS s (1 - at_) (gen + 1) base).1, ((writeS s (1 - at_) (gen + 1) base).2 : Nat))) := rfl
  have hLt := hP.hw.hL.lt
  have hSt := hP.hw.hS.lt
  clear hD hP hb ho
  (go_enter Try.func20, Try.ntmps20; try simp only [List.append])
  go_wp2_with ((with_reducible refine wpList_unguard ?_ ?_); (focus rfl))
  refine Calls.mono (log_fits p base.length c base w rfl hbl hbc HBC.out) ?_; rintro e w3 ⟨rfl, hb⟩
  replace HP := hid (HP.out.below hb)
  replace HD := hid (HD.out.below hb)
  replace HBC := hid (HBC.out.below hb)
  replace HB := hid (HB.out.trans (hb.mono HB.out.size))
  clear hb
  obtain ⟨fe, hfe⟩ : ∃ fe, fitsE base = fe := ⟨_, rfl⟩
  rw [hfe] at HFS ⊢
  have HFE := hid hfe
  clear hfe
  by_cases hf0 : fe = 0
  · subst hf0
    rw [if_neg (by simp)] at HFS
    obtain ⟨hfit, hl12⟩ := fitsE_zero HFE.out
    have HFT := hid hfit
    clear hfit
    have l2 : w3.cell? ⟨L, 2, none⟩ = some (.int .i64 gen) := HP.out.hw.hL.cell 2 _ rfl
    by_cases hgm : 281474976710655 ≤ gen
    · rw [if_pos hgm] at HFS
      have qg : decide (281474976710655 ≤ gen) = true := decide_eq_true hgm
      go_wp2_with ((with_reducible refine wpList_unguard ?_ ?_); (focus rfl))
      go_ret
      unfold CmpPost
      rw [HFS.out, HFE.out]
      refine ⟨rfl, OutL.of (Out.of HB.out), HD.out, fun _ => ?_, fun h => by simp at h⟩
      rw [if_neg (by omega)]
      exact HP.out
    · rw [if_neg hgm] at HFS
      have qg : decide (281474976710655 ≤ gen) = false := decide_eq_false hgm
      go_wp2_with ((with_reducible refine wpList_unguard ?_ ?_); (focus rfl))
      (refine wp_region_stg2 13 [] [13, 14] (fun u => Below w3.heap.size w3 u) (by kernel_rfl) (by kernel_rfl) (by intro t v c a w h; cases t <;> exact h) ((Below.refl _ _).drew) ?_; (simp only [List.take_succ_cons, List.take_zero, List.map_cons, List.map_nil, stOf, opAt, List.getD_cons_zero, List.getD_cons_succ]); (repeat (first | go_big_quiet_skip | (go_big_quiet_want; first | (go_big_quiet_op; go_big_quiet_on) | (apply Exists.intro; refine And.intro (fun wq hq => ?_) ?_; (focus ((have q10 : wq.cell? ⟨L, 10, none⟩ = some (.int .i64 (at_ : Nat)) := (HP.out.hw.hL.below hq).cell 10 _ rfl; have q2 : wq.cell? ⟨L, 2, none⟩ = some (.int .i64 gen) := (HP.out.hw.hL.below hq).cell 2 _ rfl); (try go_simp); first | done | rfl | (fail))); go_simp; go_big_quiet_on)))); refine quietC_nil _ rfl ?_; intro wE hE; unfold wpSt)
      replace HP := hid (HP.out.below hE)
      replace HD := hid (HD.out.below hE)
      replace HBC := hid (HBC.out.below hE)
      replace HB := hid (HB.out.trans (hE.mono HB.out.size))
      clear hE l2
      have e1 : (1 : Int) - (at_ : Nat) = ((1 - at_ : Nat) : Int) := by omega
      go_wp2_with ((with_reducible refine wpList_unguard ?_ ?_); (focus rfl))
      rw [e1]
      refine Calls.mono (log_write i s L S at_ rs gen used holds clean (1 - at_) (gen + 1) base p c wE HD.out HP.out.hw (by omega) HBC.out HOF.out hl12 hbc HFT.out (by omega)) ?_; rintro e w5 ⟨rfl, hd, hoL, hbad, hgood⟩
      have hz5 := HB.out.size
      have hOL : OutL i.lo i.hi L w w5 := (OutL.of (Out.of HB.out)).trans hoL
      have hS5 : isC w5 S := by
        have h1 := HP.out.hw.hS
        unfold isC at h1 ⊢
        rw [hoL.block S (Array.getElem?_eq_some_iff.1 h1).1 HP.out.hw.hSo (HP.out.ne)]
        exact h1
      have hJ5 : recJ w5 b0 rs recs := HP.out.hj.keep fun g h1 h2 _ => hoL.block g h2 (.inr (Nat.le_trans HP.out.hi h1)) (by have := HP.out.hL; omega)
      have HOL := hid hOL
      have HS5 := hid hS5
      have HJ5 := hid hJ5
      replace HD := hid hd
      have HBAD := hid hbad
      have HGOOD := hid hgood
      have HP0 := hid HP.out
      clear hd hoL hbad hgood hOL hS5 hJ5 e1
      obtain ⟨⟨s2, e2⟩, hwr⟩ : ∃ x, writeS s (1 - at_) (gen + 1) base = x := ⟨_, rfl⟩
      rw [hwr] at HD HFS HBAD HGOOD ⊢
      clear hwr
      by_cases he2 : e2 = 0
      · subst he2
        go_wp2_with ((with_reducible refine wpList_unguard ?_ ?_); (focus rfl))
        go_ret
        unfold CmpPost
        rw [HFS.out]
        refine ⟨rfl, HOL.out, HD.out, fun h => absurd rfl h, fun _ => ?_⟩
        obtain ⟨rv, hb1, hb2⟩ := HGOOD.out (by simp)
        exact ⟨rv, ⟨hb1, HS5.out, HP0.out.hw.hLo, HP0.out.hw.hSo⟩, hb2.weak hz5, hLt, hSt, hih, HP0.out.ne⟩
      · have q2 : ((e2 : Int) != 0) = true := by rw [bne_iff_ne]; omega
        have hb5 := HBAD.out he2
        have HB5 := hid hb5
        have l5 : w5.cell? ⟨L, 5, none⟩ = some (.bool clean) := hb5.cell 5 _ rfl
        have f5 := hb5.free 5
        have hbz : Blk (w5.setCell ⟨L, 5, none⟩ (.bool false)) L 102 (logC i.D S at_ rs gen used holds false) := hb5.set 5 (.bool false)
        have HBZ := hid hbz
        clear hb5 hbz
        go_wp2_with ((with_reducible refine wpList_unguard ?_ ?_); (focus rfl))
        go_ret
        unfold CmpPost
        rw [HFS.out, HFE.out]
        refine ⟨rfl, HOL.out.set 5 _, HD.out.setLog L 5 _ HP0.out.hw.hLo, fun _ => ?_, fun h => absurd h (by simpa using he2)⟩
        rw [if_pos ⟨rfl, by omega⟩]
        have hSz : isC (w5.setCell ⟨L, 5, none⟩ (.bool false)) S := by
          have h3 := HS5.out
          unfold isC at h3 ⊢
          rw [heap_setCell_other _ _ S _ HP0.out.ne]; exact h3
        exact ⟨⟨HBZ.out, hSz, HP0.out.hw.hLo, HP0.out.hw.hSo⟩, HJ5.out.set L 5 _ HP0.out.hL, HP0.out.hL, HP0.out.hS, HP0.out.hi, HP0.out.ne⟩
  · have q1 : (fe != 0) = true := by rw [bne_iff_ne]; exact hf0
    rw [if_pos hf0] at HFS
    go_wp2_with ((with_reducible refine wpList_unguard ?_ ?_); (focus rfl))
    go_ret
    unfold CmpPost
    rw [HFS.out, HFE.out]
    refine ⟨rfl, OutL.of (Out.of HB.out), HD.out, fun _ => ?_, fun h => absurd h hf0⟩
    rw [if_neg (by intro h; exact hf0 h.1)]
    exact HP.out
end Go.Proofs.Ytngkmlchblgmeaa

namespace Tri
open Go Go.RowKit
def bits8 (c : Nat) : List Nat := (List.range 8).map fun j => c / 2 ^ (7 - j) % 2
def bitsL (l : List Nat) : List Nat := l.flatMap bits8
def lead (l : List Nat) : Nat := ((bitsL l).takeWhile (· == 0)).length
theorem bits8_len (c : Nat) : (bits8 c).length = 8 := by simp [bits8]
theorem bitsL_len (l : List Nat) : (bitsL l).length = 8 * l.length := by
  induction l with
  | nil => rfl
  | cons c l ih => unfold bitsL at *; rw [List.flatMap_cons, List.length_append, ih, bits8_len, List.length_cons]; omega
theorem bits8_at (c j : Nat) (h : j < 8) : (bits8 c).getD j 0 = c / 2 ^ (7 - j) % 2 := by
  unfold bits8
  rw [List.getD_eq_getElem?_getD, List.getElem?_map, List.getElem?_range h]
  rfl
theorem bitsL_at (l : List Nat) : ∀ (i j : Nat), i < l.length → j < 8 → (bitsL l).getD (8 * i + j) 0 = l.getD i 0 / 2 ^ (7 - j) % 2 := by
  induction l with
  | nil => intro i j hi; simp at hi
  | cons c l ih =>
    intro i j hi hj
    have e : bitsL (c :: l) = bits8 c ++ bitsL l := by unfold bitsL; rw [List.flatMap_cons]
    rw [e]
    cases i with
    | zero =>
      have := bits8_at c j hj
      rw [List.getD_eq_getElem?_getD] at this ⊢
      rw [List.getElem?_append_left (by rw [bits8_len]; omega), show 8 * 0 + j = j from by omega]
      exact this
    | succ i =>
      have := ih i j (by simpa using hi) hj
      rw [List.getD_eq_getElem?_getD] at this ⊢
      rw [List.getElem?_append_right (by rw [bits8_len]; omega), bits8_len, show 8 * (i + 1) + j - 8 = 8 * i + j from by omega, this]
      rfl
theorem takeWhile_len (l : List Nat) : ∀ n, (∀ m, m < n → l.getD m 1 = 0) → (n = l.length ∨ (n < l.length ∧ l.getD n 0 ≠ 0)) → (l.takeWhile (· == 0)).length = n := by
  induction l with
  | nil => intro n _ h; rcases h with h | h <;> simp at h ⊢ <;> omega
  | cons c l ih =>
    intro n h1 h2
    cases n with
    | zero =>
      have hc : c ≠ 0 := by
        rcases h2 with h | h
        · simp at h
        · exact h.2
      rw [List.takeWhile_cons, if_neg (by simpa using hc)]
      rfl
    | succ n =>
      have hc : c = 0 := h1 0 (by omega)
      rw [List.takeWhile_cons, if_pos (by simp [hc]), List.length_cons]
      congr 1
      refine ih n (fun m hm => h1 (m + 1) (by omega)) ?_
      rcases h2 with h | h
      · exact .inl (by simpa using h)
      · exact .inr ⟨by simpa using h.1, h.2⟩
/-- What is told of the leading bits. -/
theorem lead_of (l : List Nat) (n : Nat) (hn : n ≤ 8 * l.length) (h1 : ∀ m, m < n → l.getD (m / 8) 0 / 2 ^ (7 - m % 8) % 2 = 0) (h2 : n = 8 * l.length ∨ l.getD (n / 8) 0 / 2 ^ (7 - n % 8) % 2 = 1) : lead l = n := by
  have hat : ∀ m, m < 8 * l.length → (bitsL l)[m]? = some (l.getD (m / 8) 0 / 2 ^ (7 - m % 8) % 2) := by
    intro m hm
    have := bitsL_at l (m / 8) (m % 8) (by omega) (by omega)
    rw [show 8 * (m / 8) + m % 8 = m from by omega, List.getD_eq_getElem?_getD] at this
    have hl : m < (bitsL l).length := by rw [bitsL_len]; exact hm
    rw [List.getElem?_eq_getElem hl] at this ⊢
    exact congrArg some this
  refine takeWhile_len _ n (fun m hm => ?_) ?_
  · rw [List.getD_eq_getElem?_getD, hat m (by omega), h1 m hm]
    rfl
  · by_cases he : n = 8 * l.length
    · exact .inl (by rw [bitsL_len]; exact he)
    · refine .inr ⟨by rw [bitsL_len]; omega, ?_⟩
      rw [List.getD_eq_getElem?_getD, hat n (by omega)]
      rcases h2 with h | h
      · exact absurd h he
      · rw [h]; decide
theorem lead_le (l : List Nat) : lead l ≤ 8 * l.length := by
  unfold lead
  rw [← bitsL_len]
  exact (List.takeWhile_sublist _).length_le
/-- A byte of a sector in which so many bits are cleared. -/
def sbyte (x i : Nat) : Nat := 255 / 2 ^ (min (x - 8 * i) 8)
theorem sbyte_lt (x i : Nat) : sbyte x i < 256 := by
  unfold sbyte
  exact Nat.lt_of_le_of_lt (Nat.div_le_self _ _) (by decide)
def pageT (c : Nat) : List Nat := (List.range 16).map (sbyte c)
theorem pageT_len (c : Nat) : (pageT c).length = 16 := by simp [pageT]
theorem pageT_at (c j : Nat) (h : j < 16) : (pageT c).getD j 0 = sbyte c j := by
  unfold pageT
  rw [List.getD_eq_getElem?_getD, List.getElem?_map, List.getElem?_range h]
  rfl
theorem pageT_lt (c : Nat) : ∀ y ∈ pageT c, y < 256 := by
  intro y hy
  unfold pageT at hy
  obtain ⟨j, _, rfl⟩ := List.mem_map.1 hy
  exact sbyte_lt c j
theorem sbit : ∀ k, k ≤ 8 → ∀ j, j < 8 → 255 / 2 ^ k / 2 ^ (7 - j) % 2 = if j < k then 0 else 1 := by decide
theorem lead_sector (l : List Nat) (x : Nat) (hl : l.length = 64) (hx : x ≤ 512) (h : ∀ i, i < 64 → l.getD i 0 = sbyte x i) : lead l = x := by
  refine lead_of l x (by omega) (fun m hm => ?_) ?_
  · rw [h (m / 8) (by omega)]
    unfold sbyte
    rw [sbit _ (by omega) _ (by omega), if_pos (by omega)]
  · by_cases he : x = 512
    · exact .inl (by omega)
    · right
      rw [h (x / 8) (by omega)]
      unfold sbyte
      rw [sbit _ (by omega) _ (by omega), if_neg (by omega)]
theorem sand : ∀ a, a ≤ 8 → ∀ b, b ≤ 8 → a ≤ b → 255 / 2 ^ a &&& 255 / 2 ^ b = 255 / 2 ^ b := by decide
theorem sbyte_and (x c i : Nat) (h : x ≤ c) : sbyte x i &&& sbyte c i = sbyte c i := by
  unfold sbyte
  exact sand _ (by omega) _ (by omega) (by omega)
set_option maxRecDepth 100000 in
theorem storn : ∀ r, r < 8 → ∀ m, m < 256 → (255 / 2 ^ r &&& (255 / 2 ^ (r + 1) ||| m) = 255 / 2 ^ r ∨ 255 / 2 ^ r &&& (255 / 2 ^ (r + 1) ||| m) = 255 / 2 ^ (r + 1)) := by decide +kernel
theorem and_or_self (u m : Nat) : u &&& (u ||| m) = u := by
  apply Nat.eq_of_testBit_eq
  intro i
  rw [Nat.testBit_and, Nat.testBit_or]
  cases u.testBit i <;> simp
theorem sbyte_same (x c i : Nat) (hc : c = x ∨ (c = x + 1 ∧ i ≠ x / 8)) : sbyte x i = sbyte c i := by
  rcases hc with rfl | ⟨rfl, hi⟩
  · rfl
  · unfold sbyte
    congr 2
    omega
theorem sbyte_torn (x c i m : Nat) (hc : c = x ∨ c = x + 1) (hm : m < 256) : sbyte x i &&& (sbyte c i ||| m) = sbyte x i ∨ sbyte x i &&& (sbyte c i ||| m) = sbyte c i := by
  by_cases h : sbyte x i = sbyte c i
  · left; rw [← h]; exact and_or_self _ _
  · have h2 : c = x + 1 ∧ i = x / 8 := by
      rcases hc with rfl | rfl
      · exact absurd rfl h
      · refine ⟨rfl, Classical.byContradiction fun hi => h (sbyte_same x (x + 1) i (.inr ⟨rfl, hi⟩))⟩
    obtain ⟨rfl, rfl⟩ := h2
    have e1 : min (x - 8 * (x / 8)) 8 = x % 8 := by omega
    have e2 : min (x + 1 - 8 * (x / 8)) 8 = x % 8 + 1 := by omega
    unfold sbyte
    rw [e1, e2]
    exact storn (x % 8) (Nat.mod_lt _ (by omega)) m hm
/-- A sector in which the first x bits are cleared, and no other. -/
def lev (s : FS) (sec x : Nat) : Prop := ∀ i, i < 64 → s.b.getD (64 * sec + i) 0 = sbyte x i
theorem lev_other {s s' : FS} {sec x : Nat} (h : lev s sec x) (he : ∀ i, i < 64 → s'.b.getD (64 * sec + i) 0 = s.b.getD (64 * sec + i) 0) : lev s' sec x := fun i hi => (he i hi).trans (h i hi)
/-- A program of the page that lets a sector be of level c: it is of its level, or of c; and, not torn, of c. -/
theorem lev_prog (s : FS) (n sec x c : Nat) (hb : s.b.length = 64 * n) (hs : sec < n) (hx : lev s sec x) (hc : c = x ∨ c = x + 1) (h1 : 1 ≤ c) (h512 : c ≤ 512) (hm : s.m < 256) :
    (lev (s.prog n ((64 * sec + 16 * ((c - 1) / 128) : Nat) : Int) (pageT ((c - 1) % 128 + 1))) sec x ∨ lev (s.prog n ((64 * sec + 16 * ((c - 1) / 128) : Nat) : Int) (pageT ((c - 1) % 128 + 1))) sec c) ∧
    (s.dn = false → s.lkd (((64 * sec + 16 * ((c - 1) / 128) : Nat) : Int) / 64) = false → s.lf ≠ 0 → lev (s.prog n ((64 * sec + 16 * ((c - 1) / 128) : Nat) : Int) (pageT ((c - 1) % 128 + 1))) sec c) := by
  obtain ⟨p, hp⟩ : ∃ p, (c - 1) / 128 = p := ⟨_, rfl⟩
  obtain ⟨c', hc'⟩ : ∃ c', (c - 1) % 128 + 1 = c' := ⟨_, rfl⟩
  rw [hp, hc']
  have hcp : c = 128 * p + c' := by omega
  have hp4 : p < 4 := by omega
  have hpg : ∀ j, j < 16 → (pageT c').getD j 0 = sbyte c (16 * p + j) := by
    intro j hj
    rw [pageT_at c' j hj]
    unfold sbyte
    congr 2
    omega
  by_cases hc0 : s.dn = false ∧ (((64 * sec + 16 * p : Nat) : Int) % 16 = 0 ∧ (pageT c').length = 16) ∧ (0 ≤ ((64 * sec + 16 * p : Nat) : Int) ∧ ((64 * sec + 16 * p : Nat) : Int) < 64 * n) ∧ s.lkd (((64 * sec + 16 * p : Nat) : Int) / 64) = false
  · have hq : s.prog n ((64 * sec + 16 * p : Nat) : Int) (pageT c') = { partS s with b := s.wroteB (fun j x => x &&& (pageT c').getD j 0) (fun j x => x &&& ((pageT c').getD j 0 ||| s.m)) (64 * sec + 16 * p) 16 } := by
      unfold FS.prog
      rw [if_pos hc0, Int.toNat_natCast]
    rw [hq]
    have hat : ∀ i, i < 64 → (s.wroteB (fun j x => x &&& (pageT c').getD j 0) (fun j x => x &&& ((pageT c').getD j 0 ||| s.m)) (64 * sec + 16 * p) 16).getD (64 * sec + i) 0 =
        if 16 * p ≤ i ∧ i < 16 * p + s.done 16 then sbyte c i else if s.lf = 0 ∧ i = 16 * p + s.done 16 ∧ s.done 16 < 16 then sbyte x i &&& (sbyte c i ||| s.m) else sbyte x i := by
      intro i hi
      have hdl := s.done_le 16
      rw [wroteB_at _ _ _ _ _ _ (by omega), hx i hi]
      by_cases h1 : 16 * p ≤ i ∧ i < 16 * p + s.done 16
      · rw [if_pos (by omega), if_pos h1, hpg _ (by omega), show 16 * p + (64 * sec + i - (64 * sec + 16 * p)) = i from by omega, sbyte_and x c i (by omega)]
      · rw [if_neg (by omega), if_neg h1]
        by_cases h2 : s.lf = 0 ∧ i = 16 * p + s.done 16 ∧ s.done 16 < 16
        · rw [if_pos (by omega), if_pos h2, hpg _ (by omega), show 16 * p + (64 * sec + i - (64 * sec + 16 * p)) = i from by omega]
        · rw [if_neg (by omega), if_neg h2]
    generalize s.wroteB (fun j x => x &&& (pageT c').getD j 0) (fun j x => x &&& ((pageT c').getD j 0 ||| s.m)) (64 * sec + 16 * p) 16 = W at *
    have hout : ∀ i, i < 64 → ¬ (16 * p ≤ i ∧ i < 16 * p + 16) → sbyte x i = sbyte c i := by
      intro i hi ho
      exact sbyte_same x c i (by rcases hc with h | h; exact .inl h; exact .inr ⟨h, by omega⟩)
    refine ⟨?_, ?_⟩
    · -- the one byte that may be another one
      rcases hc with rfl | hc
      · left
        intro i hi
        show W.getD _ 0 = _
        rw [hat i hi]
        split
        · rfl
        · split
          · exact and_or_self _ _
          · rfl
      · have hi0 : x / 8 < 64 := by omega
        have hval : ∀ i, i < 64 → i ≠ x / 8 → W.getD (64 * sec + i) 0 = sbyte x i := by
          intro i hi hne
          have hs := sbyte_same x c i (.inr ⟨hc, hne⟩)
          rw [hat i hi]
          split
          · exact hs.symm
          · split
            · rw [← hs]; exact and_or_self _ _
            · rfl
        have h0 : W.getD (64 * sec + x / 8) 0 = sbyte x (x / 8) ∨
            W.getD (64 * sec + x / 8) 0 = sbyte c (x / 8) := by
          rw [hat _ hi0]
          split
          · exact .inr rfl
          · split
            · exact sbyte_torn x c _ _ (.inr hc) hm
            · exact .inl rfl
        rcases h0 with h0 | h0
        · left
          intro i hi
          show W.getD _ 0 = _
          by_cases hne : i = x / 8
          · rw [hne]; exact h0
          · exact hval i hi hne
        · right
          intro i hi
          show W.getD _ 0 = _
          by_cases hne : i = x / 8
          · rw [hne]; exact h0
          · rw [hval i hi hne]; exact sbyte_same x c i (.inr ⟨hc, hne⟩)
    · intro _ _ hlf
      intro i hi
      show W.getD _ 0 = _
      have hd16 : s.done 16 = 16 := by unfold FS.done; rw [if_neg hlf]
      rw [hat i hi, hd16]
      by_cases h1 : 16 * p ≤ i ∧ i < 16 * p + 16
      · rw [if_pos h1]
      · rw [if_neg h1, if_neg (fun h => hlf h.1)]
        exact hout i hi h1
  · have hq : s.prog n ((64 * sec + 16 * p : Nat) : Int) (pageT c') = s := by
      unfold FS.prog
      rw [if_neg hc0]
    rw [hq]
    refine ⟨.inl hx, fun h1 h2 _ => ?_⟩
    exact absurd ⟨h1, ⟨by omega, pageT_len c'⟩, ⟨by omega, by omega⟩, h2⟩ hc0
/-- Other sectors stay. -/
theorem lev_prog_other (s : FS) (n sec sec' p x : Nat) (P : List Nat) (hb : s.b.length = 64 * n) (hs : sec < n) (hne : sec ≠ sec') (hp : p < 4) (hx : lev s sec x) : lev (s.prog n ((64 * sec' + 16 * p : Nat) : Int) P) sec x :=
  lev_other hx fun i hi => prog_at s n _ P _ (by omega) (by omega)
end Tri

namespace Go.Proofs.Ytngkmlchblgmeaa
open Go.RowKit Tri

theorem lead_hit (l : List Nat) (i k : Nat) (hi : i < l.length) (hk : k < 8) (h0 : ∀ j, j < i → l.getD j 0 = 0) (h1 : l.getD i 0 < 2 ^ (k + 1)) (h2 : 2 ^ k ≤ l.getD i 0) : lead l = 8 * i + (7 - k) := by
  refine lead_of l _ (by omega) (fun m hm => ?_) (.inr ?_)
  · by_cases hmi : m / 8 < i
    · rw [h0 _ hmi, Nat.zero_div]
    · rw [show m / 8 = i from by omega, Nat.div_eq_of_lt]
      refine Nat.lt_of_lt_of_le h1 (Nat.pow_le_pow_right (by omega) (by omega))
  · rw [show (8 * i + (7 - k)) / 8 = i from by omega, show 7 - (8 * i + (7 - k)) % 8 = k from by omega]
    have : l.getD i 0 / 2 ^ k = 1 := by
      rw [Nat.div_eq_iff (Nat.two_pow_pos k)]
      rw [Nat.pow_succ] at h1
      omega
    rw [this]
theorem lead_all (l : List Nat) (h0 : ∀ j, j < l.length → l.getD j 0 = 0) : lead l = 8 * l.length := by
  refine lead_of l _ (Nat.le_refl _) (fun m hm => ?_) (.inl rfl)
  rw [h0 _ (by omega), Nat.zero_div]
theorem bitq (c P : Nat) (hP : 0 < P) (hc : c < 256) (h : c < 2 * P) : (bits .and .u8 ((c : Int) / (P : Int)) 1 == 1) = decide (P ≤ c) := by
  have hd : c / P < 2 := by rw [Nat.div_lt_iff_lt_mul hP]; exact h
  have e : ((c : Int) / (P : Int)) = ((c / P : Nat) : Int) := by omega
  have e1 : (1 : Int) = ((1 : Nat) : Int) := rfl
  rw [e, e1, u8_and_nat (c / P) 1 (by omega) (by omega)]
  by_cases hPc : P ≤ c
  · have : c / P = 1 := by
      have := (Nat.le_div_iff_mul_le hP (x := 1) (y := c)).2 (by omega)
      omega
    rw [this, decide_eq_true hPc]
    rfl
  · have : c / P = 0 := Nat.div_eq_of_lt (by omega)
    rw [this, decide_eq_false hPc]
    rfl
end Go.Proofs.Ytngkmlchblgmeaa

namespace Go.Proofs.Ytngkmlchblgmeaa
open Go.RowKit Tri

end Go.Proofs.Ytngkmlchblgmeaa

namespace Go.Proofs.Ytngkmlchblgmeaa
open Go.RowKit Tri

def pgRow (c i : Nat) : List Nat := (List.range 16).map fun j => if j < i then sbyte c j else 0
theorem pgRow_set (c i : Nat) (h : i < 16) : (pgRow c i).set i (sbyte c i) = pgRow c (i + 1) := by
  apply List.ext_getElem?
  intro j
  unfold pgRow
  by_cases hj : j = i
  · subst hj
    rw [List.getElem?_set_self (by simp; exact h), List.getElem?_map, List.getElem?_range h]
    simp
  · rw [List.getElem?_set_ne (by omega), List.getElem?_map, List.getElem?_map]
    by_cases h16 : j < 16
    · rw [List.getElem?_range h16]
      simp only [Option.map_some, Option.some.injEq]
      by_cases h1 : j < i
      · rw [if_pos h1, if_pos (by omega)]
      · rw [if_neg h1, if_neg (by omega)]
    · rw [List.getElem?_eq_none (by simp; omega)]
      rfl
theorem pgRow_full (c : Nat) : pgRow c 16 = pageT c := by
  unfold pgRow pageT
  apply List.map_congr_left
  intro j hj
  rw [if_pos (List.mem_range.1 hj)]
theorem pgRow_zero (c : Nat) : pgRow c 0 = List.replicate 16 0 := by
  unfold pgRow
  rfl
def rowB8 (l : List Nat) : Array Value := (l.map fun x => Value.int .u8 (x : Nat)).toArray
end Go.Proofs.Ytngkmlchblgmeaa

namespace Tri
open Go Go.RowKit
def pgAt (sec bit : Nat) : Nat := 64 * sec + 16 * (bit / 128)
def clrE1 (s : FS) (n a bit : Nat) : Nat := s.progE n (pgAt a bit : Nat) (pageT (bit % 128 + 1))
def clrS1 (s : FS) (n a bit : Nat) : FS := s.prog n (pgAt a bit : Nat) (pageT (bit % 128 + 1))
def clrE (s : FS) (n a b bit : Nat) : Nat := if clrE1 s n a bit ≠ 0 then clrE1 s n a bit else clrE1 (clrS1 s n a bit) n b bit
def clrS (s : FS) (n a b bit : Nat) : FS := if clrE1 s n a bit ≠ 0 then clrS1 s n a bit else clrS1 (clrS1 s n a bit) n b bit
def clrV (s : FS) (n a b bit : Nat) (ev : Bool) : Bool := if clrE s n a b bit = 0 then true else ev
end Tri
namespace Go.Proofs.Ytngkmlchblgmeaa
open Go.RowKit Tri

/-- As Out, but one block more may change. -/
structure Out2 (lo hi T : Nat) (w w' : World) : Prop where
  os : w'.os = w.os
  tape : w'.tape = w.tape
  output : w'.output = w.output
  size : w.heap.size ≤ w'.heap.size
  block : ∀ k, k < w.heap.size → (k < lo ∨ hi ≤ k) → k ≠ T → w'.heap[k]? = w.heap[k]?
theorem Out2.of {lo hi T : Nat} {w w' : World} (h : Out lo hi w w') : Out2 lo hi T w w' := ⟨h.os, h.tape, h.output, h.size, fun k h1 h2 _ => h.block k h1 h2⟩
theorem Out2.refl (lo hi T : Nat) (w : World) : Out2 lo hi T w w := Out2.of (Out.refl _ _ _)
theorem Out2.trans {lo hi T : Nat} {a b c : World} (h : Out2 lo hi T a b) (k : Out2 lo hi T b c) : Out2 lo hi T a c :=
  ⟨k.os.trans h.os, k.tape.trans h.tape, k.output.trans h.output, Nat.le_trans h.size k.size, fun i hi ho hT => (k.block i (Nat.lt_of_lt_of_le hi h.size) ho hT).trans (h.block i hi ho hT)⟩
theorem Out2.set {lo hi T : Nat} {a w : World} (h : Out2 lo hi T a w) (j : Nat) (v : Value) : Out2 lo hi T a (w.setCell ⟨T, j, none⟩ v) :=
  ⟨h.os, h.tape, h.output, by simpa using h.size, fun k hk ho hT => (Below.heap_setCell w ⟨T, j, none⟩ v k hT).trans (h.block k hk ho hT)⟩
theorem Out2.belowB {lo hi T : Nat} {w0 a w : World} (h : Out2 lo hi T a w) (hb : Below w0.heap.size w0 a) (hlo : w0.heap.size ≤ lo) (hT : w0.heap.size ≤ T) : Below w0.heap.size w0 w :=
  ⟨h.os.trans hb.os, h.tape.trans hb.tape, h.output.trans hb.output, Nat.le_trans hb.size h.size, fun k hk => (h.block k (Nat.lt_of_lt_of_le hk hb.size) (.inl (Nat.lt_of_lt_of_le hk hlo)) (by omega)).trans (hb.block k hk)⟩
theorem Out2.drew {lo hi T : Nat} {a w : World} (h : Out2 lo hi T a w) : Out2 lo hi T a w.drew := ⟨h.os, h.tape, h.output, h.size, h.block⟩
theorem DevP.setT {w : World} {i : DI} {n : Nat} {s : FS} (h : DevP w i n s) {T : Nat} (hT : T < i.lo ∨ i.hi ≤ T) (j : Nat) (v : Value) : DevP (w.setCell ⟨T, j, none⟩ v) i n s :=
  h.out ((Out.refl T (T + 1) w).set ⟨T, j, none⟩ v (Nat.le_refl T) (Nat.lt_succ_self T)) (by omega)
section
variable {w : World} {T D : Nat} {a b cnt : Int} {ev : Bool}
end
theorem Try.ix0 (a b : Int) (w : World) : (Instr.index 174 (.agg #[.int .i64 a, .int .i64 b]) (.int .i64 0)).run Try.prog w = .ok (.int .i64 a) w := by kernel_rfl
theorem Try.ix1 (a b : Int) (w : World) : (Instr.index 174 (.agg #[.int .i64 a, .int .i64 b]) (.int .i64 1)).run Try.prog w = .ok (.int .i64 b) w := by kernel_rfl
end Go.Proofs.Ytngkmlchblgmeaa

namespace Go.Proofs.Ytngkmlchblgmeaa
open Go.RowKit Tri

theorem _root_.Tri.OutA.belowB {lo hi L n : Nat} {rs : Value} {w0 a w : World} (h : OutA lo hi L rs a w) (hb : Below n w0 a) (hn : n ≤ w0.heap.size) (hlo : n ≤ lo) (hL : n ≤ L) (hr : ∀ g, rs.ownBlock = some g → n ≤ g) : Below n w0 w :=
  ⟨h.os.trans hb.os, h.tape.trans hb.tape, h.output.trans hb.output, Nat.le_trans hb.size h.size, fun k hk => (h.block k (Nat.lt_of_lt_of_le (Nat.lt_of_lt_of_le hk hn) hb.size) (.inl (Nat.lt_of_lt_of_le hk hlo)) (by omega) (fun e => by have := hr k e; omega)).trans (hb.block k hk)⟩
theorem recJ.own {w : World} {base : Nat} {v : Value} {l : List RecI} (h : recJ w base v l) : ∀ g, v.ownBlock = some g → base ≤ g := by
  intro g hg
  rcases h.2 with ⟨e, _⟩ | ⟨g', cap, cur, e, h3, h4, _⟩
  · rw [e] at hg; cases hg
  · rw [e] at hg
    simp only [Value.ownBlock, Option.some.injEq] at hg
    rw [← hg]; exact h3
set_option maxHeartbeats 4000000 in
set_option maxRecDepth 100000 in
theorem law15_blank (w : World) : Calls Try.prog 15 #[] w fun e w' => ∃ i : DI, e = .returned (.pointer (some ⟨i.D, 0, none⟩)) ∧ w.heap.size ≤ i.lo ∧ DevP w' i 27 (newS 27) ∧ Below w.heap.size w w' := by
  have hA := fun w => hid (geo_All 1 2 1 w (by unfold i64r; omega))
  rw [show allI 1 2 1 = ((27 : Nat) : Int) from by decide] at hA
  (go_enter Try.func15, Try.ntmps15; try simp only [List.append])
  go_wp2_with ((with_reducible refine wpList_unguard ?_ ?_); (focus rfl))
  refine Calls.mono (law15_Geo w) ?_; rintro e w1 ⟨rfl, hb⟩
  have HB1 := hid hb
  clear hb
  go_wp2_with ((with_reducible refine wpList_unguard ?_ ?_); (focus rfl))
  refine Calls.mono (hA w1).out ?_; rintro e w2 ⟨rfl, hb⟩
  have HB2 := hid (HB1.out.trans (hb.mono HB1.out.size))
  clear hb HB1
  go_wp2_with ((with_reducible refine wpList_unguard ?_ ?_); (focus rfl))
  refine Calls.mono (dev_New 27 w2 (by omega) (by omega)) ?_; rintro e w3 ⟨i, rfl, hlo, hhi, hD, hb⟩
  have HB3 := hid (HB2.out.trans (hb.mono HB2.out.size))
  have HD3 := hid hD
  have hwz : w.heap.size ≤ i.lo := by rw [hlo]; exact HB2.out.size
  clear hb hD hlo hhi HB2
  go_wp2_with ((with_reducible refine wpList_unguard ?_ ?_); (focus rfl))
  go_ret
  exact ⟨i, rfl, hwz, HD3.out, HB3.out⟩
/-- The record of the example. -/
def oneR : RecI := ⟨1, 0, 0, 0⟩
set_option maxHeartbeats 8000000 in
set_option maxRecDepth 100000 in
theorem law15_awake (w : World) : Calls Try.prog 12 #[] w fun e w' => e = .returned (.bool true) ∧ Below w.heap.size w w' := by
  (go_enter Try.func12, Try.ntmps12; try simp only [List.append])
  go_wp2_with ((with_reducible refine wpList_unguard ?_ ?_); (focus rfl))
  refine Calls.mono (law15_blank w) ?_; rintro e w1 ⟨i, rfl, hwz, hD, hb⟩
  have HB1 := hid hb
  have HD1 := hid hD
  clear hb hD
  go_wp2_with ((with_reducible refine wpList_unguard ?_ ?_); (focus rfl))
  refine Calls.mono (law15_Geo w1) ?_; rintro e w2 ⟨rfl, hb⟩
  have HB2 := hid (HB1.out.trans (hb.mono HB1.out.size))
  have HD2 := hid (HD1.out.below hb)
  clear hb HB1 HD1
  go_wp2_with ((with_reducible refine wpList_unguard ?_ ?_); (focus rfl))
  have hF := log_Format i (newS 27) [] none 0 w2 HD2.out (fun i hi => by simp at hi) (fun _ a o s h => by cases h) (by simp) (by simp)
  obtain ⟨k1, k2, k3, k4⟩ := calm_format calm_new [] rfl
  refine Calls.mono hF ?_; rintro e w3 ⟨hD, hO, -, hok⟩
  obtain ⟨L, S, rv, b0, rfl, hLz, hSz, hSL, hLb, hSb, hbw, hS, hL, hJ⟩ := hok k1
  have HB3 := hid (hO.belowB HB2.out hwz)
  have HD3 := hid hD
  have hih : i.hi ≤ w2.heap.size := HD2.out.hi
  have hw2 : w.heap.size ≤ w2.heap.size := HB2.out.size
  have HP3 : Hid (LogP i L S 0 rv [] 1 2 true true b0 w3) := ⟨⟨hL, hS, .inr (by omega), .inr (by omega)⟩, hJ, hLb, hSb, by omega, hSL⟩
  have HK := hid (And.intro k2 (And.intro k3 k4))
  clear hF k1 k2 k3 k4 hD hO hok hS hL hJ HD2 HB2
  generalize (formatS (newS 27) []).1 = s1 at *
  go_wp2_with ((with_reducible refine wpList_unguard ?_ ?_); (focus rfl))
  refine Calls.mono (log_Append i s1 L S 0 rv [] 1 2 true true b0 oneR w3 HD3.out HP3.out (by omega) (by omega) (by simp) hbw) ?_; rintro e w4 hpost
  unfold AppPost at hpost
  obtain ⟨-, hal⟩ := And.intro trivial (calm_laid HK.out.1 0 (allR 1 []) oneR (by omega) (by rw [allR_len]; decide) HK.out.2.1)
  rw [show (allR 1 []).length = 2 from rfl] at hal
  obtain ⟨m1, m2, m3, m4⟩ := hal
  have happ : appE s1 0 2 oneR = 0 := by
    unfold appE
    rw [if_neg (by decide), if_neg (by decide), m1]; rfl
  rw [happ, if_pos rfl, if_pos ⟨by decide, by decide⟩] at hpost
  obtain ⟨rfl, hO, hD, rv2, hP⟩ := hpost
  have HB4 := hid (hO.belowB HB3.out (Nat.le_refl _) hwz (by omega) (fun g hg => by have := HP3.out.hj.own g hg; omega))
  have HD4 := hid hD
  have HK4 := hid (And.intro m2 (And.intro m3 (m4 1 [] (by omega) (by omega) HK.out.2.2)))
  clear happ m1 m2 m3 m4 hO hD hP HP3 HD3 HB3 HK
  generalize (layS s1 0 2 (pgI 2 oneR)).1 = s2 at *
  go_wp2_with ((with_reducible refine wpList_unguard ?_ ?_); (focus rfl))
  refine Calls.mono (law15_Geo w4) ?_; rintro e w5 ⟨rfl, hb⟩
  have HB5 := hid (HB4.out.trans (hb.mono HB4.out.size))
  have HD5 := hid (HD4.out.below hb)
  clear hb HB4 HD4
  go_wp2_with ((with_reducible refine wpList_unguard ?_ ?_); (focus rfl))
  refine Calls.mono (log_Open i s2 w5 HD5.out HK4.out.1.dn) ?_; rintro e w6 hpost
  unfold OpenPost at hpost
  have hE0 : outH (runH s2 0 16) = ⟨[r4 oneR], 1, 3, true, true⟩ := outH_is s2 0 1 [] [oneR] HK4.out.2.1 (by omega) (by decide) (by decide)
  have hE1 : outH (runH s2 1 16) = ⟨[], 0, 0, false, false⟩ := outH_blank s2 1 HK4.out.2.2
  rw [hE0, hE1] at hpost
  obtain ⟨hx, rfl, hrd, -, hok⟩ := hpost
  obtain ⟨L2, S2, rs2, b2, rfl, hL2, hb2, hb2w, hP⟩ := hok rfl
  have HB6 := hid (hrd.out.belowB HB5.out hwz)
  have HP6 : Hid (LogP i L2 S2 0 rs2 [oneR] 1 3 true true b2 w6) := hP
  clear hE0 hE1 hrd hok hP HB5 HD5 HK4
  go_wp2_with ((with_reducible refine wpList_unguard ?_ ?_); (focus rfl))
  refine Calls.mono (log_Clean L2 i.D S2 0 rs2 _ _ true true w6 HP6.out.hw.hL) ?_; rintro e w7 ⟨rfl, rfl⟩
  go_wp2_with ((with_reducible refine wpList_unguard ?_ ?_); (focus rfl))
  refine Calls.mono (log_All i L2 S2 0 rs2 [oneR] 1 3 true true b2 w6 HP6.out (by simp)) ?_; rintro e w7 ⟨v, rfl, hJ, hb⟩
  obtain ⟨p7, c7, rfl, hc7, hg7⟩ := hJ.cells
  have HB7 := hid (HB6.out.trans (hb.mono HB6.out.size))
  have HP7 := hid (HP6.out.below hb)
  clear hJ hg7 hb HB6 HP6
  go_wp2_with ((with_reducible refine wpList_unguard ?_ ?_); (focus rfl))
  refine Calls.mono (log_All i L2 S2 0 rs2 [oneR] 1 3 true true b2 w7 HP7.out (by simp)) ?_; rintro e w8 ⟨v, rfl, hJ, hb⟩
  obtain ⟨p8, c8, rfl, hc8, hg8⟩ := hJ.cells
  obtain ⟨b, o, rfl, g0, g1, g2, g3⟩ := recs_at hg8 0 (by decide)
  have HB8 := hid (HB7.out.trans (hb.mono HB7.out.size))
  have y0 : w8.cell? ⟨b, o, none⟩ = some (.int .i64 1) := g0
  have y1 : w8.cell? ⟨b, o + 1, none⟩ = some (.int .i64 0) := g1
  have y2 : w8.cell? ⟨b, o + 2, none⟩ = some (.int .i64 0) := g2
  have y3 : w8.cell? ⟨b, o + 3, none⟩ = some (.int .i64 0) := g3
  clear hJ hg8 hb HB7 HP7 g0 g1 g2 g3
  go_wp2_with ((with_reducible refine wpList_unguard ?_ ?_); (focus rfl))
  go_ret
  exact ⟨rfl, HB8.out⟩
end Go.Proofs.Ytngkmlchblgmeaa
