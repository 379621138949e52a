/-
  Plain: leading bits that are 0; a tally's sectors, level by level, and what a torn program makes of them.
-/
import Derived.Test.YtiicbbhjepkndaaDevK
namespace Tri
open Go Go.RowKit
def bits8 (c : Nat) : List Nat := (List.range 8).map fun j => c / 2 ^ (7 - j) % 2
def bitsL (l : List Nat) : List Nat := l.flatMap bits8
def lead (l : List Nat) : Nat := ((bitsL l).takeWhile (· == 0)).length
theorem bits8_len (c : Nat) : (bits8 c).length = 8 := by simp [bits8]
theorem bitsL_len (l : List Nat) : (bitsL l).length = 8 * l.length := by
  induction l with
  | nil => rfl
  | cons c l ih => unfold bitsL at *; rw [List.flatMap_cons, List.length_append, ih, bits8_len, List.length_cons]; omega
theorem bits8_at (c j : Nat) (h : j < 8) : (bits8 c).getD j 0 = c / 2 ^ (7 - j) % 2 := by
  unfold bits8
  rw [List.getD_eq_getElem?_getD, List.getElem?_map, List.getElem?_range h]
  rfl
theorem bitsL_at (l : List Nat) : ∀ (i j : Nat), i < l.length → j < 8 → (bitsL l).getD (8 * i + j) 0 = l.getD i 0 / 2 ^ (7 - j) % 2 := by
  induction l with
  | nil => intro i j hi; simp at hi
  | cons c l ih =>
    intro i j hi hj
    have e : bitsL (c :: l) = bits8 c ++ bitsL l := by unfold bitsL; rw [List.flatMap_cons]
    rw [e]
    cases i with
    | zero =>
      have := bits8_at c j hj
      rw [List.getD_eq_getElem?_getD] at this ⊢
      rw [List.getElem?_append_left (by rw [bits8_len]; omega), show 8 * 0 + j = j from by omega]
      exact this
    | succ i =>
      have := ih i j (by simpa using hi) hj
      rw [List.getD_eq_getElem?_getD] at this ⊢
      rw [List.getElem?_append_right (by rw [bits8_len]; omega), bits8_len, show 8 * (i + 1) + j - 8 = 8 * i + j from by omega, this]
      rfl
theorem takeWhile_len (l : List Nat) : ∀ n, (∀ m, m < n → l.getD m 1 = 0) → (n = l.length ∨ (n < l.length ∧ l.getD n 0 ≠ 0)) → (l.takeWhile (· == 0)).length = n := by
  induction l with
  | nil => intro n _ h; rcases h with h | h <;> simp at h ⊢ <;> omega
  | cons c l ih =>
    intro n h1 h2
    cases n with
    | zero =>
      have hc : c ≠ 0 := by
        rcases h2 with h | h
        · simp at h
        · exact h.2
      rw [List.takeWhile_cons, if_neg (by simpa using hc)]
      rfl
    | succ n =>
      have hc : c = 0 := h1 0 (by omega)
      rw [List.takeWhile_cons, if_pos (by simp [hc]), List.length_cons]
      congr 1
      refine ih n (fun m hm => h1 (m + 1) (by omega)) ?_
      rcases h2 with h | h
      · exact .inl (by simpa using h)
      · exact .inr ⟨by simpa using h.1, h.2⟩
/-- What is told of the leading bits. -/
theorem lead_of (l : List Nat) (n : Nat) (hn : n ≤ 8 * l.length) (h1 : ∀ m, m < n → l.getD (m / 8) 0 / 2 ^ (7 - m % 8) % 2 = 0) (h2 : n = 8 * l.length ∨ l.getD (n / 8) 0 / 2 ^ (7 - n % 8) % 2 = 1) : lead l = n := by
  have hat : ∀ m, m < 8 * l.length → (bitsL l)[m]? = some (l.getD (m / 8) 0 / 2 ^ (7 - m % 8) % 2) := by
    intro m hm
    have := bitsL_at l (m / 8) (m % 8) (by omega) (by omega)
    rw [show 8 * (m / 8) + m % 8 = m from by omega, List.getD_eq_getElem?_getD] at this
    have hl : m < (bitsL l).length := by rw [bitsL_len]; exact hm
    rw [List.getElem?_eq_getElem hl] at this ⊢
    exact congrArg some this
  refine takeWhile_len _ n (fun m hm => ?_) ?_
  · rw [List.getD_eq_getElem?_getD, hat m (by omega), h1 m hm]
    rfl
  · by_cases he : n = 8 * l.length
    · exact .inl (by rw [bitsL_len]; exact he)
    · refine .inr ⟨by rw [bitsL_len]; omega, ?_⟩
      rw [List.getD_eq_getElem?_getD, hat n (by omega)]
      rcases h2 with h | h
      · exact absurd h he
      · rw [h]; decide
theorem lead_le (l : List Nat) : lead l ≤ 8 * l.length := by
  unfold lead
  rw [← bitsL_len]
  exact (List.takeWhile_sublist _).length_le
/-- A byte of a sector in which so many bits are cleared. -/
def sbyte (x i : Nat) : Nat := 255 / 2 ^ (min (x - 8 * i) 8)
theorem sbyte_lt (x i : Nat) : sbyte x i < 256 := by
  unfold sbyte
  exact Nat.lt_of_le_of_lt (Nat.div_le_self _ _) (by decide)
def pageT (c : Nat) : List Nat := (List.range 16).map (sbyte c)
theorem pageT_len (c : Nat) : (pageT c).length = 16 := by simp [pageT]
theorem pageT_at (c j : Nat) (h : j < 16) : (pageT c).getD j 0 = sbyte c j := by
  unfold pageT
  rw [List.getD_eq_getElem?_getD, List.getElem?_map, List.getElem?_range h]
  rfl
theorem pageT_lt (c : Nat) : ∀ y ∈ pageT c, y < 256 := by
  intro y hy
  unfold pageT at hy
  obtain ⟨j, _, rfl⟩ := List.mem_map.1 hy
  exact sbyte_lt c j
theorem sbit : ∀ k, k ≤ 8 → ∀ j, j < 8 → 255 / 2 ^ k / 2 ^ (7 - j) % 2 = if j < k then 0 else 1 := by decide
theorem lead_sector (l : List Nat) (x : Nat) (hl : l.length = 64) (hx : x ≤ 512) (h : ∀ i, i < 64 → l.getD i 0 = sbyte x i) : lead l = x := by
  refine lead_of l x (by omega) (fun m hm => ?_) ?_
  · rw [h (m / 8) (by omega)]
    unfold sbyte
    rw [sbit _ (by omega) _ (by omega), if_pos (by omega)]
  · by_cases he : x = 512
    · exact .inl (by omega)
    · right
      rw [h (x / 8) (by omega)]
      unfold sbyte
      rw [sbit _ (by omega) _ (by omega), if_neg (by omega)]
theorem sand : ∀ a, a ≤ 8 → ∀ b, b ≤ 8 → a ≤ b → 255 / 2 ^ a &&& 255 / 2 ^ b = 255 / 2 ^ b := by decide
theorem sbyte_and (x c i : Nat) (h : x ≤ c) : sbyte x i &&& sbyte c i = sbyte c i := by
  unfold sbyte
  exact sand _ (by omega) _ (by omega) (by omega)
set_option maxRecDepth 100000 in
theorem storn : ∀ r, r < 8 → ∀ m, m < 256 → (255 / 2 ^ r &&& (255 / 2 ^ (r + 1) ||| m) = 255 / 2 ^ r ∨ 255 / 2 ^ r &&& (255 / 2 ^ (r + 1) ||| m) = 255 / 2 ^ (r + 1)) := by decide +kernel
theorem and_or_self (u m : Nat) : u &&& (u ||| m) = u := by
  apply Nat.eq_of_testBit_eq
  intro i
  rw [Nat.testBit_and, Nat.testBit_or]
  cases u.testBit i <;> simp
theorem sbyte_same (x c i : Nat) (hc : c = x ∨ (c = x + 1 ∧ i ≠ x / 8)) : sbyte x i = sbyte c i := by
  rcases hc with rfl | ⟨rfl, hi⟩
  · rfl
  · unfold sbyte
    congr 2
    omega
theorem sbyte_torn (x c i m : Nat) (hc : c = x ∨ c = x + 1) (hm : m < 256) : sbyte x i &&& (sbyte c i ||| m) = sbyte x i ∨ sbyte x i &&& (sbyte c i ||| m) = sbyte c i := by
  by_cases h : sbyte x i = sbyte c i
  · left; rw [← h]; exact and_or_self _ _
  · have h2 : c = x + 1 ∧ i = x / 8 := by
      rcases hc with rfl | rfl
      · exact absurd rfl h
      · refine ⟨rfl, Classical.byContradiction fun hi => h (sbyte_same x (x + 1) i (.inr ⟨rfl, hi⟩))⟩
    obtain ⟨rfl, rfl⟩ := h2
    have e1 : min (x - 8 * (x / 8)) 8 = x % 8 := by omega
    have e2 : min (x + 1 - 8 * (x / 8)) 8 = x % 8 + 1 := by omega
    unfold sbyte
    rw [e1, e2]
    exact storn (x % 8) (Nat.mod_lt _ (by omega)) m hm
/-- A sector in which the first x bits are cleared, and no other. -/
def lev (s : FS) (sec x : Nat) : Prop := ∀ i, i < 64 → s.b.getD (64 * sec + i) 0 = sbyte x i
theorem lev_other {s s' : FS} {sec x : Nat} (h : lev s sec x) (he : ∀ i, i < 64 → s'.b.getD (64 * sec + i) 0 = s.b.getD (64 * sec + i) 0) : lev s' sec x := fun i hi => (he i hi).trans (h i hi)
/-- A program of the page that lets a sector be of level c: it is of its level, or of c; and, not torn, of c. -/
theorem lev_prog (s : FS) (n sec x c : Nat) (hb : s.b.length = 64 * n) (hs : sec < n) (hx : lev s sec x) (hc : c = x ∨ c = x + 1) (h1 : 1 ≤ c) (h512 : c ≤ 512) (hm : s.m < 256) :
    (lev (s.prog n ((64 * sec + 16 * ((c - 1) / 128) : Nat) : Int) (pageT ((c - 1) % 128 + 1))) sec x ∨ lev (s.prog n ((64 * sec + 16 * ((c - 1) / 128) : Nat) : Int) (pageT ((c - 1) % 128 + 1))) sec c) ∧
    (s.dn = false → s.lkd (((64 * sec + 16 * ((c - 1) / 128) : Nat) : Int) / 64) = false → s.lf ≠ 0 → lev (s.prog n ((64 * sec + 16 * ((c - 1) / 128) : Nat) : Int) (pageT ((c - 1) % 128 + 1))) sec c) := by
  obtain ⟨p, hp⟩ : ∃ p, (c - 1) / 128 = p := ⟨_, rfl⟩
  obtain ⟨c', hc'⟩ : ∃ c', (c - 1) % 128 + 1 = c' := ⟨_, rfl⟩
  rw [hp, hc']
  have hcp : c = 128 * p + c' := by omega
  have hp4 : p < 4 := by omega
  have hpg : ∀ j, j < 16 → (pageT c').getD j 0 = sbyte c (16 * p + j) := by
    intro j hj
    rw [pageT_at c' j hj]
    unfold sbyte
    congr 2
    omega
  by_cases hc0 : s.dn = false ∧ (((64 * sec + 16 * p : Nat) : Int) % 16 = 0 ∧ (pageT c').length = 16) ∧ (0 ≤ ((64 * sec + 16 * p : Nat) : Int) ∧ ((64 * sec + 16 * p : Nat) : Int) < 64 * n) ∧ s.lkd (((64 * sec + 16 * p : Nat) : Int) / 64) = false
  · have hq : s.prog n ((64 * sec + 16 * p : Nat) : Int) (pageT c') = { partS s with b := s.wroteB (fun j x => x &&& (pageT c').getD j 0) (fun j x => x &&& ((pageT c').getD j 0 ||| s.m)) (64 * sec + 16 * p) 16 } := by
      unfold FS.prog
      rw [if_pos hc0, Int.toNat_natCast]
    rw [hq]
    have hat : ∀ i, i < 64 → (s.wroteB (fun j x => x &&& (pageT c').getD j 0) (fun j x => x &&& ((pageT c').getD j 0 ||| s.m)) (64 * sec + 16 * p) 16).getD (64 * sec + i) 0 =
        if 16 * p ≤ i ∧ i < 16 * p + s.done 16 then sbyte c i else if s.lf = 0 ∧ i = 16 * p + s.done 16 ∧ s.done 16 < 16 then sbyte x i &&& (sbyte c i ||| s.m) else sbyte x i := by
      intro i hi
      have hdl := s.done_le 16
      rw [wroteB_at _ _ _ _ _ _ (by omega), hx i hi]
      by_cases h1 : 16 * p ≤ i ∧ i < 16 * p + s.done 16
      · rw [if_pos (by omega), if_pos h1, hpg _ (by omega), show 16 * p + (64 * sec + i - (64 * sec + 16 * p)) = i from by omega, sbyte_and x c i (by omega)]
      · rw [if_neg (by omega), if_neg h1]
        by_cases h2 : s.lf = 0 ∧ i = 16 * p + s.done 16 ∧ s.done 16 < 16
        · rw [if_pos (by omega), if_pos h2, hpg _ (by omega), show 16 * p + (64 * sec + i - (64 * sec + 16 * p)) = i from by omega]
        · rw [if_neg (by omega), if_neg h2]
    generalize s.wroteB (fun j x => x &&& (pageT c').getD j 0) (fun j x => x &&& ((pageT c').getD j 0 ||| s.m)) (64 * sec + 16 * p) 16 = W at *
    have hout : ∀ i, i < 64 → ¬ (16 * p ≤ i ∧ i < 16 * p + 16) → sbyte x i = sbyte c i := by
      intro i hi ho
      exact sbyte_same x c i (by rcases hc with h | h; exact .inl h; exact .inr ⟨h, by omega⟩)
    refine ⟨?_, ?_⟩
    · -- the one byte that may be another one
      rcases hc with rfl | hc
      · left
        intro i hi
        show W.getD _ 0 = _
        rw [hat i hi]
        split
        · rfl
        · split
          · exact and_or_self _ _
          · rfl
      · have hi0 : x / 8 < 64 := by omega
        have hval : ∀ i, i < 64 → i ≠ x / 8 → W.getD (64 * sec + i) 0 = sbyte x i := by
          intro i hi hne
          have hs := sbyte_same x c i (.inr ⟨hc, hne⟩)
          rw [hat i hi]
          split
          · exact hs.symm
          · split
            · rw [← hs]; exact and_or_self _ _
            · rfl
        have h0 : W.getD (64 * sec + x / 8) 0 = sbyte x (x / 8) ∨
            W.getD (64 * sec + x / 8) 0 = sbyte c (x / 8) := by
          rw [hat _ hi0]
          split
          · exact .inr rfl
          · split
            · exact sbyte_torn x c _ _ (.inr hc) hm
            · exact .inl rfl
        rcases h0 with h0 | h0
        · left
          intro i hi
          show W.getD _ 0 = _
          by_cases hne : i = x / 8
          · rw [hne]; exact h0
          · exact hval i hi hne
        · right
          intro i hi
          show W.getD _ 0 = _
          by_cases hne : i = x / 8
          · rw [hne]; exact h0
          · rw [hval i hi hne]; exact sbyte_same x c i (.inr ⟨hc, hne⟩)
    · intro _ _ hlf
      intro i hi
      show W.getD _ 0 = _
      have hd16 : s.done 16 = 16 := by unfold FS.done; rw [if_neg hlf]
      rw [hat i hi, hd16]
      by_cases h1 : 16 * p ≤ i ∧ i < 16 * p + 16
      · rw [if_pos h1]
      · rw [if_neg h1, if_neg (fun h => hlf h.1)]
        exact hout i hi h1
  · have hq : s.prog n ((64 * sec + 16 * p : Nat) : Int) (pageT c') = s := by
      unfold FS.prog
      rw [if_neg hc0]
    rw [hq]
    refine ⟨.inl hx, fun h1 h2 _ => ?_⟩
    exact absurd ⟨h1, ⟨by omega, pageT_len c'⟩, ⟨by omega, by omega⟩, h2⟩ hc0
/-- Other sectors stay. -/
theorem lev_prog_other (s : FS) (n sec sec' p x : Nat) (P : List Nat) (hb : s.b.length = 64 * n) (hs : sec < n) (hne : sec ≠ sec') (hp : p < 4) (hx : lev s sec x) : lev (s.prog n ((64 * sec' + 16 * p : Nat) : Int) P) sec x :=
  lev_other hx fun i hi => prog_at s n _ P _ (by omega) (by omega)
end Tri
