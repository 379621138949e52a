/-
  Of a sealed text in which up to four bytes beside one another are turned the sum is wrong: in plain Lean (as in the texts of chapter 02, for seats without it).
-/
import Derived.Test.YtiailpbmmadaeaaOpen
namespace Go.Proofs.Ytiailpbmmadaeaa
open Go.RowKit Tri

theorem sealB_length (l : List Nat) : (sealB l).length = l.length + 4 := by unfold sealB; rw [List.length_append, putB_length]
theorem byte_back {r y b : Nat} (hr : r < 2 ^ 32) (hy : y < 2 ^ 24) (hb : b < 256) (h : cbyte r b = y) : r ^^^ b = 256 * y := by
  rw [cbyte_eq r b hb] at h
  have e : csts 8 (256 * y) = y := csts_shift 8 y
  exact csts_inj (Nat.xor_lt_two_pow hr (by omega)) (by omega) (h.trans e.symm)
theorem xor_shift {r b y : Nat} (h : r ^^^ b = 256 * y) : r = 256 * y ^^^ b := by
  rw [← h, Nat.xor_assoc, Nat.xor_self, Nat.xor_zero]
theorem creg4_zero (a b c d : Nat) (ha : a < 256) (hb : b < 256) (hc : c < 256) (hd : d < 256) (h : creg 0 [a, b, c, d] = 0) : a = 0 ∧ b = 0 ∧ c = 0 ∧ d = 0 := by
  simp only [creg, List.foldl_cons, List.foldl_nil] at h
  have l1 := cbyte_lt 0 a (by omega) ha
  have l2 := cbyte_lt _ b l1 hb
  have l3 := cbyte_lt _ c l2 hc
  have h3 := byte_back l3 (by omega) hd h
  have e3 : cbyte (cbyte (cbyte 0 a) b) c = d := by rw [Nat.mul_zero] at h3; exact xor_eq_zero h3
  have h2 := byte_back l2 (by omega) hc e3
  have e2 := xor_shift h2
  have b2 : 256 * d ^^^ c < 2 ^ 16 := Nat.xor_lt_two_pow (by omega) (by omega)
  have h1 := byte_back l1 (y := 256 * d ^^^ c) (by omega) hb e2
  have e1 := xor_shift h1
  have b1 : 256 * (256 * d ^^^ c) ^^^ b < 2 ^ 24 := Nat.xor_lt_two_pow (by omega) (by omega)
  have h0 := byte_back (y := 256 * (256 * d ^^^ c) ^^^ b) (by omega) (by omega) ha e1
  rw [Nat.zero_xor] at h0
  have z0 : 256 * (256 * d ^^^ c) ^^^ b = 0 := by omega
  have z1 := xor_eq_zero z0
  have z2 : 256 * d ^^^ c = 0 := by omega
  have z3 := xor_eq_zero z2
  omega
theorem zip4_len (w x : List Nat) (hw : w.length = 4) (hx : x.length = 4) : (List.zipWith (· ^^^ ·) w x).length = 4 := by simp; omega
theorem len4 (x : List Nat) (h : x.length = 4) : ∃ a b c d, x = [a, b, c, d] := by
  match x, h with
  | [a, b, c, d], _ => exact ⟨a, b, c, d, rfl⟩
/-- Four bytes beside one another that are turned turn the sum. -/
theorem csum_window (p w q x : List Nat) (hp : ∀ y ∈ p, y < 256) (hw : ∀ y ∈ w, y < 256) (hq : ∀ y ∈ q, y < 256) (hx : ∀ y ∈ x, y < 256) (lw : w.length = 4) (lx : x.length = 4) (h0 : x ≠ [0, 0, 0, 0]) :
    csum (p ++ (List.zipWith (· ^^^ ·) w x ++ q)) ≠ csum (p ++ (w ++ q)) := by
  intro h
  have hz : ∀ y ∈ List.zipWith (· ^^^ ·) w x, y < 256 := by
    intro y hy
    rw [List.mem_iff_getElem] at hy
    obtain ⟨i, hi, rfl⟩ := hy
    rw [List.getElem_zipWith]
    exact xor_lt (hw _ (List.getElem_mem _)) (hx _ (List.getElem_mem _))
  have hR : creg 4294967295 p < 2 ^ 32 := creg_lt p hp _ (by omega)
  have hA : creg (creg 4294967295 p) (List.zipWith (· ^^^ ·) w x) < 2 ^ 32 := creg_lt _ hz _ hR
  have hB : creg (creg 4294967295 p) w < 2 ^ 32 := creg_lt _ hw _ hR
  have hA2 := creg_lt q hq _ hA
  have hB2 := creg_lt q hq _ hB
  have e : creg (creg (creg 4294967295 p) (List.zipWith (· ^^^ ·) w x)) q = creg (creg (creg 4294967295 p) w) q := by
    unfold csum at h
    rw [creg_append, creg_append, creg_append, creg_append] at h
    omega
  have e2 := creg_inj hq hA hB e
  have e3 := creg_zip w x hw hx (by omega) (creg 4294967295 p) 0
  rw [Nat.xor_zero, e2] at e3
  obtain ⟨a, b, c, d, rfl⟩ := len4 x lx
  have e4 : creg 0 [a, b, c, d] = 0 := by
    have : creg (creg 4294967295 p) w ^^^ creg (creg 4294967295 p) w = creg (creg 4294967295 p) w ^^^ (creg (creg 4294967295 p) w ^^^ creg 0 [a, b, c, d]) := by rw [← e3]
    rw [Nat.xor_self, ← Nat.xor_assoc, Nat.xor_self, Nat.zero_xor] at this
    exact this.symm
  obtain ⟨rfl, rfl, rfl, rfl⟩ := creg4_zero a b c d (hx _ (by simp)) (hx _ (by simp)) (hx _ (by simp)) (hx _ (by simp)) e4
  exact h0 rfl
theorem putB4_inj {x y : Nat} (hx : x < 2 ^ 32) (hy : y < 2 ^ 32) (h : putB 4 x = putB 4 y) : x = y := by
  simp [putB, List.range_succ] at h
  omega
theorem zip_ne (w x : List Nat) (lw : w.length = 4) (lx : x.length = 4) (h0 : x ≠ [0, 0, 0, 0]) : List.zipWith (· ^^^ ·) w x ≠ w := by
  intro h
  obtain ⟨a, b, c, d, rfl⟩ := len4 w lw
  obtain ⟨a', b', c', d', rfl⟩ := len4 x lx
  simp only [List.zipWith_cons_cons, List.zipWith_nil_left, List.cons.injEq, and_true] at h
  have z : ∀ {p q : Nat}, p ^^^ q = p → q = 0 := fun {p q} e => by
    have : p ^^^ (p ^^^ q) = p ^^^ p := by rw [e]
    rwa [← Nat.xor_assoc, Nat.xor_self, Nat.zero_xor] at this
  apply h0
  rw [z h.1, z h.2.1, z h.2.2.1, z h.2.2.2]
/-- The bytes x turned into l from place k on. -/
def turnAt (l x : List Nat) (k : Nat) : List Nat := l.take k ++ (List.zipWith (· ^^^ ·) ((l.drop k).take 4) x ++ l.drop (k + 4))
theorem tells_plain (l x : List Nat) (k : Nat) (hl : ∀ y ∈ l, y < 256) (hx : ∀ y ∈ x, y < 256) (lx : x.length = 4) (h0 : x ≠ [0, 0, 0, 0]) (hk : k = l.length ∨ k + 4 ≤ l.length) :
    sealB ((turnAt (sealB l) x k).take l.length) ≠ turnAt (sealB l) x k := by
  have ls := sealB_length l
  rcases hk with rfl | hk
  · intro h
    have e1 : turnAt (sealB l) x l.length = l ++ List.zipWith (· ^^^ ·) (putB 4 (csum l)) x := by
      unfold turnAt sealB
      rw [List.take_left' rfl, List.drop_left' rfl, List.take_of_length_le (by rw [putB_length]; omega), List.drop_of_length_le (by rw [List.length_append, putB_length]; omega), List.append_nil]
    rw [e1, List.take_left' rfl] at h
    unfold sealB at h
    have := List.append_cancel_left h
    exact zip_ne _ x (putB_length _ _) lx h0 this.symm
  · intro h
    have hpw : l = l.take k ++ ((l.drop k).take 4 ++ l.drop (k + 4)) := by
      rw [← List.drop_drop, List.take_append_drop, List.take_append_drop]
    have lw : ((l.drop k).take 4).length = 4 := by rw [List.length_take, List.length_drop]; omega
    have e1 : turnAt (sealB l) x k = (l.take k ++ (List.zipWith (· ^^^ ·) ((l.drop k).take 4) x ++ l.drop (k + 4))) ++ putB 4 (csum l) := by
      unfold turnAt sealB
      rw [List.take_append_of_le_length (by omega), List.drop_append_of_le_length (by omega), List.take_append_of_le_length (by rw [List.length_drop]; omega), List.drop_append_of_le_length (by omega)]
      simp only [List.append_assoc]
    have e2 : (l.take k ++ (List.zipWith (· ^^^ ·) ((l.drop k).take 4) x ++ l.drop (k + 4))).length = l.length := by
      rw [List.length_append, List.length_append, zip4_len _ _ lw lx, List.length_take, List.length_drop]; omega
    rw [e1, List.take_left' e2] at h
    unfold sealB at h
    have h := List.append_cancel_left h
    have hb : ∀ y ∈ l.take k ++ (List.zipWith (· ^^^ ·) ((l.drop k).take 4) x ++ l.drop (k + 4)), y < 256 := by
      intro y hy
      simp only [List.mem_append] at hy
      rcases hy with hy | hy | hy
      · exact hl y (List.mem_of_mem_take hy)
      · rw [List.mem_iff_getElem] at hy
        obtain ⟨i, hi, rfl⟩ := hy
        rw [List.getElem_zipWith]
        exact xor_lt (hl _ (List.mem_of_mem_drop (List.mem_of_mem_take (List.getElem_mem _)))) (hx _ (List.getElem_mem _))
      · exact hl y (List.mem_of_mem_drop hy)
    have h := putB4_inj (csum_lt _ hb) (csum_lt _ hl) h
    refine csum_window (l.take k) ((l.drop k).take 4) (l.drop (k + 4)) x (fun y hy => hl y (List.mem_of_mem_take hy)) (fun y hy => hl y (List.mem_of_mem_drop (List.mem_of_mem_take hy))) (fun y hy => hl y (List.mem_of_mem_drop hy)) hx lw lx h0 ?_
    rw [h, ← hpw]
def tn1 (l : List Nat) (j t : Nat) : List Nat := l.set j (l.getD j 0 ^^^ t)
theorem tn1_length (l : List Nat) (j t : Nat) : (tn1 l j t).length = l.length := by simp [tn1]
theorem tn1_zero (l : List Nat) (j : Nat) : tn1 l j 0 = l := by
  unfold tn1
  rw [Nat.xor_zero]
  apply List.ext_getElem
  · simp
  · intro i h1 h2
    rw [List.getElem_set]
    split
    · rename_i h; subst h; rw [List.getD_eq_getElem?_getD, List.getElem?_eq_getElem h2]; rfl
    · rfl
theorem turnAt_getElem? (l x : List Nat) (k i : Nat) (lx : x.length = 4) (hk : k + 4 ≤ l.length) (hi : i < l.length) :
    (turnAt l x k)[i]? = some (l.getD i 0 ^^^ (if k ≤ i then x.getD (i - k) 0 else 0)) := by
  unfold turnAt
  have h1 : (l.take k).length = k := by rw [List.length_take]; omega
  have h2 : (List.zipWith (· ^^^ ·) ((l.drop k).take 4) x).length = 4 := by rw [List.length_zipWith, List.length_take, List.length_drop]; omega
  have hg : l.getD i 0 = l[i] := by rw [List.getD_eq_getElem?_getD, List.getElem?_eq_getElem hi]; rfl
  by_cases a : i < k
  · rw [List.getElem?_append_left (by omega), List.getElem?_take, if_pos a, List.getElem?_eq_getElem hi, if_neg (by omega), Nat.xor_zero, hg]
  · rw [List.getElem?_append_right (by omega), h1, if_pos (by omega)]
    by_cases b : i < k + 4
    · rw [List.getElem?_append_left (by omega), List.getElem?_zipWith, List.getElem?_take, if_pos (by omega), List.getElem?_drop, show k + (i - k) = i from by omega, List.getElem?_eq_getElem hi, List.getElem?_eq_getElem (by omega), hg]
      simp only [List.getD_eq_getElem?_getD]
      rw [List.getElem?_eq_getElem (by omega)]
      rfl
    · rw [List.getElem?_append_right (by omega), h2, List.getElem?_drop, show k + 4 + (i - k - 4) = i from by omega, List.getElem?_eq_getElem hi, List.getD_eq_getElem?_getD (l := x), List.getElem?_eq_none (by omega), hg]
      simp
theorem tn1_turnAt (l : List Nat) (j t k d : Nat) (hj : j < l.length) (hd : d < 4) (hjk : j = k + d) (hk : k + 4 ≤ l.length) :
    tn1 l j t = turnAt l (List.replicate d 0 ++ t :: List.replicate (3 - d) 0) k := by
  have lx : (List.replicate d 0 ++ t :: List.replicate (3 - d) 0).length = 4 := by simp; omega
  apply List.ext_getElem?
  intro i
  by_cases hi : i < l.length
  · rw [turnAt_getElem? _ _ _ _ lx hk hi]
    unfold tn1
    rw [List.getElem?_set]
    by_cases e : j = i
    · subst e
      rw [if_pos rfl, if_pos hj, if_pos (by omega)]
      congr 2
      rw [List.getD_eq_getElem?_getD, List.getElem?_append_right (by rw [List.length_replicate]; omega), List.length_replicate, show j - k - d = 0 from by omega]
      rfl
    · rw [if_neg e, List.getElem?_eq_getElem hi]
      have hz : (if k ≤ i then (List.replicate d 0 ++ t :: List.replicate (3 - d) 0).getD (i - k) 0 else 0) = 0 := by
        split
        · rw [List.getD_eq_getElem?_getD]
          by_cases a : i - k < d
          · rw [List.getElem?_append_left (by rw [List.length_replicate]; exact a), List.getElem?_replicate, if_pos a]; rfl
          · rw [List.getElem?_append_right (by rw [List.length_replicate]; omega), List.length_replicate]
            obtain ⟨m, hm⟩ : ∃ m, i - k - d = m + 1 := ⟨i - k - d - 1, by omega⟩
            rw [hm, List.getElem?_cons_succ, List.getElem?_replicate]
            split <;> rfl
        · rfl
      rw [hz, Nat.xor_zero, List.getD_eq_getElem?_getD, List.getElem?_eq_getElem hi]
      rfl
  · rw [List.getElem?_eq_none (by rw [tn1_length]; omega), List.getElem?_eq_none]
    unfold turnAt
    rw [List.length_append, List.length_append, List.length_zipWith, List.length_take, List.length_take, List.length_drop, List.length_drop]
    omega
/-- A sealed block in which one byte is turned is none. -/
theorem openE_turned (l : List Nat) (j t : Nat) (hl : ∀ y ∈ l, y < 256) (h4 : 4 ≤ l.length) (hj : j < l.length + 4) (ht : t < 256) (h0 : t ≠ 0) : openE (ofB (tn1 (sealB l) j t)) ≠ 0 := by
  have hsl : ∀ y ∈ sealB l, y < 256 := by
    intro y hy
    unfold sealB at hy
    rcases List.mem_append.1 hy with h | h
    · exact hl y h
    · exact putB_lt _ _ y h
  have hlen := sealB_length l
  have hb : ∀ y ∈ tn1 (sealB l) j t, y < 256 := by
    intro y hy
    unfold tn1 at hy
    rcases List.mem_or_eq_of_mem_set hy with h | h
    · exact hsl y h
    · subst h
      refine Nat.xor_lt_two_pow (n := 8) ?_ ht
      rw [List.getD_eq_getElem?_getD, List.getElem?_eq_getElem (by omega)]
      exact hsl _ (List.getElem_mem _)
  obtain ⟨k, d, hd, hjk, hk⟩ : ∃ k d, d < 4 ∧ j = k + d ∧ (k = l.length ∨ k + 4 ≤ l.length) := by
    by_cases h : j < l.length
    · by_cases h2 : j + 4 ≤ l.length
      · exact ⟨j, 0, by omega, by omega, .inr h2⟩
      · exact ⟨l.length - 4, j - (l.length - 4), by omega, by omega, .inr (by omega)⟩
    · exact ⟨l.length, j - l.length, by omega, by omega, .inl rfl⟩
  have e := tn1_turnAt (sealB l) j t k d (by omega) hd hjk (by omega)
  have hx : ∀ y ∈ List.replicate d 0 ++ t :: List.replicate (3 - d) 0, y < 256 := by
    intro y hy
    simp only [List.mem_append, List.mem_replicate, List.mem_cons] at hy
    omega
  have hx0 : List.replicate d 0 ++ t :: List.replicate (3 - d) 0 ≠ [0, 0, 0, 0] := by
    intro h
    have : t ∈ [0, 0, 0, 0] := by rw [← h]; simp
    simp at this
    exact h0 this
  have key := tells_plain l _ k hl hx (by simp; omega) hx0 hk
  unfold openE
  rw [ofB_size, tn1_length, hlen, if_neg (by omega), sb_ofB _ hb, show l.length + 4 - 4 = l.length from by omega, e, if_neg key]
  decide
end Go.Proofs.Ytiailpbmmadaeaa
