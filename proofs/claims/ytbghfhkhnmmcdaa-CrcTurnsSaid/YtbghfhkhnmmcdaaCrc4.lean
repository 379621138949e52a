/-
  CrcTurns, walked: what turns a text turns its sum by what it does alone.
-/
import Derived.Test.YtbghfhkhnmmcdaaCrc3
namespace Go.Proofs.Ytbghfhkhnmmcdaa
open Go.RowKit Tri

theorem xor4 (f a b c : Nat) : (((f ^^^ a) ^^^ (f ^^^ b)) ^^^ (f ^^^ c)) ^^^ (f ^^^ (a ^^^ (b ^^^ c))) = 0 := by
  apply Nat.eq_of_testBit_eq
  intro i
  simp only [Nat.testBit_xor, Nat.zero_testBit]
  cases f.testBit i <;> cases a.testBit i <;> cases b.testBit i <;> cases c.testBit i <;> rfl
theorem csum_xor (l : List Nat) (h : ∀ x ∈ l, x < 256) : csum l = 4294967295 ^^^ creg 4294967295 l := by
  rw [not_xor _ (creg_lt l h _ (by omega))]; rfl
theorem turns_plain (a b c : List Nat) (ha : ∀ x ∈ a, x < 256) (hb : ∀ x ∈ b, x < 256) (hc : ∀ x ∈ c, x < 256) (h1 : b.length = a.length) (h2 : c.length = a.length)
    (d : List Nat) (hd : d = List.zipWith (· ^^^ ·) a (List.zipWith (· ^^^ ·) b c)) : ((csum a ^^^ csum b) ^^^ csum c) ^^^ csum d = 0 := by
  have hz : ∀ (l m : List Nat), (∀ x ∈ l, x < 256) → (∀ x ∈ m, x < 256) → ∀ x ∈ List.zipWith (· ^^^ ·) l m, x < 256 := by
    intro l m hl hm x hx
    rw [List.mem_iff_getElem] at hx
    obtain ⟨i, hi, rfl⟩ := hx
    rw [List.getElem_zipWith]
    exact xor_lt (hl _ (List.getElem_mem _)) (hm _ (List.getElem_mem _))
  have hbc := hz b c hb hc
  have hdl : ∀ x ∈ d, x < 256 := by rw [hd]; exact hz _ _ ha hbc
  rw [csum_xor a ha, csum_xor b hb, csum_xor c hc, csum_xor d hdl]
  have e : creg 4294967295 d = creg 4294967295 a ^^^ (creg 4294967295 b ^^^ creg 4294967295 c) := by
    have := creg_zip a (List.zipWith (· ^^^ ·) b c) ha hbc (by simp; omega) 4294967295 0
    have h3 := creg_zip b c hb hc (by omega) 4294967295 4294967295
    rw [Nat.xor_self] at h3
    rw [Nat.xor_zero] at this
    rw [hd, this, h3]
  rw [e]
  exact xor4 _ _ _ _

/-- What lies in the new bytes behind k rounds. -/
def turned (a b c : List Nat) (k : Nat) : List Nat := (List.zipWith (· ^^^ ·) a (List.zipWith (· ^^^ ·) b c)).take k ++ a.drop k
theorem turned_length (a b c : List Nat) (k : Nat) (h1 : b.length = a.length) (h2 : c.length = a.length) : (turned a b c k).length = a.length := by
  unfold turned
  simp
  omega
theorem turned_at (a b c : List Nat) (k : Nat) (h1 : b.length = a.length) (h2 : c.length = a.length) (hk : k < a.length) : (turned a b c k).getD k 0 = a.getD k 0 := by
  unfold turned
  rw [List.getD_eq_getElem?_getD, List.getElem?_append_right (by simp; omega)]
  simp
  rw [show k + (k - min k (min a.length (min b.length c.length))) = k from by omega]
theorem turned_succ (a b c : List Nat) (k : Nat) (h1 : b.length = a.length) (h2 : c.length = a.length) (hk : k < a.length) :
    (turned a b c k).set k (a.getD k 0 ^^^ (b.getD k 0 ^^^ c.getD k 0)) = turned a b c (k + 1) := by
  unfold turned
  apply List.ext_getElem?
  intro i
  have hz : (List.zipWith (· ^^^ ·) a (List.zipWith (· ^^^ ·) b c)).length = a.length := by simp; omega
  have hlen : (List.take k (List.zipWith (· ^^^ ·) a (List.zipWith (· ^^^ ·) b c)) ++ List.drop k a).length = a.length := by simp; omega
  rw [List.getElem?_set]
  by_cases e : k = i
  · subst e
    rw [if_pos rfl, if_pos (by omega), List.getElem?_append_left (by simp; omega)]
    simp [List.getElem?_zipWith, hk, h1, h2]
  · rw [if_neg e]
    by_cases hlt : i < k
    · rw [List.getElem?_append_left (by simp; omega), List.getElem?_append_left (by simp; omega)]
      simp [List.getElem?_take, hlt, show i < k + 1 from by omega]
    · rw [List.getElem?_append_right (by simp; omega), List.getElem?_append_right (by simp; omega), List.getElem?_drop, List.getElem?_drop]
      congr 1
      simp
      omega
theorem turned_all (a b c : List Nat) (h1 : b.length = a.length) (h2 : c.length = a.length) : turned a b c a.length = List.zipWith (· ^^^ ·) a (List.zipWith (· ^^^ ·) b c) := by
  unfold turned
  rw [List.take_of_length_le (by simp; omega), List.drop_length, List.append_nil]
theorem turned_lt (a b c : List Nat) (ha : ∀ x ∈ a, x < 256) (hb : ∀ x ∈ b, x < 256) (hc : ∀ x ∈ c, x < 256) (k : Nat) : ∀ x ∈ turned a b c k, x < 256 := by
  intro x hx
  unfold turned at hx
  rw [List.mem_append] at hx
  rcases hx with hx | hx
  · have hx := List.mem_of_mem_take hx
    rw [List.mem_iff_getElem] at hx
    obtain ⟨i, hi, rfl⟩ := hx
    rw [List.getElem_zipWith, List.getElem_zipWith]
    exact xor_lt (ha _ (List.getElem_mem _)) (xor_lt (hb _ (List.getElem_mem _)) (hc _ (List.getElem_mem _)))
  · exact ha x (List.mem_of_mem_drop hx)
end Go.Proofs.Ytbghfhkhnmmcdaa
