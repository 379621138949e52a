/-
  Polynomials over the field of 256 bytes in plain Lean: lists of bytes, the highest power first; what their factors, sums, products and values are. No program in sight.
-/
import Derived.Test.YtlipedigmokgbaaGf0
namespace Tri

/-- All are bytes. -/
def bytesL (l : List Nat) : Prop := ∀ x ∈ l, x < 256
/-- Without noughts ahead. -/
def trim : List Nat → List Nat
  | [] => []
  | a :: l => if a = 0 then trim l else a :: l
/-- The factor of the power i. -/
def co (l : List Nat) (i : Nat) : Nat := l.reverse.getD i 0
/-- A value. -/
def pevalFrom (x : Nat) : Nat → List Nat → Nat
  | s, [] => s
  | s, a :: l => pevalFrom x (gmul s x ^^^ a) l
def peval (x : Nat) (l : List Nat) : Nat := pevalFrom x 0 l

theorem trim_length_le (l : List Nat) : (trim l).length ≤ l.length := by
  induction l with
  | nil => exact Nat.le_refl _
  | cons a l ih => unfold trim; split <;> simp <;> omega
theorem trim_bytes {l : List Nat} (h : bytesL l) : bytesL (trim l) := by
  induction l with
  | nil => exact h
  | cons a l ih =>
    unfold trim; split
    · exact ih fun x hx => h x (by simp [hx])
    · exact h
theorem trim_suffix (l : List Nat) : ∃ k, l = List.replicate k 0 ++ trim l := by
  induction l with
  | nil => exact ⟨0, rfl⟩
  | cons a l ih =>
    unfold trim
    split
    · rename_i h
      obtain ⟨k, hk⟩ := ih
      exact ⟨k + 1, by rw [List.replicate_succ, List.cons_append, ← hk, h]⟩
    · exact ⟨0, rfl⟩
theorem trim_head (l : List Nat) (h : trim l ≠ []) : (trim l).getD 0 0 ≠ 0 := by
  induction l with
  | nil => exact absurd rfl h
  | cons a l ih =>
    by_cases e : a = 0
    · simp only [trim, if_pos e] at h ⊢; exact ih h
    · simp only [trim, if_neg e]; simpa using e
theorem trim_trim (l : List Nat) : trim (trim l) = trim l := by
  induction l with
  | nil => rfl
  | cons a l ih =>
    by_cases h : a = 0
    · simp only [trim, if_pos h]; exact ih
    · simp only [trim, if_neg h]
theorem co_lt {l : List Nat} (h : bytesL l) (i : Nat) : co l i < 256 := by
  unfold co
  by_cases hi : i < l.reverse.length
  · rw [List.getD_eq_getElem?_getD, List.getElem?_eq_getElem hi]
    exact h _ (List.mem_reverse.1 (List.getElem_mem hi))
  · rw [List.getD_eq_getElem?_getD, List.getElem?_eq_none (by omega)]; simp
theorem co_ge (l : List Nat) (i : Nat) (h : l.length ≤ i) : co l i = 0 := by
  unfold co
  rw [List.getD_eq_getElem?_getD, List.getElem?_eq_none (by simpa using h)]; rfl
theorem co_append (l m : List Nat) (i : Nat) : co (l ++ m) i = if i < m.length then co m i else co l (i - m.length) := by
  unfold co
  rw [List.reverse_append, List.getD_eq_getElem?_getD, List.getD_eq_getElem?_getD, List.getD_eq_getElem?_getD]
  split
  · rw [List.getElem?_append_left (by simpa using ‹i < m.length›)]
  · rw [List.getElem?_append_right (by simp; omega)]; simp
theorem co_zeros (k : Nat) (l : List Nat) (i : Nat) : co (List.replicate k 0 ++ l) i = co l i := by
  rw [co_append]
  split
  · rfl
  · rw [co_ge l i (by omega)]
    unfold co
    rw [List.reverse_replicate, List.getD_eq_getElem?_getD, List.getElem?_replicate]
    split <;> rfl
theorem co_trim (l : List Nat) (i : Nat) : co (trim l) i = co l i := by
  obtain ⟨k, hk⟩ := trim_suffix l
  conv => rhs; rw [hk, co_zeros]
theorem co_top (a : Nat) (l : List Nat) : co (a :: l) l.length = a := by
  unfold co
  simp
theorem co_cons_lt (a : Nat) (l : List Nat) (i : Nat) (h : i < l.length) : co (a :: l) i = co l i := by
  have := co_append [a] l i
  rw [if_pos h] at this
  exact this
/-- Lists without noughts ahead are told by their factors. -/
theorem trim_ext {l m : List Nat} (h : ∀ i, co l i = co m i) : trim l = trim m := by
  have key : ∀ (l m : List Nat), trim l = l → trim m = m → (∀ i, co l i = co m i) → l.length ≤ m.length → l = m := by
    intro l m hl hm h hle
    have hlen : l.length = m.length := by
      cases m with
      | nil => simp at hle; simp [hle]
      | cons b m =>
        have hb : b ≠ 0 := by
          intro e
          have h2 := trim_length_le m
          have h3 := congrArg List.length hm
          simp only [trim, if_pos e, List.length_cons] at h3
          omega
        by_cases e : l.length = (b :: m).length
        · exact e
        · exfalso
          simp only [List.length_cons] at hle e
          have := h m.length
          rw [co_top, co_ge l _ (by omega)] at this
          exact hb this.symm
    apply List.reverse_inj.1
    apply List.ext_getElem (by simpa using hlen)
    intro i h1 h2
    have := h i
    unfold co at this
    rwa [List.getD_eq_getElem?_getD, List.getD_eq_getElem?_getD, List.getElem?_eq_getElem h1, List.getElem?_eq_getElem h2] at this
  have h' : ∀ i, co (trim l) i = co (trim m) i := fun i => by rw [co_trim, co_trim, h]
  rcases Nat.le_total (trim l).length (trim m).length with hle | hle
  · exact key _ _ (trim_trim l) (trim_trim m) h' hle
  · exact (key _ _ (trim_trim m) (trim_trim l) (fun i => (h' i).symm) hle).symm
end Tri
