/-
  What is known of the slots, plainly: what a record does to it (no program in sight).
-/
import Derived.Test.YtngkmlchblgmeaaLad1
import Derived.Test.YtngkmlchblgmeaaRec2
namespace Tri
open Go.Proofs.Ytngkmlchblgmeaa
/-- What is known. -/
structure Mt where
  s0 : Int
  v0 : Int
  b0 : Int
  s1 : Int
  v1 : Int
  b1 : Int
  s2 : Int
  v2 : Int
  b2 : Int
  ac : Int
  fl : Int
  cu : Int
  it : Int
def Mt.st (m : Mt) (i : Int) : Int := if i = 0 then m.s0 else if i = 1 then m.s1 else m.s2
def Mt.ver (m : Mt) (i : Int) : Int := if i = 0 then m.v0 else if i = 1 then m.v1 else m.v2
def Mt.bas (m : Mt) (i : Int) : Int := if i = 0 then m.b0 else if i = 1 then m.b1 else m.b2
def Mt.set (m : Mt) (i s v b : Int) : Mt :=
  if i = 0 then { m with s0 := s, v0 := v, b0 := b } else if i = 1 then { m with s1 := s, v1 := v, b1 := b } else { m with s2 := s, v2 := v, b2 := b }
def Mt.act (m : Mt) (i : Int) : Mt := { m with ac := i }
def Mt.bad (m : Mt) (i : Int) : Mt := if m.ac = i then (m.set i 5 0 0).act 0 else m.set i 5 0 0
/-- Which slot is on trial; -1: none. -/
def Mt.tri (m : Mt) : Int := if m.s0 = 3 then 0 else if m.s1 = 3 then 1 else if m.s2 = 3 then 2 else -1
def Mt.idle (m : Mt) (i : Int) : Bool := decide (i ≠ 0) && (decide (i ≠ m.ac) && decide (m.st i ≠ 3))
def Mt.tryS (m : Mt) (i v : Int) : Option Mt := if 0 ≤ m.tri ∨ m.st i ≠ 2 ∨ 512 < v then none else some ((m.set i 3 (m.ver i) v).act i)
def Mt.conf (m : Mt) (i : Int) : Option Mt := if m.st i ≠ 3 then none else some { m.set i 4 (m.ver i) 0 with fl := if m.fl < m.ver i then m.ver i else m.fl }
def Mt.actv (m : Mt) (i : Int) : Option Mt := if i ≠ 0 ∧ m.st i ≠ 4 then none else some ((if 0 ≤ m.tri then m.bad m.tri else m).act i)
def Mt.drop (m : Mt) (i : Int) : Option Mt := if m.ac ≤ 0 ∨ 3 ≤ m.ac ∨ i = m.ac ∨ (i ≠ 0 ∧ m.st i ≠ 4) then none else some ((m.bad m.ac).act i)
def Mt.told (m : Mt) (k i v : Int) : Option Mt :=
  if k = 111 then (if v ≤ 512 then some (m.set i (m.st i) (m.ver i) v) else none)
  else if k = 110 then some (m.act i) else some (m.set i (k - 100) v (m.bas i))
/-- What a record does to its slot. -/
def Mt.slot (m : Mt) (k i v : Int) : Option Mt :=
  if k = 1 then (if m.idle i then some (m.set i 1 0 0) else none)
  else if k = 2 then (if m.st i = 1 then some (m.set i 2 v 0) else none)
  else if k = 3 then m.tryS i v
  else if k = 4 then m.conf i
  else if k = 5 then (if i = 0 ∨ m.st i = 0 then none else some (m.bad i))
  else if k = 6 then (if m.idle i then some (m.set i 0 0 0) else none)
  else if k = 7 then m.actv i
  else if k = 13 then m.drop i
  else if k = 12 then (if i = 0 ∨ ¬ (m.st i = 5 ∨ m.st i = 1) then none else some (m.set i 4 v 0))
  else m.told k i v
def Mt.other (m : Mt) (k v : Int) : Option Mt :=
  if k = 8 then (if v ≤ m.fl then none else some { m with fl := v })
  else if k = 9 then some { m with cu := v }
  else if k = 10 then (if v = 0 ∨ m.it ≠ 0 then none else some { m with it := v })
  else (if m.it = 0 then none else some { m with it := 0 })
def speaksK (k : Int) : Bool := decide ((1 ≤ k ∧ k ≤ 7) ∨ (100 ≤ k ∧ k ≤ 105) ∨ k = 12 ∨ k = 13 ∨ k = 110 ∨ k = 111)
def othersK (k : Int) : Bool := decide (8 ≤ k ∧ k ≤ 11)
/-- The error's number, and what is known then. -/
def Mt.doR (m : Mt) (k s n v : Int) : Mt × Int :=
  if recOk k s n v = false ∨ (speaksK k = false ∧ othersK k = false) ∨ (speaksK k = true ∧ 3 ≤ s) then (m, 1)
  else match (if othersK k = true then m.other k v else m.slot k s v) with
    | none => (m, 10)
    | some m' => (m', 0)
def Mt.ok (m : Mt) : Prop := metaP m.s0 m.v0 m.b0 m.s1 m.v1 m.b1 m.s2 m.v2 m.b2 m.ac m.fl m.cu m.it
def Mt.new : Mt := ⟨4, 0, 0, 0, 0, 0, 0, 0, 0, 0, 0, 0, 0⟩
theorem Mt.new_ok : Mt.new.ok := by unfold Mt.new Mt.ok; decide
set_option maxHeartbeats 8000000 in
set_option linter.unusedSimpArgs false in
theorem Mt.slot_ok {m m' : Mt} {k i v : Int} (h : m.ok) (hk : (1 ≤ k ∧ k ≤ 7) ∨ k = 12 ∨ k = 13) (hi : i = 0 ∨ i = 1 ∨ i = 2) (hv : 0 ≤ v ∧ v ≤ 281474976710655) (e : m.slot k i v = some m') : m'.ok := by
  obtain ⟨s0, v0, b0, s1, v1, b1, s2, v2, b2, ac, fl, cu, it⟩ := m
  have hk2 : k = 1 ∨ k = 2 ∨ k = 3 ∨ k = 4 ∨ k = 5 ∨ k = 6 ∨ k = 7 ∨ k = 12 ∨ k = 13 := by omega
  unfold Mt.ok metaP slotP at h
  dsimp only at h
  rcases hk2 with rfl | rfl | rfl | rfl | rfl | rfl | rfl | rfl | rfl <;> rcases hi with rfl | rfl | rfl
  all_goals
    simp only [Mt.slot, Mt.idle, Mt.tryS, Mt.conf, Mt.actv, Mt.drop, Mt.bad, Mt.tri, Mt.st, Mt.ver, Mt.set, Mt.act, Int.reduceEq, if_true, if_false, reduceIte, ne_eq, not_true_eq_false, not_false_eq_true, true_or, or_true, false_or, or_false, false_and, true_and, decide_false, decide_true, Bool.false_and, Bool.true_and, Bool.and_eq_true, decide_eq_true_eq, reduceCtorEq, Bool.false_eq_true] at e
    try (repeat' split at e)
    all_goals try simp only [Option.some.injEq, reduceCtorEq] at e
    all_goals try subst e
    all_goals try (unfold Mt.ok metaP slotP; dsimp only; omega)
theorem Mt.other_ok {m m' : Mt} {k v : Int} (h : m.ok) (hv : 0 ≤ v ∧ v ≤ 281474976710655) (e : m.other k v = some m') : m'.ok := by
  obtain ⟨s0, v0, b0, s1, v1, b1, s2, v2, b2, ac, fl, cu, it⟩ := m
  unfold Mt.ok metaP slotP at h
  dsimp only at h
  unfold Mt.other at e
  dsimp only at e
  repeat' split at e
  all_goals try simp only [Option.some.injEq, reduceCtorEq] at e
  all_goals subst e; unfold Mt.ok metaP slotP; dsimp only; omega
theorem recOkI_iff {k s n v : Int} : recOk k s n v = true ↔ (0 ≤ k ∧ k ≤ 127) ∧ (0 ≤ s ∧ s ≤ 3) ∧ (0 ≤ n ∧ n ≤ 65535) ∧ (0 ≤ v ∧ v ≤ 281474976710655) := by
  unfold recOk; simp only [Bool.and_eq_true, decide_eq_true_eq]
theorem Mt.doR_ok {m : Mt} {k s n v : Int} (h : m.ok) (hk : k ≤ 13) : (m.doR k s n v).1.ok := by
  unfold Mt.doR
  split
  · exact h
  · rename_i hc
    have hr : recOk k s n v = true := by cases hh : recOk k s n v <;> simp_all
    obtain ⟨h1, h2, h3, h4⟩ := recOkI_iff.1 hr
    split
    · exact h
    · rename_i m' e
      split at e
      · exact Mt.other_ok h h4 e
      · rename_i ho
        have ho' : othersK k = false := by simpa using ho
        have hs : speaksK k = true := by cases hh : speaksK k <;> simp_all
        have hs3 : ¬ 3 ≤ s := by intro hh; exact hc (.inr (.inr ⟨hs, hh⟩))
        unfold speaksK at hs
        rw [decide_eq_true_eq] at hs
        exact Mt.slot_ok h (by omega) (by omega) h4 e
/-- A trial is the active slot's. -/
theorem Mt.tri_eq {m : Mt} (h : m.ok) (ht : 0 ≤ m.tri) : (m.tri = 1 ∨ m.tri = 2) ∧ m.ac = m.tri ∧ m.st m.tri = 3 := by
  obtain ⟨s0, v0, b0, s1, v1, b1, s2, v2, b2, ac, fl, cu, it⟩ := m
  unfold Mt.ok metaP slotP at h
  unfold Mt.tri at ht ⊢
  dsimp only [Mt.st] at *
  repeat' split
  all_goals simp_all
  all_goals try omega
end Tri
