/-
  Slices of bytes in the program: slices.Clone and slices.IndexFunc, and poly.Trim.
  Conditions: slices of at most 1000000 bytes.
-/
import Derived.Test.YtlipedigmokgbaaStr
import Derived.Test.YtlipedigmokgbaaPoly0
namespace Go.Proofs.Ytlipedigmokgbaa
open Go.RowKit Tri

/-- A slice that the call has made: its bytes. -/
def ownsB (w : World) (base : Nat) (v : Value) (l : List Nat) : Prop := w.ownsRow base 5 1 v l.length (l.map fun x => Value.int .u8 (x : Nat))
theorem ownsB.cells {w : World} {base : Nat} {v : Value} {l : List Nat} (h : ownsB w base v l) : ∃ p c, v = .slice p l.length c ∧ cellsB w p l := by
  obtain ⟨p, c, e, _, hc⟩ := cells_of_owns h
  exact ⟨p, c, e, hc⟩
theorem Try.infoB : (Try.prog.info? 5).map (fun i => (i.zero, i.size, i.bytes)) = some (some (.int .u8 0), 1, 1) := by kernel_rfl

set_option maxHeartbeats 400000 in
set_option maxRecDepth 100000 in
theorem sl_Clone_some (a o n c : Nat) (l : List Nat) (w : World) (hn : n = l.length) (hp : cellsB w (some ⟨a, o, none⟩) l) (hl : l.length ≤ 1000000) :
    Calls Try.prog 56 #[.slice (some ⟨a, o, none⟩) n c] w fun e w' => ∃ v, e = .returned v ∧ ownsB w' w.heap.size v l ∧ Below w.heap.size w w' := by
  subst hn
  have HP := hid hp
  clear hp
  obtain ⟨i0, hi, hz0, hz1, hz2⟩ := info_parts Try.infoB
  have hnil := fun (w : World) (a : Option Addr) (n c : Nat) => Lib.run_eql_slice_nil (P := Try.prog) w 28 5 a n c 0 0 Try.underlying28
  go_enter Try.func56, Try.ntmps56
  go_wp2_with (at_builtin; refine wpList_append_own _ rfl _ _ 28 rfl w.heap.size 5 i0 (.int .u8 0) 1 1 Try.underlying28 hi hz0 hz1 hz2 rfl (by decide) _ 0 [] rfl ?c0 ⟨a, o, none⟩ l.length c (l.map fun x => Value.int .u8 (x : Nat)) rfl ?c1a ?c1 ?c2 ?c3 ?c4 ?c5 ?_)
  case c0 => exact World.ownsRow_lit w #[] 0 (Nat.le_refl _) (by unfold maxLen; omega) rfl
  case c1a => simp
  case c1 =>
    intro j u hj
    rw [List.getElem?_map] at hj
    have hlt : j < l.length := by
      by_cases h : j < l.length
      · exact h
      · rw [List.getElem?_eq_none (by omega)] at hj; simp at hj
    obtain ⟨a', o', e, hc⟩ := HP.out.alloc (.cells #[] 5) j hlt
    simp only [Option.some.injEq, Addr.mk.injEq] at e
    obtain ⟨rfl, rfl, _⟩ := e
    rw [List.getElem?_eq_getElem hlt] at hj
    simp only [Option.map_some, Option.some.injEq] at hj
    subst hj
    rw [getD_of l j hlt] at hc
    rw [show (⟨a, o, none⟩ : Addr).add j = ⟨a, o + j, none⟩ from by simp [Addr.add]]
    exact hc
  case c2 => intro u hu; rw [List.mem_map] at hu; obtain ⟨x, _, rfl⟩ := hu; rfl
  case c3 => unfold maxLen; omega
  case c4 => omega
  case c5 => simp
  intro v' w1 hown' hgrow _
  have hO : Hid (ownsB w1 w.heap.size v' l) := by
    show ownsB _ _ _ _
    unfold ownsB
    simpa using hown'
  have hB : Hid (Below w.heap.size w w1) := ((Below.refl _ _).alloc (Nat.le_refl _) _).grown hgrow (by simp) (by intro k hk; simp [Value.ownBlock] at hk; omega)
  clear hown' hgrow
  go_wp2
  go_ret
  exact ⟨v', rfl, hO.out, hB.out⟩
/-- Where the first byte stands that isn't 0. -/
def firstNz : List Nat → Nat
  | [] => 0
  | a :: l => if a = 0 then firstNz l + 1 else 0
def idxNz (l : List Nat) : Int := if firstNz l < l.length then (firstNz l : Int) else -1
theorem firstNz_le (l : List Nat) : firstNz l ≤ l.length := by
  induction l with
  | nil => exact Nat.le_refl _
  | cons a l ih => unfold firstNz; split <;> simp <;> omega
theorem firstNz_zero (l : List Nat) : ∀ j, j < firstNz l → l.getD j 0 = 0 := by
  induction l with
  | nil => intro j hj; simp [firstNz] at hj
  | cons a l ih =>
    intro j hj
    unfold firstNz at hj
    split at hj
    · cases j with
      | zero => simpa
      | succ j => simpa using ih j (by omega)
    · omega
theorem firstNz_at (l : List Nat) (h : firstNz l < l.length) : l.getD (firstNz l) 0 ≠ 0 := by
  induction l with
  | nil => simp at h
  | cons a l ih =>
    by_cases e : a = 0
    · simp only [firstNz, if_pos e] at h ⊢
      simp at h
      simpa using ih h
    · simp only [firstNz, if_neg e]; simpa using e
theorem trim_drop (l : List Nat) : trim l = l.drop (firstNz l) := by
  induction l with
  | nil => rfl
  | cons a l ih =>
    by_cases e : a = 0
    · simp only [trim, firstNz, if_pos e]; exact ih
    · simp only [trim, firstNz, if_neg e]; rfl
theorem trim_nil (l : List Nat) (h : firstNz l = l.length) : trim l = [] := by rw [trim_drop, h, List.drop_length]

set_option maxHeartbeats 400000 in
theorem poly_isnt (x : Nat) (w : World) : Calls Try.prog 58 #[.int .u8 x] w fun e w' => e = .returned (.bool ((x : Int) != 0)) ∧ w = w' := by
  go_enter Try.func58, Try.ntmps58
  go_wp2
  go_ret
  exact ⟨rfl, rfl⟩
set_option maxHeartbeats 1000000 in
theorem sl_IndexFunc (p : Option Addr) (n c : Nat) (l : List Nat) (w : World) (hn : n = l.length) (hp : cellsB w p l) (hl : l.length ≤ 1000000) :
    Calls Try.prog 57 #[.slice p n c, .func (.func 58) #[] #[]] w
      fun e w' => e = .returned (.int .i64 (idxNz l)) ∧ w = w' := by
  subst hn
  have HP := hid hp
  clear hp
  go_enter Try.func57, Try.ntmps57
  go_wp2
  go_loop [8] (fun i => ∃ k : Nat, k ≤ firstNz l ∧ i = .int .i64 k) (fun i => l.length - (intOf i).toNat)
  case atStart => exact ⟨0, Nat.zero_le _, rfl⟩
  case round =>
    obtain ⟨k, hk, rfl⟩ := hrel
    have hf := firstNz_le l
    by_cases hlt : k < l.length
    · obtain ⟨a, o, rfl, hc⟩ := HP.out k hlt
      by_cases hkf : k < firstNz l
      · have hz := firstNz_zero l k hkf
        rw [hz] at hc
        go_wp2_with fail
        refine Calls.mono (poly_isnt 0 w) ?_; rintro e w' ⟨rfl, rfl⟩
        go_wp2
        go_round
        case rel => exact ⟨k + 1, by omega, by go_num⟩
        case measure => simp [intOf]; omega
      · have hke : Hid (firstNz l = k) := (show firstNz l = k by omega)
        have hnz : ((l.getD k 0 : Int) != 0) = true := by have := firstNz_at l (by omega); rw [hke.out] at this; simp only [bne_iff_ne]; omega
        have hres : Hid (idxNz l = (k : Int)) := by show _ = _; unfold idxNz; rw [hke.out, if_pos hlt]
        generalize l.getD k 0 = x at *
        go_wp2_with fail
        refine Calls.mono (poly_isnt x w) ?_; rintro e w' ⟨rfl, rfl⟩
        go_wp2
        go_ret
        exact ⟨by rw [hres.out]; rfl, rfl⟩
    · have hres : Hid (idxNz l = -1) := by show _ = _; unfold idxNz; rw [if_neg (by omega)]
      go_wp2
      go_ret
      exact ⟨by rw [hres.out]; rfl, rfl⟩
/-- What a call hands back in new memory: bytes. -/
def RetB (w : World) (l : List Nat) (e : Ending) (w' : World) : Prop := ∃ v, e = .returned v ∧ ownsB w' w.heap.size v l ∧ Below w.heap.size w w'
theorem cellsB.drop {w : World} {a o : Nat} {l : List Nat} (h : cellsB w (some ⟨a, o, none⟩) l) (k : Nat) : cellsB w (some ⟨a, o + k, none⟩) (l.drop k) := by
  intro i hi
  rw [List.length_drop] at hi
  obtain ⟨a', o', e, hc⟩ := h (k + i) (by omega)
  simp only [Option.some.injEq, Addr.mk.injEq] at e
  obtain ⟨rfl, rfl, _⟩ := e
  refine ⟨_, _, rfl, ?_⟩
  rw [Nat.add_assoc, hc]
  simp [List.getD_eq_getElem?_getD]
set_option maxHeartbeats 400000 in
theorem poly_Trim (p : Option Addr) (n c : Nat) (l : List Nat) (w : World) (hn : n = l.length) (hc : n ≤ c) (hp : cellsB w p l) (hl : l.length ≤ 1000000) :
    Calls Try.prog 32 #[.slice p n c] w (RetB w (trim l)) := by
  subst hn
  have HP := hid hp
  clear hp
  have hf := firstNz_le l
  go_enter Try.func32, Try.ntmps32
  go_wp2_with fail
  refine Calls.mono (sl_IndexFunc p _ c l w rfl HP.out hl) ?_; rintro e w' ⟨rfl, rfl⟩
  by_cases h : firstNz l < l.length
  · have hi : idxNz l = (firstNz l : Int) := by unfold idxNz; rw [if_pos h]
    obtain ⟨a, o, rfl, _⟩ := HP.out 0 (by omega)
    have hd : Hid (cellsB w (some ⟨a, o + firstNz l, none⟩) (trim l)) := by rw [trim_drop]; exact HP.out.drop _
    have hlen : Hid (l.length - firstNz l = (trim l).length) := by show _ = _; rw [trim_drop, List.length_drop]
    rw [hi]
    clear hi
    generalize firstNz l = f at *
    go_wp2_with fail
    refine Calls.mono (sl_Clone_some a (o + f) _ _ (trim l) w hlen.out hd.out (by have := hlen.out; omega)) ?_; rintro e w1 ⟨v, rfl, hO, hB⟩
    have HO := hid hO
    have HB := hid hB
    clear hO hB
    go_wp2
    go_ret
    exact ⟨v, rfl, HO.out, HB.out⟩
  · have hi : idxNz l = -1 := by unfold idxNz; rw [if_neg h]
    have ht : Hid (trim l = []) := trim_nil l (by omega)
    rw [hi]
    clear hi
    go_wp2
    go_ret
    exact ⟨_, rfl, by rw [ht.out]; exact World.ownsRow_nil _ _ _ _, Below.refl _ _⟩
end Go.Proofs.Ytlipedigmokgbaa
