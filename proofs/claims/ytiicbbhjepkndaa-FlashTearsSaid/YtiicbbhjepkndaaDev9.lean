/-
  A device: Lock, Rot, Wear.
-/
import Derived.Test.YtiicbbhjepkndaaDev5
import Derived.Laws.BitsAllLaws
namespace Go.Proofs.Ytiicbbhjepkndaa
open Go.RowKit Tri

theorem dev_Lock_nil (w : World) (a b : Int) :
    Calls Try.prog 24 #[.pointer none, .int .i64 a, .int .i64 b] w fun e w' => e = .returned (.int .i64 1) ∧ w = w' := by
  (go_enter Try.func24, Try.ntmps24; try simp only [List.append])
  go_wp2_with ((with_reducible refine wpList_unguard ?_ ?_); (focus rfl))
  go_ret
  exact ⟨rfl, rfl⟩
set_option maxHeartbeats 2000000 in
theorem dev_Lock_no (i : DI) (n : Nat) (s : FS) (w : World) (a b : Int) (h : DevP w i n s) (hr : ¬ (0 ≤ a ∧ a ≤ b ∧ b ≤ n)) :
    Calls Try.prog 24 #[.pointer (some ⟨i.D, 0, none⟩), .int .i64 a, .int .i64 b] w fun e w' => e = .returned (.int .i64 2) ∧ w = w' := by
  have c4 := h.c4
  clear h
  obtain ⟨z1, e1⟩ : ∃ z, decide (a < 0) = z := ⟨_, rfl⟩
  obtain ⟨z2, e2⟩ : ∃ z, decide (b < a) = z := ⟨_, rfl⟩
  obtain ⟨z3, e3⟩ : ∃ z, decide ((n : Int) < b) = z := ⟨_, rfl⟩
  have hz : Hid (z1 = true ∨ z2 = true ∨ z3 = true) := by
    rw [← e1, ← e2, ← e3]
    simp only [decide_eq_true_eq]
    show _ ∨ _ ∨ _
    omega
  clear hr
  cases z1 <;> cases z2 <;> cases z3
  all_goals first
    | (exfalso; have := hz.out; simp at this; done)
    | ((go_enter Try.func24, Try.ntmps24; try simp only [List.append])
       go_wp2_with ((with_reducible refine wpList_unguard ?_ ?_); (focus rfl))
       go_ret
       exact ⟨rfl, rfl⟩)
def lockL (a b : Nat) (l : List Bool) : List Bool := l.mapIdx fun j x => if a ≤ j ∧ j < b then true else x
theorem lockL_step (a k : Nat) (l : List Bool) (h : k < l.length) (hak : a ≤ k) : (lockL a k l).set k true = lockL a (k + 1) l := by
  apply List.ext_getElem?
  intro j
  unfold lockL
  by_cases hj : j = k
  · subst hj
    rw [List.getElem?_set_self (by rw [List.length_mapIdx]; exact h), List.getElem?_mapIdx, List.getElem?_eq_getElem h]
    simp only [Option.map_some, if_pos (show a ≤ j ∧ j < j + 1 from ⟨hak, by omega⟩)]
  · rw [List.getElem?_set_ne (by omega), List.getElem?_mapIdx, List.getElem?_mapIdx]
    cases l[j]? with
    | none => rfl
    | some x =>
      simp only [Option.map_some, Option.some.injEq]
      by_cases h1 : a ≤ j ∧ j < k
      · rw [if_pos h1, if_pos (by omega)]
      · rw [if_neg h1, if_neg (by omega)]
theorem lockL_none (a : Nat) (l : List Bool) : lockL a a l = l := by
  apply List.ext_getElem?
  intro j
  unfold lockL
  rw [List.getElem?_mapIdx]
  cases l[j]? with
  | none => rfl
  | some x => simp only [Option.map_some, if_neg (show ¬ (a ≤ j ∧ j < a) from by omega)]
set_option maxHeartbeats 4000000 in
theorem dev_Lock_ok (i : DI) (n : Nat) (s : FS) (w : World) (a b : Nat) (h : DevP w i n s) (hab : a ≤ b) (hb : b ≤ n) :
    Calls Try.prog 24 #[.pointer (some ⟨i.D, 0, none⟩), .int .i64 a, .int .i64 b] w fun e w' =>
      e = .returned (.int .i64 0) ∧ DevP w' i n { s with lk := lockL a b s.lk } ∧ Out i.lo i.hi w w' := by
  have c4 := h.c4
  have hcl := h.cl
  have hn : n ≤ 512 := h.fs.2.2.2.1
  have hll : s.lk.length = n := h.fs.2.1
  have hok := hid h.ok
  have H := hid h
  have q1 : decide ((a : Int) < 0) = false := decide_eq_false (by omega)
  have q2 : decide ((b : Int) < a) = false := decide_eq_false (by omega)
  have q3 : decide ((n : Int) < b) = false := decide_eq_false (by omega)
  clear h
  (go_enter Try.func24, Try.ntmps24; try simp only [List.append])
  go_wp2_with ((with_reducible refine wpList_unguard ?_ ?_); (focus rfl))
  clear c4
  go_loopw [7] (fun v wr => ∃ k : Nat, a ≤ k ∧ k ≤ b ∧ v = .int .i64 k ∧ DevP wr i n { s with lk := lockL a k s.lk } ∧ Out i.lo i.hi w wr) (fun v _ => b - (intOf v).toNat)
  case atStart => exact ⟨a, Nat.le_refl _, hab, rfl, by rw [lockL_none]; exact H.out, Out.refl _ _ _⟩
  case round =>
    obtain ⟨k, hak, hk, rfl, hD, hO⟩ := hrel
    have HD := hid hD
    have HO := hid hO
    clear hO
    by_cases hlt : k < b
    · have q4 : decide ((k : Int) < b) = true := decide_eq_true (by omega)
      have c4 := hD.c4
      have cl := hD.lAt k (by omega)
      have fl := hD.lFree k (by omega)
      have hstep := lockL_step a k s.lk (by omega) hak
      have HN := hid (hD.setL k true (by omega))
      try simp only at HN
      rw [hstep] at HN
      have HNO : Hid (Out i.lo i.hi w (wr.setCell ⟨i.L, k, none⟩ (.bool true))) := by
        have h5 := hok.out
        unfold DI.ok at h5
        exact HO.out.set _ _ (by show i.lo ≤ i.L; omega) (by show i.L < i.hi; omega)
      clear hD HD HO hstep
      go_wp2_with ((with_reducible refine wpList_unguard ?_ ?_); (focus rfl))
      go_roundw
      case rel => exact ⟨k + 1, by omega, by omega, by go_num, HN.out, HNO.out⟩
      case measure => simp [intOf]; omega
    · obtain rfl : k = b := by omega
      have q4 : decide ((k : Int) < k) = false := decide_eq_false (by omega)
      clear hD
      go_wp2_with ((with_reducible refine wpList_unguard ?_ ?_); (focus rfl))
      go_ret
      exact ⟨rfl, HD.out, HO.out⟩
/-- Lock. -/
theorem dev_Lock (i : DI) (n : Nat) (s : FS) (w : World) (a b : Int) (h : DevP w i n s) :
    Calls Try.prog 24 #[.pointer (some ⟨i.D, 0, none⟩), .int .i64 a, .int .i64 b] w fun e w' =>
      e = .returned (.int .i64 (FS.lockE n a b : Nat)) ∧ DevP w' i n (s.lock n a b) ∧ Out i.lo i.hi w w' := by
  by_cases hr : 0 ≤ a ∧ a ≤ b ∧ b ≤ n
  · obtain ⟨x, rfl⟩ : ∃ j : Nat, a = j := ⟨a.toNat, by omega⟩
    obtain ⟨y, rfl⟩ : ∃ j : Nat, b = j := ⟨b.toNat, by omega⟩
    refine (dev_Lock_ok i n s w x y h (by omega) (by omega)).mono ?_
    rintro e w' ⟨rfl, hD, hO⟩
    have hS : s.lock n x y = { s with lk := lockL x y s.lk } := by unfold FS.lock; rw [if_pos hr]; rfl
    have hE : FS.lockE n x y = 0 := by unfold FS.lockE; rw [if_pos hr]
    rw [hS, hE]
    exact ⟨rfl, hD, hO⟩
  · refine (dev_Lock_no i n s w a b h hr).mono ?_
    rintro e w' ⟨rfl, rfl⟩
    have hS : s.lock n a b = s := by unfold FS.lock; rw [if_neg hr]
    have hE : FS.lockE n a b = 2 := by unfold FS.lockE; rw [if_neg hr]
    rw [hS, hE]
    exact ⟨rfl, h, Out.refl _ _ _⟩
end Go.Proofs.Ytiicbbhjepkndaa
