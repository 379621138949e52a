/-
  A device: Rot, Wear.
-/
import Derived.Test.YtiicbbhjepkndaaDev9
import Derived.Test.YtiicbbhjepkndaaCz
namespace Tri
open Go Go.RowKit
def FS.wear (s : FS) (n : Nat) (l : List Int) : Int := l.foldl (fun (acc c : Int) => if 0 ≤ c ∧ c < n then wrap64 (acc + s.wr.getD c.toNat 0) else acc) 0
end Tri
namespace Go.Proofs.Ytiicbbhjepkndaa
open Go.RowKit Tri

/-- A slice lies outside some blocks. -/
def offP (p : Option Addr) (lo hi : Nat) : Prop := ∀ a o s, p = some ⟨a, o, s⟩ → a < lo ∨ hi ≤ a
theorem cellsB.out {lo hi : Nat} {w w' : World} {p : Option Addr} {l : List Nat} (h : cellsB w p l) (ho : Out lo hi w w') (hp : offP p lo hi) : cellsB w' p l := by
  intro j hj
  obtain ⟨a, o, e, hc⟩ := h j hj
  refine ⟨a, o, e, ?_⟩
  rw [← hc]
  unfold World.cell?
  rw [ho.block a (block_lt_of_cell hc) (hp a o none e)]
theorem cellsZ.out {lo hi : Nat} {w w' : World} {p : Option Addr} {l : List Int} (h : cellsZ w p l) (ho : Out lo hi w w') (hp : offP p lo hi) : cellsZ w' p l := by
  intro j hj
  obtain ⟨a, o, e, hc⟩ := h j hj
  refine ⟨a, o, e, ?_⟩
  rw [← hc]
  unfold World.cell?
  rw [ho.block a (block_lt_of_cell hc) (hp a o none e)]
theorem dev_Rot_nil (w : World) (a : Int) (v : Value) :
    Calls Try.prog 16 #[.pointer none, .int .i64 a, v] w fun e w' => e = .returned (.int .i64 1) ∧ w = w' := by
  (go_enter Try.func16, Try.ntmps16; try simp only [List.append])
  go_wp2_with ((with_reducible refine wpList_unguard ?_ ?_); (focus rfl))
  go_ret
  exact ⟨rfl, rfl⟩
set_option maxHeartbeats 2000000 in
theorem dev_Rot_no (i : DI) (n : Nat) (s : FS) (w : World) (a : Int) (p : Option Addr) (m c : Nat) (h : DevP w i n s) (ha : -9223372036854775808 ≤ a ∧ a ≤ 9223372036854775807) (hm : m ≤ 1000000) (hr : ¬ (0 ≤ a ∧ a + m ≤ 64 * n)) :
    Calls Try.prog 16 #[.pointer (some ⟨i.D, 0, none⟩), .int .i64 a, .slice p m c] w fun e w' => e = .returned (.int .i64 2) ∧ w = w' := by
  have c3 := h.c3
  have hn : n ≤ 512 := h.fs.2.2.2.1
  clear h
  obtain ⟨z1, e1⟩ : ∃ z, decide (a < 0) = z := ⟨_, rfl⟩
  obtain ⟨z2, e2⟩ : ∃ z, decide ((64 * n : Int) < a) = z := ⟨_, rfl⟩
  obtain ⟨z3, e3⟩ : ∃ z, decide ((64 * n : Int) - a < m) = z := ⟨_, rfl⟩
  have hz : Hid (z1 = true ∨ z2 = true ∨ z3 = true) := by
    rw [← e1, ← e2, ← e3]
    simp only [decide_eq_true_eq]
    show _ ∨ _ ∨ _
    omega
  clear hr
  cases z1 <;> cases z2 <;> cases z3
  all_goals first
    | (exfalso; have := hz.out; simp at this; done)
    | (try
         have hwr : wrap64 (64 * (n : Int) - a) = 64 * n - a := by
           have e1' := e1
           have e2' := e2
           simp only [decide_eq_false_iff_not] at e1' e2'
           unfold wrap64
           omega
       (go_enter Try.func16, Try.ntmps16; try simp only [List.append])
       go_wp2_with ((with_reducible refine wpList_unguard ?_ ?_); (focus rfl))
       go_ret
       exact ⟨rfl, rfl⟩)
set_option maxHeartbeats 4000000 in
theorem dev_Rot_ok (i : DI) (n : Nat) (s : FS) (w : World) (a : Nat) (p : Option Addr) (m c : Nat) (l : List Nat) (h : DevP w i n s) (hm : m = l.length) (hp : cellsB w p l) (hl : ∀ x ∈ l, x < 256) (hoff : offP p i.lo i.hi) (hr : a + l.length ≤ 64 * n) :
    Calls Try.prog 16 #[.pointer (some ⟨i.D, 0, none⟩), .int .i64 a, .slice p m c] w fun e w' =>
      e = .returned (.int .i64 0) ∧ DevP w' i n { s with b := fillB (fun j x => x ^^^ l.getD j 0) a l.length s.b } ∧ Out i.lo i.hi w w' := by
  subst hm
  have c3 := h.c3
  have hcb := h.cb
  have hn : n ≤ 512 := h.fs.2.2.2.1
  have hbl : s.b.length = 64 * n := h.fs.1
  have hok := hid h.ok
  have H := hid h
  have HP := hid hp
  have HLL := hid hl
  have HLT : Hid (∀ j, s.b.getD j 0 < 256) := fun j => h.bLt j
  have q1 : decide ((a : Int) < 0) = false := decide_eq_false (by omega)
  have q2 : decide ((64 * n : Int) < a) = false := decide_eq_false (by omega)
  have hwr : wrap64 (64 * (n : Int) - a) = 64 * n - a := by unfold wrap64; omega
  have q3 : decide ((64 * n : Int) - a < l.length) = false := decide_eq_false (by omega)
  clear h hp hl
  (go_enter Try.func16, Try.ntmps16; try simp only [List.append])
  go_wp2_with ((with_reducible refine wpList_unguard ?_ ?_); (focus rfl))
  clear c3 q1 q2 q3 hwr
  go_loopw [38, 7, 8] (fun v _ _ wr => ∃ k : Nat, k ≤ l.length ∧ v = .int .i64 k ∧ DevP wr i n { s with b := fillB (fun j x => x ^^^ l.getD j 0) a k s.b } ∧ Out i.lo i.hi w wr) (fun v _ _ _ => l.length - (intOf v).toNat)
  case atStart => exact ⟨0, Nat.zero_le _, rfl, by rw [fillB_zero]; exact H.out, Out.refl _ _ _⟩
  case round =>
    obtain ⟨k, hk, rfl, hD, hO⟩ := hrel
    have HD := hid hD
    have HO := hid hO
    by_cases hlt : k < l.length
    · have q4 : decide ((k : Int) < l.length) = true := decide_eq_true (by omega)
      have hkb : a + k < 64 * n := by omega
      have c3 := hD.c3
      have cb := hD.bAt _ hkb
      try simp only at cb
      rw [fillB_at _ _ _ _ _ (by omega), if_neg (by omega)] at cb
      have fb := hD.bFree _ hkb
      obtain ⟨b', o', rfl, hcl⟩ := HP.out.out hO hoff k hlt
      have hlb := HLT.out (a + k)
      have hlp : l.getD k 0 < 256 := HLL.out _ (getD_mem _ k hlt)
      have hstep := fillB_step (fun j x => x ^^^ l.getD j 0) a k s.b (by omega)
      try simp only at hstep
      have HN := hid (hD.setB (a + k) (s.b.getD (a + k) 0 ^^^ l.getD k 0) hkb (Nat.xor_lt_two_pow (n := 8) hlb hlp))
      try simp only at HN
      rw [hstep] at HN
      have HNO : Hid (Out i.lo i.hi w (wr.setCell ⟨i.B, a + k, none⟩ (.int .u8 ((s.b.getD (a + k) 0 ^^^ l.getD k 0 : Nat) : Int)))) := by
        have h5 := hok.out
        unfold DI.ok at h5
        exact HO.out.set _ _ (by show i.lo ≤ i.B; omega) (by show i.B < i.hi; omega)
      have hx := u8_xor_nat (s.b.getD (a + k) 0) (l.getD k 0) hlb hlp
      clear hD hO HD HO hstep
      generalize l.getD k 0 = y at *
      generalize s.b.getD (a + k) 0 = x at *
      go_wp2_with ((with_reducible refine wpList_unguard ?_ ?_); (focus rfl))
      go_roundw
      case rel => exact ⟨k + 1, by omega, by go_num, HN.out, HNO.out⟩
      case measure => simp [intOf]; omega
    · obtain rfl : k = l.length := by omega
      have q4 : decide ((l.length : Int) < l.length) = false := decide_eq_false (by omega)
      clear hD hO
      go_wp2_with ((with_reducible refine wpList_unguard ?_ ?_); (focus rfl))
      go_ret
      exact ⟨rfl, HD.out, HO.out⟩
/-- Rot. -/
theorem dev_Rot (i : DI) (n : Nat) (s : FS) (w : World) (a : Int) (p : Option Addr) (m c : Nat) (l : List Nat) (h : DevP w i n s) (ha : -9223372036854775808 ≤ a ∧ a ≤ 9223372036854775807) (hm : m = l.length) (hm2 : l.length ≤ 1000000) (hp : cellsB w p l) (hl : ∀ x ∈ l, x < 256) (hoff : offP p i.lo i.hi) :
    Calls Try.prog 16 #[.pointer (some ⟨i.D, 0, none⟩), .int .i64 a, .slice p m c] w fun e w' =>
      e = .returned (.int .i64 (FS.rotE n a l : Nat)) ∧ DevP w' i n (s.rot n a l) ∧ Out i.lo i.hi w w' := by
  by_cases hr : 0 ≤ a ∧ a + l.length ≤ 64 * n
  · obtain ⟨x, rfl⟩ : ∃ j : Nat, a = j := ⟨a.toNat, by omega⟩
    refine (dev_Rot_ok i n s w x p m c l h hm hp hl hoff (by omega)).mono ?_
    rintro e w' ⟨rfl, hD, hO⟩
    have hS : s.rot n x l = { s with b := fillB (fun j x => x ^^^ l.getD j 0) x l.length s.b } := by unfold FS.rot; rw [if_pos hr]; rfl
    have hE : FS.rotE n x l = 0 := by unfold FS.rotE; rw [if_pos hr]
    rw [hS, hE]
    exact ⟨rfl, hD, hO⟩
  · refine (dev_Rot_no i n s w a p m c h ha (by omega) (by rw [hm]; exact hr)).mono ?_
    rintro e w' ⟨rfl, rfl⟩
    have hS : s.rot n a l = s := by unfold FS.rot; rw [if_neg hr]
    have hE : FS.rotE n a l = 2 := by unfold FS.rotE; rw [if_neg hr]
    rw [hS, hE]
    exact ⟨rfl, h, Out.refl _ _ _⟩
theorem take_snocZ (l : List Int) (k : Nat) (h : k < l.length) : l.take (k + 1) = l.take k ++ [l.getD k 0] := by
  rw [List.take_succ_eq_append_getElem h]
  simp [h]
set_option maxHeartbeats 4000000 in
theorem dev_Wear (i : DI) (n : Nat) (s : FS) (w : World) (p : Option Addr) (m c : Nat) (l : List Int) (h : DevP w i n s) (hm : m = l.length) (hm2 : l.length ≤ 1000000) (hp : cellsZ w p l) :
    Calls Try.prog 28 #[.pointer (some ⟨i.D, 0, none⟩), .slice p m c] w fun e w' => e = .returned (.int .i64 (s.wear n l)) ∧ w = w' := by
  subst hm
  have c5 := h.c5
  have hcw := h.cw
  have hn : n ≤ 512 := h.fs.2.2.2.1
  have H := hid h
  have HP := hid hp
  clear h hp
  (go_enter Try.func28, Try.ntmps28; try simp only [List.append])
  go_wp2_with ((with_reducible refine wpList_unguard ?_ ?_); (focus rfl))
  go_loopw [10, 7, 5] (fun v _ q wr => ∃ k : Nat, k ≤ l.length ∧ v = .int .i64 k ∧ q = .int .i64 (s.wear n (l.take k)) ∧ w = wr) (fun v _ _ _ => l.length - (intOf v).toNat)
  case atStart => exact ⟨0, Nat.zero_le _, rfl, rfl, rfl⟩
  case round =>
    obtain ⟨k, hk, rfl, rfl, rfl⟩ := hrel
    by_cases hlt : k < l.length
    · have q4 : decide ((k : Int) < l.length) = true := decide_eq_true (by omega)
      obtain ⟨b', o', rfl, hcl⟩ := HP.out k hlt
      have hst : Hid (s.wear n (l.take (k + 1)) = if 0 ≤ l.getD k 0 ∧ l.getD k 0 < n then wrap64 (s.wear n (l.take k) + s.wr.getD (l.getD k 0).toNat 0) else s.wear n (l.take k)) := by
        show _ = _
        rw [take_snocZ l k hlt]
        unfold FS.wear
        rw [List.foldl_append]
        rfl
      generalize s.wear n (l.take k) = acc at *
      obtain ⟨x, hx⟩ : ∃ x, l.getD k 0 = x := ⟨_, rfl⟩
      rw [hx] at hcl hst
      clear hx
      by_cases hin : 0 ≤ x ∧ x < n
      · obtain ⟨y, rfl⟩ : ∃ y : Nat, x = y := ⟨x.toNat, by omega⟩
        have cw := H.out.wAt y (by omega)
        have q5 : decide (0 ≤ (y : Int)) = true := decide_eq_true (by omega)
        have q6 : decide ((y : Int) < n) = true := decide_eq_true (by omega)
        have hst' : Hid (s.wear n (l.take (k + 1)) = wrap64 (acc + s.wr.getD y 0)) := by
          show _ = _
          rw [hst.out, if_pos hin, Int.toNat_natCast]
        clear hst
        generalize s.wr.getD y 0 = z at *
        go_wp2_with ((with_reducible refine wpList_unguard ?_ ?_); (focus rfl))
        go_roundw
        case rel => exact ⟨k + 1, by omega, by go_num, by rw [hst'.out], by first | rfl | trivial⟩
        case measure => simp [intOf]; omega
      · have hst' : Hid (s.wear n (l.take (k + 1)) = acc) := by
          show _ = _
          rw [hst.out, if_neg hin]
        clear hst
        rcases Int.lt_or_le x 0 with h0 | h0
        · have q5 : decide (0 ≤ x) = false := decide_eq_false (by omega)
          go_wp2_with ((with_reducible refine wpList_unguard ?_ ?_); (focus rfl))
          go_roundw
          case rel => exact ⟨k + 1, by omega, by go_num, by rw [hst'.out], by first | rfl | trivial⟩
          case measure => simp [intOf]; omega
        · have q5 : decide (0 ≤ x) = true := decide_eq_true (by omega)
          have q6 : decide (x < n) = false := decide_eq_false (by omega)
          go_wp2_with ((with_reducible refine wpList_unguard ?_ ?_); (focus rfl))
          go_roundw
          case rel => exact ⟨k + 1, by omega, by go_num, by rw [hst'.out], by first | rfl | trivial⟩
          case measure => simp [intOf]; omega
    · obtain rfl : k = l.length := by omega
      have q4 : decide ((l.length : Int) < l.length) = false := decide_eq_false (by omega)
      have hw : Hid (s.wear n (l.take l.length) = s.wear n l) := by show _ = _; rw [List.take_length]
      go_wp2_with ((with_reducible refine wpList_unguard ?_ ?_); (focus rfl))
      go_ret
      rw [hw.out]
      exact ⟨rfl, rfl⟩
end Go.Proofs.Ytiicbbhjepkndaa
