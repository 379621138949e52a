/-
  A device: Erase.
-/
import Derived.Test.YtiicbbhjepkndaaDev5
import Derived.BigRegion
namespace Tri
open Go Go.RowKit
theorem partN_done (s : FS) (k : Nat) : partN s k = (s.done k : Nat) := by
  unfold partN FS.done
  split
  · have := Int.emod_nonneg s.k (b := (k + 1 : Int)) (by omega)
    omega
  · rfl
theorem partS_b (s : FS) : (partS s).b = s.b := by unfold partS; repeat (first | rfl | split)
theorem partS_lk (s : FS) : (partS s).lk = s.lk := by unfold partS; repeat (first | rfl | split)
theorem partS_wr (s : FS) : (partS s).wr = s.wr := by unfold partS; repeat (first | rfl | split)
theorem partS_m (s : FS) : (partS s).m = s.m := by unfold partS; repeat (first | rfl | split)
theorem partS_k (s : FS) : (partS s).k = s.k := by unfold partS; repeat (first | rfl | split)
theorem partS_set (s : FS) (b : List Nat) (wr : List Int) : { partS { s with wr := wr } with b := b } = { partS s with b := b, wr := wr } := by
  unfold partS
  simp only
  repeat (first | rfl | split)
theorem partS_dn (s : FS) (h : s.dn = false) : (partS s).dn = decide (s.lf = 0) := by
  unfold partS
  split
  · rename_i h0; rw [decide_eq_true h0]
  · rename_i h0
    split <;> (rw [decide_eq_false h0]; exact h)
end Tri
namespace Go.Proofs.Ytiicbbhjepkndaa
open Go.RowKit Tri

theorem dev_wrong_nil (w : World) (at_ k : Int) :
    Calls Try.prog 68 #[.pointer none, .int .i64 at_, .int .i64 k] w fun e w' => e = .returned (.int .i64 1) ∧ w = w' := by
  (go_enter Try.func68, Try.ntmps68; try simp only [List.append])
  go_wp2_with ((with_reducible refine wpList_unguard ?_ ?_); (focus rfl))
  go_ret
  exact ⟨rfl, rfl⟩
set_option maxHeartbeats 8000000 in
set_option maxRecDepth 100000 in
theorem dev_Erase_ok (i : DI) (n : Nat) (s : FS) (w : World) (c : Nat) (h : DevP w i n s) (hd : s.dn = false) (hc : c < n) (hl : s.lk.getD c false = false) :
    Calls Try.prog 19 #[.pointer (some ⟨i.D, 0, none⟩), .int .i64 c] w fun e w' =>
      e = .returned (.int .i64 ((if s.lf = 0 then 5 else 0 : Nat) : Int)) ∧ DevP w' i n { partS s with b := s.wroteB (fun _ _ => 255) (fun _ x => x ||| s.m) (64 * c) 64, wr := s.wr.set c (wrap64 (s.wr.getD c 0 + 1)) } ∧ Out i.lo i.hi w w' := by
  have hn : n ≤ 512 := h.fs.2.2.2.1
  have hcb := h.cb
  have hcl := h.cl
  have hcw := h.cw
  have hok := hid h.ok
  have hW := hid (dev_wrong i n s w (64 * c : Nat) 64 h (by omega) (by omega))
  rw [hd, show wrongE n false ((64 * c : Nat) : Int) 64 = 0 from wrongE_of ⟨rfl, by omega, by omega, by omega⟩, show ((64 * c : Nat) : Int) = (c : Int) * 64 from by omega] at hW
  have c3 := h.c3
  have c4 := h.c4
  have c5 := h.c5
  have cl := h.lAt c hc
  rw [hl] at cl
  have cw := h.wAt c hc
  have fw := h.wFree c hc
  obtain ⟨x, hx⟩ : ∃ x, s.wr.getD c 0 = x := ⟨_, rfl⟩
  rw [hx] at cw
  have H1 := hid (h.setW c (wrap64 (x + 1)) hc)
  have O1 : Hid (Out i.lo i.hi w (w.setCell ⟨i.W, c, none⟩ (.int .i64 (wrap64 (x + 1))))) := by
    have h5 := h.ok
    unfold DI.ok at h5
    exact (Out.refl _ _ w).set _ _ (by show i.lo ≤ i.W; omega) (by show i.W < i.hi; omega)
  obtain ⟨w1, hw1⟩ : ∃ u, w.setCell ⟨i.W, c, none⟩ (.int .i64 (wrap64 (x + 1))) = u := ⟨_, rfl⟩
  rw [hw1] at H1 O1
  have hP := hid (dev_part i n { s with wr := s.wr.set c (wrap64 (x + 1)) } w1 64 H1.out (by omega))
  have hlf : (partS { s with wr := s.wr.set c (wrap64 (x + 1)) }).dn = decide (s.lf = 0) := partS_dn _ hd
  have hdone : Hid (s.done 64 ≤ 64) := s.done_le 64
  rw [partN_done, show ({ s with wr := s.wr.set c (wrap64 (x + 1)) } : FS).done 64 = s.done 64 from rfl, show ({ s with wr := s.wr.set c (wrap64 (x + 1)) } : FS).lf = s.lf from rfl] at hP
  have hb0 : (partS { s with wr := s.wr.set c (wrap64 (x + 1)) }).b = s.b := partS_b _
  have hm0 : (partS { s with wr := s.wr.set c (wrap64 (x + 1)) }).m = s.m := partS_m _
  have hbl : s.b.length = 64 * n := h.fs.1
  have hmlt := h.fs.2.2.2.2.1
  have hEnd : Hid (∀ b, { partS { s with wr := s.wr.set c (wrap64 (x + 1)) } with b := b } = { partS s with b := b, wr := s.wr.set c (wrap64 (x + 1)) }) := fun b => partS_set s b _
  have hWB : Hid (s.wroteB (fun _ _ => 255) (fun _ x => x ||| s.m) (64 * c) 64 = if s.lf = 0 ∧ s.done 64 < 64 then (fillB (fun _ _ => 255) (64 * c) (s.done 64) s.b).set (64 * c + s.done 64) (s.b.getD (64 * c + s.done 64) 0 ||| s.m) else fillB (fun _ _ => 255) (64 * c) (s.done 64) s.b) := rfl
  have HLT : Hid (∀ j, s.b.getD j 0 < 256) := fun j => h.bLt j
  rw [hx]
  have hD : Hid (decide (s.lf ≠ 0) = !decide (s.lf = 0)) := by by_cases hz : s.lf = 0 <;> simp [hz, Hid]
  rw [hD.out] at hP
  clear h hD
  obtain ⟨m, hm⟩ : ∃ m, s.done 64 = m := ⟨_, rfl⟩
  rw [hm] at hP hdone hWB
  obtain ⟨z, hz⟩ : ∃ z, decide (s.lf = 0) = z := ⟨_, rfl⟩
  rw [hz] at hP hlf
  obtain ⟨s2, hs2⟩ : ∃ s2, partS { s with wr := s.wr.set c (wrap64 (x + 1)) } = s2 := ⟨_, rfl⟩
  rw [hs2] at hP hlf hb0 hm0 hEnd
  have hmle := hdone.out
  have q1 : decide ((c : Int) < 0) = false := decide_eq_false (by omega)
  have q2 : decide ((512 : Int) ≤ c) = false := decide_eq_false (by omega)
  have hz0 : ¬ (i.cb = c * 64) := by omega
  have hWS : Hid (wrap64 (x + 1) = wrap64 (x + 1)) := rfl
  have HB0 := hid hb0
  have HM0 := hid hm0
  have HLF := hid hlf
  have HZ := hid hz
  clear hb0 hm0 hlf hz hs2 hm hx hl hd
  generalize s.wr.set c (wrap64 (x + 1)) = wr1 at *
  obtain ⟨R, hR⟩ : ∃ R, (if s.lf = 0 then 5 else 0 : Nat) = R := ⟨_, rfl⟩
  rw [hR]
  have HR := hid hR
  clear hR
  (go_enter Try.func19, Try.ntmps19; try simp only [List.append])
  go_wp2_with ((with_reducible refine wpList_unguard ?_ ?_); (focus rfl))
  refine Calls.mono hW.out ?_; rintro e w0 ⟨rfl, rfl⟩
  go_wp2_with ((with_reducible refine wpList_unguard ?_ ?_); (focus rfl))
  refine Calls.mono hP.out ?_; rintro e w2 ⟨rfl, hD2, hO2⟩
  have HD2 := hid hD2
  have HO2 := hid (O1.out.trans hO2)
  clear hD2 hO2 O1 H1 hP hW hw1 c3 c4 c5 cl cw fw
  go_wp2_with ((with_reducible refine wpList_unguard ?_ ?_); (focus rfl))
  go_loopw [57, 10] (fun v _ wr => ∃ k : Nat, k ≤ m ∧ v = .int .i64 k ∧ DevP wr i n { s2 with b := fillB (fun _ _ => 255) (c * 64) k s.b } ∧ Out i.lo i.hi w wr) (fun v _ _ => m - (intOf v).toNat)
  case atStart =>
    refine ⟨0, Nat.zero_le _, rfl, ?_, HO2.out⟩
    rw [fillB_zero, ← HB0.out]
    exact HD2.out
  case round =>
    obtain ⟨k, hk, rfl, hD3, hO3⟩ := hrel
    have HD3 := hid hD3
    have HO3 := hid hO3
    clear hO3
    by_cases hlt : k < m
    · have hkb : c * 64 + k < 64 * n := by omega
      have cb := hD3.bAt _ hkb
      have fb := hD3.bFree _ hkb
      have HN := hid (hD3.setB (c * 64 + k) 255 hkb (by omega))
      have hstep := fillB_step (fun _ _ => 255) (c * 64) k s.b (by omega)
      try simp only at hstep
      simp only at HN
      rw [hstep] at HN
      have HNO : Hid (Out i.lo i.hi w (wr.setCell ⟨i.B, c * 64 + k, none⟩ (.int .u8 (255 : Nat)))) := by
        have h5 := hok.out
        unfold DI.ok at h5
        exact HO3.out.set _ _ (by show i.lo ≤ i.B; omega) (by show i.B < i.hi; omega)
      clear hD3 hstep HD3 HO3 HD2 HO2
      go_wp2
      go_roundw
      case rel => exact ⟨k + 1, by omega, by go_num, HN.out, HNO.out⟩
      case measure => simp [intOf]; omega
    · obtain rfl : k = m := by omega
      have hT : ∀ b, Hid (toldE { s2 with b := b } = R) := by
        intro b
        show (if s2.dn then 5 else 0) = _
        rw [HLF.out, ← HZ.out, ← HR.out]
        by_cases h0 : s.lf = 0 <;> simp [h0]
      have hbk : (64 * c) = c * 64 := by omega
      by_cases hto : z = true ∧ k < 64
      · obtain ⟨rfl, h64⟩ := hto
        have hkb : c * 64 + k < 64 * n := by omega
        have cb := hD3.bAt _ hkb
        have fb := hD3.bFree _ hkb
        have c1 := hD3.c1
        simp only at cb c1
        rw [fillB_at _ _ _ _ _ (by omega), if_neg (by omega)] at cb
        have hlf : s.lf = 0 := of_decide_eq_true HZ.out
        have hxl := HLT.out (c * 64 + k)
        obtain ⟨y, hy⟩ : ∃ y, s.b.getD (c * 64 + k) 0 = y := ⟨_, rfl⟩
        rw [HM0.out] at c1
        have hor := u8_or_nat y s.m (by omega) hmlt
        have HN := hid (hD3.setB (c * 64 + k) (y ||| s.m) hkb (or_lt (by omega) hmlt))
        have HNO : Hid (Out i.lo i.hi w (wr.setCell ⟨i.B, c * 64 + k, none⟩ (.int .u8 ((y ||| s.m : Nat) : Int)))) := by
          have h5 := hok.out
          unfold DI.ok at h5
          exact HO3.out.set _ _ (by show i.lo ≤ i.B; omega) (by show i.B < i.hi; omega)
        have hF : Hid ((if s.lf = 0 ∧ k < 64 then (fillB (fun _ _ => 255) (64 * c) k s.b).set (64 * c + k) (s.b.getD (64 * c + k) 0 ||| s.m) else fillB (fun _ _ => 255) (64 * c) k s.b) = (fillB (fun _ _ => 255) (c * 64) k s.b).set (c * 64 + k) (y ||| s.m)) := by
          show _ = _
          rw [if_pos ⟨hlf, h64⟩, hbk, hy]
        rw [hy] at cb
        have q5 : decide ((k : Int) < 64) = true := decide_eq_true (by omega)
        clear hD3 HD3 HO3 HD2 HO2 hxl hy hlf
        go_wp2_with ((with_reducible refine wpList_unguard ?_ ?_); (focus rfl))
        go_region
        go_wp2_with ((with_reducible refine wpList_unguard ?_ ?_); (focus rfl))
        refine Calls.mono (dev_told i n _ _ HN.out.drew) ?_; rintro e w5 ⟨rfl, rfl⟩
        go_wp2_with ((with_reducible refine wpList_unguard ?_ ?_); (focus rfl))
        go_ret
        refine ⟨?_, ?_, HNO.out.drew⟩
        · exact congrArg (fun (r : Nat) => Ending.returned (Value.int .i64 (r : Int))) (hT _).out
        · rw [hWB.out, hF.out, ← hEnd.out]
          exact HN.out.drew
      · have hF : Hid ((if s.lf = 0 ∧ k < 64 then (fillB (fun _ _ => 255) (64 * c) k s.b).set (64 * c + k) (s.b.getD (64 * c + k) 0 ||| s.m) else fillB (fun _ _ => 255) (64 * c) k s.b) = fillB (fun _ _ => 255) (c * 64) k s.b) := by
          show _ = _
          rw [if_neg (fun h => hto ⟨by rw [← HZ.out]; exact decide_eq_true h.1, h.2⟩), hbk]
        clear hD3 HD2 HO2
        cases z with
        | false =>
          clear hto
          go_wp2_with ((with_reducible refine wpList_unguard ?_ ?_); (focus rfl))
          refine Calls.mono (dev_told i n _ _ HD3.out) ?_; rintro e w5 ⟨rfl, rfl⟩
          go_wp2_with ((with_reducible refine wpList_unguard ?_ ?_); (focus rfl))
          go_ret
          refine ⟨?_, ?_, HO3.out⟩
          · exact congrArg (fun (r : Nat) => Ending.returned (Value.int .i64 (r : Int))) (hT _).out
          · rw [hWB.out, hF.out, ← hEnd.out]
            exact HD3.out
        | true =>
          have q5 : decide ((k : Int) < 64) = false := decide_eq_false (by simp only [true_and] at hto; omega)
          clear hto
          go_wp2_with ((with_reducible refine wpList_unguard ?_ ?_); (focus rfl))
          refine Calls.mono (dev_told i n _ _ HD3.out) ?_; rintro e w5 ⟨rfl, rfl⟩
          go_wp2_with ((with_reducible refine wpList_unguard ?_ ?_); (focus rfl))
          go_ret
          refine ⟨?_, ?_, HO3.out⟩
          · exact congrArg (fun (r : Nat) => Ending.returned (Value.int .i64 (r : Int))) (hT _).out
          · rw [hWB.out, hF.out, ← hEnd.out]
            exact HD3.out
set_option maxHeartbeats 2000000 in
theorem dev_Erase_no (i : DI) (n : Nat) (s : FS) (w : World) (c : Int) (h : DevP w i n s) (hc : -9223372036854775808 ≤ c ∧ c ≤ 9223372036854775807) (hd : s.dn = true ∨ ¬ (0 ≤ c ∧ c < n)) :
    Calls Try.prog 19 #[.pointer (some ⟨i.D, 0, none⟩), .int .i64 c] w fun e w' => e = .returned (.int .i64 ((if s.dn then 5 else 2 : Nat) : Int)) ∧ w = w' := by
  have hn : n ≤ 512 := h.fs.2.2.2.1
  have key : ∀ at_ k : Int, (at_ < 0 ∨ 64 * n < at_ + k ∨ s.dn = true) → wrongE n s.dn at_ k = if s.dn then 5 else 2 := by
    intro at_ k hk
    unfold wrongE
    by_cases hd : s.dn = true
    · rw [hd]; rfl
    · rw [if_neg hd, if_neg hd, if_neg]
      rcases hk with h1 | h1 | h1
      · omega
      · omega
      · exact absurd h1 hd
  have hE2 : ((if s.dn then 5 else 2 : Nat) : Int) ≠ 0 := by split <;> decide
  have q9 : (((if s.dn then 5 else 2 : Nat) : Int) != 0) = true := by simpa using hE2
  clear hE2
  by_cases hs : 0 ≤ c ∧ c < 512
  · have hW := hid (dev_wrong i n s w (c * 64) 64 h (by omega) (by omega))
    rw [key (c * 64) 64 (by rcases hd with h | h; exact .inr (.inr h); omega)] at hW
    have q1 : decide (c < 0) = false := decide_eq_false (by omega)
    have q2 : decide (512 ≤ c) = false := decide_eq_false (by omega)
    generalize (if s.dn then 5 else 2 : Nat) = E at *
    clear key h
    (go_enter Try.func19, Try.ntmps19; try simp only [List.append])
    go_wp2_with ((with_reducible refine wpList_unguard ?_ ?_); (focus rfl))
    refine Calls.mono hW.out ?_; rintro e w0 ⟨rfl, rfl⟩
    go_wp2_with ((with_reducible refine wpList_unguard ?_ ?_); (focus rfl))
    go_ret
    exact ⟨rfl, rfl⟩
  · have hW := hid (dev_wrong i n s w (-1) 64 h (by omega) (by omega))
    rw [key (-1) 64 (by omega)] at hW
    generalize (if s.dn then 5 else 2 : Nat) = E at *
    clear key h
    rcases Int.lt_or_le c 0 with h0 | h0
    · have q1 : decide (c < 0) = true := decide_eq_true (by omega)
      (go_enter Try.func19, Try.ntmps19; try simp only [List.append])
      go_wp2_with ((with_reducible refine wpList_unguard ?_ ?_); (focus rfl))
      refine Calls.mono hW.out ?_; rintro e w0 ⟨rfl, rfl⟩
      go_wp2_with ((with_reducible refine wpList_unguard ?_ ?_); (focus rfl))
      go_ret
      exact ⟨rfl, rfl⟩
    · have q1 : decide (c < 0) = false := decide_eq_false (by omega)
      have q2 : decide (512 ≤ c) = true := decide_eq_true (by omega)
      (go_enter Try.func19, Try.ntmps19; try simp only [List.append])
      go_wp2_with ((with_reducible refine wpList_unguard ?_ ?_); (focus rfl))
      refine Calls.mono hW.out ?_; rintro e w0 ⟨rfl, rfl⟩
      go_wp2_with ((with_reducible refine wpList_unguard ?_ ?_); (focus rfl))
      go_ret
      exact ⟨rfl, rfl⟩
set_option maxHeartbeats 2000000 in
theorem dev_Erase_lock (i : DI) (n : Nat) (s : FS) (w : World) (c : Nat) (h : DevP w i n s) (hd : s.dn = false) (hc : c < n) (hl : s.lk.getD c false = true) :
    Calls Try.prog 19 #[.pointer (some ⟨i.D, 0, none⟩), .int .i64 c] w fun e w' => e = .returned (.int .i64 4) ∧ w = w' := by
  have hn : n ≤ 512 := h.fs.2.2.2.1
  have hcl := h.cl
  have hW := hid (dev_wrong i n s w (64 * c : Nat) 64 h (by omega) (by omega))
  rw [hd, show wrongE n false ((64 * c : Nat) : Int) 64 = 0 from wrongE_of ⟨rfl, by omega, by omega, by omega⟩, show ((64 * c : Nat) : Int) = (c : Int) * 64 from by omega] at hW
  have c4 := h.c4
  have cl := h.lAt c hc
  rw [hl] at cl
  have q1 : decide ((c : Int) < 0) = false := decide_eq_false (by omega)
  have q2 : decide ((512 : Int) ≤ c) = false := decide_eq_false (by omega)
  clear h hl
  (go_enter Try.func19, Try.ntmps19; try simp only [List.append])
  go_wp2_with ((with_reducible refine wpList_unguard ?_ ?_); (focus rfl))
  refine Calls.mono hW.out ?_; rintro e w0 ⟨rfl, rfl⟩
  go_wp2_with ((with_reducible refine wpList_unguard ?_ ?_); (focus rfl))
  go_ret
  exact ⟨rfl, rfl⟩
/-- Erase. -/
theorem dev_Erase (i : DI) (n : Nat) (s : FS) (w : World) (c : Int) (h : DevP w i n s) (hc : -9223372036854775808 ≤ c ∧ c ≤ 9223372036854775807) :
    Calls Try.prog 19 #[.pointer (some ⟨i.D, 0, none⟩), .int .i64 c] w fun e w' =>
      e = .returned (.int .i64 (s.eraseE n c : Nat)) ∧ DevP w' i n (s.erase n c) ∧ Out i.lo i.hi w w' := by
  by_cases hx : s.dn = true ∨ ¬ (0 ≤ c ∧ c < n)
  · refine (dev_Erase_no i n s w c h hc hx).mono ?_
    rintro e w' ⟨rfl, rfl⟩
    have hS : s.erase n c = s := by
      unfold FS.erase
      rw [if_neg]
      rintro ⟨h1, h2, _⟩
      rcases hx with h3 | h3
      · rw [h1] at h3; cases h3
      · exact h3 h2
    have hE : s.eraseE n c = if s.dn then 5 else 2 := by
      unfold FS.eraseE
      split
      · rfl
      · rename_i h0; rw [if_neg (by rcases hx with h3 | h3; exact absurd h3 h0; exact h3)]
    rw [hS, hE]
    exact ⟨rfl, h, Out.refl _ _ _⟩
  · have hd : s.dn = false := by
      cases hdn : s.dn
      · rfl
      · exact absurd (.inl hdn) hx
    have hr : 0 ≤ c ∧ c < n := Classical.byContradiction fun h0 => hx (.inr h0)
    obtain ⟨j, rfl⟩ : ∃ j : Nat, c = j := ⟨c.toNat, by omega⟩
    have hj : j < n := by omega
    cases hl : s.lk.getD j false with
    | true =>
      refine (dev_Erase_lock i n s w j h hd hj hl).mono ?_
      rintro e w' ⟨rfl, rfl⟩
      have hS : s.erase n j = s := by
        unfold FS.erase FS.lkd
        rw [if_neg]
        rintro ⟨_, _, h3⟩
        rw [Int.toNat_natCast, hl] at h3
        cases h3
      have hE : s.eraseE n j = 4 := by
        unfold FS.eraseE FS.lkd
        rw [if_neg (by rw [hd]; decide), if_pos hr, Int.toNat_natCast, hl]
        rfl
      rw [hS, hE]
      exact ⟨rfl, h, Out.refl _ _ _⟩
    | false =>
      refine (dev_Erase_ok i n s w j h hd hj hl).mono ?_
      rintro e w' ⟨rfl, hD, hO⟩
      have hS : s.erase n j = { partS s with b := s.wroteB (fun _ _ => 255) (fun _ x => x ||| s.m) (64 * j) 64, wr := s.wr.set j (wrap64 (s.wr.getD j 0 + 1)) } := by
        unfold FS.erase FS.lkd
        rw [if_pos ⟨hd, hr, by rw [Int.toNat_natCast]; exact hl⟩, Int.toNat_natCast]
      have hE : s.eraseE n j = if s.lf = 0 then 5 else 0 := by
        unfold FS.eraseE FS.lkd
        rw [if_neg (by rw [hd]; decide), if_pos hr, Int.toNat_natCast, hl]
        rfl
      rw [hS, hE]
      exact ⟨rfl, hD, hO⟩
theorem dev_Erase_nil (w : World) (c : Int) (hc : -9223372036854775808 ≤ c ∧ c ≤ 9223372036854775807) :
    Calls Try.prog 19 #[.pointer none, .int .i64 c] w fun e w' => e = .returned (.int .i64 1) ∧ w = w' := by
  have hW := fun at_ => hid (dev_wrong_nil w at_ 64)
  by_cases hs : 0 ≤ c ∧ c < 512
  · have q1 : decide (c < 0) = false := decide_eq_false (by omega)
    have q2 : decide (512 ≤ c) = false := decide_eq_false (by omega)
    (go_enter Try.func19, Try.ntmps19; try simp only [List.append])
    go_wp2_with ((with_reducible refine wpList_unguard ?_ ?_); (focus rfl))
    refine Calls.mono (hW _).out ?_; rintro e w0 ⟨rfl, rfl⟩
    go_wp2_with ((with_reducible refine wpList_unguard ?_ ?_); (focus rfl))
    go_ret
    exact ⟨rfl, rfl⟩
  · rcases Int.lt_or_le c 0 with h0 | h0
    · have q1 : decide (c < 0) = true := decide_eq_true (by omega)
      (go_enter Try.func19, Try.ntmps19; try simp only [List.append])
      go_wp2_with ((with_reducible refine wpList_unguard ?_ ?_); (focus rfl))
      refine Calls.mono (hW _).out ?_; rintro e w0 ⟨rfl, rfl⟩
      go_wp2_with ((with_reducible refine wpList_unguard ?_ ?_); (focus rfl))
      go_ret
      exact ⟨rfl, rfl⟩
    · have q1 : decide (c < 0) = false := decide_eq_false (by omega)
      have q2 : decide (512 ≤ c) = true := decide_eq_true (by omega)
      (go_enter Try.func19, Try.ntmps19; try simp only [List.append])
      go_wp2_with ((with_reducible refine wpList_unguard ?_ ?_); (focus rfl))
      refine Calls.mono (hW _).out ?_; rintro e w0 ⟨rfl, rfl⟩
      go_wp2_with ((with_reducible refine wpList_unguard ?_ ?_); (focus rfl))
      go_ret
      exact ⟨rfl, rfl⟩
end Go.Proofs.Ytiicbbhjepkndaa
