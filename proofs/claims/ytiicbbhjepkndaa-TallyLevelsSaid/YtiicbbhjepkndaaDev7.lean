/-
  A device: Program.
-/
import Derived.Test.YtiicbbhjepkndaaDev6
import Derived.Laws.BitsAllLaws
namespace Go.Proofs.Ytiicbbhjepkndaa
open Go.RowKit Tri

set_option maxHeartbeats 16000000 in
set_option maxRecDepth 100000 in
theorem dev_Program_ok (i : DI) (n : Nat) (s : FS) (w : World) (c : Nat) (p : ByteArray) (h : DevP w i n s) (hd : s.dn = false) (hc : c < 64 * n) (hc16 : c % 16 = 0) (hp : p.size = 16) (hl : s.lk.getD (c / 64) false = false) :
    Calls Try.prog 20 #[.pointer (some ⟨i.D, 0, none⟩), .int .i64 c, .string p] w fun e w' =>
      e = .returned (.int .i64 ((if s.lf = 0 then 5 else 0 : Nat) : Int)) ∧ DevP w' i n { partS s with b := s.wroteB (fun j x => x &&& (sb p).getD j 0) (fun j x => x &&& ((sb p).getD j 0 ||| s.m)) c 16 } ∧ Out i.lo i.hi w w' := by
  have hn : n ≤ 512 := h.fs.2.2.2.1
  have hcb := h.cb
  have hcl := h.cl
  have hok := hid h.ok
  have hW := hid (dev_wrong i n s w c 16 h (by omega) (by omega))
  rw [hd, show wrongE n false (c : Int) 16 = 0 from wrongE_of ⟨rfl, by omega, by omega, by omega⟩] at hW
  have c3 := h.c3
  have c4 := h.c4
  have c6 := h.c6
  rw [hd] at c6
  have cl := h.lAt (c / 64) (by omega)
  rw [hl] at cl
  have hP := hid (dev_part i n s w 16 h (by omega))
  have hlf : (partS s).dn = decide (s.lf = 0) := partS_dn _ hd
  have hdone : Hid (s.done 16 ≤ 16) := s.done_le 16
  rw [partN_done] at hP
  have hb0 : (partS s).b = s.b := partS_b _
  have hm0 : (partS s).m = s.m := partS_m _
  have hbl : s.b.length = 64 * n := h.fs.1
  have hmlt := h.fs.2.2.2.2.1
  have hWB : Hid (s.wroteB (fun j x => x &&& (sb p).getD j 0) (fun j x => x &&& ((sb p).getD j 0 ||| s.m)) c 16 = if s.lf = 0 ∧ s.done 16 < 16 then (fillB (fun j x => x &&& (sb p).getD j 0) c (s.done 16) s.b).set (c + s.done 16) (s.b.getD (c + s.done 16) 0 &&& ((sb p).getD (s.done 16) 0 ||| s.m)) else fillB (fun j x => x &&& (sb p).getD j 0) c (s.done 16) s.b) := rfl
  have HLT : Hid (∀ j, s.b.getD j 0 < 256) := fun j => h.bLt j
  have hD : Hid (decide (s.lf ≠ 0) = !decide (s.lf = 0)) := by by_cases hz : s.lf = 0 <;> simp [hz, Hid]
  rw [hD.out] at hP
  clear h hD
  obtain ⟨m, hm⟩ : ∃ m, s.done 16 = m := ⟨_, rfl⟩
  rw [hm] at hP hdone hWB
  obtain ⟨z, hz⟩ : ∃ z, decide (s.lf = 0) = z := ⟨_, rfl⟩
  rw [hz] at hP hlf
  obtain ⟨s2, hs2⟩ : ∃ s2, partS s = s2 := ⟨_, rfl⟩
  rw [hs2] at hP hlf hb0 hm0 ⊢
  have hmle := hdone.out
  have hr : Int.tmod (c : Int) 16 = 0 := by rw [Int.tmod_eq_emod_of_nonneg (by omega)]; omega
  have hz0 : ¬ (i.cb = c) := by omega
  have hps : Hid (p.size = 16) := hp
  have hp2 : (p.size : Int) = 16 := by omega
  have HB0 := hid hb0
  have HM0 := hid hm0
  have HLF := hid hlf
  have HZ := hid hz
  clear hb0 hm0 hlf hz hs2 hm hl hd
  obtain ⟨R, hR⟩ : ∃ R, (if s.lf = 0 then 5 else 0 : Nat) = R := ⟨_, rfl⟩
  rw [hR]
  have HR := hid hR
  clear hR
  (go_enter Try.func20, Try.ntmps20; try simp only [List.append])
  go_wp2_with ((with_reducible refine wpList_unguard ?_ ?_); (focus rfl))
  refine Calls.mono hW.out ?_; rintro e w0 ⟨rfl, rfl⟩
  go_wp2_with ((with_reducible refine wpList_unguard ?_ ?_); (focus rfl))
  refine Calls.mono hP.out ?_; rintro e w2 ⟨rfl, hD2, hO2⟩
  have HD2 := hid hD2
  have HO2 := hid hO2
  clear hD2 hO2 hP hW c3 c4 cl c6
  go_wp2_with ((with_reducible refine wpList_unguard ?_ ?_); (focus rfl))
  go_loopw [59, 11] (fun v _ wr => ∃ k : Nat, k ≤ m ∧ v = .int .i64 k ∧ DevP wr i n { s2 with b := fillB (fun j x => x &&& (sb p).getD j 0) c k s.b } ∧ Out i.lo i.hi w wr) (fun v _ _ => m - (intOf v).toNat)
  case atStart =>
    refine ⟨0, Nat.zero_le _, rfl, ?_, HO2.out⟩
    rw [fillB_zero, ← HB0.out]
    exact HD2.out
  case round =>
    obtain ⟨k, hk, rfl, hD3, hO3⟩ := hrel
    have HD3 := hid hD3
    have HO3 := hid hO3
    clear hO3
    by_cases hlt : k < m
    · have hkb : c + k < 64 * n := by omega
      have cb := hD3.bAt _ hkb
      try simp only at cb
      rw [fillB_at _ _ _ _ _ (by omega), if_neg (by omega)] at cb
      have fb := hD3.bFree _ hkb
      have hkp : k < p.size := by omega
      have hsp := str_byte p k hkp
      have hlp : (sb p).getD k 0 < 256 := sb_lt p _ (getD_mem _ k (by rw [sb_length]; exact hkp))
      have hlb := HLT.out (c + k)
      have hstep := fillB_step (fun j x => x &&& (sb p).getD j 0) c k s.b (by omega)
      try simp only at hstep
      have HN := hid (hD3.setB (c + k) (s.b.getD (c + k) 0 &&& (sb p).getD k 0) hkb (and_lt _ _ hlb))
      try simp only at HN
      rw [hstep] at HN
      have HNO : Hid (Out i.lo i.hi w (wr.setCell ⟨i.B, c + k, none⟩ (.int .u8 ((s.b.getD (c + k) 0 &&& (sb p).getD k 0 : Nat) : Int)))) := by
        have h5 := hok.out
        unfold DI.ok at h5
        exact HO3.out.set _ _ (by show i.lo ≤ i.B; omega) (by show i.B < i.hi; omega)
      have hand := u8_and_nat (s.b.getD (c + k) 0) ((sb p).getD k 0) hlb hlp
      clear hD3 hstep HD3 HO3 HD2 HO2
      generalize (sb p).getD k 0 = y at *
      generalize s.b.getD (c + k) 0 = x at *
      go_wp2
      go_region
      go_wp2
      go_roundw
      case rel => exact ⟨k + 1, by omega, by go_num, HN.out.drew, HNO.out.drew⟩
      case measure => simp [intOf]; omega
    · obtain rfl : k = m := by omega
      have hT : ∀ b, Hid (toldE { s2 with b := b } = R) := by
        intro b
        show (if s2.dn then 5 else 0) = _
        rw [HLF.out, ← HZ.out, ← HR.out]
        by_cases h0 : s.lf = 0 <;> simp [h0]
      by_cases hto : z = true ∧ k < 16
      · obtain ⟨rfl, h64⟩ := hto
        have hkb : c + k < 64 * n := by omega
        have cb := hD3.bAt _ hkb
        have fb := hD3.bFree _ hkb
        have c1 := hD3.c1
        try simp only at cb c1
        rw [fillB_at _ _ _ _ _ (by omega), if_neg (by omega)] at cb
        have hlf : s.lf = 0 := of_decide_eq_true HZ.out
        have hlb := HLT.out (c + k)
        have hkp : k < p.size := by omega
        have hsp := str_byte p k hkp
        have hlp : (sb p).getD k 0 < 256 := sb_lt p _ (getD_mem _ k (by rw [sb_length]; exact hkp))
        rw [HM0.out] at c1
        have hor := u8_or_nat ((sb p).getD k 0) s.m hlp hmlt
        have hand := u8_and_nat (s.b.getD (c + k) 0) ((sb p).getD k 0 ||| s.m) hlb (or_lt hlp hmlt)
        have HN := hid (hD3.setB (c + k) (s.b.getD (c + k) 0 &&& ((sb p).getD k 0 ||| s.m)) hkb (and_lt _ _ hlb))
        have HNO : Hid (Out i.lo i.hi w (wr.setCell ⟨i.B, c + k, none⟩ (.int .u8 ((s.b.getD (c + k) 0 &&& ((sb p).getD k 0 ||| s.m) : Nat) : Int)))) := by
          have h5 := hok.out
          unfold DI.ok at h5
          exact HO3.out.set _ _ (by show i.lo ≤ i.B; omega) (by show i.B < i.hi; omega)
        have hF : Hid ((if s.lf = 0 ∧ k < 16 then (fillB (fun j x => x &&& (sb p).getD j 0) c k s.b).set (c + k) (s.b.getD (c + k) 0 &&& ((sb p).getD k 0 ||| s.m)) else fillB (fun j x => x &&& (sb p).getD j 0) c k s.b) = (fillB (fun j x => x &&& (sb p).getD j 0) c k s.b).set (c + k) (s.b.getD (c + k) 0 &&& ((sb p).getD k 0 ||| s.m))) := by
          show _ = _
          rw [if_pos ⟨hlf, h64⟩]
        have q5 : decide ((k : Int) < 16) = true := decide_eq_true (by omega)
        clear hD3 HD3 HO3 HD2 HO2 hlf
        generalize (sb p).getD k 0 = y at *
        generalize s.b.getD (c + k) 0 = x at *
        go_wp2_with ((with_reducible refine wpList_unguard ?_ ?_); (focus rfl))
        go_region
        go_wp2_with ((with_reducible refine wpList_unguard ?_ ?_); (focus rfl))
        refine Calls.mono (dev_told i n _ _ HN.out.drew) ?_; rintro e w5 ⟨rfl, rfl⟩
        go_wp2_with ((with_reducible refine wpList_unguard ?_ ?_); (focus rfl))
        go_ret
        refine ⟨?_, ?_, HNO.out.drew⟩
        · exact congrArg (fun (r : Nat) => Ending.returned (Value.int .i64 (r : Int))) (hT _).out
        · rw [hWB.out, hF.out]
          exact HN.out.drew
      · have hF : Hid ((if s.lf = 0 ∧ k < 16 then (fillB (fun j x => x &&& (sb p).getD j 0) c k s.b).set (c + k) (s.b.getD (c + k) 0 &&& ((sb p).getD k 0 ||| s.m)) else fillB (fun j x => x &&& (sb p).getD j 0) c k s.b) = fillB (fun j x => x &&& (sb p).getD j 0) c k s.b) := by
          show _ = _
          rw [if_neg (fun h => hto ⟨by rw [← HZ.out]; exact decide_eq_true h.1, h.2⟩)]
        clear hD3 HD2 HO2
        cases z with
        | false =>
          clear hto
          go_wp2_with ((with_reducible refine wpList_unguard ?_ ?_); (focus rfl))
          refine Calls.mono (dev_told i n _ _ HD3.out) ?_; rintro e w5 ⟨rfl, rfl⟩
          go_wp2_with ((with_reducible refine wpList_unguard ?_ ?_); (focus rfl))
          go_ret
          refine ⟨?_, ?_, HO3.out⟩
          · exact congrArg (fun (r : Nat) => Ending.returned (Value.int .i64 (r : Int))) (hT _).out
          · rw [hWB.out, hF.out]
            exact HD3.out
        | true =>
          have q5 : decide ((k : Int) < 16) = false := decide_eq_false (by simp only [true_and] at hto; omega)
          clear hto
          go_wp2_with ((with_reducible refine wpList_unguard ?_ ?_); (focus rfl))
          refine Calls.mono (dev_told i n _ _ HD3.out) ?_; rintro e w5 ⟨rfl, rfl⟩
          go_wp2_with ((with_reducible refine wpList_unguard ?_ ?_); (focus rfl))
          go_ret
          refine ⟨?_, ?_, HO3.out⟩
          · exact congrArg (fun (r : Nat) => Ending.returned (Value.int .i64 (r : Int))) (hT _).out
          · rw [hWB.out, hF.out]
            exact HD3.out
end Go.Proofs.Ytiicbbhjepkndaa
