/-
  The example of the tally's chapter (awake).
-/
import Derived.Test.YtiicbbhjepkndaaTalQ
namespace Go.Proofs.Ytiicbbhjepkndaa
open Go.RowKit Tri

/-- Open, at the statements' geometry, of sectors of known levels. -/
theorem tal_Open_lev (i : DI) (s : FS) (x y : Nat) (w : World) (h : DevP w i 27 s) (hf : Tdy s 27) (hd : s.dn = false) (hx : lev s 25 x) (hy : lev s 26 y) (hx5 : x ≤ 512) (hy5 : y ≤ 512) :
    Calls Try.prog 40 #[.pointer (some ⟨i.D, 0, none⟩), .agg #[.int .i64 1, .int .i64 2, .int .i64 1]] w fun e w' => ∃ T, e = .returned (.tuple #[.pointer (some ⟨T, 0, none⟩), .int .i64 0]) ∧ i.hi ≤ T ∧ w.heap.size ≤ T ∧ T < w'.heap.size ∧
      TalP w' T i.D ((25 : Nat) : Int) ((26 : Nat) : Int) ((max x y : Nat) : Int) (decide (x = y)) ∧ DevP w' i 27 (opnS s 27 25 26) ∧ Out i.lo i.hi w w' := by
  have hih := h.hi
  refine (tal_Open_ok i 27 27 s 1 2 1 w h (by unfold i64r; omega) hd (by decide) (by decide) (Nat.le_refl _)).mono ?_
  rintro e w' ⟨T, rfl, h1, h2, h3, h4, h5⟩
  have e1 : opnL s 27 (27 - 2) = x := opnL_lev hf (by omega) hx5 hx
  have e2 : opnL s 27 (27 - 1) = y := opnL_lev hf (by omega) hy5 hy
  rw [e1, e2] at h3
  exact ⟨T, rfl, Nat.le_trans hih h1, h1, h2, h3, h4, h5⟩
set_option maxHeartbeats 4000000 in
set_option maxRecDepth 100000 in
theorem law16_awake (w : World) : Calls Try.prog 37 #[] w fun e w' => e = .returned (.bool true) ∧ Below w.heap.size w w' := by
  (go_enter Try.func37, Try.ntmps37; try simp only [List.append])
  go_wp2_with ((with_reducible refine wpList_unguard ?_ ?_); (focus rfl))
  refine Calls.mono (law16_blank w) ?_; rintro e w1 ⟨i, rfl, hwz, hD, hb⟩
  have HB1 := hid hb
  have HD1 := hid hD
  clear hb hD
  go_wp2_with ((with_reducible refine wpList_unguard ?_ ?_); (focus rfl))
  refine Calls.mono (law15_Geo w1) ?_; rintro e w2 ⟨rfl, hb⟩
  have HB2 := hid (HB1.out.trans (hb.mono HB1.out.size))
  have HD2 := hid (HD1.out.below hb)
  clear hb HB1 HD1
  go_wp2_with ((with_reducible refine wpList_unguard ?_ ?_); (focus rfl))
  have hF0 := Tdy.newS 27
  have hO := tal_Open_lev i (newS 27) 0 0 w2 HD2.out hF0 rfl (lev_blank 27 25 (by omega)) (lev_blank 27 26 (by omega)) (by omega) (by omega)
  refine Calls.mono hO ?_; rintro e w3 ⟨T, rfl, hTi, hTw, hTl, hT, hD, hOut⟩
  have HT3 : Hid (TalP w3 T i.D ((25 : Nat) : Int) ((26 : Nat) : Int) ((0 : Nat) : Int) true) := hT
  have HD3 := hid hD
  have HB3 := hid (hOut.belowB HB2.out hwz)
  have hs0 := opn_same (newS 27) 27 25 26
  have hF1 := hF0.opn 25 26
  have hx1 : lev (opnS (newS 27) 27 25 26) 25 0 := lev_b (lev_blank 27 25 (by omega)) hs0.1
  have hy1 : lev (opnS (newS 27) 27 25 26) 26 0 := lev_b (lev_blank 27 26 (by omega)) hs0.1
  have HC := hid (clr_fine hF1 hs0.2.1 hs0.2.2 hx1 hy1 (.inr rfl) (.inr rfl) (by omega))
  have HF2 := hid (hF1.clr 25 26 0)
  have hTw2 : w.heap.size ≤ T := Nat.le_trans HB2.out.size hTw
  clear hO hT hD hOut HD2 HB2 hs0 hF1 hx1 hy1 hF0 hTw
  generalize opnS (newS 27) 27 25 26 = s1 at *
  go_wp2_with ((with_reducible refine wpList_unguard ?_ ?_); (focus rfl))
  have hBu := tal_Bump i 27 s1 T 25 26 0 true w3 HD3.out HT3.out (.inr hTi) (by omega) (by omega) (by omega)
  have hbc : bumpC s1 27 25 26 0 = 1 := by unfold bumpC; rw [HC.out.1]; rfl
  rw [HC.out.1, hbc] at hBu
  refine Calls.mono hBu ?_; rintro e w4 ⟨rfl, hD, hT, hOut⟩
  have HT4 := hid hT
  have HD4 := hid hD
  have HB4 := hid (hOut.belowB HB3.out hwz hTw2)
  clear hBu hD hT hOut HT3 HD3 HB3 hbc
  obtain ⟨ev, hev⟩ : ∃ ev, clrV s1 27 25 26 0 true = ev := ⟨_, rfl⟩
  rw [hev] at HT4
  clear hev
  go_wp2_with ((with_reducible refine wpList_unguard ?_ ?_); (focus rfl))
  refine Calls.mono (tal_Count T i.D _ _ _ _ w4 HT4.out) ?_; rintro e w5 ⟨rfl, rfl⟩
  go_wp2_with ((with_reducible refine wpList_unguard ?_ ?_); (focus rfl))
  refine Calls.mono (law15_Geo w4) ?_; rintro e w5 ⟨rfl, hb⟩
  have HB5 := hid (HB4.out.trans (hb.mono HB4.out.size))
  have HD5 := hid (HD4.out.below hb)
  clear hb HB4 HD4 HT4
  go_wp2_with ((with_reducible refine wpList_unguard ?_ ?_); (focus rfl))
  have hO := tal_Open_lev i (clrS s1 27 25 26 0) 1 1 w5 HD5.out HF2.out HC.out.2.1 HC.out.2.2.2.1 HC.out.2.2.2.2 (by omega) (by omega)
  refine Calls.mono hO ?_; rintro e w6 ⟨T', rfl, hTi', hTw', hTl', hT, hD, hOut⟩
  have HT6 : Hid (TalP w6 T' i.D ((25 : Nat) : Int) ((26 : Nat) : Int) ((1 : Nat) : Int) true) := hT
  have HB6 := hid (hOut.belowB HB5.out hwz)
  clear hO hT hD hOut HD5 HB5
  go_wp2_with ((with_reducible refine wpList_unguard ?_ ?_); (focus rfl))
  refine Calls.mono (tal_Count T' i.D _ _ _ _ w6 HT6.out) ?_; rintro e w7 ⟨rfl, rfl⟩
  go_wp2_with ((with_reducible refine wpList_unguard ?_ ?_); (focus rfl))
  refine Calls.mono (tal_Even T' i.D _ _ _ _ w6 HT6.out) ?_; rintro e w7 ⟨rfl, rfl⟩
  go_wp2_with ((with_reducible refine wpList_unguard ?_ ?_); (focus rfl))
  go_ret
  exact ⟨rfl, HB6.out⟩
end Go.Proofs.Ytiicbbhjepkndaa
