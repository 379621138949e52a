/-
  TallyLevels, walked.
-/
import Derived.Test.YtiicbbhjepkndaaTal7
namespace Tri
open Go Go.RowKit Go.Proofs.Ytiicbbhjepkndaa
/-- What is known of a tally's device: levels apart by one at most, the greater is m. -/
structure Lv (s : FS) (m : Nat) : Prop where
  tdy : Tdy s 27
  ex : ∃ x y, lev s 25 x ∧ lev s 26 y ∧ max x y = m ∧ (x = m ∨ x + 1 = m) ∧ (y = m ∨ y + 1 = m)
theorem Lv.same {s s' : FS} {m : Nat} (h : Lv s m) (ht : Tdy s' 27) (hb : s'.b = s.b) : Lv s' m := by
  obtain ⟨x, y, h1, h2, h3⟩ := h.ex
  exact ⟨ht, x, y, lev_b h1 hb, lev_b h2 hb, h3⟩
theorem Lv.power {s : FS} {m : Nat} (h : Lv s m) : Lv (powerS s) m := h.same h.tdy.power rfl
theorem Lv.fuse {s : FS} {m : Nat} (h : Lv s m) (k : Int) (x : Nat) (c : Int) (hx : x < 256) : Lv (fuseS s k x c) m := h.same (h.tdy.fuse k x c hx) rfl
theorem Lv.opn {s : FS} {m : Nat} (h : Lv s m) : Lv (opnS s 27 25 26) m := h.same (h.tdy.opn 25 26) (opn_same s 27 25 26).1
theorem Lv.clr {s : FS} {c : Nat} (h : Lv s (c + 1)) (hc : c < 512) : Lv (clrS s 27 25 26 c) (c + 1) := by
  obtain ⟨x, y, h1, h2, h3, h4, h5⟩ := h.ex
  obtain ⟨x', y', q1, q2, q3, q4⟩ := clr_any h.tdy h1 h2 (by omega) (by omega) hc
  exact ⟨h.tdy.clr _ _ _, x', y', q1, q2, by omega, by omega, by omega⟩
theorem Lv.fine {s : FS} {c : Nat} (h : Lv s (c + 1)) (hc : c < 512) (hd : s.dn = false) (hl : s.lf = -1) : clrE s 27 25 26 c = 0 ∧ lev (clrS s 27 25 26 c) 25 (c + 1) ∧ lev (clrS s 27 25 26 c) 26 (c + 1) := by
  obtain ⟨x, y, h1, h2, h3, h4, h5⟩ := h.ex
  obtain ⟨q1, -, -, q2, q3⟩ := clr_fine h.tdy hd hl h1 h2 (by omega) (by omega) hc
  exact ⟨q1, q2, q3⟩
end Tri
namespace Go.Proofs.Ytiicbbhjepkndaa
open Go.RowKit Tri

/-- Level, whatever the fuse. -/
theorem tal_Level_any (i : DI) (s : FS) (T m : Nat) (ev : Bool) (w : World) (h : DevP w i 27 s) (hT : TalP w T i.D ((25 : Nat) : Int) ((26 : Nat) : Int) (m : Int) ev) (ho : T < i.lo ∨ i.hi ≤ T) (hl : Lv s m) (hm : m ≤ 500) :
    Calls Try.prog 43 #[.pointer (some ⟨T, 0, none⟩)] w fun e w' => ∃ (E : Nat) (s' : FS) (ev' : Bool),
      e = .returned (.int .i64 E) ∧ DevP w' i 27 s' ∧ Lv s' m ∧ TalP w' T i.D ((25 : Nat) : Int) ((26 : Nat) : Int) (m : Int) ev' ∧ Out2 i.lo i.hi T w w' ∧ (s.dn = false → s.lf = -1 → E = 0 ∧ ev' = true ∧ lev s' 25 m ∧ lev s' 26 m) := by
  cases m with
  | zero =>
    refine (tal_Level_zero i 27 s T _ _ ev w h hT ho).mono ?_
    rintro e w' ⟨rfl, h1, h2, h3⟩
    refine ⟨0, s, true, rfl, h1, hl, h2, h3, fun _ _ => ⟨rfl, rfl, ?_⟩⟩
    obtain ⟨x, y, q1, q2, q3, -⟩ := hl.ex
    have : x = 0 := by omega
    have : y = 0 := by omega
    subst x; subst y
    exact ⟨q1, q2⟩
  | succ c =>
    refine (tal_Level i 27 s T 25 26 c ev w h hT ho (by omega) (by omega) (by omega)).mono ?_
    rintro e w' ⟨rfl, h1, h2, h3⟩
    refine ⟨_, _, _, rfl, h1, hl.clr (by omega), h2, h3, fun hd hf => ?_⟩
    obtain ⟨q1, q2⟩ := hl.fine (by omega) hd hf
    exact ⟨q1, by unfold clrV; rw [q1]; rfl, q2⟩
/-- Open of such a device. -/
theorem tal_Open_any (i : DI) (s : FS) (m : Nat) (w : World) (h : DevP w i 27 s) (hl : Lv s m) (hd : s.dn = false) (hm : m ≤ 500) :
    Calls Try.prog 40 #[.pointer (some ⟨i.D, 0, none⟩), .agg #[.int .i64 1, .int .i64 2, .int .i64 1]] w fun e w' => ∃ (T : Nat) (ev : Bool), e = .returned (.tuple #[.pointer (some ⟨T, 0, none⟩), .int .i64 0]) ∧ i.hi ≤ T ∧ w.heap.size ≤ T ∧
      TalP w' T i.D ((25 : Nat) : Int) ((26 : Nat) : Int) (m : Int) ev ∧ DevP w' i 27 (opnS s 27 25 26) ∧ Out i.lo i.hi w w' := by
  obtain ⟨x, y, q1, q2, q3, q4, q5⟩ := hl.ex
  refine (tal_Open_lev i s x y w h hl.tdy hd q1 q2 (by omega) (by omega)).mono ?_
  rintro e w' ⟨T, rfl, h1, h2, -, h4, h5, h6⟩
  rw [q3] at h4
  exact ⟨T, _, rfl, h1, h2, h4, h5, h6⟩
theorem ref16_Count_dump (s : FS) (sec m : Nat) (w : World) (hF : Tdy s 27) (hs : sec < 27) (hm : m ≤ 512) (h : lev s sec m) (hb : ∀ x ∈ s.b, x < 256) :
    Calls Try.prog 45 #[.string (ofB (s.dumpB 27 (sec : Nat)))] w fun e w' => e = .returned (.int .i64 (m : Nat)) ∧ w = w' := by
  have hl := opnL_lev hF hs hm h
  unfold opnL at hl
  have hC := ref16_Count (ofB (s.dumpB 27 (sec : Nat))) w (by
    rw [ofB_size]
    unfold FS.dumpB
    split
    · rw [List.length_take]; omega
    · simp)
  rw [sb_ofB _ (by
    intro y hy
    unfold FS.dumpB at hy
    split at hy
    · exact hb y (List.mem_of_mem_drop (List.mem_of_mem_take hy))
    · cases hy), hl] at hC
  exact hC
set_option maxHeartbeats 4000000 in
set_option maxRecDepth 100000 in
theorem tallyLevels.walk (a0 : Int) (a1 : Int) (tk2 : Int) (tm2 : Nat) (w : World) (w0 : (Lit.int .u8 a0).wf = true) (w1 : (Lit.int .u8 a1).wf = true) (w2 : Tri.i64ok tk2 ∧ tm2 < 256) :
    Calls Try.prog 8 #[.int .u8 a0, .int .u8 a1, .agg #[.int .i64 tk2, .int .u8 (tm2 : Nat)]] w fun e w' => e = .returned (.bool true) ∧ Below w.heap.size w w' := by
  obtain ⟨n, hn, rfl⟩ := u8_of w0
  obtain ⟨cut, hcut, rfl⟩ := u8_of w1
  have hm2 := w2.2
  clear w0 w1 w2
  have hb0 := (Below.refl w.heap.size w).alloc (Nat.le_refl _) (.cells #[.int .i64 tk2, .int .u8 (tm2 : Nat)] 23)
  have t0 := rowP.new w 23 #[.int .i64 tk2, .int .u8 (tm2 : Nat)]
  have HX := hid t0
  have HB := hid hb0
  clear t0 hb0
  (go_enter Try.func8, Try.ntmps8; try simp only [List.append])
  go_wp2_with ((with_reducible refine wpList_unguard ?_ ?_); (focus rfl))
  generalize w.alloc (.cells #[.int .i64 tk2, .int .u8 (tm2 : Nat)] 23) = w1 at *
  refine Calls.mono (law16_awake w1) ?_; rintro e w2 ⟨rfl, hb⟩
  have HX2 := hid (HX.out.below hb HX.out.lt)
  have HB2 := hid (HB.out.trans (hb.mono HB.out.size))
  clear hb HX HB
  go_wp2_with ((with_reducible refine wpList_unguard ?_ ?_); (focus rfl))
  refine Calls.mono (law15_Geo w2) ?_; rintro e w3 ⟨rfl, hb⟩
  have HX3 := hid (HX2.out.below hb HX2.out.lt)
  have HB3 := hid (HB2.out.trans (hb.mono HB2.out.size))
  clear hb HX2 HB2
  go_wp2_with ((with_reducible refine wpList_unguard ?_ ?_); (focus rfl))
  have hg4 : G3 (w3.alloc (.cells #[.int .i64 1, .int .i64 2, .int .i64 1] 64)) w3.heap.size 64 1 2 1 := G3.new w3 _ 1 2 1
  have hb4 := (Below.refl w3.heap.size w3).alloc (Nat.le_refl _) (.cells #[.int .i64 1, .int .i64 2, .int .i64 1] 64)
  obtain ⟨w4, hw4⟩ : ∃ u, w3.alloc (.cells #[.int .i64 1, .int .i64 2, .int .i64 1] 64) = u := ⟨_, rfl⟩
  rw [hw4] at hg4 hb4 ⊢
  have HG := hid hg4
  have HX := hid (HX3.out.below hb4 HX3.out.lt)
  have HB := hid (HB3.out.trans (hb4.mono HB3.out.size))
  clear hg4 hb4 hw4 HX3 HB3
  refine Calls.mono (law16_blank w4) ?_; rintro e w5 ⟨i, rfl, hwz, hD, hb⟩
  have HK5 := hid hb
  have HD5 := hid hD
  clear hb hD
  have hg := HG.out.below HK5.out
  have c0 := hg.c0
  have c1 := hg.c1
  have c2 := hg.c2
  clear hg
  go_wp2_with ((with_reducible refine wpList_unguard ?_ ?_); (focus rfl))
  have hF0 := Tdy.newS 27
  have hO := tal_Open_lev i (newS 27) 0 0 w5 HD5.out hF0 rfl (lev_blank 27 25 (by omega)) (lev_blank 27 26 (by omega)) (by omega) (by omega)
  refine Calls.mono hO ?_; rintro e w6 ⟨T, rfl, hTi, hTw, hTl, hT, hD, hOut⟩
  have HT6 : Hid (TalP w6 T i.D ((25 : Nat) : Int) ((26 : Nat) : Int) ((0 : Nat) : Int) true) := hT
  have HD6 := hid hD
  have HK6 := hid (hOut.belowB HK5.out hwz)
  have hs0 := opn_same (newS 27) 27 25 26
  have HF6 := hid (hF0.opn 25 26)
  have HL6 : Hid ((opnS (newS 27) 27 25 26).dn = false ∧ (opnS (newS 27) 27 25 26).lf = -1 ∧ lev (opnS (newS 27) 27 25 26) 25 0 ∧ lev (opnS (newS 27) 27 25 26) 26 0) := ⟨hs0.2.1, hs0.2.2, lev_b (lev_blank 27 25 (by omega)) hs0.1, lev_b (lev_blank 27 26 (by omega)) hs0.1⟩
  have hTw2 : w4.heap.size ≤ T := Nat.le_trans HK5.out.size hTw
  clear hO hT hD hOut HD5 HK5 hs0 hF0 hTw c0 c1 c2 hTl
  generalize opnS (newS 27) 27 25 26 = s1 at *
  go_wp2_with ((with_reducible refine wpList_unguard ?_ ?_); (focus rfl))
  go_loopw [13] (fun v wr => ∃ (k : Nat) (s' : FS) (ev : Bool), k ≤ n ∧ v = .int .i64 k ∧ DevP wr i 27 s' ∧ Tdy s' 27 ∧ (s'.dn = false ∧ s'.lf = -1 ∧ lev s' 25 k ∧ lev s' 26 k) ∧ TalP wr T i.D ((25 : Nat) : Int) ((26 : Nat) : Int) (k : Int) ev ∧ Below w4.heap.size w4 wr) (fun v _ => n - (intOf v).toNat)
  case atStart => exact ⟨0, s1, true, Nat.zero_le _, rfl, HD6.out, HF6.out, HL6.out, HT6.out, HK6.out⟩
  case round =>
    obtain ⟨k, s', ev, hk, rfl, hD, hF, hL, hT, hK⟩ := hrel
    have HDr := hid hD
    have HFr := hid hF
    have HLr := hid hL
    have HTr := hid hT
    have HKr := hid hK
    clear hD hF hL hT hK HD6 HF6 HL6 HT6 HK6
    by_cases hlt : k < n
    · have q1 : decide ((k : Int) < n) = true := decide_eq_true (by omega)
      have q2 : decide (k < n) = true := decide_eq_true hlt
      have HC := hid (clr_fine HFr.out HLr.out.1 HLr.out.2.1 HLr.out.2.2.1 HLr.out.2.2.2 (.inr rfl) (.inr rfl) (by omega))
      have hBu := tal_Bump i 27 s' T 25 26 k ev wr HDr.out HTr.out (.inr hTi) (by omega) (by omega) (by omega)
      have hbc : bumpC s' 27 25 26 k = k + 1 := by unfold bumpC; rw [HC.out.1]; rfl
      rw [HC.out.1, hbc] at hBu
      clear hbc
      go_wp2_with ((with_reducible refine wpList_unguard ?_ ?_); (focus rfl))
      refine Calls.mono hBu ?_; rintro e w7 ⟨rfl, hD, hT, hOut⟩
      have hT7 : ∃ ev', TalP w7 T i.D ((25 : Nat) : Int) ((26 : Nat) : Int) ((k + 1 : Nat) : Int) ev' := ⟨_, hT⟩
      have HT7 := hid hT7
      have HD7 := hid hD
      have HK7 := hid (hOut.belowB HKr.out hwz hTw2)
      have HF7 := hid (HFr.out.clr 25 26 k)
      clear hBu hD hT hOut HTr HDr HKr HFr HLr hT7
      go_wp2_with ((with_reducible refine wpList_unguard ?_ ?_); (focus rfl))
      go_roundw
      case rel =>
        obtain ⟨ev', hT7⟩ := HT7.out
        exact ⟨k + 1, clrS s' 27 25 26 k, ev', by omega, by go_num, HD7.out, HF7.out, ⟨HC.out.2.1, HC.out.2.2.1, HC.out.2.2.2.1, HC.out.2.2.2.2⟩, hT7, HK7.out⟩
      case measure => simp [intOf]; omega
    · have hkn : k = n := by omega
      subst hkn
      have q1 : decide ((k : Int) < k) = false := decide_eq_false (by omega)
      have q2 : decide (k < k) = false := decide_eq_false (by omega)
      have hx := HX.out.below HKr.out HX.out.lt
      have x0 := hx.cell 0 _ rfl
      have x1 := hx.cell 1 _ rfl
      clear hx
      go_wp2_with ((with_reducible refine wpList_unguard ?_ ?_); (focus rfl))
      have hU0 : 0 ≤ (cut : Int) % 2 ∧ (cut : Int) % 2 < 2 := by omega
      refine Calls.mono (dev_Fuse i 27 s' wr tk2 tm2 _ HDr.out hm2 (by omega)) ?_; rintro e w8 ⟨rfl, hD, hOut⟩
      have HD8 := hid hD
      have HT8 := hid (HTr.out.out hOut (.inr hTi))
      have HK8 := hid (hOut.belowB HKr.out hwz)
      have HF8 := hid (HFr.out.fuse tk2 tm2 ((cut : Int) % 2) hm2)
      have HL8 : Hid (lev (fuseS s' tk2 tm2 ((cut : Int) % 2)) 25 k ∧ lev (fuseS s' tk2 tm2 ((cut : Int) % 2)) 26 k) := ⟨lev_b HLr.out.2.2.1 rfl, lev_b HLr.out.2.2.2 rfl⟩
      clear hD hOut HDr HTr HKr HFr HLr x0 x1 q1 q2 hU0
      generalize fuseS s' tk2 tm2 ((cut : Int) % 2) = s8 at *
      go_wp2_with ((with_reducible refine wpList_unguard ?_ ?_); (focus rfl))
      refine Calls.mono (tal_Bump i 27 s8 T 25 26 k ev w8 HD8.out HT8.out (.inr hTi) (by omega) (by omega) (by omega)) ?_; rintro e w9 ⟨rfl, hD, -, hOut⟩
      have HD9 := hid hD
      have HK9 := hid (hOut.belowB HK8.out hwz hTw2)
      have hl9 : ∃ m, m ≤ k + 1 ∧ Lv (clrS s8 27 25 26 k) m := by
        obtain ⟨x', y', q1, q2, q3, q4⟩ := clr_any HF8.out HL8.out.1 HL8.out.2 (.inr rfl) (.inr rfl) (by omega : k < 512)
        exact ⟨max x' y', by omega, HF8.out.clr _ _ _, x', y', q1, q2, rfl, by omega, by omega⟩
      obtain ⟨m, hmk, hl9⟩ := hl9
      have HL9 := hid hl9
      clear hD hOut hl9 HD8 HT8 HK8 HF8 HL8
      generalize clrS s8 27 25 26 k = s9 at *
      generalize clrE s8 27 25 26 k = E9 at *
      go_wp2_with ((with_reducible refine wpList_unguard ?_ ?_); (focus rfl))
      refine Calls.mono (dev_PowerOn i 27 s9 w9 HD9.out) ?_; rintro e w10 ⟨rfl, hD, hOut⟩
      have HD10 := hid hD
      have HK10 := hid (hOut.belowB HK9.out hwz)
      have HL10 := hid HL9.out.power
      have HP10 : Hid ((powerS s9).dn = false) := rfl
      clear hD hOut HD9 HK9 HL9
      generalize powerS s9 = s10 at *
      have hg := HG.out.below HK10.out
      have c0 := hg.c0
      have c1 := hg.c1
      have c2 := hg.c2
      clear hg
      go_wp2_with ((with_reducible refine wpList_unguard ?_ ?_); (focus rfl))
      refine Calls.mono (tal_Open_any i s10 m w10 HD10.out HL10.out HP10.out (by omega)) ?_; rintro e w11 ⟨T1, ev1, rfl, hT1i, hT1w, hT, hD, hOut⟩
      have HT11 := hid hT
      have HD11 := hid hD
      have HK11 := hid (hOut.belowB HK10.out hwz)
      have HL11 := hid HL10.out.opn
      have hT1w2 : w4.heap.size ≤ T1 := Nat.le_trans HK10.out.size hT1w
      clear hT hD hOut HD10 HK10 HL10 HP10 c0 c1 c2 hT1w
      generalize opnS s10 27 25 26 = s11 at *
      have hx := HX.out.below HK11.out HX.out.lt
      have x0 := hx.cell 0 _ rfl
      have x1 := hx.cell 1 _ rfl
      clear hx
      go_wp2_with ((with_reducible refine wpList_unguard ?_ ?_); (focus rfl))
      refine Calls.mono (tal_Count T1 i.D _ _ _ _ w11 HT11.out) ?_; rintro e w12 ⟨rfl, rfl⟩
      go_wp2_with ((with_reducible refine wpList_unguard ?_ ?_); (focus rfl))
      have hU0 : 0 ≤ (cut : Int) / 2 % 2 ∧ (cut : Int) / 2 % 2 < 2 := by omega
      refine Calls.mono (dev_Fuse i 27 s11 w11 tk2 tm2 ((cut : Int) / 2 % 2) HD11.out hm2 (by omega)) ?_; rintro e w12 ⟨rfl, hD, hOut⟩
      have HD12 := hid hD
      have HT12 := hid (HT11.out.out hOut (.inr hT1i))
      have HK12 := hid (hOut.belowB HK11.out hwz)
      have HL12 := hid (HL11.out.fuse tk2 tm2 ((cut : Int) / 2 % 2) hm2)
      clear hD hOut HD11 HT11 HK11 HL11 x0 x1 hU0
      generalize fuseS s11 tk2 tm2 ((cut : Int) / 2 % 2) = s12 at *
      go_wp2_with ((with_reducible refine wpList_unguard ?_ ?_); (focus rfl))
      refine Calls.mono (tal_Level_any i s12 T1 m ev1 w12 HD12.out HT12.out (.inr hT1i) HL12.out (by omega)) ?_; rintro e w13 ⟨E13, s13, ev13, rfl, hD, hl, -, hOut, -⟩
      have HD13 := hid hD
      have HK13 := hid (hOut.belowB HK12.out hwz hT1w2)
      have HL13 := hid hl
      clear hD hOut hl HD12 HT12 HK12 HL12
      go_wp2_with ((with_reducible refine wpList_unguard ?_ ?_); (focus rfl))
      refine Calls.mono (dev_PowerOn i 27 s13 w13 HD13.out) ?_; rintro e w14 ⟨rfl, hD, hOut⟩
      have HD14 := hid hD
      have HK14 := hid (hOut.belowB HK13.out hwz)
      have HL14 := hid HL13.out.power
      have HP14 : Hid ((powerS s13).dn = false ∧ (powerS s13).lf = -1) := ⟨rfl, rfl⟩
      clear hD hOut HD13 HK13 HL13
      generalize powerS s13 = s14 at *
      have hg := HG.out.below HK14.out
      have c0 := hg.c0
      have c1 := hg.c1
      have c2 := hg.c2
      clear hg
      go_wp2_with ((with_reducible refine wpList_unguard ?_ ?_); (focus rfl))
      refine Calls.mono (tal_Open_any i s14 m w14 HD14.out HL14.out HP14.out.1 (by omega)) ?_; rintro e w15 ⟨T2, ev2, rfl, hT2i, hT2w, hT, hD, hOut⟩
      have HT15 := hid hT
      have HD15 := hid hD
      have HK15 := hid (hOut.belowB HK14.out hwz)
      have HL15 := hid HL14.out.opn
      have HP15 : Hid ((opnS s14 27 25 26).dn = false ∧ (opnS s14 27 25 26).lf = -1) := ⟨(opn_same s14 27 25 26).2.1.trans HP14.out.1, (opn_same s14 27 25 26).2.2.trans HP14.out.2⟩
      have hT2w2 : w4.heap.size ≤ T2 := Nat.le_trans HK14.out.size hT2w
      clear hT hD hOut HD14 HK14 HL14 HP14 c0 c1 c2 hT2w
      generalize opnS s14 27 25 26 = s15 at *
      go_wp2_with ((with_reducible refine wpList_unguard ?_ ?_); (focus rfl))
      refine Calls.mono (tal_Count T2 i.D _ _ _ _ w15 HT15.out) ?_; rintro e w16 ⟨rfl, rfl⟩
      go_wp2_with ((with_reducible refine wpList_unguard ?_ ?_); (focus rfl))
      refine Calls.mono (tal_Level_any i s15 T2 m ev2 w15 HD15.out HT15.out (.inr hT2i) HL15.out (by omega)) ?_; rintro e w16 ⟨E16, s16, ev16, rfl, hD, hl, hT, hOut, hfin⟩
      obtain ⟨rfl, rfl, hla, hlb⟩ := hfin HP15.out.1 HP15.out.2
      have HD16 := hid hD
      have HT16 := hid hT
      have HK16 := hid (hOut.belowB HK15.out hwz hT2w2)
      have HF16 := hid hl.tdy
      have HLA := hid hla
      have HLB := hid hlb
      have HBy := hid hD.fs.2.2.2.2.2.1
      clear hD hOut hl hT hfin hla hlb HD15 HT15 HK15 HL15 HP15
      go_wp2_with ((with_reducible refine wpList_unguard ?_ ?_); (focus rfl))
      refine Calls.mono (tal_Even T2 i.D _ _ _ _ w16 HT16.out) ?_; rintro e w17 ⟨rfl, rfl⟩
      go_wp2_with ((with_reducible refine wpList_unguard ?_ ?_); (focus rfl))
      refine Calls.mono (tal_Count T2 i.D _ _ _ _ w16 HT16.out) ?_; rintro e w17 ⟨rfl, rfl⟩
      go_wp2_with ((with_reducible refine wpList_unguard ?_ ?_); (focus rfl))
      refine Calls.mono (dev_Dump i 27 s16 w16 _ HD16.out) ?_; rintro e w17 ⟨rfl, rfl⟩
      go_wp2_with ((with_reducible refine wpList_unguard ?_ ?_); (focus rfl))
      refine Calls.mono (ref16_Count_dump s16 25 m w16 HF16.out (by omega) (by omega) HLA.out HBy.out) ?_; rintro e w17 ⟨rfl, rfl⟩
      go_wp2_with ((with_reducible refine wpList_unguard ?_ ?_); (focus rfl))
      refine Calls.mono (dev_Dump i 27 s16 w16 _ HD16.out) ?_; rintro e w17 ⟨rfl, rfl⟩
      go_wp2_with ((with_reducible refine wpList_unguard ?_ ?_); (focus rfl))
      refine Calls.mono (ref16_Count_dump s16 26 m w16 HF16.out (by omega) (by omega) HLB.out HBy.out) ?_; rintro e w17 ⟨rfl, rfl⟩
      go_wp2_with ((with_reducible refine wpList_unguard ?_ ?_); (focus rfl))
      go_ret
      exact ⟨rfl, HB.out.trans (HK16.out.mono HB.out.size)⟩
end Go.Proofs.Ytiicbbhjepkndaa
