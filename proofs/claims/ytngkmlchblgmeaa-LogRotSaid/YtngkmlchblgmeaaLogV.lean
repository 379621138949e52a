/-
  LogRot, walked.
-/
import Derived.Test.YtngkmlchblgmeaaPak13
import Derived.Test.YtngkmlchblgmeaaPak14
import Derived.Deep.RegionHeld3
namespace Go.Proofs.Ytngkmlchblgmeaa
open Go.RowKit Tri

theorem cell1_below {w w' : World} {a : Addr} {v : Value} (h : w.cell? a = some v) (hb : Below w.heap.size w w') : w'.cell? a = some v := (hb.cell (p := a) (block_lt_of_cell h)).trans h
/-- How it stands between two rounds of the first loop of LogRot. -/
structure LogI (i : DI) (L S b0 : Nat) (l0 acc : List RecI) (rs : Value) (s : FS) (wr : World) : Prop where
  calm : Tri.Calm s
  h0 : HalfIs s 0 (allR 1 l0 ++ acc)
  h1 : HalfIs s 1 []
  fit : (l0 ++ acc).all fitB = true
  len : l0.length + 2 + acc.length ≤ 16
  dev : DevP wr i 27 s
  log : LogP i L S 0 rs ((l0 ++ acc).map z0) 1 (l0.length + 2 + acc.length) true true b0 wr
  sz : b0 ≤ wr.heap.size
theorem LogI.below {i : DI} {L S b0 : Nat} {l0 acc : List RecI} {rs : Value} {s : FS} {w w' : World} (h : LogI i L S b0 l0 acc rs s w) (hb : Below w.heap.size w w') : LogI i L S b0 l0 acc rs s w' :=
  ⟨h.calm, h.h0, h.h1, h.fit, h.len, h.dev.below hb, h.log.below hb, Nat.le_trans h.sz hb.size⟩
/-- A record is appended, or not. -/
theorem LogI.app {i : DI} {L S b0 : Nat} {l0 acc : List RecI} {rs : Value} {s : FS} {w w' : World} {r : RecI} {e : Ending} (h : LogI i L S b0 l0 acc rs s w)
    (hp : AppPost i s L S 0 rs ((l0 ++ acc).map z0) 1 (l0.length + 2 + acc.length) true true b0 r w e w') : ∃ x acc' rs' s', e = .returned (.int .i64 x) ∧ OutA i.lo i.hi L rs w w' ∧ LogI i L S b0 l0 acc' rs' s' w' := by
  unfold AppPost at hp
  cases hz : fitB r with
  | false =>
    have hap : appE s 0 (l0.length + 2 + acc.length) r = 1 := by unfold appE; rw [if_pos hz]
    rw [hap, if_neg (by rw [hz]; simp), if_neg (by decide), if_neg (by rw [hz]; simp)] at hp
    obtain ⟨rfl, hO, hD, hP⟩ := hp
    exact ⟨_, acc, rs, s, rfl, hO, h.calm, h.h0, h.h1, h.fit, h.len, hD, hP, Nat.le_trans h.sz hO.size⟩
  | true =>
    by_cases hm : l0.length + 2 + acc.length = 16
    · have hap : appE s 0 (l0.length + 2 + acc.length) r = 9 := by unfold appE; rw [if_neg (by rw [hz]; simp), if_pos hm]
      rw [hap, if_neg (by intro h; exact h.2 hm), if_neg (by decide), if_neg (by intro h; exact h.2 hm)] at hp
      obtain ⟨rfl, hO, hD, hP⟩ := hp
      exact ⟨_, acc, rs, s, rfl, hO, h.calm, h.h0, h.h1, h.fit, h.len, hD, hP, Nat.le_trans h.sz hO.size⟩
    · have hlen := h.len
      obtain ⟨n1, n2, n3, n4⟩ := calm_laid h.calm 0 (allR 1 l0 ++ acc) r (by omega) (by rw [all_len]; omega) h.h0
      rw [all_len] at n1 n2 n3 n4
      have hap : appE s 0 (l0.length + 2 + acc.length) r = 0 := by unfold appE; rw [if_neg (by rw [hz]; simp), if_neg (by omega), n1]; rfl
      rw [hap, if_pos ⟨hz, by omega⟩, if_pos rfl] at hp
      obtain ⟨rfl, hO, hD, rs', hP⟩ := hp
      refine ⟨_, acc ++ [r], rs', _, rfl, hO, n2, by rw [← List.append_assoc]; exact n3, n4 1 [] (by omega) (by omega) h.h1, by rw [← List.append_assoc, List.all_append, h.fit]; simp [hz], by rw [List.length_append, List.length_singleton]; omega, hD, ?_, Nat.le_trans h.sz hO.size⟩
      rw [← List.append_assoc, List.map_append (l₂ := [r]), List.length_append, List.length_singleton, ← Nat.add_assoc]; exact hP
/-- How it stands between two rounds of the second loop. -/
structure RI (i : DI) (L S b0 B : Nat) (recs : List RecI) (rs : Value) (used : Nat) (s0 s : FS) (side : Nat → Nat) (wr : World) : Prop where
  rot : RotI s0 s side
  dev : DevP wr i 27 s
  log : LogP i L S 0 rs recs 1 used true true b0 wr
  sd : sideB wr B side
theorem RI.below {i : DI} {L S b0 B : Nat} {recs : List RecI} {rs : Value} {used : Nat} {s0 s : FS} {side : Nat → Nat} {w w' : World} (h : RI i L S b0 B recs rs used s0 s side w) (hb : Below w.heap.size w w') : RI i L S b0 B recs rs used s0 s side w' :=
  ⟨h.rot, h.dev.below hb, h.log.below hb, h.sd.below hb⟩
set_option maxHeartbeats 8000000 in
set_option maxRecDepth 100000 in
theorem logRot.walk (a0 : Option Addr) (len0 cap0 : Nat) (l0 : List Tri.RecI) (a1 : Option Addr) (len1 cap1 : Nat) (l1 : List Tri.RecI) (a2 : Option Addr) (len2 cap2 : Nat) (l2 : List Tri.TurnR) (w : World) (w0 : IsRecsW w a0 len0 cap0 l0) (w1 : IsRecsW w a1 len1 cap1 l1) (w2 : IsTurns w a2 len2 cap2 l2) :
    Calls Try.prog 6 #[.slice a0 len0 cap0, .slice a1 len1 cap1, .slice a2 len2 cap2] w fun e w' => e = .returned (.bool true) ∧ Below w.heap.size w w' := by
  obtain ⟨⟨rfl, hlc0, -, hc0, -⟩, hw0⟩ := w0
  obtain ⟨⟨rfl, hlc1, -, hc1, -⟩, hw1⟩ := w1
  obtain ⟨rfl, hlc2, -, hc2, hok2⟩ := w2
  have HC0 := hid hc0
  have HC1 := hid hc1
  have HC2 := hid hc2
  have HT2 := hid hok2
  clear hc0 hc1 hc2 hok2
  (go_enter Try.func6, Try.ntmps6; try simp only [List.append])
  go_wp2_with ((with_reducible refine wpList_unguard ?_ ?_); (focus rfl))
  refine Calls.mono (law15_awake _) ?_; rintro e w2 ⟨rfl, hb⟩
  have HB := hid hb
  clear hb
  go_wp2_with ((with_reducible refine wpList_unguard ?_ ?_); (focus rfl))
  refine Calls.mono (law15_wrong a0 l0.length cap0 l0 w2 rfl (by omega) hlc0 (HC0.out.below HB.out)) ?_; rintro e w3 ⟨rfl, hb⟩
  (replace HB := hid (HB.out.trans (hb.mono HB.out.size)); clear hb)
  by_cases hE : fitsE l0 = 0
  case neg =>
    have q : (fitsE l0 != 0) = true := by rw [bne_iff_ne]; exact hE
    go_wp2_with ((with_reducible refine wpList_unguard ?_ ?_); (focus rfl))
    go_ret
    exact ⟨rfl, HB.out⟩
  have HE := hid hE
  rw [hE]
  have hbl := (fitsE_zero hE).2
  clear hE
  by_cases h40 : (20 : Int) < (l1.length : Int)
  · have q : decide ((20 : Int) < (l1.length : Int)) = true := decide_eq_true h40
    go_wp2_with ((with_reducible refine wpList_unguard ?_ ?_); (focus rfl))
    go_ret
    exact ⟨rfl, HB.out⟩
  have q : decide ((20 : Int) < (l1.length : Int)) = false := decide_eq_false h40
  by_cases h60 : (60 : Int) < (l2.length : Int)
  · have q : decide ((60 : Int) < (l2.length : Int)) = true := decide_eq_true h60
    go_wp2_with ((with_reducible refine wpList_unguard ?_ ?_); (focus rfl))
    go_ret
    exact ⟨rfl, HB.out⟩
  have q2 : decide ((60 : Int) < (l2.length : Int)) = false := decide_eq_false h60
  go_wp2_with ((with_reducible refine wpList_unguard ?_ ?_); (focus rfl))
  clear q q2
  refine Calls.mono (law15_blank w3) ?_; rintro e w4 ⟨i, rfl, hwz, hD, hb⟩
  have hwi : w.heap.size ≤ i.lo := Nat.le_trans HB.out.size hwz
  have HD := hid hD
  clear hD hwz
  (replace HB := hid (HB.out.trans (hb.mono HB.out.size)); clear hb)
  go_wp2_with ((with_reducible refine wpList_unguard ?_ ?_); (focus rfl))
  refine Calls.mono (law15_Geo w4) ?_; rintro e w5 ⟨rfl, hb⟩
  replace HD := hid (HD.out.below hb)
  (replace HB := hid (HB.out.trans (hb.mono HB.out.size)); clear hb)
  go_wp2_with ((with_reducible refine wpList_unguard ?_ ?_); (focus rfl))
  have hih : i.hi ≤ w5.heap.size := HD.out.hi
  obtain ⟨k1, k2, k3, k4⟩ := calm_format calm_new l0 HE.out
  have HK := hid (And.intro k2 (And.intro k3 k4))
  refine Calls.mono (log_Format i (newS 27) l0 a0 cap0 w5 HD.out (HC0.out.below HB.out) (HC0.out.offL hwi) (by omega) hlc0) ?_; rintro e w6 ⟨hD, hO, -, hok⟩
  obtain ⟨L, S, rv, b0, rfl, hLz, hSz, hSL, hLb, hSb, hbw, hS, hL, hJ⟩ := hok k1
  have hw5 : w.heap.size ≤ w5.heap.size := HB.out.size
  have hP : LogP i L S 0 rv (l0.map z0) 1 (l0.length + 2) true true b0 w6 := ⟨⟨hL, hS, .inr (by omega), .inr (by omega)⟩, hJ, hLb, hSb, by omega, hSL⟩
  have hwL : w.heap.size ≤ L := by omega
  have hiL : i.hi ≤ L := by omega
  replace HB := hid (hO.belowB HB.out hwi)
  have HI : Hid (LogI i L S b0 l0 [] rv (formatS (newS 27) l0).1 w6) := ⟨HK.out.1, by rw [List.append_nil]; exact HK.out.2.1, HK.out.2.2, by rw [List.append_nil]; exact (fitsE_zero HE.out).1, by simp; omega, hD, by rw [List.append_nil]; exact hP, hbw⟩
  clear k1 k2 k3 k4 hD hO hok hS hL hJ hP HD HK
  generalize (formatS (newS 27) l0).1 = s0 at *
  go_wp2_with ((with_reducible refine wpList_unguard ?_ ?_); (focus rfl))
  go_loopw [55] (fun v wr => ∃ (k : Nat) (acc : List RecI) (rs : Value) (s : FS), k ≤ l1.length ∧ v = .int .i64 k ∧ LogI i L S b0 l0 acc rs s wr ∧ Below w.heap.size w wr) (fun v _ => l1.length - (intOf v).toNat)
  case atStart => exact ⟨0, [], rv, s0, Nat.zero_le _, rfl, HI.out, HB.out⟩
  case round =>
    clear HI HB
    obtain ⟨k, acc, rs, s, hk, rfl, hO, hB⟩ := hrel
    have HO := hid hO
    have HB := hid hB
    clear hO hB
    by_cases hlt : k < l1.length
    · obtain ⟨b, o, rfl, g0, g1, g2, g3⟩ := recs_at (HC1.out.below HB.out) k hlt
      generalize l1[k] = r at *
      have hA : Below wr.heap.size wr (wr.alloc (.cells #[.int .i64 r.k, .int .i64 r.s, .int .i64 r.n, .int .i64 r.v] 37)) := (Below.refl _ _).alloc (Nat.le_refl _) _
      have hlen := HO.out.len
      have hob : ∀ g, rs.ownBlock = some g → b0 ≤ g := fun g hg => (HO.out.log.hj.own2 g hg).1
      replace HO := hid (HO.out.below hA)
      replace HB := hid (HB.out.trans (hA.mono HB.out.size))
      clear hA
      go_wp2_with ((with_reducible refine wpList_unguard ?_ ?_); (focus rfl))
      clear g0 g1 g2 g3
      generalize wr.alloc (.cells #[.int .i64 r.k, .int .i64 r.s, .int .i64 r.n, .int .i64 r.v] 37) = wx at *
      refine Calls.mono (log_Append i s L S 0 rs ((l0 ++ acc).map z0) 1 (l0.length + 2 + acc.length) true true b0 r wx HO.out.dev HO.out.log (by omega) (by omega) (by rw [List.length_map, List.length_append]; omega) HO.out.sz) ?_; rintro e wy hpost
      obtain ⟨x, acc', rs', s', rfl, hO, hI⟩ := HO.out.app hpost
      have HI := hid hI
      replace HB := hid (hO.belowB HB.out (Nat.le_refl _) hwi hwL (fun g hg => by have := hob g hg; omega))
      clear hO hI HO hpost
      go_wp2_with ((with_reducible refine wpList_unguard ?_ ?_); (focus rfl))
      go_roundw
      case rel => exact ⟨k + 1, acc', rs', s', by omega, by go_num, HI.out, HB.out⟩
      case measure => simp [intOf]; omega
    · have hA : Below wr.heap.size wr (wr.alloc (.cells #[.int .i64 0, .int .i64 0, .int .i64 0, .int .i64 0, .int .i64 0, .int .i64 0, .int .i64 0, .int .i64 0, .int .i64 0, .int .i64 0, .int .i64 0, .int .i64 0, .int .i64 0, .int .i64 0, .int .i64 0, .int .i64 0] 61)) := (Below.refl _ _).alloc (Nat.le_refl _) _
      have hsd := sideB.new wr
      have HI := hid HO.out
      have HR : Hid (RI i L S b0 wr.heap.size ((l0 ++ acc).map z0) rs (l0.length + 2 + acc.length) s s (fun _ => 0) (wr.alloc (.cells #[.int .i64 0, .int .i64 0, .int .i64 0, .int .i64 0, .int .i64 0, .int .i64 0, .int .i64 0, .int .i64 0, .int .i64 0, .int .i64 0, .int .i64 0, .int .i64 0, .int .i64 0, .int .i64 0, .int .i64 0, .int .i64 0] 61))) := ⟨RotI.refl HO.out.calm.dn HO.out.calm.len, HO.out.dev.below hA, HO.out.log.below hA, hsd⟩
      have hBi : i.hi ≤ wr.heap.size := HO.out.dev.hi
      have hBL : L < wr.heap.size := HO.out.log.hw.hL.lt
      have hwB : w.heap.size ≤ wr.heap.size := HB.out.size
      replace HB := hid (HB.out.trans (hA.mono HB.out.size))
      clear hA hsd HO
      go_wp2_with ((with_reducible refine wpList_unguard ?_ ?_); (focus rfl))
      generalize wr.alloc (.cells #[.int .i64 0, .int .i64 0, .int .i64 0, .int .i64 0, .int .i64 0, .int .i64 0, .int .i64 0, .int .i64 0, .int .i64 0, .int .i64 0, .int .i64 0, .int .i64 0, .int .i64 0, .int .i64 0, .int .i64 0, .int .i64 0] 61) = wB at *
      generalize wr.heap.size = B at *
      go_loopw [65] (fun v wr => ∃ (k : Nat) (s' : FS) (side : Nat → Nat), k ≤ l2.length ∧ v = .int .i64 k ∧ RI i L S b0 B ((l0 ++ acc).map z0) rs (l0.length + 2 + acc.length) s s' side wr ∧ Below w.heap.size w wr) (fun v _ => l2.length - (intOf v).toNat)
      case atStart => exact ⟨0, s, _, Nat.zero_le _, rfl, HR.out, HB.out⟩
      case round =>
        clear HR HB
        obtain ⟨k2, s', side, hk2, rfl, hR, hB⟩ := hrel
        have HR := hid hR
        have HB := hid hB
        clear hR hB
        rename World => wr
        by_cases hlt2 : k2 < l2.length
        · obtain ⟨b, o, rfl, g0, g1, g2, g3⟩ := turns_at (HC2.out.below HB.out) k2 hlt2
          obtain ⟨ok0, ok1, ok2, ok3⟩ := HT2.out _ (List.getElem_mem hlt2)
          generalize l2[k2] = t at *
          obtain ⟨tp, tc, ta, ty⟩ := t
          simp only at ok0 ok1 ok2 ok3 g0 g1 g2 g3
          have hA : Below wr.heap.size wr (wr.alloc (.cells #[.int .u8 (tp : Nat), .int .u8 (tc : Nat), .int .u8 (ta : Nat), .int .u8 (ty : Nat)] 63)) := (Below.refl _ _).alloc (Nat.le_refl _) _
          have HBr := hid HR.out.sd.lt
          have HK := hid (Blk.new wr 63 #[.int .u8 (tp : Nat), .int .u8 (tc : Nat), .int .u8 (ta : Nat), .int .u8 (ty : Nat)])
          replace HR := hid (HR.out.below hA)
          replace HB := hid (HB.out.trans (hA.mono HB.out.size))
          clear hA
          have hP : tp % 16 < 16 := Nat.mod_lt _ (by omega)
          have hC : tc % 2 < 2 := Nat.mod_lt _ (by omega)
          have hsc := HR.out.sd.cell hP
          have hsf := HR.out.sd.free (tp % 16)
          by_cases hs : side (tp % 16) = 2 - tc % 2
          · have q : (((side (tp % 16) : Nat) : Int) == 2 - (tc : Int) % 2) = true := by rw [beq_iff_eq]; omega
            go_wp2_with ((with_reducible refine wpList_unguard ?_ ?_); (focus rfl))
            go_roundw
            case rel => exact ⟨k2 + 1, s', side, by omega, by go_num, HR.out, HB.out⟩
            case measure => simp [intOf]; omega
          · have q : (((side (tp % 16) : Nat) : Int) == 2 - (tc : Int) % 2) = false := by rw [beq_eq_false_iff_ne]; omega
            go_wp2_with ((with_reducible refine wpList_unguard ?_ ?_); (focus rfl))
            have e1 : (1 + (tc : Int) % 2) = ((tc % 2 + 1 : Nat) : Int) := by omega
            rw [e1]
            have hSd := HR.out.sd.set hP (tc % 2 + 1)
            have hDv := HR.out.dev.setLog B (tp % 16) (.int .i64 ((tc % 2 + 1 : Nat) : Int)) (.inr hBi)
            have hLg := HR.out.log.setB HR.out.sd (tp % 16) (.int .i64 ((tc % 2 + 1 : Nat) : Int))
            have HRot := hid HR.out.rot
            have hKt : Blk ((wr.alloc (.cells #[.int .u8 (tp : Nat), .int .u8 (tc : Nat), .int .u8 (ta : Nat), .int .u8 (ty : Nat)] 63)).setCell ⟨B, tp % 16, none⟩ (.int .i64 ((tc % 2 + 1 : Nat) : Int))) wr.heap.size 63 #[.int .u8 (tp : Nat), .int .u8 (tc : Nat), .int .u8 (ta : Nat), .int .u8 (ty : Nat)] := (heap_setCell_other _ _ _ _ (show wr.heap.size ≠ B from Nat.ne_of_gt HBr.out)).trans HK.out
            have hBl := HB.out.setCell (p := ⟨B, tp % 16, none⟩) hwB (.int .i64 ((tc % 2 + 1 : Nat) : Int))
            clear hsc hsf g0 g1 g2 g3 HR HK HB
            generalize (wr.alloc (.cells #[.int .u8 (tp : Nat), .int .u8 (tc : Nat), .int .u8 (ta : Nat), .int .u8 (ty : Nat)] 63)).setCell ⟨B, tp % 16, none⟩ (.int .i64 ((tc % 2 + 1 : Nat) : Int)) = wS at *
            have HSd := hid hSd
            have HDv := hid hDv
            have HLg := hid hLg
            have HKt := hid hKt
            have HB := hid hBl
            clear hSd hDv hLg hKt hBl
            refine Calls.mono (law15_Geo wS) ?_; rintro e w10 ⟨rfl, hb⟩
            replace HSd := hid (HSd.out.below hb)
            replace HDv := hid (HDv.out.below hb)
            replace HLg := hid (HLg.out.below hb)
            replace HKt := hid (HKt.out.below hb)
            (replace HB := hid (HB.out.trans (hb.mono HB.out.size)); clear hb)
            have hH := geo_Half 0 (tc % 2) w10 (by omega) hC
            rw [show ((tc % 2 : Nat) : Int) = (tc : Int) % 2 from by omega, show ((0 : Nat) : Int) = 0 from rfl] at hH
            obtain ⟨N, hN⟩ : ∃ N, halfAt 0 (tc % 2) = N := ⟨_, rfl⟩
            have hN2 : N = 9 + 4 * (tc % 2) := by rw [← hN]; unfold halfAt; omega
            rw [hN] at hH
            clear hN
            go_wp2_with ((with_reducible refine wpList_unguard ?_ ?_); (focus rfl))
            refine Calls.mono hH ?_; rintro e w11 ⟨rfl, hb⟩
            replace HSd := hid (HSd.out.below hb)
            replace HDv := hid (HDv.out.below hb)
            replace HLg := hid (HLg.out.below hb)
            replace HKt := hid (HKt.out.below hb)
            (replace HB := hid (HB.out.trans (hb.mono HB.out.size)); clear hb)
            clear hH
            have t2 : w11.cell? ⟨wr.heap.size, 2, none⟩ = some (.int .u8 (ta : Nat)) := HKt.out.cell 2 _ rfl
            have t3 : w11.cell? ⟨wr.heap.size, 3, none⟩ = some (.int .u8 (ty : Nat)) := HKt.out.cell 3 _ rfl
            go_wp2_with ((with_reducible refine wpList_unguard ?_ ?_); (focus rfl))
            clear t2 t3
            have hA2 : Below w11.heap.size w11 (w11.alloc (.cells #[.int .u8 (ty : Nat)] 5)) := (Below.refl _ _).alloc (Nat.le_refl _) _
            have hib := HDv.out.hi
            have hRt : ∀ a : Int, a = ((64 * (9 + 4 * (tc % 2)) + 16 * (tp % 16) + ta % 16 : Nat) : Int) → Calls Try.prog 29 #[.pointer (some ⟨i.D, 0, none⟩), .int .i64 a, .slice (some ⟨w11.heap.size, 0, none⟩) 1 1] (w11.alloc (.cells #[.int .u8 (ty : Nat)] 5)) fun e w' =>
                e = .returned (.int .i64 0) ∧ DevP w' i 27 { s' with b := fillB (fun j x => x ^^^ [ty].getD j 0) (64 * (9 + 4 * (tc % 2)) + 16 * (tp % 16) + ta % 16) 1 s'.b } ∧ Out i.lo i.hi (w11.alloc (.cells #[.int .u8 (ty : Nat)] 5)) w' := by
              rintro a rfl
              obtain ⟨e1, e2⟩ := RotI.to_rot s' (tc % 2) (tp % 16) (ta % 16) ty hC hP (Nat.mod_lt _ (by omega))
              have := dev_Rot i 27 s' _ ((64 * (9 + 4 * (tc % 2)) + 16 * (tp % 16) + ta % 16 : Nat) : Int) (some ⟨w11.heap.size, 0, none⟩) 1 1 [ty] (HDv.out.below hA2) (by omega) rfl (by simp) (cellsB.new w11 [ty] #[.int .u8 (ty : Nat)] 5 rfl) (by simpa using ok3) (fun a o s e => .inr (by simp only [Option.some.injEq, Addr.mk.injEq] at e; omega))
              rw [e1, e2] at this
              exact this
            refine Calls.mono (hRt _ (by omega)) ?_; rintro e w12 ⟨rfl, hD, hO⟩
            have hRI : RI i L S b0 B ((l0 ++ acc).map z0) rs (l0.length + 2 + acc.length) s _ (upd side (tp % 16) (tc % 2 + 1)) w12 := ⟨HRot.out.turn (tp % 16) (tc % 2) (ta % 16) ty hP hC (Nat.mod_lt _ (by omega)) hs, hD, (HLg.out.below hA2).out hO, (HSd.out.below hA2).out hO hBi⟩
            have HRI := hid hRI
            replace HB := hid (hO.belowB (HB.out.trans (hA2.mono HB.out.size)) hwi)
            clear hRt hA2 hD hO hRI HRot HSd HDv HLg HKt
            go_wp2_with ((with_reducible refine wpList_unguard ?_ ?_); (focus rfl))
            go_roundw
            case rel => exact ⟨k2 + 1, _, upd side (tp % 16) (tc % 2 + 1), by omega, by go_num, HRI.out, HB.out⟩
            case measure => simp [intOf]; omega
        · have HLE := hid HI.out.len
          obtain ⟨D, hD⟩ : ∃ D, (l0 ++ acc).map z0 = D := ⟨_, rfl⟩
          have hDl : D.length = l0.length + acc.length := by rw [← hD, List.length_map, List.length_append]
          rw [hD] at HR
          have HDE := hid hD
          clear hD
          have hDl2 : D.length ≤ 14 := by have := HLE.out; omega
          have hAll := log_All i L S 0 rs D 1 (l0.length + 2 + acc.length) true true b0 wr HR.out.log (by omega)
          go_wp2_with ((with_reducible refine wpList_unguard ?_ ?_); (focus rfl))
          refine Calls.mono hAll ?_; rintro e w9 ⟨v, rfl, hj, hb⟩
          obtain ⟨p9, c9, rfl, hl9, -⟩ := hj.cells
          replace HR := hid (HR.out.below hb)
          replace HB := hid (HB.out.trans (hb.mono HB.out.size))
          clear hAll hj hb hl9
          go_wp2_with ((with_reducible refine wpList_unguard ?_ ?_); (focus rfl))
          go_loopw [19] (fun v wy => ∃ k : Nat, D.length + 2 ≤ k ∧ k ≤ 16 ∧ v = .int .i64 k ∧ wy = w9 ∧ ∀ q, D.length + 2 ≤ q → q < k → side q = 0) (fun v _ => 16 - (intOf v).toNat)
          case atStart => exact ⟨D.length + 2, Nat.le_refl _, by omega, by go_num, rfl, fun q h1 h2 => by omega⟩
          case round =>
            obtain ⟨k3, hk3, hk4, rfl, rfl, hz⟩ := hrel
            have HZ := hid hz
            clear hz
            by_cases hlt3 : k3 < 16
            · have hsc := HR.out.sd.cell hlt3
              by_cases hs : side k3 = 0
              · have q : (((side k3 : Nat) : Int) != 0) = false := by rw [bne_eq_false_iff_eq]; omega
                go_wp2_with ((with_reducible refine wpList_unguard ?_ ?_); (focus rfl))
                go_roundw
                case rel => exact ⟨k3 + 1, by omega, by omega, by go_num, by first | trivial | rfl, fun q h1 h2 => by
                  by_cases e : q = k3
                  · subst e; exact hs
                  · exact HZ.out q h1 (by omega)⟩
                case measure => simp [intOf]; omega
              · have q : (((side k3 : Nat) : Int) != 0) = true := by rw [bne_iff_ne]; omega
                go_wp2_with ((with_reducible refine wpList_unguard ?_ ?_); (focus rfl))
                go_ret
                exact ⟨rfl, HB.out⟩
            · obtain rfl : k3 = 16 := by omega
              have hDu := law13_Dump i 27 s' _ HR.out.dev
              go_wp2_with ((with_reducible refine wpList_unguard ?_ ?_); (focus rfl))
              refine Calls.mono hDu ?_; rintro e w10 ⟨v, rfl, hq, hb⟩
              obtain ⟨g, cg, rfl, hcg, hgb, hgl, hcell⟩ := hq.cells (fun h => by have := congrArg List.length h; rw [dumpL_len] at this; simp at this)
              rw [dumpL_len] at hcg ⊢
              have hwg : w.heap.size ≤ g := Nat.le_trans HB.out.size hgb
              replace HR := hid (HR.out.below hb)
              replace HB := hid (HB.out.trans (hb.mono HB.out.size))
              have HCell : Hid (∀ c, c < 27 → w10.cell? ⟨g, c, none⟩ = some (.string (ofB (s'.dumpB 27 (c : Nat))))) := by
                intro c hc
                have := hcell c (by rw [dumpL_len]; exact hc)
                rw [this]
                unfold dumpL
                simp
              clear hDu hq hb hcell
              go_wp2_with ((with_reducible refine wpList_unguard ?_ ?_); (focus rfl))
              go_loopw [128] (fun v wy => ∃ k : Nat, k ≤ 16 ∧ v = .int .i64 k ∧ Below w10.heap.size w10 wy ∧ ∀ p, p < k → side p ≠ 0 → getOk (pgB s' 0 (side p - 1) p) = false) (fun v _ => 16 - (intOf v).toNat)
              case atStart => exact ⟨0, Nat.zero_le _, rfl, Below.refl _ _, fun p h => absurd h (Nat.not_lt_zero _)⟩
              case round =>
                obtain ⟨k4, hk4, rfl, hbw, hz⟩ := hrel
                have HZ4 := hid hz
                have HW := hid hbw
                clear hz hbw
                rename World => wy
                have HRy := hid (HR.out.below HW.out)
                by_cases hlt4 : k4 < 16
                · have hsc := HRy.out.sd.cell hlt4
                  by_cases hs : side k4 = 0
                  · have q : (((side k4 : Nat) : Int) == 0) = true := by rw [beq_iff_eq]; omega
                    go_wp2_with ((with_reducible refine wpList_unguard ?_ ?_); (focus rfl))
                    go_roundw
                    case rel => exact ⟨k4 + 1, by omega, by go_num, HW.out, fun p h1 h2 => by
                      by_cases e : p = k4
                      · subst e; exact absurd hs h2
                      · exact HZ4.out p (by omega) h2⟩
                    case measure => simp [intOf]; omega
                  · have hrg := HRy.out.rot.rng k4
                    obtain ⟨c, hc, hsc2⟩ : ∃ c, c < 2 ∧ side k4 = c + 1 := ⟨side k4 - 1, by omega, by omega⟩
                    rw [hsc2] at hsc
                    have q : (((c + 1 : Nat) : Int) == 0) = false := by rw [beq_eq_false_iff_ne]; omega
                    have hHf : ∀ (w : World) (a : Int), a = (c : Int) → Calls Try.prog 28 #[.agg #[.int .i64 1, .int .i64 2, .int .i64 1], .int .i64 0, .int .i64 a] w fun e w' => e = .returned (.tuple #[.int .i64 (9 + 4 * c : Nat), .int .i64 0]) ∧ Below w.heap.size w w' := by
                      rintro w a rfl
                      have := geo_Half 0 c w (by omega) hc
                      rw [show halfAt 0 c = 9 + 4 * c from by unfold halfAt; omega] at this
                      exact this
                    have hwc : IntKind.i64.wrap (c : Int) = (c : Int) := by rw [IntKind.wrap_i64]; omega
                    go_upto_region 36 with fail
                    go_cut [22] from 129 to 143 (fun a u => a = .int .i64 (9 + 4 * c : Nat) ∧ Below wy.heap.size wy u)
                    case first =>
                      go_region_held3 (fun u => u.cell? ⟨B, k4, none⟩ = some (.int .i64 (c + 1 : Nat))) ((first | exact cell1_below (w := wy.drew) hsc hb | exact cell1_below (w := wy) hsc hb | exact cell1_below (by assumption) hb | exact cell1_below (by assumption) hb2 | assumption)) (first | (go_at_call 14; refine Calls.mono (law15_Geo _) ?_; rintro e w11 ⟨rfl, hb⟩) | (go_at_call 28; refine Calls.mono (hHf _ _ (by first | omega | go_num | exact hwc)) ?_; rintro e w12 ⟨rfl, hb2⟩))
                      all_goals (go_wp2_with fail)
                      all_goals go_meet
                      all_goals exact ⟨by rw [show ((9 + 4 * c : Nat) : Int) = 9 + 4 * (c : Int) from by omega], (Below.refl _ _).drew.trans ((hb.trans (hb2.mono hb.size)).mono (Nat.le_refl _))⟩
                    case rest =>
                      obtain ⟨rfl, hb⟩ := hcut
                      replace HW := hid (HW.out.trans (hb.mono HW.out.size))
                      clear hsc HRy hHf hwc hb
                      have hT := (HW.out.cell (p := ⟨g, 9 + 4 * c + k4 / 4, none⟩) hgl).trans (HCell.out (9 + 4 * c + k4 / 4) (by omega))
                      have hTs := dump_size s' HR.out.rot.len (9 + 4 * c + k4 / 4) (by omega)
                      have HTp := hid (dump_page s' HR.out.rot.len HR.out.dev.fs.2.2.2.2.2.1 c k4 hc hlt4)
                      generalize ofB (s'.dumpB 27 ((9 + 4 * c + k4 / 4 : Nat) : Int)) = T at *
                      go_wp2_with ((with_reducible refine wpList_unguard ?_ ?_); (focus rfl))
                      refine Calls.mono (ref14_Get _ wc (by rw [ByteArray.size_extract]; omega)) ?_; rintro e w13 ⟨hgr, hb⟩
                      unfold getRet at hgr
                      rw [HTp.out] at hgr
                      replace HW := hid (HW.out.trans (hb.mono HW.out.size))
                      clear hT hTs HTp hb
                      cases hgo : getOk (pgB s' 0 c k4) with
                      | true =>
                        rw [hgo, if_pos rfl] at hgr
                        subst hgr
                        clear hgo
                        go_wp2_with ((with_reducible refine wpList_unguard ?_ ?_); (focus rfl))
                        go_ret
                        exact ⟨rfl, (HB.out.trans (HW.out.mono HB.out.size)).alloc (Nat.le_trans HB.out.size HW.out.size) _⟩
                      | false =>
                        rw [hgo, if_neg (by decide)] at hgr
                        subst hgr
                        have HGO := hid hgo
                        clear hgo
                        go_wp2_with ((with_reducible refine wpList_unguard ?_ ?_); (focus rfl))
                        go_roundw
                        case rel => exact ⟨k4 + 1, by omega, by go_num, HW.out.alloc HW.out.size _, fun p h1 h2 => by
                          by_cases e : p = k4
                          · subst e; rw [hsc2, Nat.add_sub_cancel]; exact HGO.out
                          · exact HZ4.out p (by omega) h2⟩
                        case measure => simp [intOf]; omega
                · obtain rfl : k4 = 16 := by omega
                  have hh0 : HalfHas s' 0 (allR 1 l0 ++ acc) := HR.out.rot.has HI.out.h0 (allR_oks (by omega) HI.out.fit) (fun p h1 h2 => HZ.out p (by rw [all_len] at h1; omega) h2) (fun p h1 h2 => HZ4.out p h1 h2)
                  have hE0 := outH_has s' 0 1 l0 acc hh0 (by omega) (fit_lt HI.out.fit) HI.out.len
                  have hE1 : outH (runH s' 1 16) = ⟨[], 0, 0, false, false⟩ := outH_blank s' 1 (HR.out.rot.blank HI.out.h1)
                  generalize clB s' 0 (l0.length + 2 + acc.length) 16 = cl at *
                  have hat : openAt ⟨(l0 ++ acc).map r4, 1, l0.length + 2 + acc.length, true, cl⟩ ⟨[], 0, 0, false, false⟩ = 0 := by unfold openAt; rw [if_neg (by simp)]
                  have HMR : Hid (((l0 ++ acc).map r4).map R4n.toI = D) := by show _ = _; rw [map_r4 HI.out.fit]; exact HDE.out
                  have hzi : D.map z0 = D := by rw [← HDE.out]; exact z0_idem _
                  have HZI := hid hzi
                  have HE0 := hid hE0
                  have HE1 := hid hE1
                  have HAT := hid hat
                  replace HB := hid (HB.out.trans (HW.out.mono HB.out.size))
                  clear hDl hh0 hE0 hE1 hat hzi HCell hcg hgl hgb hwg HZ4 HZ HW HR
                  go_wp2_with ((with_reducible refine wpList_unguard ?_ ?_); (focus rfl))
                  refine Calls.mono (law15_Geo wy) ?_; rintro e w11 ⟨rfl, hb⟩
                  replace HRy := hid (HRy.out.below hb)
                  (replace HB := hid (HB.out.trans (hb.mono HB.out.size)); clear hb)
                  go_wp2_with ((with_reducible refine wpList_unguard ?_ ?_); (focus rfl))
                  refine Calls.mono (log_Open i s' w11 HRy.out.dev HRy.out.rot.dn) ?_; rintro e w12 hpost
                  unfold OpenPost at hpost
                  rw [HE0.out, HE1.out, HAT.out, if_neg (by decide)] at hpost
                  obtain ⟨hx, rfl, hrd, -, hok⟩ := hpost
                  obtain ⟨L2, S2, rs2, b2, rfl, hL2, hb2, hb2w, hP⟩ := hok rfl
                  have hP2 : LogP i L2 S2 0 rs2 D 1 (l0.length + 2 + acc.length) true cl b2 w12 := by rw [← HMR.out]; exact hP
                  have HP2 := hid hP2
                  have HP := hid (HRy.out.log.out hrd.out)
                  replace HB := hid (hrd.out.belowB HB.out hwi)
                  clear HE0 HE1 HAT hrd hok hP hP2 HRy HMR
                  go_wp2_with ((with_reducible refine wpList_unguard ?_ ?_); (focus rfl))
                  refine Calls.mono (log_All i L2 S2 0 rs2 D 1 _ true cl b2 w12 HP2.out (by omega)) ?_; rintro e w13 ⟨v, rfl, hj, hb⟩
                  obtain ⟨p13, c13, rfl, hl13, hg13⟩ := hj.cells
                  replace HP2 := hid (HP2.out.below hb)
                  replace HP := hid (HP.out.below hb)
                  (replace HB := hid (HB.out.trans (hb.mono HB.out.size)); clear hb)
                  have HG := hid hg13
                  clear hj hg13
                  go_wp2_with ((with_reducible refine wpList_unguard ?_ ?_); (focus rfl))
                  refine Calls.mono (law15_Plain p13 D.length c13 D w13 rfl (by omega) hl13 HG.out) ?_; rintro e w14 ⟨v, rfl, hq, hb⟩
                  rw [HZI.out] at hq
                  obtain ⟨p14, c14, rfl, hl14, hg14⟩ := hq.cells
                  replace HP2 := hid (HP2.out.below hb)
                  replace HP := hid (HP.out.below hb)
                  (replace HB := hid (HB.out.trans (hb.mono HB.out.size)); clear hb)
                  replace HG := hid hg14
                  clear hq hg14
                  go_wp2_with ((with_reducible refine wpList_unguard ?_ ?_); (focus rfl))
                  refine Calls.mono (log_All i L S 0 rs D 1 _ true true b0 w14 HP.out (by omega)) ?_; rintro e w15 ⟨v, rfl, hj, hb⟩
                  obtain ⟨p15, c15, rfl, hl15, hg15⟩ := hj.cells
                  replace HP2 := hid (HP2.out.below hb)
                  replace HG := hid (HG.out.below hb)
                  (replace HB := hid (HB.out.trans (hb.mono HB.out.size)); clear hb)
                  have HG2 := hid hg15
                  clear hj hg15 HP
                  go_wp2_with ((with_reducible refine wpList_unguard ?_ ?_); (focus rfl))
                  refine Calls.mono (law15_Plain p15 D.length c15 D w15 rfl (by omega) hl15 HG2.out) ?_; rintro e w16 ⟨v, rfl, hq, hb⟩
                  rw [HZI.out] at hq
                  obtain ⟨p16, c16, rfl, hl16, hg16⟩ := hq.cells
                  replace HP2 := hid (HP2.out.below hb)
                  replace HG := hid (HG.out.below hb)
                  (replace HB := hid (HB.out.trans (hb.mono HB.out.size)); clear hb)
                  replace HG2 := hid hg16
                  clear hq hg16
                  go_wp2_with ((with_reducible refine wpList_unguard ?_ ?_); (focus rfl))
                  refine Calls.mono (ref15_Same p14 p16 c14 c16 D D w16 (by omega) (by omega) hl14 hl16 HG.out HG2.out) ?_; rintro e w17 ⟨x, rfl, hx, hb⟩
                  obtain rfl : x = true := hx.2 rfl
                  replace HP2 := hid (HP2.out.below hb)
                  (replace HB := hid (HB.out.trans (hb.mono HB.out.size)); clear hb)
                  clear hx HG HG2
                  go_wp2_with ((with_reducible refine wpList_unguard ?_ ?_); (focus rfl))
                  refine Calls.mono (log_Gen L2 i.D S2 0 rs2 1 _ true cl w17 HP2.out.hw.hL) ?_; rintro e w18 ⟨rfl, rfl⟩
                  go_wp2_with ((with_reducible refine wpList_unguard ?_ ?_); (focus rfl))
                  go_ret
                  exact ⟨rfl, HB.out⟩
end Go.Proofs.Ytngkmlchblgmeaa
