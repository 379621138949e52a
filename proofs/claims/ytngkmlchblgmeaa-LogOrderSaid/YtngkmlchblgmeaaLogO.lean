/-
  LogOrder, walked.
-/
import Derived.Test.YtngkmlchblgmeaaPak13
namespace Go.Proofs.Ytngkmlchblgmeaa
open Go.RowKit Tri

set_option maxHeartbeats 8000000 in
set_option maxRecDepth 100000 in
theorem logOrder.walk (a0 : Option Addr) (len0 cap0 : Nat) (l0 : List Tri.RecI) (a1 : Option Addr) (len1 cap1 : Nat) (l1 : List Tri.RecI) (w : World) (w0 : IsRecsW w a0 len0 cap0 l0) (w1 : IsRecsW w a1 len1 cap1 l1) :
    Calls Try.prog 5 #[.slice a0 len0 cap0, .slice a1 len1 cap1] w fun e w' => e = .returned (.bool true) ∧ Below w.heap.size w w' := by
  obtain ⟨⟨rfl, hlc0, -, hc0, -⟩, hw0⟩ := w0
  obtain ⟨⟨rfl, hlc1, -, hc1, -⟩, hw1⟩ := w1
  have HC0 := hid hc0
  have HC1 := hid hc1
  clear hc0 hc1
  (go_enter Try.func5, Try.ntmps5; try simp only [List.append])
  go_wp2_with ((with_reducible refine wpList_unguard ?_ ?_); (focus rfl))
  refine Calls.mono (law15_awake _) ?_; rintro e w2 ⟨rfl, hb⟩
  have HB := hid hb
  clear hb
  go_wp2_with ((with_reducible refine wpList_unguard ?_ ?_); (focus rfl))
  refine Calls.mono (law15_wrong a0 l0.length cap0 l0 w2 rfl (by omega) hlc0 (HC0.out.below HB.out)) ?_; rintro e w3 ⟨rfl, hb⟩
  (replace HB := hid (HB.out.trans (hb.mono HB.out.size)); clear hb)
  by_cases hE : fitsE l0 = 0
  case neg =>
    have q : (fitsE l0 != 0) = true := by rw [bne_iff_ne]; exact hE
    go_wp2_with ((with_reducible refine wpList_unguard ?_ ?_); (focus rfl))
    go_ret
    exact ⟨rfl, HB.out⟩
  have HE := hid hE
  rw [hE]
  have hbl := (fitsE_zero hE).2
  clear hE
  by_cases h40 : (40 : Int) < (l1.length : Int)
  · have q : decide ((40 : Int) < (l1.length : Int)) = true := decide_eq_true h40
    go_wp2_with ((with_reducible refine wpList_unguard ?_ ?_); (focus rfl))
    go_ret
    exact ⟨rfl, HB.out⟩
  have q : decide ((40 : Int) < (l1.length : Int)) = false := decide_eq_false h40
  go_wp2_with ((with_reducible refine wpList_unguard ?_ ?_); (focus rfl))
  clear q
  refine Calls.mono (law15_blank w3) ?_; rintro e w4 ⟨i, rfl, hwz, hD, hb⟩
  have hwi : w.heap.size ≤ i.lo := Nat.le_trans HB.out.size hwz
  have HD := hid hD
  clear hD hwz
  (replace HB := hid (HB.out.trans (hb.mono HB.out.size)); clear hb)
  go_wp2_with ((with_reducible refine wpList_unguard ?_ ?_); (focus rfl))
  refine Calls.mono (law15_Geo w4) ?_; rintro e w5 ⟨rfl, hb⟩
  replace HD := hid (HD.out.below hb)
  (replace HB := hid (HB.out.trans (hb.mono HB.out.size)); clear hb)
  go_wp2_with ((with_reducible refine wpList_unguard ?_ ?_); (focus rfl))
  have hih : i.hi ≤ w5.heap.size := HD.out.hi
  obtain ⟨k1, k2, k3, k4⟩ := calm_format calm_new l0 HE.out
  have HK := hid (And.intro k2 (And.intro k3 k4))
  refine Calls.mono (log_Format i (newS 27) l0 a0 cap0 w5 HD.out (HC0.out.below HB.out) (HC0.out.offL hwi) (by omega) hlc0) ?_; rintro e w6 ⟨hD, hO, -, hok⟩
  obtain ⟨L, S, rv, b0, rfl, hLz, hSz, hSL, hLb, hSb, hbw, hS, hL, hJ⟩ := hok k1
  have hw5 : w.heap.size ≤ w5.heap.size := HB.out.size
  have HP : Hid (LogP i L S 0 rv (l0.map z0) 1 (l0.length + 2) true true b0 w6) := ⟨⟨hL, hS, .inr (by omega), .inr (by omega)⟩, hJ, hLb, hSb, by omega, hSL⟩
  replace HB := hid (hO.belowB HB.out hwi)
  replace HD := hid hD
  clear k1 k2 k3 k4 hD hO hok hS hL hJ
  generalize (formatS (newS 27) l0).1 = s0 at *
  go_wp2_with ((with_reducible refine wpList_unguard ?_ ?_); (focus rfl))
  refine Calls.mono (law15_Plain a0 l0.length cap0 l0 w6 rfl (by omega) hlc0 (HC0.out.below HB.out)) ?_; rintro e w7 ⟨u, rfl, hq, hb⟩
  have HO : Hid (OrdI i L S b0 w6.heap.size l0 [] rv u s0 w7) := ⟨HK.out.1, by rw [List.append_nil]; exact HK.out.2.1, HK.out.2.2, by rw [List.append_nil]; exact (fitsE_zero HE.out).1, by simp; omega, HD.out.below hb, by rw [List.append_nil]; exact HP.out.below hb, by rw [List.append_nil]; exact hq, Nat.le_trans hbw hb.size, hb.size⟩
  have hbq1 : i.hi ≤ w6.heap.size := HD.out.hi
  have hbq2 : L < w6.heap.size := by omega
  have hbq3 : S < w6.heap.size := by omega
  clear hq HP HD HK
  (replace HB := hid (HB.out.trans (hb.mono HB.out.size)); clear hb)
  have hwq : w.heap.size ≤ w6.heap.size := by omega
  generalize w6.heap.size = bq at *
  go_wp2_with ((with_reducible refine wpList_unguard ?_ ?_); (focus rfl))
  go_loopw [39, 8] (fun v u wr => ∃ (k : Nat) (acc : List RecI) (rs : Value) (s : FS), k ≤ l1.length ∧ v = .int .i64 k ∧ OrdI i L S b0 bq l0 acc rs u s wr ∧ Below w.heap.size w wr) (fun v _ _ => l1.length - (intOf v).toNat)
  case atStart => exact ⟨0, [], rv, s0, Nat.zero_le _, rfl, HO.out, HB.out⟩
  case round =>
    clear HO HB
    obtain ⟨k, acc, rs, s, hk, rfl, hO, hB⟩ := hrel
    have HO := hid hO
    have HB := hid hB
    clear hO hB
    have hwL : w.heap.size ≤ L := by omega
    by_cases hlt : k < l1.length
    · obtain ⟨b, o, rfl, g0, g1, g2, g3⟩ := recs_at (HC1.out.below HB.out) k hlt
      generalize l1[k] = r at *
      have hA : Below wr.heap.size wr (wr.alloc (.cells #[.int .i64 r.k, .int .i64 r.s, .int .i64 r.n, .int .i64 r.v] 37)) := (Below.refl _ _).alloc (Nat.le_refl _) _
      have hR : R4 (wr.alloc (.cells #[.int .i64 r.k, .int .i64 r.s, .int .i64 r.n, .int .i64 r.v] 37)) wr.heap.size r.k r.s r.n r.v := heap_alloc_new wr _
      have hown : ∀ g, rs.ownBlock = some g → g < wr.heap.size := fun g hg => (HO.out.log.hj.own2 g hg).2.1
      have hob : ∀ g, rs.ownBlock = some g → b0 ≤ g := fun g hg => (HO.out.log.hj.own2 g hg).1
      have hihr : i.hi ≤ wr.heap.size := HO.out.dev.hi
      have hszr := HO.out.sz
      have hlen := HO.out.len
      replace HO := hid (HO.out.below hA)
      replace HB := hid (HB.out.trans (hA.mono HB.out.size))
      clear hA
      obtain ⟨m, hm⟩ : ∃ m : Nat, l0.length + 2 + acc.length + m = 16 := ⟨16 - (l0.length + 2 + acc.length), by omega⟩
      go_wp2_with ((with_reducible refine wpList_unguard ?_ ?_); (focus rfl))
      clear g0 g1 g2 g3
      generalize wr.alloc (.cells #[.int .i64 r.k, .int .i64 r.s, .int .i64 r.n, .int .i64 r.v] 37) = wx at *
      have hRm := log_Room L i.D S 0 rs 1 (l0.length + 2 + acc.length) true true wx HO.out.log.hw.hL (by omega)
      rw [show (16 : Int) - ((l0.length + 2 + acc.length : Nat) : Int) = (m : Int) from by omega] at hRm
      refine Calls.mono hRm ?_; rintro e w9 ⟨rfl, rfl⟩
      clear hRm
      have r0 := hR.c0
      have r1 := hR.c1
      have r2 := hR.c2
      have r3 := hR.c3
      go_wp2_with ((with_reducible refine wpList_unguard ?_ ?_); (focus rfl))
      clear r0 r1 r2 r3
      refine Calls.mono (log_Append i s L S 0 rs ((l0 ++ acc).map z0) 1 (l0.length + 2 + acc.length) true true b0 r wx HO.out.dev HO.out.log (by omega) (by omega) (by rw [List.length_map, List.length_append]; omega) HO.out.sz.1) ?_; rintro e wy hpost
      unfold AppPost at hpost
      cases hz : fitB r with
      | false =>
        by_cases hm0 : m = 0
        · have q1 : ((m : Int) == 0) = true := by rw [beq_iff_eq]; omega
          have hap : appE s 0 (l0.length + 2 + acc.length) r = 1 := by unfold appE; rw [if_pos hz]
          rw [hap, if_neg (by rw [hz]; simp), if_neg (by decide), if_neg (by rw [hz]; simp)] at hpost
          obtain ⟨rfl, hO, hD, hP⟩ := hpost
          have HO2 : Hid (OrdI i L S b0 bq l0 acc rs u8 s wy) := ⟨HO.out.calm, HO.out.h0, HO.out.h1, HO.out.fit, HO.out.len, hD, hP, HO.out.want.outA HO.out.log.hj hO hbq1 hbq2, Nat.le_trans HO.out.sz.1 hO.size, Nat.le_trans HO.out.sz.2 hO.size⟩
          have hR2 := hid (hR.outA hO hihr (by omega) hown)
          replace HB := hid (hO.belowB HB.out (Nat.le_refl _) hwi hwL (fun g hg => by have := hob g hg; omega))
          clear hR hO hD hP hap HO
          have r0 := hR2.out.c0
          have r1 := hR2.out.c1
          have r2 := hR2.out.c2
          have r3 := hR2.out.c3
          have hA2 : Below wy.heap.size wy (wy.alloc (.cells #[.int .i64 r.k, .int .i64 r.s, .int .i64 r.n, .int .i64 r.v] 37)) := (Below.refl _ _).alloc (Nat.le_refl _) _
          have HW := hid (law15_wrong (some ⟨wy.heap.size, 0, none⟩) 1 1 [r] _ rfl (by simp) (Nat.le_refl _) (cellsG_one wy r))
          rw [fitsE_one, hz] at HW
          replace HO2 := hid (HO2.out.below hA2)
          replace HB := hid (HB.out.trans (hA2.mono HB.out.size))
          clear hA2
          go_wp2_with ((with_reducible refine wpList_unguard ?_ ?_); (focus rfl))
          refine Calls.mono HW.out ?_; rintro e wv ⟨rfl, hb⟩
          replace HO2 := hid (HO2.out.below hb)
          (replace HB := hid (HB.out.trans (hb.mono HB.out.size)); clear hb)
          clear HW r0 r1 r2 r3 hR2
          go_wp2_with ((with_reducible refine wpList_unguard ?_ ?_); (focus rfl))
          go_roundw
          case rel => exact ⟨k + 1, acc, rs, s, by omega, by go_num, HO2.out, HB.out⟩
          case measure => simp [intOf]; omega
        · have q1 : ((m : Int) == 0) = false := by rw [beq_eq_false_iff_ne]; omega
          have hap : appE s 0 (l0.length + 2 + acc.length) r = 1 := by unfold appE; rw [if_pos hz]
          rw [hap, if_neg (by rw [hz]; simp), if_neg (by decide), if_neg (by rw [hz]; simp)] at hpost
          obtain ⟨rfl, hO, hD, hP⟩ := hpost
          have HO2 : Hid (OrdI i L S b0 bq l0 acc rs u8 s wy) := ⟨HO.out.calm, HO.out.h0, HO.out.h1, HO.out.fit, HO.out.len, hD, hP, HO.out.want.outA HO.out.log.hj hO hbq1 hbq2, Nat.le_trans HO.out.sz.1 hO.size, Nat.le_trans HO.out.sz.2 hO.size⟩
          have hR2 := hid (hR.outA hO hihr (by omega) hown)
          replace HB := hid (hO.belowB HB.out (Nat.le_refl _) hwi hwL (fun g hg => by have := hob g hg; omega))
          clear hR hO hD hP hap HO
          go_wp2_with ((with_reducible refine wpList_unguard ?_ ?_); (focus rfl))
          go_roundw
          case rel => exact ⟨k + 1, acc, rs, s, by omega, by go_num, HO2.out, HB.out⟩
          case measure => simp [intOf]; omega
      | true =>
        by_cases hm0 : m = 0
        · have q1 : ((m : Int) == 0) = true := by rw [beq_iff_eq]; omega
          have hap : appE s 0 (l0.length + 2 + acc.length) r = 9 := by unfold appE; rw [if_neg (by rw [hz]; simp), if_pos (by omega)]
          rw [hap, if_neg (by intro h; exact h.2 (by omega)), if_neg (by decide), if_neg (by intro h; exact h.2 (by omega))] at hpost
          obtain ⟨rfl, hO, hD, hP⟩ := hpost
          have HO2 : Hid (OrdI i L S b0 bq l0 acc rs u8 s wy) := ⟨HO.out.calm, HO.out.h0, HO.out.h1, HO.out.fit, HO.out.len, hD, hP, HO.out.want.outA HO.out.log.hj hO hbq1 hbq2, Nat.le_trans HO.out.sz.1 hO.size, Nat.le_trans HO.out.sz.2 hO.size⟩
          have hR2 := hid (hR.outA hO hihr (by omega) hown)
          replace HB := hid (hO.belowB HB.out (Nat.le_refl _) hwi hwL (fun g hg => by have := hob g hg; omega))
          clear hR hO hD hP hap HO
          have r0 := hR2.out.c0
          have r1 := hR2.out.c1
          have r2 := hR2.out.c2
          have r3 := hR2.out.c3
          have hA2 : Below wy.heap.size wy (wy.alloc (.cells #[.int .i64 r.k, .int .i64 r.s, .int .i64 r.n, .int .i64 r.v] 37)) := (Below.refl _ _).alloc (Nat.le_refl _) _
          have HW := hid (law15_wrong (some ⟨wy.heap.size, 0, none⟩) 1 1 [r] _ rfl (by simp) (Nat.le_refl _) (cellsG_one wy r))
          rw [fitsE_one, hz] at HW
          replace HO2 := hid (HO2.out.below hA2)
          replace HB := hid (HB.out.trans (hA2.mono HB.out.size))
          clear hA2
          go_wp2_with ((with_reducible refine wpList_unguard ?_ ?_); (focus rfl))
          refine Calls.mono HW.out ?_; rintro e wv ⟨rfl, hb⟩
          replace HO2 := hid (HO2.out.below hb)
          (replace HB := hid (HB.out.trans (hb.mono HB.out.size)); clear hb)
          clear HW r0 r1 r2 r3 hR2
          go_wp2_with ((with_reducible refine wpList_unguard ?_ ?_); (focus rfl))
          go_roundw
          case rel => exact ⟨k + 1, acc, rs, s, by omega, by go_num, HO2.out, HB.out⟩
          case measure => simp [intOf]; omega
        · have q1 : ((m : Int) == 0) = false := by rw [beq_eq_false_iff_ne]; omega
          obtain ⟨n1, n2, n3, n4⟩ := calm_laid HO.out.calm 0 (allR 1 l0 ++ acc) r (by omega) (by rw [all_len]; omega) HO.out.h0
          rw [all_len] at n1 n2 n3 n4
          have hap : appE s 0 (l0.length + 2 + acc.length) r = 0 := by unfold appE; rw [if_neg (by rw [hz]; simp), if_neg (by omega), n1]; rfl
          rw [hap, if_pos ⟨hz, by omega⟩, if_pos rfl] at hpost
          obtain ⟨rfl, hO, hD, rs', hP⟩ := hpost
          have n5 := n4 1 [] (by omega) (by omega) HO.out.h1
          have hfit : (l0 ++ (acc ++ [r])).all fitB = true := by rw [← List.append_assoc, List.all_append, HO.out.fit]; simp [hz]
          have hlen : l0.length + 2 + (acc ++ [r]).length ≤ 16 := by rw [List.length_append, List.length_singleton]; omega
          rw [List.append_assoc] at n3
          have hwant := HO.out.want.outA HO.out.log.hj hO hbq1 hbq2
          have hP2 : LogP i L S 0 rs' ((l0 ++ (acc ++ [r])).map z0) 1 (l0.length + 2 + (acc ++ [r]).length) true true b0 wy := by rw [← List.append_assoc, List.map_append, List.length_append, List.length_singleton, ← Nat.add_assoc]; exact hP
          have hR2 := hid (hR.outA hO hihr (by omega) hown)
          have HQ := hid hwant
          have HP := hid hP2
          have HD := hid hD
          have HN := hid (And.intro n2 (And.intro n3 (And.intro n5 (And.intro hfit hlen))))
          have hsz2 : b0 ≤ wy.heap.size ∧ bq ≤ wy.heap.size := ⟨Nat.le_trans HO.out.sz.1 hO.size, Nat.le_trans HO.out.sz.2 hO.size⟩
          replace HB := hid (hO.belowB HB.out (Nat.le_refl _) hwi hwL (fun g hg => by have := hob g hg; omega))
          have hDl : (((l0 ++ acc).map z0).length + [z0 r].length) * 32 ≤ 140737488355328 := by rw [List.length_map, List.length_append, List.length_singleton]; omega
          have hD3 : Hid ((l0 ++ acc).map z0 ++ [z0 r] = (l0 ++ (acc ++ [r])).map z0) := by show _ = _; rw [← List.append_assoc, List.map_append (l₂ := [r])]; rfl
          generalize (layS s 0 (l0.length + 2 + acc.length) (pgI (l0.length + 2 + acc.length) r)).1 = s1 at *
          clear hR hO hD hP hP2 hap HO n1 n2 n3 n4 n5 hfit hlen hwant
          generalize (l0 ++ acc).map z0 = D at *
          have r0 := hR2.out.c0
          have r1 := hR2.out.c1
          have r2 := hR2.out.c2
          have r3 := hR2.out.c3
          have hA2 : Below wy.heap.size wy (wy.alloc (.cells #[.int .i64 r.k, .int .i64 r.s, .int .i64 r.n, .int .i64 r.v] 37)) := (Below.refl _ _).alloc (Nat.le_refl _) _
          have HW := hid (law15_Plain (some ⟨wy.heap.size, 0, none⟩) 1 1 [r] _ rfl (by simp) (Nat.le_refl _) (cellsG_one wy r))
          replace HQ := hid (HQ.out.below hA2)
          replace HP := hid (HP.out.below hA2)
          replace HD := hid (HD.out.below hA2)
          replace HB := hid (HB.out.trans (hA2.mono HB.out.size))
          have hsz3 := hA2.size
          clear hA2
          go_wp2_with ((with_reducible refine wpList_unguard ?_ ?_); (focus rfl))
          refine Calls.mono HW.out ?_; rintro e wv ⟨v2, rfl, hq2, hb⟩
          replace HQ := hid (HQ.out.below hb)
          replace HP := hid (HP.out.below hb)
          replace HD := hid (HD.out.below hb)
          have hsz4 := hb.size
          obtain ⟨p2, c2, rfl, -, hcg2⟩ := hq2.cells
          have HCG : Hid (cellsG wv p2 4 ([z0 r].map rcC)) := hcg2
          (replace HB := hid (HB.out.trans (hb.mono HB.out.size)); clear hb)
          clear HW r0 r1 r2 r3 hR2 hq2 hcg2
          go_wp2_with (at_builtin; refine wpList_pushQg rfl _ _ rfl bq u8 D [z0 r] p2 c2 HQ.out HCG.out (by simp) rfl _ rfl rfl hDl (by omega) ?_)
          intro u' wz hq hg
          replace HD := hid (HD.out.grownQ HQ.out hg hbq1)
          replace HP := hid (HP.out.grownQ HQ.out hg hbq2 hbq3)
          replace HB := hid (HB.out.grownQ HQ.out hg hwq (Nat.le_refl _))
          have hsz5 := hg.size
          rw [hD3.out] at hq
          have HO2 : Hid (OrdI i L S b0 bq l0 (acc ++ [r]) rs' u' s1 wz) := ⟨HN.out.1, HN.out.2.1, HN.out.2.2.1, HN.out.2.2.2.1, HN.out.2.2.2.2, HD.out, HP.out, hq, by omega, by omega⟩
          clear hq hg HQ HD HP HN hD3 hDl hsz2 hsz3 hsz4 hsz5 HCG
          have hRm2 := log_Room L i.D S 0 rs' 1 (l0.length + 2 + (acc ++ [r]).length) true true wz HO2.out.log.hw.hL HO2.out.len
          rw [show (16 : Int) - ((l0.length + 2 + (acc ++ [r]).length : Nat) : Int) = (m : Int) - 1 from by rw [List.length_append, List.length_singleton]; omega] at hRm2
          have hm0 : 0 < m := by omega
          go_wp2_with ((with_reducible refine wpList_unguard ?_ ?_); (focus rfl))
          refine Calls.mono hRm2 ?_; rintro e wv ⟨rfl, rfl⟩
          clear hRm2
          go_wp2_with ((with_reducible refine wpList_unguard ?_ ?_); (focus rfl))
          go_roundw
          case rel => exact ⟨k + 1, acc ++ [r], rs', s1, by omega, by go_num, HO2.out, HB.out⟩
          case measure => simp [intOf]; omega
    · have hrl : ((l0 ++ acc).map z0).length ≤ 14 := by have := HO.out.len; rw [List.length_map, List.length_append]; omega
      have HP := hid HO.out.log
      have HQ := hid HO.out.want
      have HV := hid HO.out.dev
      have HN0 := hid (And.intro HO.out.calm (And.intro HO.out.h0 (And.intro HO.out.fit HO.out.len)))
      have hzi := z0_idem (l0 ++ acc)
      clear HO
      generalize (l0 ++ acc).map z0 = D at *
      have hAll := log_All i L S 0 rs D 1 (l0.length + 2 + acc.length) true true b0 wr HP.out (by omega)
      go_wp2_with ((with_reducible refine wpList_unguard ?_ ?_); (focus rfl))
      refine Calls.mono hAll ?_; rintro e w9 ⟨v, rfl, hj, hb⟩
      obtain ⟨p9, c9, rfl, hl9, hg9⟩ := hj.cells
      replace HP := hid (HP.out.below hb)
      replace HQ := hid (HQ.out.below hb)
      replace HV := hid (HV.out.below hb)
      replace HB := hid (HB.out.trans (hb.mono HB.out.size))
      have HG := hid hg9
      clear hAll hj hg9 hb
      obtain ⟨pu, cu, hu, hlu, -⟩ := HQ.out.cells
      subst hu
      go_wp2_with ((with_reducible refine wpList_unguard ?_ ?_); (focus rfl))
      refine Calls.mono (law15_Plain p9 _ c9 D w9 rfl (by omega) hl9 HG.out) ?_; rintro e wx ⟨v, rfl, hq, hb⟩
      rw [hzi] at hq
      obtain ⟨p10, c10, rfl, hl10, hg10⟩ := hq.cells
      replace HP := hid (HP.out.below hb)
      replace HQ := hid (HQ.out.below hb)
      replace HV := hid (HV.out.below hb)
      replace HB := hid (HB.out.trans (hb.mono HB.out.size))
      replace HG := hid hg10
      clear hq hg10 hb
      obtain ⟨pu', cu', hu', -, hgu⟩ := HQ.out.cells
      simp only [Value.slice.injEq, true_and] at hu'
      obtain ⟨rfl, rfl⟩ := hu'
      go_wp2_with ((with_reducible refine wpList_unguard ?_ ?_); (focus rfl))
      refine Calls.mono (ref15_Same p10 pu c10 cu D D wx (by omega) (by omega) hl10 hlu HG.out hgu) ?_; rintro e wy ⟨x, rfl, hx, hb⟩
      obtain rfl : x = true := hx.2 rfl
      replace HP := hid (HP.out.below hb)
      replace HQ := hid (HQ.out.below hb)
      replace HV := hid (HV.out.below hb)
      replace HB := hid (HB.out.trans (hb.mono HB.out.size))
      clear hx hb HG hgu
      obtain ⟨n1, n2, n3, n4⟩ := calm_write HN0.out.1 1 2 [] (by omega) (by simp)
      have n5 := n4 0 (allR 1 l0 ++ acc) (by omega) (by omega) HN0.out.2.1
      have hcs : compactS s 0 1 [] = ((writeS s 1 2 []).1, (((writeS s 1 2 []).2 : Nat) : Int)) := by
        unfold compactS
        rw [if_neg (by decide), if_neg (by decide)]; rfl
      have hCm := log_Compact i s L S 0 rs D 1 (l0.length + 2 + acc.length) true true b0 [] none 0 wy HV.out HP.out (by omega) (by omega) (fun i hi => by simp at hi) (fun h => absurd rfl h) (by simp) (by simp)
      go_wp2_with ((with_reducible refine wpList_unguard ?_ ?_); (focus rfl))
      refine Calls.mono hCm ?_; rintro e wz hpost
      unfold CmpPost at hpost
      rw [hcs] at hpost
      obtain ⟨rfl, hO, hD, -, hP⟩ := hpost
      obtain ⟨rv2, hP⟩ := hP (by rw [n1]; rfl)
      rw [n1]
      have hOA : OutA i.lo i.hi L rs wy wz := ⟨hO.os, hO.tape, hO.output, hO.size, fun k h1 h2 h3 _ => hO.block k h1 h2 h3⟩
      have hob : ∀ g, rs.ownBlock = some g → w.heap.size ≤ g := fun g hg => by have := (HP.out.hj.own2 g hg).1; omega
      replace HB := hid (hOA.belowB HB.out (Nat.le_refl _) hwi hwL hob)
      have HD := hid hD
      clear HV
      replace HP : Hid (LogP i L S 1 rv2 [] 2 2 true true wy.heap.size wz) := hP
      have HN := hid (And.intro n2 (And.intro n3 n5))
      have HL := hid (And.intro HN0.out.2.2.1 HN0.out.2.2.2)
      clear hO hD hP hOA hob hCm hcs n1 n2 n3 n4 n5 HN0 HQ hzi hrl hl9 hl10 hlu
      generalize (writeS s 1 2 []).1 = s2 at *
      go_wp2_with ((with_reducible refine wpList_unguard ?_ ?_); (focus rfl))
      refine Calls.mono (law15_Geo wz) ?_; rintro e w11 ⟨rfl, hb⟩
      replace HD := hid (HD.out.below hb)
      replace HP := hid (HP.out.below hb)
      (replace HB := hid (HB.out.trans (hb.mono HB.out.size)); clear hb)
      have hE0 : outH (runH s2 0 16) = ⟨(l0 ++ acc).map r4, 1, l0.length + 2 + acc.length, true, true⟩ := outH_is s2 0 1 l0 acc HN.out.2.2 (by omega) HL.out.1 HL.out.2
      have hE1 : outH (runH s2 1 16) = ⟨[], 2, 2, true, true⟩ := outH_is s2 1 2 [] [] (by rw [List.append_nil]; exact HN.out.2.1) (by omega) rfl (by simp)
      have hat : openAt ⟨(l0 ++ acc).map r4, 1, l0.length + 2 + acc.length, true, true⟩ ⟨[], 2, 2, true, true⟩ = 1 := by unfold openAt; rw [if_pos (by simp)]
      go_wp2_with ((with_reducible refine wpList_unguard ?_ ?_); (focus rfl))
      refine Calls.mono (log_Open i s2 w11 HD.out HN.out.1.dn) ?_; rintro e w12 hpost
      unfold OpenPost at hpost
      rw [hE0, hE1, hat, if_pos rfl] at hpost
      obtain ⟨hx, rfl, hrd, -, hok⟩ := hpost
      obtain ⟨L2, S2, rs2, b2, rfl, hL2, hb2, hb2w, hP⟩ := hok rfl
      replace HB := hid (hrd.out.belowB HB.out hwi)
      have HP2 : Hid (LogP i L2 S2 1 rs2 [] 2 2 true true b2 w12) := hP
      replace HP := hid (HP.out.out hrd.out)
      clear hE0 hE1 hat hrd hok hP HD HN HL
      go_wp2_with ((with_reducible refine wpList_unguard ?_ ?_); (focus rfl))
      refine Calls.mono (log_All i L S 1 rv2 [] 2 2 true true _ w12 HP.out (by simp)) ?_; rintro e w13 ⟨v, rfl, hj, hb⟩
      obtain ⟨p13, c13, rfl, hl13, -⟩ := hj.cells
      replace HP2 := hid (HP2.out.below hb)
      replace HB := hid (HB.out.trans (hb.mono HB.out.size))
      clear hj hb HP
      go_wp2_with ((with_reducible refine wpList_unguard ?_ ?_); (focus rfl))
      refine Calls.mono (log_All i L2 S2 1 rs2 [] 2 2 true true _ w13 HP2.out (by simp)) ?_; rintro e w14 ⟨v, rfl, hj, hb⟩
      obtain ⟨p14, c14, rfl, hl14, -⟩ := hj.cells
      replace HP2 := hid (HP2.out.below hb)
      replace HB := hid (HB.out.trans (hb.mono HB.out.size))
      clear hj hb
      go_wp2_with ((with_reducible refine wpList_unguard ?_ ?_); (focus rfl))
      refine Calls.mono (log_Gen L2 i.D S2 1 rs2 2 _ true true w14 HP2.out.hw.hL) ?_; rintro e w15 ⟨rfl, rfl⟩
      go_wp2_with ((with_reducible refine wpList_unguard ?_ ?_); (focus rfl))
      refine Calls.mono (log_Room L2 i.D S2 1 rs2 2 2 true true w14 HP2.out.hw.hL (by omega)) ?_; rintro e w15 ⟨rfl, rfl⟩
      go_wp2_with ((with_reducible refine wpList_unguard ?_ ?_); (focus rfl))
      refine Calls.mono (log_Clean L2 i.D S2 1 rs2 2 _ true true w14 HP2.out.hw.hL) ?_; rintro e w15 ⟨rfl, rfl⟩
      go_wp2_with ((with_reducible refine wpList_unguard ?_ ?_); (focus rfl))
      go_ret
      exact ⟨rfl, HB.out⟩
end Go.Proofs.Ytngkmlchblgmeaa
