/-
  FlashKeeps, walked (written by wip/tools/gen_flk.py).
-/
import Derived.Test.YtiicbbhjepkndaaFl0
import Derived.Test.YtiicbbhjepkndaaDevA
import Derived.Test.YtiicbbhjepkndaaDevK
import Derived.Test.YtiicbbhjepkndaaFlU
namespace Go.Proofs.Ytiicbbhjepkndaa
open Go.RowKit Tri

set_option maxHeartbeats 16000000 in
set_option maxRecDepth 100000 in
theorem flashKeeps.walk (a0 : Int) (a1 : Int) (a2 : Option Addr) (len2 cap2 : Nat) (l2 : List Tri.OpR) (w : World) (w0 : (Lit.int .u8 a0).wf = true) (w1 : (Lit.int .u8 a1).wf = true) (w2 : IsOps w a2 len2 cap2 l2) :
    Calls Try.prog 4 #[.int .u8 a0, .int .u8 a1, .slice a2 len2 cap2] w fun e w' => e = .returned (.bool true) ∧ Below w.heap.size w w' := by
  obtain ⟨q, hq, rfl⟩ := u8_of w0
  obtain ⟨r, hr, rfl⟩ := u8_of w1
  obtain ⟨rfl, hc1, hm1, hp1, hok1⟩ := w2
  have HP1 := hid hp1
  have HK1 := hid hok1
  clear hp1 hok1 w0 w1
  obtain ⟨n, hn⟩ : ∃ n, 1 + q % 12 = n := ⟨_, rfl⟩
  have hn1 : 1 ≤ n := by omega
  have hn12 : n ≤ 12 := by omega
  obtain ⟨c, hc⟩ : ∃ c, r % n = c := ⟨_, rfl⟩
  have hcn : c < n := by rw [← hc]; exact Nat.mod_lt _ (by omega)
  have hr1 : Int.tmod (q : Int) 12 = ((q % 12 : Nat) : Int) := by rw [Int.tmod_eq_emod_of_nonneg (by omega)]; omega
  have hr2 : Int.tmod (r : Int) (n : Int) = (c : Int) := by rw [Int.tmod_eq_emod_of_nonneg (by omega), ← hc, Int.natCast_emod]
  have hnz : ((n : Int) == 0) = false := by rw [beq_eq_false_iff_ne]; omega
  (go_enter Try.func4, Try.ntmps4; try simp only [List.append])
  go_wp2_with ((with_reducible refine wpList_unguard ?_ ?_); (focus rfl))
  refine Calls.mono (law08_awake w) ?_; rintro e w3 ⟨rfl, hB⟩
  have HB := hid hB
  clear hB
  go_wp2_with ((with_reducible refine wpList_unguard ?_ ?_); (focus rfl))
  have hgr := law08_great a2 l2.length cap2 l2 w3 rfl (by omega) (HP1.out.below HB.out) HK1.out
  refine Calls.mono hgr ?_; rintro e w4 ⟨rfl, hB⟩
  have HB4 := hid (HB.out.trans (hB.mono HB.out.size))
  clear hB hgr HB
  cases hg : greatB l2 with
  | true =>
    clear hg
    go_wp2_with ((with_reducible refine wpList_unguard ?_ ?_); (focus rfl))
    go_ret
    exact ⟨rfl, HB4.out⟩
  | false =>
    obtain ⟨h150, hsz⟩ := great_len hg
    clear hsz hg
    go_wp2_with ((with_reducible refine wpList_unguard ?_ ?_); (focus rfl))
    rw [show (1 + (q : Int) % 12) = (n : Int) from by omega]
    refine Calls.mono (dev_New n w4 hn1 (by omega)) ?_; rintro e w5 ⟨i, rfl, hlo, hhi, hD, hB⟩
    have HD := hid hD
    have HB5 : Hid (Below w.heap.size w w5) := HB4.out.trans (hB.mono HB4.out.size)
    have hwz : w.heap.size ≤ i.lo := by rw [hlo]; exact HB4.out.size
    clear hB HB4 hD hlo hhi
    go_wp2_with ((with_reducible refine wpList_unguard ?_ ?_); (focus rfl))
    try rw [show ((r : Int) % (n : Int)) = (c : Int) from by rw [← hc, Int.natCast_emod]]
    refine Calls.mono (strRep 90 16 w5 (by omega)) ?_; rintro e w6 ⟨rfl, hb6⟩
    have HD6 := hid (HD.out.below hb6)
    have HB6 := hid (HB5.out.trans (hb6.mono HB5.out.size))
    clear hb6 HD HB5
    go_wp2_with ((with_reducible refine wpList_unguard ?_ ?_); (focus rfl))
    refine Calls.mono (dev_Program i n _ w6 ((c : Int) * 64) (repS 16 90) HD6.out (by omega)) ?_; rintro e w7 ⟨rfl, hD7, hO7⟩
    have HB7 := hid (hO7.belowB HB6.out hwz)
    have HD7 := hid hD7
    clear hD7 hO7 HD6 HB6
    generalize (newS n).prog n ((c : Int) * 64) (sb (repS 16 90)) = s1 at *
    generalize (newS n).progE n ((c : Int) * 64) (sb (repS 16 90)) = e1 at *
    go_wp2_with ((with_reducible refine wpList_unguard ?_ ?_); (focus rfl))
    refine Calls.mono (dev_Dump i n s1 w7 c HD7.out) ?_; rintro e w8 ⟨rfl, rfl⟩
    obtain ⟨D0, hD0⟩ : ∃ D0, s1.dumpB n c = D0 := ⟨_, rfl⟩
    rw [hD0]
    go_wp2_with ((with_reducible refine wpList_unguard ?_ ?_); (focus rfl))
    refine Calls.mono (dev_Lock i n s1 w7 c (c + 1) HD7.out) ?_; rintro e w8 ⟨rfl, hD8, hO8⟩
    have hlE : FS.lockE n c (c + 1) = 0 := by unfold FS.lockE; rw [if_pos (by omega)]
    rw [hlE]
    have hll : s1.lk.length = n := HD7.out.fs.2.1
    have HL0 : Hid ((s1.lock n c (c + 1)).lk.getD c false = true) := by
      show _ = _
      unfold FS.lock
      rw [if_pos (by omega)]
      show (s1.lk.mapIdx _).getD c false = true
      rw [List.getD_eq_getElem?_getD, List.getElem?_mapIdx, List.getElem?_eq_getElem (by omega)]
      simp only [Option.map_some, Option.getD_some]
      rw [if_pos (by omega)]
    have HM0 : Hid ((s1.lock n c (c + 1)).dumpB n c = D0) := by
      show _ = _
      rw [← hD0]
      exact dump_same (by unfold FS.lock; split <;> rfl) n c
    have HB8 := hid (hO8.belowB HB7.out hwz)
    have HD8 := hid hD8
    clear hD8 hO8 HD7 HB7 hD0 hlE
    generalize s1.lock n c (c + 1) = s2 at *
    go_wp2_with ((with_reducible refine wpList_unguard ?_ ?_); (focus rfl))
    go_loopw [53] (fun v wr => ∃ (k : Nat) (s : FS), k ≤ l2.length ∧ v = .int .i64 k ∧ DevP wr i n s ∧ s.lk.getD c false = true ∧ s.dumpB n c = D0 ∧ Below w.heap.size w wr) (fun v _ => l2.length - (intOf v).toNat)
    case atStart => exact ⟨0, s2, by omega, rfl, HD8.out, HL0.out, HM0.out, HB8.out⟩
    case round =>
      obtain ⟨k, s, hk, rfl, hD, hL, hM, hB⟩ := hrel
      by_cases hlt : k < l2.length
      · have q4 : decide ((k : Int) < l2.length) = true := decide_eq_true (by omega)
        obtain ⟨o, ho⟩ : ∃ o, l2[k]? = some o := ⟨_, List.getElem?_eq_getElem hlt⟩
        obtain ⟨b, f, rfl, c0, c1, c2, c3, c4, c5⟩ := ops_at (HP1.out.below hB) k o ho
        have hoo := HK1.out o (List.mem_of_getElem? ho)
        obtain ⟨ok, oa, on, os, otb, otm⟩ := o
        have hb1 := (Below.refl wr.heap.size wr).alloc (Nat.le_refl _) (.cells #[.int .i64 ok, .int .i64 oa, .int .i64 on, .string os, .int .i64 otb, .int .u8 (otm : Nat)] 42)
        have hT := rowP.new wr 42 #[.int .i64 ok, .int .i64 oa, .int .i64 on, .string os, .int .i64 otb, .int .u8 (otm : Nat)]
        have HDr := hid hD
        have HD1 := hid (hD.below hb1)
        have HB1 := hid (hB.trans (hb1.mono hB.size))
        have HT := hid hT
        have hTi : i.hi ≤ wr.heap.size := hD.hi
        have HOO := hid hoo
        have HL1 := hid hL
        have HM1 := hid hM
        have hbl : Hid (s.b.length = 64 * n) := hD.fs.1
        have ct0 := HT.out.cell 0 _ rfl
        have ct1 := HT.out.cell 1 _ rfl
        have ct2 := HT.out.cell 2 _ rfl
        have ct3 := HT.out.cell 3 _ rfl
        have ct4 := HT.out.cell 4 _ rfl
        have ct5 := HT.out.cell 5 _ rfl
        clear hb1 hT hD hB hoo HD8 HB8 ho hL hM HL0 HM0
        obtain ⟨wk, hwk⟩ : ∃ u, wr.alloc (.cells #[.int .i64 ok, .int .i64 oa, .int .i64 on, .string os, .int .i64 otb, .int .u8 (otm : Nat)] 42) = u := ⟨_, rfl⟩
        rw [hwk] at HD1 HB1 HT ct0 ct1 ct2 ct3 ct4 ct5
        go_wp2_with ((with_reducible refine wpList_unguard ?_ ?_); (focus rfl))
        go_loopw [15, 14] (fun v x wr' => ∃ j : Nat, j ≤ n ∧ v = .int .i64 j ∧ x = .string (ofB (s.b.take (64 * j))) ∧ wk = wr') (fun v _ _ => n - (intOf v).toNat)
        case atStart => exact ⟨0, Nat.zero_le _, rfl, rfl, by first | rfl | exact hwk.symm⟩
        case round =>
          obtain ⟨j, hj, rfl, rfl, rfl⟩ := hrel
          by_cases hjn : j < n
          · have q8 : decide ((j : Int) < n) = true := decide_eq_true (by omega)
            have HTK := hid (take_dump s n j hjn)
            have hsum : (ofB (s.b.take (64 * j))).size + (ofB (s.dumpB n (j : Int))).size ≤ 2000 := by rw [ofB_size, ofB_size, ← List.length_append, HTK.out, List.length_take]; omega
            go_wp2_with ((with_reducible refine wpList_unguard ?_ ?_); (focus rfl))
            refine Calls.mono (dev_Dump i n s wk j HD1.out) ?_; rintro e w9 ⟨rfl, rfl⟩
            go_wp2_with ((with_reducible refine wpList_unguard ?_ ?_); (focus rfl))
            go_roundw
            case rel => exact ⟨j + 1, by omega, by go_num, by rw [← HTK.out, ← ofB_append], by first | rfl | trivial⟩
            case measure => simp [intOf]; omega
          · have hjn' : j = n := by omega
            have q8 : decide ((j : Int) < n) = false := decide_eq_false (by omega)
            rw [hjn']
            rw [hjn'] at q8
            clear hjn' hjn hj
            rcases (show ok = 0 ∨ ok = 1 ∨ ok = 2 ∨ ok = 4 ∨ ok = 5 ∨ (ok ≠ 0 ∧ ok ≠ 1 ∧ ok ≠ 2 ∧ ok ≠ 4 ∧ ok ≠ 5) from by omega) with rfl | rfl | rfl | rfl | rfl | hne
            · go_wp2_with ((with_reducible refine wpList_unguard ?_ ?_); (focus rfl))
              refine Calls.mono (dev_Read i n s _ oa on HD1.out HOO.out.2.2.1 HOO.out.2.1) ?_; rintro e w8 ⟨rfl, hD8, hO8⟩
              have HD8 := hid hD8
              have HB8 := hid (Out.belowB hO8 HB1.out hwz)
              have HT8 := hid (HT.out.out hO8 (.inr hTi))
              have HL8 : Hid ((s.read n oa on).lk.getD c false = true) := by show _ = _; rw [(read_b s n oa on).2]; exact HL1.out
              have HM8 : Hid ((s.read n oa on).dumpB n c = D0) := by show _ = _; rw [dump_same (read_b s n oa on).1]; exact HM1.out
              have HE8 : Hid ((s.read n oa on).b = s.b) := by show _ = _; exact (read_b s n oa on).1
              clear hD8 hO8 HD1 HB1 HT ct0 ct1 ct2 ct3 ct4 ct5 HL1 HM1
              generalize s.read n oa on = s' at *
              have ct0 := HT8.out.cell 0 _ rfl
              go_wp2_with ((with_reducible refine wpList_unguard ?_ ?_); (focus rfl))
              go_loopw [17, 16] (fun v x wr' => ∃ j : Nat, j ≤ n ∧ v = .int .i64 j ∧ x = .string (ofB ((s').b.take (64 * j))) ∧ w8 = wr') (fun v _ _ => n - (intOf v).toNat)
              case atStart => exact ⟨0, Nat.zero_le _, rfl, rfl, rfl⟩
              case round =>
                obtain ⟨j, hj, rfl, rfl, rfl⟩ := hrel
                by_cases hjn : j < n
                · have q8 : decide ((j : Int) < n) = true := decide_eq_true (by omega)
                  have HTK := hid (take_dump (s') n j hjn)
                  have hsum : (ofB ((s').b.take (64 * j))).size + (ofB ((s').dumpB n (j : Int))).size ≤ 2000 := by rw [ofB_size, ofB_size, ← List.length_append, HTK.out, List.length_take]; omega
                  go_wp2_with ((with_reducible refine wpList_unguard ?_ ?_); (focus rfl))
                  refine Calls.mono (dev_Dump i n (s') w8 j HD8.out) ?_; rintro e w9 ⟨rfl, rfl⟩
                  go_wp2_with ((with_reducible refine wpList_unguard ?_ ?_); (focus rfl))
                  go_roundw
                  case rel => exact ⟨j + 1, by omega, by go_num, by rw [← HTK.out, ← ofB_append], by first | rfl | trivial⟩
                  case measure => simp [intOf]; omega
                · obtain rfl : j = n := by omega
                  have q8 : decide ((j : Int) < j) = false := decide_eq_false (by omega)
                  rw [HE8.out]
                  go_wp2_with ((with_reducible refine wpList_unguard ?_ ?_); (focus rfl))
                  refine Calls.mono (dev_Dump i j (s') w8 c HD8.out) ?_; rintro e w9 ⟨rfl, rfl⟩
                  rw [HM8.out]
                  go_wp2_with ((with_reducible refine wpList_unguard ?_ ?_); (focus rfl))
                  go_roundw
                  case rel => exact ⟨k + 1, s', by omega, by go_num, HD8.out, HL8.out, HM8.out, HB8.out⟩
                  case measure => simp [intOf]; omega
            · go_wp2_with ((with_reducible refine wpList_unguard ?_ ?_); (focus rfl))
              refine Calls.mono (dev_Erase i n s _ oa HD1.out HOO.out.2.1) ?_; rintro e w8 ⟨rfl, hD8, hO8⟩
              have HD8 := hid hD8
              have HB8 := hid (Out.belowB hO8 HB1.out hwz)
              have HT8 := hid (HT.out.out hO8 (.inr hTi))
              have HL8 : Hid ((s.erase n oa).lk.getD c false = true) := by show _ = _; rw [erase_lk]; exact HL1.out
              have HM8 : Hid ((s.erase n oa).dumpB n c = D0) := by show _ = _; rw [erase_locked s n oa c hbl.out hcn HL1.out]; exact HM1.out
              clear hD8 hO8 HD1 HB1 HT ct0 ct1 ct2 ct3 ct4 ct5 HL1 HM1
              generalize s.erase n oa = s' at *
              have ct0 := HT8.out.cell 0 _ rfl
              go_wp2_with ((with_reducible refine wpList_unguard ?_ ?_); (focus rfl))
              go_loopw [17, 16] (fun v x wr' => ∃ j : Nat, j ≤ n ∧ v = .int .i64 j ∧ x = .string (ofB ((s').b.take (64 * j))) ∧ w8 = wr') (fun v _ _ => n - (intOf v).toNat)
              case atStart => exact ⟨0, Nat.zero_le _, rfl, rfl, rfl⟩
              case round =>
                obtain ⟨j, hj, rfl, rfl, rfl⟩ := hrel
                by_cases hjn : j < n
                · have q8 : decide ((j : Int) < n) = true := decide_eq_true (by omega)
                  have HTK := hid (take_dump (s') n j hjn)
                  have hsum : (ofB ((s').b.take (64 * j))).size + (ofB ((s').dumpB n (j : Int))).size ≤ 2000 := by rw [ofB_size, ofB_size, ← List.length_append, HTK.out, List.length_take]; omega
                  go_wp2_with ((with_reducible refine wpList_unguard ?_ ?_); (focus rfl))
                  refine Calls.mono (dev_Dump i n (s') w8 j HD8.out) ?_; rintro e w9 ⟨rfl, rfl⟩
                  go_wp2_with ((with_reducible refine wpList_unguard ?_ ?_); (focus rfl))
                  go_roundw
                  case rel => exact ⟨j + 1, by omega, by go_num, by rw [← HTK.out, ← ofB_append], by first | rfl | trivial⟩
                  case measure => simp [intOf]; omega
                · obtain rfl : j = n := by omega
                  have q8 : decide ((j : Int) < j) = false := decide_eq_false (by omega)
                  go_wp2_with ((with_reducible refine wpList_unguard ?_ ?_); (focus rfl))
                  refine Calls.mono (dev_Dump i j (s') w8 c HD8.out) ?_; rintro e w9 ⟨rfl, rfl⟩
                  rw [HM8.out]
                  go_wp2_with ((with_reducible refine wpList_unguard ?_ ?_); (focus rfl))
                  go_roundw
                  case rel => exact ⟨k + 1, s', by omega, by go_num, HD8.out, HL8.out, HM8.out, HB8.out⟩
                  case measure => simp [intOf]; omega
            · go_wp2_with ((with_reducible refine wpList_unguard ?_ ?_); (focus rfl))
              refine Calls.mono (dev_Program i n s _ oa os HD1.out HOO.out.2.1) ?_; rintro e w8 ⟨rfl, hD8, hO8⟩
              have HD8 := hid hD8
              have HB8 := hid (Out.belowB hO8 HB1.out hwz)
              have HT8 := hid (HT.out.out hO8 (.inr hTi))
              have HL8 : Hid ((s.prog n oa (sb os)).lk.getD c false = true) := by show _ = _; rw [prog_lk]; exact HL1.out
              have HM8 : Hid ((s.prog n oa (sb os)).dumpB n c = D0) := by show _ = _; rw [prog_locked s n oa (sb os) c hbl.out hcn HL1.out]; exact HM1.out
              clear hD8 hO8 HD1 HB1 HT ct0 ct1 ct2 ct3 ct4 ct5 HL1 HM1
              generalize s.prog n oa (sb os) = s' at *
              have ct0 := HT8.out.cell 0 _ rfl
              go_wp2_with ((with_reducible refine wpList_unguard ?_ ?_); (focus rfl))
              go_loopw [17, 16] (fun v x wr' => ∃ j : Nat, j ≤ n ∧ v = .int .i64 j ∧ x = .string (ofB ((s').b.take (64 * j))) ∧ w8 = wr') (fun v _ _ => n - (intOf v).toNat)
              case atStart => exact ⟨0, Nat.zero_le _, rfl, rfl, rfl⟩
              case round =>
                obtain ⟨j, hj, rfl, rfl, rfl⟩ := hrel
                by_cases hjn : j < n
                · have q8 : decide ((j : Int) < n) = true := decide_eq_true (by omega)
                  have HTK := hid (take_dump (s') n j hjn)
                  have hsum : (ofB ((s').b.take (64 * j))).size + (ofB ((s').dumpB n (j : Int))).size ≤ 2000 := by rw [ofB_size, ofB_size, ← List.length_append, HTK.out, List.length_take]; omega
                  go_wp2_with ((with_reducible refine wpList_unguard ?_ ?_); (focus rfl))
                  refine Calls.mono (dev_Dump i n (s') w8 j HD8.out) ?_; rintro e w9 ⟨rfl, rfl⟩
                  go_wp2_with ((with_reducible refine wpList_unguard ?_ ?_); (focus rfl))
                  go_roundw
                  case rel => exact ⟨j + 1, by omega, by go_num, by rw [← HTK.out, ← ofB_append], by first | rfl | trivial⟩
                  case measure => simp [intOf]; omega
                · obtain rfl : j = n := by omega
                  have q8 : decide ((j : Int) < j) = false := decide_eq_false (by omega)
                  go_wp2_with ((with_reducible refine wpList_unguard ?_ ?_); (focus rfl))
                  refine Calls.mono (dev_Dump i j (s') w8 c HD8.out) ?_; rintro e w9 ⟨rfl, rfl⟩
                  rw [HM8.out]
                  go_wp2_with ((with_reducible refine wpList_unguard ?_ ?_); (focus rfl))
                  go_roundw
                  case rel => exact ⟨k + 1, s', by omega, by go_num, HD8.out, HL8.out, HM8.out, HB8.out⟩
                  case measure => simp [intOf]; omega
            · go_wp2_with ((with_reducible refine wpList_unguard ?_ ?_); (focus rfl))
              refine Calls.mono (dev_Fuse i n s _ otb otm on HD1.out HOO.out.2.2.2.2.2 (Int.lt_of_le_of_lt HOO.out.2.2.1.2 (by decide))) ?_; rintro e w8 ⟨rfl, hD8, hO8⟩
              have HD8 := hid hD8
              have HB8 := hid (Out.belowB hO8 HB1.out hwz)
              have HT8 := hid (HT.out.out hO8 (.inr hTi))
              have HL8 : Hid ((fuseS s otb otm on).lk.getD c false = true) := by show _ = _; exact HL1.out
              have HM8 : Hid ((fuseS s otb otm on).dumpB n c = D0) := by show _ = _; exact HM1.out
              have HE8 : Hid ((fuseS s otb otm on).b = s.b) := by show _ = _; rfl
              clear hD8 hO8 HD1 HB1 HT ct0 ct1 ct2 ct3 ct4 ct5 HL1 HM1
              generalize fuseS s otb otm on = s' at *
              have ct0 := HT8.out.cell 0 _ rfl
              go_wp2_with ((with_reducible refine wpList_unguard ?_ ?_); (focus rfl))
              go_loopw [17, 16] (fun v x wr' => ∃ j : Nat, j ≤ n ∧ v = .int .i64 j ∧ x = .string (ofB ((s').b.take (64 * j))) ∧ w8 = wr') (fun v _ _ => n - (intOf v).toNat)
              case atStart => exact ⟨0, Nat.zero_le _, rfl, rfl, rfl⟩
              case round =>
                obtain ⟨j, hj, rfl, rfl, rfl⟩ := hrel
                by_cases hjn : j < n
                · have q8 : decide ((j : Int) < n) = true := decide_eq_true (by omega)
                  have HTK := hid (take_dump (s') n j hjn)
                  have hsum : (ofB ((s').b.take (64 * j))).size + (ofB ((s').dumpB n (j : Int))).size ≤ 2000 := by rw [ofB_size, ofB_size, ← List.length_append, HTK.out, List.length_take]; omega
                  go_wp2_with ((with_reducible refine wpList_unguard ?_ ?_); (focus rfl))
                  refine Calls.mono (dev_Dump i n (s') w8 j HD8.out) ?_; rintro e w9 ⟨rfl, rfl⟩
                  go_wp2_with ((with_reducible refine wpList_unguard ?_ ?_); (focus rfl))
                  go_roundw
                  case rel => exact ⟨j + 1, by omega, by go_num, by rw [← HTK.out, ← ofB_append], by first | rfl | trivial⟩
                  case measure => simp [intOf]; omega
                · obtain rfl : j = n := by omega
                  have q8 : decide ((j : Int) < j) = false := decide_eq_false (by omega)
                  rw [HE8.out]
                  go_wp2_with ((with_reducible refine wpList_unguard ?_ ?_); (focus rfl))
                  refine Calls.mono (dev_Dump i j (s') w8 c HD8.out) ?_; rintro e w9 ⟨rfl, rfl⟩
                  rw [HM8.out]
                  go_wp2_with ((with_reducible refine wpList_unguard ?_ ?_); (focus rfl))
                  go_roundw
                  case rel => exact ⟨k + 1, s', by omega, by go_num, HD8.out, HL8.out, HM8.out, HB8.out⟩
                  case measure => simp [intOf]; omega
            · go_wp2_with ((with_reducible refine wpList_unguard ?_ ?_); (focus rfl))
              refine Calls.mono (dev_PowerOn i n s _ HD1.out) ?_; rintro e w8 ⟨rfl, hD8, hO8⟩
              have HD8 := hid hD8
              have HB8 := hid (Out.belowB hO8 HB1.out hwz)
              have HT8 := hid (HT.out.out hO8 (.inr hTi))
              have HL8 : Hid ((powerS s).lk.getD c false = true) := by show _ = _; exact HL1.out
              have HM8 : Hid ((powerS s).dumpB n c = D0) := by show _ = _; exact HM1.out
              have HE8 : Hid ((powerS s).b = s.b) := by show _ = _; rfl
              clear hD8 hO8 HD1 HB1 HT ct0 ct1 ct2 ct3 ct4 ct5 HL1 HM1
              generalize powerS s = s' at *
              have ct0 := HT8.out.cell 0 _ rfl
              go_wp2_with ((with_reducible refine wpList_unguard ?_ ?_); (focus rfl))
              go_loopw [17, 16] (fun v x wr' => ∃ j : Nat, j ≤ n ∧ v = .int .i64 j ∧ x = .string (ofB ((s').b.take (64 * j))) ∧ w8 = wr') (fun v _ _ => n - (intOf v).toNat)
              case atStart => exact ⟨0, Nat.zero_le _, rfl, rfl, rfl⟩
              case round =>
                obtain ⟨j, hj, rfl, rfl, rfl⟩ := hrel
                by_cases hjn : j < n
                · have q8 : decide ((j : Int) < n) = true := decide_eq_true (by omega)
                  have HTK := hid (take_dump (s') n j hjn)
                  have hsum : (ofB ((s').b.take (64 * j))).size + (ofB ((s').dumpB n (j : Int))).size ≤ 2000 := by rw [ofB_size, ofB_size, ← List.length_append, HTK.out, List.length_take]; omega
                  go_wp2_with ((with_reducible refine wpList_unguard ?_ ?_); (focus rfl))
                  refine Calls.mono (dev_Dump i n (s') w8 j HD8.out) ?_; rintro e w9 ⟨rfl, rfl⟩
                  go_wp2_with ((with_reducible refine wpList_unguard ?_ ?_); (focus rfl))
                  go_roundw
                  case rel => exact ⟨j + 1, by omega, by go_num, by rw [← HTK.out, ← ofB_append], by first | rfl | trivial⟩
                  case measure => simp [intOf]; omega
                · obtain rfl : j = n := by omega
                  have q8 : decide ((j : Int) < j) = false := decide_eq_false (by omega)
                  rw [HE8.out]
                  go_wp2_with ((with_reducible refine wpList_unguard ?_ ?_); (focus rfl))
                  refine Calls.mono (dev_Dump i j (s') w8 c HD8.out) ?_; rintro e w9 ⟨rfl, rfl⟩
                  rw [HM8.out]
                  go_wp2_with ((with_reducible refine wpList_unguard ?_ ?_); (focus rfl))
                  go_roundw
                  case rel => exact ⟨k + 1, s', by omega, by go_num, HD8.out, HL8.out, HM8.out, HB8.out⟩
                  case measure => simp [intOf]; omega
            · obtain ⟨n0, n1, n2, n4, n5⟩ := hne
              have e0 : (ok == 0) = false := beq_eq_false_iff_ne.2 n0
              have e1 : (ok == 1) = false := beq_eq_false_iff_ne.2 n1
              have e2 : (ok == 2) = false := beq_eq_false_iff_ne.2 n2
              have e4 : (ok == 4) = false := beq_eq_false_iff_ne.2 n4
              have e5 : (ok == 5) = false := beq_eq_false_iff_ne.2 n5
              have g1 : (ok != 1) = true := bne_iff_ne.2 n1
              have g2 : (ok != 2) = true := bne_iff_ne.2 n2
              clear n0 n1 n2 n4 n5
              have ct0 := HT.out.cell 0 _ rfl
              go_wp2_with ((with_reducible refine wpList_unguard ?_ ?_); (focus rfl))
              go_loopw [17, 16] (fun v x wr' => ∃ j : Nat, j ≤ n ∧ v = .int .i64 j ∧ x = .string (ofB ((s).b.take (64 * j))) ∧ wk = wr') (fun v _ _ => n - (intOf v).toNat)
              case atStart => exact ⟨0, Nat.zero_le _, rfl, rfl, rfl⟩
              case round =>
                obtain ⟨j, hj, rfl, rfl, rfl⟩ := hrel
                by_cases hjn : j < n
                · have q8 : decide ((j : Int) < n) = true := decide_eq_true (by omega)
                  have HTK := hid (take_dump (s) n j hjn)
                  have hsum : (ofB ((s).b.take (64 * j))).size + (ofB ((s).dumpB n (j : Int))).size ≤ 2000 := by rw [ofB_size, ofB_size, ← List.length_append, HTK.out, List.length_take]; omega
                  go_wp2_with ((with_reducible refine wpList_unguard ?_ ?_); (focus rfl))
                  refine Calls.mono (dev_Dump i n (s) wk j HD1.out) ?_; rintro e w9 ⟨rfl, rfl⟩
                  go_wp2_with ((with_reducible refine wpList_unguard ?_ ?_); (focus rfl))
                  go_roundw
                  case rel => exact ⟨j + 1, by omega, by go_num, by rw [← HTK.out, ← ofB_append], by first | rfl | trivial⟩
                  case measure => simp [intOf]; omega
                · obtain rfl : j = n := by omega
                  have q8 : decide ((j : Int) < j) = false := decide_eq_false (by omega)
                  go_wp2_with ((with_reducible refine wpList_unguard ?_ ?_); (focus rfl))
                  refine Calls.mono (dev_Dump i j (s) wk c HD1.out) ?_; rintro e w9 ⟨rfl, rfl⟩
                  rw [HM1.out]
                  go_wp2_with ((with_reducible refine wpList_unguard ?_ ?_); (focus rfl))
                  go_roundw
                  case rel => exact ⟨k + 1, s, by omega, by go_num, HD1.out, HL1.out, HM1.out, HB1.out⟩
                  case measure => simp [intOf]; omega
      · obtain rfl : k = l2.length := by omega
        have q4 : decide ((l2.length : Int) < l2.length) = false := decide_eq_false (by omega)
        have HB1 := hid hB
        clear hD hL hM hB
        go_wp2_with ((with_reducible refine wpList_unguard ?_ ?_); (focus rfl))
        go_ret
        exact ⟨rfl, HB1.out⟩
end Go.Proofs.Ytiicbbhjepkndaa
