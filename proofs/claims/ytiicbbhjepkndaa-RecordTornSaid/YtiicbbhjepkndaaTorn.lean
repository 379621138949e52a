/-
  RecordTorn, walked.
-/
import Derived.Test.YtiicbbhjepkndaaTornP
import Derived.Test.YtiicbbhjepkndaaRecA
import Derived.Test.YtiicbbhjepkndaaEqR
import Derived.Test.YtiicbbhjepkndaaR14
import Derived.Test.YtiicbbhjepkndaaFlU
namespace Go.Proofs.Ytiicbbhjepkndaa
open Go.RowKit Tri

theorem isC.out {lo hi : Nat} {w w' : World} {b : Nat} (h : isC w b) (ho : Out lo hi w w') (hb : b < lo ∨ hi ≤ b) : isC w' b := by
  unfold isC
  rw [ho.block b h.lt hb]
  exact h
set_option maxHeartbeats 16000000 in
set_option maxRecDepth 100000 in
theorem recordTorn.walk (x00 x01 x02 x03 : Int) (tk1 : Int) (tm1 : Nat) (w : World) (w0 : (Lit.int .i64 x00).wf = true ∧ (Lit.int .i64 x01).wf = true ∧ (Lit.int .i64 x02).wf = true ∧ (Lit.int .i64 x03).wf = true) (w1 : Tri.i64ok tk1 ∧ tm1 < 256) :
    Calls Try.prog 7 #[.agg #[.int .i64 x00, .int .i64 x01, .int .i64 x02, .int .i64 x03], .agg #[.int .i64 tk1, .int .u8 (tm1 : Nat)]] w fun e w' => e = .returned (.bool true) ∧ Below w.heap.size w w' := by
  obtain ⟨htk, htm⟩ := w1
  have hbR := (Below.refl w.heap.size w).alloc (Nat.le_refl _) (.cells #[.int .i64 x00, .int .i64 x01, .int .i64 x02, .int .i64 x03] 54)
  have hR0 : R4 (w.alloc (.cells #[.int .i64 x00, .int .i64 x01, .int .i64 x02, .int .i64 x03] 54)) w.heap.size x00 x01 x02 x03 := heap_alloc_new w _
  obtain ⟨w1, hw1⟩ : ∃ u, w.alloc (.cells #[.int .i64 x00, .int .i64 x01, .int .i64 x02, .int .i64 x03] 54) = u := ⟨_, rfl⟩
  have hs1 : w1.heap.size = w.heap.size + 1 := by rw [← hw1]; simp
  rw [hw1] at hbR hR0
  have hbT := (Below.refl w1.heap.size w1).alloc (Nat.le_refl _) (.cells #[.int .i64 tk1, .int .u8 (tm1 : Nat)] 23)
  have hT0 := rowP.new w1 23 #[.int .i64 tk1, .int .u8 (tm1 : Nat)]
  have HB0 := hid (hbR.trans (hbT.mono hbR.size))
  have HR0 := hid (hR0.below hbT)
  have HT0 := hid hT0
  clear hbR hR0 hbT hT0
  rw [hs1] at HT0
  (go_enter Try.func7, Try.ntmps7; try simp only [List.append])
  go_wp2_with ((with_reducible refine wpList_unguard ?_ ?_); (focus rfl))
  generalize w1.alloc (.cells #[.int .i64 tk1, .int .u8 (tm1 : Nat)] 23) = w2 at *
  refine Calls.mono (law14_awake w2) ?_; rintro e w3 ⟨rfl, hb⟩
  have HT3 := hid (HT0.out.below hb HT0.out.lt)
  have HR3 := hid (HR0.out.below hb)
  have HB3 := hid (HB0.out.trans (hb.mono HB0.out.size))
  clear hb HT0 HB0 HR0
  go_wp2_with ((with_reducible refine wpList_unguard ?_ ?_); (focus rfl))
  refine Calls.mono (crc_NewK w3 w3 (Below.refl _ _)) ?_; rintro e w4 ⟨b, rfl, K0⟩
  have HT4 := hid (HT3.out.below K0.1 HT3.out.lt)
  have HR4 := hid (HR3.out.below K0.1)
  have HB4 := hid (HB3.out.trans (K0.1.mono HB3.out.size))
  have HC4 := hid K0.2
  clear K0 HT3 HR3 HB3
  have r0 := HR4.out.c0
  have r1 := HR4.out.c1
  have r2 := HR4.out.c2
  have r3 := HR4.out.c3
  go_wp2_with ((with_reducible refine wpList_unguard ?_ ?_); (focus rfl))
  cases hok : recOk x00 x01 x02 x03 with
  | false =>
    have hP := rec_Put_bad w4 b x00 x01 x02 x03 w4 ⟨Below.refl _ _, HC4.out⟩ hok
    refine Calls.mono hP ?_; rintro e w5 ⟨rfl, K5⟩
    have HR5 := hid (HR4.out.below K5.1)
    have HB5 := hid (HB4.out.trans (K5.1.mono HB4.out.size))
    clear hP K5 HR4 HT4 HB4 HC4 r0 r1 r2 r3
    have r0 := HR5.out.c0
    have r1 := HR5.out.c1
    have r2 := HR5.out.c2
    have r3 := HR5.out.c3
    have HOK := hid hok
    clear hok
    go_wp2_with ((with_reducible refine wpList_unguard ?_ ?_); (focus rfl))
    refine Calls.mono (ref14_Right x00 x01 x02 x03 w5) ?_; rintro e w6 ⟨rfl, hb⟩
    rw [HOK.out]
    have HB6 := hid (HB5.out.trans (hb.mono HB5.out.size))
    clear hb
    go_wp2_with ((with_reducible refine wpList_unguard ?_ ?_); (focus rfl))
    go_ret
    exact ⟨rfl, HB6.out⟩
  | true =>
    have hok' := hok
    unfold recOk at hok'
    simp only [Bool.and_eq_true, decide_eq_true_eq] at hok'
    obtain ⟨k, rfl⟩ : ∃ n : Nat, x00 = n := ⟨x00.toNat, by omega⟩
    obtain ⟨s, rfl⟩ : ∃ n : Nat, x01 = n := ⟨x01.toNat, by omega⟩
    obtain ⟨n, rfl⟩ : ∃ n : Nat, x02 = n := ⟨x02.toNat, by omega⟩
    obtain ⟨v, rfl⟩ : ∃ n : Nat, x03 = n := ⟨x03.toNat, by omega⟩
    have hk : k ≤ 127 := by omega
    have hs : s ≤ 3 := by omega
    have hn : n ≤ 65535 := by omega
    have hv : v ≤ 281474976710655 := by omega
    clear hok hok'
    have hP := rec_Put w4 b k s n v w4 ⟨Below.refl _ _, HC4.out⟩ hk hs hn hv
    refine Calls.mono hP ?_; rintro e w5 ⟨rfl, K5⟩
    have HR5 := hid (HR4.out.below K5.1)
    have HT5 := hid (HT4.out.below K5.1 HT4.out.lt)
    have HB5 := hid (HB4.out.trans (K5.1.mono HB4.out.size))
    have HC5 := hid K5.2
    clear hP K5 HR4 HT4 HB4 HC4 r0 r1 r2 r3
    obtain ⟨P, hPe⟩ : ∃ P, recP k s n v = P := ⟨_, rfl⟩
    rw [hPe]
    have HPE := hid hPe
    have hPl : P.length = 16 := by rw [← hPe]; exact recP_len k s n v
    have HPB : Hid (∀ y ∈ P, y < 256) := by show ∀ y ∈ P, y < 256; rw [← hPe]; exact recP_lt k s n v
    clear hPe
    go_wp2_with ((with_reducible refine wpList_unguard ?_ ?_); (focus rfl))
    refine Calls.mono (dev_New 1 w5 (by omega) (by omega)) ?_; rintro e w6 ⟨i, rfl, hlo, hhi, hD, hb⟩
    have HD6 := hid hD
    have HT6 := hid (HT5.out.below hb HT5.out.lt)
    have HR6 := hid (HR5.out.below hb)
    have HC6 := hid (HC5.out.below hb HC5.out.lt)
    have HB6 := hid (HB5.out.trans (hb.mono HB5.out.size))
    have hwz : w.heap.size ≤ i.lo := by rw [hlo]; exact HB5.out.size
    have hwr : w.heap.size < i.lo := by rw [hlo]; exact HR5.out.lt
    have hwt : w.heap.size + 1 < i.lo := by rw [hlo]; exact HT5.out.lt
    have hwc : b < i.lo := by rw [hlo]; exact HC5.out.lt
    clear hb hD hlo hhi HT5 HR5 HC5 HB5
    have tt0 := HT6.out.cell 0 _ rfl
    have tt1 := HT6.out.cell 1 _ rfl
    go_wp2_with ((with_reducible refine wpList_unguard ?_ ?_); (focus rfl))
    refine Calls.mono (dev_Fuse i 1 (newS 1) _ tk1 tm1 0 HD6.out htm (by omega)) ?_; rintro e w7 ⟨rfl, hD7, hO7⟩
    have HD7 := hid hD7
    have HR7 : Hid (R4 w7 w.heap.size k s n v) := by show R4 _ _ _ _ _ _; unfold R4; rw [hO7.block _ HR6.out.lt (.inl hwr)]; exact HR6.out
    have HC7 := hid (HC6.out.out hO7 (.inl hwc))
    have HB7 := hid (Out.belowB hO7 HB6.out hwz)
    clear hD7 hO7 HD6 HT6 HR6 HC6 HB6 tt0 tt1
    have hlf : (fuseS (newS 1) tk1 tm1 0).lf = 0 := by show max 0 (-1 : Int) = 0; omega
    have hmm : (fuseS (newS 1) tk1 tm1 0).m < 256 := htm
    have hbl : (fuseS (newS 1) tk1 tm1 0).b.length = 64 * 1 := HD7.out.fs.1
    have hTR := torn_read (fuseS (newS 1) tk1 tm1 0) 1 16 P hbl (by omega) (by omega) hPl HPB.out hmm hlf rfl rfl (fun j hj => by
      show (List.replicate (64 * 1) 255).getD (16 + j) 0 = 255
      rw [List.getD_eq_getElem?_getD, List.getElem?_replicate, if_pos (by omega)]; rfl)
    have HTR := hid hTR
    have hdl := (fuseS (newS 1) tk1 tm1 0).done_le 16
    clear hTR
    generalize hS : fuseS (newS 1) tk1 tm1 0 = s0 at *
    clear hS
    go_wp2_with ((with_reducible refine wpList_unguard ?_ ?_); (focus rfl))
    refine Calls.mono (dev_Program i 1 s0 _ 16 (ofB P) HD7.out (by omega)) ?_; rintro e w8 ⟨rfl, hD8, hO8⟩
    rw [sb_ofB P HPB.out] at hD8 ⊢
    have HD8 := hid hD8
    have HR8 : Hid (R4 w8 w.heap.size k s n v) := by show R4 _ _ _ _ _ _; unfold R4; rw [hO8.block _ HR7.out.lt (.inl hwr)]; exact HR7.out
    have HC8 := hid (HC7.out.out hO8 (.inl hwc))
    have HB8 := hid (Out.belowB hO8 HB7.out hwz)
    clear hD8 hO8 HD7 HR7 HC7 HB7
    generalize s0.progE 1 16 P = E1 at *
    go_wp2_with ((with_reducible refine wpList_unguard ?_ ?_); (focus rfl))
    refine Calls.mono (dev_PowerOn i 1 _ _ HD8.out) ?_; rintro e w9 ⟨rfl, hD9, hO9⟩
    have HD9 := hid hD9
    have HR9 : Hid (R4 w9 w.heap.size k s n v) := by show R4 _ _ _ _ _ _; unfold R4; rw [hO9.block _ HR8.out.lt (.inl hwr)]; exact HR8.out
    have HC9 := hid (HC8.out.out hO9 (.inl hwc))
    have HB9 := hid (Out.belowB hO9 HB8.out hwz)
    clear hD9 hO9 HD8 HR8 HC8 HB8
    obtain ⟨T, hT⟩ : ∃ T, tornL P (s0.done 16) s0.m = T := ⟨_, rfl⟩
    rw [hT] at HTR
    have hRB : (powerS (s0.prog 1 16 P)).readB 1 16 16 = T := by
      unfold FS.readB
      rw [if_pos ⟨rfl, by omega, by omega, by omega⟩]
      exact HTR.out
    have hRE : wrongE 1 (powerS (s0.prog 1 16 P)).dn 16 16 = 0 := wrongE_of ⟨rfl, by omega, by omega, by omega⟩
    have hRd := dev_Read i 1 (powerS (s0.prog 1 16 P)) w9 16 16 HD9.out (by omega) (by omega)
    rw [hRB, hRE] at hRd
    have hTl : T.length = 16 := by rw [← hT, tornL_len]; exact hPl
    have hTb : ∀ y ∈ T, y < 256 := by
      intro y hy
      rw [← hRB] at hy
      unfold FS.readB at hy
      rw [if_pos ⟨rfl, by omega, by omega, by omega⟩] at hy
      exact HD9.out.fs.2.2.2.2.2.1 y (List.mem_of_mem_drop (List.mem_of_mem_take hy))
    have hNone : T ≠ P → getOk T = false := by
      intro hne
      have := torn_none k s n v (s0.done 16) s0.m hdl
      rw [HPE.out, hT] at this
      exact this hne
    have hSome : T = P → getOk T = true := by
      intro he
      rw [he, ← HPE.out]
      exact getOk_recP k s n v hk hs hn hv
    have HTT := hid (And.intro hNone hSome)
    have HTB := hid hTb
    clear hNone hSome hRB hRE hT hTb HTR
    go_wp2_with ((with_reducible refine wpList_unguard ?_ ?_); (focus rfl))
    refine Calls.mono hRd ?_; rintro e wA ⟨rfl, hDA, hOA⟩
    have HRA : Hid (R4 wA w.heap.size k s n v) := by show R4 _ _ _ _ _ _; unfold R4; rw [hOA.block _ HR9.out.lt (.inl hwr)]; exact HR9.out
    have HCA := hid (HC9.out.out hOA (.inl hwc))
    have HBA := hid (Out.belowB hOA HB9.out hwz)
    clear hRd hDA hOA HD9 HR9 HC9 HB9
    go_wp2_with ((with_reducible refine wpList_unguard ?_ ?_); (focus rfl))
    have hG := rec_Get wA b (ofB T) wA ⟨Below.refl _ _, HCA.out⟩ (by rw [ofB_size]; omega) (by rw [ofB_size]; omega)
    refine Calls.mono hG ?_; rintro e wB ⟨hret, KB⟩
    rw [sb_ofB T HTB.out] at hret
    have HRB := hid (HRA.out.below KB.1)
    have HBB := hid (HBA.out.trans (KB.1.mono HBA.out.size))
    clear hG KB HRA HCA HBA
    have hq : ((ofB T).toList == (ofB P).toList) = decide (T = P) := by rw [str_beq, sb_ofB T HTB.out, sb_ofB P HPB.out]
    by_cases hTP : T = P
    · have hgo := HTT.out.2 hTP
      unfold getRet at hret
      rw [hgo, if_pos rfl] at hret
      rw [decide_eq_true hTP] at hq
      subst hTP
      obtain ⟨p1, p2, p3, p4⟩ := pg_recP k s n v hk hs hn hv
      rw [HPE.out] at p1 p2 p3 p4
      rw [p1, p2, p3, p4] at hret
      subst hret
      clear hgo p1 p2 p3 p4 hq
      have hb := (Below.refl wB.heap.size wB).alloc (Nat.le_refl _) (.cells #[.int .i64 k, .int .i64 s, .int .i64 n, .int .i64 v] 54)
      have hX : R4 (wB.alloc (.cells #[.int .i64 k, .int .i64 s, .int .i64 n, .int .i64 v] 54)) wB.heap.size k s n v := heap_alloc_new wB _
      have HBC := hid (HBB.out.trans (hb.mono HBB.out.size))
      have HRC := HRB.out.below hb
      have r0 := HRC.c0
      have r1 := HRC.c1
      have r2 := HRC.c2
      have r3 := HRC.c3
      have x0 := hX.c0
      have x1 := hX.c1
      have x2 := hX.c2
      have x3 := hX.c3
      have heq := eql_rec k s n v k s n v
      have hre : recEq (k : Int) s n v k s n v = true := by unfold recEq; exact decide_eq_true ⟨rfl, rfl, rfl, rfl⟩
      rw [hre] at heq
      clear hb hX HRC hre
      go_wp2_with ((with_reducible refine wpList_unguard ?_ ?_); (focus rfl))
      go_ret
      exact ⟨rfl, HBC.out⟩
    · have hgo := HTT.out.1 hTP
      unfold getRet at hret
      rw [hgo, if_neg (by decide)] at hret
      rw [decide_eq_false hTP] at hq
      subst hret
      clear hgo
      have hb := (Below.refl wB.heap.size wB).alloc (Nat.le_refl _) (.cells #[.int .i64 0, .int .i64 0, .int .i64 0, .int .i64 0] 54)
      have HBC := hid (HBB.out.trans (hb.mono HBB.out.size))
      clear hb
      go_wp2_with ((with_reducible refine wpList_unguard ?_ ?_); (focus rfl))
      go_ret
      exact ⟨rfl, HBC.out⟩
end Go.Proofs.Ytiicbbhjepkndaa
