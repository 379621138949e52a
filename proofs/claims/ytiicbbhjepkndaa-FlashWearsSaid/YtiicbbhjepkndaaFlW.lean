/-
  FlashWears, walked.
-/
import Derived.Test.YtiicbbhjepkndaaFl0
import Derived.Test.YtiicbbhjepkndaaDevA
import Derived.Test.YtiicbbhjepkndaaDevB
import Derived.Test.YtiicbbhjepkndaaOpenZ
import Derived.Test.YtiicbbhjepkndaaRegS
namespace Tri
open Go Go.RowKit
theorem wrap_id {x : Int} (h : i64ok x) : wrap64 x = x := by unfold i64ok at h; unfold wrap64; omega
theorem wrap_ok (x : Int) : i64ok (wrap64 x) := by unfold i64ok wrap64; omega
theorem great_all {P : Prop} {l : List OpR} {f : OpR → Bool} (h : l.any f = false) : ∀ o ∈ l, f o = false := by
  intro o ho
  cases hf : f o with
  | false => rfl
  | true => rw [List.any_eq_true.2 ⟨o, ho, hf⟩] at h; cases h
/-- Which erases wear. -/
def FS.wears (s : FS) (n : Nat) (c : Int) : Bool := decide (s.dn = false ∧ (0 ≤ c ∧ c < n) ∧ s.lkd c = false)
theorem erase_wr (s : FS) (n : Nat) (c : Int) : (s.erase n c).wr = if s.wears n c then s.wr.set c.toNat (wrap64 (s.wr.getD c.toNat 0 + 1)) else s.wr := by
  unfold FS.erase FS.wears
  by_cases h : s.dn = false ∧ (0 ≤ c ∧ c < n) ∧ s.lkd c = false
  · rw [if_pos h, decide_eq_true h]; rfl
  · rw [if_neg h, decide_eq_false h]; rfl
theorem erase_told (s : FS) (n : Nat) (c : Int) : (decide (s.eraseE n c = 0) || (decide (s.eraseE n c = 5) && !s.dn)) = s.wears n c := by
  unfold FS.eraseE FS.wears
  cases hd : s.dn
  · by_cases hr : 0 ≤ c ∧ c < n
    · cases hl : s.lkd c
      · by_cases h0 : s.lf = 0 <;> simp [hr, h0]
      · simp [hr]
    · simp [hr]
  · simp
theorem prog_wr (s : FS) (n : Nat) (a : Int) (p : List Nat) : (s.prog n a p).wr = s.wr := by 
  unfold FS.prog
  split
  · exact partS_wr s
  · rfl
theorem lock_wr (s : FS) (n : Nat) (a b : Int) : (s.lock n a b).wr = s.wr := by unfold FS.lock; split <;> rfl
theorem rot_wr (s : FS) (n : Nat) (a : Int) (l : List Nat) : (s.rot n a l).wr = s.wr := by unfold FS.rot; split <;> rfl
end Tri
namespace Go.Proofs.Ytiicbbhjepkndaa
open Go.RowKit Tri

theorem great_len {l : List OpR} (h : greatB l = false) : l.length ≤ 150 ∧ ∀ o ∈ l, o.s.size ≤ 1000 := by
  unfold greatB at h
  rw [Bool.or_eq_false_iff] at h
  refine ⟨by have := of_decide_eq_false h.1; omega, fun o ho => ?_⟩
  have := great_all (P := True) h.2 o ho
  have := of_decide_eq_false this
  omega
def rowI (l : List Int) : List Value := l.map fun x => Value.int .i64 x
theorem rowI_at {w : World} {K : Nat} {l : List Int} (h : rowP w K 3 (rowI l)) (j : Nat) (hj : j < l.length) : w.cell? ⟨K, j, none⟩ = some (.int .i64 (l.getD j 0)) := by
  refine h.cell j _ ?_
  unfold rowI
  rw [List.getElem?_map, List.getElem?_eq_getElem hj, List.getD_eq_getElem?_getD, List.getElem?_eq_getElem hj]
  rfl
theorem DevP.setK {w : World} {i : DI} {n : Nat} {s : FS} (h : DevP w i n s) {K : Nat} (hK : i.hi ≤ K) (j : Nat) (v : Value) : DevP (w.setCell ⟨K, j, none⟩ v) i n s :=
  h.out ((Out.refl K (K + 1) w).set ⟨K, j, none⟩ v (Nat.le_refl K) (Nat.lt_succ_self K)) (.inr hK)
theorem Below.setK {w0 w : World} (h : Below w0.heap.size w0 w) {K : Nat} (hK : w0.heap.size ≤ K) (j : Nat) (v : Value) : Below w0.heap.size w0 (w.setCell ⟨K, j, none⟩ v) :=
  Out.below ((Out.refl K (K + 1) w).set ⟨K, j, none⟩ v (Nat.le_refl K) (Nat.lt_succ_self K)) h hK
theorem getD_setI (l : List Int) (j : Nat) (x : Int) (P : Int → Prop) (h : ∀ y ∈ l, P y) (hx : P x) : ∀ y ∈ l.set j x, P y := by
  intro y hy
  rcases List.mem_or_eq_of_mem_set hy with h1 | h1
  · exact h y h1
  · rw [h1]; exact hx
theorem rowI_set (l : List Int) (j : Nat) (x : Int) : (rowI l).set j (.int .i64 x) = rowI (l.set j x) := by unfold rowI; rw [List.map_set]
theorem Out.belowB {lo hi : Nat} {w0 a w : World} (h : Out lo hi a w) (hb : Below w0.heap.size w0 a) (hlo : w0.heap.size ≤ lo) : Below w0.heap.size w0 w := Out.below h hb hlo
def OneZ (v : Value) (w : World) (x : Int) : Prop := ∃ g, v = .slice (some ⟨g, 0, none⟩) 1 1 ∧ w.cell? ⟨g, 0, none⟩ = some (.int .i64 x)
theorem OneZ.below {v : Value} {w w' : World} {x : Int} (h : OneZ v w x) (hb : Below w.heap.size w w') : OneZ v w' x := by
  obtain ⟨g, e, hc⟩ := h
  exact ⟨g, e, by rw [hb.cell (p := ⟨g, 0, none⟩) (block_lt_of_cell hc)]; exact hc⟩
theorem OneZ.new (w : World) (x : Int) (t : TypeId) : OneZ (.slice (some ⟨w.heap.size, 0, none⟩) 1 1) (w.alloc (.cells #[.int .i64 x] t)) x := ⟨_, rfl, by simp⟩
def weaV (D K n : Nat) (j : Int) (jn : Nat) (x : Int) (m : Nat) (v : Value) (w : World) : Prop := match m with
  | 0 => v = .pointer (some ⟨D, 0, none⟩)
  | 1 | 5 => v = .int .i64 j
  | 2 => OneZ v w j
  | 3 | 7 => v = .int .i64 x
  | 4 => v = .slice (some ⟨K, 0, none⟩) n n
  | 6 => v = .pointer (some ⟨K, jn, none⟩)
  | _ => True
theorem weaV_st (D K n : Nat) (j : Int) (jn : Nat) (x : Int) (m : Nat) (v : Value) (w w' : World) (hb : Below w.heap.size w w') (h : weaV D K n j jn x m v w) : weaV D K n j jn x m v w' := by
  unfold weaV at *
  split at h <;> first | exact h | exact h.below hb
theorem cellsZ.one {w : World} {g : Nat} {x : Int} (h : w.cell? ⟨g, 0, none⟩ = some (.int .i64 x)) : cellsZ w (some ⟨g, 0, none⟩) [x] := by
  intro i hi
  have hi0 : i = 0 := by simp at hi; omega
  subst hi0
  exact ⟨_, _, rfl, h⟩
set_option maxHeartbeats 16000000 in
set_option maxRecDepth 100000 in
theorem flashWears.walk (a0 : Int) (a1 : Option Addr) (len1 cap1 : Nat) (l1 : List Tri.OpR) (a2 : Option Addr) (len2 cap2 : Nat) (l2 : List Int) (w : World) (w0 : (Lit.int .u8 a0).wf = true) (w1 : IsOps w a1 len1 cap1 l1) (w2 : IsInts w a2 len2 cap2 l2) :
    Calls Try.prog 5 #[.int .u8 a0, .slice a1 len1 cap1, .slice a2 len2 cap2] w fun e w' => e = .returned (.bool true) ∧ Below w.heap.size w w' := by
  obtain ⟨q, hq, rfl⟩ := u8_of w0
  obtain ⟨rfl, hc1, hm1, hp1, hok1⟩ := w1
  obtain ⟨rfl, hc2, hm2, hp2, hok2⟩ := w2
  have HP1 := hid hp1
  have HK1 := hid hok1
  have HP2 := hid hp2
  have HK2 := hid hok2
  clear hp1 hok1 hp2 hok2 w0
  obtain ⟨n, hn⟩ : ∃ n, 1 + q % 12 = n := ⟨_, rfl⟩
  have hn1 : 1 ≤ n := by omega
  have hn12 : n ≤ 12 := by omega
  have hr : Int.tmod (q : Int) 12 = ((q % 12 : Nat) : Int) := by rw [Int.tmod_eq_emod_of_nonneg (by omega)]; omega
  have hr2 : (1 : Int) + ((q % 12 : Nat) : Int) = n := by omega
  (go_enter Try.func5, Try.ntmps5; try simp only [List.append])
  go_wp2_with ((with_reducible refine wpList_unguard ?_ ?_); (focus rfl))
  refine Calls.mono (law08_awake w) ?_; rintro e w3 ⟨rfl, hB⟩
  have HB := hid hB
  clear hB
  go_wp2_with ((with_reducible refine wpList_unguard ?_ ?_); (focus rfl))
  have hgr := law08_great a1 l1.length cap1 l1 w3 rfl (by omega) (HP1.out.below HB.out) HK1.out
  refine Calls.mono hgr ?_; rintro e w4 ⟨rfl, hB⟩
  have HB4 := hid (HB.out.trans (hB.mono HB.out.size))
  clear hB hgr HB
  cases hg : greatB l1 with
  | true =>
    clear hg
    go_wp2_with ((with_reducible refine wpList_unguard ?_ ?_); (focus rfl))
    go_ret
    exact ⟨rfl, HB4.out⟩
  | false =>
    rcases Nat.lt_or_ge 60 l2.length with h60 | h60
    · have q1 : decide ((60 : Int) < l2.length) = true := decide_eq_true (by omega)
      clear hg
      go_wp2_with ((with_reducible refine wpList_unguard ?_ ?_); (focus rfl))
      go_ret
      exact ⟨rfl, HB4.out⟩
    · have q1 : decide ((60 : Int) < l2.length) = false := decide_eq_false (by omega)
      obtain ⟨h150, hsz⟩ := great_len hg
      have HSZ := hid hsz
      clear hsz hg
      go_wp2_with ((with_reducible refine wpList_unguard ?_ ?_); (focus rfl))
      rw [show (1 + (q : Int) % 12) = (n : Int) from by omega]
      refine Calls.mono (dev_New n w4 hn1 (by omega)) ?_; rintro e w5 ⟨i, rfl, hlo, hhi, hD, hB⟩
      have mk := Try.mkI n n (Nat.le_refl _) (by omega) w5
      have hbK := (Below.refl w5.heap.size w5).alloc (Nat.le_refl _) (.cells (Array.replicate n (.int .i64 0)) 3)
      have HD := hid (hD.below hbK)
      have HB5 : Hid (Below w.heap.size w w5) := HB4.out.trans (hB.mono HB4.out.size)
      have HB6 := hid (HB5.out.trans (hbK.mono HB5.out.size))
      have hKr := rowP.newL w5 3 (Array.replicate n (.int .i64 0)) (rowI (newS n).wr) (by simp [newS, rowI])
      have HK := hid hKr
      have hwi : i.lo ≤ i.hi := by have := hD.ok; unfold DI.ok at this; omega
      have hwz : w.heap.size ≤ i.lo := by rw [hlo]; exact HB4.out.size
      clear hB HB4 hbK hKr hD hlo HB5
      go_wp2_with ((with_reducible refine wpList_unguard ?_ ?_); (focus rfl))
      clear mk
      obtain ⟨K, hKe⟩ : ∃ K, w5.heap.size = K := ⟨_, rfl⟩
      rw [hKe] at HK hhi ⊢
      generalize w5.alloc (.cells (Array.replicate n (.int .i64 0)) 3) = w6 at *
      clear hKe
      go_loopw [44] (fun v wr => ∃ (k : Nat) (s : FS), k ≤ l1.length ∧ v = .int .i64 k ∧ DevP wr i n s ∧ rowP wr K 3 (rowI s.wr) ∧ (∀ x ∈ s.wr, i64ok x) ∧ Below w.heap.size w wr) (fun v _ => l1.length - (intOf v).toNat)
      case atStart => exact ⟨0, newS n, by omega, rfl, HD.out, HK.out, by intro x hx; simp only [newS, List.mem_replicate] at hx; rw [hx.2]; unfold i64ok; omega, HB6.out⟩
      case round =>
        obtain ⟨k, s, hk, rfl, hD, hKr, hwo, hB⟩ := hrel
        by_cases hlt : k < l1.length
        · have q4 : decide ((k : Int) < l1.length) = true := decide_eq_true (by omega)
          obtain ⟨o, ho⟩ : ∃ o, l1[k]? = some o := ⟨_, List.getElem?_eq_getElem hlt⟩
          obtain ⟨b, f, rfl, c0, c1, c2, c3, c4, c5⟩ := ops_at (HP1.out.below hB) k o ho
          have hoo := HK1.out o (List.mem_of_getElem? ho)
          have hos := HSZ.out o (List.mem_of_getElem? ho)
          obtain ⟨ok, oa, on, os, otb, otm⟩ := o
          have hb1 := (Below.refl wr.heap.size wr).alloc (Nat.le_refl _) (.cells #[.int .i64 ok, .int .i64 oa, .int .i64 on, .string os, .int .i64 otb, .int .u8 (otm : Nat)] 42)
          have hT := rowP.new wr 42 #[.int .i64 ok, .int .i64 oa, .int .i64 on, .string os, .int .i64 otb, .int .u8 (otm : Nat)]
          have HD1 := hid (hD.below hb1)
          have HK1' := hid (hKr.below hb1 hKr.lt)
          have HB1 := hid (hB.trans (hb1.mono hB.size))
          have HT := hid hT
          have HWO := hid hwo
          have hTi : i.hi ≤ wr.heap.size := hD.hi
          have HOO := hid hoo
          have hKi : i.hi ≤ K := by omega
          have ct0 := HT.out.cell 0 _ rfl
          have ct1 := HT.out.cell 1 _ rfl
          have ct2 := HT.out.cell 2 _ rfl
          have ct3 := HT.out.cell 3 _ rfl
          have ct4 := HT.out.cell 4 _ rfl
          have ct5 := HT.out.cell 5 _ rfl
          clear hb1 hT hD hKr hB hwo hoo HD HK HB6 ho
          rcases (show ok = 1 ∨ ok = 2 ∨ ok = 3 ∨ ok = 4 ∨ ok = 5 ∨ ok = 6 ∨ ok = 7 ∨ (ok ≠ 1 ∧ ok ≠ 2 ∧ ok ≠ 3 ∧ ok ≠ 4 ∧ ok ≠ 5 ∧ ok ≠ 6 ∧ ok ≠ 7) from by omega) with rfl | rfl | rfl | rfl | rfl | rfl | rfl | hne
          · go_wp2_with ((with_reducible refine wpList_unguard ?_ ?_); (focus rfl))
            refine Calls.mono (dev_Down i n s _ HD1.out) ?_; rintro e w7 ⟨rfl, rfl⟩
            go_wp2_with ((with_reducible refine wpList_unguard ?_ ?_); (focus rfl))
            refine Calls.mono (dev_Erase i n s _ oa HD1.out HOO.out.2.1) ?_; rintro e w8 ⟨rfl, hD8, hO8⟩
            have HD8 := hid hD8
            have HK8 := hid (HK1'.out.out hO8 (.inr hKi))
            have HB8 := hid (Out.belowB hO8 HB1.out hwz)
            have HT8 := hid (HT.out.out hO8 (.inr hTi))
            have hwr := erase_wr s n oa
            have htold := erase_told s n oa
            have hwl := HD1.out.fs.2.2.1
            clear hD8 hO8 HD1 HK1' HB1 HT ct0 ct1 ct2 ct3 ct4 ct5 c0 c1 c2 c3 c4 c5
            generalize s.erase n oa = s' at *
            generalize s.eraseE n oa = E at *
            have ct1 := HT8.out.cell 1 _ rfl
            obtain ⟨z0, e0⟩ : ∃ z, ((E : Int) == 0) = z := ⟨_, rfl⟩
            obtain ⟨z5, e5⟩ : ∃ z, ((E : Int) == 5) = z := ⟨_, rfl⟩
            have HTD : Hid ((z0 || (z5 && !s.dn)) = s.wears n oa) := by
              show _ = _
              rw [← htold, ← e0, ← e5]
              congr 1
              · by_cases h : E = 0 <;> simp [h]
              · congr 1; by_cases h : E = 5 <;> simp [h]; omega
            have HWR := hid hwr
            clear hwr htold
            obtain ⟨d, hd⟩ : ∃ d, s.dn = d := ⟨_, rfl⟩
            rw [hd] at HTD ⊢
            have HDN := hid hd
            clear hd
            cases hw : s.wears n oa with
            | true =>
              obtain ⟨_, hro, _⟩ := of_decide_eq_true hw
              obtain ⟨j, rfl⟩ : ∃ j : Nat, oa = j := ⟨oa.toNat, by omega⟩
              have hj : j < s.wr.length := by omega
              have cK := rowI_at HK8.out j hj
              have fK := HK8.out.free j (by unfold rowI; rw [List.length_map]; exact hj)
              have HW2 := HWR.out
              rw [hw, if_pos rfl, Int.toNat_natCast] at HW2
              rw [hw] at HTD
              obtain ⟨x, hx⟩ : ∃ x, s.wr.getD j 0 = x := ⟨_, rfl⟩
              rw [hx] at cK HW2
              have HKn := hid (HK8.out.set j (.int .i64 (wrap64 (x + 1))) (by unfold rowI; rw [List.length_map]; exact hj))
              rw [rowI_set, ← HW2] at HKn
              have HDn := hid (HD8.out.setK hKi j (.int .i64 (wrap64 (x + 1))))
              have HBn := hid (Below.setK HB8.out (show w.heap.size ≤ K by omega) j (.int .i64 (wrap64 (x + 1))))
              have HWn : Hid (∀ y ∈ s'.wr, i64ok y) := by
                show ∀ y ∈ s'.wr, i64ok y
                rw [HW2]
                exact getD_setI _ _ _ _ HWO.out (wrap_ok _)
              clear HW2 hx hw HK8 HD8 HB8 HT8 HWR HDN HWO
              cases z0 <;> cases z5 <;> cases d
              all_goals first
                | (exfalso; have := HTD.out; simp at this; done)
                | (go_wp2_with ((with_reducible refine wpList_unguard ?_ ?_); (focus rfl))
                   go_roundw
                   case rel => exact ⟨k + 1, s', by omega, by go_num, HDn.out, HKn.out, HWn.out, HBn.out⟩
                   case measure => simp [intOf]; omega)
            | false =>
              have HW2 := HWR.out
              rw [hw, if_neg (by decide)] at HW2
              rw [hw] at HTD
              have HKn : Hid (rowP w8 K 3 (rowI s'.wr)) := by show rowP _ _ _ _; rw [HW2]; exact HK8.out
              have HWn : Hid (∀ y ∈ s'.wr, i64ok y) := by show ∀ y ∈ s'.wr, i64ok y; rw [HW2]; exact HWO.out
              clear HW2 hw HK8 HT8 HWR HDN HWO
              cases z0 <;> cases z5 <;> cases d
              all_goals first
                | (exfalso; have := HTD.out; simp at this; done)
                | (go_wp2_with ((with_reducible refine wpList_unguard ?_ ?_); (focus rfl))
                   go_roundw
                   case rel => exact ⟨k + 1, s', by omega, by go_num, HD8.out, HKn.out, HWn.out, HB8.out⟩
                   case measure => simp [intOf]; omega)
          · go_wp2_with ((with_reducible refine wpList_unguard ?_ ?_); (focus rfl))
            refine Calls.mono (dev_Program i n s _ oa os HD1.out HOO.out.2.1) ?_; rintro e w8 ⟨rfl, hD8, hO8⟩
            have HD8 := hid hD8
            have hwr := prog_wr s n oa (sb os)
            have HK8 := hid (HK1'.out.out hO8 (.inr hKi))
            have HB8 := hid (Out.belowB hO8 HB1.out hwz)
            rw [← hwr] at HK8 HWO
            clear hD8 hO8 HD1 HK1' HB1 HT ct0 ct1 ct2 ct3 ct4 ct5 c0 c1 c2 c3 c4 c5 hwr
            generalize s.prog n oa (sb os) = s' at *
            go_wp2_with ((with_reducible refine wpList_unguard ?_ ?_); (focus rfl))
            go_roundw
            case rel => exact ⟨k + 1, s', by omega, by go_num, HD8.out, HK8.out, HWO.out, HB8.out⟩
            case measure => simp [intOf]; omega
          · go_wp2_with ((with_reducible refine wpList_unguard ?_ ?_); (focus rfl))
            refine Calls.mono (dev_Lock i n s _ oa on HD1.out) ?_; rintro e w8 ⟨rfl, hD8, hO8⟩
            have HD8 := hid hD8
            have hwr := lock_wr s n oa on
            have HK8 := hid (HK1'.out.out hO8 (.inr hKi))
            have HB8 := hid (Out.belowB hO8 HB1.out hwz)
            rw [← hwr] at HK8 HWO
            clear hD8 hO8 HD1 HK1' HB1 HT ct0 ct1 ct2 ct3 ct4 ct5 c0 c1 c2 c3 c4 c5 hwr
            generalize s.lock n oa on = s' at *
            go_wp2_with ((with_reducible refine wpList_unguard ?_ ?_); (focus rfl))
            go_roundw
            case rel => exact ⟨k + 1, s', by omega, by go_num, HD8.out, HK8.out, HWO.out, HB8.out⟩
            case measure => simp [intOf]; omega
          · go_wp2_with ((with_reducible refine wpList_unguard ?_ ?_); (focus rfl))
            refine Calls.mono (dev_Fuse i n s _ otb otm on HD1.out HOO.out.2.2.2.2.2 (Int.lt_of_le_of_lt HOO.out.2.2.1.2 (by decide))) ?_; rintro e w8 ⟨rfl, hD8, hO8⟩
            have HD8 := hid hD8
            have HK8 : Hid (rowP w8 K 3 (rowI (fuseS s otb otm on).wr)) := HK1'.out.out hO8 (.inr hKi)
            have HB8 := hid (Out.belowB hO8 HB1.out hwz)
            have HWO : Hid (∀ x ∈ (fuseS s otb otm on).wr, i64ok x) := HWO
            clear hD8 hO8 HD1 HK1' HB1 HT ct0 ct1 ct2 ct3 ct4 ct5 c0 c1 c2 c3 c4 c5
            generalize fuseS s otb otm on = s' at *
            go_wp2_with ((with_reducible refine wpList_unguard ?_ ?_); (focus rfl))
            go_roundw
            case rel => exact ⟨k + 1, s', by omega, by go_num, HD8.out, HK8.out, HWO.out, HB8.out⟩
            case measure => simp [intOf]; omega
          · go_wp2_with ((with_reducible refine wpList_unguard ?_ ?_); (focus rfl))
            refine Calls.mono (dev_PowerOn i n s _ HD1.out) ?_; rintro e w8 ⟨rfl, hD8, hO8⟩
            have HD8 := hid hD8
            have HK8 : Hid (rowP w8 K 3 (rowI (powerS s).wr)) := HK1'.out.out hO8 (.inr hKi)
            have HB8 := hid (Out.belowB hO8 HB1.out hwz)
            have HWO : Hid (∀ x ∈ (powerS s).wr, i64ok x) := HWO
            clear hD8 hO8 HD1 HK1' HB1 HT ct0 ct1 ct2 ct3 ct4 ct5 c0 c1 c2 c3 c4 c5
            generalize powerS s = s' at *
            go_wp2_with ((with_reducible refine wpList_unguard ?_ ?_); (focus rfl))
            go_roundw
            case rel => exact ⟨k + 1, s', by omega, by go_num, HD8.out, HK8.out, HWO.out, HB8.out⟩
            case measure => simp [intOf]; omega
          · have hcv := fun (w : World) => Lib.run_convert_string_bytes (P := Try.prog) w 9 30 5 os Try.underlying9 Try.underlying30 Try.underlying5
            have hqs : (wr.alloc (.cells #[.int .i64 6, .int .i64 oa, .int .i64 on, .string os, .int .i64 otb, .int .u8 (otm : Nat)] 42)).heap.size = wr.heap.size + 1 := by simp
            go_wp2_with ((with_reducible refine wpList_unguard ?_ ?_); (focus rfl))
            generalize wr.alloc (.cells #[.int .i64 6, .int .i64 oa, .int .i64 on, .string os, .int .i64 otb, .int .u8 (otm : Nat)] 42) = wq at *
            have hbb := bytes_below wq 5 os
            have hcc := bytes_cells wq 5 os
            have HD2 := hid (HD1.out.below hbb)
            have HK2' := hid (HK1'.out.below hbb HK1'.out.lt)
            have HB2 := hid (HB1.out.trans (hbb.mono HB1.out.size))
            have hqi := HD1.out.hi
            clear hbb
            have hRot := dev_Rot i n s (Lib.bytesWorld wq 5 os) oa (some ⟨wq.heap.size, 0, none⟩) os.size (grownCap wq os.size 0 5) (sb os) HD2.out HOO.out.2.1 (sb_length os).symm (by rw [sb_length]; omega) hcc (sb_lt os) (by intro a o s h; simp only [Option.some.injEq, Addr.mk.injEq] at h; omega)
            rw [hqs] at hRot
            refine Calls.mono hRot ?_; rintro e w8 ⟨rfl, hD8, hO8⟩
            have HD8 := hid hD8
            have hwr := rot_wr s n oa (sb os)
            have HK8 := hid (HK2'.out.out hO8 (.inr hKi))
            have HB8 := hid (Out.belowB hO8 HB2.out hwz)
            rw [← hwr] at HK8 HWO
            clear hD8 hO8 HD1 HK1' HB1 HT ct0 ct1 ct2 ct3 ct4 ct5 c0 c1 c2 c3 c4 c5 hwr hRot hcc hcv
            generalize s.rot n oa (sb os) = s' at *
            go_wp2_with ((with_reducible refine wpList_unguard ?_ ?_); (focus rfl))
            go_roundw
            case rel => exact ⟨k + 1, s', by omega, by go_num, HD8.out, HK8.out, HWO.out, HB8.out⟩
            case measure => simp [intOf]; omega
          · go_wp2_with ((with_reducible refine wpList_unguard ?_ ?_); (focus rfl))
            refine Calls.mono (dev_Copy i n s _ HD1.out (by omega)) ?_; rintro e w8 ⟨i', rfl, hlo', hhi', hD8, hb8⟩
            have HD9 := hid (HD1.out.below hb8)
            have HK9 := hid (HK1'.out.below hb8 HK1'.out.lt)
            have HB9 := hid (HB1.out.trans (hb8.mono HB1.out.size))
            have HC9 := hid hD8
            have hq1 : i.hi ≤ i'.lo := by rw [hlo']; exact HD1.out.hi
            have hq2 : K < i'.lo := by rw [hlo']; exact HK1'.out.lt
            have hq3 : w.heap.size ≤ i'.lo := by omega
            clear hb8 hD8 hlo' hhi' HD1 HK1' HB1 HT ct0 ct1 ct2 ct3 ct4 ct5 c0 c1 c2 c3 c4 c5
            go_wp2_with ((with_reducible refine wpList_unguard ?_ ?_); (focus rfl))
            refine Calls.mono (dev_PowerOn i' n s _ HC9.out) ?_; rintro e w10 ⟨rfl, hD8, hO8⟩
            have HDa := hid (HD9.out.out hO8 (.inr hq1))
            have HKa := hid (HK9.out.out hO8 (.inl hq2))
            have HBa := hid (Out.belowB hO8 HB9.out hq3)
            have HCa := hid hD8
            clear hD8 hO8 HD9 HK9 HB9 HC9
            go_wp2_with ((with_reducible refine wpList_unguard ?_ ?_); (focus rfl))
            refine Calls.mono (dev_Erase i' n _ _ 0 HCa.out (by omega)) ?_; rintro e w11 ⟨rfl, hD8, hO8⟩
            have HDb := hid (HDa.out.out hO8 (.inr hq1))
            have HKb := hid (HKa.out.out hO8 (.inl hq2))
            have HBb := hid (Out.belowB hO8 HBa.out hq3)
            clear hD8 hO8 HDa HKa HBa HCa
            go_wp2_with ((with_reducible refine wpList_unguard ?_ ?_); (focus rfl))
            go_roundw
            case rel => exact ⟨k + 1, s, by omega, by go_num, HDb.out, HKb.out, HWO.out, HBb.out⟩
            case measure => simp [intOf]; omega
          · obtain ⟨n1, n2, n3, n4, n5, n6, n7⟩ := hne
            have e1 : (ok == 1) = false := beq_eq_false_iff_ne.2 n1
            have e2 : (ok == 2) = false := beq_eq_false_iff_ne.2 n2
            have e3 : (ok == 3) = false := beq_eq_false_iff_ne.2 n3
            have e4 : (ok == 4) = false := beq_eq_false_iff_ne.2 n4
            have e5 : (ok == 5) = false := beq_eq_false_iff_ne.2 n5
            have e6 : (ok == 6) = false := beq_eq_false_iff_ne.2 n6
            have e7 : (ok == 7) = false := beq_eq_false_iff_ne.2 n7
            clear n1 n2 n3 n4 n5 n6 n7
            go_wp2_with ((with_reducible refine wpList_unguard ?_ ?_); (focus rfl))
            go_roundw
            case rel => exact ⟨k + 1, s, by omega, by go_num, HD1.out, HK1'.out, HWO.out, HB1.out⟩
            case measure => simp [intOf]; omega
        · obtain rfl : k = l1.length := by omega
          have q4 : decide ((l1.length : Int) < l1.length) = false := decide_eq_false (by omega)
          have HD1 := hid hD
          have HK1' := hid hKr
          have HB1 := hid hB
          have HWO := hid hwo
          have hwl := hD.fs.2.2.1
          clear hD hKr hB hwo HD HK HB6
          go_wp2_with ((with_reducible refine wpList_unguard ?_ ?_); (focus rfl))
          go_loopw [123, 16] (fun v x wr' => ∃ k : Nat, k ≤ l2.length ∧ v = .int .i64 k ∧ x = .int .i64 (s.wear n (l2.take k)) ∧ wr = wr') (fun v _ _ => l2.length - (intOf v).toNat)
          case atStart => exact ⟨0, Nat.zero_le _, rfl, rfl, rfl⟩
          case round =>
            obtain ⟨k, hk, rfl, rfl, rfl⟩ := hrel
            by_cases hlt : k < l2.length
            · have q5 : decide ((k : Int) < l2.length) = true := decide_eq_true (by omega)
              obtain ⟨b', o', rfl, hcl⟩ := (HP2.out.below HB1.out) k hlt
              have hst : Hid (s.wear n (l2.take (k + 1)) = if 0 ≤ l2.getD k 0 ∧ l2.getD k 0 < n then wrap64 (s.wear n (l2.take k) + s.wr.getD (l2.getD k 0).toNat 0) else s.wear n (l2.take k)) := by
                show _ = _
                rw [take_snocZ l2 k hlt]
                unfold FS.wear
                rw [List.foldl_append]
                rfl
              generalize s.wear n (l2.take k) = acc at *
              obtain ⟨x, hx⟩ : ∃ x, l2.getD k 0 = x := ⟨_, rfl⟩
              rw [hx] at hcl hst
              clear hx
              by_cases hin : 0 ≤ x ∧ x < n
              · obtain ⟨y, rfl⟩ : ∃ y : Nat, x = y := ⟨x.toNat, by omega⟩
                have cw := rowI_at HK1'.out y (by omega)
                have q6 : decide (0 ≤ (y : Int)) = true := decide_eq_true (by omega)
                have q7 : decide ((y : Int) < n) = true := decide_eq_true (by omega)
                have hst' : Hid (s.wear n (l2.take (k + 1)) = wrap64 (acc + s.wr.getD y 0)) := by
                  show _ = _
                  rw [hst.out, if_pos hin, Int.toNat_natCast]
                clear hst
                generalize s.wr.getD y 0 = z at *
                go_wp2_with ((with_reducible refine wpList_unguard ?_ ?_); (focus rfl))
                go_roundw
                case rel => exact ⟨k + 1, by omega, by go_num, by rw [hst'.out], by first | rfl | trivial⟩
                case measure => simp [intOf]; omega
              · have hst' : Hid (s.wear n (l2.take (k + 1)) = acc) := by
                  show _ = _
                  rw [hst.out, if_neg hin]
                clear hst
                rcases Int.lt_or_le x 0 with h0 | h0
                · have q6 : decide (0 ≤ x) = false := decide_eq_false (by omega)
                  go_wp2_with ((with_reducible refine wpList_unguard ?_ ?_); (focus rfl))
                  go_roundw
                  case rel => exact ⟨k + 1, by omega, by go_num, by rw [hst'.out], by first | rfl | trivial⟩
                  case measure => simp [intOf]; omega
                · have q6 : decide (0 ≤ x) = true := decide_eq_true (by omega)
                  have q7 : decide (x < n) = false := decide_eq_false (by omega)
                  go_wp2_with ((with_reducible refine wpList_unguard ?_ ?_); (focus rfl))
                  go_roundw
                  case rel => exact ⟨k + 1, by omega, by go_num, by rw [hst'.out], by first | rfl | trivial⟩
                  case measure => simp [intOf]; omega
            · obtain rfl : k = l2.length := by omega
              have q5 : decide ((l2.length : Int) < l2.length) = false := decide_eq_false (by omega)
              have hwt : s.wear n (l2.take l2.length) = s.wear n l2 := by rw [List.take_length]
              rw [hwt]
              clear hwt
              obtain ⟨W0, hW0⟩ : ∃ W0, s.wear n l2 = W0 := ⟨_, rfl⟩
              rw [hW0]
              have HW0 := hid hW0
              clear hW0
              generalize hwx : wr = wx at *
              clear hwx
              generalize hKB : K = KB at *
              clear hKB
              go_wp2_with ((with_reducible refine wpList_unguard ?_ ?_); (focus rfl))
              go_loopw [143] (fun v wr' => ∃ k : Nat, k ≤ n ∧ v = .int .i64 k ∧ Below wx.heap.size wx wr') (fun v _ => n - (intOf v).toNat)
              case atStart => exact ⟨0, Nat.zero_le _, rfl, Below.refl _ _⟩
              case round =>
                obtain ⟨j, hj, rfl, hBB⟩ := hrel
                by_cases hlt : j < n
                · have q6 : decide ((j : Int) < n) = true := decide_eq_true (by omega)
                  have hjl : j < s.wr.length := by omega
                  obtain ⟨x, hx⟩ : ∃ x, s.wr.getD j 0 = x := ⟨_, rfl⟩
                  have hxo : wrap64 (0 + x) = x := by
                    rw [Int.zero_add]
                    refine wrap_id (HWO.out x ?_)
                    rw [← hx, List.getD_eq_getElem?_getD, List.getElem?_eq_getElem hjl]
                    exact List.getElem_mem _
                  have HWE : Hid (s.wear n [(j : Int)] = x) := by
                    show _ = _
                    unfold FS.wear
                    simp only [List.foldl_cons, List.foldl_nil]
                    rw [if_pos ⟨by omega, by omega⟩, Int.toNat_natCast, hx]
                    exact hxo
                  have HBB := hid hBB
                  have HX := hid hx
                  clear hBB hx hxo
                  go_wp2_with ((with_reducible refine wpList_unguard ?_ ?_); (focus rfl))
                  refine region_seq (m := 8) _ _ (fun w' => Below wx.heap.size wx w') (fun a b => Below a.heap.size a b) (Below.refl _ _) (fun a b c h1 h2 => h1.trans (h2.mono h1.size)) (weaV i.D KB n j j x) (by kernel_rfl) (by kernel_rfl) (by kernel_rfl) (by decide) (by kernel_rfl) ⟨by decide, rfl⟩ (HBB.out.drew) (weaV_st _ _ _ _ _ _) ?_ ?_
                  · refine ⟨fun A w3 hC hu hd K hK => ?_, ?_⟩
                    · exact op_tmp 8 _ rfl (hu 8 rfl) (hK _ _ rfl hC (Below.refl _ _))
                    refine ⟨fun A w3 hC hu hd K hK => ?_, ?_⟩
                    · exact op_tmp 19 _ rfl (hu 19 rfl) (hK _ _ rfl hC (Below.refl _ _))
                    refine ⟨fun A w3 hC hu hd K hK => ?_, ?_⟩
                    · have h1 : A.tmps[147]?.getD undef = Value.int .i64 (j : Nat) := by have this : A.tmps.getD 147 undef = Value.int .i64 (j : Nat) := hd ⟨1, .data⟩ (by simp) rfl _ _ rfl rfl; simpa using this
                      clear hu hd
                      go_simp
                      exact hK _ _ (OneZ.new w3 _ _) (hC.alloc hC.size _) ((Below.refl _ _).alloc (Nat.le_refl _) _)
                    refine ⟨fun A w3 hC hu hd K hK => ?_, ?_⟩
                    · have h1 : A.tmps[146]?.getD undef = Value.pointer (some ⟨i.D, 0, none⟩) := by have this : A.tmps.getD 146 undef = Value.pointer (some ⟨i.D, 0, none⟩) := hd ⟨0, .data⟩ (by simp) rfl _ _ rfl rfl; simpa using this
                      obtain ⟨g, h0, hcg⟩ : OneZ (A.tmps.getD 148 undef) w3 (j : Nat) := hd ⟨2, .data⟩ (by simp) rfl _ _ rfl rfl
                      have h2 : A.tmps[148]?.getD undef = .slice (some ⟨g, 0, none⟩) 1 1 := by simpa using h0
                      clear hu hd h0
                      go_simp
                      refine Calls.mono (dev_Wear i n s w3 (some ⟨g, 0, none⟩) 1 1 [(j : Int)] (HD1.out.below hC) rfl (by simp) (cellsZ.one hcg)) ?_
                      rintro e w5 ⟨rfl, rfl⟩
                      rw [HWE.out]
                      exact hK _ _ rfl hC (Below.refl _ _)
                    refine ⟨fun A w3 hC hu hd K hK => ?_, ?_⟩
                    · exact op_tmp 10 _ rfl (hu 10 rfl) (hK _ _ rfl hC (Below.refl _ _))
                    refine ⟨fun A w3 hC hu hd K hK => ?_, ?_⟩
                    · exact op_tmp 19 _ rfl (hu 19 rfl) (hK _ _ rfl hC (Below.refl _ _))
                    refine ⟨fun A w3 hC hu hd K hK => ?_, ?_⟩
                    · have h1 : A.tmps[150]?.getD undef = Value.slice (some ⟨KB, 0, none⟩) n n := by have this : A.tmps.getD 150 undef = Value.slice (some ⟨KB, 0, none⟩) n n := hd ⟨4, .data⟩ (by simp) rfl _ _ rfl rfl; simpa using this
                      have h2 : A.tmps[151]?.getD undef = Value.int .i64 (j : Nat) := by have this : A.tmps.getD 151 undef = Value.int .i64 (j : Nat) := hd ⟨5, .data⟩ (by simp) rfl _ _ rfl rfl; simpa using this
                      clear hu hd
                      go_simp
                      exact hK _ _ rfl hC (Below.refl _ _)
                    refine ⟨fun A w3 hC hu hd K hK => ?_, ?_⟩
                    · have h1 : A.tmps[152]?.getD undef = Value.pointer (some ⟨KB, j, none⟩) := by have this : A.tmps.getD 152 undef = Value.pointer (some ⟨KB, j, none⟩) := hd ⟨6, .data⟩ (by simp) rfl _ _ rfl rfl; simpa using this
                      have cw := rowI_at (HK1'.out.below hC HK1'.out.lt) j hjl
                      rw [HX.out] at cw
                      clear hu hd
                      go_simp
                      exact hK _ _ rfl hC (Below.refl _ _)
                    trivial
                  · intro vs w5 hC hbl2 hv
                    have h149 : vs 149 = .int .i64 x := hv 3 _ 149 (by decide) rfl rfl
                    have h153 : vs 153 = .int .i64 x := hv 7 _ 153 (by decide) rfl rfl
                    have HC := hid hC
                    clear hv hC hbl2
                    refine seqW_wpList (ops' := #[]) _ _ _ (by kernel_rfl) ?_
                    simp only [List.take_succ_cons, List.take_zero, List.drop_succ_cons, List.drop_zero, wrote_cons, wrote_nil]
                    go_wp2_with ((with_reducible refine wpList_unguard ?_ ?_); (focus rfl))
                    go_roundw
                    case rel => exact ⟨j + 1, by omega, by go_num, HC.out⟩
                    case measure => simp [intOf]; omega
                · obtain rfl : j = n := by omega
                  have q6 : decide ((j : Int) < j) = false := decide_eq_false (by omega)
                  have HBB := hid hBB
                  have HD2 := hid (HD1.out.below hBB)
                  have hP2 := (HP2.out.below HB1.out).below hBB
                  clear hBB
                  go_wp2_with ((with_reducible refine wpList_unguard ?_ ?_); (focus rfl))
                  refine Calls.mono (dev_Wear i j s _ a2 _ cap2 l2 HD2.out rfl (by omega) hP2) ?_
                  rintro e w5 ⟨rfl, rfl⟩
                  rw [HW0.out]
                  go_wp2_with ((with_reducible refine wpList_unguard ?_ ?_); (focus rfl))
                  refine Calls.mono (dev_Wear i j s _ none 0 0 [] HD2.out rfl (by simp) (cellsZ.nil _ _)) ?_
                  rintro e w5 ⟨rfl, rfl⟩
                  rw [show s.wear j [] = 0 from rfl]
                  go_wp2_with ((with_reducible refine wpList_unguard ?_ ?_); (focus rfl))
                  go_ret
                  exact ⟨rfl, HB1.out.trans (HBB.out.mono HB1.out.size)⟩
end Go.Proofs.Ytiicbbhjepkndaa
