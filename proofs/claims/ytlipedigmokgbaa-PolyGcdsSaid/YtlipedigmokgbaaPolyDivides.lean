/-
  PolyDivides, walked: what is divided is the quotient times the divisor, and the rest, whose degree is less; by 0 nothing is divided.
-/
import Derived.Test.YtlipedigmokgbaaDivP
import Derived.Test.YtlipedigmokgbaaPolyT
namespace Tri
theorem IsDiv.same {a b q r : List Nat} (h : IsDiv a b q r) : trim a = rbytes (radd (rmulP (rof q) (rof b)) (rof r)) := by
  refine trim_of_getD fun i => ?_
  rw [radd_getD, rmulP_getD, rof_getD, rof_length, h.qt, h.back i]
  congr 1
  exact XS_congr _ fun j _ => by unfold cvt; simp only []; rw [rof_getD, rof_getD]
end Tri
namespace Go.Proofs.Ytlipedigmokgbaa
open Go.RowKit Tri

set_option maxHeartbeats 1000000 in
theorem poly_DivMod_zero (f : Nat) (p q : Option Addr) (n c m d : Nat) (b : List Nat) (w : World) (hm : m = b.length) (hmd : m ≤ d) (hq : cellsB w q b) (hlb : b.length ≤ 100000) (h0 : trim b = []) :
    Calls Try.prog 33 #[.pointer (some ⟨f, 0, none⟩), .slice p n c, .slice q m d] w fun e w' => e = .returned (.tuple #[.slice none 0 0, .slice none 0 0, .bool false]) ∧ Below w.heap.size w w' := by
  subst hm
  have HQ := hid hq
  clear hq
  go_enter Try.func33, Try.ntmps33
  go_wp2_with ((with_reducible refine wpList_unguard ?_ ?_); (focus rfl))
  refine Calls.mono (poly_Trim q _ d b w rfl hmd HQ.out (by omega)) ?_; rintro e w1 ⟨vb, rfl, hO, hB⟩
  have HB1 := hid hB
  obtain ⟨pb, cb, rfl, hB2⟩ := hO.cells
  have hl : (trim b).length = 0 := by rw [h0]; rfl
  rw [hl]
  clear hO hB hB2 hl h0
  go_wp2_with ((with_reducible refine wpList_unguard ?_ ?_); (focus rfl))
  refine bodyPost_ret (v := .tuple #[.slice none 0 0, .slice none 0 0, .bool false]) (by simp [results, Try.results33, go_sem]) rfl ⟨rfl, HB1.out⟩

set_option maxHeartbeats 4000000 in
set_option maxRecDepth 100000 in
theorem polyDivides.walk (a0 : Option Addr) (len0 cap0 : Nat) (l0 : List Nat) (a1 : Option Addr) (len1 cap1 : Nat) (l1 : List Nat) (w : World) (w0 : IsBytes w a0 len0 cap0 l0) (w1 : IsBytes w a1 len1 cap1 l1) :
    Calls Try.prog 6 #[.slice a0 len0 cap0, .slice a1 len1 cap1] w fun e w' => e = .returned (.bool true) ∧ Below w.heap.size w w' := by
  obtain ⟨hn, hlc, hcap, hS, hss⟩ := w0
  obtain ⟨hn1, hlc1, hcap1, hS1, hss1⟩ := w1
  subst hn hn1
  have HS := hid hS
  have HB : Hid (bytesL l0) := hid hss
  have HS1 := hid hS1
  have HB1 : Hid (bytesL l1) := hid hss1
  clear hS hss hS1 hss1
  have hll : l0.length ≤ 140737488351232 := by omega
  have hll1 : l1.length ≤ 140737488351232 := by omega
  (go_enter Try.func6, Try.ntmps6; try simp only [List.append])
  go_wp2_with ((with_reducible refine wpList_unguard ?_ ?_); (focus rfl))
  (refine Calls.mono (law05_awake _) ?_; rintro e w2 ⟨rfl, hbA⟩; have HBA := hid hbA; clear hbA)
  go_wp2_with ((with_reducible refine wpList_unguard ?_ ?_); (focus rfl))
  have C1 := hid (cellsR.two 28 (HS.out.below HBA.out) hlc (HS1.out.below HBA.out) hlc1)
  have hB := hid (HBA.out.alloc HBA.out.size (.cells #[.slice a0 l0.length cap0, .slice a1 l1.length cap1] 28))
  clear HBA
  generalize w2.alloc (.cells #[.slice a0 l0.length cap0, .slice a1 l1.length cap1] 28) = w3 at *
  refine Calls.mono (law05_great _ _ _ [l0, l1] w3 rfl C1.out (by simp) (by intro a ha; simp only [List.mem_cons, List.not_mem_nil, or_false] at ha; rcases ha with rfl | rfl <;> assumption)) ?_; rintro e w' ⟨rfl, rfl⟩
  by_cases hg : l0.length ≤ 60 ∧ l1.length ≤ 60
  · obtain ⟨hg0, hg1⟩ := hg
    have hL : longP [l0, l1] = false := by unfold longP; simp; omega
    rw [hL]
    clear hL C1 hll hll1
    go_wp2_with ((with_reducible refine wpList_unguard ?_ ?_); (focus rfl))
    refine Calls.mono (gf_NewK w w3 hB.out) ?_; rintro e w4 ⟨b, rfl, K0⟩; have K := hid K0; clear K0 hB
    go_wp2_with ((with_reducible refine wpList_unguard ?_ ?_); (focus rfl))
    by_cases h0 : trim l1 = []
    · refine Calls.mono (poly_DivMod_zero b a0 a1 _ _ _ _ l1 w4 rfl hlc1 (HS1.out.below K.out.1) (by omega) h0) ?_
      rintro e w5 ⟨rfl, hbel⟩
      have K5 := hid (K.out.next hbel)
      clear hbel K
      go_wp2_with ((with_reducible refine wpList_unguard ?_ ?_); (focus rfl))
      refine Calls.mono (poly_Degree a1 _ _ l1 w5 rfl hlc1 (HS1.out.below K5.out.1) (by omega)) ?_
      rintro e w6 ⟨rfl, hbel⟩
      have K6 := hid (K5.out.next hbel)
      have hd : (((trim l1).length : Nat) : Int) - 1 = -1 := by rw [h0]; rfl
      rw [hd]
      clear hbel K5 hd h0
      go_wp2_with ((with_reducible refine wpList_unguard ?_ ?_); (focus rfl))
      go_ret
      exact ⟨rfl, K6.out.1⟩
    · have HD := hid (pdivmod_is HB.out HB1.out h0)
      have htl1 := trim_length_le l1
      have htl0 := trim_length_le l0
      refine Calls.mono (poly_DivMod b a0 a1 _ _ _ _ l0 l1 w4 K.out.2 rfl hlc (HS.out.below K.out.1) rfl hlc1 (HS1.out.below K.out.1) HB.out HB1.out (by omega) (by omega) h0) ?_
      rintro e w5 ⟨pq, cq, pr, cr, rfl, hlq, hlr, hcq, hcr, hbel⟩
      have K5 := hid (K.out.next hbel)
      have HQ5 := hid hcq
      have HR5 := hid hcr
      clear hbel K hcq hcr
      generalize (pdivmod l0 l1).1 = q at *
      generalize (pdivmod l0 l1).2 = r at *
      have hql := HD.out.ql
      have hdeg := HD.out.deg
      have hpos : 0 < (trim l1).length := List.length_pos_iff.2 h0
      have HSame := hid HD.out.same
      have hrl := rmulP_length (rof q) (rof l1)
      have hal := radd_length (rmulP (rof q) (rof l1)) (rof r)
      have h1 : (rof q).length = q.length := by rw [rof_length, HD.out.qt]
      have h2 : (rof l1).length = (trim l1).length := rof_length l1
      have h3 : (rof r).length = r.length := by rw [rof_length, HD.out.rt]
      have HBq := hid (rof_bytes HD.out.qb)
      have HBb := hid (rof_bytes HB1.out)
      have HBr := hid (rof_bytes HD.out.rb)
      have HBm := hid (rmulP_bytes (rof q) (rof l1))
      have HBa := hid (radd_bytes HBm.out HBr.out)
      have hd1 : decide ((((trim l1).length : Nat) : Int) - 1 < 0) = false := decide_eq_false (by omega)
      have HL : Hid ((rof q).length = q.length ∧ (rof l1).length = (trim l1).length ∧ (rof r).length = r.length ∧ (rmulP (rof q) (rof l1)).length ≤ 200 ∧ (radd (rmulP (rof q) (rof l1)) (rof r)).length ≤ 200) := ⟨h1, h2, h3, by omega, by omega⟩
      clear h1 h2 h3 hrl hal
      generalize hM : rmulP (rof q) (rof l1) = M at *
      have HMe := hid hM
      clear hM
      generalize hA : radd M (rof r) = A at *
      have HAe := hid hA
      clear hA
      go_wp2_with ((with_reducible refine wpList_unguard ?_ ?_); (focus rfl))
      refine Calls.mono (poly_Degree a1 _ _ l1 w5 rfl hlc1 (HS1.out.below K5.out.1) (by omega)) ?_
      rintro e w6 ⟨rfl, hbel⟩
      have K6 := hid (K5.out.next hbel)
      have HQ6 := hid (HQ5.out.below hbel)
      have HR6 := hid (HR5.out.below hbel)
      clear hbel K5 HQ5 HR5
      go_wp2_with ((with_reducible refine wpList_unguard ?_ ?_); (focus rfl))
      refine Calls.mono (ref5_Of pq _ cq q w6 rfl HQ6.out HD.out.qb (by omega)) ?_
      rintro e w7 ⟨p7, c7, rfl, hle7, hc7, hbel⟩
      have K7 := hid (K6.out.next hbel)
      have HQ7 := hid (HQ6.out.below hbel)
      have HR7 := hid (HR6.out.below hbel)
      have HOq := hid hc7
      clear hbel K6 HQ6 HR6 hc7
      go_wp2_with ((with_reducible refine wpList_unguard ?_ ?_); (focus rfl))
      refine Calls.mono (ref5_Of a1 _ _ l1 w7 rfl (HS1.out.below K7.out.1) HB1.out (by omega)) ?_
      rintro e w8 ⟨p8, c8, rfl, hle8, hc8, hbel⟩
      have K8 := hid (K7.out.next hbel)
      have HQ8 := hid (HQ7.out.below hbel)
      have HR8 := hid (HR7.out.below hbel)
      have HOq8 := hid (HOq.out.below hbel)
      have HOb := hid hc8
      clear hbel K7 HQ7 HR7 hc8 HOq
      go_wp2_with ((with_reducible refine wpList_unguard ?_ ?_); (focus rfl))
      refine Calls.mono (ref5_Mul p7 p8 _ c7 _ c8 (rof q) (rof l1) w8 rfl HOq8.out rfl HOb.out HBq.out HBb.out (by have := HL.out; omega) (by have := HL.out; omega)) ?_
      rintro e w9 ⟨p9, c9, rfl, hle9, hc9, hbel⟩
      rw [HMe.out] at hle9 hc9 ⊢
      have K9 := hid (K8.out.next hbel)
      have HQ9 := hid (HQ8.out.below hbel)
      have HR9 := hid (HR8.out.below hbel)
      have HM9 := hid hc9
      clear hbel K8 HQ8 HR8 hc9 HOq8 HOb
      go_wp2_with ((with_reducible refine wpList_unguard ?_ ?_); (focus rfl))
      refine Calls.mono (ref5_Of pr _ cr r w9 rfl HR9.out HD.out.rb (by omega)) ?_
      rintro e w10 ⟨p10, c10, rfl, hle10, hc10, hbel⟩
      have K10 := hid (K9.out.next hbel)
      have HQ10 := hid (HQ9.out.below hbel)
      have HR10 := hid (HR9.out.below hbel)
      have HM10 := hid (HM9.out.below hbel)
      have HOr := hid hc10
      clear hbel K9 HQ9 HR9 hc10 HM9
      go_wp2_with ((with_reducible refine wpList_unguard ?_ ?_); (focus rfl))
      refine Calls.mono (ref5_Add p9 p10 _ c9 _ c10 M (rof r) w10 rfl HM10.out rfl HOr.out HBm.out HBr.out (by have := HL.out; omega) (by have := HL.out; omega)) ?_
      rintro e w11 ⟨p11, c11, rfl, hle11, hc11, hbel⟩
      rw [HAe.out] at hle11 hc11 ⊢
      have K11 := hid (K10.out.next hbel)
      have HQ11 := hid (HQ10.out.below hbel)
      have HR11 := hid (HR10.out.below hbel)
      have HA11 := hid hc11
      clear hbel K10 HQ10 HR10 hc11 HM10 HOr
      go_wp2_with ((with_reducible refine wpList_unguard ?_ ?_); (focus rfl))
      refine Calls.mono (poly_Degree pr _ cr r w11 rfl hlr HR11.out (by omega)) ?_
      rintro e w12 ⟨rfl, hbel⟩
      rw [HD.out.rt]
      have K12 := hid (K11.out.next hbel)
      have HQ12 := hid (HQ11.out.below hbel)
      have HR12 := hid (HR11.out.below hbel)
      have HA12 := hid (HA11.out.below hbel)
      clear hbel K11 HQ11 HR11 HA11
      go_wp2_with ((with_reducible refine wpList_unguard ?_ ?_); (focus rfl))
      refine Calls.mono (poly_Degree a1 _ _ l1 w12 rfl hlc1 (HS1.out.below K12.out.1) (by omega)) ?_
      rintro e w13 ⟨rfl, hbel⟩
      have K13 := hid (K12.out.next hbel)
      have HQ13 := hid (HQ12.out.below hbel)
      have HR13 := hid (HR12.out.below hbel)
      have HA13 := hid (HA12.out.below hbel)
      clear hbel K12 HQ12 HR12 HA12
      have hlt : decide ((r.length : Int) - 1 < ((trim l1).length : Int) - 1) = true := decide_eq_true (by omega)
      go_wp2_with ((with_reducible refine wpList_unguard ?_ ?_); (focus rfl))
      refine Calls.mono (poly_Trim pq _ cq q w13 rfl hlq HQ13.out (by omega)) ?_
      rintro e w14 ⟨v14, rfl, hO, hbel⟩
      rw [HD.out.qt] at hO
      obtain ⟨p14, c14, rfl, _⟩ := hO.cells
      have K14 := hid (K13.out.next hbel)
      have HR14 := hid (HR13.out.below hbel)
      have HA14 := hid (HA13.out.below hbel)
      clear hbel K13 HR13 HA13 hO
      go_wp2_with ((with_reducible refine wpList_unguard ?_ ?_); (focus rfl))
      refine Calls.mono (poly_Trim pr _ cr r w14 rfl hlr HR14.out (by omega)) ?_
      rintro e w15 ⟨v15, rfl, hO, hbel⟩
      rw [HD.out.rt] at hO
      obtain ⟨p15, c15, rfl, _⟩ := hO.cells
      have K15 := hid (K14.out.next hbel)
      have HA15 := hid (HA14.out.below hbel)
      clear hbel K14 HA14 hO
      go_wp2_with ((with_reducible refine wpList_unguard ?_ ?_); (focus rfl))
      refine Calls.mono (poly_Trim a0 _ _ l0 w15 rfl hlc (HS.out.below K15.out.1) (by omega)) ?_
      rintro e w16 ⟨v16, rfl, hO, hbel⟩
      obtain ⟨p16, c16, rfl, hc16⟩ := hO.cells
      have K16 := hid (K15.out.next hbel)
      have HA16 := hid (HA15.out.below hbel)
      have HT16 := hid hc16
      clear hbel K15 HA15 hO hc16
      go_wp2_with ((with_reducible refine wpList_unguard ?_ ?_); (focus rfl))
      refine Calls.mono (ref5_Same p16 p11 _ c16 _ c11 (trim l0) A w16 rfl HT16.out rfl hle11 HA16.out HBa.out (by omega) (by have := HL.out; omega)) ?_
      rintro e w17 ⟨rfl, hbel⟩
      rw [decide_eq_true HSame.out]
      have K17 := hid (K16.out.next hbel)
      clear hbel
      go_wp2_with ((with_reducible refine wpList_unguard ?_ ?_); (focus rfl))
      go_ret
      exact ⟨rfl, K17.out.1⟩
  · have hL : longP [l0, l1] = true := by unfold longP; simp; omega
    rw [hL]
    clear hL C1
    go_wp2_with ((with_reducible refine wpList_unguard ?_ ?_); (focus rfl))
    go_ret
    exact ⟨rfl, hB.out⟩
end Go.Proofs.Ytlipedigmokgbaa
