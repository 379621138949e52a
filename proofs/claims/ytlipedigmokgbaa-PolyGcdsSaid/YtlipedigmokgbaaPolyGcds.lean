/-
  PolyGcds, walked: the greatest common divisor divides all, has 1 for its highest factor, and is divided by each common factor that they were given.
-/
import Derived.Test.YtlipedigmokgbaaGcd
import Derived.Test.YtlipedigmokgbaaRowO
import Derived.Test.YtlipedigmokgbaaPolyDivides
import Derived.Test.YtlipedigmokgbaaPolySums
namespace Tri
/-- All products with the common factor. -/
def prods (l : List (List Nat)) (c : List Nat) : List (List Nat) := l.map fun a => pmul [a, c]
theorem pmul2 (a c : List Nat) : pmul [a, c] = ptwo (ptwo [1] a) c := rfl
theorem one_b : bytesL [1] := fun y hy => by simp at hy; omega
theorem prods_bytes {l : List (List Nat)} {c : List Nat} (hl : ∀ a ∈ l, bytesL a) (hc : bytesL c) : ∀ p ∈ prods l c, bytesL p := by
  intro p hp
  obtain ⟨a, ha, rfl⟩ := List.mem_map.1 hp
  rw [pmul2]; exact ptwo_bytes (ptwo_bytes one_b (hl a ha)) hc
theorem prods_len {l : List (List Nat)} {c : List Nat} (hl : ∀ a ∈ l, a.length ≤ 60) (hc : c.length ≤ 60) : ∀ p ∈ prods l c, p.length ≤ 200 := by
  intro p hp
  obtain ⟨a, ha, rfl⟩ := List.mem_map.1 hp
  rw [pmul2]
  have h1 := ptwo_length_le (ptwo [1] a) c
  have h2 := ptwo_length_le [1] a
  have h3 := hl a ha
  simp only [List.length_singleton] at h2
  omega
theorem prods_trim {l : List (List Nat)} {c : List Nat} : ∀ p ∈ prods l c, trim p = p := by
  intro p hp
  obtain ⟨a, ha, rfl⟩ := List.mem_map.1 hp
  rw [pmul2]; exact ptwo_trim _ _
theorem prods_dvd {l : List (List Nat)} {c : List Nat} (hl : ∀ a ∈ l, bytesL a) : ∀ p ∈ prods l c, dvd c p := by
  intro p hp
  obtain ⟨a, ha, rfl⟩ := List.mem_map.1 hp
  rw [pmul2]; exact dvd_ptwo (ptwo_bytes one_b (hl a ha))
theorem prods_take (l : List (List Nat)) (c : List Nat) (k : Nat) (h : k < l.length) : prods (l.take (k + 1)) c = prods (l.take k) c ++ [pmul [l.getD k [], c]] := by
  unfold prods; rw [take_snocR l k h, List.map_append]; rfl
/-- Are all 0? -/
def allZ (l : List (List Nat)) : Bool := l.all fun p => decide (p.length = 0)
theorem allZ_snoc (l : List (List Nat)) (p : List Nat) : allZ (l ++ [p]) = (allZ l && decide (p.length = 0)) := by unfold allZ; simp
/-- The whole of what is asked of the greatest common divisor. -/
theorem gcds_zero {l : List (List Nat)} (h : allZ l = true) : gcds l = [] := by
  have key : ∀ (l : List (List Nat)), (∀ p ∈ l, p = []) → l.foldl (fun out b => gcd2 out (trim b)) [] = [] := by
    intro l
    induction l with
    | nil => intro _; rfl
    | cons a l ih =>
      intro h
      rw [List.foldl_cons, h a (by simp)]
      exact ih fun p hp => h p (by simp [hp])
  refine key l fun p hp => ?_
  have := List.all_eq_true.1 h p hp
  exact List.eq_nil_of_length_eq_zero (by simpa using this)
theorem gcds_all {l : List (List Nat)} (hb : ∀ a ∈ l, bytesL a) (hm : ∀ a ∈ l, a.length ≤ 200) (ht : ∀ a ∈ l, trim a = a) (h : allZ l = false) :
    bytesL (pmonic (gcds l)) ∧ trim (pmonic (gcds l)) = pmonic (gcds l) ∧ pmonic (gcds l) ≠ [] ∧ (pmonic (gcds l)).getD 0 0 = 1 ∧ (pmonic (gcds l)).length ≤ 200 ∧
    (∀ p ∈ l, dvd (pmonic (gcds l)) p) ∧ (∀ d, (∀ p ∈ l, dvd d p) → dvd d (pmonic (gcds l))) := by
  obtain ⟨h1, h2, h3, h4, h5⟩ := gcds_take l hb 200 hm l.length (Nat.le_refl _)
  rw [List.take_length] at h1 h2 h3 h4 h5
  have hne : gcds l ≠ [] := by
    intro e
    obtain ⟨p, hp, hp0⟩ : ∃ p ∈ l, p ≠ [] := by
      unfold allZ at h
      rw [List.all_eq_false] at h
      obtain ⟨p, hp, h6⟩ := h
      exact ⟨p, hp, fun e => h6 (by rw [e]; rfl)⟩
    have h6 := h4 p hp
    rw [e] at h6
    have h7 := dvd_zero (hb p hp) h6
    rw [ht p hp] at h7
    exact hp0 h7
  obtain ⟨m1, m2, m3, m4, m5, m6, m7⟩ := pmonic_is h1 h2 hne
  exact ⟨m1, m2, m3, m4, by omega, fun p hp => m6 p (h4 p hp), fun d hd => m7 d (h5 d hd)⟩
theorem common_ne {l : List (List Nat)} {c : List Nat} (h : allZ (prods l c) = false) : trim c ≠ [] := by
  intro e
  unfold allZ at h
  rw [List.all_eq_false] at h
  obtain ⟨p, hp, h6⟩ := h
  obtain ⟨a, ha, rfl⟩ := List.mem_map.1 hp
  apply h6
  rw [pmul2]
  unfold ptwo
  rw [if_pos (.inr e)]
  rfl
end Tri
namespace Go.Proofs.Ytlipedigmokgbaa
open Go.RowKit Tri

theorem cellsR.onlyR {w : World} {p : Option Addr} {c : Nat} {a : List Nat} (t : TypeId) (hp : cellsB w p a) (hle : a.length ≤ c) : cellsR (w.alloc (.cells #[.slice p a.length c] t)) (some ⟨w.heap.size, 0, none⟩) [a] := by
  intro i hi
  match i, hi with
  | 0, _ => exact ⟨_, _, p, c, rfl, by rw [World.cell?_alloc_new]; rfl, hle, hp.alloc _⟩
set_option maxHeartbeats 4000000 in
set_option maxRecDepth 100000 in
theorem polyGcds.walk (a0 : Option Addr) (len0 cap0 : Nat) (l0 : List (List Nat)) (a1 : Option Addr) (len1 cap1 : Nat) (l1 : List Nat) (w : World) (w0 : IsRows w a0 len0 cap0 l0) (w1 : IsBytes w a1 len1 cap1 l1) :
    Calls Try.prog 8 #[.slice a0 len0 cap0, .slice a1 len1 cap1] w fun e w' => e = .returned (.bool true) ∧ Below w.heap.size w w' := by
  obtain ⟨hn, hlc, hcap, hS, hss⟩ := w0
  obtain ⟨hn1, hlc1, hcap1, hS1, hss1⟩ := w1
  subst hn hn1
  have HS := hid hS
  have HB : Hid (∀ a ∈ l0, bytesL a) := fun a ha => (hss a ha).1
  have HZ : Hid (∀ a ∈ l0, a.length ≤ 140737488351232) := fun a ha => (hss a ha).2
  have HS1 := hid hS1
  have HB1 : Hid (bytesL l1) := hid hss1
  clear hS hss hS1 hss1
  have hll1 : l1.length ≤ 140737488351232 := by omega
  (go_enter Try.func8, Try.ntmps8; try simp only [List.append])
  go_wp2_with ((with_reducible refine wpList_unguard ?_ ?_); (focus rfl))
  (refine Calls.mono (law05_awake _) ?_; rintro e w2 ⟨rfl, hbA⟩; have HBA := hid hbA; clear hbA)
  go_wp2_with ((with_reducible refine wpList_unguard ?_ ?_); (focus rfl))
  refine Calls.mono (law05_great _ _ _ l0 w2 rfl (HS.out.below HBA.out) (by omega) HZ.out) ?_; rintro e w' ⟨rfl, rfl⟩
  cases hL : longP l0 with
  | true =>
    go_wp2_with ((with_reducible refine wpList_unguard ?_ ?_); (focus rfl))
    go_ret
    exact ⟨rfl, HBA.out⟩
  | false =>
    obtain ⟨hz60, hl6⟩ := longP_false hL
    have HZ60 := hid hz60
    clear hL hz60 HZ
    go_wp2_with ((with_reducible refine wpList_unguard ?_ ?_); (focus rfl))
    have C1 := hid (cellsR.onlyR 28 (HS1.out.below HBA.out) hlc1)
    have hB := hid (HBA.out.alloc HBA.out.size (.cells #[.slice a1 l1.length cap1] 28))
    clear HBA
    generalize w2.alloc (.cells #[.slice a1 l1.length cap1] 28) = w3 at *
    refine Calls.mono (law05_great _ _ _ [l1] w3 rfl C1.out (by simp) (by intro a ha; simp only [List.mem_singleton] at ha; subst ha; exact hll1)) ?_; rintro e w' ⟨rfl, rfl⟩
    by_cases hg : l1.length ≤ 60
    · have hL : longP [l1] = false := by unfold longP; simp; omega
      rw [hL]
      clear hL C1 hll1
      go_wp2_with ((with_reducible refine wpList_unguard ?_ ?_); (focus rfl))
      refine Calls.mono (gf_NewK w w3 hB.out) ?_; rintro e w4 ⟨b, rfl, K0⟩; have KW := hid K0.1; have KF := hid K0.2; have K : Hid (Keeps w4 b w4) := ⟨Below.refl _ _, K0.2⟩; have HS4 := hid (HS.out.below K0.1); have HS14 := hid (HS1.out.below K0.1); clear K0 hB HS HS1
      have hmem : Hid (∀ k, k < l0.length → l0.getD k [] ∈ l0) := fun k hk => by rw [List.getD_eq_getElem?_getD, List.getElem?_eq_getElem hk]; exact List.getElem_mem _
      have HPT : Hid (∀ k, k < l0.length → prods (l0.take (k + 1)) l1 = prods (l0.take k) l1 ++ [pmul [l0.getD k [], l1]]) := fun k hk => prods_take l0 l1 k hk
      have HPB := hid (prods_bytes HB.out HB1.out)
      have HPL := hid (prods_len HZ60.out hg)
      have HPTr := hid (prods_trim (l := l0) (c := l1))
      have HPD := hid (prods_dvd (c := l1) HB.out)
      have HPl : Hid (∀ k, k ≤ l0.length → (prods (l0.take k) l1).length = k) := fun k hk => by unfold prods; rw [List.length_map, List.length_take]; omega
      have HP0 : Hid (prods (l0.take 0) l1 = [] ∧ allZ (prods (l0.take 0) l1) = true) := ⟨rfl, rfl⟩
      obtain ⟨i0, hi, hz0, hz1, hz2⟩ := info_parts Try.infoR'
      go_wp2_with ((with_reducible refine wpList_unguard ?_ ?_); (focus rfl))
      go_loopw [6, 7, 32] (fun s z i wr => ∃ k : Nat, k ≤ l0.length ∧ i = .int .i64 k ∧ rowsO wr w4.heap.size s (prods (l0.take k) l1) ∧ z = .bool (allZ (prods (l0.take k) l1)) ∧ Keeps w4 b wr) (fun _ _ i _ => l0.length - (intOf i).toNat)
      case atStart => exact ⟨0, Nat.zero_le _, rfl, by rw [HP0.out.1]; exact rowsO.nil _ _, by rw [HP0.out.2], K.out⟩
      case round =>
        obtain ⟨k, hk, rfl, hR, rfl, hK⟩ := hrel
        have HR := hid hR
        have K6 := hid hK
        clear hR hK K
        by_cases hlt : k < l0.length
        · obtain ⟨a, o, q', c', rfl, hc0, hle', hq'⟩ := HS4.out k hlt
          have hc : wr.cell? ⟨a, o + k, none⟩ = some (.slice q' (l0.getD k []).length c') := by
            rw [K6.out.1.cell (p := ⟨a, o + k, none⟩) (block_lt_of_cell hc0)]; exact hc0
          have HY := hid hq'
          have hy60 := HZ60.out _ (hmem.out k hlt)
          have HYB := hid (HB.out _ (hmem.out k hlt))
          have HS2 := hid (HPT.out k hlt)
          have hpl := HPl.out k (by omega)
          clear hc0 hq'
          generalize hs2 : prods (l0.take (k + 1)) l1 = P2 at *
          have HP2 := hid hs2
          clear hs2
          generalize l0.getD k [] = y at *
          generalize prods (l0.take k) l1 = PP at *
          have HPl' := hid hpl
          have hpl6 : PP.length ≤ 1000000 := by omega
          clear hpl
          go_wp2_with ((with_reducible refine wpList_unguard ?_ ?_); (focus rfl))
          have C2 := cellsR.two 28 (HY.out.below K6.out.1) hle' (HS14.out.below K6.out.1) hlc1
          have hb1 : Below wr.heap.size wr (wr.alloc (.cells #[.slice q' y.length c', .slice a1 l1.length cap1] 28)) := (Below.refl _ _).alloc (Nat.le_refl _) _
          have K7 := hid (K6.out.next hb1)
          have HR7 := hid (HR.out.below hb1)
          clear K6 HR hb1
          have hbb : ∀ a ∈ [y, l1], bytesL a := by
            intro a ha; simp only [List.mem_cons, List.not_mem_nil, or_false] at ha
            rcases ha with rfl | rfl
            · exact HYB.out
            · exact HB1.out
          have hln : lens [y, l1] = y.length + l1.length := by simp [lens]
          have hml := pmul_len hbb
          refine Calls.mono (poly_MulO b _ _ _ [y, l1] _ K7.out.2 rfl C2 hbb (by simp) (by omega)) ?_
          rintro e w8 ⟨p8, c8, rfl, hle8, hc8, hbel, hpo⟩
          have K8 := hid (K7.out.next hbel)
          have HR8 := hid (HR7.out.below hbel)
          have HC8 := hid hc8
          have HPO := hid hpo
          clear hbel hc8 hpo K7 HR7 C2 hbb hln hml
          generalize pmul [y, l1] = M at *
          go_wp2_with (at_builtin; refine wpList_pushR rfl _ _ 22 rfl w4.heap.size i0 Try.underlying22 hi hz0 hz1 hz2 _ PP M p8 c8 HR8.out HC8.out hle8 HPO.out rfl _ rfl rfl hpl6 K8.out.1.size ?_)
          intro v' w' hown' hbel
          have hR' : Hid (rowsO w' w4.heap.size v' P2) := by show rowsO _ _ _ _; rw [HS2.out]; exact hown'
          have hB' := K8.out.1.trans hbel
          have K9 : Hid (Keeps w4 b w') := ⟨hB', KF.out.below hB' KF.out.lt⟩
          have HZ2 : Hid (allZ P2 = (allZ PP && decide (M.length = 0))) := by show _ = _; rw [HS2.out, allZ_snoc]
          clear hown' hbel hB' HR8 HC8 K8
          by_cases hM0 : M.length = 0
          · have hZ : Hid (allZ P2 = allZ PP) := by show _ = _; rw [HZ2.out, decide_eq_true hM0, Bool.and_true]
            rw [hM0]
            clear HZ2 hM0
            generalize allZ PP = z at *
            cases z with
            | true =>
              go_wp2_with ((with_reducible refine wpList_unguard ?_ ?_); (focus rfl))
              go_roundw
              case rel => exact ⟨k + 1, by omega, by go_num, by rw [HP2.out]; exact hR'.out, by rw [HP2.out, hZ.out], K9.out⟩
              case measure => simp [intOf]; omega
            | false =>
              go_wp2_with ((with_reducible refine wpList_unguard ?_ ?_); (focus rfl))
              go_roundw
              case rel => exact ⟨k + 1, by omega, by go_num, by rw [HP2.out]; exact hR'.out, by rw [HP2.out, hZ.out], K9.out⟩
              case measure => simp [intOf]; omega
          · have hZ : Hid (allZ P2 = false) := by show _ = _; rw [HZ2.out, decide_eq_false hM0, Bool.and_false]
            have hMz : ((M.length : Int) == 0) = false := by rw [beq_eq_false_iff_ne]; omega
            clear HZ2
            generalize allZ PP = z at *
            cases z with
            | true =>
              go_wp2_with ((with_reducible refine wpList_unguard ?_ ?_); (focus rfl))
              go_roundw
              case rel => exact ⟨k + 1, by omega, by go_num, by rw [HP2.out]; exact hR'.out, by rw [HP2.out, hZ.out], K9.out⟩
              case measure => simp [intOf]; omega
            | false =>
              go_wp2_with ((with_reducible refine wpList_unguard ?_ ?_); (focus rfl))
              go_roundw
              case rel => exact ⟨k + 1, by omega, by go_num, by rw [HP2.out]; exact hR'.out, by rw [HP2.out, hZ.out], K9.out⟩
              case measure => simp [intOf]; omega
        · have hTk : Hid (l0.take k = l0) := by show _ = _; exact List.take_of_length_le (by omega)
          rw [hTk.out] at HR ⊢
          have HCN : Hid (allZ (prods l0 l1) = false → trim l1 ≠ []) := common_ne
          have hPl : (prods l0 l1).length ≤ 6 := by unfold prods; rw [List.length_map]; exact hl6
          clear HPT HPl HP0 hTk hmem
          generalize prods l0 l1 = L at *
          obtain ⟨pL, cL, rfl, hleL, hcL⟩ := HR.out.cells
          have HL := hid hcL
          have HGZ : Hid (allZ L = true → pmonic (gcds L) = []) := fun h => by rw [gcds_zero h]; rfl
          have HGA : Hid (allZ L = false → _) := gcds_all HPB.out HPL.out HPTr.out
          clear hcL HR
          go_wp2_with ((with_reducible refine wpList_unguard ?_ ?_); (focus rfl))
          refine Calls.mono (poly_Gcd b pL _ cL L wr K6.out.2 rfl HL.out HPB.out (by omega) (fun a ha => by have := HPL.out a ha; omega)) ?_
          rintro e w7 ⟨pg, cg, rfl, hleg, hcg, hbel⟩
          have K7 := hid (K6.out.next hbel)
          have HL7 := hid (HL.out.below hbel)
          have HG7 := hid hcg
          clear hbel hcg K6 HL
          generalize pmonic (gcds L) = G at *
          cases hz : allZ L with
          | true =>
            have hG := HGZ.out hz
            subst hG
            go_wp2_with ((with_reducible refine wpList_unguard ?_ ?_); (focus rfl))
            go_ret
            exact ⟨rfl, KW.out.trans (K7.out.1.mono KW.out.size)⟩
          | false =>
            obtain ⟨g1, g2, g3, g4, g5, g6, g7⟩ := HGA.out hz
            have hlc' := HCN.out hz
            have HG1 := hid g1
            have HG2 := hid g2
            have HG6 := hid g6
            have HG7' := hid (g7 l1 HPD.out)
            have HTC := hid hlc'
            have hGl : 0 < G.length := List.length_pos_iff.2 g3
            have HTG : Hid (trim G ≠ []) := by show _ ≠ _; rw [g2]; exact g3
            obtain ⟨ag, og, rfl, hcg0⟩ := HG7.out 0 hGl
            rw [g4, Nat.add_zero] at hcg0
            have hGz : ((G.length : Int) == 0) = false := by rw [beq_eq_false_iff_ne]; omega
            have HLmem : Hid (∀ k, k < L.length → L.getD k [] ∈ L) := fun k hk => by rw [List.getD_eq_getElem?_getD, List.getElem?_eq_getElem hk]; exact List.getElem_mem _
            clear g1 g2 g3 g4 g6 g7 hz hlc' HGZ HGA HCN HPD HPTr
            go_wp2_with ((with_reducible refine wpList_unguard ?_ ?_); (focus rfl))
            clear hcg0
            go_loopw [70] (fun i wr => ∃ k : Nat, k ≤ L.length ∧ i = .int .i64 k ∧ Below w7.heap.size w7 wr) (fun i _ => L.length - (intOf i).toNat)
            case atStart => exact ⟨0, Nat.zero_le _, rfl, Below.refl _ _⟩
            case round =>
              obtain ⟨k, hk, rfl, hbw⟩ := hrel
              have K8 := hid (K7.out.next hbw)
              have HL8 := hid (HL7.out.below hbw)
              have HG8 := hid (HG7.out.below hbw)
              have HBW := hid hbw
              clear hbw
              by_cases hlt : k < L.length
              · obtain ⟨a, o, q', c', rfl, hc, hle', hq'⟩ := HL8.out k hlt
                have HY := hid hq'
                have HYB := hid (HPB.out _ (HLmem.out k hlt))
                have hyl := HPL.out _ (HLmem.out k hlt)
                have HYD := hid (HG6.out _ (HLmem.out k hlt))
                clear hq'
                generalize L.getD k [] = y at *
                have HD := hid (pdivmod_is HYB.out HG1.out HTG.out)
                have hr0 := HD.out.rest_nil HYB.out HYD.out
                go_wp2_with ((with_reducible refine wpList_unguard ?_ ?_); (focus rfl))
                refine Calls.mono (poly_DivMod b q' _ _ c' _ cg y G _ K8.out.2 rfl hle' HY.out rfl hleg HG8.out HYB.out HG1.out (by omega) (by omega) HTG.out) ?_
                rintro e w9 ⟨pq, cq, pr, cr, rfl, hlq, hlr, hcq, hcr, hbel⟩
                rw [hr0]
                have HBW2 := hid (HBW.out.trans (hbel.mono HBW.out.size))
                clear hbel hcq hcr hr0 HD
                generalize (pdivmod y G).1 = q1 at *
                go_wp2_with ((with_reducible refine wpList_unguard ?_ ?_); (focus rfl))
                go_roundw
                case rel => exact ⟨k + 1, by omega, by go_num, HBW2.out⟩
                case measure => simp [intOf]; omega
              · have HD := hid (pdivmod_is HG1.out HB1.out HTC.out)
                have hr0 := HD.out.rest_nil HG1.out HG7'.out
                go_wp2_with ((with_reducible refine wpList_unguard ?_ ?_); (focus rfl))
                refine Calls.mono (poly_DivMod b _ a1 _ cg _ _ G l1 _ K8.out.2 rfl hleg HG8.out rfl hlc1 (HS14.out.below K8.out.1) HG1.out HB1.out (by omega) (by omega) HTC.out) ?_
                rintro e w9 ⟨pq, cq, pr, cr, rfl, hlq, hlr, hcq, hcr, hbel⟩
                rw [hr0]
                have K9 := hid (K8.out.next hbel)
                clear hbel hcq hcr hr0 HD
                generalize (pdivmod G l1).1 = q1 at *
                go_wp2_with ((with_reducible refine wpList_unguard ?_ ?_); (focus rfl))
                go_ret
                exact ⟨rfl, KW.out.trans (K9.out.1.mono KW.out.size)⟩
    · have hL : longP [l1] = true := by unfold longP; simp; omega
      rw [hL]
      clear hL C1
      go_wp2_with ((with_reducible refine wpList_unguard ?_ ?_); (focus rfl))
      go_ret
      exact ⟨rfl, hB.out⟩
end Go.Proofs.Ytlipedigmokgbaa
