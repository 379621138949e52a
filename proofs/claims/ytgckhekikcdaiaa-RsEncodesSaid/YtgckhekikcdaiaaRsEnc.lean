/-
  RsEncodes, walked: codes, parity, and the document's own codewords.
-/
import Derived.Test.YtgckhekikcdaiaaRf6
import Derived.Test.YtgckhekikcdaiaaPak5
import Derived.Test.YtgckhekikcdaiaaPak12
import Derived.Test.YtgckhekikcdaiaaPak7
namespace Tri
open Go.Proofs.Ytgckhekikcdaiaa
/-- Right words that are alike but for no more places than there is parity are alike. -/
theorem right_agree {n p : Nat} (hn : n ≤ 255) {a b : List Nat} (ha : bytesL a) (hb : bytesL b) (hla : a.length = n) (hlb : b.length = n) (h1 : rightB a p = true) (h2 : rightB b p = true) {pl : List Nat} (hpl : pl.Nodup) (hm : ∀ i ∈ pl, i < n) (hp : pl.length ≤ p)
    (h : ∀ i, i < n → i ∉ pl → a.getD i 0 = b.getD i 0) : a = b := by
  have hz := sums_zero hn pl hpl hm (fun i => a.getD i 0 ^^^ b.getD i 0) (fun i => xor_lt (getD_lt ha i) (getD_lt hb i)) 0 (fun m hm' => by
    have e1 := synd_zero h1 m (by omega)
    have e2 := synd_zero h2 m (by omega)
    rw [peval_places ha, hla] at e1
    rw [peval_places hb, hlb] at e2
    have hp : List.Perm ((List.range n).filter fun k => decide (k ∈ pl)) pl := (List.perm_ext_iff_of_nodup (List.Pairwise.filter _ List.nodup_range) hpl).2 fun k => by
      rw [List.mem_filter, List.mem_range, decide_eq_true_eq]
      exact ⟨fun h => h.2, fun h => ⟨hm k h, h⟩⟩
    rw [← LS_perm hp, LS_filter _ _ _ (fun k hk hkn => by
      have := h k (List.mem_range.1 hk) (of_decide_eq_false hkn)
      rw [this, Nat.xor_self, zero_gmul])]
    have e3 : LS (fun i => gmul (a.getD i 0 ^^^ b.getD i 0) (gexp (ex n i * (0 + m)))) (List.range n) = LS (fun i => gmul (a.getD i 0) (gexp (ex n i * m))) (List.range n) ^^^ LS (fun i => gmul (b.getD i 0) (gexp (ex n i * m))) (List.range n) := by
      rw [← LS_add]
      refine LS_congr _ fun i _ => ?_
      rw [Nat.zero_add, xor_gmul _ _ _ (gexp_lt _) (getD_lt ha i) (getD_lt hb i)]
    rw [e3, e1, e2]; rfl)
  apply list_ext (by rw [hla, hlb])
  intro i
  by_cases hi : i < n
  · by_cases hin : i ∈ pl
    · have := hz i hin
      by_cases e : a.getD i 0 = b.getD i 0
      · exact e
      · exact absurd this (xor_ne e)
    · exact h i hi hin
  · rw [getD_ge _ _ (by omega), getD_ge _ _ (by omega)]
def upFrom (k m : Nat) : List Nat := (List.range m).map fun i => k + i
theorem upFrom_mem (k m i : Nat) : i ∈ upFrom k m ↔ k ≤ i ∧ i < k + m := by
  unfold upFrom
  rw [List.mem_map]
  constructor
  · rintro ⟨j, hj, rfl⟩
    have := List.mem_range.1 hj
    omega
  · rintro ⟨h1, h2⟩
    exact ⟨i - k, List.mem_range.2 (by omega), by omega⟩
theorem upFrom_nodup (k m : Nat) : (upFrom k m).Nodup := by
  unfold upFrom List.Nodup
  rw [List.pairwise_map]
  exact List.nodup_range.imp fun h e => h (by omega)
theorem upFrom_len (k m : Nat) : (upFrom k m).length = m := by unfold upFrom; simp
theorem upFrom_succ (k m : Nat) : upFrom k (m + 1) = upFrom k m ++ [k + m] := by unfold upFrom; rw [List.range_succ, List.map_append]; rfl
theorem app_getD_left (a b : List Nat) (i : Nat) (h : i < a.length) : (a ++ b).getD i 0 = a.getD i 0 := by
  rw [List.getD_eq_getElem?_getD, List.getElem?_append_left h, List.getD_eq_getElem?_getD]
end Tri
namespace Go.Proofs.Ytgckhekikcdaiaa
open Go.RowKit Tri

set_option maxHeartbeats 4000000 in
set_option maxRecDepth 100000 in
theorem ref6_Encode (pd : Option Addr) (cd : Nat) (data : List Nat) (n k : Nat) (w : World) (hp : cellsB w pd data) (hb : bytesL data) (hl : data.length = k) (h1 : 1 ≤ k) (hk : k < n) (hn : n ≤ 255) :
    Calls Try.prog 18 #[.slice pd data.length cd, .int .i64 n, .int .i64 k] w fun e w' => ∃ p c, e = .returned (.slice p (enc data (n - k)).length c) ∧ (enc data (n - k)).length ≤ c ∧ cellsB w' p (enc data (n - k)) ∧ Below w.heap.size w w' := by
  have HP := hid hp
  have HB := hid hb
  have HL := hid hl
  have hne : data ≠ [] := fun h => by rw [h] at hl; simp at hl; omega
  have HNE := hid hne
  have hdl : data.length ≤ 255 := by omega
  obtain ⟨P, hP⟩ : ∃ P, n - k = P := ⟨_, rfl⟩
  rw [hP]
  have hnk : (n : Int) - (k : Int) = (P : Int) := by omega
  have hkP : k + P = n := by omega
  have HKP := hid hkP
  have hPl : P ≤ 255 := by omega
  have hwr : IntKind.i64.wrap ((n : Int) - (k : Int)) = (P : Int) := by rw [IntKind.wrap_i64]; omega
  have hwr2 : IntKind.i64.wrap (P : Int) = (P : Int) := by rw [IntKind.wrap_i64]; omega
  have HPe := hid hP
  clear hp hb hl hne hkP hP
  obtain ⟨inf, hi, hz0, hz1, hz2⟩ := info_parts Try.infoI
  obtain ⟨ib, hb0, hb1, hb2, hb3⟩ := info_parts Try.infoB
  have HR0 : Hid (rowK (w.alloc (.cells #[] 3)) w.heap.size 3 .i64 (.slice (some ⟨w.heap.size, 0, none⟩) 0 0) (upFrom k 0)) := World.ownsRow_lit w #[] 0 (Nat.le_refl _) (by unfold maxLen; omega) rfl
  have HA0 := hid (show Below w.heap.size w (w.alloc (.cells #[] 3)) from (Below.refl _ _).alloc (Nat.le_refl _) _)
  (go_enter Try.func18, Try.ntmps18; try simp only [List.append])
  go_wp2_with ((with_reducible refine wpList_unguard ?_ ?_); (focus rfl))
  go_loopw [8, 7] (fun iv v wr => ∃ j : Nat, j ≤ P ∧ iv = .int .i64 ((k + j : Nat) : Int) ∧ rowK wr w.heap.size 3 .i64 v (upFrom k j) ∧ Below w.heap.size w wr) (fun iv _ _ => n - (intOf iv).toNat)
  case atStart => exact ⟨0, Nat.zero_le _, by simp, HR0.out, HA0.out⟩
  case round =>
    clear HR0 HA0
    obtain ⟨j, hj, rfl, hrow, hbel⟩ := hrel
    have HRow := hid hrow
    have HBel := hid hbel
    clear hrow hbel
    obtain ⟨i, hij⟩ : ∃ i, k + j = i := ⟨_, rfl⟩
    rw [hij]
    by_cases hlt : j < P
    · have hin : i < n := by have := HKP.out; omega
      have HSu : Hid (upFrom k (j + 1) = upFrom k j ++ [i]) := by show _ = _; rw [upFrom_succ, hij]
      have hul := upFrom_len k j
      go_wp2_with (at_builtin; refine wpList_push rfl _ _ 41 rfl w.heap.size 3 inf .i64 8 Try.underlying41 hi hz0 hz1 hz2 (by decide) _ (upFrom k j) i HRow.out rfl _ rfl rfl (by omega) HBel.out.size ?_)
      intro v' w1 hq1 hb1'
      have HR1 : Hid (rowK w1 w.heap.size 3 .i64 v' (upFrom k (j + 1))) := by show rowK _ _ _ _ _ _; rw [HSu.out]; exact hq1
      have HB1 := hid (HBel.out.trans hb1')
      clear hq1 hb1' hul
      go_wp2_with ((with_reducible refine wpList_unguard ?_ ?_); (focus rfl))
      go_roundw
      case rel => exact ⟨j + 1, by omega, by rw [show k + (j + 1) = i + 1 from by omega]; go_num, HR1.out, HB1.out⟩
      case measure => simp [intOf]; omega
    · have hin : ¬ i < n := by have := HKP.out; omega
      have hjP : j = P := by omega
      rw [hjP] at HRow
      clear hij hlt hjP
      obtain ⟨pp, cp, rfl, hcp, hcl⟩ := ownsI.cells (show ownsI _ _ _ _ from HRow.out)
      have HPL := hid hcl
      have hA : Below wr.heap.size wr (wr.alloc (.cells #[] 5)) := (Below.refl _ _).alloc (Nat.le_refl _) _
      have hown : ownsB (wr.alloc (.cells #[] 5)) wr.heap.size (.slice (some ⟨wr.heap.size, 0, none⟩) 0 0) [] := World.ownsRow_lit wr #[] 0 (Nat.le_refl _) (by unfold maxLen; omega) rfl
      have hqa := (HP.out.below HBel.out).below hA
      clear hcl HRow
      go_wp2_with (at_builtin; refine wpList_pushB rfl _ _ rfl wr.heap.size _ [] data pd cd hown hqa HNE.out rfl _ rfl rfl (by simp) (by omega) hA.size ?_)
      intro v' w2 hq' hb'
      obtain ⟨g, cap, rfl, hg, hcap, hbuf⟩ := hq'.buf2 (by simpa using HNE.out)
      have hb02 := hA.trans hb'
      have hq' : ownsB w2 wr.heap.size (.slice (some ⟨g, 0, none⟩) data.length cap) data := hq'
      go_wp2_with (at_builtin; refine wpList_append_zeros rfl _ _ 22 3 rfl wr.heap.size 5 ib (.int .u8 0) .i64 Try.underlying22 Try.underlying3 hb0 hb1 hb2 hb3 rfl rfl (.slice (some ⟨g, 0, none⟩) data.length cap) data.length _ rfl hq' (fun h => by cases h) P rfl (by omega) hb02.size ?_)
      intro v3 w3 hq3 hg3
      have hO3 : ownsB w3 wr.heap.size v3 (data ++ List.replicate P 0) := by
        unfold ownsB
        rw [List.length_append, List.length_replicate, List.map_append, List.map_replicate]
        exact hq3
      obtain ⟨D, hD⟩ : ∃ D, data ++ List.replicate P 0 = D := ⟨_, rfl⟩
      have hzl : D.length = n := by rw [← hD, List.length_append, List.length_replicate, HL.out]; exact HKP.out
      have hzb : bytesL D := by
        rw [← hD]
        intro x hx
        rcases List.mem_append.1 hx with h | h
        · exact HB.out x h
        · rw [List.mem_replicate] at h; omega
      rw [hD] at hO3
      have HD := hid hD
      clear hD
      obtain ⟨p3, c3, rfl, hc3⟩ := hO3.cells
      have hB3 : Below wr.heap.size wr w3 := hb02.grown hg3 hb02.size (fun k hk => by simp only [Value.ownBlock, Option.some.injEq] at hk; rw [← hk]; exact hg)
      have HB3 := hid (HBel.out.trans (hB3.mono HBel.out.size))
      have HC3 := hid hc3
      have HPL3 := hid (HPL.out.below hB3)
      clear hq' hq3 hg3 hO3 hB3 hb02 hb' hA hown hqa hg hcap hbuf hc3 HPL HBel
      have HZL := hid hzl
      have HZB := hid hzb
      clear hzl hzb
      have hul := upFrom_len k P
      have hSo := ref6_Solve p3 c3 D n k pp cp (upFrom k P) w3 HC3.out HZB.out HZL.out hk hn HPL3.out (upFrom_nodup k P) (fun i hi => by have := (upFrom_mem k P i).1 hi; have := HKP.out; omega) (by rw [hul, HPe.out]; exact Nat.le_refl _)
      have HSo := hid hSo
      have HUl := hid hul
      clear hSo hul
      go_wp2_with ((with_reducible refine wpList_unguard ?_ ?_); (focus rfl))
      with_reducible refine Calls.mono HSo.out ?_; rintro e w4 ⟨hb4, h4⟩
      have hencl : (enc data P).length = n := by rw [enc_length HB.out, HL.out]; exact HKP.out
      have hencr : rightB (enc data P) P = true := enc_right HB.out P (by omega)
      have hoff : ∀ i, i < n → i ∉ upFrom k P → (enc data P).getD i 0 = D.getD i 0 := by
        rw [← HD.out]
        intro i hi hin
        have hik : i < data.length := by
          rw [HL.out]
          by_cases h : i < k
          · exact h
          · exact absurd ((upFrom_mem k P i).2 ⟨by omega, by have := HKP.out; omega⟩) hin
        unfold enc
        rw [app_getD_left _ _ _ hik, app_getD_left _ _ _ hik]
      rw [HPe.out] at h4
      rcases h4 with ⟨p, c, o, rfl, ho1, ho2, ho3, ho4, ho5, ho6⟩ | ⟨_, hno⟩
      · have hoe : o = enc data P := right_agree hn ho3 (enc_bytes HB.out P) ho4 hencl ho5 hencr (upFrom_nodup k P) (fun i hi => by have := (upFrom_mem k P i).1 hi; have := HKP.out; omega) (by rw [HUl.out]; exact Nat.le_refl _) (fun i hi hin => by rw [ho6 i hi hin, hoff i hi hin])
        subst hoe
        have HO1 := hid ho1
        have HO2 := hid ho2
        have HB4 := hid (HB3.out.trans (hb4.mono HB3.out.size))
        clear HSo hb4 ho1 ho2 ho3 ho4 ho5 ho6 hencl hencr hoff
        go_wp2_with ((with_reducible refine wpList_unguard ?_ ?_); (focus rfl))
        go_ret
        exact ⟨p, c, rfl, HO1.out, HO2.out, HB4.out⟩
      · exact absurd ⟨enc data P, enc_bytes HB.out P, hencl, hencr, hoff⟩ hno
set_option maxHeartbeats 1000000 in
set_option maxRecDepth 100000 in
theorem rsEncodes.walk (a0 : Int) (a1 : Int) (a2 : Option Addr) (len2 cap2 : Nat) (l2 : List Nat) (w : World) (w0 : (Lit.int .i64 a0).wf = true) (w1 : (Lit.int .i64 a1).wf = true) (w2 : IsBytes w a2 len2 cap2 l2) :
    Calls Try.prog 3 #[.int .i64 a0, .int .i64 a1, .slice a2 len2 cap2] w fun e w' => e = .returned (.bool true) ∧ Below w.heap.size w w' := by
  obtain ⟨hn, hlc, hcap, hS, hss⟩ := w2
  subst hn
  have HS := hid hS
  have HB : Hid (bytesL l2) := hid hss
  have hb0 := bounds_i64 w0
  have hb1 := bounds_i64 w1
  clear hS hss w0 w1
  (go_enter Try.func3, Try.ntmps3; try simp only [List.append])
  go_wp2_with ((with_reducible refine wpList_unguard ?_ ?_); (focus rfl))
  (refine Calls.mono (law06_awake _) ?_; rintro e w3 ⟨rfl, hbA⟩; have HBA := hid hbA; clear hbA)
  go_wp2_with ((with_reducible refine wpList_unguard ?_ ?_); (focus rfl))
  refine Calls.mono (gf_NewK w3 w3 (Below.refl _ _)) ?_; rintro e w4 ⟨b, rfl, K0⟩
  have K := hid K0.2
  have HB4 := hid (HBA.out.trans (K0.1.mono HBA.out.size))
  clear K0 HBA
  go_wp2_with ((with_reducible refine wpList_unguard ?_ ?_); (focus rfl))
  by_cases hth : 1 ≤ a1 ∧ a1 < a0 ∧ a0 ≤ 255 ∧ a0 - a1 ≤ 64
  · obtain ⟨t1, t2, t3, t4⟩ := hth
    have hthb : thereB a0 a1 = true := decide_eq_true ⟨t1, t2, t3, t4⟩
    obtain ⟨n, rfl⟩ : ∃ n : Nat, a0 = n := ⟨a0.toNat, by omega⟩
    obtain ⟨k, rfl⟩ : ∃ k : Nat, a1 = k := ⟨a1.toNat, by omega⟩
    refine Calls.mono (rs_New b n k w4 K.out (by omega) (by omega) (by omega) (by omega)) ?_
    rintro e w5 ⟨c, rfl, hR, hbel⟩
    have HR := hid hR
    have HB5 := hid (HB4.out.trans (hbel.mono HB4.out.size))
    clear hR hbel K HB4
    go_wp2_with ((with_reducible refine wpList_unguard ?_ ?_); (focus rfl))
    refine Calls.mono (ref6_There n k w5 ⟨hb0.1, by omega⟩ ⟨hb1.1, by omega⟩) ?_; rintro e w' ⟨rfl, rfl⟩
    rw [hthb]
    clear hthb hb0 hb1
    by_cases hg1 : 300 < l2.length
    · have q1 : decide ((300 : Int) < (l2.length : Int)) = true := decide_eq_true (by omega)
      go_wp2_with ((with_reducible refine wpList_unguard ?_ ?_); (focus rfl))
      go_ret
      exact ⟨rfl, HB5.out⟩
    have q1 : decide ((300 : Int) < (l2.length : Int)) = false := decide_eq_false (by omega)
    go_wp2_with ((with_reducible refine wpList_unguard ?_ ?_); (focus rfl))
    refine Calls.mono (rs_Size c b n k w5 HR.out) ?_; rintro e w6 ⟨rfl, hb⟩
    have HR6 := hid (HR.out.below hb)
    have HB6 := hid (HB5.out.trans (hb.mono HB5.out.size))
    clear hb HR HB5
    go_wp2_with ((with_reducible refine wpList_unguard ?_ ?_); (focus rfl))
    by_cases hlk : l2.length = k
    · have HLK := hid hlk
      have hlkb : ((l2.length : Int) != (k : Int)) = false := by rw [bne_eq_false_iff_eq]; omega
      have hlkb' : (l2.length != k) = false := by rw [bne_eq_false_iff_eq]; omega
      have hl255 : l2.length ≤ 255 := by omega
      obtain ⟨P, hP⟩ : ∃ P, n - k = P := ⟨_, rfl⟩
      have hPl : P ≤ 64 := by omega
      have HKP : Hid (k + P = n) := (show k + P = n by omega)
      have hEn := hid (rs_Encode c b n k a2 l2.length cap2 l2 w6 HR6.out (by omega) (by omega) (by omega) (by omega) rfl hlc (HS.out.below HB6.out) HB.out hlk)
      have hPa := fun (u : World) (hb : Below w6.heap.size w6 u) => hid (rs_Parity c b n k a2 l2.length cap2 l2 u (HR6.out.below hb) (by omega) (by omega) (by omega) rfl hlc (HS.out.below (HB6.out.trans (hb.mono HB6.out.size))) HB.out hlk)
      have hRi := fun (u : World) (p : Option Addr) (d : Nat) (hb : Below w6.heap.size w6 u) (hc : cellsB u p (enc l2 P)) => hid (rs_Right c b n k p (enc l2 P).length d (enc l2 P) u (HR6.out.below hb) (by omega) (by omega) rfl hc (enc_bytes HB.out P) (by rw [enc_length HB.out, hlk]; exact HKP.out))
      have hRef := fun (u : World) (hb : Below w.heap.size w u) => hid (ref6_Encode a2 cap2 l2 n k u (HS.out.below hb) HB.out hlk (by omega) (by omega) (by omega))
      rw [hP] at hEn hPa hRi hRef
      clear hlk hP t1 t2 t3 t4
      go_wp2_with ((with_reducible refine wpList_unguard ?_ ?_); (focus rfl))
      refine Calls.mono hEn.out ?_; rintro e w7 ⟨v, rfl, hO, hb⟩
      obtain ⟨p7, c7, rfl, hc7⟩ := hO.cells
      have HC7 := hid hc7
      have HB67 := hid hb
      clear hO hc7 hb hEn
      go_wp2_with ((with_reducible refine wpList_unguard ?_ ?_); (focus rfl))
      refine Calls.mono (hPa w7 HB67.out).out ?_; rintro e w8 ⟨v, rfl, hO, hb⟩
      obtain ⟨p8, c8, rfl, hc8⟩ := hO.cells
      have HC8 := hid hc8
      have HC78 := hid (HC7.out.below hb)
      have HB68 := hid (HB67.out.trans (hb.mono HB67.out.size))
      clear hO hc8 hb hPa HC7 HB67
      have hel : (enc l2 P).length = n := by rw [enc_length HB.out, HLK.out]; exact HKP.out
      have hpl := par_length HB.out P
      have hs1 := conv_str HC78.out (enc l2 P).length c7 rfl
      have hs2 := conv_str ((HS.out.below HB6.out).below HB68.out) l2.length cap2 rfl
      have hs3 := conv_str HC8.out (par l2 P).length c8 rfl
      have hRi8 := hRi w8 p7 c7 HB68.out HC78.out
      rw [enc_right HB.out P (by omega)] at hRi8
      have happ : ofB l2 ++ ofB (par l2 P) = ofB (enc l2 P) := by rw [ofB_append]; rfl
      have hz12 : (ofB l2).size + (ofB (par l2 P)).size ≤ 1000 := by rw [ofB_size, ofB_size, hpl]; omega
      have helz : (((enc l2 P).length : Int) != (n : Int)) = false := by rw [bne_eq_false_iff_eq]; omega
      have helz' : ((enc l2 P).length != n) = false := by rw [bne_eq_false_iff_eq]; omega
      have HEL := hid hel
      have hRef8 := fun (u : World) (hb : Below w8.heap.size w8 u) => hRef u (HB6.out.trans ((HB68.out.trans (hb.mono HB68.out.size)).mono HB6.out.size))
      clear hel hpl hRi hRef
      generalize enc l2 P = W at *
      generalize par l2 P = Q at *
      go_wp2_with ((with_reducible refine wpList_unguard ?_ ?_); (focus rfl))
      refine Calls.mono hRi8.out ?_; rintro e w9 ⟨rfl, hb⟩
      have HB9 := hid (HB6.out.trans ((HB68.out.trans (hb.mono HB68.out.size)).mono HB6.out.size))
      have HC9 := hid (HC78.out.below hb)
      have hRef9 := fun (u : World) (hu : Below w9.heap.size w9 u) => hRef8 u (hb.trans (hu.mono hb.size))
      clear hb hRi8 hs1 hs2 hs3 happ hz12 helz helz' hRef8 HC8 HC78 HB68
      go_wp2_with ((with_reducible refine wpList_unguard ?_ ?_); (focus rfl))
      by_cases h24 : 24 < n
      · have q24 : decide ((24 : Int) < (n : Int)) = true := decide_eq_true (by omega)
        have q24' : decide (24 < n) = true := decide_eq_true h24
        clear hRef9
        go_upto_region 17 with fail
        go_region
        go_wp2_with ((with_reducible refine wpList_unguard ?_ ?_); (focus rfl))
        go_ret
        exact ⟨rfl, HB9.out.drew⟩
      · have q24 : decide ((24 : Int) < (n : Int)) = false := decide_eq_false (by omega)
        have q24' : decide (24 < n) = false := decide_eq_false h24
        go_upto_region 17 with fail
        (refine wp_region_stg 0 [([0, 1, 2, 3, 4, 5, 6, 7], 8), ([], 9), ([], 10), ([], 11)] [12] (fun u => Below w9.heap.size w9 u) (by kernel_rfl) (by kernel_rfl) (by intro t v c a w h; cases t <;> exact h) ((Below.refl _ _).drew) ?_; (simp only [List.take_succ_cons, List.take_zero, List.map_cons, List.map_nil, stOf, opAt, List.getD_cons_zero, List.getD_cons_succ]); (repeat (first | go_big_quiet_skip | (go_big_quiet_want; first | (go_big_quiet_op; go_big_quiet_on) | (apply Exists.intro; refine And.intro (fun wq hq => ?_) ?_; (focus ((have hcv := conv_str (HC9.out.below hq) W.length c7 rfl); (try go_simp); first | done | rfl | (fail))); go_simp; go_big_quiet_on)))); refine quietC_nil _ rfl ?_; intro wE hE; unfold wpSt)
        have HE := hid hE
        clear hE
        ((repeat (first | go_big_quiet_skip | (go_big_quiet_want; first | (go_big_quiet_op; go_big_quiet_on) | (apply Exists.intro; refine And.intro (fun wq hq => ?_) ?_; (focus ((have hcv := conv_str (HC9.out.below hq) W.length c7 rfl); (try go_simp); first | done | rfl)); go_simp; go_big_quiet_on)))); refine quietC_nil _ rfl ?_)
        go_wp2_with ((with_reducible refine wpList_unguard ?_ ?_); (focus rfl))
        refine Calls.mono (hRef9 wE HE.out).out ?_; rintro e w10 ⟨p10, c10, rfl, hl10, hc10, hb10⟩
        have h910 := HE.out.trans (hb10.mono HE.out.size)
        have hs10 := conv_str hc10 W.length c10 rfl
        have HB10 := hid (HB9.out.trans (h910.mono HB9.out.size))
        go_wp2_with ((with_reducible refine wpList_unguard ?_ ?_); (focus rfl))
        refine ⟨fun u => Below w9.heap.size w9 u, fun _ h => h, h910, ?_⟩
        unfold wpSt
        refine quietC_nil _ rfl ?_
        go_wp2_with ((with_reducible refine wpList_unguard ?_ ?_); (focus rfl))
        refine ⟨fun u => Below w9.heap.size w9 u, fun _ h => h, h910, ?_⟩
        unfold wpSt
        refine quietC_nil _ rfl ?_
        go_wp2_with ((with_reducible refine wpList_unguard ?_ ?_); (focus rfl))
        refine ⟨fun u => Below w9.heap.size w9 u, fun _ h => h, h910, ?_⟩
        unfold wpSt
        refine quietC_nil _ rfl ?_
        go_wp2_with ((with_reducible refine wpList_unguard ?_ ?_); (focus rfl))
        refine ⟨fun u => Below w9.heap.size w9 u, fun _ h => h, h910, ?_⟩
        unfold wpSt
        go_wp2_with ((with_reducible refine wpList_unguard ?_ ?_); (focus rfl))
        go_ret
        exact ⟨rfl, HB10.out⟩
    · have hlkb : ((l2.length : Int) != (k : Int)) = true := by rw [bne_iff_ne]; omega
      have hlkb' : (l2.length != k) = true := by rw [bne_iff_ne]; omega
      have hE := hid (rs_Encode_bad c b n k a2 l2.length cap2 w6 HR6.out hlk (by omega) (by omega))
      have hPa := hid (rs_Parity_bad c b n k a2 l2.length cap2 w6 HR6.out hlk (by omega) (by omega))
      clear hlk
      go_wp2_with ((with_reducible refine wpList_unguard ?_ ?_); (focus rfl))
      refine Calls.mono hE.out ?_; rintro e w' ⟨rfl, rfl⟩
      go_wp2_with ((with_reducible refine wpList_unguard ?_ ?_); (focus rfl))
      refine Calls.mono hPa.out ?_; rintro e w' ⟨rfl, rfl⟩
      go_wp2_with ((with_reducible refine wpList_unguard ?_ ?_); (focus rfl))
      go_ret
      exact ⟨rfl, HB6.out⟩
  · have hthb : thereB a0 a1 = false := decide_eq_false hth
    refine Calls.mono (rs_New_bad b a0 a1 w4 ⟨hb0.1, by omega⟩ ⟨hb1.1, by omega⟩ hth) ?_; rintro e w' ⟨rfl, rfl⟩
    go_wp2_with ((with_reducible refine wpList_unguard ?_ ?_); (focus rfl))
    refine Calls.mono (ref6_There a0 a1 w4 ⟨hb0.1, by omega⟩ ⟨hb1.1, by omega⟩) ?_; rintro e w' ⟨rfl, rfl⟩
    rw [hthb]
    clear hth hthb
    go_wp2_with ((with_reducible refine wpList_unguard ?_ ?_); (focus rfl))
    go_ret
    exact ⟨rfl, HB4.out⟩
end Go.Proofs.Ytgckhekikcdaiaa
