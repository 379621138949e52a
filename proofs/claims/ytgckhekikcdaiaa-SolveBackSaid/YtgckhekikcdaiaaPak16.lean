/-
  RsEncodes, walked: codes, parity, and the document's own codewords.
  What mending comes to, in plain Lean: the word that is told is just the right one that is near enough. No program in sight.
  The document's has, try and Mend (chapter 07), walked.
  The document's Mend (chapter 07), walked: what it tells is what the fast one tells.
-/
import Derived.Test.YtgckhekikcdaiaaRf6
import Derived.Test.YtgckhekikcdaiaaPak7
import Derived.Test.YtgckhekikcdaiaaPak11
import Derived.Test.YtgckhekikcdaiaaPak14
namespace Tri
open Go.Proofs.Ytgckhekikcdaiaa
/-- Right words that are alike but for no more places than there is parity are alike. -/
theorem right_agree {n p : Nat} (hn : n ≤ 255) {a b : List Nat} (ha : bytesL a) (hb : bytesL b) (hla : a.length = n) (hlb : b.length = n) (h1 : rightB a p = true) (h2 : rightB b p = true) {pl : List Nat} (hpl : pl.Nodup) (hm : ∀ i ∈ pl, i < n) (hp : pl.length ≤ p)
    (h : ∀ i, i < n → i ∉ pl → a.getD i 0 = b.getD i 0) : a = b := by
  have hz := sums_zero hn pl hpl hm (fun i => a.getD i 0 ^^^ b.getD i 0) (fun i => xor_lt (getD_lt ha i) (getD_lt hb i)) 0 (fun m hm' => by
    have e1 := synd_zero h1 m (by omega)
    have e2 := synd_zero h2 m (by omega)
    rw [peval_places ha, hla] at e1
    rw [peval_places hb, hlb] at e2
    have hp : List.Perm ((List.range n).filter fun k => decide (k ∈ pl)) pl := (List.perm_ext_iff_of_nodup (List.Pairwise.filter _ List.nodup_range) hpl).2 fun k => by
      rw [List.mem_filter, List.mem_range, decide_eq_true_eq]
      exact ⟨fun h => h.2, fun h => ⟨hm k h, h⟩⟩
    rw [← LS_perm hp, LS_filter _ _ _ (fun k hk hkn => by
      have := h k (List.mem_range.1 hk) (of_decide_eq_false hkn)
      rw [this, Nat.xor_self, zero_gmul])]
    have e3 : LS (fun i => gmul (a.getD i 0 ^^^ b.getD i 0) (gexp (ex n i * (0 + m)))) (List.range n) = LS (fun i => gmul (a.getD i 0) (gexp (ex n i * m))) (List.range n) ^^^ LS (fun i => gmul (b.getD i 0) (gexp (ex n i * m))) (List.range n) := by
      rw [← LS_add]
      refine LS_congr _ fun i _ => ?_
      rw [Nat.zero_add, xor_gmul _ _ _ (gexp_lt _) (getD_lt ha i) (getD_lt hb i)]
    rw [e3, e1, e2]; rfl)
  apply list_ext (by rw [hla, hlb])
  intro i
  by_cases hi : i < n
  · by_cases hin : i ∈ pl
    · have := hz i hin
      by_cases e : a.getD i 0 = b.getD i 0
      · exact e
      · exact absurd this (xor_ne e)
    · exact h i hi hin
  · rw [getD_ge _ _ (by omega), getD_ge _ _ (by omega)]
def upFrom (k m : Nat) : List Nat := (List.range m).map fun i => k + i
theorem upFrom_mem (k m i : Nat) : i ∈ upFrom k m ↔ k ≤ i ∧ i < k + m := by
  unfold upFrom
  rw [List.mem_map]
  constructor
  · rintro ⟨j, hj, rfl⟩
    have := List.mem_range.1 hj
    omega
  · rintro ⟨h1, h2⟩
    exact ⟨i - k, List.mem_range.2 (by omega), by omega⟩
theorem upFrom_nodup (k m : Nat) : (upFrom k m).Nodup := by
  unfold upFrom List.Nodup
  rw [List.pairwise_map]
  exact List.nodup_range.imp fun h e => h (by omega)
theorem upFrom_len (k m : Nat) : (upFrom k m).length = m := by unfold upFrom; simp
theorem upFrom_succ (k m : Nat) : upFrom k (m + 1) = upFrom k m ++ [k + m] := by unfold upFrom; rw [List.range_succ, List.map_append]; rfl
theorem app_getD_left (a b : List Nat) (i : Nat) (h : i < a.length) : (a ++ b).getD i 0 = a.getD i 0 := by
  rw [List.getD_eq_getElem?_getD, List.getElem?_append_left h, List.getD_eq_getElem?_getD]
end Tri
namespace Go.Proofs.Ytgckhekikcdaiaa
open Go.RowKit Tri

set_option maxHeartbeats 4000000 in
set_option maxRecDepth 100000 in
theorem ref6_Encode (pd : Option Addr) (cd : Nat) (data : List Nat) (n k : Nat) (w : World) (hp : cellsB w pd data) (hb : bytesL data) (hl : data.length = k) (h1 : 1 ≤ k) (hk : k < n) (hn : n ≤ 255) :
    Calls Try.prog 18 #[.slice pd data.length cd, .int .i64 n, .int .i64 k] w fun e w' => ∃ p c, e = .returned (.slice p (enc data (n - k)).length c) ∧ (enc data (n - k)).length ≤ c ∧ cellsB w' p (enc data (n - k)) ∧ Below w.heap.size w w' := by
  have HP := hid hp
  have HB := hid hb
  have HL := hid hl
  have hne : data ≠ [] := fun h => by rw [h] at hl; simp at hl; omega
  have HNE := hid hne
  have hdl : data.length ≤ 255 := by omega
  obtain ⟨P, hP⟩ : ∃ P, n - k = P := ⟨_, rfl⟩
  rw [hP]
  have hnk : (n : Int) - (k : Int) = (P : Int) := by omega
  have hkP : k + P = n := by omega
  have HKP := hid hkP
  have hPl : P ≤ 255 := by omega
  have hwr : IntKind.i64.wrap ((n : Int) - (k : Int)) = (P : Int) := by rw [IntKind.wrap_i64]; omega
  have hwr2 : IntKind.i64.wrap (P : Int) = (P : Int) := by rw [IntKind.wrap_i64]; omega
  have HPe := hid hP
  clear hp hb hl hne hkP hP
  obtain ⟨inf, hi, hz0, hz1, hz2⟩ := info_parts Try.infoI
  obtain ⟨ib, hb0, hb1, hb2, hb3⟩ := info_parts Try.infoB
  have HR0 : Hid (rowK (w.alloc (.cells #[] 3)) w.heap.size 3 .i64 (.slice (some ⟨w.heap.size, 0, none⟩) 0 0) (upFrom k 0)) := World.ownsRow_lit w #[] 0 (Nat.le_refl _) (by unfold maxLen; omega) rfl
  have HA0 := hid (show Below w.heap.size w (w.alloc (.cells #[] 3)) from (Below.refl _ _).alloc (Nat.le_refl _) _)
  (go_enter Try.func18, Try.ntmps18; try simp only [List.append])
  go_wp2_with ((with_reducible refine wpList_unguard ?_ ?_); (focus rfl))
  go_loopw [8, 7] (fun iv v wr => ∃ j : Nat, j ≤ P ∧ iv = .int .i64 ((k + j : Nat) : Int) ∧ rowK wr w.heap.size 3 .i64 v (upFrom k j) ∧ Below w.heap.size w wr) (fun iv _ _ => n - (intOf iv).toNat)
  case atStart => exact ⟨0, Nat.zero_le _, by simp, HR0.out, HA0.out⟩
  case round =>
    clear HR0 HA0
    obtain ⟨j, hj, rfl, hrow, hbel⟩ := hrel
    have HRow := hid hrow
    have HBel := hid hbel
    clear hrow hbel
    obtain ⟨i, hij⟩ : ∃ i, k + j = i := ⟨_, rfl⟩
    rw [hij]
    by_cases hlt : j < P
    · have hin : i < n := by have := HKP.out; omega
      have HSu : Hid (upFrom k (j + 1) = upFrom k j ++ [i]) := by show _ = _; rw [upFrom_succ, hij]
      have hul := upFrom_len k j
      go_wp2_with (at_builtin; refine wpList_push rfl _ _ 41 rfl w.heap.size 3 inf .i64 8 Try.underlying41 hi hz0 hz1 hz2 (by decide) _ (upFrom k j) i HRow.out rfl _ rfl rfl (by omega) HBel.out.size ?_)
      intro v' w1 hq1 hb1'
      have HR1 : Hid (rowK w1 w.heap.size 3 .i64 v' (upFrom k (j + 1))) := by show rowK _ _ _ _ _ _; rw [HSu.out]; exact hq1
      have HB1 := hid (HBel.out.trans hb1')
      clear hq1 hb1' hul
      go_wp2_with ((with_reducible refine wpList_unguard ?_ ?_); (focus rfl))
      go_roundw
      case rel => exact ⟨j + 1, by omega, by rw [show k + (j + 1) = i + 1 from by omega]; go_num, HR1.out, HB1.out⟩
      case measure => simp [intOf]; omega
    · have hin : ¬ i < n := by have := HKP.out; omega
      have hjP : j = P := by omega
      rw [hjP] at HRow
      clear hij hlt hjP
      obtain ⟨pp, cp, rfl, hcp, hcl⟩ := ownsI.cells (show ownsI _ _ _ _ from HRow.out)
      have HPL := hid hcl
      have hA : Below wr.heap.size wr (wr.alloc (.cells #[] 5)) := (Below.refl _ _).alloc (Nat.le_refl _) _
      have hown : ownsB (wr.alloc (.cells #[] 5)) wr.heap.size (.slice (some ⟨wr.heap.size, 0, none⟩) 0 0) [] := World.ownsRow_lit wr #[] 0 (Nat.le_refl _) (by unfold maxLen; omega) rfl
      have hqa := (HP.out.below HBel.out).below hA
      clear hcl HRow
      go_wp2_with (at_builtin; refine wpList_pushB rfl _ _ rfl wr.heap.size _ [] data pd cd hown hqa HNE.out rfl _ rfl rfl (by simp) (by omega) hA.size ?_)
      intro v' w2 hq' hb'
      obtain ⟨g, cap, rfl, hg, hcap, hbuf⟩ := hq'.buf2 (by simpa using HNE.out)
      have hb02 := hA.trans hb'
      have hq' : ownsB w2 wr.heap.size (.slice (some ⟨g, 0, none⟩) data.length cap) data := hq'
      go_wp2_with (at_builtin; refine wpList_append_zeros rfl _ _ 22 3 rfl wr.heap.size 5 ib (.int .u8 0) .i64 Try.underlying22 Try.underlying3 hb0 hb1 hb2 hb3 rfl rfl (.slice (some ⟨g, 0, none⟩) data.length cap) data.length _ rfl hq' (fun h => by cases h) P rfl (by omega) hb02.size ?_)
      intro v3 w3 hq3 hg3
      have hO3 : ownsB w3 wr.heap.size v3 (data ++ List.replicate P 0) := by
        unfold ownsB
        rw [List.length_append, List.length_replicate, List.map_append, List.map_replicate]
        exact hq3
      obtain ⟨D, hD⟩ : ∃ D, data ++ List.replicate P 0 = D := ⟨_, rfl⟩
      have hzl : D.length = n := by rw [← hD, List.length_append, List.length_replicate, HL.out]; exact HKP.out
      have hzb : bytesL D := by
        rw [← hD]
        intro x hx
        rcases List.mem_append.1 hx with h | h
        · exact HB.out x h
        · rw [List.mem_replicate] at h; omega
      rw [hD] at hO3
      have HD := hid hD
      clear hD
      obtain ⟨p3, c3, rfl, hc3⟩ := hO3.cells
      have hB3 : Below wr.heap.size wr w3 := hb02.grown hg3 hb02.size (fun k hk => by simp only [Value.ownBlock, Option.some.injEq] at hk; rw [← hk]; exact hg)
      have HB3 := hid (HBel.out.trans (hB3.mono HBel.out.size))
      have HC3 := hid hc3
      have HPL3 := hid (HPL.out.below hB3)
      clear hq' hq3 hg3 hO3 hB3 hb02 hb' hA hown hqa hg hcap hbuf hc3 HPL HBel
      have HZL := hid hzl
      have HZB := hid hzb
      clear hzl hzb
      have hul := upFrom_len k P
      have hSo := ref6_Solve p3 c3 D n k pp cp (upFrom k P) w3 HC3.out HZB.out HZL.out hk hn HPL3.out (upFrom_nodup k P) (fun i hi => by have := (upFrom_mem k P i).1 hi; have := HKP.out; omega) (by rw [hul, HPe.out]; exact Nat.le_refl _)
      have HSo := hid hSo
      have HUl := hid hul
      clear hSo hul
      go_wp2_with ((with_reducible refine wpList_unguard ?_ ?_); (focus rfl))
      with_reducible refine Calls.mono HSo.out ?_; rintro e w4 ⟨hb4, h4⟩
      have hencl : (enc data P).length = n := by rw [enc_length HB.out, HL.out]; exact HKP.out
      have hencr : rightB (enc data P) P = true := enc_right HB.out P (by omega)
      have hoff : ∀ i, i < n → i ∉ upFrom k P → (enc data P).getD i 0 = D.getD i 0 := by
        rw [← HD.out]
        intro i hi hin
        have hik : i < data.length := by
          rw [HL.out]
          by_cases h : i < k
          · exact h
          · exact absurd ((upFrom_mem k P i).2 ⟨by omega, by have := HKP.out; omega⟩) hin
        unfold enc
        rw [app_getD_left _ _ _ hik, app_getD_left _ _ _ hik]
      rw [HPe.out] at h4
      rcases h4 with ⟨p, c, o, rfl, ho1, ho2, ho3, ho4, ho5, ho6⟩ | ⟨_, hno⟩
      · have hoe : o = enc data P := right_agree hn ho3 (enc_bytes HB.out P) ho4 hencl ho5 hencr (upFrom_nodup k P) (fun i hi => by have := (upFrom_mem k P i).1 hi; have := HKP.out; omega) (by rw [HUl.out]; exact Nat.le_refl _) (fun i hi hin => by rw [ho6 i hi hin, hoff i hi hin])
        subst hoe
        have HO1 := hid ho1
        have HO2 := hid ho2
        have HB4 := hid (HB3.out.trans (hb4.mono HB3.out.size))
        clear HSo hb4 ho1 ho2 ho3 ho4 ho5 ho6 hencl hencr hoff
        go_wp2_with ((with_reducible refine wpList_unguard ?_ ?_); (focus rfl))
        go_ret
        exact ⟨p, c, rfl, HO1.out, HO2.out, HB4.out⟩
      · exact absurd ⟨enc data P, enc_bytes HB.out P, hencl, hencr, hoff⟩ hno
set_option maxHeartbeats 1000000 in
set_option maxRecDepth 100000 in
theorem rsEncodes.walk (a0 : Int) (a1 : Int) (a2 : Option Addr) (len2 cap2 : Nat) (l2 : List Nat) (w : World) (w0 : (Lit.int .i64 a0).wf = true) (w1 : (Lit.int .i64 a1).wf = true) (w2 : IsBytes w a2 len2 cap2 l2) :
    Calls Try.prog 3 #[.int .i64 a0, .int .i64 a1, .slice a2 len2 cap2] w fun e w' => e = .returned (.bool true) ∧ Below w.heap.size w w' := by
  obtain ⟨hn, hlc, hcap, hS, hss⟩ := w2
  subst hn
  have HS := hid hS
  have HB : Hid (bytesL l2) := hid hss
  have hb0 := bounds_i64 w0
  have hb1 := bounds_i64 w1
  clear hS hss w0 w1
  (go_enter Try.func3, Try.ntmps3; try simp only [List.append])
  go_wp2_with ((with_reducible refine wpList_unguard ?_ ?_); (focus rfl))
  (refine Calls.mono (law06_awake _) ?_; rintro e w3 ⟨rfl, hbA⟩; have HBA := hid hbA; clear hbA)
  go_wp2_with ((with_reducible refine wpList_unguard ?_ ?_); (focus rfl))
  refine Calls.mono (gf_NewK w3 w3 (Below.refl _ _)) ?_; rintro e w4 ⟨b, rfl, K0⟩
  have K := hid K0.2
  have HB4 := hid (HBA.out.trans (K0.1.mono HBA.out.size))
  clear K0 HBA
  go_wp2_with ((with_reducible refine wpList_unguard ?_ ?_); (focus rfl))
  by_cases hth : 1 ≤ a1 ∧ a1 < a0 ∧ a0 ≤ 255 ∧ a0 - a1 ≤ 64
  · obtain ⟨t1, t2, t3, t4⟩ := hth
    have hthb : thereB a0 a1 = true := decide_eq_true ⟨t1, t2, t3, t4⟩
    obtain ⟨n, rfl⟩ : ∃ n : Nat, a0 = n := ⟨a0.toNat, by omega⟩
    obtain ⟨k, rfl⟩ : ∃ k : Nat, a1 = k := ⟨a1.toNat, by omega⟩
    refine Calls.mono (rs_New b n k w4 K.out (by omega) (by omega) (by omega) (by omega)) ?_
    rintro e w5 ⟨c, rfl, hR, hbel⟩
    have HR := hid hR
    have HB5 := hid (HB4.out.trans (hbel.mono HB4.out.size))
    clear hR hbel K HB4
    go_wp2_with ((with_reducible refine wpList_unguard ?_ ?_); (focus rfl))
    refine Calls.mono (ref6_There n k w5 ⟨hb0.1, by omega⟩ ⟨hb1.1, by omega⟩) ?_; rintro e w' ⟨rfl, rfl⟩
    rw [hthb]
    clear hthb hb0 hb1
    by_cases hg1 : 300 < l2.length
    · have q1 : decide ((300 : Int) < (l2.length : Int)) = true := decide_eq_true (by omega)
      go_wp2_with ((with_reducible refine wpList_unguard ?_ ?_); (focus rfl))
      go_ret
      exact ⟨rfl, HB5.out⟩
    have q1 : decide ((300 : Int) < (l2.length : Int)) = false := decide_eq_false (by omega)
    go_wp2_with ((with_reducible refine wpList_unguard ?_ ?_); (focus rfl))
    refine Calls.mono (rs_Size c b n k w5 HR.out) ?_; rintro e w6 ⟨rfl, hb⟩
    have HR6 := hid (HR.out.below hb)
    have HB6 := hid (HB5.out.trans (hb.mono HB5.out.size))
    clear hb HR HB5
    go_wp2_with ((with_reducible refine wpList_unguard ?_ ?_); (focus rfl))
    by_cases hlk : l2.length = k
    · have HLK := hid hlk
      have hlkb : ((l2.length : Int) != (k : Int)) = false := by rw [bne_eq_false_iff_eq]; omega
      have hlkb' : (l2.length != k) = false := by rw [bne_eq_false_iff_eq]; omega
      have hl255 : l2.length ≤ 255 := by omega
      obtain ⟨P, hP⟩ : ∃ P, n - k = P := ⟨_, rfl⟩
      have hPl : P ≤ 64 := by omega
      have HKP : Hid (k + P = n) := (show k + P = n by omega)
      have hEn := hid (rs_Encode c b n k a2 l2.length cap2 l2 w6 HR6.out (by omega) (by omega) (by omega) (by omega) rfl hlc (HS.out.below HB6.out) HB.out hlk)
      have hPa := fun (u : World) (hb : Below w6.heap.size w6 u) => hid (rs_Parity c b n k a2 l2.length cap2 l2 u (HR6.out.below hb) (by omega) (by omega) (by omega) rfl hlc (HS.out.below (HB6.out.trans (hb.mono HB6.out.size))) HB.out hlk)
      have hRi := fun (u : World) (p : Option Addr) (d : Nat) (hb : Below w6.heap.size w6 u) (hc : cellsB u p (enc l2 P)) => hid (rs_Right c b n k p (enc l2 P).length d (enc l2 P) u (HR6.out.below hb) (by omega) (by omega) rfl hc (enc_bytes HB.out P) (by rw [enc_length HB.out, hlk]; exact HKP.out))
      have hRef := fun (u : World) (hb : Below w.heap.size w u) => hid (ref6_Encode a2 cap2 l2 n k u (HS.out.below hb) HB.out hlk (by omega) (by omega) (by omega))
      rw [hP] at hEn hPa hRi hRef
      clear hlk hP t1 t2 t3 t4
      go_wp2_with ((with_reducible refine wpList_unguard ?_ ?_); (focus rfl))
      refine Calls.mono hEn.out ?_; rintro e w7 ⟨v, rfl, hO, hb⟩
      obtain ⟨p7, c7, rfl, hc7⟩ := hO.cells
      have HC7 := hid hc7
      have HB67 := hid hb
      clear hO hc7 hb hEn
      go_wp2_with ((with_reducible refine wpList_unguard ?_ ?_); (focus rfl))
      refine Calls.mono (hPa w7 HB67.out).out ?_; rintro e w8 ⟨v, rfl, hO, hb⟩
      obtain ⟨p8, c8, rfl, hc8⟩ := hO.cells
      have HC8 := hid hc8
      have HC78 := hid (HC7.out.below hb)
      have HB68 := hid (HB67.out.trans (hb.mono HB67.out.size))
      clear hO hc8 hb hPa HC7 HB67
      have hel : (enc l2 P).length = n := by rw [enc_length HB.out, HLK.out]; exact HKP.out
      have hpl := par_length HB.out P
      have hs1 := conv_str HC78.out (enc l2 P).length c7 rfl
      have hs2 := conv_str ((HS.out.below HB6.out).below HB68.out) l2.length cap2 rfl
      have hs3 := conv_str HC8.out (par l2 P).length c8 rfl
      have hRi8 := hRi w8 p7 c7 HB68.out HC78.out
      rw [enc_right HB.out P (by omega)] at hRi8
      have happ : ofB l2 ++ ofB (par l2 P) = ofB (enc l2 P) := by rw [ofB_append]; rfl
      have hz12 : (ofB l2).size + (ofB (par l2 P)).size ≤ 1000 := by rw [ofB_size, ofB_size, hpl]; omega
      have helz : (((enc l2 P).length : Int) != (n : Int)) = false := by rw [bne_eq_false_iff_eq]; omega
      have helz' : ((enc l2 P).length != n) = false := by rw [bne_eq_false_iff_eq]; omega
      have HEL := hid hel
      have hRef8 := fun (u : World) (hb : Below w8.heap.size w8 u) => hRef u (HB6.out.trans ((HB68.out.trans (hb.mono HB68.out.size)).mono HB6.out.size))
      clear hel hpl hRi hRef
      generalize enc l2 P = W at *
      generalize par l2 P = Q at *
      go_wp2_with ((with_reducible refine wpList_unguard ?_ ?_); (focus rfl))
      refine Calls.mono hRi8.out ?_; rintro e w9 ⟨rfl, hb⟩
      have HB9 := hid (HB6.out.trans ((HB68.out.trans (hb.mono HB68.out.size)).mono HB6.out.size))
      have HC9 := hid (HC78.out.below hb)
      have hRef9 := fun (u : World) (hu : Below w9.heap.size w9 u) => hRef8 u (hb.trans (hu.mono hb.size))
      clear hb hRi8 hs1 hs2 hs3 happ hz12 helz helz' hRef8 HC8 HC78 HB68
      go_wp2_with ((with_reducible refine wpList_unguard ?_ ?_); (focus rfl))
      by_cases h24 : 24 < n
      · have q24 : decide ((24 : Int) < (n : Int)) = true := decide_eq_true (by omega)
        have q24' : decide (24 < n) = true := decide_eq_true h24
        clear hRef9
        go_upto_region 17 with fail
        go_region
        go_wp2_with ((with_reducible refine wpList_unguard ?_ ?_); (focus rfl))
        go_ret
        exact ⟨rfl, HB9.out.drew⟩
      · have q24 : decide ((24 : Int) < (n : Int)) = false := decide_eq_false (by omega)
        have q24' : decide (24 < n) = false := decide_eq_false h24
        go_upto_region 17 with fail
        (refine wp_region_stg 0 [([0, 1, 2, 3, 4, 5, 6, 7], 8), ([], 9), ([], 10), ([], 11)] [12] (fun u => Below w9.heap.size w9 u) (by kernel_rfl) (by kernel_rfl) (by intro t v c a w h; cases t <;> exact h) ((Below.refl _ _).drew) ?_; (simp only [List.take_succ_cons, List.take_zero, List.map_cons, List.map_nil, stOf, opAt, List.getD_cons_zero, List.getD_cons_succ]); (repeat (first | go_big_quiet_skip | (go_big_quiet_want; first | (go_big_quiet_op; go_big_quiet_on) | (apply Exists.intro; refine And.intro (fun wq hq => ?_) ?_; (focus ((have hcv := conv_str (HC9.out.below hq) W.length c7 rfl); (try go_simp); first | done | rfl | (fail))); go_simp; go_big_quiet_on)))); refine quietC_nil _ rfl ?_; intro wE hE; unfold wpSt)
        have HE := hid hE
        clear hE
        ((repeat (first | go_big_quiet_skip | (go_big_quiet_want; first | (go_big_quiet_op; go_big_quiet_on) | (apply Exists.intro; refine And.intro (fun wq hq => ?_) ?_; (focus ((have hcv := conv_str (HC9.out.below hq) W.length c7 rfl); (try go_simp); first | done | rfl)); go_simp; go_big_quiet_on)))); refine quietC_nil _ rfl ?_)
        go_wp2_with ((with_reducible refine wpList_unguard ?_ ?_); (focus rfl))
        refine Calls.mono (hRef9 wE HE.out).out ?_; rintro e w10 ⟨p10, c10, rfl, hl10, hc10, hb10⟩
        have h910 := HE.out.trans (hb10.mono HE.out.size)
        have hs10 := conv_str hc10 W.length c10 rfl
        have HB10 := hid (HB9.out.trans (h910.mono HB9.out.size))
        go_wp2_with ((with_reducible refine wpList_unguard ?_ ?_); (focus rfl))
        refine ⟨fun u => Below w9.heap.size w9 u, fun _ h => h, h910, ?_⟩
        unfold wpSt
        refine quietC_nil _ rfl ?_
        go_wp2_with ((with_reducible refine wpList_unguard ?_ ?_); (focus rfl))
        refine ⟨fun u => Below w9.heap.size w9 u, fun _ h => h, h910, ?_⟩
        unfold wpSt
        refine quietC_nil _ rfl ?_
        go_wp2_with ((with_reducible refine wpList_unguard ?_ ?_); (focus rfl))
        refine ⟨fun u => Below w9.heap.size w9 u, fun _ h => h, h910, ?_⟩
        unfold wpSt
        refine quietC_nil _ rfl ?_
        go_wp2_with ((with_reducible refine wpList_unguard ?_ ?_); (focus rfl))
        refine ⟨fun u => Below w9.heap.size w9 u, fun _ h => h, h910, ?_⟩
        unfold wpSt
        go_wp2_with ((with_reducible refine wpList_unguard ?_ ?_); (focus rfl))
        go_ret
        exact ⟨rfl, HB10.out⟩
    · have hlkb : ((l2.length : Int) != (k : Int)) = true := by rw [bne_iff_ne]; omega
      have hlkb' : (l2.length != k) = true := by rw [bne_iff_ne]; omega
      have hE := hid (rs_Encode_bad c b n k a2 l2.length cap2 w6 HR6.out hlk (by omega) (by omega))
      have hPa := hid (rs_Parity_bad c b n k a2 l2.length cap2 w6 HR6.out hlk (by omega) (by omega))
      clear hlk
      go_wp2_with ((with_reducible refine wpList_unguard ?_ ?_); (focus rfl))
      refine Calls.mono hE.out ?_; rintro e w' ⟨rfl, rfl⟩
      go_wp2_with ((with_reducible refine wpList_unguard ?_ ?_); (focus rfl))
      refine Calls.mono hPa.out ?_; rintro e w' ⟨rfl, rfl⟩
      go_wp2_with ((with_reducible refine wpList_unguard ?_ ?_); (focus rfl))
      go_ret
      exact ⟨rfl, HB6.out⟩
  · have hthb : thereB a0 a1 = false := decide_eq_false hth
    refine Calls.mono (rs_New_bad b a0 a1 w4 ⟨hb0.1, by omega⟩ ⟨hb1.1, by omega⟩ hth) ?_; rintro e w' ⟨rfl, rfl⟩
    go_wp2_with ((with_reducible refine wpList_unguard ?_ ?_); (focus rfl))
    refine Calls.mono (ref6_There a0 a1 w4 ⟨hb0.1, by omega⟩ ⟨hb1.1, by omega⟩) ?_; rintro e w' ⟨rfl, rfl⟩
    rw [hthb]
    clear hth hthb
    go_wp2_with ((with_reducible refine wpList_unguard ?_ ?_); (focus rfl))
    go_ret
    exact ⟨rfl, HB4.out⟩
end Go.Proofs.Ytgckhekikcdaiaa

namespace Tri
open Go Go.RowKit Go.Proofs.Ytgckhekikcdaiaa
theorem offP_mem {n : Nat} {E a b : List Nat} {i : Nat} : i ∈ offP n E a b ↔ i < n ∧ i ∉ E ∧ a.getD i 0 ≠ b.getD i 0 := by
  unfold offP
  rw [List.mem_filter, List.mem_range, Bool.and_eq_true, Bool.not_eq_true', decide_eq_true_eq]
  constructor
  · rintro ⟨h1, h2, h3⟩
    refine ⟨h1, fun h => ?_, h3⟩
    rw [List.contains_iff_mem.2 h] at h2
    cases h2
  · rintro ⟨h1, h2, h3⟩
    refine ⟨h1, ?_, h3⟩
    cases hc : E.contains i with
    | false => rfl
    | true => exact absurd (List.contains_iff_mem.1 hc) h2
theorem offP_nodup (n : Nat) (E a b : List Nat) : (offP n E a b).Nodup := List.Pairwise.filter _ List.nodup_range
theorem offP_sorted (n : Nat) (E a b : List Nat) : (offP n E a b).Pairwise (· < ·) := List.Pairwise.filter _ List.pairwise_lt_range
theorem offP_comm (n : Nat) (E a b : List Nat) : offP n E a b = offP n E b a := by
  unfold offP
  apply List.filter_congr
  intro i _
  congr 1
  rw [decide_eq_decide]
  exact ne_comm
theorem offP_self (n : Nat) (E a : List Nat) : offP n E a a = [] := by
  rw [List.eq_nil_iff_forall_not_mem]
  intro i hi
  exact (offP_mem.1 hi).2.2 rfl
theorem offP_perm {n : Nat} {E F : List Nat} (h : ∀ i, i ∈ E ↔ i ∈ F) (a b : List Nat) : offP n E a b = offP n F a b :=
  sorted_ext (offP_sorted n E a b) (offP_sorted n F a b) fun i => by rw [offP_mem, offP_mem, h]
theorem nodup_le : ∀ (l m : List Nat), l.Nodup → (∀ x ∈ l, x ∈ m) → l.length ≤ m.length
  | [], _, _, _ => Nat.zero_le _
  | a :: l, m, hnd, h => by
    obtain ⟨h1, h2⟩ := List.nodup_cons.1 hnd
    have ha := h a (by simp)
    have := nodup_le l (m.erase a) h2 fun x hx => (List.mem_erase_of_ne (fun e => h1 (by rw [← e]; exact hx))).2 (h x (by simp [hx]))
    rw [List.length_erase_of_mem ha] at this
    have := List.length_pos_of_mem ha
    rw [List.length_cons]
    omega
/-- Two right words that are near enough are alike. -/
theorem unique_near {n P : Nat} (hn : n ≤ 255) {E : List Nat} (hEn : E.Nodup) (hE : ∀ i ∈ E, i < n) {word o o' : List Nat} (hb : bytesL o) (hb' : bytesL o') (hl : o.length = n) (hl' : o'.length = n) (h1 : rightB o P = true) (h2 : rightB o' P = true)
    (h : E.length + (offP n E o word).length + (offP n E o' word).length ≤ P) : o = o' := by
  have hnd : ((List.range n).filter fun i => decide (i ∈ E ++ (offP n E o word ++ offP n E o' word))).Nodup := List.Pairwise.filter _ List.nodup_range
  refine right_agree hn hb hb' hl hl' h1 h2 hnd (fun i hi => List.mem_range.1 (List.mem_filter.1 hi).1) ?_ fun i hi hin => ?_
  · refine Nat.le_trans ?_ (show (E ++ (offP n E o word ++ offP n E o' word)).length ≤ P by rw [List.length_append, List.length_append]; omega)
    refine nodup_le _ _ hnd fun i hi => ?_
    exact of_decide_eq_true (List.mem_filter.1 hi).2
  · have hno : i ∉ E ++ (offP n E o word ++ offP n E o' word) := fun h => hin (List.mem_filter.2 ⟨List.mem_range.2 hi, decide_eq_true h⟩)
    rw [List.mem_append, List.mem_append] at hno
    have e1 : o.getD i 0 = word.getD i 0 := by
      by_cases e : o.getD i 0 = word.getD i 0
      · exact e
      · exact absurd (.inr (.inl (offP_mem.2 ⟨hi, fun h => hno (.inl h), e⟩))) hno
    have e2 : o'.getD i 0 = word.getD i 0 := by
      by_cases e : o'.getD i 0 = word.getD i 0
      · exact e
      · exact absurd (.inr (.inr (offP_mem.2 ⟨hi, fun h => hno (.inl h), e⟩))) hno
    rw [e1, e2]
theorem fixL_off (n : Nat) (om der : List Nat) : ∀ (L out o : List Nat), fixL n om der out L = some o → ∀ i, i ∉ L → o.getD i 0 = out.getD i 0
  | [], out, o, h, i, _ => by
    have : out = o := by simpa [fixL] using h
    rw [this]
  | j :: L, out, o, h, i, hi => by
    unfold fixL at h
    split at h
    · rw [fixL_off n om der L _ o h i fun h => hi (by simp [h])]
      by_cases hj : j < out.length
      · rw [getD_set _ _ _ _ hj, if_neg (fun e => hi (by simp [e]))]
      · rw [List.set_eq_of_length_le (by omega)]
    · cases h
theorem mendL_near {n p : Nat} {s E loc word o : List Nat} {many : Int} (h : mendL n p s E loc word many = some o) : E.length + 2 * (offP n E o word).length ≤ p := by
  unfold mendL at h
  split at h
  · cases h
  · rename_i hc
    have hoff := fixL_off _ _ _ _ _ _ h
    have hle : (offP n E o word).length ≤ unlN E (plsL n loc n) := by
      unfold unlN plsL offP
      rw [← List.countP_eq_length_filter, List.countP_filter]
      refine List.countP_mono_left fun i hi h1 => ?_
      have hi := List.mem_range.1 hi
      rw [Bool.and_eq_true, decide_eq_true_eq] at h1
      rw [Bool.and_eq_true]
      refine ⟨h1.1, ?_⟩
      cases hp : isPl n loc i with
      | true => rfl
      | false =>
        exfalso
        refine h1.2 (hoff i fun hin => ?_)
        have := (List.mem_filter.1 hin).2
        rw [hp] at this
        cases this
    omega
theorem byR_near {n p : Nat} {word E o : List Nat} {mny : Int} {loc : List Nat} (h : byR n p word E mny loc = some o) : E.length + 2 * (offP n E o word).length ≤ p := by
  unfold byR at h
  split at h
  · cases h
  · rename_i h1
    split at h
    · cases h
      rw [offP_self]
      simp
      omega
    · split at h
      · cases h
      · rename_i o' hm
        split at h
        · cases h
          exact mendL_near hm
        · cases h
/-- What a way to search must find. -/
def Finds (n p : Nat) (word E : List Nat) (mny : Int) (loc : List Nat) : Prop :=
  ∀ o, bytesL o → o.length = n → rightB o p = true → rightB word p = false → E.length + 2 * (offP n E o word).length ≤ p → mendL n p (synd word p) E loc word mny = some o
theorem byR_iff {n p : Nat} (hn : n ≤ 255) {word E : List Nat} (hb : bytesL word) (hl : word.length = n) (hEn : E.Nodup) (hE : ∀ i ∈ E, i < n) {mny : Int} {loc : List Nat} (hf : Finds n p word E mny loc) (o : List Nat) :
    byR n p word E mny loc = some o ↔ bytesL o ∧ o.length = n ∧ rightB o p = true ∧ E.length + 2 * (offP n E o word).length ≤ p := by
  constructor
  · intro h
    obtain ⟨_, h2, h3, h4⟩ := byR_some h hb
    exact ⟨h4, by rw [h3, hl], h2, byR_near h⟩
  · rintro ⟨h1, h2, h3, h4⟩
    have hp : ¬ p < E.length := by omega
    by_cases hr : rightB word p = true
    · have : o = word := unique_near hn hEn hE (word := word) h1 hb h2 hl h3 hr (by rw [offP_self]; simp; omega)
      rw [this]
      exact byR_right _ _ hp hr
    · have hr' : rightB word p = false := by simpa using hr
      unfold byR
      rw [if_neg hp, if_neg hr, hf o h1 h2 h3 hr' h4]
      show (if rightB o p = true then some o else none) = some o
      rw [if_pos h3]
theorem bm_finds {n p : Nat} (hn : n ≤ 255) {word E : List Nat} (hb : bytesL word) (hl : word.length = n) (hEn : E.Nodup) (hE : ∀ i ∈ E, i < n) : Finds n p word E ((bmR n p word E).l : Nat) (bmR n p word E).loc := by
  intro o h1 h2 h3 _ h4
  rw [offP_comm] at h4
  exact mend_finds hn hEn hE hb h1 hl h2 h3 h4
theorem mendW_iff {n p : Nat} (hn : n ≤ 255) {word E : List Nat} (hb : bytesL word) (hl : word.length = n) (hEn : E.Nodup) (hE : ∀ i ∈ E, i < n) (o : List Nat) :
    mendW n p word E = some o ↔ bytesL o ∧ o.length = n ∧ rightB o p = true ∧ E.length + 2 * (offP n E o word).length ≤ p := byR_iff hn hb hl hEn hE (bm_finds hn hb hl hEn hE) o
/- the document's own way: places, one by one -/
theorem offP_snoc (n : Nat) (E a b : List Nat) (i : Nat) : offP n (E ++ [i]) a b = (offP n E a b).filter fun x => decide (x ≠ i) := by
  refine sorted_ext (offP_sorted _ _ _ _) (List.Pairwise.filter _ (offP_sorted _ _ _ _)) fun x => ?_
  rw [offP_mem, List.mem_filter, offP_mem, List.mem_append, List.mem_singleton, decide_eq_true_eq]
  constructor
  · rintro ⟨h1, h2, h3⟩
    exact ⟨⟨h1, fun h => h2 (.inl h), h3⟩, fun h => h2 (.inr h)⟩
  · rintro ⟨⟨h1, h2, h3⟩, h4⟩
    exact ⟨h1, fun h => h.elim h2 h4, h3⟩
theorem offP_snoc_len (n : Nat) (E a b : List Nat) (i : Nat) : (offP n E a b).length ≤ (offP n (E ++ [i]) a b).length + 1 := by
  have h : (offP n E a b).length ≤ (i :: offP n (E ++ [i]) a b).length := by
    refine nodup_le _ _ (offP_nodup _ _ _ _) fun x hx => ?_
    by_cases e : x = i
    · simp [e]
    · refine List.mem_cons_of_mem _ ?_
      rw [offP_snoc, List.mem_filter]
      exact ⟨hx, decide_eq_true e⟩
  simpa using h
theorem offP_snoc_head {n : Nat} {E a b T : List Nat} {i : Nat} (h : offP n E a b = i :: T) : offP n (E ++ [i]) a b = T := by
  have hs := offP_sorted n E a b
  rw [offP_snoc, h, List.filter_cons_of_neg (by simp)]
  rw [h] at hs
  have := (List.pairwise_cons.1 hs).1
  rw [List.filter_eq_self]
  intro x hx
  exact decide_eq_true (by have := this x hx; omega)
/-- A right word that differs at some places and at no more others, all from a place on. -/
def Near (n P : Nat) (word pl : List Nat) (from_ more : Nat) (o : List Nat) : Prop := bytesL o ∧ o.length = n ∧ rightB o P = true ∧ (∀ i ∈ offP n pl o word, from_ ≤ i) ∧ (offP n pl o word).length ≤ more
theorem Near.step {n P : Nat} {word pl : List Nat} {from_ more : Nat} {o : List Nat} (h : Near n P word pl from_ (more + 1) o) (h0 : offP n pl o word ≠ []) : ∃ i, from_ ≤ i ∧ i < n ∧ i ∉ pl ∧ Near n P word (pl ++ [i]) (i + 1) more o := by
  obtain ⟨h1, h2, h3, h4, h5⟩ := h
  cases hT : offP n pl o word with
  | nil => exact absurd hT h0
  | cons i T =>
    have hi : i ∈ offP n pl o word := by rw [hT]; simp
    have hs := offP_sorted n pl o word
    rw [hT] at hs h5
    have hgt := (List.pairwise_cons.1 hs).1
    have := offP_mem.1 hi
    refine ⟨i, h4 i hi, this.1, this.2.1, h1, h2, h3, ?_, ?_⟩
    · rw [offP_snoc_head hT]; exact hgt
    · rw [offP_snoc_head hT]; simp at h5; omega
/-- It agrees but for the places. -/
def Agrees (n P : Nat) (word pl o : List Nat) : Prop := bytesL o ∧ o.length = n ∧ rightB o P = true ∧ ∀ i, i < n → i ∉ pl → o.getD i 0 = word.getD i 0
theorem Agrees.off {n P : Nat} {word pl o : List Nat} (h : Agrees n P word pl o) : offP n pl o word = [] := by
  rw [List.eq_nil_iff_forall_not_mem]
  intro i hi
  have := offP_mem.1 hi
  exact this.2.2 (h.2.2.2 i this.1 this.2.1)
theorem Agrees.near {n P : Nat} {word pl o : List Nat} (h : Agrees n P word pl o) (from_ more : Nat) : Near n P word pl from_ more o := by
  have e := h.off
  exact ⟨h.1, h.2.1, h.2.2.1, fun i hi => by rw [e] at hi; simp at hi, by rw [e]; exact Nat.zero_le _⟩
theorem Near.agrees {n P : Nat} {word pl o : List Nat} {from_ more : Nat} (h : Near n P word pl from_ more o) (h0 : offP n pl o word = []) : Agrees n P word pl o := by
  refine ⟨h.1, h.2.1, h.2.2.1, fun i hi hin => ?_⟩
  by_cases e : o.getD i 0 = word.getD i 0
  · exact e
  · have : i ∈ offP n pl o word := offP_mem.2 ⟨hi, hin, e⟩
    rw [h0] at this
    simp at this
theorem Near.zero {n P : Nat} {word pl o : List Nat} {from_ : Nat} (h : Near n P word pl from_ 0 o) : Agrees n P word pl o := h.agrees (List.eq_nil_of_length_eq_zero (by have := h.2.2.2.2; omega))
theorem Near.up {n P : Nat} {word pl o : List Nat} {i m : Nat} (h : Near n P word (pl ++ [i]) 0 m o) : Near n P word pl 0 (m + 1) o :=
  ⟨h.1, h.2.1, h.2.2.1, fun _ _ => Nat.zero_le _, by have := offP_snoc_len n pl o word i; have := h.2.2.2.2; omega⟩
theorem Near.none {n P : Nat} {word pl : List Nat} {from_ m : Nat} (h0 : ∀ o, ¬ Agrees n P word pl o) (h1 : ∀ i, from_ ≤ i → i < n → i ∉ pl → ∀ o, ¬ Near n P word (pl ++ [i]) (i + 1) m o) (o : List Nat) : ¬ Near n P word pl from_ (m + 1) o := by
  intro h
  by_cases e : offP n pl o word = []
  · exact h0 o (h.agrees e)
  · obtain ⟨i, h2, h3, h4, h5⟩ := h.step e
    exact h1 i h2 h3 h4 o h5
end Tri

namespace Go.Proofs.Ytgckhekikcdaiaa
open Go.RowKit Tri

/-- append of the whole numbers of a slice onto an own row. -/
theorem wpList_pushIs {wr : World} {ops : Array Oper} {rest : List Oper} {o : Oper} {a : Act} {Q : Exit → Act → World → Prop} (hgd : o.guard = none) (s x : Operand)
    (ho : o.op = .call { callee := .builtin .append, args := #[s, x], argTypes := #[41, 41] })
    (base : Nat) (v : Value) (l y : List Nat) (b f : Nat) (c : Nat) (hown : rowK wr base 3 .i64 v l) (hq : cellsI wr (some ⟨b, f, none⟩) y) (hs : a.eval s = v) (n : Nat) (hn : n = y.length) (hx : a.eval x = .slice (some ⟨b, f, none⟩) n c) (hlen : l.length ≤ 1000000) (hlen2 : y.length ≤ 1000000) (hbase : base ≤ wr.heap.size)
    (h : ∀ v' w', rowK w' base 3 .i64 v' (l ++ y) → Below base wr w' → (v ≠ .slice none 0 0 → v' ≠ .slice none 0 0) → wpList Try.prog ops Q rest (a.put o.dst v') w') : wpList Try.prog ops Q (o :: rest) a wr := by
  subst hn
  obtain ⟨i0, hi, hz0, hz1, hz2⟩ := info_parts Try.infoI
  refine wpList_append_own wr hgd s x 41 ho base 3 i0 (.int .i64 0) 1 8 Try.underlying41 hi hz0 hz1 hz2 rfl (by decide) v l.length (l.map fun x => Value.int .i64 (x : Nat)) hs hown
    ⟨b, f, none⟩ y.length c (y.map fun x => Value.int .i64 (x : Nat)) hx (by simp) ?_ ?_ ?_ ?_ hbase ?_
  · intro j u hj
    rw [List.getElem?_map] at hj
    have hlt : j < y.length := by
      by_cases h : j < y.length
      · exact h
      · rw [List.getElem?_eq_none (by omega)] at hj; simp at hj
    obtain ⟨a', o', e, hc⟩ := hq j hlt
    simp only [Option.some.injEq, Addr.mk.injEq] at e
    obtain ⟨rfl, rfl, _⟩ := e
    rw [List.getElem?_eq_getElem hlt] at hj
    simp only [Option.map_some, Option.some.injEq] at hj
    subst hj
    rw [getD_of y j hlt] at hc
    rw [show (⟨b, f, none⟩ : Addr).add j = ⟨b, f + j, none⟩ from by simp [Addr.add]]
    exact hc
  · intro u hu; rw [List.mem_map] at hu; obtain ⟨x, _, rfl⟩ := hu; rfl
  · unfold maxLen; omega
  · omega
  · intro v' w' h2 h3 h4
    refine h v' w' ?_ ?_ fun hv hv' => hv (h4.1 hv').1
    · unfold rowK; rw [List.length_append, List.map_append]; exact h2
    · refine (Below.refl base wr).grown h3 hbase ?_
      intro k hk
      exact (hown.lt k hk).1
set_option maxHeartbeats 2000000 in
set_option maxRecDepth 100000 in
theorem ref7_has (pp : Option Addr) (cp : Nat) (l : List Nat) (x : Nat) (w : World) (hp : cellsI w pp l) (hl : l.length ≤ 1000000) :
    Calls Try.prog 57 #[.slice pp l.length cp, .int .i64 (x : Nat)] w fun e w' => e = .returned (.bool (l.contains x)) ∧ w = w' := by
  have HP := hid hp
  have HR : Hid (∀ b, (x ∈ l ↔ b = true) → l.contains x = b) := by
    intro b hb
    rw [Bool.eq_iff_iff, List.contains_iff_mem]
    exact hb
  clear hp
  generalize l.contains x = R at *
  (go_enter Try.func57, Try.ntmps57; try simp only [List.append])
  go_wp2_with ((with_reducible refine wpList_unguard ?_ ?_); (focus rfl))
  go_loopw [5] (fun v wr => ∃ k : Nat, k ≤ l.length ∧ v = .int .i64 k ∧ wr = w ∧ x ∉ l.take k) (fun v _ => l.length - (intOf v).toNat)
  case atStart => exact ⟨0, Nat.zero_le _, rfl, rfl, by simp⟩
  case round =>
    obtain ⟨k, hk, rfl, rfl, ht⟩ := hrel
    have HT := hid ht
    clear ht
    by_cases hlt : k < l.length
    · obtain ⟨b, o, rfl, hc⟩ := HP.out k hlt
      have HM : Hid (x ∈ l.take (k + 1) ↔ x ∈ l.take k ∨ x = l.getD k 0) := take_mem_succ hlt x
      have HIn : Hid (l.getD k 0 ∈ l) := by show _ ∈ _; rw [getD_of _ _ hlt]; exact List.getElem_mem hlt
      generalize l.getD k 0 = y at *
      by_cases hxy : y = x
      · have q : ((y : Int) == (x : Int)) = true := by rw [beq_iff_eq]; omega
        have q' : (y == x) = true := by rw [beq_iff_eq]; omega
        have hr := HR.out true ⟨fun _ => rfl, fun _ => by rw [← hxy]; exact HIn.out⟩
        subst hr
        clear hxy
        go_wp2_with ((with_reducible refine wpList_unguard ?_ ?_); (focus rfl))
        go_ret
        exact ⟨rfl, rfl⟩
      · have q : ((y : Int) == (x : Int)) = false := by rw [beq_eq_false_iff_ne]; omega
        have q' : (y == x) = false := by rw [beq_eq_false_iff_ne]; omega
        have HN : Hid (x ∉ l.take (k + 1)) := fun h => by
          rcases HM.out.1 h with h | h
          · exact HT.out h
          · exact hxy h.symm
        clear hxy
        go_wp2_with ((with_reducible refine wpList_unguard ?_ ?_); (focus rfl))
        go_roundw
        case rel => exact ⟨k + 1, by omega, by go_num, trivial, HN.out⟩
        case measure => simp [intOf]; omega
    · have hk2 : l.take k = l := List.take_of_length_le (by omega)
      have hr := HR.out false ⟨fun h => absurd h (by have := HT.out; rw [hk2] at this; exact this), fun h => by cases h⟩
      subst hr
      clear hk2
      go_wp2_with ((with_reducible refine wpList_unguard ?_ ?_); (focus rfl))
      go_ret
      exact ⟨rfl, rfl⟩
set_option maxHeartbeats 4000000 in
set_option maxRecDepth 100000 in
theorem ref7_try (n k : Nat) (hk : k < n) (hn : n ≤ 255) (pw : Option Addr) (cw : Nat) (word : List Nat) (hbw : bytesL word) (hl : word.length = n) : ∀ (more : Nat) (b f cp : Nat) (pl : List Nat) (from_ : Nat) (w : World), cellsB w pw word → cellsI w (some ⟨b, f, none⟩) pl → pl.Nodup → (∀ i ∈ pl, i < n) → pl.length + more ≤ n - k → from_ ≤ 1000 →
    Calls Try.prog 58 #[.slice pw word.length cw, .int .i64 n, .int .i64 k, .slice (some ⟨b, f, none⟩) pl.length cp, .int .i64 from_, .int .i64 more] w fun e w' => Below w.heap.size w w' ∧
      ((∃ p c o, e = .returned (.tuple #[.slice p o.length c, .bool true]) ∧ o.length ≤ c ∧ cellsB w' p o ∧ Near n (n - k) word pl 0 more o) ∨
       (e = .returned (.tuple #[.slice none 0 0, .bool false]) ∧ ∀ o, ¬ Near n (n - k) word pl from_ more o)) := by
  intro more
  have key : ∀ (b f cp : Nat) (pl : List Nat) (w : World), cellsB w pw word → cellsI w (some ⟨b, f, none⟩) pl → pl.Nodup → (∀ i ∈ pl, i < n) → pl.length ≤ n - k → Hid (Calls Try.prog 42 #[.slice pw word.length cw, .int .i64 n, .int .i64 k, .slice (some ⟨b, f, none⟩) pl.length cp] w fun e w' => Below w.heap.size w w' ∧
      ((∃ p c o, e = .returned (.tuple #[.slice p o.length c, .bool true]) ∧ o.length ≤ c ∧ cellsB w' p o ∧ Agrees n (n - k) word pl o) ∨ (e = .returned (.tuple #[.slice none 0 0, .bool false]) ∧ ∀ o, ¬ Agrees n (n - k) word pl o))) := by
    intro b f cp pl w hw hp hpl hm ht
    refine (ref6_Solve pw cw word n k (some ⟨b, f, none⟩) cp pl w hw hbw hl hk hn hp hpl hm ht).mono ?_
    rintro e w' ⟨h1, ⟨p, c, o, h2, h3, h4, h5, h6, h7, h8⟩ | ⟨h2, h3⟩⟩
    · exact ⟨h1, .inl ⟨p, c, o, h2, h3, h4, h5, h6, h7, h8⟩⟩
    · exact ⟨h1, .inr ⟨h2, fun o ho => h3 ⟨o, ho.1, ho.2.1, ho.2.2.1, ho.2.2.2⟩⟩⟩
  have hl255 : word.length ≤ 255 := by omega
  have HBW := hid hbw
  have HL := hid hl
  clear hbw hl
  induction more with
  | zero =>
    intro b f cp pl from_ w hw hp hpl hm ht hf
    have hSo := key b f cp pl w hw hp hpl hm (by omega)
    clear key hw hp hpl hm
    (go_enter Try.func58, Try.ntmps58; try simp only [List.append])
    go_wp2_with ((with_reducible refine wpList_unguard ?_ ?_); (focus rfl))
    refine Calls.mono hSo.out ?_; rintro e w1 ⟨hb, ⟨p, c, o, rfl, ho1, ho2, ho3⟩ | ⟨rfl, hno⟩⟩
    · have HB := hid hb
      have HO1 := hid ho1
      have HO2 := hid ho2
      have HO3 := hid (ho3.near 0 0)
      clear hb ho1 ho2 ho3 hSo
      go_wp2_with ((with_reducible refine wpList_unguard ?_ ?_); (focus rfl))
      go_ret2
      exact ⟨HB.out, .inl ⟨p, c, o, rfl, HO1.out, HO2.out, HO3.out⟩⟩
    · have HB := hid hb
      have HNO : Hid (∀ o, ¬ Near n (n - k) word pl from_ 0 o) := fun o ho => hno o ho.zero
      clear hb hno hSo
      go_wp2_with ((with_reducible refine wpList_unguard ?_ ?_); (focus rfl))
      go_ret2
      exact ⟨HB.out, .inr ⟨rfl, HNO.out⟩⟩
  | succ m ih =>
    intro b f cp pl from_ w hw hp hpl hm ht hf
    have hSo := key b f cp pl w hw hp hpl hm (by omega)
    have HW := hid hw
    have HP := hid hp
    have HPL := hid hpl
    have HM := hid hm
    have HIH := hid ih
    have hm255 : m ≤ 255 := by omega
    have hpl255 : pl.length ≤ 255 := by omega
    have HT := hid ht
    clear key hw hp hpl hm ih ht
    obtain ⟨q, hq⟩ : ∃ q, m + 1 = q := ⟨_, rfl⟩
    rw [hq]
    have hq0 : ((q : Int) == 0) = false := by rw [beq_eq_false_iff_ne]; omega
    have hq0' : (q == 0) = false := by rw [beq_eq_false_iff_ne]; omega
    have hqm : (q : Int) - 1 = (m : Int) := by omega
    have hwm : IntKind.i64.wrap (m : Int) = (m : Int) := by rw [IntKind.wrap_i64]; omega
    have HQ := hid hq
    clear hq
    (go_enter Try.func58, Try.ntmps58; try simp only [List.append])
    go_wp2_with ((with_reducible refine wpList_unguard ?_ ?_); (focus rfl))
    refine Calls.mono hSo.out ?_; rintro e w1 ⟨hb, ⟨p, c, o, rfl, ho1, ho2, ho3⟩ | ⟨rfl, hno⟩⟩
    · have HB := hid hb
      have HO1 := hid ho1
      have HO2 := hid ho2
      have HO3 := hid (ho3.near 0 q)
      clear hb ho1 ho2 ho3 hSo
      go_wp2_with ((with_reducible refine wpList_unguard ?_ ?_); (focus rfl))
      go_ret2
      exact ⟨HB.out, .inl ⟨p, c, o, rfl, HO1.out, HO2.out, HO3.out⟩⟩
    · have HB1 := hid hb
      have HNO := hid hno
      clear hb hno hSo
      go_wp2_with ((with_reducible refine wpList_unguard ?_ ?_); (focus rfl))
      go_loopw [16] (fun v wr => ∃ i : Nat, from_ ≤ i ∧ i ≤ 1000 ∧ v = .int .i64 i ∧ Below w.heap.size w wr ∧ ∀ x, from_ ≤ x → x < i → x < n → x ∉ pl → ∀ o, ¬ Near n (n - k) word (pl ++ [x]) (x + 1) m o) (fun v _ => n - (intOf v).toNat)
      case atStart => exact ⟨from_, Nat.le_refl _, hf, rfl, HB1.out, fun x h1 h2 => by omega⟩
      case round =>
        clear HB1
        obtain ⟨i, hi1, hi2, rfl, hb, hno⟩ := hrel
        have HB := hid hb
        have HNi := hid hno
        clear hb hno
        by_cases hlt : i < n
        · have hHas := hid (ref7_has (some ⟨b, f, none⟩) cp pl i wr (HP.out.below HB.out) (by omega))
          go_wp2_with ((with_reducible refine wpList_unguard ?_ ?_); (focus rfl))
          refine Calls.mono hHas.out ?_; rintro e w2 ⟨rfl, rfl⟩
          clear hHas
          cases hc : pl.contains i with
          | true =>
            have HN2 : Hid (∀ x, from_ ≤ x → x < i + 1 → x < n → x ∉ pl → ∀ o, ¬ Near n (n - k) word (pl ++ [x]) (x + 1) m o) := fun x h1 h2 h3 h4 => by
              by_cases e : x = i
              · exact absurd (List.contains_iff_mem.1 hc) (by rw [← e]; exact h4)
              · exact HNi.out x h1 (by omega) h3 h4
            clear hc
            go_wp2_with ((with_reducible refine wpList_unguard ?_ ?_); (focus rfl))
            go_roundw
            case rel => exact ⟨i + 1, by omega, by omega, by go_num, HB.out, HN2.out⟩
            case measure => simp [intOf]; omega
          | false =>
            have hni : i ∉ pl := fun h => by rw [List.contains_iff_mem.2 h] at hc; cases hc
            have HNI := hid hni
            have hR0 : rowK (wr.alloc (.cells #[] 3)) wr.heap.size 3 .i64 (.slice (some ⟨wr.heap.size, 0, none⟩) 0 0) [] := World.ownsRow_lit wr #[] 0 (Nat.le_refl _) (by unfold maxLen; omega) rfl
            have hA0 : Below wr.heap.size wr (wr.alloc (.cells #[] 3)) := (Below.refl _ _).alloc (Nat.le_refl _) _
            have hPa := (HP.out.below HB.out).below hA0
            clear hc hni
            go_wp2_with (at_builtin; refine wpList_pushIs rfl _ _ rfl wr.heap.size _ [] pl b f cp hR0 hPa rfl _ rfl rfl (by simp) (by omega) hA0.size ?_)
            intro v1 w2 hr1 hb1 hv1
            have hr1 : rowK w2 wr.heap.size 3 .i64 v1 pl := hr1
            have hb01 := hA0.trans hb1
            obtain ⟨inf, hi, hz0, hz1, hz2⟩ := info_parts Try.infoI
            go_wp2_with (at_builtin; refine wpList_push rfl _ _ 41 rfl wr.heap.size 3 inf .i64 8 Try.underlying41 hi hz0 hz1 hz2 (by decide) _ pl i hr1 rfl _ rfl rfl (by omega) hb01.size ?_)
            intro v2 w3 hr2 hb2
            have hb03 := hb01.trans hb2
            obtain ⟨g, c2, rfl, hrx, hgb, hc2⟩ := rowK_rowX hr2 (by simp)
            have hci : cellsI w3 (some ⟨g, 0, none⟩) (pl ++ [i]) := fun j hj => ⟨g, 0, rfl, by rw [Nat.zero_add]; exact hrx.cell hj⟩
            have HB3 := hid (HB.out.trans (hb03.mono HB.out.size))
            have hRec := hid (HIH.out g 0 c2 (pl ++ [i]) (i + 1) w3 (HW.out.below HB3.out) hci (List.nodup_append.2 ⟨HPL.out, by simp, fun a ha b hb e => by simp at hb; exact HNI.out (by rw [← hb, ← e]; exact ha)⟩) (fun x hx => by
              rcases List.mem_append.1 hx with h | h
              · exact HM.out x h
              · simp at h; omega) (by rw [List.length_append, List.length_singleton]; have := HT.out; omega) (by omega))
            have hlen : Hid ((pl ++ [i]).length = pl.length + 1) := by show _ = _; simp
            clear hR0 hA0 hPa hr1 hb1 hv1 hb01 hr2 hb2 hb03 hrx hgb hc2 hci hi hz0 hz1 hz2
            rw [hlen.out, show ((i + 1 : Nat) : Int) = (i : Int) + 1 from by omega] at hRec
            rw [hlen.out]
            go_wp2_with ((with_reducible refine wpList_unguard ?_ ?_); (focus rfl))
            (with_reducible refine Calls.mono hRec.out ?_)
            rintro e w4 ⟨hb4, ⟨p, c, o, rfl, ho1, ho2, ho3⟩ | ⟨rfl, hno⟩⟩
            · have HB4 := hid (HB3.out.trans (hb4.mono HB3.out.size))
              have HO1 := hid ho1
              have HO2 := hid ho2
              have HO3 : Hid (Near n (n - k) word pl 0 q o) := by show Near _ _ _ _ _ _ _; rw [← HQ.out]; exact ho3.up
              clear hb4 ho1 ho2 ho3 hRec
              go_wp2_with ((with_reducible refine wpList_unguard ?_ ?_); (focus rfl))
              go_ret2
              exact ⟨HB4.out, .inl ⟨p, c, o, rfl, HO1.out, HO2.out, HO3.out⟩⟩
            · have HB4 := hid (HB3.out.trans (hb4.mono HB3.out.size))
              have HN2 : Hid (∀ x, from_ ≤ x → x < i + 1 → x < n → x ∉ pl → ∀ o, ¬ Near n (n - k) word (pl ++ [x]) (x + 1) m o) := fun x h1 h2 h3 h4 => by
                by_cases e : x = i
                · rw [e]; exact hno
                · exact HNi.out x h1 (by omega) h3 h4
              clear hb4 hno hRec
              go_wp2_with ((with_reducible refine wpList_unguard ?_ ?_); (focus rfl))
              go_roundw
              case rel => exact ⟨i + 1, by omega, by omega, by go_num, HB4.out, HN2.out⟩
              case measure => simp [intOf]; omega
        · have HNO2 : Hid (∀ o, ¬ Near n (n - k) word pl from_ q o) := by
            rw [← HQ.out]
            exact fun o => Near.none HNO.out (fun x h1 h2 h3 => HNi.out x h1 (by omega) h2 h3) o
          go_wp2_with ((with_reducible refine wpList_unguard ?_ ?_); (focus rfl))
          go_ret2
          exact ⟨HB.out, .inr ⟨rfl, HNO2.out⟩⟩
end Go.Proofs.Ytgckhekikcdaiaa

namespace Tri
open Go Go.RowKit Go.Proofs.Ytgckhekikcdaiaa
/-- The places asked, each once, in the order asked. -/
def ddL (er : List Int) (j : Nat) : List Nat := (er.take j).foldl (fun a x => if a.contains x.toNat then a else a ++ [x.toNat]) []
theorem ddL_zero (er : List Int) : ddL er 0 = [] := rfl
theorem ddL_succ {er : List Int} {j : Nat} (hj : j < er.length) {i : Nat} (hi : er.getD j 0 = (i : Int)) : ddL er (j + 1) = if (ddL er j).contains i then ddL er j else ddL er j ++ [i] := by
  have e : er[j] = (i : Int) := by rw [← hi, List.getD_eq_getElem?_getD, List.getElem?_eq_getElem hj]; rfl
  unfold ddL
  rw [List.take_succ_eq_append_getElem hj, List.foldl_append, e]
  rfl
theorem ddL_spec (er : List Int) : ∀ j, j ≤ er.length → (∀ x ∈ er.take j, 0 ≤ x) → (ddL er j).Nodup ∧ (ddL er j).length ≤ j ∧ ∀ i : Nat, i ∈ ddL er j ↔ (i : Int) ∈ er.take j
  | 0, _, _ => ⟨by rw [ddL_zero]; simp, by rw [ddL_zero]; simp, fun i => by rw [ddL_zero]; simp⟩
  | j + 1, hj, h => by
    have e : er.take (j + 1) = er.take j ++ [er.getD j 0] := by
      rw [List.take_succ_eq_append_getElem (show j < er.length by omega), List.getD_eq_getElem?_getD, List.getElem?_eq_getElem (show j < er.length by omega)]; rfl
    rw [e] at h ⊢
    have h0 : 0 ≤ er.getD j 0 := h _ (by simp)
    obtain ⟨i0, hi0⟩ : ∃ i0 : Nat, er.getD j 0 = (i0 : Int) := ⟨(er.getD j 0).toNat, by omega⟩
    obtain ⟨h1, h2, h3⟩ := ddL_spec er j (by omega) fun x hx => h x (by simp [hx])
    rw [ddL_succ (show j < er.length by omega) hi0, hi0]
    cases hc : (ddL er j).contains i0 with
    | true =>
      rw [if_pos rfl]
      refine ⟨h1, by omega, fun i => ?_⟩
      rw [h3, List.mem_append, List.mem_singleton]
      constructor
      · exact .inl
      · rintro (h | h)
        · exact h
        · have : i = i0 := by omega
          rw [this]
          exact (h3 i0).1 (List.contains_iff_mem.1 hc)
    | false =>
      have hn : i0 ∉ ddL er j := fun h => by rw [List.contains_iff_mem.2 h] at hc; cases hc
      rw [if_neg (by simp)]
      refine ⟨List.nodup_append.2 ⟨h1, by simp, fun a ha b hb e => hn (by simp at hb; rw [← hb, ← e]; exact ha)⟩, by rw [List.length_append]; simp; omega, fun i => ?_⟩
      rw [List.mem_append, List.mem_append, List.mem_singleton, List.mem_singleton, h3]
      constructor
      · rintro (h | h)
        · exact .inl h
        · exact .inr (by omega)
      · rintro (h | h)
        · exact .inl h
        · exact .inr (by omega)
theorem mend_near {n p : Nat} (hn : n ≤ 255) {word D : List Nat} {er : List Int} (hb : bytesL word) (hl : word.length = n) (hin : ∀ x ∈ er, 0 ≤ x ∧ x < (n : Int)) (hD : D.Nodup) (hm : ∀ i : Nat, i ∈ D ↔ (i : Int) ∈ er) :
    (p < D.length → mendW n p word (eraZ er) = none) ∧ (D.length ≤ p → (∀ o, Near n p word D 0 ((p - D.length) / 2) o → mendW n p word (eraZ er) = some o) ∧ ((∀ o, ¬ Near n p word D 0 ((p - D.length) / 2) o) → mendW n p word (eraZ er) = none)) := by
  have h0 : ∀ x ∈ er, 0 ≤ x := fun x hx => (hin x hx).1
  have hE := eraZ_nodup h0
  have hiff : ∀ i, i ∈ D ↔ i ∈ eraZ er := fun i => by rw [hm, eraZ_mem h0]
  have hle : D.length = (eraZ er).length := Nat.le_antisymm (nodup_le _ _ hD fun x hx => (hiff x).1 hx) (nodup_le _ _ hE fun x hx => (hiff x).2 hx)
  have hEn : ∀ i ∈ eraZ er, i < n := fun i hi => by have := (hin _ ((eraZ_mem h0 i).1 hi)).2; omega
  have key := mendW_iff (p := p) hn hb hl hE hEn
  have hnone : (∀ o, ¬ (bytesL o ∧ o.length = n ∧ rightB o p = true ∧ (eraZ er).length + 2 * (offP n (eraZ er) o word).length ≤ p)) → mendW n p word (eraZ er) = none := by
    intro h
    cases hm : mendW n p word (eraZ er) with
    | none => rfl
    | some o => exact absurd ((key o).1 hm) (h o)
  refine ⟨fun h => hnone fun o ho => ?_, fun h => ⟨fun o ho => ?_, fun hno => hnone fun o ho => hno o ?_⟩⟩
  · have := ho.2.2.2; omega
  · refine (key o).2 ⟨ho.1, ho.2.1, ho.2.2.1, ?_⟩
    have := ho.2.2.2.2
    rw [← offP_perm hiff]
    omega
  · refine ⟨ho.1, ho.2.1, ho.2.2.1, fun _ _ => Nat.zero_le _, ?_⟩
    rw [offP_perm hiff]
    have := ho.2.2.2
    omega
end Tri
namespace Go.Proofs.Ytgckhekikcdaiaa
open Go.RowKit Tri

set_option maxHeartbeats 4000000 in
set_option maxRecDepth 100000 in
theorem ref7_Mend (n k : Nat) (pw : Option Addr) (cw : Nat) (word : List Nat) (pe : Option Addr) (ce : Nat) (er : List Int) (w : World) (hk : k < n) (hn : n ≤ 255)
    (hw : cellsB w pw word) (hbw : bytesL word) (hlw : word.length ≤ 1000000) (hE : cellsZ w pe er) (hel : er.length ≤ 1000) :
    Calls Try.prog 30 #[.slice pw word.length cw, .int .i64 n, .int .i64 k, .slice pe er.length ce] w fun e w' => Below w.heap.size w w' ∧ MendP n k word er (mendW n (n - k) word (eraZ er)) e w' := by
  by_cases hl : word.length = n
  case neg =>
    have HP : Hid (MendP n k word er (mendW n (n - k) word (eraZ er)) (.returned (.tuple #[.slice none 0 0, .slice none 0 0, .int .i64 1])) w) := ⟨fun _ => rfl, fun h => absurd h.1 hl, fun h => absurd h.1 hl⟩
    generalize mendW n (n - k) word (eraZ er) = R at *
    have q1 : ((word.length : Int) != (n : Int)) = true := by rw [bne_iff_ne]; omega
    have q2 : (word.length != n) = true := by rw [bne_iff_ne]; omega
    clear hw hbw hE hl
    (go_enter Try.func30, Try.ntmps30; try simp only [List.append])
    go_wp2_with ((with_reducible refine wpList_unguard ?_ ?_); (focus rfl))
    go_returns
    exact ⟨Below.refl _ _, HP.out⟩
  have hMN : Hid ((∀ x ∈ er, 0 ≤ x ∧ x < (n : Int)) → (p : Nat) → p = n - k → (p < (ddL er er.length).length → mendW n (n - k) word (eraZ er) = none) ∧ ((ddL er er.length).length ≤ p → (∀ o, Near n (n - k) word (ddL er er.length) 0 ((p - (ddL er er.length).length) / 2) o → mendW n (n - k) word (eraZ er) = some o) ∧ ((∀ o, ¬ Near n (n - k) word (ddL er er.length) 0 ((p - (ddL er er.length).length) / 2) o) → mendW n (n - k) word (eraZ er) = none))) := by
    intro hin p hp
    subst hp
    obtain ⟨h1, -, h3⟩ := ddL_spec er er.length (Nat.le_refl _) fun x hx => (hin x (List.mem_of_mem_take hx)).1
    exact mend_near hn hbw hl hin h1 fun i => by rw [h3, List.take_length]
  generalize mendW n (n - k) word (eraZ er) = R at *
  have hwl : word.length ≤ 255 := by omega
  have HL := hid hl
  have HBW := hid hbw
  have HW := hid hw
  have HE := hid hE
  have q1 : ((word.length : Int) != (n : Int)) = false := by rw [bne_eq_false_iff_eq]; omega
  have q2 : (word.length != n) = false := by rw [bne_eq_false_iff_eq]; omega
  have hBad : Hid (∀ w', (¬ ∀ x ∈ er, 0 ≤ x ∧ x < (n : Int)) → MendP n k word er R (.returned (.tuple #[.slice none 0 0, .slice none 0 0, .int .i64 1])) w') := fun w' h => ⟨fun _ => rfl, fun h' => absurd h'.2 h, fun h' => absurd h'.2 h⟩
  clear hl hbw hw hE
  (go_enter Try.func30, Try.ntmps30; try simp only [List.append])
  go_wp2_with ((with_reducible refine wpList_unguard ?_ ?_); (focus rfl))
  have hR0 := hid (show rowK (w.alloc (.cells #[] 3)) w.heap.size 3 .i64 (.slice (some ⟨w.heap.size, 0, none⟩) 0 0) [] from World.ownsRow_lit w #[] 0 (Nat.le_refl _) (by unfold maxLen; omega) rfl)
  have hA0 := hid (show Below w.heap.size w (w.alloc (.cells #[] 3)) from (Below.refl _ _).alloc (Nat.le_refl _) _)
  go_loopw [12, 11] (fun v o wr => ∃ j g c : Nat, j ≤ er.length ∧ v = .int .i64 j ∧ o = .slice (some ⟨g, 0, none⟩) (ddL er j).length c ∧ rowK wr w.heap.size 3 .i64 o (ddL er j) ∧ Below w.heap.size w wr ∧ ∀ x ∈ er.take j, 0 ≤ x ∧ x < (n : Int)) (fun v _ _ => er.length - (intOf v).toNat)
  case atStart => exact ⟨0, w.heap.size, 0, Nat.zero_le _, rfl, rfl, hR0.out, hA0.out, by simp⟩
  case round =>
    clear hR0 hA0
    obtain ⟨j, g, c, hj, rfl, rfl, hrow, hb, hin⟩ := hrel
    have HRow := hid hrow
    have HB := hid hb
    have HIn := hid hin
    have HSp := hid (ddL_spec er j hj fun x hx => (hin x hx).1)
    clear hrow hb hin
    by_cases hlt : j < er.length
    · have HSu := hid (fun i hi => ddL_succ hlt (i := i) hi)
      have HTk : Hid (er.take (j + 1) = er.take j ++ [er.getD j 0]) := by
        show _ = _
        rw [List.take_succ_eq_append_getElem hlt, List.getD_eq_getElem?_getD, List.getElem?_eq_getElem hlt]; rfl
      have HMem : Hid (er.getD j 0 ∈ er) := by
        show _ ∈ _
        rw [List.getD_eq_getElem?_getD, List.getElem?_eq_getElem hlt]; exact List.getElem_mem hlt
      obtain ⟨bb, oo, rfl, hcl⟩ := (HE.out.below HB.out) j hlt
      generalize er.getD j 0 = x at *
      by_cases hx0 : x < 0
      · have HP := hid (hBad.out wr fun h => by have := (h x HMem.out).1; omega)
        go_wp2_with ((with_reducible refine wpList_unguard ?_ ?_); (focus rfl))
        go_returns
        exact ⟨HB.out, HP.out⟩
      by_cases hxn : (n : Int) ≤ x
      · have HP := hid (hBad.out wr fun h => by have := (h x HMem.out).2; omega)
        go_wp2_with ((with_reducible refine wpList_unguard ?_ ?_); (focus rfl))
        go_returns
        exact ⟨HB.out, HP.out⟩
      obtain ⟨i, rfl⟩ : ∃ i : Nat, x = i := ⟨x.toNat, by omega⟩
      have hin : i < n := by omega
      have HTk2 : Hid (∀ y ∈ er.take (j + 1), 0 ≤ y ∧ y < (n : Int)) := by
        intro y hy
        rw [HTk.out, List.mem_append, List.mem_singleton] at hy
        rcases hy with h | h
        · exact HIn.out y h
        · omega
      have HS1 := hid (HSu.out i rfl)
      have hdl := HSp.out.2.1
      have hbs := HB.out.size
      clear hBad hMN HTk HMem HSu HIn
      generalize hDj : ddL er j = D at *
      have hci : Hid (cellsI wr (some ⟨g, 0, none⟩) D) := by
        by_cases h0 : D = []
        · rw [h0]; exact cellsI.nil _ _
        · obtain ⟨g', c', e, hx, -, -⟩ := rowK_rowX HRow.out h0
          simp only [Value.slice.injEq, Option.some.injEq, Addr.mk.injEq, and_true, true_and] at e
          obtain ⟨rfl, rfl⟩ := e
          exact fun j hj => ⟨g, 0, rfl, by rw [Nat.zero_add]; exact hx.cell hj⟩
      clear hDj
      have hHas := hid (ref7_has (some ⟨g, 0, none⟩) c D i wr hci.out (by omega))
      have d1 : decide ((i : Int) < 0) = false := decide_eq_false (by omega)
      have d2 : decide ((n : Int) ≤ (i : Int)) = false := decide_eq_false (by omega)
      go_wp2_with ((with_reducible refine wpList_unguard ?_ ?_); (focus rfl))
      refine Calls.mono hHas.out ?_; rintro e w2 ⟨rfl, rfl⟩
      clear hHas
      cases hc : D.contains i with
      | true =>
        have HD2 : Hid (ddL er (j + 1) = D) := by show _ = _; rw [HS1.out, hc, if_pos rfl]
        clear hc
        go_wp2_with ((with_reducible refine wpList_unguard ?_ ?_); (focus rfl))
        go_roundw
        case rel => exact ⟨j + 1, g, c, by omega, by go_num, by rw [HD2.out], by rw [HD2.out]; exact HRow.out, HB.out, HTk2.out⟩
        case measure => simp [intOf]; omega
      | false =>
        have HD2 : Hid (ddL er (j + 1) = D ++ [i]) := by show _ = _; rw [HS1.out, hc, if_neg (by simp)]
        clear hc HS1
        obtain ⟨inf, hi, hz0, hz1, hz2⟩ := info_parts Try.infoI
        go_wp2_with (at_builtin; refine wpList_push rfl _ _ 41 rfl w.heap.size 3 inf .i64 8 Try.underlying41 hi hz0 hz1 hz2 (by decide) _ D i HRow.out rfl _ rfl rfl (by omega) hbs ?_)
        intro v2 w3 hr2 hb2
        obtain ⟨g2, c2, rfl, hrx, hgb, hc2⟩ := rowK_rowX hr2 (by simp)
        have HR3 := hid hr2
        have HB3 := hid (HB.out.trans hb2)
        clear hr2 hb2 hrx hgb hc2 hi hz0 hz1 hz2
        go_wp2_with ((with_reducible refine wpList_unguard ?_ ?_); (focus rfl))
        go_roundw
        case rel => exact ⟨j + 1, g2, c2, by omega, by go_num, by rw [HD2.out], by rw [HD2.out]; exact HR3.out, HB3.out, HTk2.out⟩
        case measure => simp [intOf]; omega
    · obtain rfl : j = er.length := by omega
      have hin : ∀ x ∈ er, 0 ≤ x ∧ x < (n : Int) := fun x hx => HIn.out x (by rw [List.take_length]; exact hx)
      have HNR := hid (hMN.out hin (n - k) rfl)
      have HIN := hid hin
      have hmem : Hid (∀ i ∈ ddL er er.length, i < n) := fun i hi => by have := (hin _ (by have := (HSp.out.2.2 i).1 hi; rwa [List.take_length] at this)).2; omega
      have hNone : Hid (∀ w', R = none → MendP n k word er R (.returned (.tuple #[.slice none 0 0, .slice none 0 0, .int .i64 8])) w') := fun w' h => ⟨fun h' => absurd ⟨HL.out, hin⟩ h', fun _ _ => rfl, fun _ o ho => by rw [h] at ho; cases ho⟩
      have hdl := HSp.out.2.1
      have hnd := hid HSp.out.1
      clear hin hBad hMN HIn HSp
      generalize hDj : ddL er er.length = D at *
      clear hDj
      have hci : Hid (cellsI wr (some ⟨g, 0, none⟩) D) := by
        by_cases h0 : D = []
        · rw [h0]; exact cellsI.nil _ _
        · obtain ⟨g', c', e, hx, -, -⟩ := rowK_rowX HRow.out h0
          simp only [Value.slice.injEq, Option.some.injEq, Addr.mk.injEq, and_true, true_and] at e
          obtain ⟨rfl, rfl⟩ := e
          exact fun j hj => ⟨g, 0, rfl, by rw [Nat.zero_add]; exact hx.cell hj⟩
      have hw1 : IntKind.i64.wrap ((n : Int) - (k : Int)) = (n : Int) - (k : Int) := by rw [IntKind.wrap_i64]; omega
      have hnk : (n : Int) - (k : Int) = ((n - k : Nat) : Int) := by omega
      by_cases hbig : n - k < D.length
      · have HP := hid (hNone.out wr (HNR.out.1 hbig))
        have d1 : decide (((n - k : Nat) : Int) < (D.length : Int)) = true := decide_eq_true (by omega)
        rw [← hnk] at d1
        go_wp2_with ((with_reducible refine wpList_unguard ?_ ?_); (focus rfl))
        go_returns
        exact ⟨HB.out, HP.out⟩
      · obtain ⟨HS, HN⟩ := HNR.out.2 (by omega)
        have HS := hid HS
        have HN := hid HN
        have d1 : decide (((n - k : Nat) : Int) < (D.length : Int)) = false := decide_eq_false (by omega)
        rw [← hnk] at d1
        obtain ⟨more, hmore⟩ : ∃ more, (n - k - D.length) / 2 = more := ⟨_, rfl⟩
        rw [hmore] at HS HN
        have hq : IntKind.i64.wrap (((n : Int) - (k : Int) - (D.length : Int)).tdiv 2) = (more : Int) := by
          rw [show (n : Int) - (k : Int) - (D.length : Int) = ((n - k - D.length : Nat) : Int) from by omega, show (2 : Int) = ((2 : Nat) : Int) from rfl, ← Int.ofNat_tdiv, hmore, IntKind.wrap_i64]
          omega
        have hw2 : IntKind.i64.wrap ((n : Int) - (k : Int) - (D.length : Int)) = (n : Int) - (k : Int) - (D.length : Int) := by rw [IntKind.wrap_i64]; omega
        have hTry := hid (ref7_try n k hk hn pw cw word HBW.out HL.out more g 0 c D 0 wr (HW.out.below HB.out) hci.out hnd.out hmem.out (by omega) (by omega))
        clear HNR hmem hmore hnk hci hnd
        go_wp2_with ((with_reducible refine wpList_unguard ?_ ?_); (focus rfl))
        (with_reducible refine Calls.mono hTry.out ?_)
        rintro e w4 ⟨hb4, ⟨p, d, o, rfl, ho1, ho2, ho3⟩ | ⟨rfl, hno⟩⟩
        · have hR := HS.out o ho3
          subst hR
          have hol : o.length = n := ho3.2.1
          have HO1 := hid ho1
          have HO2 := hid ho2
          have HB4 := hid (HB.out.trans (hb4.mono HB.out.size))
          have HFin : Hid (∀ p' c' w', (unkL word o n).length ≤ c' → cellsB w' p o → cellsI w' p' (unkL word o n) → MendP n k word er (some o) (.returned (.tuple #[.slice p o.length d, .slice p' (unkL word o n).length c', .int .i64 0])) w') := by
            intro p' c' w' h1 h2 h3
            refine ⟨fun h => absurd ⟨HL.out, HIN.out⟩ h, (fun _ h => by cases h), fun _ o' ho' => ?_⟩
            cases ho'
            exact ⟨p, d, p', c', rfl, HO1.out, h1, h2, h3⟩
          have HOL := hid hol
          have HW4 := hid (HW.out.below HB4.out)
          clear hb4 ho1 ho2 ho3 hTry HS HN hNone HB HRow hol d1 hq hw1 hw2
          obtain ⟨L, hL⟩ : ∃ L, o.length = L := ⟨_, rfl⟩
          rw [hL] at HFin ⊢
          have HLL : Hid (o.length = L) := hid hL
          have hLn : L = n := by rw [← hL]; exact HOL.out
          clear hL
          subst hLn
          clear q1 q2
          go_wp2_with ((with_reducible refine wpList_unguard ?_ ?_); (focus rfl))
          have hR0 := hid (show rowK (w4.alloc (.cells #[] 3)) w4.heap.size 3 .i64 (.slice (some ⟨w4.heap.size, 0, none⟩) 0 0) [] from World.ownsRow_lit w4 #[] 0 (Nat.le_refl _) (by unfold maxLen; omega) rfl)
          have hA0 := hid (show Below w4.heap.size w4 (w4.alloc (.cells #[] 3)) from (Below.refl _ _).alloc (Nat.le_refl _) _)
          go_loopw [16, 15] (fun v u wr => ∃ j : Nat, j ≤ L ∧ v = .int .i64 j ∧ rowK wr w4.heap.size 3 .i64 u (unkL word o j) ∧ Below w4.heap.size w4 wr) (fun v _ _ => L - (intOf v).toNat)
          case atStart => exact ⟨0, Nat.zero_le _, rfl, hR0.out, hA0.out⟩
          case round =>
            clear hR0 hA0
            obtain ⟨j, hj, rfl, hO, hB⟩ := hrel
            have HO := hid hO
            have HB := hid hB
            clear hO hB
            by_cases hlt : j < L
            · have hltb : j < word.length := by have := HL.out; omega
              have hlto : j < o.length := by have := HLL.out; omega
              have hltbz : (j : Int) < (word.length : Int) := by omega
              obtain ⟨a1, o1, rfl, hc1⟩ := (HO2.out.below HB.out) j hlto
              obtain ⟨a2, o2, rfl, hc2⟩ := (HW4.out.below HB.out) j hltb
              have HS := hid (unkL_succ word o j)
              have hdl := unkL_len word o j
              have hbs := HB.out.size
              have hU : unkB word o j = decide (word.getD j 0 ≠ o.getD j 0) := rfl
              generalize o.getD j 0 = x at *
              generalize word.getD j 0 = y at *
              generalize unkL word o j = D' at *
              obtain ⟨inf, hi, hz0, hz1, hz2⟩ := info_parts Try.infoI
              have HO2d := hid (show rowK wr.drew w4.heap.size 3 .i64 u15 D' from HO.out)
              clear hlto
              by_cases hxy : x = y
              · have q : ((x : Int) != (y : Int)) = false := by rw [bne_eq_false_iff_eq]; omega
                have hS2 : Hid (unkL word o (j + 1) = D') := by show _ = _; rw [HS.out, show unkB word o j = false from by rw [hU, hxy]; simp]; rfl
                clear hU hxy
                go_upto_region 20 with fail
                go_region
                go_wp2_with ((with_reducible refine wpList_unguard ?_ ?_); (focus rfl))
                go_roundw
                case rel => exact ⟨j + 1, by omega, by go_num, by rw [hS2.out]; exact HO2d.out, HB.out.drew⟩
                case measure => simp [intOf]; omega
              · have q : ((x : Int) != (y : Int)) = true := by rw [bne_iff_ne]; omega
                have hS2 : Hid (unkL word o (j + 1) = D' ++ [j]) := by show _ = _; rw [HS.out, show unkB word o j = true from by rw [hU]; exact decide_eq_true (Ne.symm hxy)]; rfl
                clear hU hxy
                go_upto_region 20 with fail
                go_region
                go_wp2_with (at_builtin; refine wpList_push (wr := wr.drew) rfl _ _ 41 rfl w4.heap.size 3 inf .i64 8 Try.underlying41 hi hz0 hz1 hz2 (by decide) _ D' j HO2d.out rfl _ rfl rfl (by omega) hbs ?_)
                intro v' w' hq hb
                have HO3 : Hid (rowK w' w4.heap.size 3 .i64 v' (D' ++ [j])) := hq
                have HB2 := hid (HB.out.drew.trans hb)
                clear hq hb hi hz0 hz1 hz2
                go_wp2_with ((with_reducible refine wpList_unguard ?_ ?_); (focus rfl))
                go_roundw
                case rel => exact ⟨j + 1, by omega, by go_num, by rw [hS2.out]; exact HO3.out, HB2.out⟩
                case measure => simp [intOf]; omega
            · obtain rfl : j = L := by omega
              obtain ⟨pu, cu, rfl, hcu, hci⟩ := rowK.ints HO.out
              have HFn := hid (HFin.out pu cu wr hcu (HO2.out.below HB.out) hci)
              have HBF := hid (HB4.out.trans (HB.out.mono HB4.out.size))
              clear hci hcu HFin
              go_wp2_with ((with_reducible refine wpList_unguard ?_ ?_); (focus rfl))
              go_returns
              exact ⟨HBF.out, HFn.out⟩
        · have HP := hid (fun w' => hNone.out w' (HN.out hno))
          have HB4 := hid (HB.out.trans (hb4.mono HB.out.size))
          clear hb4 hno hTry HS HN hNone
          go_wp2_with ((with_reducible refine wpList_unguard ?_ ?_); (focus rfl))
          go_returns
          exact ⟨HB4.out, HP.out _⟩
end Go.Proofs.Ytgckhekikcdaiaa
