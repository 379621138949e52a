/-
  RsFar, walked: codewords of unlike data differ in more bytes than the parity has; the sum of two is one.
-/
import Derived.Test.YtlipedigmokgbaaRsAny
namespace Tri
theorem errL_full (X : List Nat) (n : Nat) (h : X.length = n) : errL X n n = X := by
  unfold errL; rw [Nat.sub_self, ← h, List.take_length]; simp
theorem errL_zero (X : List Nat) (n : Nat) : errL X n 0 = List.replicate n 0 := by unfold errL; simp
theorem wt_of_eq {a b : List Nat} (h : a = b) : wt (wxor a b) = 0 := by
  subst h
  unfold wt
  rw [List.countP_eq_zero]
  intro y hy
  simp [wxor_self a y hy]
theorem far_law {a b : List Nat} {p : Nat} (ha : bytesL a) (hb : bytesL b) (hl : a.length = b.length) (hn : a.length + p ≤ 255) (hp : p ≤ 1000) (hne : a ≠ b) : p < wt (wxor (enc a p) (enc b p)) := by
  have hel : (enc a p).length = (enc b p).length := by rw [enc_length ha, enc_length hb, hl]
  have hr := right_wxor (enc_bytes ha p) (enc_bytes hb p) hel (enc_right ha p hp) (enc_right hb p hp)
  by_cases h : wt (wxor (enc a p) (enc b p)) ≤ p
  · exfalso
    have h0 := right_zero (wxor_bytes (enc_bytes ha p) (enc_bytes hb p)) (by rw [wxor_length _ _ hel, enc_length ha]; exact hn) hr h
    exact hne (enc_inj hl (wxor_zero hel (wt_zero_nil h0)))
  · omega
end Tri
namespace Go.Proofs.Ytlipedigmokgbaa
open Go.RowKit Tri

def twoX (w : World) (xb : Nat) (v0 v1 : Value) : Prop := w.cell? ⟨xb, 0, none⟩ = some v0 ∧ w.cell? ⟨xb, 1, none⟩ = some v1
theorem twoX.below {w w' : World} {xb : Nat} {v0 v1 : Value} (h : twoX w xb v0 v1) (hb : Below w.heap.size w w') : twoX w' xb v0 v1 := by
  obtain ⟨h0, h1⟩ := h
  exact ⟨by rw [hb.cell (p := ⟨xb, 0, none⟩) (block_lt_of_cell h0)]; exact h0, by rw [hb.cell (p := ⟨xb, 1, none⟩) (block_lt_of_cell h1)]; exact h1⟩

set_option maxHeartbeats 4000000 in
set_option maxRecDepth 100000 in
theorem rsFar.walk (a0 : Int) (a1 : Int) (a2 : Option Addr) (len2 cap2 : Nat) (l2 : List Nat) (b2 : Option Addr) (lem2 caq2 : Nat) (m2 : List Nat) (w : World) (w0 : (Lit.int .i64 a0).wf = true) (w1 : (Lit.int .i64 a1).wf = true) (w2 : IsBytes w a2 len2 cap2 l2 ∧ IsBytes w b2 lem2 caq2 m2) :
    Calls Try.prog 11 #[.int .i64 a0, .int .i64 a1, .agg #[.slice a2 len2 cap2, .slice b2 lem2 caq2]] w fun e w' => e = .returned (.bool true) ∧ Below w.heap.size w w' := by
  obtain ⟨⟨hn, hlc, hcap, hS, hss⟩, hn1, hlc1, hcap1, hS1, hss1⟩ := w2
  subst hn hn1
  have HS := hid hS
  have HB : Hid (bytesL l2) := hid hss
  have HS1 := hid hS1
  have HB1 : Hid (bytesL m2) := hid hss1
  have hb0 := bounds_i64 w0
  have hb1 := bounds_i64 w1
  clear hS hss w0 w1 hS1 hss1
  (go_enter Try.func11, Try.ntmps11; try simp only [List.append])
  go_wp2_with ((with_reducible refine wpList_unguard ?_ ?_); (focus rfl))
  have hBx := hid (show Below w.heap.size w (w.alloc (.cells #[.slice a2 l2.length cap2, .slice b2 m2.length caq2] 62)) from (Below.refl _ _).alloc (Nat.le_refl _) _)
  have HX0 : Hid (twoX (w.alloc (.cells #[.slice a2 l2.length cap2, .slice b2 m2.length caq2] 62)) w.heap.size (.slice a2 l2.length cap2) (.slice b2 m2.length caq2)) := ⟨by rw [World.cell?_alloc_new]; rfl, by rw [World.cell?_alloc_new]; rfl⟩
  generalize w.alloc (.cells #[.slice a2 l2.length cap2, .slice b2 m2.length caq2] 62) = wx at *
  refine Calls.mono (law06_awake wx) ?_; rintro e w3 ⟨rfl, hbA⟩
  have HX3 := hid (HX0.out.below hbA)
  have HBA := hid (hBx.out.trans (hbA.mono hBx.out.size))
  clear hbA hBx HX0
  obtain ⟨xb, hxb⟩ : ∃ xb, w.heap.size = xb := ⟨_, rfl⟩
  rw [hxb] at HX3 ⊢
  clear hxb
  go_wp2_with ((with_reducible refine wpList_unguard ?_ ?_); (focus rfl))
  refine Calls.mono (ref6_There a0 a1 w3 ⟨hb0.1, by omega⟩ ⟨hb1.1, by omega⟩) ?_; rintro e w' ⟨rfl, rfl⟩
  cases hth : thereB a0 a1 with
  | false =>
    go_wp2_with ((with_reducible refine wpList_unguard ?_ ?_); (focus rfl))
    go_ret
    exact ⟨rfl, HBA.out⟩
  | true =>
    have hthr : 1 ≤ a1 ∧ a1 < a0 ∧ a0 ≤ 255 ∧ a0 - a1 ≤ 64 := of_decide_eq_true hth
    obtain ⟨t1, t2, t3, t4⟩ := hthr
    obtain ⟨n, rfl⟩ : ∃ n : Nat, a0 = n := ⟨a0.toNat, by omega⟩
    obtain ⟨k, rfl⟩ : ∃ k : Nat, a1 = k := ⟨a1.toNat, by omega⟩
    clear hth hb0 hb1
    go_wp2_with ((with_reducible refine wpList_unguard ?_ ?_); (focus rfl))
    refine Calls.mono (gf_NewK w3 w3 (Below.refl _ _)) ?_; rintro e w4 ⟨b, rfl, K0⟩
    have K := hid K0.2
    have HX4 := hid (HX3.out.below K0.1)
    have HB4 := hid (HBA.out.trans (K0.1.mono HBA.out.size))
    clear K0 HX3 HBA
    go_wp2_with ((with_reducible refine wpList_unguard ?_ ?_); (focus rfl))
    refine Calls.mono (rs_New b n k w4 K.out (by omega) (by omega) (by omega) (by omega)) ?_
    rintro e w5 ⟨c, rfl, hR, hbel⟩
    have HR := hid hR
    have HX5 := hid (HX4.out.below hbel)
    have HB5 := hid (HB4.out.trans (hbel.mono HB4.out.size))
    clear hR hbel K HX4 HB4
    have hx0 := HX5.out.1
    go_wp2_with ((with_reducible refine wpList_unguard ?_ ?_); (focus rfl))
    clear hx0
    by_cases hlk : l2.length = k
    · have HLK := hid hlk
      have hk1 : 1 ≤ k := by omega
      refine Calls.mono (rs_Encode c b n k a2 _ cap2 l2 w5 HR.out (by omega) (by omega) (by omega) (by omega) rfl hlc (HS.out.below HB5.out) HB.out HLK.out) ?_
      rintro e w6 ⟨v6, rfl, hO, hbel⟩
      obtain ⟨p6, c6, rfl, hc6⟩ := hO.cells
      have HA6 := hid hc6
      have HR6 := hid (HR.out.below hbel)
      have HX6 := hid (HX5.out.below hbel)
      have HB6 := hid (HB5.out.trans (hbel.mono HB5.out.size))
      have HAL := hid (enc_length HB.out (n - k))
      have hx1 := HX6.out.2
      clear hO hc6 hbel HR HX5 HB5 hlk
      go_wp2_with ((with_reducible refine wpList_unguard ?_ ?_); (focus rfl))
      clear hx1
      by_cases hmk : m2.length = k
      · have HMK := hid hmk
        clear hmk
        refine Calls.mono (rs_Encode c b n k b2 _ caq2 m2 w6 HR6.out (by omega) (by omega) (by omega) (by omega) rfl hlc1 (HS1.out.below HB6.out) HB1.out HMK.out) ?_
        rintro e w7 ⟨v7, rfl, hO, hbel⟩
        obtain ⟨p7, c7, rfl, hc7⟩ := hO.cells
        have HC7 := hid hc7
        have HA7 := hid (HA6.out.below hbel)
        have HR7 := hid (HR6.out.below hbel)
        have HX7 := hid (HX6.out.below hbel)
        have HB7 := hid (HB6.out.trans (hbel.mono HB6.out.size))
        clear hO hc7 hbel HR6 HX6 HB6 HA6
        obtain ⟨q, hq⟩ : ∃ q, n - k = q := ⟨_, rfl⟩
        have hnk : (n : Int) - (k : Int) = (q : Int) := by omega
        have hwq : IntKind.i64.wrap (q : Int) = (q : Int) := by rw [IntKind.wrap_i64]; omega
        have hwn : IntKind.i64.wrap (n : Int) = (n : Int) := by rw [IntKind.wrap_i64]; omega
        have HAl : Hid ((enc l2 q).length = n) := by show _ = _; rw [enc_length HB.out, HLK.out]; omega
        have HCl : Hid ((enc m2 q).length = n) := by show _ = _; rw [enc_length HB1.out, HMK.out]; omega
        have HFar : Hid (l2 ≠ m2 → q < wt (wxor (enc l2 q) (enc m2 q))) := fun h => far_law HB.out HB1.out (by rw [HLK.out, HMK.out]) (by rw [HLK.out]; omega) (by omega) h
        have HEq : Hid (l2 = m2 → wt (wxor (enc l2 q) (enc m2 q)) = 0) := fun h => wt_of_eq (by rw [h])
        have HXr : Hid (rightB (wxor (enc l2 q) (enc m2 q)) q = true) := right_wxor (enc_bytes HB.out q) (enc_bytes HB1.out q) (by rw [HAl.out, HCl.out]) (enc_right HB.out q (by omega)) (enc_right HB1.out q (by omega))
        have HXl : Hid ((wxor (enc l2 q) (enc m2 q)).length = n) := by show _ = _; rw [wxor_length _ _ (by rw [HAl.out, HCl.out])]; exact HAl.out
        have HXb := hid (wxor_bytes (enc_bytes HB.out q) (enc_bytes HB1.out q))
        have HXg : Hid (∀ i, (wxor (enc l2 q) (enc m2 q)).getD i 0 = (enc l2 q).getD i 0 ^^^ (enc m2 q).getD i 0) := wxor_getD _ _ (by rw [HAl.out, HCl.out])
        have HAb := hid (enc_bytes HB.out q)
        have HCb := hid (enc_bytes HB1.out q)
        rw [hq] at HC7 HA7 HAL ⊢
        have HQ := hid hq
        clear hq HAL
        generalize enc l2 q = A at *
        generalize enc m2 q = C at *
        generalize wxor A C = X at *
        rw [HAl.out, HCl.out]
        have hmk := run_make_row' (P := Try.prog) 28 5 (.int .u8 0) 1 Try.underlying28 Try.infoB rfl .i64 .i64 n (by omega) (by omega)
        have HM8 := hid (bufB.made w7 n 5)
        have hB8 := hid (show Below w7.heap.size w7 (w7.alloc (.cells (madeCells #[.int .u8 0] n) 5)) from (Below.refl _ _).alloc (Nat.le_refl _) _)
        go_wp2_with ((with_reducible refine wpList_unguard ?_ ?_); (focus rfl))
        generalize w7.alloc (.cells (madeCells #[.int .u8 0] n) 5) = w8 at *
        obtain ⟨qb, hqb⟩ : ∃ qb, w7.heap.size = qb := ⟨_, rfl⟩
        have HQB : Hid (w7.heap.size ≤ qb) := by show _ ≤ _; omega
        rw [hqb] at HM8 ⊢
        clear hmk hqb
        have HE0 : Hid (errL X n 0 = List.replicate n 0) := errL_zero X n
        have HW0 : Hid (wt (errL X n 0) = 0) := by show _ = _; rw [HE0.out, wt_zeros]
        go_loopw [13, 67] (fun t i wr => ∃ j : Nat, j ≤ n ∧ i = .int .i64 j ∧ t = .int .i64 (wt (errL X n j) : Nat) ∧ wt (errL X n j) ≤ j ∧ bufB wr qb (errL X n j) ∧ Below w7.heap.size w7 wr) (fun _ i _ => n - (intOf i).toNat)
        case atStart => exact ⟨0, Nat.zero_le _, rfl, by rw [HW0.out]; rfl, by rw [HW0.out]; exact Nat.zero_le _, by rw [HE0.out]; exact HM8.out, hB8.out⟩
        case round =>
          obtain ⟨j, hj, rfl, rfl, hwt, hM, hbw⟩ := hrel
          have HM := hid hM
          have HBW := hid hbw
          clear hM hbw HM8 hB8
          by_cases hlt : j < n
          · obtain ⟨a, o, rfl, hca⟩ := HA7.out.below HBW.out j (by rw [HAl.out]; exact hlt)
            obtain ⟨a', o', rfl, hcc⟩ := HC7.out.below HBW.out j (by rw [HCl.out]; exact hlt)
            have hxa := bytesL_getD HAb.out j
            have hxc := bytesL_getD HCb.out j
            have HEl := hid (errL_length X n j hj (by rw [HXl.out]; exact hj))
            have HWS := hid (wt_errL_succ X n j (by rw [HXl.out]; exact hlt))
            have HES := hid (errL_set X n j hlt (by rw [HXl.out]; exact hlt))
            rw [HXg.out j] at HWS HES
            have hcg := HM.out.at j (by rw [HEl.out]; exact hlt)
            have hfg := HM.out.2 j (by rw [HEl.out]; exact hlt)
            have hset0 := hid (HM.out.set j (A.getD j 0 ^^^ C.getD j 0) (by rw [HEl.out]; exact hlt))
            have hbs := hid (HBW.out.drew.setCell (p := ⟨qb, j, none⟩) HQB.out (.int .u8 (A.getD j 0 ^^^ C.getD j 0 : Nat)))
            rw [← HES.out] at hset0
            generalize hw2 : wt (errL X n (j + 1)) = t2 at *
            have HW2 := hid hw2
            clear hw2
            generalize wt (errL X n j) = t at *
            generalize hc2 : errL X n (j + 1) = C2 at *
            have HC2 := hid hc2
            clear hc2
            generalize (errL X n j).getD j 0 = old at *
            generalize errL X n j = C1 at *
            generalize A.getD j 0 = x at *
            generalize C.getD j 0 = y at *
            have hxor := xor_byte x y hxa hxc
            by_cases hxy : x = y
            · have HWE : Hid (t2 = t) := by show _ = _; rw [HWS.out, hxy, Nat.xor_self, if_pos rfl]; rfl
              subst hxy
              generalize x ^^^ x = z at *
              clear HWS HES
              go_wp2_with ((with_reducible refine wpList_unguard ?_ ?_); (focus rfl))
              go_region
              go_wp2_with ((with_reducible refine wpList_unguard ?_ ?_); (focus rfl))
              go_region
              go_wp2_with ((with_reducible refine wpList_unguard ?_ ?_); (focus rfl))
              go_roundw
              case rel => exact ⟨j + 1, by omega, by go_num, by rw [HC2.out, HW2.out, HWE.out], by rw [HC2.out, HW2.out, HWE.out]; omega, by rw [HC2.out]; exact hset0.out, hbs.out.drew⟩
              case measure => simp [intOf]; omega
            · have HWE : Hid (t2 = t + 1) := by show _ = _; rw [HWS.out, if_neg (xor_ne hxy)]
              have hyz : ((x : Int) != (y : Int)) = true := by rw [bne_iff_ne]; omega
              have hwt1 : IntKind.i64.wrap ((t : Int) + 1) = (t : Int) + 1 := by rw [IntKind.wrap_i64]; omega
              generalize x ^^^ y = z at *
              clear HWS HES
              go_wp2_with ((with_reducible refine wpList_unguard ?_ ?_); (focus rfl))
              go_region
              go_wp2_with ((with_reducible refine wpList_unguard ?_ ?_); (focus rfl))
              go_region
              go_wp2_with ((with_reducible refine wpList_unguard ?_ ?_); (focus rfl))
              go_roundw
              case rel => exact ⟨j + 1, by omega, by go_num, by rw [HC2.out, HW2.out, HWE.out]; go_num, by rw [HC2.out, HW2.out, HWE.out]; omega, by rw [HC2.out]; exact hset0.out, hbs.out.drew⟩
              case measure => simp [intOf]; omega
          · have hjn : j = n := by omega
            subst hjn
            have HEf : Hid (errL X j j = X) := errL_full X j HXl.out
            rw [HEf.out] at HM hwt ⊢
            have HBw := hid (HB7.out.trans (HBW.out.mono HB7.out.size))
            have HRi := hid (rs_Right c b j k (some ⟨qb, 0, none⟩) j j X wr (HR7.out.below HBW.out) (by omega) (by omega) HXl.out.symm HM.out.1 HXb.out HXl.out)
            rw [HQ.out, HXr.out] at HRi
            have HX8 := hid (HX7.out.below HBW.out)
            by_cases heq : l2 = m2
            · have h0 := HEq.out heq
              rw [h0]
              clear HXr HFar HEq h0
              subst heq
              go_wp2_with ((with_reducible refine wpList_unguard ?_ ?_); (focus rfl))
              refine Calls.mono HRi.out ?_; rintro e w9 ⟨rfl, hb9⟩
              have hX9 := HX8.out.below hb9
              have hx0 := hX9.1
              have hx1 := hX9.2
              have HB9 := hid (HBw.out.trans (hb9.mono HBw.out.size))
              have hcs0 := conv_str (HS.out.below HB9.out) l2.length cap2 rfl
              have hcs1 := conv_str (HS1.out.below HB9.out) l2.length caq2 rfl
              have hq0 : ¬ ((q : Int) < 0) := by omega
              clear hb9 hX9 HRi
              go_wp2_with ((with_reducible refine wpList_unguard ?_ ?_); (focus rfl))
              go_ret
              exact ⟨by simp, HB9.out⟩
            · have h0 := HFar.out heq
              have hd : decide ((q : Int) < ((wt X : Nat) : Int)) = true := decide_eq_true (by omega)
              generalize wt X = t at *
              clear HXr HFar HEq
              go_wp2_with ((with_reducible refine wpList_unguard ?_ ?_); (focus rfl))
              refine Calls.mono HRi.out ?_; rintro e w9 ⟨rfl, hb9⟩
              have HB9 := hid (HBw.out.trans (hb9.mono HBw.out.size))
              clear hb9 HRi
              go_wp2_with ((with_reducible refine wpList_unguard ?_ ?_); (focus rfl))
              go_ret
              exact ⟨rfl, HB9.out⟩
      · have HMK := hid hmk
        have hmne : ((m2.length : Int) != (k : Int)) = true := by rw [bne_iff_ne]; omega
        have hmne' : (m2.length != k) = true := by rw [bne_iff_ne]; omega
        have hlne : ((l2.length : Int) != (k : Int)) = false := by have := HLK.out; rw [bne_eq_false_iff_eq]; omega
        refine Calls.mono (rs_Encode_bad c b n k b2 _ caq2 w6 HR6.out HMK.out (by omega) (by omega)) ?_
        rintro e w' ⟨rfl, rfl⟩
        have hx0 := HX6.out.1
        have hx1 := HX6.out.2
        clear hmk
        go_wp2_with ((with_reducible refine wpList_unguard ?_ ?_); (focus rfl))
        go_ret
        exact ⟨rfl, HB6.out⟩
    · have HLK := hid hlk
      have hlne : ((l2.length : Int) != (k : Int)) = true := by rw [bne_iff_ne]; omega
      have hlne' : (l2.length != k) = true := by rw [bne_iff_ne]; omega
      refine Calls.mono (rs_Encode_bad c b n k a2 _ cap2 w5 HR.out HLK.out (by omega) (by omega)) ?_
      rintro e w' ⟨rfl, rfl⟩
      have hx0 := HX5.out.1
      have hx1 := HX5.out.2
      clear hlk
      go_wp2_with ((with_reducible refine wpList_unguard ?_ ?_); (focus rfl))
      by_cases hmk : m2.length = k
      · have HMK := hid hmk
        clear hmk
        refine Calls.mono (rs_Encode c b n k b2 _ caq2 m2 w5 HR.out (by omega) (by omega) (by omega) (by omega) rfl hlc1 (HS1.out.below HB5.out) HB1.out HMK.out) ?_
        rintro e w7 ⟨v7, rfl, hO, hbel⟩
        obtain ⟨p7, c7, rfl, _⟩ := hO.cells
        have hX7 := HX5.out.below hbel
        have hy0 := hX7.1
        have hy1 := hX7.2
        have HB7 := hid (HB5.out.trans (hbel.mono HB5.out.size))
        clear hO hbel hx0 hx1 hX7
        go_wp2_with ((with_reducible refine wpList_unguard ?_ ?_); (focus rfl))
        go_ret
        exact ⟨rfl, HB7.out⟩
      · have HMK := hid hmk
        refine Calls.mono (rs_Encode_bad c b n k b2 _ caq2 w5 HR.out HMK.out (by omega) (by omega)) ?_
        rintro e w' ⟨rfl, rfl⟩
        clear hmk
        go_wp2_with ((with_reducible refine wpList_unguard ?_ ?_); (focus rfl))
        go_ret
        exact ⟨rfl, HB5.out⟩
end Go.Proofs.Ytlipedigmokgbaa
