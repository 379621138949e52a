/-
  RsAny, walked: with at most as many bytes turned as the parity has, a codeword isn't right any more.
-/
import Derived.Test.YtlipedigmokgbaaRsP
import Derived.Test.YtlipedigmokgbaaOpenA
namespace Tri
/-- The first i bytes of a row, noughts behind. -/
def errL (turn : List Nat) (n i : Nat) : List Nat := turn.take i ++ List.replicate (n - i) 0
theorem errL_length (turn : List Nat) (n i : Nat) (h1 : i ≤ n) (h2 : i ≤ turn.length) : (errL turn n i).length = n := by
  unfold errL; rw [List.length_append, List.length_take, List.length_replicate]; omega
theorem errL_bytes {turn : List Nat} (h : bytesL turn) (n i : Nat) : bytesL (errL turn n i) := by
  intro x hx
  rcases List.mem_append.1 hx with h1 | h1
  · exact h x (List.mem_of_mem_take h1)
  · exact bytesL.zeros _ x h1
theorem wt_zeros (n : Nat) : wt (List.replicate n 0) = 0 := by
  unfold wt; rw [List.countP_eq_zero]; intro y hy; rw [List.mem_replicate] at hy; simp [hy.2]
theorem wt_append (l m : List Nat) : wt (l ++ m) = wt l + wt m := by unfold wt; rw [List.countP_append]
theorem wt_one (y : Nat) : wt [y] = if y = 0 then 0 else 1 := by
  unfold wt
  by_cases h : y = 0
  · simp [h]
  · simp [h]
theorem wt_errL_succ (turn : List Nat) (n i : Nat) (h : i < turn.length) : wt (errL turn n (i + 1)) = wt (errL turn n i) + if turn.getD i 0 = 0 then 0 else 1 := by
  unfold errL
  rw [wt_append, wt_append, wt_zeros, wt_zeros, take_getD turn i h, wt_append, wt_one]
  omega
theorem errL_set (turn : List Nat) (n i : Nat) (h1 : i < n) (h2 : i < turn.length) : errL turn n (i + 1) = (errL turn n i).set i (turn.getD i 0) := by
  unfold errL
  rw [take_getD turn i h2]
  obtain ⟨m, hm⟩ : ∃ m, n - i = m + 1 := ⟨n - i - 1, by omega⟩
  rw [hm, show n - (i + 1) = m from by omega, List.replicate_succ, List.set_append_right _ _ (by rw [List.length_take]; omega), List.length_take, show i - min i turn.length = 0 from by omega]
  simp
theorem errL_at (turn : List Nat) (n i : Nat) (h2 : i ≤ turn.length) : (errL turn n i).getD i 0 = 0 := by
  unfold errL
  rw [List.getD_eq_getElem?_getD, List.getElem?_append_right (by rw [List.length_take]; omega), ← List.getD_eq_getElem?_getD, getD_zeros]
theorem wxor_set (E L : List Nat) (v : Nat) : ∀ i, wxor E (L.set i v) = (wxor E L).set i (E.getD i 0 ^^^ v) := by
  induction E generalizing L with
  | nil => intro i; rfl
  | cons e E ih =>
    intro i
    cases L with
    | nil => rfl
    | cons x L =>
      cases i with
      | zero => rfl
      | succ i =>
        show (e ^^^ x) :: wxor E (L.set i v) = (e ^^^ x) :: (wxor E L).set i _
        rw [ih]; rfl
theorem wxor_getD (E L : List Nat) (h : E.length = L.length) : ∀ i, (wxor E L).getD i 0 = E.getD i 0 ^^^ L.getD i 0 := by
  induction E generalizing L with
  | nil =>
    intro i
    have : L = [] := List.eq_nil_of_length_eq_zero h.symm
    subst this; exact (Nat.xor_self 0).symm
  | cons e E ih =>
    intro i
    cases L with
    | nil => simp at h
    | cons x L =>
      cases i with
      | zero => rfl
      | succ i => exact ih L (by simpa using h) i
theorem wxor_zeros (E : List Nat) : wxor E (List.replicate E.length 0) = E := by
  induction E with
  | nil => rfl
  | cons e E ih => show (e ^^^ 0) :: wxor E _ = _; rw [ih, Nat.xor_zero]
def curL (E turn : List Nat) (i : Nat) : List Nat := wxor E (errL turn E.length i)
theorem curL_length (E turn : List Nat) (i : Nat) (h1 : i ≤ E.length) (h2 : i ≤ turn.length) : (curL E turn i).length = E.length := wxor_length _ _ (errL_length turn _ i h1 h2).symm
theorem curL_zero (E turn : List Nat) : curL E turn 0 = E := wxor_zeros E
theorem curL_succ (E turn : List Nat) (i : Nat) (h1 : i < E.length) (h2 : i < turn.length) : curL E turn (i + 1) = (curL E turn i).set i ((curL E turn i).getD i 0 ^^^ turn.getD i 0) := by
  unfold curL
  rw [errL_set turn _ i h1 h2, wxor_set, wxor_getD E _ (errL_length turn _ i (by omega) (by omega)).symm, errL_at turn _ i (by omega), Nat.xor_zero]
theorem curL_same (E turn : List Nat) (i : Nat) (h1 : i < E.length) (h2 : i < turn.length) (h : turn.getD i 0 = 0) : curL E turn (i + 1) = curL E turn i := by
  rw [curL_succ E turn i h1 h2, h, Nat.xor_zero]
  have hl := curL_length E turn i (by omega) (by omega)
  apply List.ext_getElem?
  intro j
  by_cases e : i = j
  · subst e
    rw [List.getElem?_set_self (by omega), List.getElem?_eq_getElem (by omega), List.getD_eq_getElem?_getD, List.getElem?_eq_getElem (by omega)]
    rfl
  · rw [List.getElem?_set_ne e]
theorem zeros_of_wt {l : List Nat} (h : wt l = 0) : l = List.replicate l.length 0 := List.eq_replicate_iff.2 ⟨rfl, wt_zero_nil h⟩
/-- A codeword with at most as many bytes turned as the parity has is right just if none is. -/
theorem any_law {E err : List Nat} {p : Nat} (hE : bytesL E) (hr : bytesL err) (hl : E.length = err.length) (hn : E.length ≤ 255) (h : rightB E p = true) (hw : wt err ≤ p) : rightB (wxor E err) p = decide (wt err = 0) := by
  by_cases h0 : wt err = 0
  · rw [decide_eq_true h0, zeros_of_wt h0, ← hl, wxor_zeros]; exact h
  · rw [decide_eq_false h0]
    cases hb : rightB (wxor E err) p with
    | false => rfl
    | true =>
      exfalso
      refine h0 (right_zero hr (by omega) (right_of fun i hi => ?_) hw)
      have h1 := synd_zero hb i hi
      rw [peval_wxor _ hE hr hl, synd_zero h i hi, Nat.zero_xor] at h1
      exact h1
end Tri
namespace Go.Proofs.Ytlipedigmokgbaa
open Go.RowKit Tri

set_option maxHeartbeats 4000000 in
set_option maxRecDepth 100000 in
theorem rsAny.walk (a0 : Int) (a1 : Int) (a2 : Option Addr) (len2 cap2 : Nat) (l2 : List Nat) (b2 : Option Addr) (lem2 caq2 : Nat) (m2 : List Nat) (w : World) (w0 : (Lit.int .i64 a0).wf = true) (w1 : (Lit.int .i64 a1).wf = true) (w2 : IsBytes w a2 len2 cap2 l2 ∧ IsBytes w b2 lem2 caq2 m2) :
    Calls Try.prog 12 #[.int .i64 a0, .int .i64 a1, .agg #[.slice a2 len2 cap2, .slice b2 lem2 caq2]] w fun e w' => e = .returned (.bool true) ∧ Below w.heap.size w w' := by
  obtain ⟨⟨hn, hlc, hcap, hS, hss⟩, hn1, hlc1, hcap1, hS1, hss1⟩ := w2
  subst hn hn1
  have HS := hid hS
  have HB : Hid (bytesL l2) := hid hss
  have HS1 := hid hS1
  have HB1 : Hid (bytesL m2) := hid hss1
  have hb0 := bounds_i64 w0
  have hb1 := bounds_i64 w1
  clear hS hss w0 w1 hS1 hss1
  (go_enter Try.func12, Try.ntmps12; try simp only [List.append])
  go_wp2_with ((with_reducible refine wpList_unguard ?_ ?_); (focus rfl))
  have hBx := hid (show Below w.heap.size w (w.alloc (.cells #[.slice a2 l2.length cap2, .slice b2 m2.length caq2] 62)) from (Below.refl _ _).alloc (Nat.le_refl _) _)
  have hc0 : (w.alloc (.cells #[.slice a2 l2.length cap2, .slice b2 m2.length caq2] 62)).cell? ⟨w.heap.size, 0, none⟩ = some (.slice a2 l2.length cap2) := by rw [World.cell?_alloc_new]; rfl
  have hc1 : (w.alloc (.cells #[.slice a2 l2.length cap2, .slice b2 m2.length caq2] 62)).cell? ⟨w.heap.size, 1, none⟩ = some (.slice b2 m2.length caq2) := by rw [World.cell?_alloc_new]; rfl
  generalize w.alloc (.cells #[.slice a2 l2.length cap2, .slice b2 m2.length caq2] 62) = wx at *
  refine Calls.mono (law06_awake wx) ?_; rintro e w2 ⟨rfl, hbA⟩
  have hd0 := hbA.cell (p := ⟨w.heap.size, 0, none⟩) (block_lt_of_cell hc0)
  rw [hc0] at hd0
  have hd1 := hbA.cell (p := ⟨w.heap.size, 1, none⟩) (block_lt_of_cell hc1)
  rw [hc1] at hd1
  have HBA := hid (hBx.out.trans (hbA.mono hBx.out.size))
  clear hbA hc0 hc1 hBx
  generalize w.heap.size = xb at hd0 hd1 ⊢
  go_wp2_with ((with_reducible refine wpList_unguard ?_ ?_); (focus rfl))
  go_region
  clear hd0 hd1
  have HBA' : Hid (Below w.heap.size w w2.drew) := HBA.out.drew
  clear HBA
  generalize w2.drew = w3 at *
  go_wp2_with ((with_reducible refine wpList_unguard ?_ ?_); (focus rfl))
  refine Calls.mono (ref6_There a0 a1 w3 ⟨hb0.1, by omega⟩ ⟨hb1.1, by omega⟩) ?_; rintro e w' ⟨rfl, rfl⟩
  cases hth : thereB a0 a1 with
  | false =>
    go_wp2_with ((with_reducible refine wpList_unguard ?_ ?_); (focus rfl))
    go_ret
    exact ⟨rfl, HBA'.out⟩
  | true =>
    have hthr : 1 ≤ a1 ∧ a1 < a0 ∧ a0 ≤ 255 ∧ a0 - a1 ≤ 64 := of_decide_eq_true hth
    obtain ⟨t1, t2, t3, t4⟩ := hthr
    obtain ⟨n, rfl⟩ : ∃ n : Nat, a0 = n := ⟨a0.toNat, by omega⟩
    obtain ⟨k, rfl⟩ : ∃ k : Nat, a1 = k := ⟨a1.toNat, by omega⟩
    clear hth hb0 hb1
    by_cases hlk : l2.length = k
    · have hlne : ((l2.length : Int) != (k : Int)) = false := by rw [bne_eq_false_iff_eq]; omega
      by_cases h300 : 300 < m2.length
      · have ht3 : decide (300 < (m2.length : Int)) = true := decide_eq_true (by omega)
        have HLK := hid hlk
        clear hlk
        go_wp2_with ((with_reducible refine wpList_unguard ?_ ?_); (focus rfl))
        go_ret
        exact ⟨rfl, HBA'.out⟩
      · have ht3 : decide (300 < (m2.length : Int)) = false := decide_eq_false (by omega)
        have HLK := hid hlk
        clear hlk
        go_wp2_with ((with_reducible refine wpList_unguard ?_ ?_); (focus rfl))
        refine Calls.mono (gf_NewK w w3 HBA'.out) ?_; rintro e w4 ⟨b, rfl, K0⟩; have K := hid K0; clear K0 HBA'
        go_wp2_with ((with_reducible refine wpList_unguard ?_ ?_); (focus rfl))
        refine Calls.mono (rs_New b n k w4 K.out.2 (by omega) (by omega) (by omega) (by omega)) ?_
        rintro e w5 ⟨c, rfl, hR, hbel⟩
        have HR := hid hR
        have HB5 := hid (K.out.1.trans (hbel.mono K.out.1.size))
        clear hR hbel K
        go_wp2_with ((with_reducible refine wpList_unguard ?_ ?_); (focus rfl))
        refine Calls.mono (rs_Encode c b n k a2 _ cap2 l2 w5 HR.out (by omega) (by omega) (by omega) (by omega) rfl hlc (HS.out.below HB5.out) HB.out HLK.out) ?_
        rintro e w6 ⟨v, rfl, hO, hbel⟩
        have HR6 := hid (HR.out.below hbel)
        have HB6 := hid (HB5.out.trans (hbel.mono HB5.out.size))
        obtain ⟨q, hq⟩ : ∃ q, n - k = q := ⟨_, rfl⟩
        have hnk : (n : Int) - (k : Int) = (q : Int) := by omega
        have hwq : IntKind.i64.wrap (q : Int) = (q : Int) := by rw [IntKind.wrap_i64]; omega
        rw [hq] at hO
        have HEL : Hid ((enc l2 q).length = n) := by show _ = _; rw [enc_length HB.out, HLK.out]; omega
        have HEB := hid (enc_bytes HB.out q)
        have HER := hid (enc_right HB.out q (by omega))
        generalize enc l2 q = E at *
        have hn1 : 1 < n := by omega
        have HB56 := hid hbel
        have HB56w := hid HB5.out
        rcases hO.buf with ⟨_, h2⟩ | ⟨g, cap, rfl, hg, hgc, hbuf⟩
        · exfalso; have h3 := HEL.out; rw [h2] at h3; simp at h3; omega
        have HG : Hid (w5.heap.size ≤ g) := hg
        have HM := hid hbuf
        have HQ := hid hq
        have HELn := HEL.out
        have hgn : n ≤ cap := by omega
        rw [HELn]
        clear hO hbel HB5 hq hg hgc hbuf HELn
        have HCz : Hid (curL E m2 0 = E) := curL_zero E m2
        have HWz : Hid (wt (errL m2 n 0) = 0) := by show wt ([] ++ _) = 0; rw [List.nil_append, wt_zeros]
        have HR5k := hid HR.out
        go_wp2_with ((with_reducible refine wpList_unguard ?_ ?_); (focus rfl))
        go_loopw [13, 14] (fun t i wr => ∃ j : Nat, j ≤ n ∧ j ≤ m2.length ∧ i = .int .i64 j ∧ t = .int .i64 (wt (errL m2 n j) : Nat) ∧ wt (errL m2 n j) ≤ q ∧ bufB wr g (curL E m2 j) ∧ Below w5.heap.size w5 wr) (fun _ i _ => n - (intOf i).toNat)
        case atStart => exact ⟨0, Nat.zero_le _, Nat.zero_le _, rfl, by rw [HWz.out]; rfl, by rw [HWz.out]; exact Nat.zero_le _, by rw [HCz.out]; exact HM.out, HB56.out⟩
        case round =>
          obtain ⟨j, hj, hjm, rfl, rfl, hwt, hM, hbw⟩ := hrel
          have HM' := hid hM
          have HBW := hid hbw
          clear hM hbw
          by_cases hjl : j < m2.length
          · have hd1 : decide ((j : Int) < (m2.length : Int)) = true := decide_eq_true (by omega)
            by_cases hjn : j < n
            · have hd2 : decide ((j : Int) < (n : Int)) = true := decide_eq_true (by omega)
              by_cases hwq2 : wt (errL m2 n j) < q
              · have hd3 : decide (((wt (errL m2 n j) : Nat) : Int) < (q : Int)) = true := decide_eq_true (by omega)
                obtain ⟨a, o, rfl, hct⟩ := (HS1.out.below HB56w.out).below HBW.out j hjl
                have hy := HB1.out _ (getD_mem m2 j hjl)
                have HCL := hid (curL_length E m2 j (by rw [HEL.out]; exact hj) (by omega))
                have HWS := hid (wt_errL_succ m2 n j hjl)
                have HCS := hid (curL_succ E m2 j (by rw [HEL.out]; exact hjn) hjl)
                have HCE : Hid (m2.getD j 0 = 0 → curL E m2 (j + 1) = curL E m2 j) := curL_same E m2 j (by rw [HEL.out]; exact hjn) hjl
                have hcg := HM'.out.at j (by rw [HCL.out, HEL.out]; exact hjn)
                have hfg := HM'.out.2 j (by rw [HCL.out, HEL.out]; exact hjn)
                have hCB : (curL E m2 j).getD j 0 < 256 := bytesL_getD (wxor_bytes HEB.out (errL_bytes HB1.out _ _)) j
                generalize hw2 : wt (errL m2 n (j + 1)) = t2 at *
                have HW2 := hid hw2
                clear hw2
                generalize wt (errL m2 n j) = t at *
                generalize m2.getD j 0 = y at *
                generalize hc2 : curL E m2 (j + 1) = C2 at *
                have HC2 := hid hc2
                clear hc2
                generalize curL E m2 j = C1 at *
                by_cases hy0 : y = 0
                · have HWE : Hid (t2 = t) := by show _ = _; rw [HWS.out, if_pos hy0]; rfl
                  have HCC := hid (HCE.out hy0)
                  subst hy0
                  clear HWS HCS HCE
                  go_wp2_with ((with_reducible refine wpList_unguard ?_ ?_); (focus rfl))
                  go_roundw
                  case rel => exact ⟨j + 1, by omega, by omega, by go_num, by rw [HW2.out, HWE.out], by rw [HW2.out, HWE.out]; exact hwt, by rw [HC2.out, HCC.out]; exact HM'.out, HBW.out⟩
                  case measure => simp [intOf]; omega
                · have hyz : ((y : Int) != 0) = true := by rw [bne_iff_ne]; omega
                  have HWE : Hid (t2 = t + 1) := by show _ = _; rw [HWS.out, if_neg hy0]
                  have hwt1 : IntKind.i64.wrap ((t : Int) + 1) = (t : Int) + 1 := by rw [IntKind.wrap_i64]; omega
                  have hset := hid (HM'.out.set j (C1.getD j 0 ^^^ y) (by rw [HCL.out, HEL.out]; exact hjn))
                  rw [← HCS.out] at hset
                  generalize C1.getD j 0 = x at *
                  have hxor := xor_byte x y hCB hy
                  generalize x ^^^ y = z at *
                  have hbs := hid (HBW.out.setCell (p := ⟨g, j, none⟩) HG.out (.int .u8 (z : Nat)))
                  clear HWS HCS HCE
                  go_wp2_with ((with_reducible refine wpList_unguard ?_ ?_); (focus rfl))
                  go_region
                  go_wp2_with ((with_reducible refine wpList_unguard ?_ ?_); (focus rfl))
                  go_roundw
                  case rel => exact ⟨j + 1, by omega, by omega, by go_num, by rw [HW2.out, HWE.out]; go_num, by rw [HW2.out, HWE.out]; omega, by rw [HC2.out]; exact hset.out, hbs.out.drew⟩
                  case measure => simp [intOf]; omega
              · have hd3 : decide (((wt (errL m2 n j) : Nat) : Int) < (q : Int)) = false := decide_eq_false (by omega)
                (have HLaw := hid (any_law (err := errL m2 n j) HEB.out (errL_bytes HB1.out _ _) (by rw [HEL.out, errL_length m2 n j hj hjm]) (by rw [HEL.out]; omega) HER.out hwt); have HCe : Hid (curL E m2 j = wxor E (errL m2 n j)) := (by show wxor E (errL m2 E.length j) = _; rw [HEL.out]); have HCL := hid (curL_length E m2 j (by rw [HEL.out]; exact hj) hjm); have HCB : Hid (bytesL (curL E m2 j)) := wxor_bytes HEB.out (errL_bytes HB1.out _ _); have HRi := hid (rs_Right c b n k (some ⟨g, 0, none⟩) n cap (curL E m2 j) wr (HR5k.out.below HBW.out) (by omega) (by omega) (by rw [HCL.out, HEL.out]) HM'.out.1 HCB.out (by rw [HCL.out, HEL.out])); rw [HQ.out, HCe.out, HLaw.out] at HRi; generalize wt (errL m2 n j) = t at *; (go_wp2_with ((with_reducible refine wpList_unguard ?_ ?_); (focus rfl))); (refine Calls.mono HRi.out ?_); (rintro e w9 ⟨rfl, hb9⟩); have HB9 := hid (HB56w.out.trans ((HBW.out.trans (hb9.mono HBW.out.size)).mono HB56w.out.size)); clear hb9 HRi HLaw; (by_cases ht0 : t = 0); (focus (subst ht0; (go_wp2_with ((with_reducible refine wpList_unguard ?_ ?_); (focus rfl))); go_ret; exact ⟨rfl, HB9.out⟩)); (have htz : ((t : Int) == 0) = false := by rw [beq_eq_false_iff_ne]; omega); (rw [decide_eq_false ht0]); (go_wp2_with ((with_reducible refine wpList_unguard ?_ ?_); (focus rfl))); go_ret; (exact ⟨rfl, HB9.out⟩))
            · have hd2 : decide ((j : Int) < (n : Int)) = false := decide_eq_false (by omega)
              (have HLaw := hid (any_law (err := errL m2 n j) HEB.out (errL_bytes HB1.out _ _) (by rw [HEL.out, errL_length m2 n j hj hjm]) (by rw [HEL.out]; omega) HER.out hwt); have HCe : Hid (curL E m2 j = wxor E (errL m2 n j)) := (by show wxor E (errL m2 E.length j) = _; rw [HEL.out]); have HCL := hid (curL_length E m2 j (by rw [HEL.out]; exact hj) hjm); have HCB : Hid (bytesL (curL E m2 j)) := wxor_bytes HEB.out (errL_bytes HB1.out _ _); have HRi := hid (rs_Right c b n k (some ⟨g, 0, none⟩) n cap (curL E m2 j) wr (HR5k.out.below HBW.out) (by omega) (by omega) (by rw [HCL.out, HEL.out]) HM'.out.1 HCB.out (by rw [HCL.out, HEL.out])); rw [HQ.out, HCe.out, HLaw.out] at HRi; generalize wt (errL m2 n j) = t at *; (go_wp2_with ((with_reducible refine wpList_unguard ?_ ?_); (focus rfl))); (refine Calls.mono HRi.out ?_); (rintro e w9 ⟨rfl, hb9⟩); have HB9 := hid (HB56w.out.trans ((HBW.out.trans (hb9.mono HBW.out.size)).mono HB56w.out.size)); clear hb9 HRi HLaw; (by_cases ht0 : t = 0); (focus (subst ht0; (go_wp2_with ((with_reducible refine wpList_unguard ?_ ?_); (focus rfl))); go_ret; exact ⟨rfl, HB9.out⟩)); (have htz : ((t : Int) == 0) = false := by rw [beq_eq_false_iff_ne]; omega); (rw [decide_eq_false ht0]); (go_wp2_with ((with_reducible refine wpList_unguard ?_ ?_); (focus rfl))); go_ret; (exact ⟨rfl, HB9.out⟩))
          · have hd1 : decide ((j : Int) < (m2.length : Int)) = false := decide_eq_false (by omega)
            (have HLaw := hid (any_law (err := errL m2 n j) HEB.out (errL_bytes HB1.out _ _) (by rw [HEL.out, errL_length m2 n j hj hjm]) (by rw [HEL.out]; omega) HER.out hwt); have HCe : Hid (curL E m2 j = wxor E (errL m2 n j)) := (by show wxor E (errL m2 E.length j) = _; rw [HEL.out]); have HCL := hid (curL_length E m2 j (by rw [HEL.out]; exact hj) hjm); have HCB : Hid (bytesL (curL E m2 j)) := wxor_bytes HEB.out (errL_bytes HB1.out _ _); have HRi := hid (rs_Right c b n k (some ⟨g, 0, none⟩) n cap (curL E m2 j) wr (HR5k.out.below HBW.out) (by omega) (by omega) (by rw [HCL.out, HEL.out]) HM'.out.1 HCB.out (by rw [HCL.out, HEL.out])); rw [HQ.out, HCe.out, HLaw.out] at HRi; generalize wt (errL m2 n j) = t at *; (go_wp2_with ((with_reducible refine wpList_unguard ?_ ?_); (focus rfl))); (refine Calls.mono HRi.out ?_); (rintro e w9 ⟨rfl, hb9⟩); have HB9 := hid (HB56w.out.trans ((HBW.out.trans (hb9.mono HBW.out.size)).mono HB56w.out.size)); clear hb9 HRi HLaw; (by_cases ht0 : t = 0); (focus (subst ht0; (go_wp2_with ((with_reducible refine wpList_unguard ?_ ?_); (focus rfl))); go_ret; exact ⟨rfl, HB9.out⟩)); (have htz : ((t : Int) == 0) = false := by rw [beq_eq_false_iff_ne]; omega); (rw [decide_eq_false ht0]); (go_wp2_with ((with_reducible refine wpList_unguard ?_ ?_); (focus rfl))); go_ret; (exact ⟨rfl, HB9.out⟩))
    · have hlne : ((l2.length : Int) != (k : Int)) = true := by rw [bne_iff_ne]; omega
      have hlne' : (l2.length != k) = true := by rw [bne_iff_ne]; omega
      clear hlk
      go_wp2_with ((with_reducible refine wpList_unguard ?_ ?_); (focus rfl))
      go_ret
      exact ⟨rfl, HBA'.out⟩
end Go.Proofs.Ytlipedigmokgbaa
