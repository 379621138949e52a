/-
  PolyTimes, walked: the value of a sum, and of a product, is the values'.
-/
import Derived.Test.YtlipedigmokgbaaPoly7
import Derived.Test.YtlipedigmokgbaaPolyV
import Derived.Test.YtlipedigmokgbaaShift2
import Derived.Test.YtlipedigmokgbaaOpenS
namespace Tri
theorem gpow_gp (x k : Nat) (hx : x < 256) (hk : 0 < k) : Go.Proofs.Ytlipedigmokgbaa.gpow x (k : Int) = gp x k := by
  unfold Go.Proofs.Ytlipedigmokgbaa.gpow
  rw [if_neg (by omega)]
  by_cases h0 : x = 0
  · subst h0
    rw [if_pos rfl]
    cases k with
    | zero => omega
    | succ k => exact (gmul_zero _).symm
  · rw [if_neg h0, gp_gexp x k h0 hx]
    unfold Go.Proofs.Ytlipedigmokgbaa.gexpZ gexp
    congr 1
    omega
theorem peval_pshift (x : Nat) {l : List Nat} (h : bytesL l) (k : Nat) (hk : k ≤ 1000) : peval x (pshift l (k : Int)) = gmul (peval x l) (gp x k) := by
  unfold pshift
  split
  · rename_i e
    rw [← peval_trim x l, e]
    exact (zero_gmul _).symm
  · rw [peval_shift x _ (trim_bytes h), peval_trim]
    congr 2
    unfold shiftN
    omega
theorem peval_pmul2 (x : Nat) {a b : List Nat} (ha : bytesL a) (hb : bytesL b) (hx : x < 256) : peval x (pmul [a, b]) = gmul (peval x a) (peval x b) := by
  have h1 : bytesL [1] := fun y hy => by simp at hy; omega
  show peval x (ptwo (ptwo [1] a) b) = _
  rw [peval_ptwo x (ptwo_bytes h1 ha) hb, peval_ptwo x h1 ha]
  have : peval x [1] = 1 := by show gmul 0 x ^^^ 1 = 1; rw [zero_gmul]; rfl
  rw [this, one_gmul _ (peval_lt x ha)]
theorem peval_padd2 (x : Nat) {a b : List Nat} (ha : bytesL a) (hb : bytesL b) : peval x (padd [a, b]) = peval x a ^^^ peval x b := by
  rw [peval_padd x _ (by intro y hy; simp only [List.mem_cons, List.not_mem_nil, or_false] at hy; rcases hy with rfl | rfl <;> assumption)]
  show 0 ^^^ peval x a ^^^ peval x b = _
  rw [Nat.zero_xor]
theorem padd_bytes {l : List (List Nat)} (h : ∀ a ∈ l, bytesL a) : bytesL (padd l) := by
  have := (addAll_take (longest l) l h l.length (Nat.le_refl _)).2
  rw [List.take_length] at this
  exact trim_bytes this
theorem pmul_bytes {l : List (List Nat)} (h : ∀ a ∈ l, bytesL a) : bytesL (pmul l) := by
  have := (pmul_take l h l.length (Nat.le_refl _)).2
  rwa [List.take_length] at this
theorem pmul_len {l : List (List Nat)} (h : ∀ a ∈ l, bytesL a) : (pmul l).length ≤ lens l + 1 := by
  have := (pmul_take l h l.length (Nat.le_refl _)).1
  rwa [List.take_length] at this
theorem padd_len (l : List (List Nat)) (h : ∀ a ∈ l, bytesL a) : (padd l).length ≤ longest l := by
  have := (addAll_take (longest l) l h l.length (Nat.le_refl _)).1
  rw [List.take_length] at this
  have h2 := trim_length_le (addAll (longest l) l)
  unfold padd
  omega
theorem pshift_bytes {l : List Nat} (h : bytesL l) (k : Int) : bytesL (pshift l k) := by
  unfold pshift
  split
  · intro x hx; simp at hx
  · intro x hx
    rcases List.mem_append.1 hx with h1 | h1
    · exact trim_bytes h x h1
    · exact bytesL.zeros _ x h1
theorem pshift_len (l : List Nat) (k : Int) : (pshift l k).length ≤ l.length + 1000 := by
  have := trim_length_le l
  have := shiftN_le k
  unfold pshift
  split
  · simp
  · rw [List.length_append, List.length_replicate]; omega
end Tri
namespace Go.Proofs.Ytlipedigmokgbaa
open Go.RowKit Tri

/-- Two rows in a new row. -/
theorem cellsR.two {w : World} {p q : Option Addr} {c d : Nat} {a b : List Nat} (t : TypeId) (hp : cellsB w p a) (hle : a.length ≤ c) (hq : cellsB w q b) (hle' : b.length ≤ d) :
    cellsR (w.alloc (.cells #[.slice p a.length c, .slice q b.length d] t)) (some ⟨w.heap.size, 0, none⟩) [a, b] := by
  intro i hi
  match i, hi with
  | 0, _ => exact ⟨_, _, p, c, rfl, by rw [World.cell?_alloc_new]; rfl, hle, hp.alloc _⟩
  | 1, _ => exact ⟨_, _, q, d, rfl, by rw [World.cell?_alloc_new]; rfl, hle', hq.alloc _⟩
theorem Keeps.next {w0 w w' : World} {b : Nat} (h : Keeps w0 b w) (h' : Below w.heap.size w w') : Keeps w0 b w' :=
  ⟨h.1.trans (h'.mono h.1.size), h.2.below h' h.2.lt⟩

set_option maxHeartbeats 2000000 in
set_option maxRecDepth 100000 in
theorem polyTimes.walk (a0 : Option Addr) (len0 cap0 : Nat) (l0 : List Nat) (a1 : Option Addr) (len1 cap1 : Nat) (l1 : List Nat) (a2 : Int) (w : World) (w0 : IsBytes w a0 len0 cap0 l0) (w1 : IsBytes w a1 len1 cap1 l1) (w2 : (Lit.int .u8 a2).wf = true) :
    Calls Try.prog 7 #[.slice a0 len0 cap0, .slice a1 len1 cap1, .int .u8 a2] w fun e w' => e = .returned (.bool true) ∧ Below w.heap.size w w' := by
  obtain ⟨x, hx, rfl⟩ := u8_of w2
  clear w2
  obtain ⟨hn, hlc, hcap, hS, hss⟩ := w0
  obtain ⟨hn1, hlc1, hcap1, hS1, hss1⟩ := w1
  subst hn hn1
  have HS := hid hS
  have HB : Hid (bytesL l0) := hid hss
  have HS1 := hid hS1
  have HB1 : Hid (bytesL l1) := hid hss1
  clear hS hss hS1 hss1
  have hll : l0.length ≤ 140737488351232 := by omega
  have hll1 : l1.length ≤ 140737488351232 := by omega
  (go_enter Try.func7, Try.ntmps7; try simp only [List.append])
  go_wp2_with ((with_reducible refine wpList_unguard ?_ ?_); (focus rfl))
  (refine Calls.mono (law05_awake _) ?_; rintro e w2 ⟨rfl, hbA⟩; have HBA := hid hbA; clear hbA)
  go_wp2_with ((with_reducible refine wpList_unguard ?_ ?_); (focus rfl))
  have C1 := hid (cellsR.two 28 (HS.out.below HBA.out) hlc (HS1.out.below HBA.out) hlc1)
  have hB := hid (HBA.out.alloc HBA.out.size (.cells #[.slice a0 l0.length cap0, .slice a1 l1.length cap1] 28))
  clear HBA
  generalize w2.alloc (.cells #[.slice a0 l0.length cap0, .slice a1 l1.length cap1] 28) = w3 at *
  refine Calls.mono (law05_great _ _ _ [l0, l1] w3 rfl C1.out (by simp) (by intro a ha; simp only [List.mem_cons, List.not_mem_nil, or_false] at ha; rcases ha with rfl | rfl <;> assumption)) ?_; rintro e w' ⟨rfl, rfl⟩
  by_cases hg : l0.length ≤ 60 ∧ l1.length ≤ 60
  · obtain ⟨hg0, hg1⟩ := hg
    have hL : longP [l0, l1] = false := by unfold longP; simp; omega
    rw [hL]
    clear hL C1 hll hll1
    go_wp2_with ((with_reducible refine wpList_unguard ?_ ?_); (focus rfl))
    refine Calls.mono (gf_NewK w w3 hB.out) ?_; rintro e w4 ⟨b, rfl, K0⟩; have K := hid K0; clear K0 hB
    go_wp2_with ((with_reducible refine wpList_unguard ?_ ?_); (focus rfl))
    have hp1 := peval_lt x HB.out
    have hp2 := peval_lt x HB1.out
    refine Calls.mono (poly_Eval b _ _ _ l0 x w4 K.out.2 rfl (HS.out.below K.out.1) HB.out hx (by omega)) ?_; rintro e w5 ⟨rfl, hK⟩
    have K5 := hid (K.out.next hK.1)
    clear hK K
    have HPT := hid (peval_pmul2 x HB.out HB1.out hx)
    have HPA := hid (peval_padd2 x HB.out HB1.out)
    have HPS := hid (peval_pshift x HB.out 3 (by omega))
    generalize hP : peval x l0 = P at *
    generalize hQ : peval x l1 = Q at *
    go_wp2_with ((with_reducible refine wpList_unguard ?_ ?_); (focus rfl))
    refine Calls.mono (poly_Eval b _ _ _ l1 x w5 K5.out.2 rfl (HS1.out.below K5.out.1) HB1.out hx (by omega)) ?_; rintro e w6 ⟨rfl, hK⟩
    rw [hQ]
    clear hP hQ
    have K6 := hid (K5.out.next hK.1)
    clear hK K5
    go_wp2_with ((with_reducible refine wpList_unguard ?_ ?_); (focus rfl))
    have hbb : ∀ a ∈ [l0, l1], bytesL a := by
      intro a ha; simp only [List.mem_cons, List.not_mem_nil, or_false] at ha
      rcases ha with rfl | rfl
      · exact HB.out
      · exact HB1.out
    have HBB := hid hbb
    have hlm := pmul_len HBB.out
    have hla := padd_len [l0, l1] HBB.out
    have HM := hid (pmul_bytes HBB.out)
    have HA := hid (padd_bytes HBB.out)
    clear hbb
    have hln : lens [l0, l1] = l0.length + l1.length := by simp [lens]
    have hlo : longest [l0, l1] ≤ 60 := longest_le _ _ (by intro a ha; simp only [List.mem_cons, List.not_mem_nil, or_false] at ha; rcases ha with rfl | rfl <;> assumption)
    have C2 := cellsR.two 28 (HS.out.below K6.out.1) hlc (HS1.out.below K6.out.1) hlc1
    have K7 := hid (K6.out.alloc (.cells #[.slice a0 l0.length cap0, .slice a1 l1.length cap1] 28))
    clear K6
    refine Calls.mono (poly_Mul b _ _ _ [l0, l1] _ K7.out.2 rfl C2 HBB.out (by simp) (by omega)) ?_
    rintro e w8 ⟨p8, c8, rfl, hle8, hc8, hbel⟩
    have K8 := hid (K7.out.next hbel)
    clear hbel K7 C2
    have HC8 := hid hc8
    clear hc8
    generalize pmul [l0, l1] = M at *
    go_wp2_with ((with_reducible refine wpList_unguard ?_ ?_); (focus rfl))
    refine Calls.mono (poly_Eval b _ _ _ M x w8 K8.out.2 rfl HC8.out HM.out hx (by omega)) ?_; rintro e w9 ⟨rfl, hK⟩
    rw [HPT.out]
    have K := hid (K8.out.next hK.1)
    clear hK K8 HC8 HPT
    go_wp2_with ((with_reducible refine wpList_unguard ?_ ?_); (focus rfl))
    (refine Calls.mono (gf_Mul2K _ _ _ P Q _ _ _ K.out ?_ ?_ ?_ ?_ ?_ _) ?_; (focus (first | rfl | (simp; done))); (rfl); (rfl); (focus (first | assumption | (exact gmul_lt _ _) | (exact ginv_lt _) | (exact gexp_lt _) | (exact gexpZ_lt _) | omega | (exact xor_lt (by first | assumption | (exact gmul_lt _ _) | omega) (by first | assumption | (exact gmul_lt _ _) | omega)))); (focus (first | assumption | (exact gmul_lt _ _) | (exact ginv_lt _) | (exact gexp_lt _) | (exact gexpZ_lt _) | omega | (exact xor_lt (by first | assumption | (exact gmul_lt _ _) | omega) (by first | assumption | (exact gmul_lt _ _) | omega)))); (clear K); rintro e w' ⟨rfl, K0⟩; have K := hid K0; clear K0)
    go_wp2_with ((with_reducible refine wpList_unguard ?_ ?_); (focus rfl))
    have C2 := cellsR.two 28 (HS.out.below K.out.1) hlc (HS1.out.below K.out.1) hlc1
    have K7 := hid (K.out.alloc (.cells #[.slice a0 l0.length cap0, .slice a1 l1.length cap1] 28))
    clear K
    refine Calls.mono (poly_Add b _ _ _ [l0, l1] _ K7.out.2 rfl C2 HBB.out (by simp) (by intro a ha; have := longest_ge _ a ha; omega)) ?_
    rintro e w10 ⟨v10, rfl, hO, hbel⟩
    have K8 := hid (K7.out.next hbel)
    clear hbel K7 C2
    obtain ⟨p10, c10, rfl, hc8⟩ := hO.cells
    have HC8 := hid hc8
    clear hc8 hO
    generalize padd [l0, l1] = A at *
    go_wp2_with ((with_reducible refine wpList_unguard ?_ ?_); (focus rfl))
    refine Calls.mono (poly_Eval b _ _ _ A x w10 K8.out.2 rfl HC8.out HA.out hx (by omega)) ?_; rintro e w11 ⟨rfl, hK⟩
    rw [HPA.out]
    have K := hid (K8.out.next hK.1)
    clear hK K8 HC8 HPA
    go_wp2_with ((with_reducible refine wpList_unguard ?_ ?_); (focus rfl))
    (refine Calls.mono (gf_Add2K _ _ _ P Q _ _ _ K.out ?_ ?_ ?_ ?_ ?_ _) ?_; (focus (first | rfl | (simp; done))); (rfl); (rfl); (focus (first | assumption | (exact gmul_lt _ _) | (exact ginv_lt _) | (exact gexp_lt _) | (exact gexpZ_lt _) | omega | (exact xor_lt (by first | assumption | (exact gmul_lt _ _) | omega) (by first | assumption | (exact gmul_lt _ _) | omega)))); (focus (first | assumption | (exact gmul_lt _ _) | (exact ginv_lt _) | (exact gexp_lt _) | (exact gexpZ_lt _) | omega | (exact xor_lt (by first | assumption | (exact gmul_lt _ _) | omega) (by first | assumption | (exact gmul_lt _ _) | omega)))); (clear K); rintro e w' ⟨rfl, K0⟩; have K := hid K0; clear K0)
    go_wp2_with ((with_reducible refine wpList_unguard ?_ ?_); (focus rfl))
    refine Calls.mono (poly_Shift _ _ _ l0 3 _ rfl hlc (HS.out.below K.out.1) (by omega)) ?_
    rintro e w12 ⟨v12, rfl, hO, hbel⟩
    have K8 := hid (K.out.next hbel)
    clear hbel K
    obtain ⟨p12, c12, rfl, hc8⟩ := hO.cells
    have HC8 := hid hc8
    clear hc8 hO
    have hsl := pshift_len l0 3
    have HSB := hid (pshift_bytes HB.out 3)
    have HPS' : Hid (peval x (pshift l0 3) = gmul P (gp x 3)) := HPS.out
    clear HPS
    generalize pshift l0 3 = A' at *
    go_wp2_with ((with_reducible refine wpList_unguard ?_ ?_); (focus rfl))
    refine Calls.mono (poly_Eval b _ _ _ A' x w12 K8.out.2 rfl HC8.out HSB.out hx (by omega)) ?_; rintro e w13 ⟨rfl, hK⟩
    rw [HPS'.out]
    have K := hid (K8.out.next hK.1)
    clear hK K8 HC8 HPS'
    go_wp2_with ((with_reducible refine wpList_unguard ?_ ?_); (focus rfl))
    (refine Calls.mono (gf_PowK _ _ x _ _ _ K.out ?_ ?_) ?_; (rfl); (focus (first | assumption | (exact gmul_lt _ _) | (exact ginv_lt _) | (exact gexp_lt _) | (exact gexpZ_lt _) | omega | (exact xor_lt (by first | assumption | (exact gmul_lt _ _) | omega) (by first | assumption | (exact gmul_lt _ _) | omega)))); rintro e w' ⟨rfl, rfl⟩)
    have hgp : gpow x 3 = gp x 3 := gpow_gp x 3 hx (by omega)
    rw [hgp]
    clear hgp
    have hgl := gp_lt x 3
    generalize gp x 3 = G at *
    go_wp2_with ((with_reducible refine wpList_unguard ?_ ?_); (focus rfl))
    (refine Calls.mono (gf_Mul2K _ _ _ P G _ _ _ K.out ?_ ?_ ?_ ?_ ?_ _) ?_; (focus (first | rfl | (simp; done))); (rfl); (rfl); (focus (first | assumption | (exact gmul_lt _ _) | (exact ginv_lt _) | (exact gexp_lt _) | (exact gexpZ_lt _) | omega | (exact xor_lt (by first | assumption | (exact gmul_lt _ _) | omega) (by first | assumption | (exact gmul_lt _ _) | omega)))); (focus (first | assumption | (exact gmul_lt _ _) | (exact ginv_lt _) | (exact gexp_lt _) | (exact gexpZ_lt _) | omega | (exact xor_lt (by first | assumption | (exact gmul_lt _ _) | omega) (by first | assumption | (exact gmul_lt _ _) | omega)))); (clear K); rintro e w' ⟨rfl, K0⟩; have K := hid K0; clear K0)
    go_wp2_with ((with_reducible refine wpList_unguard ?_ ?_); (focus rfl))
    go_ret
    exact ⟨by simp, K.out.1⟩
  · have hL : longP [l0, l1] = true := by unfold longP; simp; omega
    rw [hL]
    clear hL C1
    go_wp2_with ((with_reducible refine wpList_unguard ?_ ?_); (focus rfl))
    go_ret
    exact ⟨rfl, hB.out⟩
end Go.Proofs.Ytlipedigmokgbaa
