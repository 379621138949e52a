/-
  The document's answer for a word's values, and whether it is right.
-/
import Derived.Test.YtlipedigmokgbaaRs6
import Derived.Test.YtlipedigmokgbaaRef5d
import Derived.Test.YtlipedigmokgbaaPolyW
namespace Tri
theorem gexp_two (i : Nat) : gmul (gexp i) 2 = gexp (i + 1) := by
  have h : (2 : Nat) = gexp 1 := by decide +kernel
  conv => lhs; rw [h]
  exact gmul_gexp i 1
end Tri
namespace Go.Proofs.Ytlipedigmokgbaa
open Go.RowKit Tri

set_option maxHeartbeats 2000000 in
set_option maxRecDepth 100000 in
theorem ref6_Values (p : Option Addr) (n c : Nat) (word : List Nat) (many : Nat) (w : World) (hn : n = word.length) (hp : cellsB w p word) (hb : bytesL word) (hl : word.length ≤ 1000) (hm : many ≤ 1000) :
    Calls Try.prog 43 #[.slice p n c, .int .i64 many] w (RetI w (synd word many)) := by
  subst hn
  have HP := hid hp
  have HB := hid hb
  clear hp hb
  obtain ⟨i0, hi, hz0, hz1, hz2⟩ := info_parts Try.infoI
  have HST : Hid (∀ j, j < many → (synd word many).take (j + 1) = (synd word many).take j ++ [peval (gexp j) word]) := fun j hj => synd_take word many j hj
  have HSl := hid (synd_length word many)
  generalize synd word many = S at *
  (go_enter Try.func43, Try.ntmps43; try simp only [List.append])
  go_wp2_with ((with_reducible refine wpList_unguard ?_ ?_); (focus rfl))
  refine Calls.mono (ref5_Of p _ c word w rfl HP.out HB.out (by omega)) ?_
  rintro e w1 ⟨p1, c1, rfl, hle1, hc1, hbel⟩
  have HW1 := hid hc1
  have HBel := hid hbel
  have HWB := hid (rof_bytes HB.out)
  have HRv : Hid (∀ x, reval (rof word) x = peval x word) := fun x => reval_rof x HB.out
  have hwl : (rof word).length ≤ 1000 := by rw [rof_length]; have := trim_length_le word; omega
  clear hc1 hbel
  generalize rof word = W at *
  have hown0 : Hid (ownsI (w1.alloc (.cells #[] 3)) w1.heap.size (.slice (some ⟨w1.heap.size, 0, none⟩) 0 0) []) := World.ownsRow_lit w1 #[] 0 (Nat.le_refl _) (by unfold maxLen; omega) rfl
  have hb1 : Below w1.heap.size w1 (w1.alloc (.cells #[] 3)) := (Below.refl _ _).alloc (Nat.le_refl _) _
  have hB1 := hid hb1
  clear hb1
  go_wp2_with ((with_reducible refine wpList_unguard ?_ ?_); (focus rfl))
  go_loopw [6, 7, 8] (fun s t i wr => ∃ j : Nat, j ≤ many ∧ i = .int .i64 j ∧ t = .int .i64 (gexp j : Nat) ∧ ownsI wr w1.heap.size s (S.take j) ∧ Below w1.heap.size w1 wr) (fun _ _ i _ => many - (intOf i).toNat)
  case atStart => exact ⟨0, Nat.zero_le _, rfl, rfl, hown0.out, hB1.out⟩
  case round =>
    obtain ⟨j, hj, rfl, rfl, hO, hK1⟩ := hrel
    have HO := hid hO
    have K1 := hid hK1
    clear hO hK1 hown0 hB1
    by_cases hlt : j < many
    · have HS := hid (HST.out j hlt)
      have hgl := gexp_lt j
      have hkl : (S.take j).length ≤ 1000000 := by rw [List.length_take, HSl.out]; omega
      have HG := hid (gexp_two j)
      generalize hs2 : S.take (j + 1) = S2 at *
      have HS2 := hid hs2
      clear hs2
      generalize S.take j = S1 at *
      generalize hg2 : gexp (j + 1) = x2 at *
      have HG2 := hid hg2
      clear hg2
      generalize gexp j = x at *
      go_wp2_with ((with_reducible refine wpList_unguard ?_ ?_); (focus rfl))
      refine Calls.mono (ref5_Eval p1 _ c1 W x wr rfl (HW1.out.below K1.out) HWB.out hgl (by omega)) ?_; rintro e w' ⟨rfl, rfl⟩
      rw [HRv.out]
      generalize peval x word = y at *
      go_wp2_with (at_builtin; refine wpList_push rfl _ _ 27 rfl w1.heap.size 3 i0 .i64 8 Try.underlying27 hi hz0 hz1 hz2 (by decide) _ S1 y HO.out rfl _ rfl rfl hkl K1.out.size ?_)
      intro v' w' hown' hbel
      have hO' : Hid (ownsI w' w1.heap.size v' S2) := by show ownsI _ _ _ _; rw [HS.out]; exact hown'
      have K1' := hid (K1.out.trans hbel)
      clear hown' hbel
      go_wp2_with ((with_reducible refine wpList_unguard ?_ ?_); (focus rfl))
      refine Calls.mono (ref_Mul x 2 hgl (by omega) _) ?_; rintro e w' ⟨rfl, rfl⟩
      rw [HG.out]
      go_wp2_with ((with_reducible refine wpList_unguard ?_ ?_); (focus rfl))
      go_roundw
      case rel => exact ⟨j + 1, by omega, by go_num, by rw [HG2.out], by rw [HS2.out]; exact hO'.out, K1'.out⟩
      case measure => simp [intOf]; omega
    · have hT : Hid (S.take j = S) := by show _ = _; exact List.take_of_length_le (by rw [HSl.out]; omega)
      rw [hT.out] at HO
      obtain ⟨p', c', rfl, hle, hcr⟩ := HO.out.cells
      have HC := hid hcr
      clear hcr
      go_wp2_with ((with_reducible refine wpList_unguard ?_ ?_); (focus rfl))
      go_ret
      exact ⟨p', c', rfl, hle, HC.out, HBel.out.trans (K1.out.mono HBel.out.size)⟩
set_option maxHeartbeats 1000000 in
set_option maxRecDepth 100000 in
theorem ref6_Right (p : Option Addr) (m c : Nat) (word : List Nat) (n k : Nat) (w : World) (hm : m = word.length) (hp : cellsB w p word) (hb : bytesL word) (hl : word.length ≤ 1000) (hk : k < n) (hn : n ≤ 255) (hw : word.length = n) :
    Calls Try.prog 44 #[.slice p m c, .int .i64 n, .int .i64 k] w fun e w' => e = .returned (.bool (rightB word (n - k))) ∧ Below w.heap.size w w' := by
  subst hm
  have HP := hid hp
  have HB := hid hb
  clear hp hb
  obtain ⟨q, hq⟩ : ∃ q, n - k = q := ⟨_, rfl⟩
  have hnk : (n : Int) - (k : Int) = (q : Int) := by omega
  have hwq : IntKind.i64.wrap (q : Int) = (q : Int) := by rw [IntKind.wrap_i64]; omega
  have hne : ((word.length : Int) != (n : Int)) = false := by rw [bne_eq_false_iff_eq]; omega
  rw [hq]
  have HRB : Hid (rightB word q = (synd word q).all fun y => decide (y = 0)) := rfl
  have HSl := hid (synd_length word q)
  have hq255 : q ≤ 255 := by omega
  have HW := hid hw
  clear hq hw
  generalize hrb : rightB word q = b at *
  have HRb := hid hrb
  clear hrb
  (go_enter Try.func44, Try.ntmps44; try simp only [List.append])
  go_wp2_with ((with_reducible refine wpList_unguard ?_ ?_); (focus rfl))
  refine Calls.mono (ref6_Values p _ c word q w rfl HP.out HB.out hl (by omega)) ?_
  rintro e w1 ⟨p1, c1, rfl, hle1, hc1, hbel⟩
  have HC := hid hc1
  have HBel := hid hbel
  clear hc1 hbel
  generalize synd word q = S at *
  have hSL : S.length ≤ 255 := by rw [HSl.out]; omega
  go_wp2_with ((with_reducible refine wpList_unguard ?_ ?_); (focus rfl))
  go_loop [8] (fun i => ∃ j : Nat, j ≤ S.length ∧ i = .int .i64 j ∧ (S.take j).all (fun y => decide (y = 0)) = true) (fun i => S.length - (intOf i).toNat)
  case atStart => exact ⟨0, Nat.zero_le _, rfl, rfl⟩
  case round =>
    obtain ⟨j, hj, rfl, hA⟩ := hrel
    have HA := hid hA
    clear hA
    by_cases hlt : j < S.length
    · obtain ⟨a, o, rfl, hc⟩ := HC.out j hlt
      have HS : Hid (S.take (j + 1) = S.take j ++ [S.getD j 0]) := take_snocN S j hlt
      have hmem : Hid (S.getD j 0 ∈ S) := getD_mem S j hlt
      generalize S.getD j 0 = y at *
      by_cases hy : y = 0
      · subst hy
        go_wp2_with ((with_reducible refine wpList_unguard ?_ ?_); (focus rfl))
        go_round
        case rel => exact ⟨j + 1, by omega, by go_num, by rw [HS.out, List.all_append, HA.out]; rfl⟩
        case measure => simp [intOf]; omega
      · have hyz : ((y : Int) != 0) = true := by rw [bne_iff_ne]; omega
        have hb0 : Hid (b = false) := by
          show _ = _
          rw [HRB.out, List.all_eq_false]
          exact ⟨y, hmem.out, by simpa using hy⟩
        go_wp2_with ((with_reducible refine wpList_unguard ?_ ?_); (focus rfl))
        go_ret
        exact ⟨by rw [hb0.out]; rfl, HBel.out⟩
    · have hb1 : Hid (b = true) := by
        show _ = _
        have h1 := HA.out
        rw [List.take_of_length_le (by omega)] at h1
        rw [HRB.out, h1]
      go_wp2_with ((with_reducible refine wpList_unguard ?_ ?_); (focus rfl))
      go_ret
      exact ⟨by rw [hb1.out]; rfl, HBel.out⟩
end Go.Proofs.Ytlipedigmokgbaa
