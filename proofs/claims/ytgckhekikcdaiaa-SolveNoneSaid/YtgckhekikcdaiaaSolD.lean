/-
  The document's example (chapter 07); SolveNone, walked.
-/
import Derived.Test.YtgckhekikcdaiaaPak13
namespace Tri
open Go.Proofs.Ytgckhekikcdaiaa
theorem enc7_ex : enc [7, 9] 4 = [7, 9, 67, 35, 155, 245] := by decide +kernel
theorem mend7_ex : mendW 6 4 [6, 9, 67, 35, 214, 245] [] = some [7, 9, 67, 35, 155, 245] := by decide +kernel
theorem unk7_ex : unkL [6, 9, 67, 35, 214, 245] [7, 9, 67, 35, 155, 245] 6 = [0, 4] := by decide +kernel
theorem era7_ex : eraZ [] = [] := by unfold eraZ sortI; simp [Go.Lib.compact, Go.Lib.compactUpTo]
end Tri
namespace Go.Proofs.Ytgckhekikcdaiaa
open Go.RowKit Tri

set_option maxHeartbeats 4000000 in
set_option maxRecDepth 100000 in
theorem law07_awake (w : World) : Calls Try.prog 27 #[] w fun e w' => e = .returned (.bool true) ∧ Below w.heap.size w w' := by
  (go_enter Try.func27, Try.ntmps27; try simp only [List.append])
  go_wp2_with ((with_reducible refine wpList_unguard ?_ ?_); (focus rfl))
  refine Calls.mono (gf_NewK w w (Below.refl _ _)) ?_; rintro e w2 ⟨b, rfl, K0⟩; have K := hid K0; clear K0
  go_wp2_with ((with_reducible refine wpList_unguard ?_ ?_); (focus rfl))
  refine Calls.mono (rs_New b 6 2 w2 K.out.2 (by omega) (by omega) (by omega) (by omega)) ?_
  rintro e w3 ⟨c, rfl, hR, hbel⟩
  have HR := hid hR
  have HB := hid (K.out.1.trans (hbel.mono K.out.1.size))
  clear hR hbel K
  go_wp2_with ((with_reducible refine wpList_unguard ?_ ?_); (focus rfl))
  have C0 := hid (cellsB.new w3 [7, 9] #[.int .u8 7, .int .u8 9] 5 rfl)
  have hb1 : Below w3.heap.size w3 (w3.alloc (.cells #[.int .u8 7, .int .u8 9] 5)) := (Below.refl _ _).alloc (Nat.le_refl _) _
  have HR4 := hid (HR.out.below hb1)
  have HB4 := hid (HB.out.trans (hb1.mono HB.out.size))
  clear hb1 HR HB
  generalize w3.alloc (.cells #[.int .u8 7, .int .u8 9] 5) = w4 at *
  refine Calls.mono (rs_Encode c b 6 2 _ _ _ [7, 9] w4 HR4.out (by omega) (by omega) (by omega) (by omega) rfl (Nat.le_refl _) C0.out (by intro y hy; simp at hy; omega) rfl) ?_
  rintro e w5 ⟨v, rfl, hO, hbel⟩
  rw [show (6 - 2 : Nat) = 4 from rfl, enc7_ex] at hO
  obtain ⟨p, d, rfl, hc⟩ := hO.cells
  have HC := hid hc
  have HR5 := hid (HR4.out.below hbel)
  have HB5 := hid (HB4.out.trans (hbel.mono HB4.out.size))
  have hA : Below w5.heap.size w5 (w5.alloc (.cells #[] 5)) := (Below.refl _ _).alloc (Nat.le_refl _) _
  have hown : ownsB (w5.alloc (.cells #[] 5)) w5.heap.size (.slice (some ⟨w5.heap.size, 0, none⟩) 0 0) [] := World.ownsRow_lit w5 #[] 0 (Nat.le_refl _) (by unfold maxLen; omega) rfl
  have hqa := HC.out.below hA
  clear hO hc hbel HR4 HB4 C0
  go_wp2_with (at_builtin; refine wpList_pushB rfl _ _ rfl w5.heap.size _ [] [7, 9, 67, 35, 155, 245] p d hown hqa (by simp) rfl _ rfl rfl (by simp) (by simp) hA.size ?_)
  intro v' w6 hq' hb'
  obtain ⟨g, cap, rfl, hg, hcap, hbuf⟩ := hq'.buf2 (by simp)
  have hb56 := hA.trans hb'
  have HR6 := hid (HR5.out.below hb56)
  have HB6 := hid (HB5.out.trans (hb56.mono HB5.out.size))
  have HC6 := hid (HC.out.below hb56)
  have HG := hid (Nat.le_trans HB5.out.size hg)
  have hbuf : bufB w6 g [7, 9, 67, 35, 155, 245] := hbuf
  have c0 := hbuf.at 0 (by simp)
  have f0 := hbuf.2 0 (by simp)
  have c0 : w6.cell? ⟨g, 0, none⟩ = some (.int .u8 7) := c0
  have HBF1 := hid (hbuf.set 0 6 (by simp))
  have HB7 := hid (HB6.out.setCell (p := ⟨g, 0, none⟩) HG.out (.int .u8 (6 : Nat)))
  have HG5 := hid hg
  have HB56 := hid hb56
  clear hA hown hqa hq' hb' hb56 hg
  have hx1 : bits .xor .u8 7 1 = 6 := by decide
  have hx2 : bits .xor .u8 155 77 = 214 := by decide
  have c4 : (w6.setCell ⟨g, 0, none⟩ (.int .u8 6)).cell? ⟨g, 4, none⟩ = some (.int .u8 155) := HBF1.out.at 4 (by simp)
  have f4 : (w6.setCell ⟨g, 0, none⟩ (.int .u8 6)).frozen? ⟨g, 4, none⟩ = false := HBF1.out.2 4 (by simp)
  have HBF2 : Hid (bufB ((w6.setCell ⟨g, 0, none⟩ (.int .u8 6)).setCell ⟨g, 4, none⟩ (.int .u8 214)) g [6, 9, 67, 35, 214, 245]) := HBF1.out.set 4 214 (by simp)
  have HB8 : Hid (Below w.heap.size w ((w6.setCell ⟨g, 0, none⟩ (.int .u8 6)).setCell ⟨g, 4, none⟩ (.int .u8 214))) := HB7.out.setCell (p := ⟨g, 4, none⟩) HG.out (.int .u8 214)
  have h58 : Below w5.heap.size w5 ((w6.setCell ⟨g, 0, none⟩ (.int .u8 6)).setCell ⟨g, 4, none⟩ (.int .u8 214)) := (HB56.out.setCell (p := ⟨g, 0, none⟩) HG5.out (.int .u8 6)).setCell (p := ⟨g, 4, none⟩) HG5.out (.int .u8 214)
  have HR8 := hid (HR5.out.below h58)
  have HC8 := hid (HC.out.below h58)
  have HMe := hid (sol_Mend c b 6 2 (some ⟨g, 0, none⟩) cap [6, 9, 67, 35, 214, 245] none 0 [] _ HR8.out (by omega) (by omega) (by omega) HBF2.out.1 (by intro x hx; simp at hx; omega) (by simp) (cellsZ.nil _ _) (by simp))
  clear HBF1 HB7 hbuf h58 HG HG5 HB56 HR5 HC HB5 HB6 HBF2 HR6 HC6
  go_wp2_with ((with_reducible refine wpList_unguard ?_ ?_); (focus rfl))
  generalize ((w6.setCell ⟨g, 0, none⟩ (.int .u8 6)).setCell ⟨g, 4, none⟩ (.int .u8 214)) = w8 at *
  refine Calls.mono HMe.out ?_; rintro e w9 ⟨hb, hm⟩
  obtain ⟨p9, c9, q9, d9, rfl, hl1, hl2, hc1, hc2⟩ := hm.2.2 ⟨rfl, by simp⟩ [7, 9, 67, 35, 155, 245] (by rw [era7_ex]; exact mend7_ex)
  rw [unk7_ex] at hl2 hc2 ⊢
  have HB9 := hid (HB8.out.trans (hb.mono HB8.out.size))
  have HC9 := hid (HC8.out.below hb)
  have HX := hid hc1
  have HY := hid hc2.z
  clear hm hb hc1 hc2 HMe HB8 HC8 HR8
  have hs1 := conv_str HX.out 6 c9 rfl
  have hs2 := conv_str HC9.out 6 d rfl
  have hSm := hid (ref01_Same q9 (some ⟨w9.heap.size, 0, none⟩) 2 2 d9 2 [0, 4] [0, 4] (w9.alloc (.cells #[.int .i64 0, .int .i64 4] 3)) rfl rfl (HY.out.below ((Below.refl _ _).alloc (Nat.le_refl _) _)) (cellsZ.new w9 [0, 4] _ _ rfl) (by simp) (by simp))
  have HBa := hid (HB9.out.alloc HB9.out.size (.cells #[.int .i64 0, .int .i64 4] 3))
  go_wp2_with ((with_reducible refine wpList_unguard ?_ ?_); (focus rfl))
  refine Calls.mono hSm.out ?_; rintro e w10 ⟨rfl, hb⟩
  have HB10 := hid (HBa.out.trans (hb.mono HBa.out.size))
  clear hSm hb
  go_wp2_with ((with_reducible refine wpList_unguard ?_ ?_); (focus rfl))
  go_ret
  exact ⟨rfl, HB10.out⟩
set_option maxHeartbeats 2000000 in
set_option maxRecDepth 100000 in
theorem solveNone.walk (a0 : Option Addr) (len0 cap0 : Nat) (l0 : List Nat) (a1 : Int) (w : World) (w0 : IsBytes w a0 len0 cap0 l0) (w1 : (Lit.int .i64 a1).wf = true) :
    Calls Try.prog 8 #[.slice a0 len0 cap0, .int .i64 a1] w fun e w' => e = .returned (.bool true) ∧ Below w.heap.size w w' := by
  clear w0
  (go_enter Try.func8, Try.ntmps8; try simp only [List.append])
  go_wp2_with ((with_reducible refine wpList_unguard ?_ ?_); (focus rfl))
  (refine Calls.mono (law07_awake _) ?_; rintro e w2 ⟨rfl, hbA⟩; have HBA := hid hbA; clear hbA)
  go_wp2_with ((with_reducible refine wpList_unguard ?_ ?_); (focus rfl))
  have h1 := hid (sol_Mend_nil a0 len0 cap0 (.slice none 0 0) w2)
  refine Calls.mono h1.out ?_; rintro e w3 ⟨rfl, hb⟩
  have HB3 := hid (HBA.out.trans (hb.mono HBA.out.size))
  have h2 := hid (sol_Within_nil a1 0 w3 (rs_Size_nil w3))
  clear hb h1 HBA
  go_wp2_with ((with_reducible refine wpList_unguard ?_ ?_); (focus rfl))
  refine Calls.mono h2.out ?_; rintro e w' ⟨rfl, rfl⟩
  go_wp2_with ((with_reducible refine wpList_unguard ?_ ?_); (focus rfl))
  go_ret
  exact ⟨rfl, HB3.out⟩
end Go.Proofs.Ytgckhekikcdaiaa
