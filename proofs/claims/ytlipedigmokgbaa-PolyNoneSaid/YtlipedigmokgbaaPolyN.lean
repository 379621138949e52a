/-
  PolyNone, walked: over a field that isn't there all is 0.
-/
import Derived.Test.YtlipedigmokgbaaPoly9
import Derived.Test.YtlipedigmokgbaaOpenS
namespace Go.Proofs.Ytlipedigmokgbaa
open Go.RowKit Tri

theorem cellsR.one {w : World} {p : Option Addr} {c : Nat} {a : List Nat} (t : TypeId) (hp : cellsB w p a) (hle : a.length ≤ c) : cellsR (w.alloc (.cells #[.slice p a.length c] t)) (some ⟨w.heap.size, 0, none⟩) [a] := by
  intro i hi
  match i, hi with
  | 0, _ => exact ⟨_, _, p, c, rfl, by rw [World.cell?_alloc_new]; rfl, hle, hp.alloc _⟩

set_option maxHeartbeats 2000000 in
set_option maxRecDepth 100000 in
theorem polyNone.walk (a0 : Option Addr) (len0 cap0 : Nat) (l0 : List Nat) (a1 : Int) (w : World) (w0 : IsBytes w a0 len0 cap0 l0) (w1 : (Lit.int .u8 a1).wf = true) :
    Calls Try.prog 9 #[.slice a0 len0 cap0, .int .u8 a1] w fun e w' => e = .returned (.bool true) ∧ Below w.heap.size w w' := by
  obtain ⟨x, hx, rfl⟩ := u8_of w1
  clear w1
  obtain ⟨hn, hlc, hcap, hS, hss⟩ := w0
  subst hn
  have HS := hid hS
  have HB := hid hss
  clear hS hss
  have hll : l0.length ≤ 140737488351232 := by omega
  (go_enter Try.func9, Try.ntmps9; try simp only [List.append])
  go_wp2_with ((with_reducible refine wpList_unguard ?_ ?_); (focus rfl))
  (refine Calls.mono (law05_awake _) ?_; rintro e w2 ⟨rfl, hbA⟩; have HBA := hid hbA; clear hbA)
  go_wp2_with ((with_reducible refine wpList_unguard ?_ ?_); (focus rfl))
  have C1 := hid (cellsR.one 28 (HS.out.below HBA.out) hlc)
  have hB := hid (HBA.out.alloc HBA.out.size (.cells #[.slice a0 l0.length cap0] 28))
  clear HBA
  generalize w2.alloc (.cells #[.slice a0 l0.length cap0] 28) = w3 at *
  refine Calls.mono (law05_great _ _ _ [l0] w3 rfl C1.out (by simp) (by intro a ha; simp only [List.mem_singleton] at ha; subst ha; exact hll)) ?_; rintro e w' ⟨rfl, rfl⟩
  by_cases hg : l0.length ≤ 60
  · have hL : longP [l0] = false := by unfold longP; simp; omega
    rw [hL]
    clear hL C1
    go_wp2_with ((with_reducible refine wpList_unguard ?_ ?_); (focus rfl))
    refine Calls.mono (poly_DivMod_nil _ _ _ _ _ _ l0 w3 rfl hlc (HS.out.below hB.out) (by omega)) ?_; rintro e w4 ⟨rfl, hb⟩
    have hB4 := hid (hB.out.trans (hb.mono hB.out.size))
    clear hb hB
    go_wp2_with ((with_reducible refine wpList_unguard ?_ ?_); (focus rfl))
    refine Calls.mono (poly_Add_nil _ _ _ _) ?_; rintro e w' ⟨rfl, rfl⟩
    have hB5 := hid (hB4.out.alloc hB4.out.size (.cells #[.slice a0 l0.length cap0] 28))
    clear hB4
    generalize w4.alloc (.cells #[.slice a0 l0.length cap0] 28) = w5 at *
    go_wp2_with ((with_reducible refine wpList_unguard ?_ ?_); (focus rfl))
    refine Calls.mono (poly_Mul_nil _ _ _ _) ?_; rintro e w' ⟨rfl, rfl⟩
    have hB6 := hid (hB5.out.alloc hB5.out.size (.cells #[.slice a0 l0.length cap0] 28))
    clear hB5
    generalize w5.alloc (.cells #[.slice a0 l0.length cap0] 28) = w6 at *
    go_wp2_with ((with_reducible refine wpList_unguard ?_ ?_); (focus rfl))
    refine Calls.mono (poly_Eval_nil _ _ _ l0 x w6 rfl (HS.out.below hB6.out) HB.out hx (by omega)) ?_; rintro e w7 ⟨rfl, hb⟩
    have hB7 := hid (hB6.out.trans (hb.mono hB6.out.size))
    clear hb hB6
    go_wp2_with ((with_reducible refine wpList_unguard ?_ ?_); (focus rfl))
    refine Calls.mono (poly_Derive_nil _ _ _ _) ?_; rintro e w' ⟨rfl, rfl⟩
    go_wp2_with ((with_reducible refine wpList_unguard ?_ ?_); (focus rfl))
    have hC := cellsB.new w7 [x] #[.int .u8 (x : Nat)] 5 rfl
    have hB8 := hid (hB7.out.alloc hB7.out.size (.cells #[.int .u8 (x : Nat)] 5))
    clear hB7
    generalize w7.alloc (.cells #[.int .u8 (x : Nat)] 5) = w8 at *
    refine Calls.mono (poly_Roots_nil _ _ _ [x] w8 rfl hC (by intro y hy; simp at hy; omega) (by simp)) ?_; rintro e w9 ⟨rfl, hb⟩
    have hB9 := hid (hB8.out.trans (hb.mono hB8.out.size))
    clear hb hB8 hC
    go_wp2_with ((with_reducible refine wpList_unguard ?_ ?_); (focus rfl))
    go_ret
    exact ⟨rfl, hB9.out⟩
  · have hL : longP [l0] = true := by unfold longP; simp; omega
    rw [hL]
    clear hL C1
    go_wp2_with ((with_reducible refine wpList_unguard ?_ ?_); (focus rfl))
    go_ret
    exact ⟨rfl, hB.out⟩
end Go.Proofs.Ytlipedigmokgbaa
