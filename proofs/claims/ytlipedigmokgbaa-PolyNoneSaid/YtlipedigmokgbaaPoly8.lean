/-
  Over a field that isn't there.
-/
import Derived.Test.YtlipedigmokgbaaPoly7
namespace Go.Proofs.Ytlipedigmokgbaa
open Go.RowKit Tri

theorem poly_Add_nil (p : Option Addr) (n c : Nat) (w : World) : Calls Try.prog 23 #[.pointer none, .slice p n c] w fun e w' => e = .returned (.slice none 0 0) ∧ w = w' := by
  go_enter Try.func23, Try.ntmps23
  go_wp2_with ((with_reducible refine wpList_unguard ?_ ?_); (focus rfl))
  go_ret
  exact ⟨rfl, rfl⟩
theorem poly_Mul_nil (p : Option Addr) (n c : Nat) (w : World) : Calls Try.prog 24 #[.pointer none, .slice p n c] w fun e w' => e = .returned (.slice none 0 0) ∧ w = w' := by
  go_enter Try.func24, Try.ntmps24
  go_wp2_with ((with_reducible refine wpList_unguard ?_ ?_); (focus rfl))
  go_ret
  exact ⟨rfl, rfl⟩
theorem poly_Derive_nil (p : Option Addr) (n c : Nat) (w : World) : Calls Try.prog 27 #[.pointer none, .slice p n c] w fun e w' => e = .returned (.slice none 0 0) ∧ w = w' := by
  go_enter Try.func27, Try.ntmps27
  go_wp2_with ((with_reducible refine wpList_unguard ?_ ?_); (focus rfl))
  go_ret
  exact ⟨rfl, rfl⟩
theorem poly_DivMod_nil (p q : Option Addr) (n c m d : Nat) (b : List Nat) (w : World) (hm : m = b.length) (hmd : m ≤ d) (hq : cellsB w q b) (hl : b.length ≤ 100000) :
    Calls Try.prog 33 #[.pointer none, .slice p n c, .slice q m d] w fun e w' => e = .returned (.tuple #[.slice none 0 0, .slice none 0 0, .bool false]) ∧ Below w.heap.size w w' := by
  subst hm
  have HQ := hid hq
  clear hq
  go_enter Try.func33, Try.ntmps33
  go_wp2_with ((with_reducible refine wpList_unguard ?_ ?_); (focus rfl))
  refine Calls.mono (poly_Trim q _ d b w rfl hmd HQ.out (by omega)) ?_; rintro e w1 ⟨va, rfl, hO, hB⟩
  have HB1 := hid hB
  clear hB hO
  go_wp2_with ((with_reducible refine wpList_unguard ?_ ?_); (focus rfl))
  refine bodyPost_ret (v := .tuple #[.slice none 0 0, .slice none 0 0, .bool false]) (by simp [results, Try.results33, go_sem]) rfl ⟨rfl, HB1.out⟩
end Go.Proofs.Ytlipedigmokgbaa
