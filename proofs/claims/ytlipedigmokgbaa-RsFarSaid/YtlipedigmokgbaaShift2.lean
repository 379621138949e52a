/-
  The shift of a polynomial in the program.
  Conditions: polynomials of at most 1000000 bytes.
-/
import Derived.Test.YtlipedigmokgbaaShift
import Derived.Test.YtlipedigmokgbaaPoly6
namespace Tri
def shiftN (k : Int) : Nat := (min (max k 0) 1000).toNat
def pshift (l : List Nat) (k : Int) : List Nat := if trim l = [] then [] else trim l ++ List.replicate (shiftN k) 0
theorem shiftN_le (k : Int) : shiftN k ≤ 1000 := by unfold shiftN; omega
end Tri
namespace Go.Proofs.Ytlipedigmokgbaa
open Go.RowKit Tri

set_option maxHeartbeats 1000000 in
set_option maxRecDepth 100000 in
theorem poly_Shift (p : Option Addr) (n c : Nat) (l : List Nat) (k : Int) (w : World) (hn : n = l.length) (hc : n ≤ c) (hp : cellsB w p l) (hl : l.length ≤ 1000000) :
    Calls Try.prog 29 #[.slice p n c, .int .i64 k] w (RetB w (pshift l k)) := by
  subst hn
  have HP := hid hp
  clear hp
  have ht := trim_length_le l
  obtain ⟨i0, hi, hz0, hz1, hz2⟩ := info_parts Try.infoB
  go_enter Try.func29, Try.ntmps29
  go_wp2_with fail
  refine Calls.mono (poly_Trim p _ c l w rfl hc HP.out hl) ?_; rintro e w1 ⟨v, rfl, hO, hB⟩
  have HB := hid hB
  have HO := hid hO
  have hps : Hid (trim l ≠ [] → pshift l k = trim l ++ List.replicate (shiftN k) 0) := fun h => by unfold pshift; rw [if_neg h]
  have hps0 : Hid (trim l = [] → pshift l k = []) := fun h => by unfold pshift; rw [if_pos h]
  have hk := shiftN_le k
  have hkk : Hid ((shiftN k : Int) = min (max k 0) 1000) := by show _ = _; unfold shiftN; omega
  clear hB hO
  generalize trim l = T at *
  generalize pshift l k = R at *
  generalize shiftN k = K at *
  rcases HO.out.buf with ⟨rfl, ht0⟩ | ⟨g, cap, rfl, hg, hle, _⟩
  · have HR : Hid (R = []) := hps0.out ht0
    clear hps hps0 ht0
    go_wp2_with ((with_reducible refine wpList_unguard ?_ ?_); (focus rfl))
    go_ret
    exact ⟨_, rfl, by rw [HR.out]; exact World.ownsRow_nil _ _ _ _, HB.out⟩
  · by_cases h0 : T.length = 0
    · have HR : Hid (R = []) := hps0.out (List.eq_nil_of_length_eq_zero h0)
      rw [h0]
      go_wp2_with ((with_reducible refine wpList_unguard ?_ ?_); (focus rfl))
      go_ret
      exact ⟨_, rfl, by rw [HR.out]; exact World.ownsRow_nil _ _ _ _, HB.out⟩
    · have HR : Hid (R = T ++ List.replicate K 0) := hps.out (fun e => h0 (by rw [e]; rfl))
      have hz : ((T.length : Int) == 0) = false := by rw [beq_eq_false_iff_ne]; omega
      have hown : w1.ownsRow w.heap.size 5 1 (.slice (some ⟨g, 0, none⟩) T.length cap) T.length (T.map fun x => Value.int .u8 (x : Nat)) := HO.out
      clear hps hps0
      have hT : T.length ≤ 1000000 := by omega
      have hO2 : Hid (∀ v' w', w'.ownsRow w.heap.size 5 1 v' (T.length + K) ((T.map fun x => Value.int .u8 (x : Nat)) ++ List.replicate K (.int .u8 0)) → ownsB w' w.heap.size v' R) := by
        show ∀ v' w', _
        intro v' w' hown'
        rw [HR.out]
        unfold ownsB
        rw [List.map_append, List.map_replicate, List.length_append, List.length_replicate]
        exact hown'
      have hB2 : Hid (∀ w', w1.grownBy w' (Value.slice (some ⟨g, 0, none⟩) T.length cap).ownBlock → Below w.heap.size w w') := by
        show ∀ w', _
        intro w' hgrow
        exact HB.out.grown hgrow HB.out.size (by intro k hk; simp only [Value.ownBlock, Option.some.injEq] at hk; omega)
      clear HO HR
      have hX : Hid ((if 1000 < (if k < 0 then 0 else k) then 1000 else if k < 0 then 0 else k) = (K : Int)) := by
        have := hkk.out
        show _ = _
        by_cases h : k < 0
        · rw [if_pos h]; simp; omega
        · rw [if_neg h]; split <;> omega
      go_wp2_with (at_builtin; refine wpList_append_zeros rfl _ _ 28 3 rfl w.heap.size 5 i0 (.int .u8 0) .i64 Try.underlying28 Try.underlying3 hi hz0 hz1 hz2 rfl rfl (.slice (some ⟨g, 0, none⟩) T.length cap) T.length _ rfl hown (fun e => by cases e) K (congrArg (Value.int .i64) hX.out) (by omega) HB.out.size ?_)
      all_goals
        intro v' w' hown' hgrow
        have hO' := hid (hO2.out _ _ hown')
        have hB' := hid (hB2.out _ hgrow)
        clear hown' hgrow hown hX
        go_wp2_with ((with_reducible refine wpList_unguard ?_ ?_); (focus rfl))
        go_ret
        exact ⟨v', rfl, hO'.out, hB'.out⟩
end Go.Proofs.Ytlipedigmokgbaa
