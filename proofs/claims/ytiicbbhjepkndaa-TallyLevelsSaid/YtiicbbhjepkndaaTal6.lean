/-
  A tally: Bump, Level; the statements' blank device.
-/
import Derived.Test.YtiicbbhjepkndaaTal5
import Derived.Test.YtiicbbhjepkndaaDev4
import Derived.Test.YtiicbbhjepkndaaFlU
namespace Tri
open Go Go.RowKit
def bumpC (s : FS) (n a b c : Nat) : Nat := if clrE s n a b c = 0 then c + 1 else c
end Tri
namespace Go.Proofs.Ytiicbbhjepkndaa
open Go.RowKit Tri

set_option maxHeartbeats 4000000 in
set_option maxRecDepth 100000 in
theorem tal_Bump (i : DI) (n : Nat) (s : FS) (T a b c : Nat) (ev : Bool) (w : World) (h : DevP w i n s) (hT : TalP w T i.D (a : Nat) (b : Nat) (c : Nat) ev) (ho : T < i.lo ∨ i.hi ≤ T) (ha : a < 1000) (hb : b < 1000) (hc : c < 512) :
    Calls Try.prog 41 #[.pointer (some ⟨T, 0, none⟩)] w fun e w' =>
      e = .returned (.int .i64 (clrE s n a b c : Nat)) ∧ DevP w' i n (clrS s n a b c) ∧ TalP w' T i.D (a : Nat) (b : Nat) (bumpC s n a b c : Nat) (clrV s n a b c ev) ∧ Out2 i.lo i.hi T w w' := by
  have c3 := hT.c3
  have q1 : decide ((512 : Int) ≤ c) = false := decide_eq_false (by omega)
  have HC := hid (tal_clear i n s T a b c (c : Nat) ev w h hT ho ha hb (by omega))
  obtain ⟨E, hE⟩ : ∃ E, clrE s n a b c = E := ⟨_, rfl⟩
  have HB : Hid (bumpC s n a b c = if E = 0 then c + 1 else c) := by show _ = _; unfold bumpC; rw [hE]
  rw [hE] at HC ⊢
  clear h hT hE
  (go_enter Try.func41, Try.ntmps41; try simp only [List.append])
  go_wp2_with ((with_reducible refine wpList_unguard ?_ ?_); (focus rfl))
  refine Calls.mono HC.out ?_; rintro e w1 ⟨rfl, hD, hT, hO⟩
  have HD := hid hD
  have HT := hid hT
  have HO := hid hO
  clear hD hT hO HC c3
  by_cases h0 : E = 0
  · subst h0
    have c3 := HT.out.c3
    have f3 := Blk.free HT.out 3
    have HT2 := hid (HT.out.setC ((c : Int) + 1))
    have HD2 := hid (HD.out.setT ho 3 (.int .i64 ((c : Int) + 1)))
    have HO2 := hid (HO.out.set 3 (.int .i64 ((c : Int) + 1)))
    have hbc : ((bumpC s n a b c : Nat) : Int) = (c : Int) + 1 := by rw [HB.out, if_pos rfl]; rfl
    have HBC := hid hbc
    clear hbc HT HD HO
    go_wp2_with ((with_reducible refine wpList_unguard ?_ ?_); (focus rfl))
    go_ret
    rw [HBC.out]
    exact ⟨rfl, HD2.out, HT2.out, HO2.out⟩
  · have q2 : ((E : Int) == 0) = false := beq_eq_false_iff_ne.2 (by omega)
    have hbc : bumpC s n a b c = c := by rw [HB.out, if_neg h0]
    have HBC := hid hbc
    clear hbc
    go_wp2_with ((with_reducible refine wpList_unguard ?_ ?_); (focus rfl))
    go_ret
    rw [HBC.out]
    exact ⟨rfl, HD.out, HT.out, HO.out⟩
set_option maxHeartbeats 4000000 in
set_option maxRecDepth 100000 in
theorem tal_Level_zero (i : DI) (n : Nat) (s : FS) (T : Nat) (a b : Int) (ev : Bool) (w : World) (h : DevP w i n s) (hT : TalP w T i.D a b 0 ev) (ho : T < i.lo ∨ i.hi ≤ T) :
    Calls Try.prog 43 #[.pointer (some ⟨T, 0, none⟩)] w fun e w' =>
      e = .returned (.int .i64 0) ∧ DevP w' i n s ∧ TalP w' T i.D a b 0 true ∧ Out2 i.lo i.hi T w w' := by
  have c3 := hT.c3
  have c4 := hT.c4
  have f4 := Blk.free hT 4
  have HT2 := hid (hT.setE true)
  have HD2 := hid (h.setT ho 4 (.bool true))
  have HO2 := hid ((Out2.refl i.lo i.hi T w).set 4 (.bool true))
  clear h hT
  (go_enter Try.func43, Try.ntmps43; try simp only [List.append])
  go_wp2_with ((with_reducible refine wpList_unguard ?_ ?_); (focus rfl))
  go_ret
  exact ⟨rfl, HD2.out, HT2.out, HO2.out⟩
set_option maxHeartbeats 4000000 in
set_option maxRecDepth 100000 in
theorem tal_Level (i : DI) (n : Nat) (s : FS) (T a b c : Nat) (ev : Bool) (w : World) (h : DevP w i n s) (hT : TalP w T i.D (a : Nat) (b : Nat) ((c + 1 : Nat) : Int) ev) (ho : T < i.lo ∨ i.hi ≤ T) (ha : a < 1000) (hb : b < 1000) (hc : c < 512) :
    Calls Try.prog 43 #[.pointer (some ⟨T, 0, none⟩)] w fun e w' =>
      e = .returned (.int .i64 (clrE s n a b c : Nat)) ∧ DevP w' i n (clrS s n a b c) ∧ TalP w' T i.D (a : Nat) (b : Nat) ((c + 1 : Nat) : Int) (clrV s n a b c ev) ∧ Out2 i.lo i.hi T w w' := by
  have c3 := hT.c3
  have q1 : (((c + 1 : Nat) : Int) == 0) = false := beq_eq_false_iff_ne.2 (by omega)
  have HC := hid (tal_clear i n s T a b c ((c + 1 : Nat) : Int) ev w h hT ho ha hb (by omega))
  obtain ⟨E, hE⟩ : ∃ E, clrE s n a b c = E := ⟨_, rfl⟩
  rw [hE] at HC ⊢
  clear h hT hE
  obtain ⟨x, hx⟩ : ∃ x : Int, ((c + 1 : Nat) : Int) = x := ⟨_, rfl⟩
  have hx1 : x - 1 = (c : Int) := by omega
  have hxr : -5 ≤ x ∧ x ≤ 1000 := by omega
  rw [hx] at c3 q1 HC ⊢
  have HX := hid hx1
  clear hx hx1
  (go_enter Try.func43, Try.ntmps43; try simp only [List.append])
  go_wp2_with ((with_reducible refine wpList_unguard ?_ ?_); (focus rfl))
  rw [HX.out]
  refine Calls.mono HC.out ?_; rintro e w1 ⟨rfl, hD, hT, hO⟩
  have HD := hid hD
  have HT := hid hT
  have HO := hid hO
  clear hD hT hO HC c3
  go_wp2_with ((with_reducible refine wpList_unguard ?_ ?_); (focus rfl))
  go_ret
  exact ⟨rfl, HD.out, HT.out, HO.out⟩
set_option maxHeartbeats 4000000 in
set_option maxRecDepth 100000 in
theorem law16_blank (w : World) : Calls Try.prog 39 #[] w fun e w' => ∃ i : DI, e = .returned (.tuple #[.pointer (some ⟨i.D, 0, none⟩), .int .i64 25, .int .i64 26]) ∧ w.heap.size ≤ i.lo ∧ DevP w' i 27 (newS 27) ∧ Below w.heap.size w w' := by
  have hA := fun w => hid (geo_All 1 2 1 w (by unfold i64r; omega))
  have hT := fun c w => hid (geo_Tally 1 2 1 c w (by unfold i64r; omega))
  rw [show allI 1 2 1 = ((27 : Nat) : Int) from by decide] at hA
  (go_enter Try.func39, Try.ntmps39; try simp only [List.append])
  go_wp2_with ((with_reducible refine wpList_unguard ?_ ?_); (focus rfl))
  refine Calls.mono (law15_Geo w) ?_; rintro e w1 ⟨rfl, hb⟩
  have HB1 := hid hb
  clear hb
  go_wp2_with ((with_reducible refine wpList_unguard ?_ ?_); (focus rfl))
  refine Calls.mono (hA w1).out ?_; rintro e w2 ⟨rfl, hb⟩
  have HB2 := hid (HB1.out.trans (hb.mono HB1.out.size))
  clear hb HB1
  go_wp2_with ((with_reducible refine wpList_unguard ?_ ?_); (focus rfl))
  refine Calls.mono (dev_New 27 w2 (by omega) (by omega)) ?_; rintro e w3 ⟨i, rfl, hlo, hhi, hD, hb⟩
  have HB3 := hid (HB2.out.trans (hb.mono HB2.out.size))
  have HD3 := hid hD
  have hwz : w.heap.size ≤ i.lo := by rw [hlo]; exact HB2.out.size
  clear hb hD hlo hhi HB2
  go_wp2_with ((with_reducible refine wpList_unguard ?_ ?_); (focus rfl))
  refine Calls.mono (law15_Geo w3) ?_; rintro e w4 ⟨rfl, hb⟩
  have HB4 := hid (HB3.out.trans (hb.mono HB3.out.size))
  have HD4 := hid (HD3.out.below hb)
  clear hb HB3 HD3
  go_wp2_with ((with_reducible refine wpList_unguard ?_ ?_); (focus rfl))
  refine Calls.mono (hT 0 w4).out ?_; rintro e w5 ⟨rfl, hb⟩
  have HB5 := hid (HB4.out.trans (hb.mono HB4.out.size))
  have HD5 := hid (HD4.out.below hb)
  clear hb HB4 HD4
  rw [show tallyI 1 2 1 0 = 25 from by decide, show tallyE 1 2 1 0 = 0 from by decide]
  go_wp2_with ((with_reducible refine wpList_unguard ?_ ?_); (focus rfl))
  refine Calls.mono (law15_Geo w5) ?_; rintro e w6 ⟨rfl, hb⟩
  have HB6 := hid (HB5.out.trans (hb.mono HB5.out.size))
  have HD6 := hid (HD5.out.below hb)
  clear hb HB5 HD5
  go_wp2_with ((with_reducible refine wpList_unguard ?_ ?_); (focus rfl))
  refine Calls.mono (hT 1 w6).out ?_; rintro e w7 ⟨rfl, hb⟩
  have HB7 := hid (HB6.out.trans (hb.mono HB6.out.size))
  have HD7 := hid (HD6.out.below hb)
  clear hb HB6 HD6
  rw [show tallyI 1 2 1 1 = 26 from by decide, show tallyE 1 2 1 1 = 0 from by decide]
  go_wp2_with ((with_reducible refine wpList_unguard ?_ ?_); (focus rfl))
  go_returns
  exact ⟨i, rfl, hwz, HD7.out, HB7.out⟩
end Go.Proofs.Ytiicbbhjepkndaa
