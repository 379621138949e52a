/-
  A tally as the program holds it: Count, Even, clear, Bump, Level.
-/
import Derived.Test.YtiicbbhjepkndaaTal2
import Derived.Test.YtiicbbhjepkndaaDev8
namespace Tri
open Go Go.RowKit
def pgAt (sec bit : Nat) : Nat := 64 * sec + 16 * (bit / 128)
def clrE1 (s : FS) (n a bit : Nat) : Nat := s.progE n (pgAt a bit : Nat) (pageT (bit % 128 + 1))
def clrS1 (s : FS) (n a bit : Nat) : FS := s.prog n (pgAt a bit : Nat) (pageT (bit % 128 + 1))
def clrE (s : FS) (n a b bit : Nat) : Nat := if clrE1 s n a bit ≠ 0 then clrE1 s n a bit else clrE1 (clrS1 s n a bit) n b bit
def clrS (s : FS) (n a b bit : Nat) : FS := if clrE1 s n a bit ≠ 0 then clrS1 s n a bit else clrS1 (clrS1 s n a bit) n b bit
def clrV (s : FS) (n a b bit : Nat) (ev : Bool) : Bool := if clrE s n a b bit = 0 then true else ev
end Tri
namespace Go.Proofs.Ytiicbbhjepkndaa
open Go.RowKit Tri

/-- As Out, but one block more may change. -/
structure Out2 (lo hi T : Nat) (w w' : World) : Prop where
  os : w'.os = w.os
  tape : w'.tape = w.tape
  output : w'.output = w.output
  size : w.heap.size ≤ w'.heap.size
  block : ∀ k, k < w.heap.size → (k < lo ∨ hi ≤ k) → k ≠ T → w'.heap[k]? = w.heap[k]?
theorem Out2.of {lo hi T : Nat} {w w' : World} (h : Out lo hi w w') : Out2 lo hi T w w' := ⟨h.os, h.tape, h.output, h.size, fun k h1 h2 _ => h.block k h1 h2⟩
theorem Out2.refl (lo hi T : Nat) (w : World) : Out2 lo hi T w w := Out2.of (Out.refl _ _ _)
theorem Out2.trans {lo hi T : Nat} {a b c : World} (h : Out2 lo hi T a b) (k : Out2 lo hi T b c) : Out2 lo hi T a c :=
  ⟨k.os.trans h.os, k.tape.trans h.tape, k.output.trans h.output, Nat.le_trans h.size k.size, fun i hi ho hT => (k.block i (Nat.lt_of_lt_of_le hi h.size) ho hT).trans (h.block i hi ho hT)⟩
theorem Out2.set {lo hi T : Nat} {a w : World} (h : Out2 lo hi T a w) (j : Nat) (v : Value) : Out2 lo hi T a (w.setCell ⟨T, j, none⟩ v) :=
  ⟨h.os, h.tape, h.output, by simpa using h.size, fun k hk ho hT => (Below.heap_setCell w ⟨T, j, none⟩ v k hT).trans (h.block k hk ho hT)⟩
theorem Out2.belowB {lo hi T : Nat} {w0 a w : World} (h : Out2 lo hi T a w) (hb : Below w0.heap.size w0 a) (hlo : w0.heap.size ≤ lo) (hT : w0.heap.size ≤ T) : Below w0.heap.size w0 w :=
  ⟨h.os.trans hb.os, h.tape.trans hb.tape, h.output.trans hb.output, Nat.le_trans hb.size h.size, fun k hk => (h.block k (Nat.lt_of_lt_of_le hk hb.size) (.inl (Nat.lt_of_lt_of_le hk hlo)) (by omega)).trans (hb.block k hk)⟩
theorem Out2.drew {lo hi T : Nat} {a w : World} (h : Out2 lo hi T a w) : Out2 lo hi T a w.drew := ⟨h.os, h.tape, h.output, h.size, h.block⟩
/-- A tally. -/
def TalP (w : World) (T D : Nat) (a b cnt : Int) (ev : Bool) : Prop := Blk w T 149 #[.pointer (some ⟨D, 0, none⟩), .int .i64 a, .int .i64 b, .int .i64 cnt, .bool ev]
theorem TalP.out {w w' : World} {T D lo hi : Nat} {a b cnt : Int} {ev : Bool} (h : TalP w T D a b cnt ev) (ho : Out lo hi w w') (hT : T < lo ∨ hi ≤ T) : TalP w' T D a b cnt ev := by
  unfold TalP Blk
  rw [ho.block T h.lt hT]
  exact h
theorem TalP.below {w w' : World} {T D : Nat} {a b cnt : Int} {ev : Bool} (h : TalP w T D a b cnt ev) (hb : Below w.heap.size w w') : TalP w' T D a b cnt ev := Blk.below h hb
theorem DevP.setT {w : World} {i : DI} {n : Nat} {s : FS} (h : DevP w i n s) {T : Nat} (hT : T < i.lo ∨ i.hi ≤ T) (j : Nat) (v : Value) : DevP (w.setCell ⟨T, j, none⟩ v) i n s :=
  h.out ((Out.refl T (T + 1) w).set ⟨T, j, none⟩ v (Nat.le_refl T) (Nat.lt_succ_self T)) (by omega)
section
variable {w : World} {T D : Nat} {a b cnt : Int} {ev : Bool}
theorem TalP.c0 (h : TalP w T D a b cnt ev) : w.cell? ⟨T, 0, none⟩ = some (.pointer (some ⟨D, 0, none⟩)) := Blk.cell h 0 _ rfl
theorem TalP.c1 (h : TalP w T D a b cnt ev) : w.cell? ⟨T, 1, none⟩ = some (.int .i64 a) := Blk.cell h 1 _ rfl
theorem TalP.c2 (h : TalP w T D a b cnt ev) : w.cell? ⟨T, 2, none⟩ = some (.int .i64 b) := Blk.cell h 2 _ rfl
theorem TalP.c3 (h : TalP w T D a b cnt ev) : w.cell? ⟨T, 3, none⟩ = some (.int .i64 cnt) := Blk.cell h 3 _ rfl
theorem TalP.c4 (h : TalP w T D a b cnt ev) : w.cell? ⟨T, 4, none⟩ = some (.bool ev) := Blk.cell h 4 _ rfl
theorem TalP.setC (h : TalP w T D a b cnt ev) (x : Int) : TalP (w.setCell ⟨T, 3, none⟩ (.int .i64 x)) T D a b x ev := Blk.set h 3 _
theorem TalP.setE (h : TalP w T D a b cnt ev) (x : Bool) : TalP (w.setCell ⟨T, 4, none⟩ (.bool x)) T D a b cnt x := Blk.set h 4 _
end
theorem tal_Count (T D : Nat) (a b cnt : Int) (ev : Bool) (w : World) (h : TalP w T D a b cnt ev) :
    Calls Try.prog 42 #[.pointer (some ⟨T, 0, none⟩)] w fun e w' => e = .returned (.int .i64 cnt) ∧ w = w' := by
  have c3 := h.c3
  clear h
  (go_enter Try.func42, Try.ntmps42; try simp only [List.append])
  go_wp2_with ((with_reducible refine wpList_unguard ?_ ?_); (focus rfl))
  go_ret
  exact ⟨rfl, rfl⟩
theorem tal_Count_nil (w : World) : Calls Try.prog 42 #[.pointer none] w fun e w' => e = .returned (.int .i64 0) ∧ w = w' := by
  (go_enter Try.func42, Try.ntmps42; try simp only [List.append])
  go_wp2_with ((with_reducible refine wpList_unguard ?_ ?_); (focus rfl))
  go_ret
  exact ⟨rfl, rfl⟩
theorem tal_Even (T D : Nat) (a b cnt : Int) (ev : Bool) (w : World) (h : TalP w T D a b cnt ev) :
    Calls Try.prog 44 #[.pointer (some ⟨T, 0, none⟩)] w fun e w' => e = .returned (.bool ev) ∧ w = w' := by
  have c4 := h.c4
  clear h
  (go_enter Try.func44, Try.ntmps44; try simp only [List.append])
  go_wp2_with ((with_reducible refine wpList_unguard ?_ ?_); (focus rfl))
  go_ret
  exact ⟨rfl, rfl⟩
theorem tal_Even_nil (w : World) : Calls Try.prog 44 #[.pointer none] w fun e w' => e = .returned (.bool false) ∧ w = w' := by
  (go_enter Try.func44, Try.ntmps44; try simp only [List.append])
  go_wp2_with ((with_reducible refine wpList_unguard ?_ ?_); (focus rfl))
  go_ret
  exact ⟨rfl, rfl⟩
theorem tal_Bump_nil (w : World) : Calls Try.prog 41 #[.pointer none] w fun e w' => e = .returned (.int .i64 1) ∧ w = w' := by
  (go_enter Try.func41, Try.ntmps41; try simp only [List.append])
  go_wp2_with ((with_reducible refine wpList_unguard ?_ ?_); (focus rfl))
  go_ret
  exact ⟨rfl, rfl⟩
theorem tal_Reset_nil (w : World) : Calls Try.prog 48 #[.pointer none] w fun e w' => e = .returned (.int .i64 1) ∧ w = w' := by
  (go_enter Try.func48, Try.ntmps48; try simp only [List.append])
  go_wp2_with ((with_reducible refine wpList_unguard ?_ ?_); (focus rfl))
  go_ret
  exact ⟨rfl, rfl⟩
theorem Try.ix0 (a b : Int) (w : World) : (Instr.index 143 (.agg #[.int .i64 a, .int .i64 b]) (.int .i64 0)).run Try.prog w = .ok (.int .i64 a) w := by kernel_rfl
theorem Try.ix1 (a b : Int) (w : World) : (Instr.index 143 (.agg #[.int .i64 a, .int .i64 b]) (.int .i64 1)).run Try.prog w = .ok (.int .i64 b) w := by kernel_rfl
set_option maxHeartbeats 8000000 in
set_option maxRecDepth 100000 in
theorem tal_clear (i : DI) (n : Nat) (s : FS) (T a b bit : Nat) (cnt : Int) (ev : Bool) (w : World) (h : DevP w i n s) (hT : TalP w T i.D a b cnt ev) (ho : T < i.lo ∨ i.hi ≤ T) (ha : a < 1000) (hb : b < 1000) (hbit : bit < 1000) :
    Calls Try.prog 88 #[.pointer (some ⟨T, 0, none⟩), .int .i64 bit] w fun e w' =>
      e = .returned (.int .i64 (clrE s n a b bit : Nat)) ∧ DevP w' i n (clrS s n a b bit) ∧ TalP w' T i.D a b cnt (clrV s n a b bit ev) ∧ Out2 i.lo i.hi T w w' := by
  have c0 := hT.c0
  have c1 := hT.c1
  have c2 := hT.c2
  have HD := hid h
  have HT := hid hT
  clear h hT
  have ix0 := Try.ix0 (a : Int) (b : Int)
  have ix1 := Try.ix1 (a : Int) (b : Int)
  have hd : Int.tdiv (bit : Int) 128 = ((bit / 128 : Nat) : Int) := by rw [Int.tdiv_eq_ediv_of_nonneg (by omega)]; omega
  have hm : Int.tmod (bit : Int) 128 = ((bit % 128 : Nat) : Int) := by rw [Int.tmod_eq_emod_of_nonneg (by omega)]; omega
  have HP := hid (tal_page (bit % 128 + 1) w (by omega))
  have hsb : sb (ofB (pageT (bit % 128 + 1))) = pageT (bit % 128 + 1) := sb_ofB _ (pageT_lt _)
  have HSB := hid hsb
  clear hsb
  have hA1 : ((a : Int) * 64 + (bit : Int) / 128 * 16) = ((pgAt a bit : Nat) : Int) := by unfold pgAt; omega
  have hA2 : ((b : Int) * 64 + (bit : Int) / 128 * 16) = ((pgAt b bit : Nat) : Int) := by unfold pgAt; omega
  have HA := hid (And.intro hA1 hA2)
  have hr1 : pgAt a bit < 100000 := by unfold pgAt; omega
  have hr2 : pgAt b bit < 100000 := by unfold pgAt; omega
  clear hA1 hA2
  (go_enter Try.func88, Try.ntmps88; try simp only [List.append])
  go_wp2_with ((with_reducible refine wpList_unguard ?_ ?_); (focus rfl))
  rw [show ((bit : Int) % 128 + 1) = ((bit % 128 + 1 : Nat) : Int) from by omega]
  refine Calls.mono HP.out ?_; rintro e w1 ⟨rfl, hb1⟩
  have HD1 := hid (HD.out.below hb1)
  have HT1 := hid (HT.out.below hb1)
  have HO1 : Hid (Out2 i.lo i.hi T w w1) := Out2.of (Out.of hb1)
  clear hb1 HP HD HT c0 c1 c2
  have c0 := HT1.out.c0
  have c1 := HT1.out.c1
  have c2 := HT1.out.c2
  go_wp2_with ((with_reducible refine wpList_unguard ?_ ?_); (focus rfl))
  go_loopw [20] (fun v wr => ∃ k : Nat, k ≤ 2 ∧ v = .int .i64 k ∧ TalP wr T i.D a b cnt ev ∧ Out2 i.lo i.hi T w wr ∧
      ((k = 0 ∧ DevP wr i n s) ∨ (k = 1 ∧ clrE1 s n a bit = 0 ∧ DevP wr i n (clrS1 s n a bit)) ∨ (k = 2 ∧ clrE1 s n a bit = 0 ∧ clrE1 (clrS1 s n a bit) n b bit = 0 ∧ DevP wr i n (clrS1 (clrS1 s n a bit) n b bit)))) (fun v _ => 2 - (intOf v).toNat)
  case atStart => exact ⟨0, by omega, rfl, HT1.out, HO1.out, .inl ⟨rfl, HD1.out⟩⟩
  case round =>
    clear HT1 HD1 HO1 c0 c1 c2
    obtain ⟨k, hk, rfl, hT, hO, hcase⟩ := hrel
    have c0 := hT.c0
    have HTr := hid hT
    have HOr := hid hO
    clear hT hO
    rcases hcase with ⟨rfl, hD⟩ | ⟨rfl, he1, hD⟩ | ⟨rfl, he1, he2, hD⟩
    · have HDr := hid hD
      clear hD
      have hP := dev_Program i n s wr (pgAt a bit : Nat) (ofB (pageT (bit % 128 + 1))) HDr.out (by omega)
      rw [HSB.out, show s.progE n (pgAt a bit : Nat) (pageT (bit % 128 + 1)) = clrE1 s n a bit from rfl, show s.prog n (pgAt a bit : Nat) (pageT (bit % 128 + 1)) = clrS1 s n a bit from rfl] at hP
      have HQ : Hid (clrE1 s n a bit ≠ 0 → clrE s n a b bit = clrE1 s n a bit ∧ clrS s n a b bit = clrS1 s n a bit) := by
        intro h
        unfold clrE clrS
        rw [if_pos h, if_pos h]
        exact ⟨rfl, rfl⟩
      have HI : Hid (clrE s n a b bit ≠ 0 → clrV s n a b bit ev = ev) := fun h => if_neg h
      obtain ⟨E1, hE1⟩ : ∃ E1, clrE1 s n a bit = E1 := ⟨_, rfl⟩
      rw [hE1] at hP HQ
      have HE1 := hid hE1
      clear hE1
      go_wp2_with ((with_reducible refine wpList_unguard ?_ ?_); (focus rfl))
      rw [HA.out.1]
      refine Calls.mono hP ?_; rintro e w2 ⟨rfl, hD2, hO2⟩
      have HD2 := hid hD2
      have HT2 := hid (HTr.out.out hO2 ho)
      have HO2 := hid (HOr.out.trans (Out2.of hO2))
      clear hP hD2 hO2 HDr HTr HOr
      by_cases h0 : E1 = 0
      · subst h0
        go_wp2_with ((with_reducible refine wpList_unguard ?_ ?_); (focus rfl))
        go_roundw
        case rel => exact ⟨1, by omega, by go_num, HT2.out, HO2.out, .inr (.inl ⟨rfl, HE1.out, HD2.out⟩)⟩
        case measure => simp [intOf]
      · have q1 : ((E1 : Int) != 0) = true := by rw [bne_iff_ne]; omega
        go_wp2_with ((with_reducible refine wpList_unguard ?_ ?_); (focus rfl))
        go_ret
        obtain ⟨x1, x2⟩ := HQ.out h0
        rw [HI.out (by rw [x1]; exact h0), x1, x2]
        exact ⟨rfl, HD2.out, HT2.out, HO2.out⟩
    · have HDr := hid hD
      clear hD
      have hP := dev_Program i n (clrS1 s n a bit) wr (pgAt b bit : Nat) (ofB (pageT (bit % 128 + 1))) HDr.out (by omega)
      rw [HSB.out, show (clrS1 s n a bit).progE n (pgAt b bit : Nat) (pageT (bit % 128 + 1)) = clrE1 (clrS1 s n a bit) n b bit from rfl, show (clrS1 s n a bit).prog n (pgAt b bit : Nat) (pageT (bit % 128 + 1)) = clrS1 (clrS1 s n a bit) n b bit from rfl] at hP
      have HQ : Hid (clrE s n a b bit = clrE1 (clrS1 s n a bit) n b bit ∧ clrS s n a b bit = clrS1 (clrS1 s n a bit) n b bit) := by
        unfold clrE clrS
        rw [if_neg (fun h => h he1), if_neg (fun h => h he1)]
        exact ⟨rfl, rfl⟩
      have HI : Hid (clrE s n a b bit ≠ 0 → clrV s n a b bit ev = ev) := fun h => if_neg h
      obtain ⟨E2, hE2⟩ : ∃ E2, clrE1 (clrS1 s n a bit) n b bit = E2 := ⟨_, rfl⟩
      rw [hE2] at hP HQ
      have HE2 := hid hE2
      have HE1 := hid he1
      clear hE2 he1
      go_wp2_with ((with_reducible refine wpList_unguard ?_ ?_); (focus rfl))
      rw [HA.out.2]
      refine Calls.mono hP ?_; rintro e w2 ⟨rfl, hD2, hO2⟩
      have HD2 := hid hD2
      have HT2 := hid (HTr.out.out hO2 ho)
      have HO2 := hid (HOr.out.trans (Out2.of hO2))
      clear hP hD2 hO2 HDr HTr HOr
      by_cases h0 : E2 = 0
      · subst h0
        go_wp2_with ((with_reducible refine wpList_unguard ?_ ?_); (focus rfl))
        go_roundw
        case rel => exact ⟨2, by omega, by go_num, HT2.out, HO2.out, .inr (.inr ⟨rfl, HE1.out, HE2.out, HD2.out⟩)⟩
        case measure => simp [intOf]
      · have q1 : ((E2 : Int) != 0) = true := by rw [bne_iff_ne]; omega
        go_wp2_with ((with_reducible refine wpList_unguard ?_ ?_); (focus rfl))
        go_ret
        obtain ⟨x1, x2⟩ := HQ.out
        rw [HI.out (by rw [x1]; exact h0), x1, x2]
        exact ⟨rfl, HD2.out, HT2.out, HO2.out⟩
    · have HDr := hid hD
      have hEE : clrE s n a b bit = 0 := by unfold clrE; rw [if_neg (fun h => h he1)]; exact he2
      have hSS : clrS s n a b bit = clrS1 (clrS1 s n a bit) n b bit := by unfold clrS; rw [if_neg (fun h => h he1)]
      have hVV : clrV s n a b bit ev = true := by unfold clrV; rw [hEE]; rfl
      have HF := hid (And.intro hEE (And.intro hSS hVV))
      clear hVV
      have c4 := HTr.out.c4
      have f4 := Blk.free HTr.out 4
      have HT5 := hid (HTr.out.setE true)
      have HO5 := hid (HOr.out.set 4 (.bool true))
      have HD5 := hid (HDr.out.setT ho 4 (.bool true))
      clear hD hEE hSS HTr HOr HDr he1 he2
      go_wp2_with ((with_reducible refine wpList_unguard ?_ ?_); (focus rfl))
      go_ret
      rw [HF.out.1, HF.out.2.1, HF.out.2.2]
      exact ⟨rfl, HD5.out, HT5.out, HO5.out⟩
end Go.Proofs.Ytiicbbhjepkndaa
