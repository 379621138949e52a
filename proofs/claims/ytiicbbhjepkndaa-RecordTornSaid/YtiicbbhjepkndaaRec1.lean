/-
  Records in the program: which may be, their pages; versions as values, and back.
-/
import Derived.Test.YtiicbbhjepkndaaRec0
import Derived.Test.YtiicbbhjepkndaaCrcK
import Derived.Test.YtiicbbhjepkndaaOpenI
namespace Tri
def recL (k s n v : Nat) : List Nat := Go.Proofs.Ytiicbbhjepkndaa.putB 1 k ++ Go.Proofs.Ytiicbbhjepkndaa.putB 1 s ++ Go.Proofs.Ytiicbbhjepkndaa.putB 2 n ++ Go.Proofs.Ytiicbbhjepkndaa.putB 6 v ++ Go.Proofs.Ytiicbbhjepkndaa.putB 2 0
def recSum (l : List Nat) : Nat := min (csum l) 4294967294
def recP (k s n v : Nat) : List Nat := recL k s n v ++ Go.Proofs.Ytiicbbhjepkndaa.putB 4 (recSum (recL k s n v))
/-- A version's value. -/
def numV (a b c : Nat) : Nat := (a * 65536 + b) * 65536 + c
end Tri
namespace Go.Proofs.Ytiicbbhjepkndaa
open Go.RowKit Tri

set_option maxHeartbeats 1000000 in
theorem rec_within (n m : Int) (w : World) : Calls Try.prog 106 #[.int .i64 n, .int .i64 m] w fun e w' => e = .returned (.bool (decide (0 ≤ n ∧ n ≤ m))) ∧ w = w' := by
  (go_enter Try.func106, Try.ntmps106; try simp only [List.append])
  by_cases h1 : 0 ≤ n
  · have ht : decide (0 ≤ n) = true := decide_eq_true h1
    by_cases h2 : n ≤ m
    · have ht2 : decide (n ≤ m) = true := decide_eq_true h2
      have hr : Hid (decide (0 ≤ n ∧ n ≤ m) = true) := decide_eq_true ⟨h1, h2⟩
      go_wp2_with ((with_reducible refine wpList_unguard ?_ ?_); (focus rfl))
      go_ret
      first | exact ⟨rfl, rfl⟩ | exact ⟨by rw [hr.out]; rfl, rfl⟩
    · have ht2 : decide (n ≤ m) = false := decide_eq_false h2
      have hr : Hid (decide (0 ≤ n ∧ n ≤ m) = false) := decide_eq_false (fun h => h2 h.2)
      go_wp2_with ((with_reducible refine wpList_unguard ?_ ?_); (focus rfl))
      go_ret
      first | exact ⟨rfl, rfl⟩ | exact ⟨by rw [hr.out]; rfl, rfl⟩
  · have ht : decide (0 ≤ n) = false := decide_eq_false h1
    have hr : Hid (decide (0 ≤ n ∧ n ≤ m) = false) := decide_eq_false (fun h => h1 h.1)
    go_wp2_with ((with_reducible refine wpList_unguard ?_ ?_); (focus rfl))
    go_ret
    first | exact ⟨rfl, rfl⟩ | exact ⟨by rw [hr.out]; rfl, rfl⟩
theorem or_shl16 (a x : Nat) (hx : x < 65536) (ha : a < 4294967296) : bits .or .i64 (wrap64 ((a : Int) * 2 ^ 16)) (x : Int) = ((a * 65536 + x : Nat) : Int) := by
  have h1 : wrap64 ((a : Int) * 2 ^ 16) = ((a <<< 16 : Nat) : Int) := by
    rw [Nat.shiftLeft_eq]
    have e2 : ((a * 2 ^ 16 : Nat) : Int) = (a : Int) * 2 ^ 16 := by simp
    rw [← e2]
    have : a * 2 ^ 16 < 2 ^ 62 := by omega
    generalize a * 2 ^ 16 = m at *
    unfold wrap64
    omega
  rw [h1]
  have h2 : a <<< 16 ||| x = a * 65536 + x := by
    rw [← Nat.shiftLeft_add_eq_or_of_lt (i := 16) (by omega), Nat.shiftLeft_eq]
  have h3 : a <<< 16 < 2 ^ 62 := by rw [Nat.shiftLeft_eq]; omega
  show IntKind.i64.wrap ((BitVec.ofInt 64 ((a <<< 16 : Nat) : Int) ||| BitVec.ofInt 64 (x : Int)).toNat : Int) = _
  rw [BitVec.toNat_or, ofInt_u64 _ (by omega), ofInt_u64 x (by omega), h2, IntKind.wrap_i64]
  omega
def vOk (x : Int) : Bool := decide (0 ≤ x ∧ x ≤ 65535)
theorem vOk_iff {x : Int} : vOk x = true ↔ 0 ≤ x ∧ x ≤ 65535 := by unfold vOk; simp
def verOk (a b c : Int) : Bool := vOk a && (vOk b && vOk c)
def verN (a b c : Int) : Nat := if verOk a b c then numV a.toNat b.toNat c.toNat else 0
set_option maxHeartbeats 2000000 in
set_option maxRecDepth 100000 in
theorem rec_Number (a b c : Int) (w : World) :
    Calls Try.prog 80 #[.agg #[.int .i64 a, .int .i64 b, .int .i64 c]] w fun e w' => e = .returned (.tuple #[.int .i64 (verN a b c : Nat), .bool (verOk a b c)]) ∧ Below w.heap.size w w' := by
  have hb0 := hid (show Below w.heap.size w (w.alloc (.cells #[.int .i64 a, .int .i64 b, .int .i64 c] 135)) from (Below.refl _ _).alloc (Nat.le_refl _) _)
  (go_enter Try.func80, Try.ntmps80; try simp only [List.append])
  go_wp2_with ((with_reducible refine wpList_unguard ?_ ?_); (focus rfl))
  generalize w.alloc (.cells #[.int .i64 a, .int .i64 b, .int .i64 c] 135) = w1 at *
  have i0 : ∀ w, (Instr.index 135 (.agg #[.int .i64 a, .int .i64 b, .int .i64 c]) (.int .i64 0)).run Try.prog w = .ok (.int .i64 a) w := fun _ => by kernel_rfl
  have i1 : ∀ w, (Instr.index 135 (.agg #[.int .i64 a, .int .i64 b, .int .i64 c]) (.int .i64 1)).run Try.prog w = .ok (.int .i64 b) w := fun _ => by kernel_rfl
  have i2 : ∀ w, (Instr.index 135 (.agg #[.int .i64 a, .int .i64 b, .int .i64 c]) (.int .i64 2)).run Try.prog w = .ok (.int .i64 c) w := fun _ => by kernel_rfl
  go_loopw [8, 4] (fun i n wr => (i = .int .i64 0 ∧ n = .int .i64 0 ∨ i = .int .i64 1 ∧ vOk a = true ∧ n = .int .i64 (a.toNat : Nat) ∨ i = .int .i64 2 ∧ vOk a = true ∧ vOk b = true ∧ n = .int .i64 (a.toNat * 65536 + b.toNat : Nat) ∨ i = .int .i64 3 ∧ vOk a = true ∧ vOk b = true ∧ vOk c = true ∧ n = .int .i64 (numV a.toNat b.toNat c.toNat : Nat)) ∧ wr = w1) (fun i _ _ => 3 - (intOf i).toNat)
  case atStart => exact ⟨Or.inl ⟨rfl, rfl⟩, rfl⟩
  case round =>
    obtain ⟨hc, rfl⟩ := hrel
    rcases hc with hc | hc | hc | hc
    · obtain ⟨rfl, rfl⟩ := hc
      by_cases ho : vOk a = true
      · have hr := vOk_iff.1 ho
        have ht : decide (0 ≤ a ∧ a ≤ 65535) = true := ho
        have hbits := or_shl16 0 a.toNat (by omega) (by omega)
        have hxx : ((a.toNat : Nat) : Int) = a := by omega
        rw [hxx] at hbits
        rw [show wrap64 (((0 : Nat) : Int) * 2 ^ 16) = 0 from by unfold wrap64; omega, Nat.zero_mul, Nat.zero_add] at hbits
        have hBB := hid (congrArg (Value.int .i64) hbits)
        clear hbits
        go_wp2_with ((with_reducible refine wpList_unguard ?_ ?_); (focus rfl))
        refine Calls.mono (rec_within a 65535 wr) ?_
        rintro e w' ⟨rfl, rfl⟩
        rw [ht]
        go_wp2_with ((with_reducible refine wpList_unguard ?_ ?_); (focus rfl))
        go_roundw
        case rel =>
          have hnn := hBB.out
          exact ⟨Or.inr (Or.inl ⟨rfl, ho, hnn⟩), trivial⟩
        case measure => simp [intOf]
      · have ho2 : vOk a = false := by simpa using ho
        have ht : decide (0 ≤ a ∧ a ≤ 65535) = false := ho2
        have hz : Hid (verN a b c = 0 ∧ verOk a b c = false) := by
          have : verOk a b c = false := by unfold verOk; rw [ho2]; simp
          exact ⟨by unfold verN; rw [this]; rfl, this⟩
        go_wp2_with ((with_reducible refine wpList_unguard ?_ ?_); (focus rfl))
        refine Calls.mono (rec_within a 65535 wr) ?_
        rintro e w' ⟨rfl, rfl⟩
        rw [ht]
        go_wp2_with ((with_reducible refine wpList_unguard ?_ ?_); (focus rfl))
        refine bodyPost_ret (v := .tuple #[.int .i64 0, .bool false]) (by simp [results, Try.results80, go_sem]) rfl ⟨?_, hb0.out⟩
        rw [hz.out.1, hz.out.2]; rfl
    · obtain ⟨rfl, hoa, rfl⟩ := hc
      by_cases ho : vOk b = true
      · have hr := vOk_iff.1 ho
        have ht : decide (0 ≤ b ∧ b ≤ 65535) = true := ho
        have hbits := or_shl16 a.toNat b.toNat (by omega) (by have := vOk_iff.1 hoa; omega)
        have hxx : ((b.toNat : Nat) : Int) = b := by omega
        rw [hxx] at hbits
        have hBB := hid (congrArg (Value.int .i64) hbits)
        clear hbits
        go_wp2_with ((with_reducible refine wpList_unguard ?_ ?_); (focus rfl))
        refine Calls.mono (rec_within b 65535 wr) ?_
        rintro e w' ⟨rfl, rfl⟩
        rw [ht]
        go_wp2_with ((with_reducible refine wpList_unguard ?_ ?_); (focus rfl))
        go_roundw
        case rel =>
          exact ⟨Or.inr (Or.inr (Or.inl ⟨rfl, hoa, ho, by simpa [numV] using hBB.out⟩)), trivial⟩
        case measure => simp [intOf]
      · have ho2 : vOk b = false := by simpa using ho
        have ht : decide (0 ≤ b ∧ b ≤ 65535) = false := ho2
        have hz : Hid (verN a b c = 0 ∧ verOk a b c = false) := by
          have : verOk a b c = false := by unfold verOk; rw [hoa, ho2]; simp
          exact ⟨by unfold verN; rw [this]; rfl, this⟩
        go_wp2_with ((with_reducible refine wpList_unguard ?_ ?_); (focus rfl))
        refine Calls.mono (rec_within b 65535 wr) ?_
        rintro e w' ⟨rfl, rfl⟩
        rw [ht]
        go_wp2_with ((with_reducible refine wpList_unguard ?_ ?_); (focus rfl))
        refine bodyPost_ret (v := .tuple #[.int .i64 0, .bool false]) (by simp [results, Try.results80, go_sem]) rfl ⟨?_, hb0.out⟩
        rw [hz.out.1, hz.out.2]; rfl
    · obtain ⟨rfl, hoa, hob, rfl⟩ := hc
      by_cases ho : vOk c = true
      · have hr := vOk_iff.1 ho
        have ht : decide (0 ≤ c ∧ c ≤ 65535) = true := ho
        have hbits := or_shl16 (a.toNat * 65536 + b.toNat) c.toNat (by omega) (by have := vOk_iff.1 hoa; have := vOk_iff.1 hob; omega)
        have hxx : ((c.toNat : Nat) : Int) = c := by omega
        rw [hxx] at hbits
        have hBB := hid (congrArg (Value.int .i64) hbits)
        clear hbits
        go_wp2_with ((with_reducible refine wpList_unguard ?_ ?_); (focus rfl))
        refine Calls.mono (rec_within c 65535 wr) ?_
        rintro e w' ⟨rfl, rfl⟩
        rw [ht]
        go_wp2_with ((with_reducible refine wpList_unguard ?_ ?_); (focus rfl))
        go_roundw
        case rel =>
          exact ⟨Or.inr (Or.inr (Or.inr ⟨rfl, hoa, hob, ho, by simpa [numV] using hBB.out⟩)), trivial⟩
        case measure => simp [intOf]
      · have ho2 : vOk c = false := by simpa using ho
        have ht : decide (0 ≤ c ∧ c ≤ 65535) = false := ho2
        have hz : Hid (verN a b c = 0 ∧ verOk a b c = false) := by
          have : verOk a b c = false := by unfold verOk; rw [hoa, hob, ho2]; simp
          exact ⟨by unfold verN; rw [this]; rfl, this⟩
        go_wp2_with ((with_reducible refine wpList_unguard ?_ ?_); (focus rfl))
        refine Calls.mono (rec_within c 65535 wr) ?_
        rintro e w' ⟨rfl, rfl⟩
        rw [ht]
        go_wp2_with ((with_reducible refine wpList_unguard ?_ ?_); (focus rfl))
        refine bodyPost_ret (v := .tuple #[.int .i64 0, .bool false]) (by simp [results, Try.results80, go_sem]) rfl ⟨?_, hb0.out⟩
        rw [hz.out.1, hz.out.2]; rfl
    · obtain ⟨rfl, hoa, hob, hoc, rfl⟩ := hc
      have hz : Hid (verN a b c = numV a.toNat b.toNat c.toNat ∧ verOk a b c = true) := by
        have : verOk a b c = true := by unfold verOk; rw [hoa, hob, hoc]; rfl
        exact ⟨by unfold verN; rw [this]; rfl, this⟩
      generalize numV a.toNat b.toNat c.toNat = N at *
      go_wp2_with ((with_reducible refine wpList_unguard ?_ ?_); (focus rfl))
      refine bodyPost_ret (v := .tuple #[.int .i64 N, .bool true]) (by simp [results, Try.results80, go_sem]) rfl ⟨?_, hb0.out⟩
      rw [hz.out.1, hz.out.2]
end Go.Proofs.Ytiicbbhjepkndaa
