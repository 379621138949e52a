/-
  The document's own seal, opening and joining (the reference), and what is too long to be played.
  Conditions: texts of at most 1000000 bytes.
-/
import Derived.Test.YtiailpbmmadaeaaCrcR
namespace Go.Proofs.Ytiailpbmmadaeaa
open Go.RowKit Tri

set_option maxHeartbeats 400000 in
set_option maxRecDepth 100000 in
theorem ref2_Seal (s : ByteArray) (w : World) (hz : s.size ≤ 1000000) :
    Calls Try.prog 49 #[.string s] w fun e w' => e = .returned (.string (ofB (sealB (sb s)))) ∧ Below w.heap.size w w' := by
  have hlt : csum (sb s) < 4294967296 := csum_lt _ (sb_lt s)
  go_enter Try.func49, Try.ntmps49
  go_wp2_with fail
  refine Calls.mono (ref2_Sum s w (by omega)) ?_; rintro e w' ⟨rfl, rfl⟩
  have hS : ∃ S, csum (sb s) = S := ⟨_, rfl⟩
  obtain ⟨S, hS⟩ := hS
  have HS := hid hS
  rw [hS] at hlt ⊢
  clear hS
  have hput : putB 4 S = [S / 16777216, S / 65536 % 256, S / 256 % 256, S % 256] := by
    simp [putB, List.range_succ]
    omega
  have hcs : (convert 34 9 (.slice (some ⟨w.heap.size, 0, none⟩) 4 4)).run Try.prog (w.alloc (.cells #[.int .u8 ((S : Int) / 16777216), .int .u8 ((S : Int) / 65536 % 256), .int .u8 ((S : Int) / 256 % 256), .int .u8 ((S : Int) % 256)] 5)) =
      .ok (.string (ofB (putB 4 S))) (w.alloc (.cells #[.int .u8 ((S : Int) / 16777216), .int .u8 ((S : Int) / 65536 % 256), .int .u8 ((S : Int) / 256 % 256), .int .u8 ((S : Int) % 256)] 5)) := by
    rw [hput]
    exact conv_str (cellsB.new w [S / 16777216, S / 65536 % 256, S / 256 % 256, S % 256] _ _ rfl) 4 4 rfl
  have hsz : s.size + (ofB (putB 4 S)).size ≤ 9223372036854775807 := by rw [ofB_size, putB_length]; omega
  clear hput
  go_wp2
  go_ret
  exact ⟨by unfold sealB; rw [HS.out, ← ofB_append, ofB_sb]; rfl, by go_grown⟩

theorem openS_lt (l : List Nat) (h : ∀ x ∈ l, x < 256) : ∀ y ∈ sealB l, y < 256 := by
  intro y hy
  unfold sealB at hy
  rw [List.mem_append] at hy
  rcases hy with hy | hy
  · exact h y hy
  · exact putB_lt _ _ y hy
set_option maxHeartbeats 400000 in
theorem ref2_Open (s : ByteArray) (w : World) (hz : s.size ≤ 1000000) :
    Calls Try.prog 50 #[.string s] w fun e w' => e = .returned (.tuple #[.string (openT s), .int .i64 (openE s : Nat)]) ∧ Below w.heap.size w w' := by
  by_cases h4 : s.size < 4
  · have he : Hid (openE s = 13) := by show _ = _; unfold openE; rw [if_pos h4]
    have ht : Hid (openT s = ⟨#[]⟩) := by show _ = _; unfold openT; rw [he.out]; rfl
    go_enter Try.func50, Try.ntmps50
    go_wp2
    go_ret2
    exact ⟨by rw [he.out, ht.out]; rfl, Below.refl _ _⟩
  · have hge : 4 ≤ s.size := by omega
    clear h4
    go_enter Try.func50, Try.ntmps50
    go_wp2_with fail
    refine Calls.mono (ref2_Seal (s.extract 0 (s.size - 4)) _ (by rw [ByteArray.size_extract]; omega)) ?_; rintro e w1 ⟨rfl, hb⟩
    have HB := hid hb
    clear hb
    have hx : sb (s.extract 0 (s.size - 4)) = (sb s).take (s.size - 4) := by rw [sb_extract]; simp
    have hbq := str_beq (ofB (sealB (sb (s.extract 0 (s.size - 4))))) s
    rw [hx, sb_ofB _ (openS_lt _ (fun y hy => sb_lt s y (List.mem_of_mem_take hy)))] at hbq
    have hse : s.extract 0 (s.size - 4) = ofB ((sb s).take (s.size - 4)) := by rw [← hx, ofB_sb]
    have HSE := hid hse
    rw [hx]
    clear hx hse
    by_cases hq : sealB ((sb s).take (s.size - 4)) = sb s
    · rw [decide_eq_true hq] at hbq
      have he : Hid (openE s = 0) := by show _ = _; unfold openE; rw [if_neg (by omega), if_pos hq]
      have ht : Hid (openT s = ofB ((sb s).take (s.size - 4))) := by show _ = _; unfold openT; rw [if_pos he.out]
      clear hq
      go_wp2
      go_ret2
      exact ⟨by rw [he.out, ht.out, ← HSE.out]; rfl, HB.out⟩
    · rw [decide_eq_false hq] at hbq
      have he : Hid (openE s = 7) := by show _ = _; unfold openE; rw [if_neg (by omega), if_neg hq]
      have ht : Hid (openT s = ⟨#[]⟩) := by show _ = _; unfold openT; rw [he.out]; rfl
      clear hq
      go_wp2
      go_ret2
      exact ⟨by rw [he.out, ht.out]; rfl, HB.out⟩
end Go.Proofs.Ytiailpbmmadaeaa
