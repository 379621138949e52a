/-
  The check sum in the program: Open; and the document's own sum, seal and opening (the reference).
  Conditions: texts of at most 1000000 bytes.
-/
import Derived.Test.YtiailpbmmadaeaaSeal
namespace Go.Proofs.Ytiailpbmmadaeaa
open Go.RowKit Tri

/-- What is opened: the text, and the error's number. -/
def openE (s : ByteArray) : Nat := if s.size < 4 then 13 else if sealB ((sb s).take (s.size - 4)) = sb s then 0 else 7
def openT (s : ByteArray) : ByteArray := if openE s = 0 then ofB ((sb s).take (s.size - 4)) else ⟨#[]⟩

set_option maxHeartbeats 400000 in
theorem crc_Open (b : Nat) (s : ByteArray) (w : World) (hC : isC w b) (hz : s.size ≤ 1000000) :
    Calls Try.prog 39 #[.pointer (some ⟨b, 0, none⟩), .string s] w fun e w' => e = .returned (.tuple #[.string (openT s), .int .i64 (openE s : Nat)]) ∧ Below w.heap.size w w' := by
  have HC := hid hC
  clear hC
  by_cases h4 : s.size < 4
  · have he : Hid (openE s = 13) := by show _ = _; unfold openE; rw [if_pos h4]
    have ht : Hid (openT s = ⟨#[]⟩) := by show _ = _; unfold openT; rw [he.out]; rfl
    go_enter Try.func39, Try.ntmps39
    go_wp2
    go_ret2
    exact ⟨by rw [he.out, ht.out]; rfl, Below.refl _ _⟩
  · have hge : 4 ≤ s.size := by omega
    clear h4
    go_enter Try.func39, Try.ntmps39
    go_wp2_with fail
    refine Calls.mono (crc_Seal1 b _ _ _ _ HC.out rfl (by rw [ByteArray.size_extract]; omega)) ?_; rintro e w1 ⟨rfl, hb⟩
    have HB := hid hb
    clear hb
    have hx : sb (s.extract 0 (s.size - 4)) = (sb s).take (s.size - 4) := by rw [sb_extract]; simp
    have hlt : ∀ y ∈ sealB ((sb s).take (s.size - 4)), y < 256 := by
      intro y hy
      unfold sealB at hy
      rw [List.mem_append] at hy
      rcases hy with hy | hy
      · exact sb_lt s y (List.mem_of_mem_take hy)
      · exact putB_lt _ _ y hy
    have hbq := str_beq (ofB (sealB (sb (s.extract 0 (s.size - 4))))) s
    rw [hx, sb_ofB _ hlt] at hbq
    have hse : s.extract 0 (s.size - 4) = ofB ((sb s).take (s.size - 4)) := by rw [← hx, ofB_sb]
    have HSE := hid hse
    rw [hx]
    clear hx hlt hse
    by_cases hq : sealB ((sb s).take (s.size - 4)) = sb s
    · rw [decide_eq_true hq] at hbq
      have he : Hid (openE s = 0) := by show _ = _; unfold openE; rw [if_neg (by omega), if_pos hq]
      have ht : Hid (openT s = ofB ((sb s).take (s.size - 4))) := by show _ = _; unfold openT; rw [if_pos he.out]
      clear hq
      go_wp2
      go_ret2
      exact ⟨by rw [he.out, ht.out, ← HSE.out]; rfl, HB.out⟩
    · rw [decide_eq_false hq] at hbq
      have he : Hid (openE s = 7) := by show _ = _; unfold openE; rw [if_neg (by omega), if_neg hq]
      have ht : Hid (openT s = ⟨#[]⟩) := by show _ = _; unfold openT; rw [he.out]; rfl
      clear hq
      go_wp2
      go_ret2
      exact ⟨by rw [he.out, ht.out]; rfl, HB.out⟩
set_option maxHeartbeats 400000 in
theorem crc_Open_nil (s : ByteArray) (w : World) :
    Calls Try.prog 39 #[.pointer none, .string s] w fun e w' => e = .returned (.tuple #[.string ⟨#[]⟩, .int .i64 1]) ∧ w = w' := by
  go_enter Try.func39, Try.ntmps39
  go_wp2
  go_ret2
  exact ⟨rfl, rfl⟩
set_option maxHeartbeats 400000 in
theorem crc_Seal_nil (p : Option Addr) (n c : Nat) (w : World) :
    Calls Try.prog 38 #[.pointer none, .slice p n c] w fun e w' => e = .returned (.string ⟨#[]⟩) ∧ w = w' := by
  go_enter Try.func38, Try.ntmps38
  go_wp2
  go_ret
  exact ⟨rfl, rfl⟩
end Go.Proofs.Ytiailpbmmadaeaa
