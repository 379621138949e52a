/-
  The document's own seal, opening and joining (the reference), and what is too long to be played.
  Conditions: texts of at most 1000000 bytes.
-/
import Derived.Test.YtbghfhkhnmmcdaaCrcR
namespace Go.Proofs.Ytbghfhkhnmmcdaa
open Go.RowKit Tri

set_option maxHeartbeats 400000 in
set_option maxRecDepth 100000 in
theorem ref2_Seal (s : ByteArray) (w : World) (hz : s.size ≤ 1000000) :
    Calls Try.prog 31 #[.string s] w fun e w' => e = .returned (.string (ofB (sealB (sb s)))) ∧ Below w.heap.size w w' := by
  have hlt : csum (sb s) < 4294967296 := csum_lt _ (sb_lt s)
  go_enter Try.func31, Try.ntmps31
  go_wp2_with fail
  refine Calls.mono (ref2_Sum s w (by omega)) ?_; rintro e w' ⟨rfl, rfl⟩
  have hS : ∃ S, csum (sb s) = S := ⟨_, rfl⟩
  obtain ⟨S, hS⟩ := hS
  have HS := hid hS
  rw [hS] at hlt ⊢
  clear hS
  have hput : putB 4 S = [S / 16777216, S / 65536 % 256, S / 256 % 256, S % 256] := by
    simp [putB, List.range_succ]
    omega
  have hcs : (convert 23 9 (.slice (some ⟨w.heap.size, 0, none⟩) 4 4)).run Try.prog (w.alloc (.cells #[.int .u8 ((S : Int) / 16777216), .int .u8 ((S : Int) / 65536 % 256), .int .u8 ((S : Int) / 256 % 256), .int .u8 ((S : Int) % 256)] 5)) =
      .ok (.string (ofB (putB 4 S))) (w.alloc (.cells #[.int .u8 ((S : Int) / 16777216), .int .u8 ((S : Int) / 65536 % 256), .int .u8 ((S : Int) / 256 % 256), .int .u8 ((S : Int) % 256)] 5)) := by
    rw [hput]
    exact conv_str (cellsB.new w [S / 16777216, S / 65536 % 256, S / 256 % 256, S % 256] _ _ rfl) 4 4 rfl
  have hsz : s.size + (ofB (putB 4 S)).size ≤ 9223372036854775807 := by rw [ofB_size, putB_length]; omega
  clear hput
  go_wp2
  go_ret
  exact ⟨by unfold sealB; rw [HS.out, ← ofB_append, ofB_sb]; rfl, by go_grown⟩

theorem openS_lt (l : List Nat) (h : ∀ x ∈ l, x < 256) : ∀ y ∈ sealB l, y < 256 := by
  intro y hy
  unfold sealB at hy
  rw [List.mem_append] at hy
  rcases hy with hy | hy
  · exact h y hy
  · exact putB_lt _ _ y hy
set_option maxHeartbeats 400000 in
theorem ref2_Open (s : ByteArray) (w : World) (hz : s.size ≤ 1000000) :
    Calls Try.prog 33 #[.string s] w fun e w' => e = .returned (.tuple #[.string (openT s), .int .i64 (openE s : Nat)]) ∧ Below w.heap.size w w' := by
  by_cases h4 : s.size < 4
  · have he : Hid (openE s = 13) := by show _ = _; unfold openE; rw [if_pos h4]
    have ht : Hid (openT s = ⟨#[]⟩) := by show _ = _; unfold openT; rw [he.out]; rfl
    go_enter Try.func33, Try.ntmps33
    go_wp2
    go_ret2
    exact ⟨by rw [he.out, ht.out]; rfl, Below.refl _ _⟩
  · have hge : 4 ≤ s.size := by omega
    clear h4
    go_enter Try.func33, Try.ntmps33
    go_wp2_with fail
    refine Calls.mono (ref2_Seal (s.extract 0 (s.size - 4)) _ (by rw [ByteArray.size_extract]; omega)) ?_; rintro e w1 ⟨rfl, hb⟩
    have HB := hid hb
    clear hb
    have hx : sb (s.extract 0 (s.size - 4)) = (sb s).take (s.size - 4) := by rw [sb_extract]; simp
    have hbq := str_beq (ofB (sealB (sb (s.extract 0 (s.size - 4))))) s
    rw [hx, sb_ofB _ (openS_lt _ (fun y hy => sb_lt s y (List.mem_of_mem_take hy)))] at hbq
    have hse : s.extract 0 (s.size - 4) = ofB ((sb s).take (s.size - 4)) := by rw [← hx, ofB_sb]
    have HSE := hid hse
    rw [hx]
    clear hx hse
    by_cases hq : sealB ((sb s).take (s.size - 4)) = sb s
    · rw [decide_eq_true hq] at hbq
      have he : Hid (openE s = 0) := by show _ = _; unfold openE; rw [if_neg (by omega), if_pos hq]
      have ht : Hid (openT s = ofB ((sb s).take (s.size - 4))) := by show _ = _; unfold openT; rw [if_pos he.out]
      clear hq
      go_wp2
      go_ret2
      exact ⟨by rw [he.out, ht.out, ← HSE.out]; rfl, HB.out⟩
    · rw [decide_eq_false hq] at hbq
      have he : Hid (openE s = 7) := by show _ = _; unfold openE; rw [if_neg (by omega), if_neg hq]
      have ht : Hid (openT s = ⟨#[]⟩) := by show _ = _; unfold openT; rw [he.out]; rfl
      clear hq
      go_wp2
      go_ret2
      exact ⟨by rw [he.out, ht.out]; rfl, HB.out⟩
theorem lb_take_le (l : List ByteArray) (k : Nat) : (lb (l.take k)).length ≤ (lb l).length := by
  rw [show lb l = lb (l.take k) ++ lb (l.drop k) from by unfold lb; rw [← List.flatMap_append, List.take_append_drop], List.length_append]
  omega
set_option maxHeartbeats 400000 in
theorem ref2_Joined (p : Option Addr) (n c : Nat) (l : List ByteArray) (w : World) (hn : n = l.length) (hp : cellsS w p l) (hl : l.length ≤ 1000) (hz : (lb l).length ≤ 1000000) :
    Calls Try.prog 28 #[.slice p n c] w fun e w' => e = .returned (.string (ofB (lb l))) ∧ w = w' := by
  subst hn
  have HP := hid hp
  have HZ := hid hz
  clear hp hz
  go_enter Try.func28, Try.ntmps28
  go_wp2
  go_loop [3, 4] (fun s i => ∃ k : Nat, k ≤ l.length ∧ i = .int .i64 k ∧ s = .string (ofB (lb (l.take k)))) (fun _ i => l.length - (intOf i).toNat)
  case atStart => exact ⟨0, Nat.zero_le _, rfl, rfl⟩
  case round =>
    obtain ⟨k, hk, rfl, rfl⟩ := hrel
    by_cases hlt : k < l.length
    · obtain ⟨a, o, rfl, hc⟩ := HP.out k hlt
      have hts : Hid (ofB (lb (l.take (k + 1))) = ofB (lb (l.take k)) ++ l.getD k ByteArray.empty) := by
        show _ = _; rw [take_snocS l k hlt, show lb (l.take k ++ [l.getD k ByteArray.empty]) = lb (l.take k) ++ sb (l.getD k ByteArray.empty) from by simp [lb], ← ofB_append, ofB_sb]
      have hsz : (ofB (lb (l.take k))).size + (l.getD k ByteArray.empty).size ≤ 9223372036854775807 := by
        have h1 := lb_take_le l (k + 1)
        have h2 := congrArg ByteArray.size hts.out
        rw [ofB_size, ByteArray.size_append] at h2
        have := HZ.out
        omega
      generalize l.getD k ByteArray.empty = s at *
      generalize ofB (lb (l.take k)) = J at *
      go_wp2
      go_round
      case rel => exact ⟨k + 1, by omega, by go_num, by rw [hts.out]⟩
      case measure => simp [intOf]; omega
    · have hpe : Hid (ofB (lb l) = ofB (lb (l.take k))) := by show _ = _; rw [List.take_of_length_le (by omega)]
      generalize ofB (lb (l.take k)) = J at *
      go_wp2
      go_ret
      exact ⟨by rw [hpe.out]; rfl, rfl⟩
/-- More than is played? -/
def longS (l : List ByteArray) : Bool := decide (3000 < (lb l).length) || decide (60 < l.length)
set_option maxHeartbeats 400000 in
theorem law02_Long (p : Option Addr) (n c : Nat) (l : List ByteArray) (w : World) (hn : n = l.length) (hp : cellsS w p l) (hl : l.length ≤ 140737488351232) (hz : ∀ s ∈ l, s.size ≤ 140737488351232) :
    Calls Try.prog 27 #[.slice p n c] w fun e w' => e = .returned (.bool (longS l)) ∧ w = w' := by
  subst hn
  have HP := hid hp
  have HZ := hid hz
  clear hp hz
  go_enter Try.func27, Try.ntmps27
  go_wp2
  go_loop [3, 8] (fun s i => ∃ k : Nat, k ≤ l.length ∧ i = .int .i64 k ∧ s = .int .i64 ((lb (l.take k)).length : Nat) ∧ (lb (l.take k)).length ≤ 3000) (fun _ i => l.length - (intOf i).toNat)
  case atStart => exact ⟨0, Nat.zero_le _, rfl, rfl, by simp [lb]⟩
  case round =>
    obtain ⟨k, hk, rfl, rfl, hle⟩ := hrel
    by_cases hlt : k < l.length
    · obtain ⟨a, o, rfl, hc⟩ := HP.out k hlt
      have hsz : (l.getD k ByteArray.empty).size ≤ 140737488351232 := HZ.out _ (by rw [List.getD_eq_getElem?_getD, List.getElem?_eq_getElem hlt]; exact List.getElem_mem hlt)
      have hts : Hid ((lb (l.take (k + 1))).length = (lb (l.take k)).length + (l.getD k ByteArray.empty).size) := by
        show _ = _; rw [take_snocS l k hlt]; simp [lb, sb_length]
      have hgr : Hid ((lb (l.take (k + 1))).length ≤ (lb l).length) := lb_take_le l (k + 1)
      generalize l.getD k ByteArray.empty = s at *
      generalize (lb (l.take k)).length = J at *
      by_cases hbig : 3000 < J + s.size
      · have hd : decide (3000 < (J : Int) + (s.size : Int)) = true := by simp; omega
        have hL : Hid (longS l = true) := by show _ = _; have h1 := hgr.out; have h2 := hts.out; unfold longS; rw [decide_eq_true (by omega)]; rfl
        go_wp2
        go_ret
        exact ⟨by rw [hL.out]; rfl, rfl⟩
      · have hd : decide (3000 < (J : Int) + (s.size : Int)) = false := by simp; omega
        go_wp2
        go_round
        case rel => exact ⟨k + 1, by omega, by go_num, by rw [hts.out]; go_num, by rw [hts.out]; omega⟩
        case measure => simp [intOf]; omega
    · have hL : Hid (longS l = decide (60 < (l.length : Int))) := by
        show _ = _
        rw [List.take_of_length_le (by omega)] at hle
        unfold longS; rw [decide_eq_false (by omega), Bool.false_or]
        by_cases h : 60 < l.length
        · rw [decide_eq_true h, decide_eq_true (by omega)]
        · rw [decide_eq_false h, decide_eq_false (by omega)]
      generalize (lb (l.take k)).length = J at *
      go_wp2
      go_ret
      exact ⟨by rw [hL.out]; rfl, rfl⟩
end Go.Proofs.Ytbghfhkhnmmcdaa
