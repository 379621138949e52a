/-
  TagSplits, walked.
-/
import Derived.Test.YtiailpbmmadaeaaJoin1
import Derived.Test.YtiailpbmmadaeaaTag5
namespace Go.Proofs.Ytiailpbmmadaeaa
open Go.RowKit Tri

theorem rep_lt (m : Nat) : ∀ x ∈ List.replicate m 0, x < 256 := by
  intro x hx
  have := (List.mem_replicate.1 hx).2
  omega
theorem sb_append (a b : ByteArray) : sb (a ++ b) = sb a ++ sb b := by
  have h : a ++ b = ofB (sb a ++ sb b) := by rw [← ofB_append, ofB_sb, ofB_sb]
  rw [h, sb_ofB]
  intro x hx
  rcases List.mem_append.1 hx with h | h
  · exact sb_lt a x h
  · exact sb_lt b x h
/-- What goes in, with noughts behind it, as the statement has it. -/
theorem want_short (s : ByteArray) (N : Nat) (h : s.size ≤ N) : sb (s ++ repS (N - s.size) 0) = padB (sb s) N := by
  rw [sb_append]
  unfold repS padB
  rw [sb_ofB _ (rep_lt _), List.take_of_length_le (by rw [sb_length]; omega), sb_length]
theorem want_long (s : ByteArray) (N : Nat) (h : N ≤ s.size) : sb (s.extract 0 N ++ repS 0 0) = padB (sb s) N := by
  rw [sb_append, sb_extract]
  unfold repS padB
  rw [sb_ofB _ (rep_lt _), sb_length, show N - s.size = 0 from by omega, List.drop_zero]
  rfl
set_option maxHeartbeats 8000000 in
set_option maxRecDepth 100000 in
theorem tagSplits_main (s : ByteArray) (many : Int) (p : Option Addr) (len cap : Nat) (M : List Nat) (w : World) (hs : s.size ≤ 5000) (hl : len ≤ 100) (hp : cellsB w p M) (hM : M.length = len * 60) (hMb : ∀ x ∈ M, x < 256) :
    Calls Try.prog 7 #[.string s, .int .i64 many, .slice p len cap] w fun e w' => e = .returned (.bool true) ∧ Below w.heap.size w w' := by
  have HP := hid hp
  have HM := hid hM
  have HMb := hid hMb
  obtain ⟨n, hn⟩ : ∃ n : Nat, (n : Int) = min (max many 0) 64 := ⟨(min (max many 0) 64).toNat, by omega⟩
  have hn64 : n ≤ 64 := by omega
  have hS := fun W => tag_Split s many n W hn (by omega)
  have hmm : min (max many 0) 64 = (n : Int) := hn.symm
  have HSp := hid hS
  have hs' : (s.size : Int) ≤ 5000 := by omega
  have hl' : (len : Int) ≤ 100 := by omega
  have hn' : (n : Int) ≤ 64 := by omega
  have hne : ((n : Int) != (n : Int)) = false := by simp
  have h60 : IntKind.i64.wrap (60 * (n : Int)) = ((n * 60 : Nat) : Int) := by rw [IntKind.wrap_i64]; omega
  have h60' : 60 * (n : Int) = ((n * 60 : Nat) : Int) := by omega
  have hpl := padB_length (sb s) (n * 60)
  have HPb : Hid (∀ x ∈ padB (sb s) (n * 60), x < 256) := by
    intro x hx
    unfold padB at hx
    rcases List.mem_append.1 hx with h' | h'
    · exact sb_lt s x (List.mem_of_mem_take h')
    · have := (List.mem_replicate.1 h').2; omega
  clear hp hM hMb hn hS
  (go_enter Try.func7, Try.ntmps7; try simp only [List.append])
  go_wp2_with fail
  refine Calls.mono (law10_awake w) ?_; rintro e w1 ⟨rfl, hb⟩
  have Hb := hid hb; clear hb
  go_wp2_with ((with_reducible refine wpList_unguard ?_ ?_); (focus rfl))
  refine Calls.mono (HSp.out w1) ?_; rintro e w2 ⟨g, rfl, hB, hb⟩
  have HB := hid hB
  have Hb := hid (Hb.out.trans (hb.mono Hb.out.size)); clear hb hB HSp
  go_wp2_with fail
  refine Calls.mono (tag_Join _ n n (padB (sb s) (n * 60)) w2 HB.out.cellsB hpl HPb.out (by omega)) ?_; rintro e w3 ⟨rfl, hb⟩
  have Hb := hid (Hb.out.trans (hb.mono Hb.out.size)); clear hb HB hmm
  by_cases hlong : n * 60 < s.size
  · have hlt : (((n * 60 : Nat) : Int)) < (s.size : Int) := by omega
    have hwl := want_long s (n * 60) (by omega)
    have hcmp := str_beq (ofB (padB (sb s) (n * 60))) (s.extract 0 (n * 60) ++ repS 0 0)
    rw [sb_ofB _ HPb.out, hwl, decide_eq_true rfl] at hcmp
    have hcmp2 : ((ofB (padB (sb s) (n * 60))).toList != (s.extract 0 (n * 60) ++ repS 0 0).toList) = false := by unfold bne; rw [hcmp]; rfl
    go_wp2_with fail
    rw [show ((n : Int) * 60 - ((min (n * 60) s.size : Nat) : Int)) = ((0 : Nat) : Int) from by omega]
    refine Calls.mono (strRep 0 0 w3 (by omega)) ?_; rintro e w4 ⟨rfl, hb⟩
    have Hb := hid (Hb.out.trans (hb.mono Hb.out.size)); clear hb hwl
    have hbig : ¬ 9223372036854775807 < min (n * 60) s.size + (repS 0 0).size := by unfold repS; rw [ofB_size, List.length_replicate]; omega
    generalize repS 0 0 = RP at *
    generalize ofB (padB (sb s) (n * 60)) = PP at *
    go_wp2_with fail
    go_loopw [58, 11] (fun i v wr => ∃ k : Nat, k ≤ len ∧ i = .int .i64 k ∧ v = .string (ofB (M.take (k * 60))) ∧ Below w.heap.size w wr) (fun i _ _ => len - (intOf i).toNat)
    case atStart => exact ⟨0, by omega, rfl, by rw [Nat.zero_mul, List.take_zero]; rfl, Hb.out⟩
    case round =>
      obtain ⟨k, hk, rfl, rfl, hbw⟩ := hrel
      have HW := hid hbw
      have hW : w.heap.size ≤ wr.heap.size := hbw.size
      clear hbw Hb
      by_cases hlt : k < len
      · have hpc := HP.out.below HW.out
        obtain ⟨a, o, rfl, hc0⟩ := hpc (k * 60) (by rw [HM.out]; omega)
        have HRg := hid (hpc.range k len HM.out hlt)
        have HCs := hid (chunk_step M k len HM.out hlt)
        have hcl := chunk_len M k len HM.out hlt
        have hal : Below wr.heap.size wr (wr.alloc (.cells #[.int .u8 0, .int .u8 0, .int .u8 0, .int .u8 0, .int .u8 0, .int .u8 0, .int .u8 0, .int .u8 0, .int .u8 0, .int .u8 0, .int .u8 0, .int .u8 0, .int .u8 0, .int .u8 0, .int .u8 0, .int .u8 0, .int .u8 0, .int .u8 0, .int .u8 0, .int .u8 0, .int .u8 0, .int .u8 0, .int .u8 0, .int .u8 0, .int .u8 0, .int .u8 0, .int .u8 0, .int .u8 0, .int .u8 0, .int .u8 0, .int .u8 0, .int .u8 0, .int .u8 0, .int .u8 0, .int .u8 0, .int .u8 0, .int .u8 0, .int .u8 0, .int .u8 0, .int .u8 0, .int .u8 0, .int .u8 0, .int .u8 0, .int .u8 0, .int .u8 0, .int .u8 0, .int .u8 0, .int .u8 0, .int .u8 0, .int .u8 0, .int .u8 0, .int .u8 0, .int .u8 0, .int .u8 0, .int .u8 0, .int .u8 0, .int .u8 0, .int .u8 0, .int .u8 0, .int .u8 0] 31)) := (Below.refl _ _).alloc (Nat.le_refl _) _
        have hZ : Blk (wr.alloc (.cells #[.int .u8 0, .int .u8 0, .int .u8 0, .int .u8 0, .int .u8 0, .int .u8 0, .int .u8 0, .int .u8 0, .int .u8 0, .int .u8 0, .int .u8 0, .int .u8 0, .int .u8 0, .int .u8 0, .int .u8 0, .int .u8 0, .int .u8 0, .int .u8 0, .int .u8 0, .int .u8 0, .int .u8 0, .int .u8 0, .int .u8 0, .int .u8 0, .int .u8 0, .int .u8 0, .int .u8 0, .int .u8 0, .int .u8 0, .int .u8 0, .int .u8 0, .int .u8 0, .int .u8 0, .int .u8 0, .int .u8 0, .int .u8 0, .int .u8 0, .int .u8 0, .int .u8 0, .int .u8 0, .int .u8 0, .int .u8 0, .int .u8 0, .int .u8 0, .int .u8 0, .int .u8 0, .int .u8 0, .int .u8 0, .int .u8 0, .int .u8 0, .int .u8 0, .int .u8 0, .int .u8 0, .int .u8 0, .int .u8 0, .int .u8 0, .int .u8 0, .int .u8 0, .int .u8 0, .int .u8 0] 31)) wr.heap.size 31 (blkB (List.replicate 60 0)) := Blk.new wr 31 (blkB (List.replicate 60 0))
        have HZ := hid hZ
        have Hba := hid (HW.out.trans (hal.mono hW))
        clear hal hZ hpc hc0
        generalize (M.drop (k * 60)).take 60 = C at *
        go_wp2_with (first | (refine wpList_load_mid (op := ⟨some 61, _, _, _, _, _⟩) (by rfl) 31 _ (by rfl) a (o + k * 60) (by rfl) (C.map fun x => Value.int .u8 (x : Nat)) _ HRg.out Try.underlying31 rfl (by rw [List.length_map, hcl]; kernel_rfl) ?_) | (refine wpList_store_B (o := ⟨none, _, _, _, _, _⟩) (by rfl) 31 _ _ (by rfl) wr.heap.size 31 C (List.replicate 60 0) (by rfl) (by rfl) HZ.out (by rw [hcl]; rfl) (by rw [hcl]; kernel_rfl) w.heap.size w Hba.out hW ?_))
        intro w4 hB4 hb4 _
        clear HRg HZ Hba
        go_wp2_with (refine wpList_load_row (o := ⟨some 63, _, _, _, _, _⟩) (by rfl) 31 _ (by rfl) wr.heap.size (by rfl) 31 (blkB C) (0, 0) _ hB4.out Try.underlying31 rfl (by rw [blkB_size, hcl]; kernel_rfl) ?_)
        refine Calls.mono (ref10_Text C w4 hcl) ?_; rintro e w5 ⟨rfl, hb5⟩
        have Hb5 := hid (hb4.out.trans (hb5.mono hb4.out.size))
        have HAp : Hid (ofB (M.take (k * 60)) ++ ofB C = ofB (M.take ((k + 1) * 60))) := by show _ = _; rw [ofB_append, HCs.out]
        clear hb5 hb4 hB4 HCs
        have hbg : ¬ 9223372036854775807 < (ofB (M.take (k * 60))).size + (ofB C).size := by rw [ofB_size, ofB_size, List.length_take, hcl]; omega
        go_wp2
        go_roundw
        case rel => exact ⟨k + 1, by omega, by go_num, by rw [HAp.out], Hb5.out⟩
        case measure => simp [intOf]; omega
      · have hT : M.take (k * 60) = M := List.take_of_length_le (by rw [HM.out, show k = len from by omega]; exact Nat.le_refl _)
        rw [hT]
        clear hT
        go_wp2_with fail
        refine Calls.mono (tag_Join p len cap M wr (HP.out.below HW.out) HM.out HMb.out (by omega)) ?_; rintro e w5 ⟨rfl, hb5⟩
        have Hb5 := hid (HW.out.trans (hb5.mono HW.out.size))
        clear hb5
        go_wp2
        go_ret
        exact ⟨rfl, Hb5.out⟩
  · have hlt : ¬ (((n * 60 : Nat) : Int)) < (s.size : Int) := by omega
    have hws := want_short s (n * 60) (by omega)
    have hcmp := str_beq (ofB (padB (sb s) (n * 60))) (s ++ repS (n * 60 - s.size) 0)
    rw [sb_ofB _ HPb.out, hws, decide_eq_true rfl] at hcmp
    have hcmp2 : ((ofB (padB (sb s) (n * 60))).toList != (s ++ repS (n * 60 - s.size) 0).toList) = false := by unfold bne; rw [hcmp]; rfl
    go_wp2_with fail
    rw [show ((n : Int) * 60 - (s.size : Int)) = ((n * 60 - s.size : Nat) : Int) from by omega]
    refine Calls.mono (strRep 0 (n * 60 - s.size) w3 (by omega)) ?_; rintro e w4 ⟨rfl, hb⟩
    have Hb := hid (Hb.out.trans (hb.mono Hb.out.size)); clear hb hws
    have hbig : ¬ 9223372036854775807 < s.size + (repS (n * 60 - s.size) 0).size := by unfold repS; rw [ofB_size, List.length_replicate]; omega
    generalize repS (n * 60 - s.size) 0 = RP at *
    generalize ofB (padB (sb s) (n * 60)) = PP at *
    go_wp2_with fail
    go_loopw [58, 11] (fun i v wr => ∃ k : Nat, k ≤ len ∧ i = .int .i64 k ∧ v = .string (ofB (M.take (k * 60))) ∧ Below w.heap.size w wr) (fun i _ _ => len - (intOf i).toNat)
    case atStart => exact ⟨0, by omega, rfl, by rw [Nat.zero_mul, List.take_zero]; rfl, Hb.out⟩
    case round =>
      obtain ⟨k, hk, rfl, rfl, hbw⟩ := hrel
      have HW := hid hbw
      have hW : w.heap.size ≤ wr.heap.size := hbw.size
      clear hbw Hb
      by_cases hlt : k < len
      · have hpc := HP.out.below HW.out
        obtain ⟨a, o, rfl, hc0⟩ := hpc (k * 60) (by rw [HM.out]; omega)
        have HRg := hid (hpc.range k len HM.out hlt)
        have HCs := hid (chunk_step M k len HM.out hlt)
        have hcl := chunk_len M k len HM.out hlt
        have hal : Below wr.heap.size wr (wr.alloc (.cells #[.int .u8 0, .int .u8 0, .int .u8 0, .int .u8 0, .int .u8 0, .int .u8 0, .int .u8 0, .int .u8 0, .int .u8 0, .int .u8 0, .int .u8 0, .int .u8 0, .int .u8 0, .int .u8 0, .int .u8 0, .int .u8 0, .int .u8 0, .int .u8 0, .int .u8 0, .int .u8 0, .int .u8 0, .int .u8 0, .int .u8 0, .int .u8 0, .int .u8 0, .int .u8 0, .int .u8 0, .int .u8 0, .int .u8 0, .int .u8 0, .int .u8 0, .int .u8 0, .int .u8 0, .int .u8 0, .int .u8 0, .int .u8 0, .int .u8 0, .int .u8 0, .int .u8 0, .int .u8 0, .int .u8 0, .int .u8 0, .int .u8 0, .int .u8 0, .int .u8 0, .int .u8 0, .int .u8 0, .int .u8 0, .int .u8 0, .int .u8 0, .int .u8 0, .int .u8 0, .int .u8 0, .int .u8 0, .int .u8 0, .int .u8 0, .int .u8 0, .int .u8 0, .int .u8 0, .int .u8 0] 31)) := (Below.refl _ _).alloc (Nat.le_refl _) _
        have hZ : Blk (wr.alloc (.cells #[.int .u8 0, .int .u8 0, .int .u8 0, .int .u8 0, .int .u8 0, .int .u8 0, .int .u8 0, .int .u8 0, .int .u8 0, .int .u8 0, .int .u8 0, .int .u8 0, .int .u8 0, .int .u8 0, .int .u8 0, .int .u8 0, .int .u8 0, .int .u8 0, .int .u8 0, .int .u8 0, .int .u8 0, .int .u8 0, .int .u8 0, .int .u8 0, .int .u8 0, .int .u8 0, .int .u8 0, .int .u8 0, .int .u8 0, .int .u8 0, .int .u8 0, .int .u8 0, .int .u8 0, .int .u8 0, .int .u8 0, .int .u8 0, .int .u8 0, .int .u8 0, .int .u8 0, .int .u8 0, .int .u8 0, .int .u8 0, .int .u8 0, .int .u8 0, .int .u8 0, .int .u8 0, .int .u8 0, .int .u8 0, .int .u8 0, .int .u8 0, .int .u8 0, .int .u8 0, .int .u8 0, .int .u8 0, .int .u8 0, .int .u8 0, .int .u8 0, .int .u8 0, .int .u8 0, .int .u8 0] 31)) wr.heap.size 31 (blkB (List.replicate 60 0)) := Blk.new wr 31 (blkB (List.replicate 60 0))
        have HZ := hid hZ
        have Hba := hid (HW.out.trans (hal.mono hW))
        clear hal hZ hpc hc0
        generalize (M.drop (k * 60)).take 60 = C at *
        go_wp2_with (first | (refine wpList_load_mid (op := ⟨some 61, _, _, _, _, _⟩) (by rfl) 31 _ (by rfl) a (o + k * 60) (by rfl) (C.map fun x => Value.int .u8 (x : Nat)) _ HRg.out Try.underlying31 rfl (by rw [List.length_map, hcl]; kernel_rfl) ?_) | (refine wpList_store_B (o := ⟨none, _, _, _, _, _⟩) (by rfl) 31 _ _ (by rfl) wr.heap.size 31 C (List.replicate 60 0) (by rfl) (by rfl) HZ.out (by rw [hcl]; rfl) (by rw [hcl]; kernel_rfl) w.heap.size w Hba.out hW ?_))
        intro w4 hB4 hb4 _
        clear HRg HZ Hba
        go_wp2_with (refine wpList_load_row (o := ⟨some 63, _, _, _, _, _⟩) (by rfl) 31 _ (by rfl) wr.heap.size (by rfl) 31 (blkB C) (0, 0) _ hB4.out Try.underlying31 rfl (by rw [blkB_size, hcl]; kernel_rfl) ?_)
        refine Calls.mono (ref10_Text C w4 hcl) ?_; rintro e w5 ⟨rfl, hb5⟩
        have Hb5 := hid (hb4.out.trans (hb5.mono hb4.out.size))
        have HAp : Hid (ofB (M.take (k * 60)) ++ ofB C = ofB (M.take ((k + 1) * 60))) := by show _ = _; rw [ofB_append, HCs.out]
        clear hb5 hb4 hB4 HCs
        have hbg : ¬ 9223372036854775807 < (ofB (M.take (k * 60))).size + (ofB C).size := by rw [ofB_size, ofB_size, List.length_take, hcl]; omega
        go_wp2
        go_roundw
        case rel => exact ⟨k + 1, by omega, by go_num, by rw [HAp.out], Hb5.out⟩
        case measure => simp [intOf]; omega
      · have hT : M.take (k * 60) = M := List.take_of_length_le (by rw [HM.out, show k = len from by omega]; exact Nat.le_refl _)
        rw [hT]
        clear hT
        go_wp2_with fail
        refine Calls.mono (tag_Join p len cap M wr (HP.out.below HW.out) HM.out HMb.out (by omega)) ?_; rintro e w5 ⟨rfl, hb5⟩
        have Hb5 := hid (HW.out.trans (hb5.mono HW.out.size))
        clear hb5
        go_wp2
        go_ret
        exact ⟨rfl, Hb5.out⟩
end Go.Proofs.Ytiailpbmmadaeaa
