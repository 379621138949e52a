/-
  TagTells, walked.
-/
import Derived.Test.YtiailpbmmadaeaaTag2
import Derived.Test.YtiailpbmmadaeaaTelP
namespace Go.Proofs.Ytiailpbmmadaeaa
open Go.RowKit Tri

set_option maxHeartbeats 4000000 in
set_option maxRecDepth 100000 in
theorem tagTells_main (L : List Nat) (i t : Nat) (w : World) (hL : L.length = 60) (hLb : ∀ x ∈ L, x < 256) (hi : i < 256) (ht : t < 256) :
    Calls Try.prog 4 #[.agg (blkB L), .int .u8 i, .int .u8 t] w fun e w' => e = .returned (.bool true) ∧ Below w.heap.size w w' := by
  have hB0 := Blk.new w 31 (blkB L)
  have hb0 : Below w.heap.size w (w.alloc (.cells (blkB L) 31)) := (Below.refl _ _).alloc (Nat.le_refl _) _
  obtain ⟨w1, hw1⟩ : ∃ u, w.alloc (.cells (blkB L) 31) = u := ⟨_, rfl⟩
  rw [hw1] at hB0 hb0
  have HB1 := hid hB0
  have Hb1 := hid hb0
  have HLb := hid hLb
  clear hB0 hb0 hLb
  (go_enter Try.func4, Try.ntmps4; try simp only [List.append])
  go_wp2_with fail
  refine Calls.mono (law10_awake w1) ?_; rintro e w2 ⟨rfl, hb⟩
  have HB2 := hid (HB1.out.below hb); have Hb2 := hid (Hb1.out.trans (hb.mono Hb1.out.size)); clear hb HB1 Hb1 hw1
  go_wp2_with fail
  refine Calls.mono (crc_NewK w2 w2 (Below.refl _ _)) ?_; rintro e w3 ⟨b, rfl, hKC⟩
  have HB3 := hid (HB2.out.below hKC.1); have Hb3 := hid (Hb2.out.trans (hKC.1.mono Hb2.out.size)); have C3 := hid hKC.2; clear hKC HB2 Hb2
  go_wp2_with (refine wpList_load_row (o := ⟨some 15, _, _, _, _, _⟩) (by rfl) 31 _ (by rfl) w.heap.size (by rfl) 31 (blkB L) (0, 0) _ HB3.out Try.underlying31 rfl (by rw [blkB_size, hL]; kernel_rfl) ?_)
  refine Calls.mono (tag_Seal w3 b L w3 ⟨Below.refl _ _, C3.out⟩ hL HLb.out) ?_; rintro e w4 ⟨rfl, hKC⟩
  have Hb4 := hid (Hb3.out.trans (hKC.1.mono Hb3.out.size)); have C4 := hid hKC.2; clear hKC HB3 Hb3 C3
  have hcv := fun (w : World) (s : ByteArray) => Lib.run_convert_string_bytes (P := Try.prog) w 9 34 5 s Try.underlying9 Try.underlying34 Try.underlying5
  have hsl : ∀ y ∈ sealB L, y < 256 := by
    intro y hy
    unfold sealB at hy
    rcases List.mem_append.1 hy with h | h
    · exact HLb.out y h
    · exact putB_lt _ _ y h
  have hSL : (sealB L).length = 64 := by rw [sealB_length, hL]
  have hz : (ofB (sealB L)).size = 64 := by rw [ofB_size, hSL]
  have hj : i % 64 < 64 := Nat.mod_lt _ (by omega)
  have Hb6 := hid (Hb4.out.trans ((bytes_below w4 5 (ofB (sealB L))).mono Hb4.out.size))
  have C6 := hid (C4.out.below (bytes_below w4 5 (ofB (sealB L))) C4.out.lt)
  have hcells := bytes_cells w4 5 (ofB (sealB L))
  rw [sb_ofB _ hsl] at hcells
  have hfree := bytes_free w4 5 (ofB (sealB L)) (i % 64) (by omega)
  obtain ⟨ga, go, ge, hgc⟩ := hcells (i % 64) (by omega)
  simp only [Option.some.injEq, Addr.mk.injEq, and_true] at ge
  obtain ⟨rfl, rfl⟩ := ge
  rw [Nat.zero_add] at hgc
  have hx : (sealB L).getD (i % 64) 0 < 256 := hsl _ (getD_mem _ _ (by omega))
  have HCells := hid hcells
  have HSl := hid hsl
  have hb4 : b < w4.heap.size := C4.out.lt
  have hW4 : w.heap.size ≤ w4.heap.size := Hb4.out.size
  clear hcells hsl
  have hCset : ∀ W6 : World, Hid (cellsB W6 (some ⟨w4.heap.size, 0, none⟩) (sealB L)) → Hid (cellsB (W6.setCell ⟨w4.heap.size, i % 64, none⟩ (.int .u8 ((sealB L).getD (i % 64) 0 ^^^ t : Nat))) (some ⟨w4.heap.size, 0, none⟩) (tn1 (sealB L) (i % 64) t)) := by
    intro W6 h
    have := h.out.set (i % 64) ((sealB L).getD (i % 64) 0 ^^^ t) (by omega)
    rw [Nat.zero_add] at this
    exact this
  have HCS := hCset _ HCells
  clear hCset HCells
  have hTl : (tn1 (sealB L) (i % 64) t).length = 64 := by rw [tn1_length, hSL]
  have hconv := conv_str HCS.out 64 (grownCap w4 64 0 5) hTl.symm
  have hm : ((i : Int) % 64) = ((i % 64 : Nat) : Int) := by omega
  have hjj : ((i % 64 : Nat) : Int) < 64 := by omega
  have hxt := xor_byte ((sealB L).getD (i % 64) 0) t hx ht
  have hTb : Hid (∀ y ∈ tn1 (sealB L) (i % 64) t, y < 256) := by
    intro y hy
    unfold tn1 at hy
    rcases List.mem_or_eq_of_mem_set hy with h | h
    · exact HSl.out y h
    · subst h; exact Nat.xor_lt_two_pow (n := 8) hx ht
  have C7 := hid (C6.out.setCell ⟨w4.heap.size, i % 64, none⟩ (.int .u8 ((sealB L).getD (i % 64) 0 ^^^ t : Nat)) (by show b ≠ w4.heap.size; omega))
  have Hb7 := hid (Hb6.out.setCell (p := ⟨w4.heap.size, i % 64, none⟩) hW4 (.int .u8 ((sealB L).getD (i % 64) 0 ^^^ t : Nat)))
  have HT0 := hid (tn1_zero (sealB L) (i % 64))
  have HT1 := hid (openE_turned L (i % 64) t HLb.out (by omega) (by omega) ht)
  have HTO : Hid (t = 0 → openOk (ofB (tn1 (sealB L) (i % 64) t)) = true) := by
    intro h
    rw [h, HT0.out]
    exact (openOk_seal L hL HLb.out).1
  have HTN : Hid (t ≠ 0 → openOk (ofB (tn1 (sealB L) (i % 64) t)) = false) := by
    intro h
    unfold openOk
    rw [decide_eq_false (HT1.out h), Bool.and_false]
  clear C6 Hb6 HSl HT0 HT1 hSL
  generalize i % 64 = j at *
  generalize hxg : (sealB L).getD j 0 = x at *
  clear hxg
  generalize tn1 (sealB L) j t = Z at *
  go_wp2_with fail
  refine Calls.mono (tag_Open _ b (ofB Z) _ ⟨Below.refl _ _, C7.out⟩ (by rw [ofB_size, hTl]; omega)) ?_; rintro e w8 ⟨rfl, hKC⟩
  have Hb8 := hid (Hb7.out.trans (hKC.1.mono Hb7.out.size))
  have hpl := padB_length (sb (ofB Z)) 60
  clear hKC C7 Hb7 HCS hconv hgc hfree hcv
  generalize padB (sb (ofB Z)) 60 = PL at *
  have hB0 : Blk (w8.alloc (.cells #[.int .u8 0, .int .u8 0, .int .u8 0, .int .u8 0, .int .u8 0, .int .u8 0, .int .u8 0, .int .u8 0, .int .u8 0, .int .u8 0, .int .u8 0, .int .u8 0, .int .u8 0, .int .u8 0, .int .u8 0, .int .u8 0, .int .u8 0, .int .u8 0, .int .u8 0, .int .u8 0, .int .u8 0, .int .u8 0, .int .u8 0, .int .u8 0, .int .u8 0, .int .u8 0, .int .u8 0, .int .u8 0, .int .u8 0, .int .u8 0, .int .u8 0, .int .u8 0, .int .u8 0, .int .u8 0, .int .u8 0, .int .u8 0, .int .u8 0, .int .u8 0, .int .u8 0, .int .u8 0, .int .u8 0, .int .u8 0, .int .u8 0, .int .u8 0, .int .u8 0, .int .u8 0, .int .u8 0, .int .u8 0, .int .u8 0, .int .u8 0, .int .u8 0, .int .u8 0, .int .u8 0, .int .u8 0, .int .u8 0, .int .u8 0, .int .u8 0, .int .u8 0, .int .u8 0, .int .u8 0] 31)) w8.heap.size 31 (blkB (List.replicate 60 0)) := Blk.new w8 31 (blkB (List.replicate 60 0))
  have HB0 := hid hB0
  have hW8 : w.heap.size ≤ w8.heap.size := Hb8.out.size
  have Hb9 := hid (Hb8.out.alloc hW8 (.cells #[.int .u8 0, .int .u8 0, .int .u8 0, .int .u8 0, .int .u8 0, .int .u8 0, .int .u8 0, .int .u8 0, .int .u8 0, .int .u8 0, .int .u8 0, .int .u8 0, .int .u8 0, .int .u8 0, .int .u8 0, .int .u8 0, .int .u8 0, .int .u8 0, .int .u8 0, .int .u8 0, .int .u8 0, .int .u8 0, .int .u8 0, .int .u8 0, .int .u8 0, .int .u8 0, .int .u8 0, .int .u8 0, .int .u8 0, .int .u8 0, .int .u8 0, .int .u8 0, .int .u8 0, .int .u8 0, .int .u8 0, .int .u8 0, .int .u8 0, .int .u8 0, .int .u8 0, .int .u8 0, .int .u8 0, .int .u8 0, .int .u8 0, .int .u8 0, .int .u8 0, .int .u8 0, .int .u8 0, .int .u8 0, .int .u8 0, .int .u8 0, .int .u8 0, .int .u8 0, .int .u8 0, .int .u8 0, .int .u8 0, .int .u8 0, .int .u8 0, .int .u8 0, .int .u8 0, .int .u8 0] 31))
  clear hB0
  have htt : ((t : Int) == 0) = decide (t = 0) := by rw [Bool.eq_iff_iff]; simp
  by_cases h0 : t = 0
  · rw [HTO.out h0]
    rw [decide_eq_true h0] at htt
    clear HTO HTN h0
    go_wp2_with (refine wpList_store_B (o := ⟨none, _, _, _, _, _⟩) (by rfl) 31 _ _ (by rfl) w8.heap.size 31 PL (List.replicate 60 0) (by rfl) (by rfl) HB0.out (by rw [hpl]; rfl) (by rw [hpl]; kernel_rfl) w.heap.size w Hb9.out hW8 ?_)
    intro w9 _ hb9 _
    go_wp2
    go_ret
    exact ⟨rfl, hb9.out⟩
  · rw [HTN.out h0]
    rw [decide_eq_false h0] at htt
    clear HTO HTN h0
    go_wp2_with (refine wpList_store_B (o := ⟨none, _, _, _, _, _⟩) (by rfl) 31 _ _ (by rfl) w8.heap.size 31 PL (List.replicate 60 0) (by rfl) (by rfl) HB0.out (by rw [hpl]; rfl) (by rw [hpl]; kernel_rfl) w.heap.size w Hb9.out hW8 ?_)
    intro w9 _ hb9 _
    go_wp2
    go_ret
    exact ⟨rfl, hb9.out⟩
end Go.Proofs.Ytiailpbmmadaeaa
