/-
  TagSeals, walked.
-/
import Derived.Test.YtiailpbmmadaeaaTag6
namespace Go.Proofs.Ytiailpbmmadaeaa
open Go.RowKit Tri

theorem sealB_length' (l : List Nat) : (sealB l).length = l.length + 4 := by unfold sealB; rw [List.length_append, putB_length]
theorem Blk.neSize {w : World} {B : Nat} {t : TypeId} {vs : Array Value} (h : Blk w B t vs) : B ≠ w.heap.size := by have := h.lt; omega
theorem blk_eql (L : List Nat) (w : World) (hL : L.length = 60) (hb : ∀ x ∈ L, x < 256) : (binOp .eql 31 (.agg (blkB L)) (.agg (blkB L))).run Try.prog w = .ok (.bool true) w := by
  have := run_eq_bytes 31 60 Try.underlying31 L L hb hb hL hL w
  rw [decide_eq_true rfl] at this
  have e : blkB L = u8s L := rfl
  rw [e]
  simp [binOp, Op.equal, Op.maxDepth, this]
theorem padB_lt {l : List Nat} (n : Nat) (h : ∀ x ∈ l, x < 256) : ∀ x ∈ padB l n, x < 256 := by
  intro x hx
  unfold padB at hx
  rcases List.mem_append.1 hx with h' | h'
  · exact h x (List.mem_of_mem_take h')
  · have := (List.mem_replicate.1 h').2; omega
theorem openOk_blank : openOk (repS 64 255) = false := by
  have h : openE (repS 64 255) ≠ 0 := by decide +kernel
  unfold openOk
  rw [decide_eq_false h, Bool.and_false]
theorem isBlank_blank : isBlank (repS 64 255) = true := by
  unfold isBlank repS
  rw [sb_ofB _ (by decide)]
  rfl
set_option maxHeartbeats 8000000 in
set_option maxRecDepth 100000 in
theorem tagSeals_main (L : List Nat) (s : ByteArray) (w : World) (hL : L.length = 60) (hLb : ∀ x ∈ L, x < 256) (hs : s.size ≤ 1000) :
    Calls Try.prog 6 #[.agg (blkB L), .string s] w fun e w' => e = .returned (.bool true) ∧ Below w.heap.size w w' := by
  have hB0 := Blk.new w 31 (blkB L)
  have hb0 : Below w.heap.size w (w.alloc (.cells (blkB L) 31)) := (Below.refl _ _).alloc (Nat.le_refl _) _
  obtain ⟨w1, hw1⟩ : ∃ u, w.alloc (.cells (blkB L) 31) = u := ⟨_, rfl⟩
  rw [hw1] at hB0 hb0
  have HA := hid hB0
  have Hb := hid hb0
  have HLb := hid hLb
  have hs' : (s.size : Int) ≤ 1000 := by omega
  clear hB0 hb0 hLb
  (go_enter Try.func6, Try.ntmps6; try simp only [List.append])
  go_wp2_with fail
  refine Calls.mono (law10_awake w1) ?_; rintro e w2 ⟨rfl, hb⟩
  have HA := hid (HA.out.below hb); have Hb := hid (Hb.out.trans (hb.mono Hb.out.size)); clear hb hw1
  go_wp2_with fail
  refine Calls.mono (crc_NewK w2 w2 (Below.refl _ _)) ?_; rintro e w3 ⟨b, rfl, hKC⟩
  have HA := hid (HA.out.below hKC.1); have Hb := hid (Hb.out.trans (hKC.1.mono Hb.out.size)); have HC := hid (show Blk _ b 79 crcC from hKC.2); clear hKC
  go_wp2_with (refine wpList_load_row (o := ⟨some 23, _, _, _, _, _⟩) (by rfl) 31 _ (by rfl) w.heap.size (by rfl) 31 (blkB L) (0, 0) _ HA.out Try.underlying31 rfl (by rw [blkB_size, hL]; kernel_rfl) ?_)
  refine Calls.mono (tag_Seal w3 b L w3 ⟨Below.refl _ _, HC.out⟩ hL HLb.out) ?_; rintro e w4 ⟨rfl, hKC⟩
  have HA := hid (HA.out.below hKC.1); have Hb := hid (Hb.out.trans (hKC.1.mono Hb.out.size)); have HC := hid (show Blk _ b 79 crcC from hKC.2); clear hKC
  obtain ⟨q1, q2⟩ := openOk_seal L hL HLb.out
  have HQ1 := hid q1; have HQ2 := hid q2
  have hssz : (ofB (sealB L)).size ≤ 1000000 := by rw [ofB_size, sealB_length', hL]; omega
  clear q1 q2
  have hpl := padB_length (sb s) 60
  have HPb : Hid (∀ x ∈ padB (sb s) 60, x < 256) := padB_lt _ (sb_lt s)
  have HPd := hid (show padB (sb s) 60 = padB (sb s) 60 from rfl)
  go_wp2_with fail
  refine Calls.mono (tag_Open w4 b (ofB (sealB L)) _ ⟨Below.refl _ _, HC.out⟩ hssz) ?_; rintro e w5a ⟨rfl, hKC⟩
  rw [HQ1.out, HQ2.out]
  have HA := hid (HA.out.below hKC.1)
  have HC := hid (show Blk _ b 79 crcC from hKC.2)
  have Hb := hid (Hb.out.trans (hKC.1.mono Hb.out.size)); clear hKC
  have HAne := hid (Blk.neSize HA.out)
  have HCne := hid (Blk.neSize HC.out)
  have hal : Below w5a.heap.size w5a (w5a.alloc (.cells #[.int .u8 0, .int .u8 0, .int .u8 0, .int .u8 0, .int .u8 0, .int .u8 0, .int .u8 0, .int .u8 0, .int .u8 0, .int .u8 0, .int .u8 0, .int .u8 0, .int .u8 0, .int .u8 0, .int .u8 0, .int .u8 0, .int .u8 0, .int .u8 0, .int .u8 0, .int .u8 0, .int .u8 0, .int .u8 0, .int .u8 0, .int .u8 0, .int .u8 0, .int .u8 0, .int .u8 0, .int .u8 0, .int .u8 0, .int .u8 0, .int .u8 0, .int .u8 0, .int .u8 0, .int .u8 0, .int .u8 0, .int .u8 0, .int .u8 0, .int .u8 0, .int .u8 0, .int .u8 0, .int .u8 0, .int .u8 0, .int .u8 0, .int .u8 0, .int .u8 0, .int .u8 0, .int .u8 0, .int .u8 0, .int .u8 0, .int .u8 0, .int .u8 0, .int .u8 0, .int .u8 0, .int .u8 0, .int .u8 0, .int .u8 0, .int .u8 0, .int .u8 0, .int .u8 0, .int .u8 0] 31)) := (Below.refl _ _).alloc (Nat.le_refl _) _
  have hZ : Blk (w5a.alloc (.cells #[.int .u8 0, .int .u8 0, .int .u8 0, .int .u8 0, .int .u8 0, .int .u8 0, .int .u8 0, .int .u8 0, .int .u8 0, .int .u8 0, .int .u8 0, .int .u8 0, .int .u8 0, .int .u8 0, .int .u8 0, .int .u8 0, .int .u8 0, .int .u8 0, .int .u8 0, .int .u8 0, .int .u8 0, .int .u8 0, .int .u8 0, .int .u8 0, .int .u8 0, .int .u8 0, .int .u8 0, .int .u8 0, .int .u8 0, .int .u8 0, .int .u8 0, .int .u8 0, .int .u8 0, .int .u8 0, .int .u8 0, .int .u8 0, .int .u8 0, .int .u8 0, .int .u8 0, .int .u8 0, .int .u8 0, .int .u8 0, .int .u8 0, .int .u8 0, .int .u8 0, .int .u8 0, .int .u8 0, .int .u8 0, .int .u8 0, .int .u8 0, .int .u8 0, .int .u8 0, .int .u8 0, .int .u8 0, .int .u8 0, .int .u8 0, .int .u8 0, .int .u8 0, .int .u8 0, .int .u8 0] 31)) w5a.heap.size 31 (blkB (List.replicate 60 0)) := Blk.new w5a 31 (blkB (List.replicate 60 0))
  have HZ := hid hZ
  have HA := hid (HA.out.below hal)
  have HC := hid (HC.out.below hal)
  have hW : w.heap.size ≤ w5a.heap.size := Hb.out.size
  have hlt5 : ∀ B t vs, Blk w5a B t vs → B ≠ w5a.heap.size := fun B t vs h => by have := h.lt; omega
  have Hb := hid (Hb.out.trans (hal.mono Hb.out.size)); clear hal hZ hlt5
  go_wp2_with (refine wpList_store_B (o := ⟨none, _, _, _, _, _⟩) (by rfl) 31 _ _ (by rfl) w5a.heap.size 31 (L) (List.replicate 60 0) (by rfl) (by rfl) HZ.out (by rw [hL]; rfl) (by rw [hL]; kernel_rfl) w.heap.size w Hb.out hW ?_)
  intro w5 hB hb hfr
  have HA := hid (hfr.out _ _ _ (by first | omega | exact HAne.out) HA.out)
  have HC := hid (hfr.out b _ _ HCne.out HC.out)
  have HX := hB; have Hb := hb; clear hB hb hfr HZ hW
  generalize w5a.heap.size = n5 at *
  go_wp2_with fail
  refine Calls.mono (tag_Open w5 b s _ ⟨Below.refl _ _, HC.out⟩ (by omega)) ?_; rintro e w6a ⟨rfl, hKC⟩
  skip
  have HA := hid (HA.out.below hKC.1)
  have HX := hid (HX.out.below hKC.1)
  have HC := hid (show Blk _ b 79 crcC from hKC.2)
  have Hb := hid (Hb.out.trans (hKC.1.mono Hb.out.size)); clear hKC
  have HAne := hid (Blk.neSize HA.out)
  have HXne := hid (Blk.neSize HX.out)
  have HCne := hid (Blk.neSize HC.out)
  have hal : Below w6a.heap.size w6a (w6a.alloc (.cells #[.int .u8 0, .int .u8 0, .int .u8 0, .int .u8 0, .int .u8 0, .int .u8 0, .int .u8 0, .int .u8 0, .int .u8 0, .int .u8 0, .int .u8 0, .int .u8 0, .int .u8 0, .int .u8 0, .int .u8 0, .int .u8 0, .int .u8 0, .int .u8 0, .int .u8 0, .int .u8 0, .int .u8 0, .int .u8 0, .int .u8 0, .int .u8 0, .int .u8 0, .int .u8 0, .int .u8 0, .int .u8 0, .int .u8 0, .int .u8 0, .int .u8 0, .int .u8 0, .int .u8 0, .int .u8 0, .int .u8 0, .int .u8 0, .int .u8 0, .int .u8 0, .int .u8 0, .int .u8 0, .int .u8 0, .int .u8 0, .int .u8 0, .int .u8 0, .int .u8 0, .int .u8 0, .int .u8 0, .int .u8 0, .int .u8 0, .int .u8 0, .int .u8 0, .int .u8 0, .int .u8 0, .int .u8 0, .int .u8 0, .int .u8 0, .int .u8 0, .int .u8 0, .int .u8 0, .int .u8 0] 31)) := (Below.refl _ _).alloc (Nat.le_refl _) _
  have hZ : Blk (w6a.alloc (.cells #[.int .u8 0, .int .u8 0, .int .u8 0, .int .u8 0, .int .u8 0, .int .u8 0, .int .u8 0, .int .u8 0, .int .u8 0, .int .u8 0, .int .u8 0, .int .u8 0, .int .u8 0, .int .u8 0, .int .u8 0, .int .u8 0, .int .u8 0, .int .u8 0, .int .u8 0, .int .u8 0, .int .u8 0, .int .u8 0, .int .u8 0, .int .u8 0, .int .u8 0, .int .u8 0, .int .u8 0, .int .u8 0, .int .u8 0, .int .u8 0, .int .u8 0, .int .u8 0, .int .u8 0, .int .u8 0, .int .u8 0, .int .u8 0, .int .u8 0, .int .u8 0, .int .u8 0, .int .u8 0, .int .u8 0, .int .u8 0, .int .u8 0, .int .u8 0, .int .u8 0, .int .u8 0, .int .u8 0, .int .u8 0, .int .u8 0, .int .u8 0, .int .u8 0, .int .u8 0, .int .u8 0, .int .u8 0, .int .u8 0, .int .u8 0, .int .u8 0, .int .u8 0, .int .u8 0, .int .u8 0] 31)) w6a.heap.size 31 (blkB (List.replicate 60 0)) := Blk.new w6a 31 (blkB (List.replicate 60 0))
  have HZ := hid hZ
  have HA := hid (HA.out.below hal)
  have HX := hid (HX.out.below hal)
  have HC := hid (HC.out.below hal)
  have hW : w.heap.size ≤ w6a.heap.size := Hb.out.size
  have hlt6 : ∀ B t vs, Blk w6a B t vs → B ≠ w6a.heap.size := fun B t vs h => by have := h.lt; omega
  have Hb := hid (Hb.out.trans (hal.mono Hb.out.size)); clear hal hZ hlt6
  go_wp2_with (refine wpList_store_B (o := ⟨none, _, _, _, _, _⟩) (by rfl) 31 _ _ (by rfl) w6a.heap.size 31 (padB (sb s) 60) (List.replicate 60 0) (by rfl) (by rfl) HZ.out (by rw [hpl]; rfl) (by rw [hpl]; kernel_rfl) w.heap.size w Hb.out hW ?_)
  intro w6 hB hb hfr
  have HA := hid (hfr.out _ _ _ (by first | omega | exact HAne.out) HA.out)
  have HX := hid (hfr.out _ _ _ (by first | omega | exact HXne.out) HX.out)
  have HC := hid (hfr.out b _ _ HCne.out HC.out)
  have HY := hB; have Hb := hb; clear hB hb hfr HZ hW
  generalize w6a.heap.size = n6 at *
  go_wp2_with fail
  refine Calls.mono (strRep 255 64 w6 (by omega)) ?_; rintro e w7 ⟨rfl, hb⟩
  have HA := hid (HA.out.below hb)
  have HX := hid (HX.out.below hb)
  have HY := hid (HY.out.below hb)
  have HC := hid (HC.out.below hb)
  have Hb := hid (Hb.out.trans (hb.mono Hb.out.size)); clear hb
  have hpk := padB_length (sb (repS 64 255)) 60
  go_wp2_with fail
  refine Calls.mono (tag_Open w7 b (repS 64 255) _ ⟨Below.refl _ _, HC.out⟩ (by show (repS 64 255).size ≤ _; unfold repS; rw [ofB_size, List.length_replicate]; omega)) ?_; rintro e w8a ⟨rfl, hKC⟩
  rw [openOk_blank]
  have HA := hid (HA.out.below hKC.1)
  have HX := hid (HX.out.below hKC.1)
  have HY := hid (HY.out.below hKC.1)
  have HC := hid (show Blk _ b 79 crcC from hKC.2)
  have Hb := hid (Hb.out.trans (hKC.1.mono Hb.out.size)); clear hKC
  have HAne := hid (Blk.neSize HA.out)
  have HXne := hid (Blk.neSize HX.out)
  have HYne := hid (Blk.neSize HY.out)
  have HCne := hid (Blk.neSize HC.out)
  have hal : Below w8a.heap.size w8a (w8a.alloc (.cells #[.int .u8 0, .int .u8 0, .int .u8 0, .int .u8 0, .int .u8 0, .int .u8 0, .int .u8 0, .int .u8 0, .int .u8 0, .int .u8 0, .int .u8 0, .int .u8 0, .int .u8 0, .int .u8 0, .int .u8 0, .int .u8 0, .int .u8 0, .int .u8 0, .int .u8 0, .int .u8 0, .int .u8 0, .int .u8 0, .int .u8 0, .int .u8 0, .int .u8 0, .int .u8 0, .int .u8 0, .int .u8 0, .int .u8 0, .int .u8 0, .int .u8 0, .int .u8 0, .int .u8 0, .int .u8 0, .int .u8 0, .int .u8 0, .int .u8 0, .int .u8 0, .int .u8 0, .int .u8 0, .int .u8 0, .int .u8 0, .int .u8 0, .int .u8 0, .int .u8 0, .int .u8 0, .int .u8 0, .int .u8 0, .int .u8 0, .int .u8 0, .int .u8 0, .int .u8 0, .int .u8 0, .int .u8 0, .int .u8 0, .int .u8 0, .int .u8 0, .int .u8 0, .int .u8 0, .int .u8 0] 31)) := (Below.refl _ _).alloc (Nat.le_refl _) _
  have hZ : Blk (w8a.alloc (.cells #[.int .u8 0, .int .u8 0, .int .u8 0, .int .u8 0, .int .u8 0, .int .u8 0, .int .u8 0, .int .u8 0, .int .u8 0, .int .u8 0, .int .u8 0, .int .u8 0, .int .u8 0, .int .u8 0, .int .u8 0, .int .u8 0, .int .u8 0, .int .u8 0, .int .u8 0, .int .u8 0, .int .u8 0, .int .u8 0, .int .u8 0, .int .u8 0, .int .u8 0, .int .u8 0, .int .u8 0, .int .u8 0, .int .u8 0, .int .u8 0, .int .u8 0, .int .u8 0, .int .u8 0, .int .u8 0, .int .u8 0, .int .u8 0, .int .u8 0, .int .u8 0, .int .u8 0, .int .u8 0, .int .u8 0, .int .u8 0, .int .u8 0, .int .u8 0, .int .u8 0, .int .u8 0, .int .u8 0, .int .u8 0, .int .u8 0, .int .u8 0, .int .u8 0, .int .u8 0, .int .u8 0, .int .u8 0, .int .u8 0, .int .u8 0, .int .u8 0, .int .u8 0, .int .u8 0, .int .u8 0] 31)) w8a.heap.size 31 (blkB (List.replicate 60 0)) := Blk.new w8a 31 (blkB (List.replicate 60 0))
  have HZ := hid hZ
  have HA := hid (HA.out.below hal)
  have HX := hid (HX.out.below hal)
  have HY := hid (HY.out.below hal)
  have HC := hid (HC.out.below hal)
  have hW : w.heap.size ≤ w8a.heap.size := Hb.out.size
  have hlt8 : ∀ B t vs, Blk w8a B t vs → B ≠ w8a.heap.size := fun B t vs h => by have := h.lt; omega
  have Hb := hid (Hb.out.trans (hal.mono Hb.out.size)); clear hal hZ hlt8
  go_wp2_with (refine wpList_store_B (o := ⟨none, _, _, _, _, _⟩) (by rfl) 31 _ _ (by rfl) w8a.heap.size 31 (padB (sb (repS 64 255)) 60) (List.replicate 60 0) (by rfl) (by rfl) HZ.out (by rw [hpk]; rfl) (by rw [hpk]; kernel_rfl) w.heap.size w Hb.out hW ?_)
  intro w8 hB hb hfr
  have HA := hid (hfr.out _ _ _ (by first | omega | exact HAne.out) HA.out)
  have HX := hid (hfr.out _ _ _ (by first | omega | exact HXne.out) HX.out)
  have HY := hid (hfr.out _ _ _ (by first | omega | exact HYne.out) HY.out)
  have HC := hid (hfr.out b _ _ HCne.out HC.out)
  have HK := hB; have Hb := hb; clear hB hb hfr HZ hW
  generalize w8a.heap.size = n8 at *
  go_wp2_with fail
  refine Calls.mono (tag_Open_nil s w8 (by omega)) ?_; rintro e w9a ⟨rfl, hKC⟩
  skip
  have HA := hid (HA.out.below hKC)
  have HX := hid (HX.out.below hKC)
  have HY := hid (HY.out.below hKC)
  have HK := hid (HK.out.below hKC)
  have HC := hid (HC.out.below hKC)
  have Hb := hid (Hb.out.trans (hKC.mono Hb.out.size)); clear hKC
  have HAne := hid (Blk.neSize HA.out)
  have HXne := hid (Blk.neSize HX.out)
  have HYne := hid (Blk.neSize HY.out)
  have HKne := hid (Blk.neSize HK.out)
  have HCne := hid (Blk.neSize HC.out)
  have hal : Below w9a.heap.size w9a (w9a.alloc (.cells #[.int .u8 0, .int .u8 0, .int .u8 0, .int .u8 0, .int .u8 0, .int .u8 0, .int .u8 0, .int .u8 0, .int .u8 0, .int .u8 0, .int .u8 0, .int .u8 0, .int .u8 0, .int .u8 0, .int .u8 0, .int .u8 0, .int .u8 0, .int .u8 0, .int .u8 0, .int .u8 0, .int .u8 0, .int .u8 0, .int .u8 0, .int .u8 0, .int .u8 0, .int .u8 0, .int .u8 0, .int .u8 0, .int .u8 0, .int .u8 0, .int .u8 0, .int .u8 0, .int .u8 0, .int .u8 0, .int .u8 0, .int .u8 0, .int .u8 0, .int .u8 0, .int .u8 0, .int .u8 0, .int .u8 0, .int .u8 0, .int .u8 0, .int .u8 0, .int .u8 0, .int .u8 0, .int .u8 0, .int .u8 0, .int .u8 0, .int .u8 0, .int .u8 0, .int .u8 0, .int .u8 0, .int .u8 0, .int .u8 0, .int .u8 0, .int .u8 0, .int .u8 0, .int .u8 0, .int .u8 0] 31)) := (Below.refl _ _).alloc (Nat.le_refl _) _
  have hZ : Blk (w9a.alloc (.cells #[.int .u8 0, .int .u8 0, .int .u8 0, .int .u8 0, .int .u8 0, .int .u8 0, .int .u8 0, .int .u8 0, .int .u8 0, .int .u8 0, .int .u8 0, .int .u8 0, .int .u8 0, .int .u8 0, .int .u8 0, .int .u8 0, .int .u8 0, .int .u8 0, .int .u8 0, .int .u8 0, .int .u8 0, .int .u8 0, .int .u8 0, .int .u8 0, .int .u8 0, .int .u8 0, .int .u8 0, .int .u8 0, .int .u8 0, .int .u8 0, .int .u8 0, .int .u8 0, .int .u8 0, .int .u8 0, .int .u8 0, .int .u8 0, .int .u8 0, .int .u8 0, .int .u8 0, .int .u8 0, .int .u8 0, .int .u8 0, .int .u8 0, .int .u8 0, .int .u8 0, .int .u8 0, .int .u8 0, .int .u8 0, .int .u8 0, .int .u8 0, .int .u8 0, .int .u8 0, .int .u8 0, .int .u8 0, .int .u8 0, .int .u8 0, .int .u8 0, .int .u8 0, .int .u8 0, .int .u8 0] 31)) w9a.heap.size 31 (blkB (List.replicate 60 0)) := Blk.new w9a 31 (blkB (List.replicate 60 0))
  have HZ := hid hZ
  have HA := hid (HA.out.below hal)
  have HX := hid (HX.out.below hal)
  have HY := hid (HY.out.below hal)
  have HK := hid (HK.out.below hal)
  have HC := hid (HC.out.below hal)
  have hW : w.heap.size ≤ w9a.heap.size := Hb.out.size
  have hlt9 : ∀ B t vs, Blk w9a B t vs → B ≠ w9a.heap.size := fun B t vs h => by have := h.lt; omega
  have Hb := hid (Hb.out.trans (hal.mono Hb.out.size)); clear hal hZ hlt9
  go_wp2_with (refine wpList_store_B (o := ⟨none, _, _, _, _, _⟩) (by rfl) 31 _ _ (by rfl) w9a.heap.size 31 (padB (sb s) 60) (List.replicate 60 0) (by rfl) (by rfl) HZ.out (by rw [hpl]; rfl) (by rw [hpl]; kernel_rfl) w.heap.size w Hb.out hW ?_)
  intro w9 hB hb hfr
  have HA := hid (hfr.out _ _ _ (by first | omega | exact HAne.out) HA.out)
  have HX := hid (hfr.out _ _ _ (by first | omega | exact HXne.out) HX.out)
  have HY := hid (hfr.out _ _ _ (by first | omega | exact HYne.out) HY.out)
  have HK := hid (hfr.out _ _ _ (by first | omega | exact HKne.out) HK.out)
  have HC := hid (hfr.out b _ _ HCne.out HC.out)
  have HN := hB; have Hb := hb; clear hB hb hfr HZ hW
  generalize w9a.heap.size = n9 at *
  go_wp2_with fail
  have EA : Hid (∀ w', Below w9.heap.size w9 w' → (loadVar 31 ⟨w.heap.size, 0, none⟩).run Try.prog w' = .ok (.agg (blkB (L))) w') := fun w' h => run_loadVar_row w' (w.heap.size) 31 31 (blkB (L)) (0, 0) _ (HA.out.below h) Try.underlying31 rfl (by rw [blkB_size, hL]; kernel_rfl)
  have EX : Hid (∀ w', Below w9.heap.size w9 w' → (loadVar 31 ⟨n5, 0, none⟩).run Try.prog w' = .ok (.agg (blkB (L))) w') := fun w' h => run_loadVar_row w' (n5) 31 31 (blkB (L)) (0, 0) _ (HX.out.below h) Try.underlying31 rfl (by rw [blkB_size, hL]; kernel_rfl)
  have EY : Hid (∀ w', Below w9.heap.size w9 w' → (loadVar 31 ⟨n6, 0, none⟩).run Try.prog w' = .ok (.agg (blkB (padB (sb s) 60))) w') := fun w' h => run_loadVar_row w' (n6) 31 31 (blkB (padB (sb s) 60)) (0, 0) _ (HY.out.below h) Try.underlying31 rfl (by rw [blkB_size, hpl]; kernel_rfl)
  have EN : Hid (∀ w', Below w9.heap.size w9 w' → (loadVar 31 ⟨n9, 0, none⟩).run Try.prog w' = .ok (.agg (blkB (padB (sb s) 60))) w') := fun w' h => run_loadVar_row w' (n9) 31 31 (blkB (padB (sb s) 60)) (0, 0) _ (HN.out.below h) Try.underlying31 rfl (by rw [blkB_size, hpl]; kernel_rfl)
  have heqL := fun w => blk_eql L w hL HLb.out
  have heqP := fun w => blk_eql (padB (sb s) 60) w hpl HPb.out
  have hOK : (openOk s == openOk s) = true := by cases openOk s <;> rfl
  have hBk : (isBlank s == (s.toList == (repS 64 255).toList)) = true := by
    rw [str_beq, show sb (repS 64 255) = List.replicate 64 255 from sb_ofB _ (by decide)]
    show (isBlank s == isBlank s) = true
    cases isBlank s <;> rfl
  clear HA HX HY HN HK HC HPd HQ1 HQ2
  (refine wp_region_quietC (fun w' => Below (w9).heap.size w9 w') (by kernel_rfl) (by kernel_rfl) ((Below.refl _ _).drew) ?_; (repeat (first | go_big_quiet_skip | (go_big_quiet_want; first | (go_big_quiet_op; go_big_quiet_on) | ((first | (refine quiet_load_row 31 (.tmp 2) rfl (w.heap.size) rfl (blkB (L)) EA.out ?_) | (refine quiet_load_row 31 (.tmp 7) rfl (n5) rfl (blkB (L)) EX.out ?_) | (refine quiet_load_row 31 (.tmp 9) rfl (n6) rfl (blkB (padB (sb s) 60)) EY.out ?_) | (refine quiet_load_row 31 (.tmp 14) rfl (n9) rfl (blkB (padB (sb s) 60)) EN.out ?_)); go_simp; go_big_quiet_on) | (apply Exists.intro; refine And.intro (fun wq hq => ?_) ?_; (focus ((try go_simp); first | done | rfl | ((first | (go_at_call 21; refine Calls.mono (ref10_Seal L _ hL HLb.out) ?_; rintro e w6 ⟨rfl, hb5⟩; exact ⟨rfl, hq.trans (hb5.mono hq.size)⟩) | (go_at_call 22; refine Calls.mono (ref10_Block s _ (by omega)) ?_; rintro e w6 ⟨rfl, hb5⟩; exact ⟨rfl, hq.trans (hb5.mono hq.size)⟩) | (go_at_call 23; refine Calls.mono (ref10_Right s _ (by omega)) ?_; rintro e w6 ⟨rfl, hb5⟩; exact ⟨rfl, hq.trans (hb5.mono hq.size)⟩) | (go_at_call 24; refine Calls.mono (tag_Blank s _) ?_; rintro e w6 ⟨rfl, hb5⟩; exact ⟨rfl, hq.trans (hb5.mono hq.size)⟩) | (go_at_call 24; refine Calls.mono (tag_Blank (repS 64 255) _) ?_; rintro e w6 ⟨rfl, hb5⟩; exact ⟨by rw [isBlank_blank], hq.trans (hb5.mono hq.size)⟩) | (go_at_call 15; refine Calls.mono (tag_Seal_nil L _ hL) ?_; rintro e w6 ⟨rfl, hb5⟩; exact ⟨rfl, hq.trans (hb5.mono hq.size)⟩))))); go_simp; go_big_quiet_on)))); refine quietC_nil _ rfl ?_; intro wE hE)
  go_wp2
  go_ret
  exact ⟨rfl, Hb.out.trans (hE.mono Hb.out.size)⟩
end Go.Proofs.Ytiailpbmmadaeaa
