/-
  tag.Split in the program.
-/
import Derived.Test.YtiailpbmmadaeaaTag0
import Derived.Laws.MakeOwn
namespace Go.Proofs.Ytiailpbmmadaeaa
open Go.RowKit Tri

theorem padB_at (S : List Nat) (N j : Nat) (hj : j < N) : (padB S N)[j]? = some (S.getD j 0) := by
  unfold padB
  by_cases h : j < S.length
  · rw [List.getElem?_append_left (by rw [List.length_take]; omega), List.getElem?_take, if_pos hj, List.getD_eq_getElem?_getD, List.getElem?_eq_getElem h]
    rfl
  · rw [List.getElem?_append_right (by rw [List.length_take]; omega), List.getElem?_replicate, List.length_take, if_pos (by omega), List.getD_eq_getElem?_getD, List.getElem?_eq_none (by omega)]
    rfl
theorem pad_ext {l : List Nat} (S : List Nat) (N : Nat) (hl : l.length = N) (h : ∀ j, j < N → l[j]? = some (S.getD j 0)) : l = padB S N := by
  apply List.ext_getElem?
  intro j
  by_cases hj : j < N
  · rw [h j hj, padB_at S N j hj]
  · rw [List.getElem?_eq_none (by omega), List.getElem?_eq_none (by rw [padB_length]; omega)]
theorem getD_take (S : List Nat) (k j : Nat) : (S.take k).getD j 0 = if j < k then S.getD j 0 else 0 := by
  rw [List.getD_eq_getElem?_getD, List.getElem?_take]
  split
  · rw [List.getD_eq_getElem?_getD]
  · rfl
theorem pad_step (S : List Nat) (i N k : Nat) (h : 60 * i + 60 ≤ N) (hk : k = Nat.min (S.length - 60 * i) 60) :
    (padB (S.take (60 * i)) N).take (i * 60) ++ ((S.drop (60 * i)).take k ++ (padB (S.take (60 * i)) N).drop (i * 60 + k)) = padB (S.take (60 * (i + 1))) N := by
  have hk1 : k ≤ 60 := by rw [hk]; exact Nat.min_le_right _ _
  have hk2 : k ≤ S.length - 60 * i := by rw [hk]; exact Nat.min_le_left _ _
  have hk3 : k = S.length - 60 * i ∨ k = 60 := by rw [hk]; show min _ _ = _ ∨ min _ _ = _; omega
  have l0 : ((padB (S.take (60 * i)) N).take (i * 60)).length = i * 60 := by rw [List.length_take, padB_length]; omega
  have l1 : ((S.drop (60 * i)).take k).length = k := by rw [List.length_take, List.length_drop]; omega
  refine pad_ext _ _ ?_ ?_
  · rw [List.length_append, List.length_append, l0, l1, List.length_drop, padB_length]; omega
  · intro j hj
    rw [getD_take]
    by_cases h1 : j < i * 60
    · rw [List.getElem?_append_left (by omega), List.getElem?_take, if_pos h1, padB_at _ _ _ hj, getD_take, if_pos (by omega), if_pos (by omega)]
    · rw [List.getElem?_append_right (by omega), l0]
      by_cases h2 : j < i * 60 + k
      · rw [List.getElem?_append_left (by omega), List.getElem?_take, if_pos (by omega), List.getElem?_drop, show 60 * i + (j - i * 60) = j from by omega, if_pos (by omega), List.getD_eq_getElem?_getD, List.getElem?_eq_getElem (by omega)]
        rfl
      · rw [List.getElem?_append_right (by omega), l1, List.getElem?_drop, show i * 60 + k + (j - i * 60 - k) = j from by omega, padB_at _ _ _ hj, getD_take, if_neg (by omega)]
        congr 1
        split
        · rw [List.getD_eq_getElem?_getD, List.getElem?_eq_none (by omega)]
          rfl
        · rfl
theorem run_make_rowN {P : Program} (t e : TypeId) (i : TypeInfo) (z : Value) (ht : P.underlying t = some (.slice e)) (hi : P.info? e = some i) (hz : i.zero = some z)
    (kl kc : IntKind) (n c : Nat) (hnc : n ≤ c) (hbytes : i.bytes * c ≤ 281474976710656) (h63 : c ≤ 9223372036854775807) (w : World) :
    (Instr.makeSlice t (.int kl (n : Int)) (.int kc (c : Int))).run P w = .ok (.slice (some ⟨w.heap.size, 0, none⟩) n c) (w.alloc (.cells (madeCells z.cells (c * i.size)) e)) := by
  have hb : (i.bytes : Int) * (c : Int) ≤ 281474976710656 := by
    have h : ((i.bytes * c : Nat) : Int) ≤ 281474976710656 := by omega
    rwa [Int.natCast_mul] at h
  have hr := run_make (P := P) w t e i z ht hi hz kl kc n c (by omega) (by omega) hb (by omega)
  simp only [Int.toNat_natCast] at hr
  exact hr
theorem Try.infoBk : (Try.prog.info? 31).map (fun i => (i.zero, i.size, i.bytes)) = some (some (.agg (blkB (List.replicate 60 0))), 60, 60) := by kernel_rfl
theorem blkB_rep (m : Nat) : blkB (List.replicate m 0) = Array.replicate m (Value.int .u8 0) := by
  apply Array.ext'
  rw [blkB_toList, List.map_replicate, Array.toList_replicate]
  rfl
theorem madeZ (k : Nat) : madeCells (Value.cells (.agg (blkB (List.replicate 60 0)))) (k * 60) = blkB (List.replicate (k * 60) 0) := by
  have hz : (Value.cells (.agg (blkB (List.replicate 60 0)))) = Array.replicate 60 (Value.int .u8 0) := by rw [← blkB_rep]; rfl
  rw [hz, blkB_rep]
  apply Array.ext
  · rw [size_madeCells, Array.size_replicate]
  · intro j h1 h2
    have hm : j % 60 < 60 := Nat.mod_lt _ (by omega)
    simp only [madeCells, Array.getElem_map, Array.getElem_range, Array.size_replicate, Array.getElem_replicate]
    rw [getElem!_pos _ _ (by rw [Array.size_replicate]; exact hm), Array.getElem_replicate]
set_option maxHeartbeats 4000000 in
set_option maxRecDepth 100000 in
theorem tag_Split (s : ByteArray) (many : Int) (n : Nat) (w : World) (hn : (n : Int) = min (max many 0) 64) (hz : s.size ≤ 1000000) :
    Calls Try.prog 25 #[.string s, .int .i64 many] w fun e w' => ∃ g, e = .returned (.slice (some ⟨g, 0, none⟩) n n) ∧ Blk w' g 31 (blkB (padB (sb s) (n * 60))) ∧ Below w.heap.size w w' := by
  obtain ⟨i0, hi, hz0, hz1, hz2⟩ := info_parts Try.infoBk
  have hn64 : n ≤ 64 := by omega
  have hmk := fun W => run_make_rowN (P := Try.prog) 55 31 i0 _ Try.underlying55 hi hz0 .i64 .i64 n n (Nat.le_refl _) (by rw [hz2]; omega) (by omega) W
  rw [hz1, madeZ] at hmk
  have HN := hid hn
  rw [hn] at hmk
  clear hn
  (go_enter Try.func25, Try.ntmps25; try simp only [List.append])
  go_wp2
  have hb1 : Below w.heap.size w (w.alloc (.cells (blkB (List.replicate (n * 60) 0)) 31)) := (Below.refl _ _).alloc (Nat.le_refl _) _
  have hB1 := Blk.new w 31 (blkB (List.replicate (n * 60) 0))
  have HB1 := hid hb1
  have HK1 := hid hB1
  clear hb1 hB1 hmk
  generalize w.alloc (.cells (blkB (List.replicate (n * 60) 0)) 31) = w1 at *
  go_loopw [13, 0] (fun i v wr => ∃ (k : Nat) (t : ByteArray), k ≤ n ∧ i = .int .i64 k ∧ v = .string t ∧ sb t = (sb s).drop (60 * k) ∧ Blk wr w.heap.size 31 (blkB (padB ((sb s).take (60 * k)) (n * 60))) ∧ Below w.heap.size w wr) (fun i _ _ => n - (intOf i).toNat)
  case atStart => exact ⟨0, s, by omega, rfl, rfl, by simp, by simpa [padB] using HK1.out, HB1.out⟩
  case round =>
    obtain ⟨k, t, hk, rfl, rfl, ht, hB, hb⟩ := hrel
    have HT := hid ht
    have HK := hid hB
    have HB := hid hb
    clear ht hB hb HK1 HB1
    by_cases hlt : k < n
    · have htz : t.size = s.size - 60 * k := by
        have := congrArg List.length HT.out
        rwa [sb_length, List.length_drop, sb_length] at this
      have hstep := pad_step (sb s) k (n * 60) (Nat.min t.size 60) (by omega) (by rw [sb_length, ← htz])
      rw [← HT.out] at hstep
      have HS := hid hstep
      clear hstep
      have hpl := padB_length ((sb s).take (60 * k)) (n * 60)
      have hp1 : Nat.min t.size 60 ≤ t.size := Nat.min_le_left _ _
      have hp2 : Nat.min t.size 60 ≤ 60 := Nat.min_le_right _ _
      obtain ⟨m, hm⟩ : ∃ m, Nat.min t.size 60 = m := ⟨_, rfl⟩
      rw [hm] at hp1 hp2 HS
      have HM := hid hm.symm
      clear hm
      go_wp2_with (refine wpList_copy_str (o := ⟨some 22, _, _, _, _, _⟩) (by rfl) _ _ _ _ (by rfl) 5 31 Try.underlying34 Try.sizeOf5 w.heap.size (k * 60) 60 60 m t (padB ((sb s).take (60 * k)) (n * 60)) (by rfl) (by rfl) HM.out HK.out (by rw [hpl]; omega) w.heap.size w HB.out (Nat.le_refl _) _ HS.out ?_)
      intro w3 hB3 hb3 _
      clear HK HB
      have hT : Hid (sb (t.extract m t.size) = (sb s).drop (60 * (k + 1))) := by
        show _ = _
        rw [sb_extract, HT.out, List.drop_drop]
        have hm0 : m = min t.size 60 := HM.out
        by_cases h : t.size ≤ 60
        · have h2 : (sb s).drop (60 * k + m) = [] := by rw [List.drop_of_length_le]; rw [sb_length]; omega
          rw [h2, List.take_nil, List.drop_of_length_le]
          rw [sb_length]; omega
        · rw [show 60 * k + m = 60 * (k + 1) from by omega, List.take_of_length_le]
          rw [List.length_drop, sb_length]; omega
      clear HS HT hpl htz
      go_wp2
      go_roundw
      case rel => exact ⟨k + 1, _, by omega, by go_num, rfl, hT.out, hB3.out, hb3.out⟩
      case measure => simp [intOf]; omega
    · have hN : Hid (padB ((sb s).take (60 * k)) (n * 60) = padB (sb s) (n * 60)) := by
        show _ = _
        refine pad_ext _ _ (padB_length _ _) ?_
        intro j hj
        rw [padB_at _ _ _ hj, getD_take, if_pos (by omega)]
      go_wp2
      go_ret
      refine ⟨_, rfl, ?_, HB.out⟩
      rw [← hN.out]
      exact HK.out
end Go.Proofs.Ytiailpbmmadaeaa
