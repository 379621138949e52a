/-
  CrcTells, walked: of a sealed text in which up to four bytes beside one another are turned, ErrSum is told.
-/
import Derived.Test.YtbghfhkhnmmcdaaCrcT
import Derived.Test.YtbghfhkhnmmcdaaArr
namespace Go.Proofs.Ytbghfhkhnmmcdaa
open Go.RowKit Tri

theorem idx4 (x0 x1 x2 x3 : Nat) (w : World) : ∀ n : Nat, n < 4 → (Instr.index 57 (.agg #[.int .u8 x0, .int .u8 x1, .int .u8 x2, .int .u8 x3]) (.int .i64 (n : Int))).run Try.prog w = .ok (.int .u8 (([x0, x1, x2, x3].getD n 0 : Nat) : Int)) w := by
  have i0 : (Instr.index 57 (.agg #[.int .u8 x0, .int .u8 x1, .int .u8 x2, .int .u8 x3]) (.int .i64 0)).run Try.prog w = .ok (.int .u8 (x0 : Int)) w := by kernel_rfl
  have i1 : (Instr.index 57 (.agg #[.int .u8 x0, .int .u8 x1, .int .u8 x2, .int .u8 x3]) (.int .i64 1)).run Try.prog w = .ok (.int .u8 (x1 : Int)) w := by kernel_rfl
  have i2 : (Instr.index 57 (.agg #[.int .u8 x0, .int .u8 x1, .int .u8 x2, .int .u8 x3]) (.int .i64 2)).run Try.prog w = .ok (.int .u8 (x2 : Int)) w := by kernel_rfl
  have i3 : (Instr.index 57 (.agg #[.int .u8 x0, .int .u8 x1, .int .u8 x2, .int .u8 x3]) (.int .i64 3)).run Try.prog w = .ok (.int .u8 (x3 : Int)) w := by kernel_rfl
  intro n hn
  rcases (by omega : n = 0 ∨ n = 1 ∨ n = 2 ∨ n = 3) with rfl | rfl | rfl | rfl
  · exact i0
  · exact i1
  · exact i2
  · exact i3
set_option maxHeartbeats 2000000 in
set_option maxRecDepth 100000 in
theorem tells_main (s : ByteArray) (k x0 x1 x2 x3 : Nat) (w : World) (hn : s.size ≤ 3000) (hk : k = s.size ∨ k + 4 ≤ s.size) (h0 : x0 < 256) (h1 : x1 < 256) (h2 : x2 < 256) (h3 : x3 < 256) (hne : ¬ (x0 = 0 ∧ x1 = 0 ∧ x2 = 0 ∧ x3 = 0)) :
    Calls Try.prog 11 #[.string s, .int .i64 k, .agg #[.int .u8 x0, .int .u8 x1, .int .u8 x2, .int .u8 x3]] w fun e w' => e = .returned (.bool true) ∧ Below w.heap.size w w' := by
  have hd : decide (3000 < (s.size : Int)) = false := by simp; omega
  have hz : (ofB (sealB (sb s))).size = s.size + 4 := by rw [ofB_size, sealB_length, sb_length]
  have HZ := hid hz
  have hzb : (((ofB (sealB (sb s))).size : Int) != (s.size : Int) + 4) = false := by rw [hz]; simp
  clear hz
  have hcv := fun (w : World) (s : ByteArray) => Lib.run_convert_string_bytes (P := Try.prog) w 9 23 5 s Try.underlying9 Try.underlying23 Try.underlying5
  (go_enter Try.func11, Try.ntmps11; try simp only [List.append])
  go_wp2_with ((with_reducible refine wpList_unguard ?_ ?_); (focus rfl))
  have hblk := hid (heap_alloc_new w (.cells #[.int .u8 x0, .int .u8 x1, .int .u8 x2, .int .u8 x3] 57))
  have hB0 := hid ((Below.refl w.heap.size w).alloc (Nat.le_refl _) (.cells #[.int .u8 x0, .int .u8 x1, .int .u8 x2, .int .u8 x3] 57))
  refine Calls.mono (law02_awake _) ?_; rintro e w1 ⟨rfl, hbA⟩
  have HBA := hid (hB0.out.trans (hbA.mono (by simp)))
  have hblk1 := hid ((hbA.block w.heap.size (by simp)).trans hblk.out)
  clear hbA hB0 hblk
  go_wp2_with ((with_reducible refine wpList_unguard ?_ ?_); (focus rfl))
  go_call crc_New _ as e w' ⟨rfl, rfl⟩
  have K : Hid (KeepsC w w1.heap.size (w1.alloc (.cells crcC 63))) := ⟨HBA.out.alloc HBA.out.size _, isC.new w1⟩
  have hblk2 := hid ((Below.heap_alloc w1 (.cells crcC 63) w.heap.size (Array.getElem?_eq_some_iff.1 hblk1.out).1).trans hblk1.out)
  clear hblk1
  generalize w1.alloc (.cells crcC 63) = w2 at *
  generalize w1.heap.size = b at *
  go_wp2_with ((with_reducible refine wpList_unguard ?_ ?_); (focus rfl))
  refine Calls.mono (crc_Seal1 b _ s w2 _ K.out.2 rfl (by omega)) ?_; rintro e w3 ⟨rfl, hb⟩
  have K3 := hid (K.out.below hb)
  have hblk3 := hid ((hb.block w.heap.size (Array.getElem?_eq_some_iff.1 hblk2.out).1).trans hblk2.out)
  clear hb K hblk2
  have hS : ∃ S, ofB (sealB (sb s)) = S := ⟨_, rfl⟩
  obtain ⟨S, hS⟩ := hS
  have HS := hid hS
  rw [hS] at hzb HZ ⊢
  clear hS
  have hblk4 := hid ((Lib.bytesWorld_at_old w3 5 S _ (Array.getElem?_eq_some_iff.1 hblk3.out).1).trans hblk3.out)
  have hne' : [x0, x1, x2, x3] ≠ [0, 0, 0, 0] := by intro h; simp at h; exact hne h
  have HNE := hid hne'
  have heq : ∀ w, (Op.equalIn 10000 57 (.agg #[.int .u8 x0, .int .u8 x1, .int .u8 x2, .int .u8 x3]) (.agg #[.int .u8 0, .int .u8 0, .int .u8 0, .int .u8 0])).run Try.prog w = .ok false w := by
    intro w
    have := run_eq_bytes 57 4 Try.underlying57 [x0, x1, x2, x3] [0, 0, 0, 0] (by simp [h0, h1, h2, h3]) (by simp) rfl rfl w
    rw [decide_eq_false hne'] at this
    exact this
  have f0 := cell_of_row _ _ 0 _ _ _ hblk4.out
  have f1 := cell_of_row _ _ 1 _ _ _ hblk4.out
  have f2 := cell_of_row _ _ 2 _ _ _ hblk4.out
  have f3 := cell_of_row _ _ 3 _ _ _ hblk4.out
  have hB4 := hid ((K3.out.1).trans ((bytes_below w3 5 S).mono K3.out.1.size))
  have hC4 := hid (K3.out.2.below (bytes_below w3 5 S) K3.out.2.lt)
  have hcells := hid (bytes_cells w3 5 S)
  have hfree := hid (bytes_free w3 5 S)
  have hbs := hid K3.out.1.size
  have hbb := hid K3.out.2.lt
  clear hne hne'
  have hlt : k < s.size ∧ k + 4 ≤ s.size ∨ ¬ k < s.size ∧ k ≤ s.size := by omega
  have HK := hid hk
  clear hk
  rcases hlt with ⟨hlt, hk4⟩ | ⟨hlt, hk4⟩
  all_goals
    go_wp2_with ((with_reducible refine wpList_unguard ?_ ?_); (focus rfl))
    clear f0 f1 f2 f3 heq hcv hblk3 hblk4
    have hsb : Hid (sb S = sealB (sb s)) := by show _ = _; rw [← HS.out, sb_ofB _ (openS_lt _ (sb_lt s))]
    generalize Lib.bytesWorld w3 5 S = W4 at *
    generalize grownCap w3 S.size 0 5 = cap at *
    generalize w3.heap.size = bs at *
    go_loopw [57] (fun i wr => ∃ n : Nat, n ≤ 4 ∧ i = .int .i64 n ∧ Below w.heap.size w wr ∧ isC wr b ∧ cellsB wr (some ⟨bs, 0, none⟩) (turnN (sb S) [x0, x1, x2, x3] k n) ∧ ∀ j, j < S.size → wr.frozen? ⟨bs, j, none⟩ = false) (fun i _ => 4 - (intOf i).toNat)
    case atStart => exact ⟨0, by omega, rfl, hB4.out, hC4.out, hcells.out, hfree.out⟩
    case round =>
      obtain ⟨n, hn4, rfl, hB, hC, hD, hF⟩ := hrel
      have HB := hid hB
      have HC := hid hC
      have HD := hid hD
      have HF := hid hF
      clear hB hC hD hF hB4 hC4 hcells hfree
      have hSz : s.size + 4 ≤ S.size := by have := HZ.out; omega
      by_cases hlt4 : n < 4
      · have hkn : k + n < S.size := by omega
        have hidx : ∀ w, (Instr.index 57 (.agg #[.int .u8 x0, .int .u8 x1, .int .u8 x2, .int .u8 x3]) (.int .i64 (n : Int))).run Try.prog w = .ok (.int .u8 (([x0, x1, x2, x3].getD n 0 : Nat) : Int)) w := by
          exact fun w => idx4 x0 x1 x2 x3 w n hlt4
        have hx : [x0, x1, x2, x3].getD n 0 < 256 := by
          match n, hlt4 with
          | 0, _ => exact h0
          | 1, _ => exact h1
          | 2, _ => exact h2
          | 3, _ => exact h3
        have hTl : (turnN (sb S) [x0, x1, x2, x3] k n).length = S.size := by rw [turnN_length, sb_length]
        obtain ⟨a', o', e', hcell⟩ := HD.out (k + n) (by omega)
        simp only [Option.some.injEq, Addr.mk.injEq] at e'
        obtain ⟨rfl, rfl, _⟩ := e'
        rw [Nat.zero_add] at hcell
        have hfr := HF.out (k + n) hkn
        have hset : Hid (cellsB (wr.setCell ⟨bs, k + n, none⟩ (.int .u8 ((turnN (sb S) [x0, x1, x2, x3] k n).getD (k + n) 0 ^^^ [x0, x1, x2, x3].getD n 0 : Nat))) (some ⟨bs, 0, none⟩) (turnN (sb S) [x0, x1, x2, x3] k (n + 1))) := by
          have := HD.out.set (k + n) ((turnN (sb S) [x0, x1, x2, x3] k n).getD (k + n) 0 ^^^ [x0, x1, x2, x3].getD n 0) (by omega)
          rw [Nat.zero_add] at this
          exact this
        have hy : (turnN (sb S) [x0, x1, x2, x3] k n).getD (k + n) 0 < 256 :=
          turnN_lt _ _ k n (sb_lt S) (by simp [h0, h1, h2, h3]) _ (getD_mem _ _ (by omega))
        clear hTl
        generalize (turnN (sb S) [x0, x1, x2, x3] k n).getD (k + n) 0 = y at *
        generalize [x0, x1, x2, x3].getD n 0 = x at *
        have hxor := xor_byte y x hy hx
        have htn : ((k : Int) + (n : Int)).toNat = k + n := by omega
        go_wp2
        go_roundw
        case rel => exact ⟨n + 1, by omega, by go_num, HB.out.setCell hbs.out _, HC.out.setCell _ _ (by have := hbb.out; simp; omega), hset.out, fun j hj => by have := HF.out j hj; simpa using this⟩
        case measure => simp [intOf]; omega
      · obtain rfl : n = 4 := by omega
        have hT : turnN (sb S) [x0, x1, x2, x3] k 4 = turnAt (sb S) [x0, x1, x2, x3] k := turnN_four _ _ _ rfl (by rw [sb_length]; omega)
        have HD4 := HD.out
        rw [hT, hsb.out] at HD4
        have hlen : (turnAt (sealB (sb s)) [x0, x1, x2, x3] k).length = S.size := by rw [← hsb.out, ← hT, turnN_length, sb_length]
        have hTlt : ∀ y ∈ turnAt (sealB (sb s)) [x0, x1, x2, x3] k, y < 256 := by
          rw [← hsb.out, ← hT]; exact turnN_lt _ _ k 4 (sb_lt S) (by simp [h0, h1, h2, h3])
        have hpl := tells_plain (sb s) [x0, x1, x2, x3] k (sb_lt s) (by simp [h0, h1, h2, h3]) rfl HNE.out (by rw [sb_length]; exact HK.out)
        have hcs := conv_str HD4 S.size cap hlen.symm
        have he : Hid (openE (ofB (turnAt (sealB (sb s)) [x0, x1, x2, x3] k)) = 7) := by
          show _ = _
          unfold openE
          rw [ofB_size, hlen, if_neg (by omega), sb_ofB _ hTlt, show S.size - 4 = (sb s).length from by rw [sb_length]; have := HZ.out; omega, if_neg hpl]
        have ht : Hid (openT (ofB (turnAt (sealB (sb s)) [x0, x1, x2, x3] k)) = ⟨#[]⟩) := by show _ = _; unfold openT; rw [he.out]; rfl
        have hzz : (ofB (turnAt (sealB (sb s)) [x0, x1, x2, x3] k)).size ≤ 1000000 := by rw [ofB_size, hlen]; have := HZ.out; omega
        clear hT HD4 hlen hTlt hpl HD
        generalize ofB (turnAt (sealB (sb s)) [x0, x1, x2, x3] k) = U at *
        go_wp2_with ((with_reducible refine wpList_unguard ?_ ?_); (focus rfl))
        refine Calls.mono (crc_Open b U _ HC.out hzz) ?_; rintro e w5 ⟨rfl, hb5⟩
        have HB5 := hid (HB.out.trans (hb5.mono HB.out.size))
        clear hb5
        rw [he.out, ht.out]
        go_wp2
        go_ret
        exact ⟨rfl, HB5.out⟩
end Go.Proofs.Ytbghfhkhnmmcdaa
