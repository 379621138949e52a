/-
  A record's page in the program (record.Put).
-/
import Derived.Test.YtngkmlchblgmeaaRec2
namespace Go.Proofs.Ytngkmlchblgmeaa
open Go.RowKit Tri

theorem recL_lt (k s n v : Nat) : ∀ y ∈ recL k s n v, y < 256 := by
  intro y hy
  unfold recL at hy
  simp only [List.mem_append] at hy
  rcases hy with (((h | h) | h) | h) | h <;> exact putB_lt _ _ y h
theorem recL_len (k s n v : Nat) : (recL k s n v).length = 12 := by unfold recL; simp [putB_length]
set_option maxHeartbeats 4000000 in
set_option maxRecDepth 100000 in
theorem rec_Put (w0 : World) (b k s n v : Nat) (w : World) (K : KeepsC w0 b w) (hk : k ≤ 127) (hs : s ≤ 3) (hn : n ≤ 65535) (hv : v ≤ 281474976710655) :
    Calls Try.prog 78 #[.pointer (some ⟨b, 0, none⟩), .agg #[.int .i64 k, .int .i64 s, .int .i64 n, .int .i64 v]] w fun e w' => e = .returned (.tuple #[.string (ofB (recP k s n v)), .int .i64 0]) ∧ KeepsC w0 b w' := by
  have hok : recOk (k : Int) s n v = true := by unfold recOk; simp; omega
  have K1 := hid (K.alloc (.cells #[.int .i64 k, .int .i64 s, .int .i64 n, .int .i64 v] 37))
  (go_enter Try.func78, Try.ntmps78; try simp only [List.append])
  go_wp2_with ((with_reducible refine wpList_unguard ?_ ?_); (focus rfl))
  have hk1 : (w.alloc (.cells #[.int .i64 k, .int .i64 s, .int .i64 n, .int .i64 v] 37)).cell? ⟨w.heap.size, 0, none⟩ = some (.int .i64 k) := by simp [go_sem]
  have hs1 : (w.alloc (.cells #[.int .i64 k, .int .i64 s, .int .i64 n, .int .i64 v] 37)).cell? ⟨w.heap.size, 1, none⟩ = some (.int .i64 s) := by simp [go_sem]
  have hn1 : (w.alloc (.cells #[.int .i64 k, .int .i64 s, .int .i64 n, .int .i64 v] 37)).cell? ⟨w.heap.size, 2, none⟩ = some (.int .i64 n) := by simp [go_sem]
  have hv1 : (w.alloc (.cells #[.int .i64 k, .int .i64 s, .int .i64 n, .int .i64 v] 37)).cell? ⟨w.heap.size, 3, none⟩ = some (.int .i64 v) := by simp [go_sem]
  generalize w.alloc (.cells #[.int .i64 k, .int .i64 s, .int .i64 n, .int .i64 v] 37) = w1 at *
  refine Calls.mono (rec_Right k s n v w1) ?_
  rintro e w2 ⟨rfl, hb⟩
  have K2 := hid (K1.out.below hb)
  have hk2 : w2.cell? ⟨w.heap.size, 0, none⟩ = some (.int .i64 k) := by rw [hb.cell (p := ⟨w.heap.size, 0, none⟩) (block_lt_of_cell hk1)]; exact hk1
  have hs2 : w2.cell? ⟨w.heap.size, 1, none⟩ = some (.int .i64 s) := by rw [hb.cell (p := ⟨w.heap.size, 1, none⟩) (block_lt_of_cell hs1)]; exact hs1
  have hn2 : w2.cell? ⟨w.heap.size, 2, none⟩ = some (.int .i64 n) := by rw [hb.cell (p := ⟨w.heap.size, 2, none⟩) (block_lt_of_cell hn1)]; exact hn1
  have hv2 : w2.cell? ⟨w.heap.size, 3, none⟩ = some (.int .i64 v) := by rw [hb.cell (p := ⟨w.heap.size, 3, none⟩) (block_lt_of_cell hv1)]; exact hv1
  clear hb hk1 hs1 hn1 hv1 K1
  rw [hok]
  go_wp2_with ((with_reducible refine wpList_unguard ?_ ?_); (focus rfl))
  clear hk2 hs2 hn2 hv2
  have hL : cellsP (w2.alloc (.cells #[.int .i64 1, .int .i64 k, .int .i64 1, .int .i64 s, .int .i64 2, .int .i64 n, .int .i64 6, .int .i64 v, .int .i64 2, .int .i64 0] 174)) (some ⟨w2.heap.size, 0, none⟩) [(1, k), (1, s), (2, n), (6, v), (2, 0)] := by
    intro i hi
    have hi5 : i < 5 := hi
    rcases (show i = 0 ∨ i = 1 ∨ i = 2 ∨ i = 3 ∨ i = 4 by omega) with rfl | rfl | rfl | rfl | rfl <;> exact ⟨w2.heap.size, 0, rfl, by simp [go_sem], by simp [go_sem]⟩
  have K3 := hid (K2.out.alloc (.cells #[.int .i64 1, .int .i64 k, .int .i64 1, .int .i64 s, .int .i64 2, .int .i64 n, .int .i64 6, .int .i64 v, .int .i64 2, .int .i64 0] 174))
  have hB := rec_join (some ⟨w2.heap.size, 0, none⟩) 5 5 [(1, k), (1, s), (2, n), (6, v), (2, 0)] _ rfl hL (by
    intro q hq
    simp only [List.mem_cons, List.not_mem_nil, or_false] at hq
    rcases hq with rfl | rfl | rfl | rfl | rfl <;> simp <;> omega) (by simp)
  rw [show joinL [(1, k), (1, s), (2, n), (6, v), (2, 0)] = recL k s n v from by simp [joinL, recL]] at hB
  generalize w2.alloc (.cells #[.int .i64 1, .int .i64 k, .int .i64 1, .int .i64 s, .int .i64 2, .int .i64 n, .int .i64 6, .int .i64 v, .int .i64 2, .int .i64 0] 174) = w3 at *
  clear hL K2
  refine Calls.mono hB ?_
  rintro e w4 ⟨rfl, hb⟩
  have K4 := hid (K3.out.below hb)
  clear hB K3 hb
  have hlt := hid (recL_lt k s n v)
  have hln := recL_len k s n v
  have hP : Hid (recP k s n v = recL k s n v ++ putB 4 (recSum (recL k s n v))) := rfl
  generalize hPP : recP k s n v = P at *
  have HPP := hid hPP
  clear hPP
  generalize recL k s n v = J at *
  go_wp2_with ((with_reducible refine wpList_unguard ?_ ?_); (focus rfl))
  refine Calls.mono (crc_SumK w0 b _ _ _ [ofB J] #[.string (ofB J)] w4 _ K4.out rfl rfl rfl (by simp) (by intro s hs; simp at hs; subst hs; rw [ofB_size]; omega)) ?_
  rintro e w5 ⟨rfl, K5⟩
  have K5 := hid K5
  have hsb : lb [ofB J] = J := by unfold lb; simp [sb_ofB _ hlt.out]
  rw [hsb]
  have hS : Hid ((csum J : Nat) < 2 ^ 32) := csum_lt _ hlt.out
  have hm : min (csum J : Int) 4294967294 = ((recSum J : Nat) : Int) := by unfold recSum; omega
  have hq : recSum J < 2 ^ 32 := by unfold recSum; omega
  clear K4 hsb
  go_wp2_with ((with_reducible refine wpList_unguard ?_ ?_); (focus rfl))

  clear hm
  generalize recSum J = q at *
  have hL : cellsP (w5.alloc (.cells #[.int .i64 4, .int .i64 q] 174)) (some ⟨w5.heap.size, 0, none⟩) [(4, q)] := by
    intro i hi
    have hi5 : i < 1 := hi
    rcases (show i = 0 by omega) with rfl
    exact ⟨w5.heap.size, 0, rfl, by simp [go_sem], by simp [go_sem]⟩
  have K6 := hid (K5.out.alloc (.cells #[.int .i64 4, .int .i64 q] 174))
  have hB := rec_join (some ⟨w5.heap.size, 0, none⟩) 1 1 [(4, q)] _ rfl hL (by
    intro r hr
    simp only [List.mem_cons, List.not_mem_nil, or_false] at hr
    subst hr
    simp; omega) (by simp)
  rw [show joinL [(4, q)] = putB 4 q from by simp [joinL]] at hB
  generalize w5.alloc (.cells #[.int .i64 4, .int .i64 q] 174) = w6 at *
  clear hL K5
  refine Calls.mono hB ?_
  rintro e w7 ⟨rfl, hb⟩
  have K7 := hid (K6.out.below hb)
  clear hB K6 hb
  have hpl := putB_length 4 q
  generalize putB 4 q = y at *
  have hsz : (ofB J).size + (ofB y).size ≤ 9223372036854775807 := by rw [ofB_size, ofB_size]; omega
  have hadd : ∀ w', (Op.stringOp .add (ofB J) (ofB y)).run Try.prog w' = .ok (.string (ofB J ++ ofB y)) w' := fun w' => run_string_add_sum _ _ _ hsz
  have hcat : Hid (ofB J ++ ofB y = ofB P) := by show _ = _; rw [hP.out, ofB_append]
  clear hsz
  go_wp2_with ((with_reducible refine wpList_unguard ?_ ?_); (focus rfl))
  refine bodyPost_ret (v := .tuple #[.string (ofB P), .int .i64 0]) (by rw [← hcat.out]; simp [results, Try.results78, go_sem]) rfl ⟨by rw [HPP.out], K7.out⟩
set_option maxHeartbeats 4000000 in
set_option maxRecDepth 100000 in
theorem rec_Put_bad (w0 : World) (b : Nat) (k s n v : Int) (w : World) (K : KeepsC w0 b w) (hok : recOk k s n v = false) :
    Calls Try.prog 78 #[.pointer (some ⟨b, 0, none⟩), .agg #[.int .i64 k, .int .i64 s, .int .i64 n, .int .i64 v]] w fun e w' => e = .returned (.tuple #[.string ⟨#[]⟩, .int .i64 1]) ∧ KeepsC w0 b w' := by
  have K1 := hid (K.alloc (.cells #[.int .i64 k, .int .i64 s, .int .i64 n, .int .i64 v] 37))
  (go_enter Try.func78, Try.ntmps78; try simp only [List.append])
  go_wp2_with ((with_reducible refine wpList_unguard ?_ ?_); (focus rfl))
  generalize w.alloc (.cells #[.int .i64 k, .int .i64 s, .int .i64 n, .int .i64 v] 37) = w1 at *
  refine Calls.mono (rec_Right k s n v w1) ?_
  rintro e w2 ⟨rfl, hb⟩
  have K2 := hid (K1.out.below hb)
  clear hb K1
  rw [hok]
  go_wp2_with ((with_reducible refine wpList_unguard ?_ ?_); (focus rfl))
  refine bodyPost_ret (v := .tuple #[.string ⟨#[]⟩, .int .i64 1]) (by simp [results, Try.results78, go_sem]) rfl ⟨rfl, K2.out⟩
end Go.Proofs.Ytngkmlchblgmeaa
