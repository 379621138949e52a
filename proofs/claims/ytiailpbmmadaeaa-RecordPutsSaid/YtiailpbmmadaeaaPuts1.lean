/-
  The reference of chapter 01 (Put) and of chapter 14 (Put): a record's page is the document's.
-/
import Derived.Test.YtiailpbmmadaeaaUnlQ
import Derived.Test.YtiailpbmmadaeaaCrcR
namespace Go.Proofs.Ytiailpbmmadaeaa
open Go.RowKit Tri

theorem putB_cons (j x : Nat) : putB (j + 1) x = (x / 2 ^ (8 * j) % 256) :: putB j x := by
  unfold putB
  rw [List.range_succ_eq_map, List.map_cons, List.map_map]
  refine congr (congrArg List.cons (by simp)) (List.map_congr_left ?_)
  intro i hi
  have := List.mem_range.1 hi
  simp only [Function.comp_apply]
  rw [show j + 1 - 1 - i.succ = j - 1 - i from by omega]

set_option maxHeartbeats 2000000 in
set_option maxRecDepth 100000 in
theorem ref01_Put (sz : Nat) (p : Option Addr) (n c : Nat) (l : List Nat) (w : World) (h1 : 1 ≤ sz) (h7 : sz ≤ 7) (hn : n = l.length) (hp : cellsI w p l) (hl : l.length ≤ 1000) (hb : ∀ x ∈ l, x < 2 ^ (8 * sz)) :
    Calls Try.prog 52 #[.int .i64 sz, .slice p n c] w fun e w' => e = .returned (.tuple #[.string (ofB (putL sz l)), .int .i64 0]) ∧ Below w.heap.size w w' := by
  subst hn
  have HP := hid hp
  have HB := hid hb
  clear hp hb
  have HZ := hid h7
  have hd1 : decide ((sz : Int) < 1) = false := decide_eq_false (by omega)
  have hd7 : decide ((7 : Int) < (sz : Int)) = false := decide_eq_false (by omega)
  have hd7' : decide ((sz : Int) > 7) = false := decide_eq_false (by omega)
  clear h7
  (go_enter Try.func52, Try.ntmps52; try simp only [List.append])
  go_wp2_with ((with_reducible refine wpList_unguard ?_ ?_); (focus rfl))
  clear hd1 hd7 hd7'
  go_loopw [7, 6] (fun i v wr => ∃ k : Nat, k ≤ l.length ∧ i = .int .i64 k ∧ v = .string (ofB (putL sz (l.take k))) ∧ Below w.heap.size w wr) (fun i _ _ => l.length - (intOf i).toNat)
  case atStart => exact ⟨0, Nat.zero_le _, rfl, rfl, Below.refl _ _⟩
  case round =>
    obtain ⟨k, hk, rfl, rfl, hBl⟩ := hrel
    have HBl := hid hBl
    clear hBl
    by_cases hlt : k < l.length
    · obtain ⟨a, o, rfl, hc0⟩ := HP.out k hlt
      have hc : wr.cell? ⟨a, o + k, none⟩ = some (.int .i64 (l.getD k 0 : Nat)) := by
        rw [HBl.out.cell (p := ⟨a, o + k, none⟩) (block_lt_of_cell hc0)]; exact hc0
      have hx : Hid (l.getD k 0 < 2 ^ (8 * sz)) := HB.out _ (getD_mem l k hlt)
      clear hc0
      have hts : Hid (putL sz (l.take (k + 1)) = putL sz (l.take k) ++ putB sz (l.getD k 0)) := by
        show _ = _; rw [take_snocN l k hlt]; simp [putL]
      have hOs : Hid ((ofB (putL sz (l.take k))).size ≤ 7000) := by
        show _ ≤ _; rw [ofB_size, putL_length, List.length_take, Nat.min_eq_left hk]
        have := Nat.mul_le_mul HZ.out (show k ≤ 1000 by omega)
        omega
      generalize putL sz (l.take k) = O at *
      generalize l.getD k 0 = x at *
      go_wp2_with ((with_reducible refine wpList_unguard ?_ ?_); (focus rfl))
      obtain ⟨wo, rfl⟩ : ∃ wo : World, wo = wr := ⟨_, rfl⟩
      go_loopw [10, 9, 8] (fun j s n wr => ∃ m : Nat, m ≤ sz ∧ j = .int .i64 m ∧ s = .string (ofB (putB m x)) ∧ n = .int .i64 (x / 2 ^ (8 * m) : Nat) ∧ Below w.heap.size w wr) (fun j _ _ _ => sz - (intOf j).toNat)
      case atStart => exact ⟨0, Nat.zero_le _, rfl, rfl, by simp, HBl.out⟩
      case round =>
        obtain ⟨m, hm, rfl, rfl, rfl, hB2⟩ := hrel
        have HB2 := hid hB2
        clear hB2 HBl
        by_cases hml : m < sz
        · have hyy : Hid (x / 2 ^ (8 * (m + 1)) = x / 2 ^ (8 * m) / 256) := by
            show _ = _
            rw [Nat.div_div_eq_div_mul, show 8 * (m + 1) = 8 * m + 8 from by omega, Nat.pow_add]
          have hpc : Hid (putB (m + 1) x = (x / 2 ^ (8 * m) % 256) :: putB m x) := putB_cons m x
          have hps : (ofB (putB m x)).size = m := by rw [ofB_size, putB_length]
          have hyB : x / 2 ^ (8 * m) < 72057594037927936 := by
            have h8 : 2 ^ (8 * sz) ≤ 2 ^ 56 := Nat.pow_le_pow_right (by omega) (by have := HZ.out; omega)
            exact Nat.lt_of_le_of_lt (Nat.div_le_self _ _) (Nat.lt_of_lt_of_le hx.out h8)
          generalize x / 2 ^ (8 * m) = y at *
          generalize putB m x = q at *
          have hm7 : m < 7 := Nat.lt_of_lt_of_le hml HZ.out
          have hy0 : decide ((y : Int) ≥ 0) = true := decide_eq_true (by omega)
          have hy0' : decide ((0 : Int) ≤ (y : Int)) = true := decide_eq_true (by omega)
          have hcs : (convert 34 9 (.slice (some ⟨wr.heap.size, 0, none⟩) 1 1)).run Try.prog (wr.alloc (.cells #[.int .u8 ((y : Int) % 256)] 5)) =
              .ok (.string (ofB [y % 256])) (wr.alloc (.cells #[.int .u8 ((y : Int) % 256)] 5)) := conv_str (cellsB.new wr [y % 256] _ _ (by simp)) 1 1 rfl
          have hsz : (ofB [y % 256]).size + (ofB q).size ≤ 9223372036854775807 := by rw [ofB_size, hps]; simp; omega
          go_wp2_with ((with_reducible refine wpList_unguard ?_ ?_); (focus rfl))
          go_roundw
          case rel =>
            refine ⟨m + 1, by omega, by go_num, ?_, ?_, HB2.out.alloc HB2.out.size _⟩
            · rw [hpc.out]; show _ = Value.string (ofB ([y % 256] ++ q)); rw [ofB_append]
            · rw [hyy.out]; go_num
          case measure => simp [intOf]; omega
        · have he : m = sz := by omega
          subst he
          have hz : x / 2 ^ (8 * m) = 0 := Nat.div_eq_of_lt hx.out
          have hbs : (ofB (putB m x)).size = m := by rw [ofB_size, putB_length]
          have hsz : (ofB O).size + (ofB (putB m x)).size ≤ 9223372036854775807 := by have := hOs.out; have := HZ.out; omega
          rw [hz]
          go_wp2_with ((with_reducible refine wpList_unguard ?_ ?_); (focus rfl))
          go_roundw
          case rel => exact ⟨k + 1, by omega, by go_num, by rw [hts.out, ofB_append], HB2.out⟩
          case measure => simp [intOf]; omega
    · have hpe : Hid (putL sz (l.take k) = putL sz l) := by show _ = _; rw [List.take_of_length_le (by omega)]
      go_wp2_with ((with_reducible refine wpList_unguard ?_ ?_); (focus rfl))
      refine bodyPost_ret (v := .tuple #[.string (ofB (putL sz (l.take k))), .int .i64 0]) (by simp [results, Try.results52, go_sem]) rfl ⟨by rw [hpe.out], HBl.out⟩

/-- A block that holds the document's record. -/
def E4 (w : World) (B : Nat) (a b c d : Int) : Prop := w.heap[B]? = some (.cells #[.int .i64 a, .int .i64 b, .int .i64 c, .int .i64 d] 46)
theorem E4.lt {w : World} {B : Nat} {a b c d : Int} (h : E4 w B a b c d) : B < w.heap.size := (Array.getElem?_eq_some_iff.1 h).1
theorem E4.below {w w' : World} {B : Nat} {a b c d : Int} (h : E4 w B a b c d) (hb : Below w.heap.size w w') : E4 w' B a b c d := by
  unfold E4; rw [hb.block B h.lt]; exact h
theorem E4.c0 {w : World} {B : Nat} {a b c d : Int} (h : E4 w B a b c d) : w.cell? ⟨B, 0, none⟩ = some (.int .i64 a) := cell_of_row _ _ 0 _ _ _ h
theorem E4.c1 {w : World} {B : Nat} {a b c d : Int} (h : E4 w B a b c d) : w.cell? ⟨B, 1, none⟩ = some (.int .i64 b) := cell_of_row _ _ 1 _ _ _ h
theorem E4.c2 {w : World} {B : Nat} {a b c d : Int} (h : E4 w B a b c d) : w.cell? ⟨B, 2, none⟩ = some (.int .i64 c) := cell_of_row _ _ 2 _ _ _ h
theorem E4.c3 {w : World} {B : Nat} {a b c d : Int} (h : E4 w B a b c d) : w.cell? ⟨B, 3, none⟩ = some (.int .i64 d) := cell_of_row _ _ 3 _ _ _ h
theorem E4.free {w : World} {B : Nat} {a b c d : Int} (h : E4 w B a b c d) (i : Nat) : w.frozen? ⟨B, i, none⟩ = false := by
  unfold World.frozen?
  simp only
  rw [show w.heap[B]? = _ from h]
  simp

theorem ref01_PutV (sz : Nat) (vz : Int) (s : Nat) (l : List Nat) (vs : Array Value) (w : World) (t : TypeId) (n c : Nat) (hs : s = w.heap.size) (ez : vz = sz) (h1 : 1 ≤ sz) (h7 : sz ≤ 7) (hn : n = l.length)
    (hvs : vs.toList = l.map fun x => Value.int .i64 (x : Nat)) (hl : l.length ≤ 1000) (hb : ∀ x ∈ l, x < 2 ^ (8 * sz)) :
    Calls Try.prog 52 #[.int .i64 vz, .slice (some ⟨s, 0, none⟩) n c] (w.alloc (.cells vs t)) fun e w' => e = .returned (.tuple #[.string (ofB (putL sz l)), .int .i64 0]) ∧ Below w.heap.size w w' := by
  subst hs ez
  have hb1 : Below w.heap.size w (w.alloc (.cells vs t)) := (Below.refl _ _).alloc (Nat.le_refl _) _
  refine Calls.mono (ref01_Put sz _ n c l _ h1 h7 hn (cellsI.new w l vs t hvs) hl hb) ?_
  rintro e w' ⟨rfl, hb2⟩
  exact ⟨rfl, hb1.trans (hb2.mono hb1.size)⟩

set_option maxHeartbeats 4000000 in
set_option maxRecDepth 100000 in
theorem ref14_Put (k s n v : Nat) (w : World) (hk : k ≤ 127) (hs : s ≤ 3) (hn : n ≤ 65535) (hv : v ≤ 281474976710655) :
    Calls Try.prog 29 #[.agg #[.int .i64 (k : Nat), .int .i64 (s : Nat), .int .i64 (n : Nat), .int .i64 (v : Nat)]] w fun e w' => e = .returned (.string (ofB (recP k s n v))) ∧ Below w.heap.size w w' := by
  have hb0 : Below w.heap.size w (w.alloc (.cells #[.int .i64 k, .int .i64 s, .int .i64 n, .int .i64 v] 46)) := (Below.refl _ _).alloc (Nat.le_refl _) _
  have hR : E4 (w.alloc (.cells #[.int .i64 k, .int .i64 s, .int .i64 n, .int .i64 v] 46)) w.heap.size k s n v := heap_alloc_new w _
  obtain ⟨w1, hw1⟩ : ∃ u, w.alloc (.cells #[.int .i64 k, .int .i64 s, .int .i64 n, .int .i64 v] 46) = u := ⟨_, rfl⟩
  rw [hw1] at hb0 hR
  have HB1 := hid hb0
  have HR1 := hid hR
  clear hb0 hR
  have c0 := HR1.out.c0
  have c1 := HR1.out.c1
  have hkm : Hid (∀ x ∈ [k, s], x < 2 ^ (8 * 1)) := by intro x hx; simp at hx; omega
  have hnm : Hid (∀ x ∈ [n], x < 2 ^ (8 * 2)) := by intro x hx; simp at hx; omega
  have hvm : Hid (∀ x ∈ [v], x < 2 ^ (8 * 6)) := by intro x hx; simp at hx; omega
  clear hk hs hn hv
  (go_enter Try.func29, Try.ntmps29; try simp only [List.append])
  go_wp2_with ((with_reducible refine wpList_unguard ?_ ?_); (focus rfl))
  refine Calls.mono (ref01_PutV 1 1 _ [k, s] _ w1 _ 2 2 rfl rfl (by omega) (by omega) rfl rfl (by simp) hkm.out) ?_
  rintro e w2 ⟨rfl, hb⟩
  have HB2 := hid (HB1.out.trans (hb.mono HB1.out.size))
  have HR2 := hid (HR1.out.below hb)
  clear hb c0 c1 HB1 HR1
  have c2 := HR2.out.c2
  go_wp2_with ((with_reducible refine wpList_unguard ?_ ?_); (focus rfl))
  refine Calls.mono (ref01_PutV 2 2 _ [n] _ w2 _ 1 1 rfl rfl (by omega) (by omega) rfl rfl (by simp) hnm.out) ?_
  rintro e w3 ⟨rfl, hb⟩
  have HB3 := hid (HB2.out.trans (hb.mono HB2.out.size))
  have HR3 := hid (HR2.out.below hb)
  clear hb c2 HB2 HR2
  have c3 := HR3.out.c3
  go_wp2_with ((with_reducible refine wpList_unguard ?_ ?_); (focus rfl))
  refine Calls.mono (ref01_PutV 6 6 _ [v] _ w3 _ 1 1 rfl rfl (by omega) (by omega) rfl rfl (by simp) hvm.out) ?_
  rintro e w4 ⟨rfl, hb⟩
  have HB4 := hid (HB3.out.trans (hb.mono HB3.out.size))
  clear hb c3 HB3 HR3
  have e1 : putL 1 [k, s] = putB 1 k ++ putB 1 s := by simp [putL]
  have e2 : putL 2 [n] = putB 2 n := by simp [putL]
  have e6 : putL 6 [v] = putB 6 v := by simp [putL]
  have hL : Hid (putB 1 k ++ putB 1 s ++ putB 2 n ++ putB 6 v ++ [0, 0] = recL k s n v) := by
    show _ = _; unfold recL; rfl
  have l1 : (ofB (putL 1 [k, s])).size = 2 := by rw [ofB_size, putL_length]; rfl
  have l2 : (ofB (putL 2 [n])).size = 2 := by rw [ofB_size, putL_length]; rfl
  have l6 : (ofB (putL 6 [v])).size = 6 := by rw [ofB_size, putL_length]; rfl
  have hx1 : (ofB (putL 1 [k, s])).size + (ofB (putL 2 [n])).size ≤ 9223372036854775807 := by omega
  have hx2 : (ofB (putL 1 [k, s]) ++ ofB (putL 2 [n])).size + (ofB (putL 6 [v])).size ≤ 9223372036854775807 := by rw [ByteArray.size_append]; omega
  have hx3 : (ofB (putL 1 [k, s]) ++ ofB (putL 2 [n]) ++ ofB (putL 6 [v])).size + (ofB [0, 0]).size ≤ 9223372036854775807 := by rw [ByteArray.size_append, ByteArray.size_append, ofB_size [0, 0]]; simp; omega
  have hA : Hid (ofB (putL 1 [k, s]) ++ ofB (putL 2 [n]) ++ ofB (putL 6 [v]) ++ ofB [0, 0] = ofB (recL k s n v)) := by
    show _ = _
    rw [ofB_append, ofB_append, ofB_append, e1, e2, e6, hL.out]
  clear e1 e2 e6 l1 l2 l6 hL
  generalize ofB (putL 1 [k, s]) = t1 at *
  generalize ofB (putL 2 [n]) = t2 at *
  generalize ofB (putL 6 [v]) = t6 at *
  have hcs : (convert 34 9 (.slice (some ⟨w4.heap.size, 0, none⟩) 2 2)).run Try.prog (w4.alloc (.cells #[.int .u8 0, .int .u8 0] 5)) =
      .ok (.string (ofB [0, 0])) (w4.alloc (.cells #[.int .u8 0, .int .u8 0] 5)) := conv_str (cellsB.new w4 [0, 0] _ _ rfl) 2 2 rfl
  go_wp2_with ((with_reducible refine wpList_unguard ?_ ?_); (focus rfl))
  rw [hA.out]
  clear hx1 hx2 hx3 hcs
  have hB5 := HB4.out.alloc HB4.out.size (.cells #[.int .u8 0, .int .u8 0] 5)
  have HB5 := hid hB5
  clear hB5 HB4
  generalize w4.alloc (.cells #[.int .u8 0, .int .u8 0] 5) = w5 at *
  refine Calls.mono (ref2_Sum _ w5 (by rw [ofB_size, recL_len]; omega)) ?_
  rintro e w6 ⟨rfl, rfl⟩
  rw [sb_ofB _ (recL_lt k s n v)]
  have hlt : csum (recL k s n v) < 4294967296 := csum_lt _ (recL_lt k s n v)
  have hsum : recSum (recL k s n v) = if csum (recL k s n v) = 4294967295 then 4294967294 else csum (recL k s n v) := by
    unfold recSum; split <;> omega
  have hP : recP k s n v = recL k s n v ++ putB 4 (recSum (recL k s n v)) := rfl
  have hl0 : (ofB (recL k s n v)).size = 12 := by rw [ofB_size, recL_len]
  rw [hsum] at hP
  have HP := hid hP
  clear hP hsum hA
  generalize csum (recL k s n v) = S at *
  generalize hrl : recL k s n v = L at *
  clear hrl
  by_cases hS : S = 4294967295
  · subst hS
    rw [if_pos rfl] at HP
    have hx4 : (ofB L).size + (ofB (putL 4 [4294967294])).size ≤ 9223372036854775807 := by rw [ofB_size (putL _ _), putL_length]; simp; omega
    go_wp2_with ((with_reducible refine wpList_unguard ?_ ?_); (focus rfl))
    refine Calls.mono (ref01_PutV 4 4 _ [4294967294] _ w5 _ 1 1 rfl rfl (by omega) (by omega) rfl rfl (by simp) (by simp)) ?_
    rintro e w6 ⟨rfl, hb⟩
    have HB6 := hid (HB5.out.trans (hb.mono HB5.out.size))
    clear hb
    go_wp2_with ((with_reducible refine wpList_unguard ?_ ?_); (focus rfl))
    go_ret
    refine ⟨?_, HB6.out⟩
    rw [HP.out, ← ofB_append]
    simp [putL]
  · rw [if_neg hS] at HP
    have hd : ((S : Int) == 4294967295) = false := by simp; omega
    have hx4 : (ofB L).size + (ofB (putL 4 [S])).size ≤ 9223372036854775807 := by rw [ofB_size (putL _ _), putL_length]; simp; omega
    go_wp2_with ((with_reducible refine wpList_unguard ?_ ?_); (focus rfl))
    refine Calls.mono (ref01_PutV 4 4 _ [S] _ w5 _ 1 1 rfl rfl (by omega) (by omega) rfl rfl (by simp) (by simp; omega)) ?_
    rintro e w6 ⟨rfl, hb⟩
    have HB6 := hid (HB5.out.trans (hb.mono HB5.out.size))
    clear hb
    go_wp2_with ((with_reducible refine wpList_unguard ?_ ?_); (focus rfl))
    go_ret
    refine ⟨?_, HB6.out⟩
    rw [HP.out, ← ofB_append]
    simp [putL]
end Go.Proofs.Ytiailpbmmadaeaa
