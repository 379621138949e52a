/-
  The reference of chapter 01 (Take): the numbers of a page.
-/
import Derived.Test.YtiailpbmmadaeaaPuts1
import Derived.Test.YtiailpbmmadaeaaTake2
namespace Go.Proofs.Ytiailpbmmadaeaa
open Go.RowKit Tri

theorem numB_drop (S : List Nat) (a m : Nat) (h : a + m < S.length) : numB ((S.drop a).take (m + 1)) = numB ((S.drop a).take m) * 256 + S.getD (a + m) 0 := by
  rw [take_snocN (S.drop a) m (by rw [List.length_drop]; omega), numB_snoc]
  congr 1
  rw [List.getD_eq_getElem?_getD, List.getD_eq_getElem?_getD, List.getElem?_drop]

set_option maxHeartbeats 4000000 in
set_option maxRecDepth 100000 in
theorem ref01_Take (s : ByteArray) (p : Option Addr) (n c : Nat) (L : List Nat) (w : World) (hn : n = L.length) (hp : cellsI w p L) (hs : sizesL L) (hl : L.length ≤ 1000) (hz : sumN L ≤ s.size) (hsz : s.size ≤ 1000000) :
    Calls Try.prog 54 #[.string s, .slice p n c] w fun e w' => ∃ v, e = .returned (.tuple #[v, .int .i64 0]) ∧ ownsI w' w.heap.size v (takeN (sb s) L L.length) ∧ Below w.heap.size w w' := by
  subst hn
  have HP := hid hp
  have HS := hid hs
  have HZ := hid hz
  clear hp hs hz
  obtain ⟨i0, hi, hz0, hz1, hz2⟩ := info_parts Try.infoI
  have hown0 : Hid (ownsI (w.alloc (.cells #[] 3)) w.heap.size (.slice (some ⟨w.heap.size, 0, none⟩) 0 0) []) := World.ownsRow_lit w #[] 0 (Nat.le_refl _) (by unfold maxLen; omega) rfl
  have hB0 : Hid (Below w.heap.size w (w.alloc (.cells #[] 3))) := (Below.refl _ _).alloc (Nat.le_refl _) _
  (go_enter Try.func54, Try.ntmps54; try simp only [List.append])
  go_wp2_with ((with_reducible refine wpList_unguard ?_ ?_); (focus rfl))
  go_loopw [7, 6] (fun i v wr => ∃ k : Nat, k ≤ L.length ∧ i = .int .i64 k ∧ v = .int .i64 (sumN (L.take k) : Nat) ∧ wr = w) (fun i _ _ => L.length - (intOf i).toNat)
  case atStart => exact ⟨0, Nat.zero_le _, rfl, rfl, rfl⟩
  case round =>
    obtain ⟨k, hk, rfl, rfl, rfl⟩ := hrel
    by_cases hlt : k < L.length
    · obtain ⟨a, o, rfl, hc⟩ := HP.out k hlt
      have hx := HS.out.at k hlt
      have hsum := hid (sumN_take L k hlt)
      have hle := sumN_take_le L k
      have hle2 : sumN (L.take k) ≤ 1000000 := by have := HZ.out; omega
      clear hle
      generalize sumN (L.take k) = s1 at *
      generalize L.getD k 0 = x at *
      have hx1 : decide ((x : Int) < 1) = false := decide_eq_false (by omega)
      have hx7 : decide ((7 : Int) < (x : Int)) = false := decide_eq_false (by omega)
      have hx7' : decide ((x : Int) > 7) = false := decide_eq_false (by omega)
      go_wp2_with ((with_reducible refine wpList_unguard ?_ ?_); (focus rfl))
      go_roundw
      case rel => exact ⟨k + 1, by omega, by go_num, by rw [hsum.out]; go_num, trivial⟩
      case measure => simp [intOf]; omega
    · have hpe : sumN (L.take k) = sumN L := by rw [List.take_of_length_le (by omega)]
      have hd : decide ((s.size : Int) < (sumN L : Nat)) = false := decide_eq_false (by have := HZ.out; omega)
      have hd2 : decide (s.size < sumN L) = false := decide_eq_false (by have := HZ.out; omega)
      rw [hpe]
      clear hpe
      go_wp2_with ((with_reducible refine wpList_unguard ?_ ?_); (focus rfl))
      clear hd hd2 hlt hk
      have hS0 : Hid (s.size = (sb s).length) := (sb_length s).symm
      generalize hw0 : wr.alloc (.cells #[] 3) = w1 at *
      clear hw0
      obtain ⟨wa, rfl⟩ : ∃ u : World, u = wr := ⟨_, rfl⟩
      go_loopw [10, 8, 9] (fun i v t wx => ∃ m : Nat, m ≤ L.length ∧ i = .int .i64 m ∧ ownsI wx wa.heap.size v (takeN (sb s) L m) ∧ t = .int .i64 (sumN (L.take m) : Nat) ∧ Below wa.heap.size wa wx) (fun i _ _ _ => L.length - (intOf i).toNat)
      case atStart => exact ⟨0, Nat.zero_le _, rfl, hown0.out, rfl, hB0.out⟩
      case round =>
        obtain ⟨m, hm, rfl, hO, rfl, hB⟩ := hrel
        have HO := hid hO
        have HB := hid hB
        clear hO hB hown0 hB0
        by_cases hlt : m < L.length
        · obtain ⟨a, o, rfl, hc0⟩ := HP.out m hlt
          have hc : wr.cell? ⟨a, o + m, none⟩ = some (.int .i64 (L.getD m 0 : Nat)) := by
            rw [HB.out.cell (p := ⟨a, o + m, none⟩) (block_lt_of_cell hc0)]; exact hc0
          clear hc0
          have hx := HS.out.at m hlt
          have hsum := hid (sumN_take L m hlt)
          have hle := sumN_take_le L (m + 1)
          have hsx : sumN (L.take m) + L.getD m 0 ≤ s.size := by have := HZ.out; have := hsum.out; omega
          have hN : Hid (takeN (sb s) L (m + 1) = takeN (sb s) L m ++ [numB (((sb s).drop (sumN (L.take m))).take (L.getD m 0))]) := takeN_succ (sb s) L m
          have hkl : (takeN (sb s) L m).length ≤ 1000000 := by rw [takeN_length]; omega
          clear hle
          generalize hN2 : takeN (sb s) L (m + 1) = N2 at *
          have HN2 := hid hN2
          clear hN2
          generalize takeN (sb s) L m = N1 at *
          generalize sumN (L.take m) = s1 at *
          generalize hxx : L.getD m 0 = x at *
          go_wp2_with ((with_reducible refine wpList_unguard ?_ ?_); (focus rfl))
          obtain ⟨wo, rfl⟩ : ∃ wo : World, wo = wr := ⟨_, rfl⟩
          go_loopw [12, 11, 9] (fun i v t wz => ∃ j : Nat, j ≤ x ∧ i = .int .i64 j ∧ v = .int .i64 (numB (((sb s).drop s1).take j) : Nat) ∧ t = .int .i64 ((s1 + j : Nat) : Int) ∧ wz = wo) (fun i _ _ _ => x - (intOf i).toNat)
          case atStart => exact ⟨0, Nat.zero_le _, rfl, rfl, rfl, rfl⟩
          case round =>
            obtain ⟨j, hj, rfl, rfl, rfl, rfl⟩ := hrel
            have hq1 := numB_lt ((sb s).drop s1) (fun y hy => sb_lt s y (List.mem_of_mem_drop hy)) j (by rw [List.length_drop, ← hS0.out]; omega)
            by_cases hjl : j < x
            · have hq : numB (((sb s).drop s1).take j) < 281474976710656 := by
                have h6 : 256 ^ j ≤ 256 ^ 6 := Nat.pow_le_pow_right (by omega) (by omega)
                have : 256 ^ 6 = 281474976710656 := by decide
                omega
              have hnx := hid (numB_drop (sb s) s1 j (by rw [← hS0.out]; omega))
              have hgt : s1 + j < s.size := by omega
              have hget : (sb s).getD (s1 + j) 0 < 256 := sb_lt s _ (getD_mem _ _ (by rw [← hS0.out]; exact hgt))
              have hg1 := str_byte s (s1 + j) hgt
              clear hq1
              generalize numB (((sb s).drop s1).take j) = q at *
              generalize (sb s).getD (s1 + j) 0 = y at *
              go_wp2_with ((with_reducible refine wpList_unguard ?_ ?_); (focus rfl))
              go_roundw
              case rel => exact ⟨j + 1, by omega, by go_num, by rw [hnx.out]; go_num, by go_num, trivial⟩
              case measure => simp [intOf]; omega
            · have hjx : j = x := by omega
              subst hjx
              have hN3 : Hid (N2 = N1 ++ [numB (((sb s).drop s1).take j)]) := hN
              generalize numB (((sb s).drop s1).take j) = q at *
              clear hq1 hjl hj
              go_wp2_with (first | ((with_reducible refine wpList_unguard ?_ ?_); (focus rfl)) | (at_builtin; refine wpList_push rfl _ _ 85 rfl wa.heap.size 3 i0 .i64 8 Try.underlying85 hi hz0 hz1 hz2 (by decide) _ N1 q HO.out rfl _ rfl rfl hkl HB.out.size ?_))
              intro v' w' hown' hbel
              have hO' : Hid (ownsI w' wa.heap.size v' N2) := by show ownsI _ _ _ _; rw [hN3.out]; exact hown'
              have hB' := hid (HB.out.trans hbel)
              clear hown' hbel
              go_wp2_with ((with_reducible refine wpList_unguard ?_ ?_); (focus rfl))
              go_roundw
              case rel => exact ⟨m + 1, by omega, by go_num, by rw [HN2.out]; exact hO'.out, by rw [hsum.out]; go_num, hB'.out⟩
              case measure => simp [intOf]; omega
        · have hkL : m = L.length := by omega
          subst hkL
          go_wp2_with ((with_reducible refine wpList_unguard ?_ ?_); (focus rfl))
          refine bodyPost_ret (v := .tuple #[_, .int .i64 0]) (by simp [results, Try.results54, go_sem]) rfl ⟨_, rfl, HO.out, HB.out⟩
end Go.Proofs.Ytiailpbmmadaeaa
