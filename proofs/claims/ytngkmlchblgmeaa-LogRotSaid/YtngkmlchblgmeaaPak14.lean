/-
  The reference of chapter 01 (Take): the numbers of a page.
  record.Version in the program.
  The document's example of records holds in the program; RecordVersions, walked.
  The reference of chapter 14 (Right), with what stands above it.
  The reference of chapter 14 (Get): any text.
-/
import Derived.Test.YtngkmlchblgmeaaPak13
import Derived.Test.YtngkmlchblgmeaaPak5
import Derived.Test.YtngkmlchblgmeaaPak6
namespace Go.Proofs.Ytngkmlchblgmeaa
open Go.RowKit Tri

theorem numB_drop (S : List Nat) (a m : Nat) (h : a + m < S.length) : numB ((S.drop a).take (m + 1)) = numB ((S.drop a).take m) * 256 + S.getD (a + m) 0 := by
  rw [take_snocN (S.drop a) m (by rw [List.length_drop]; omega), numB_snoc]
  congr 1
  rw [List.getD_eq_getElem?_getD, List.getD_eq_getElem?_getD, List.getElem?_drop]

set_option maxHeartbeats 4000000 in
set_option maxRecDepth 100000 in
theorem ref01_Take (s : ByteArray) (p : Option Addr) (n c : Nat) (L : List Nat) (w : World) (hn : n = L.length) (hp : cellsI w p L) (hs : sizesL L) (hl : L.length ≤ 1000) (hz : sumN L ≤ s.size) (hsz : s.size ≤ 1000000) :
    Calls Try.prog 60 #[.string s, .slice p n c] w fun e w' => ∃ v, e = .returned (.tuple #[v, .int .i64 0]) ∧ ownsI w' w.heap.size v (takeN (sb s) L L.length) ∧ Below w.heap.size w w' := by
  subst hn
  have HP := hid hp
  have HS := hid hs
  have HZ := hid hz
  clear hp hs hz
  obtain ⟨i0, hi, hz0, hz1, hz2⟩ := info_parts Try.infoI
  have hown0 : Hid (ownsI (w.alloc (.cells #[] 3)) w.heap.size (.slice (some ⟨w.heap.size, 0, none⟩) 0 0) []) := World.ownsRow_lit w #[] 0 (Nat.le_refl _) (by unfold maxLen; omega) rfl
  have hB0 : Hid (Below w.heap.size w (w.alloc (.cells #[] 3))) := (Below.refl _ _).alloc (Nat.le_refl _) _
  (go_enter Try.func60, Try.ntmps60; try simp only [List.append])
  go_wp2_with ((with_reducible refine wpList_unguard ?_ ?_); (focus rfl))
  go_loopw [7, 6] (fun i v wr => ∃ k : Nat, k ≤ L.length ∧ i = .int .i64 k ∧ v = .int .i64 (sumN (L.take k) : Nat) ∧ wr = w) (fun i _ _ => L.length - (intOf i).toNat)
  case atStart => exact ⟨0, Nat.zero_le _, rfl, rfl, rfl⟩
  case round =>
    obtain ⟨k, hk, rfl, rfl, rfl⟩ := hrel
    by_cases hlt : k < L.length
    · obtain ⟨a, o, rfl, hc⟩ := HP.out k hlt
      have hx := HS.out.at k hlt
      have hsum := hid (sumN_take L k hlt)
      have hle := sumN_take_le L k
      have hle2 : sumN (L.take k) ≤ 1000000 := by have := HZ.out; omega
      clear hle
      generalize sumN (L.take k) = s1 at *
      generalize L.getD k 0 = x at *
      have hx1 : decide ((x : Int) < 1) = false := decide_eq_false (by omega)
      have hx7 : decide ((7 : Int) < (x : Int)) = false := decide_eq_false (by omega)
      have hx7' : decide ((x : Int) > 7) = false := decide_eq_false (by omega)
      go_wp2_with ((with_reducible refine wpList_unguard ?_ ?_); (focus rfl))
      go_roundw
      case rel => exact ⟨k + 1, by omega, by go_num, by rw [hsum.out]; go_num, trivial⟩
      case measure => simp [intOf]; omega
    · have hpe : sumN (L.take k) = sumN L := by rw [List.take_of_length_le (by omega)]
      have hd : decide ((s.size : Int) < (sumN L : Nat)) = false := decide_eq_false (by have := HZ.out; omega)
      have hd2 : decide (s.size < sumN L) = false := decide_eq_false (by have := HZ.out; omega)
      rw [hpe]
      clear hpe
      go_wp2_with ((with_reducible refine wpList_unguard ?_ ?_); (focus rfl))
      clear hd hd2 hlt hk
      have hS0 : Hid (s.size = (sb s).length) := (sb_length s).symm
      generalize hw0 : wr.alloc (.cells #[] 3) = w1 at *
      clear hw0
      obtain ⟨wa, rfl⟩ : ∃ u : World, u = wr := ⟨_, rfl⟩
      go_loopw [10, 8, 9] (fun i v t wx => ∃ m : Nat, m ≤ L.length ∧ i = .int .i64 m ∧ ownsI wx wa.heap.size v (takeN (sb s) L m) ∧ t = .int .i64 (sumN (L.take m) : Nat) ∧ Below wa.heap.size wa wx) (fun i _ _ _ => L.length - (intOf i).toNat)
      case atStart => exact ⟨0, Nat.zero_le _, rfl, hown0.out, rfl, hB0.out⟩
      case round =>
        obtain ⟨m, hm, rfl, hO, rfl, hB⟩ := hrel
        have HO := hid hO
        have HB := hid hB
        clear hO hB hown0 hB0
        by_cases hlt : m < L.length
        · obtain ⟨a, o, rfl, hc0⟩ := HP.out m hlt
          have hc : wr.cell? ⟨a, o + m, none⟩ = some (.int .i64 (L.getD m 0 : Nat)) := by
            rw [HB.out.cell (p := ⟨a, o + m, none⟩) (block_lt_of_cell hc0)]; exact hc0
          clear hc0
          have hx := HS.out.at m hlt
          have hsum := hid (sumN_take L m hlt)
          have hle := sumN_take_le L (m + 1)
          have hsx : sumN (L.take m) + L.getD m 0 ≤ s.size := by have := HZ.out; have := hsum.out; omega
          have hN : Hid (takeN (sb s) L (m + 1) = takeN (sb s) L m ++ [numB (((sb s).drop (sumN (L.take m))).take (L.getD m 0))]) := takeN_succ (sb s) L m
          have hkl : (takeN (sb s) L m).length ≤ 1000000 := by rw [takeN_length]; omega
          clear hle
          generalize hN2 : takeN (sb s) L (m + 1) = N2 at *
          have HN2 := hid hN2
          clear hN2
          generalize takeN (sb s) L m = N1 at *
          generalize sumN (L.take m) = s1 at *
          generalize hxx : L.getD m 0 = x at *
          go_wp2_with ((with_reducible refine wpList_unguard ?_ ?_); (focus rfl))
          obtain ⟨wo, rfl⟩ : ∃ wo : World, wo = wr := ⟨_, rfl⟩
          go_loopw [12, 11, 9] (fun i v t wz => ∃ j : Nat, j ≤ x ∧ i = .int .i64 j ∧ v = .int .i64 (numB (((sb s).drop s1).take j) : Nat) ∧ t = .int .i64 ((s1 + j : Nat) : Int) ∧ wz = wo) (fun i _ _ _ => x - (intOf i).toNat)
          case atStart => exact ⟨0, Nat.zero_le _, rfl, rfl, rfl, rfl⟩
          case round =>
            obtain ⟨j, hj, rfl, rfl, rfl, rfl⟩ := hrel
            have hq1 := numB_lt ((sb s).drop s1) (fun y hy => sb_lt s y (List.mem_of_mem_drop hy)) j (by rw [List.length_drop, ← hS0.out]; omega)
            by_cases hjl : j < x
            · have hq : numB (((sb s).drop s1).take j) < 281474976710656 := by
                have h6 : 256 ^ j ≤ 256 ^ 6 := Nat.pow_le_pow_right (by omega) (by omega)
                have : 256 ^ 6 = 281474976710656 := by decide
                omega
              have hnx := hid (numB_drop (sb s) s1 j (by rw [← hS0.out]; omega))
              have hgt : s1 + j < s.size := by omega
              have hget : (sb s).getD (s1 + j) 0 < 256 := sb_lt s _ (getD_mem _ _ (by rw [← hS0.out]; exact hgt))
              have hg1 := str_byte s (s1 + j) hgt
              clear hq1
              generalize numB (((sb s).drop s1).take j) = q at *
              generalize (sb s).getD (s1 + j) 0 = y at *
              go_wp2_with ((with_reducible refine wpList_unguard ?_ ?_); (focus rfl))
              go_roundw
              case rel => exact ⟨j + 1, by omega, by go_num, by rw [hnx.out]; go_num, by go_num, trivial⟩
              case measure => simp [intOf]; omega
            · have hjx : j = x := by omega
              subst hjx
              have hN3 : Hid (N2 = N1 ++ [numB (((sb s).drop s1).take j)]) := hN
              generalize numB (((sb s).drop s1).take j) = q at *
              clear hq1 hjl hj
              go_wp2_with (first | ((with_reducible refine wpList_unguard ?_ ?_); (focus rfl)) | (at_builtin; refine wpList_push rfl _ _ 84 rfl wa.heap.size 3 i0 .i64 8 Try.underlying84 hi hz0 hz1 hz2 (by decide) _ N1 q HO.out rfl _ rfl rfl hkl HB.out.size ?_))
              intro v' w' hown' hbel
              have hO' : Hid (ownsI w' wa.heap.size v' N2) := by show ownsI _ _ _ _; rw [hN3.out]; exact hown'
              have hB' := hid (HB.out.trans hbel)
              clear hown' hbel
              go_wp2_with ((with_reducible refine wpList_unguard ?_ ?_); (focus rfl))
              go_roundw
              case rel => exact ⟨m + 1, by omega, by go_num, by rw [HN2.out]; exact hO'.out, by rw [hsum.out]; go_num, hB'.out⟩
              case measure => simp [intOf]; omega
        · have hkL : m = L.length := by omega
          subst hkL
          go_wp2_with ((with_reducible refine wpList_unguard ?_ ?_); (focus rfl))
          refine bodyPost_ret (v := .tuple #[_, .int .i64 0]) (by simp [results, Try.results60, go_sem]) rfl ⟨_, rfl, HO.out, HB.out⟩
end Go.Proofs.Ytngkmlchblgmeaa

namespace Go.Proofs.Ytngkmlchblgmeaa
open Go.RowKit Tri

end Go.Proofs.Ytngkmlchblgmeaa

namespace Go.Proofs.Ytngkmlchblgmeaa
open Go.RowKit Tri

def vRight (k : Nat) (a b c : Int) : Bool := match k with
  | 0 => true
  | 1 => vOk a
  | 2 => vOk a && vOk b
  | _ => verOk a b c
theorem verN_lt (a b c : Int) : verN a b c < 281474976710656 := by
  unfold verN
  split
  · rename_i h
    unfold verOk at h
    simp only [Bool.and_eq_true, vOk_iff] at h
    unfold numV
    omega
  · omega
theorem verOk_range {a b c : Int} (h : verOk a b c = true) : 0 ≤ a ∧ a ≤ 65535 ∧ 0 ≤ b ∧ b ≤ 65535 ∧ 0 ≤ c ∧ c ≤ 65535 := by
  unfold verOk at h
  simp only [Bool.and_eq_true, vOk_iff] at h
  omega
theorem verN_back (n : Nat) (h : n < 281474976710656) : verN (n / 4294967296 : Nat) (n / 65536 % 65536 : Nat) (n % 65536 : Nat) = n ∧ verOk (n / 4294967296 : Nat) (n / 65536 % 65536 : Nat) (n % 65536 : Nat) = true := by
  have ho : verOk (n / 4294967296 : Nat) (n / 65536 % 65536 : Nat) (n % 65536 : Nat) = true := by
    unfold verOk
    simp only [Bool.and_eq_true, vOk_iff]
    omega
  refine ⟨?_, ho⟩
  unfold verN
  rw [ho]
  unfold numV
  simp only [if_true, Int.toNat_natCast]
  omega
end Go.Proofs.Ytngkmlchblgmeaa



namespace Go.Proofs.Ytngkmlchblgmeaa
open Go.RowKit Tri

theorem getOk_len {S : List Nat} (h : S.length ≠ 16) : getOk S = false := by
  unfold getOk
  rw [show decide (recP (pgK S) (pgS S) (pgN S) (pgV S) = S) = false from decide_eq_false (fun h' => h (by rw [← h', recP_len])), Bool.and_false]
theorem E4.sets {w : World} {B : Nat} {a b c d : Int} (h : E4 w B a b c d) (k s n v : Int) :
    E4 ((((w.setCell ⟨B, 0, none⟩ (.int .i64 k)).setCell ⟨B, 1, none⟩ (.int .i64 s)).setCell ⟨B, 2, none⟩ (.int .i64 n)).setCell ⟨B, 3, none⟩ (.int .i64 v)) B k s n v := by
  have h0 := heap_setCell_same w B 0 _ _ (.int .i64 k) h
  have h1 := heap_setCell_same _ B 1 _ _ (.int .i64 s) h0
  have h2 := heap_setCell_same _ B 2 _ _ (.int .i64 n) h1
  have h3 := heap_setCell_same _ B 3 _ _ (.int .i64 v) h2
  unfold E4
  simpa using h3
set_option maxHeartbeats 4000000 in
set_option maxRecDepth 100000 in
theorem ref14_Get (page : ByteArray) (w : World) (hsz : page.size ≤ 1000000) :
    Calls Try.prog 31 #[.string page] w fun e w' => getRet (sb page) e ∧ Below w.heap.size w w' := by
  have hR0 : E4 (w.alloc (.cells #[.int .i64 0, .int .i64 0, .int .i64 0, .int .i64 0] 69)) w.heap.size 0 0 0 0 := heap_alloc_new w _
  have hB0 : Below w.heap.size w (w.alloc (.cells #[.int .i64 0, .int .i64 0, .int .i64 0, .int .i64 0] 69)) := (Below.refl _ _).alloc (Nat.le_refl _) _
  have hs0 : (w.alloc (.cells #[.int .i64 0, .int .i64 0, .int .i64 0, .int .i64 0] 69)).heap.size = w.heap.size + 1 := by simp
  obtain ⟨z, hz⟩ : ∃ z, ((page.size : Int) == 16) = z := ⟨_, rfl⟩
  have HS := hid hsz
  clear hsz
  cases z with
  | false =>
    obtain ⟨w1, hw1⟩ : ∃ u, w.alloc (.cells #[.int .i64 0, .int .i64 0, .int .i64 0, .int .i64 0] 69) = u := ⟨_, rfl⟩
    rw [hw1] at hR0 hB0 hs0
    obtain ⟨B, hBw⟩ : ∃ B, w.heap.size = B := ⟨_, rfl⟩
    rw [hBw] at hR0 hs0 hB0 ⊢
    (go_enter Try.func31, Try.ntmps31; try simp only [List.append])
    have hG : getOk (sb page) = false := getOk_len (by rw [sb_length]; simp at hz; omega)
    have HG := hid hG
    have HB0 := hid hB0
    have HR0 := hid hR0
    clear hG hB0 hR0
    have b0 := HR0.out.c0; have z0 := HR0.out.free 0
    have b1 := HR0.out.c1; have z1 := HR0.out.free 1
    have b2 := HR0.out.c2; have z2 := HR0.out.free 2
    have b3 := HR0.out.c3; have z3 := HR0.out.free 3
    go_wp2_with ((with_reducible refine wpList_unguard ?_ ?_); (focus rfl))
    have hF := HR0.out.sets 0 0 0 0
    have x0 := hF.c0; have x1 := hF.c1; have x2 := hF.c2; have x3 := hF.c3
    refine bodyPost_ret (v := .tuple #[.agg #[.int .i64 0, .int .i64 0, .int .i64 0, .int .i64 0], .bool false]) (by simp [results, Try.results31, go_sem, x0, x1, x2, x3]) rfl ⟨?_, ?_⟩
    · unfold getRet; rw [if_neg (by rw [HG.out]; decide)]
    · exact ((((HB0.out.setCell (show B ≤ (⟨B, 0, none⟩ : Addr).block from Nat.le_refl _) _).setCell (show B ≤ (⟨B, 1, none⟩ : Addr).block from Nat.le_refl _) _).setCell (show B ≤ (⟨B, 2, none⟩ : Addr).block from Nat.le_refl _) _).setCell (show B ≤ (⟨B, 3, none⟩ : Addr).block from Nat.le_refl _) _)
  | true =>
    have h16 : page.size = 16 := by simp at hz; omega
    (go_enter Try.func31, Try.ntmps31; try simp only [List.append])
    go_wp2_with ((with_reducible refine wpList_unguard ?_ ?_); (focus rfl))
    generalize w.alloc (.cells #[.int .i64 0, .int .i64 0, .int .i64 0, .int .i64 0] 69) = w1 at *
    generalize hBw : w.heap.size = B at *
    rw [← hs0]
    have HR1 := hid hR0
    have HB1 := hid hB0
    clear hR0 hB0
    have hL := cellsI.new w1 [1, 1, 2, 6] #[.int .i64 1, .int .i64 1, .int .i64 2, .int .i64 6] 3 rfl
    have hb1 : Below w1.heap.size w1 (w1.alloc (.cells #[.int .i64 1, .int .i64 1, .int .i64 2, .int .i64 6] 3)) := (Below.refl _ _).alloc (Nat.le_refl _) _
    have hBs : B ≤ w1.heap.size := by omega
    have HR2 := hid (HR1.out.below hb1)
    have HB2 := hid (HB1.out.trans (hb1.mono hBs))
    have hBs2 : B ≤ w1.heap.size + 1 := by omega
    clear hb1 HR1 HB1
    have hw2s : (w1.alloc (.cells #[.int .i64 1, .int .i64 1, .int .i64 2, .int .i64 6] 3)).heap.size = w1.heap.size + 1 := by simp
    generalize w1.alloc (.cells #[.int .i64 1, .int .i64 1, .int .i64 2, .int .i64 6] 3) = w2 at *
    have hT := ref01_Take page (some ⟨w1.heap.size, 0, none⟩) 4 4 [1, 1, 2, 6] w2 rfl hL (by intro x hx; simp at hx; omega) (by simp) (by simp [sumN]; omega) HS.out
    rw [show [1, 1, 2, 6].length = 4 from rfl, takeN_pg] at hT
    clear hL
    refine Calls.mono hT ?_
    rintro e w3 ⟨v, rfl, hO, hb⟩
    have HR3 := hid (HR2.out.below hb)
    have HB3 := hid (HB2.out.trans (hb.mono (by omega)))
    have hBs3 : B ≤ w3.heap.size := by have := HB3.out.size; omega
    clear hT HR2 HB2 hb
    obtain ⟨q, cap, rfl, hcap, hcl⟩ := hO.cells
    obtain ⟨a0, o0, rfl, d0⟩ := hcl 0 (by simp)
    obtain ⟨a1, o1, e1, d1⟩ := hcl 1 (by simp)
    obtain ⟨a2, o2, e2, d2⟩ := hcl 2 (by simp)
    obtain ⟨a3, o3, e3, d3⟩ := hcl 3 (by simp)
    simp only [Option.some.injEq, Addr.mk.injEq, and_true] at e1 e2 e3
    obtain ⟨rfl, rfl⟩ := e1
    obtain ⟨rfl, rfl⟩ := e2
    obtain ⟨rfl, rfl⟩ := e3
    simp only [List.getD_cons_zero, List.getD_cons_succ, Nat.add_zero, List.length_cons, List.length_nil, Nat.zero_add] at d0 d1 d2 d3 hcap ⊢
    have hlen4 : Hid (4 ≤ cap) := hcap
    clear hO hcl hcap
    have HG : Hid (getOk (sb page) = (recOk (pgK (sb page)) (pgS (sb page)) (pgN (sb page)) (pgV (sb page)) && decide (recP (pgK (sb page)) (pgS (sb page)) (pgN (sb page)) (pgV (sb page)) = sb page))) := rfl
    generalize hGG : getOk (sb page) = G at *
    have HGG := hid hGG
    clear hGG
    generalize hHKk : pgK (sb page) = k at *
    have HKk := hid hHKk
    clear hHKk
    generalize hHKs : pgS (sb page) = sl at *
    have HKs := hid hHKs
    clear hHKs
    generalize hHKn : pgN (sb page) = no at *
    have HKn := hid hHKn
    clear hHKn
    generalize hHKv : pgV (sb page) = va at *
    have HKv := hid hHKv
    clear hHKv
    go_wp2_with ((with_reducible refine wpList_unguard ?_ ?_); (focus rfl))
    have g0 : (w3.alloc (.cells #[.int .i64 0, .int .i64 0, .int .i64 0, .int .i64 0] 69)).cell? ⟨a0, o0, none⟩ = some (.int .i64 k) := by rw [World.cell?_alloc_lt _ _ _ (block_lt_of_cell d0)]; exact d0
    have g1 : (w3.alloc (.cells #[.int .i64 0, .int .i64 0, .int .i64 0, .int .i64 0] 69)).cell? ⟨a0, o0 + 1, none⟩ = some (.int .i64 sl) := by rw [World.cell?_alloc_lt _ _ _ (block_lt_of_cell d1)]; exact d1
    have g2 : (w3.alloc (.cells #[.int .i64 0, .int .i64 0, .int .i64 0, .int .i64 0] 69)).cell? ⟨a0, o0 + 2, none⟩ = some (.int .i64 no) := by rw [World.cell?_alloc_lt _ _ _ (block_lt_of_cell d2)]; exact d2
    have g3 : (w3.alloc (.cells #[.int .i64 0, .int .i64 0, .int .i64 0, .int .i64 0] 69)).cell? ⟨a0, o0 + 3, none⟩ = some (.int .i64 va) := by rw [World.cell?_alloc_lt _ _ _ (block_lt_of_cell d3)]; exact d3
    go_region
    clear g0 g1 g2 g3 d0 d1 d2 d3
    have hb4 : Below w3.heap.size w3 (w3.alloc (.cells #[.int .i64 k, .int .i64 sl, .int .i64 no, .int .i64 va] 69)).drew := ((Below.refl _ _).alloc (Nat.le_refl _) _).drew
    have HR4 := hid (HR3.out.below hb4)
    have HB4 := hid (HB3.out.trans (hb4.mono hBs3))
    have hM4 : Hid (E4 (w3.alloc (.cells #[.int .i64 k, .int .i64 sl, .int .i64 no, .int .i64 va] 69)).drew w3.heap.size k sl no va) := heap_alloc_new w3 _
    clear hb4 HR3 HB3
    generalize hw4 : (w3.alloc (.cells #[.int .i64 k, .int .i64 sl, .int .i64 no, .int .i64 va] 69)).drew = w4 at *
    clear hw4
    generalize w3.heap.size = D at *
    have hD4 := hM4.out.lt
    have m0 := hM4.out.c0; have m1 := hM4.out.c1; have m2 := hM4.out.c2; have m3 := hM4.out.c3
    go_wp2_with ((with_reducible refine wpList_unguard ?_ ?_); (focus rfl))
    clear m0 m1 m2 m3
    refine Calls.mono (ref14_Right k sl no va w4) ?_
    rintro e w5 ⟨rfl, hb5⟩
    have HR5 := hid (HR4.out.below hb5)
    have HB5 := hid (HB4.out.trans (hb5.mono (by omega)))
    have hM5 := hid (hM4.out.below hb5)
    have hBs5 : B ≤ w5.heap.size := by have := HB5.out.size; omega
    clear hb5 HR4 HB4 hM4 hD4
    have m0 := hM5.out.c0; have m1 := hM5.out.c1; have m2 := hM5.out.c2; have m3 := hM5.out.c3
    obtain ⟨R, hR⟩ : ∃ R, recOk (k : Int) sl no va = R := ⟨_, rfl⟩
    rw [hR]
    have HRR := hid hR
    cases R with
    | true =>
      have hr := hid (recOk_iff.1 hR)
      clear hR
      go_wp2_with ((with_reducible refine wpList_unguard ?_ ?_); (focus rfl))
      clear m0 m1 m2 m3
      refine Calls.mono (ref14_Put k sl no va w5 hr.out.1 hr.out.2.1 hr.out.2.2.1 hr.out.2.2.2) ?_
      rintro e w6 ⟨rfl, hb6⟩
      have HR6 := hid (HR5.out.below hb6)
      have HB6 := hid (HB5.out.trans (hb6.mono hBs5))
      have hM6 := hid (hM5.out.below hb6)
      clear hb6 HR5 HB5 hM5
      have hPl := recP_lt k sl no va
      have hcmp : ((ofB (recP k sl no va)).toList == page.toList) = decide (recP k sl no va = sb page) := by rw [str_beq, sb_ofB _ hPl]
      by_cases hpg : recP k sl no va = sb page
      · have hG : Hid (G = true) := by show _ = _; rw [HG.out, HRR.out, decide_eq_true hpg]; rfl
        rw [decide_eq_true hpg] at hcmp
        clear hPl hpg HG
        generalize ofB (recP k sl no va) = P at *
        have m0 := hM6.out.c0; have m1 := hM6.out.c1; have m2 := hM6.out.c2; have m3 := hM6.out.c3
        have b0 := HR6.out.c0; have z0 := HR6.out.free 0
        have b1 := HR6.out.c1; have z1 := HR6.out.free 1
        have b2 := HR6.out.c2; have z2 := HR6.out.free 2
        have b3 := HR6.out.c3; have z3 := HR6.out.free 3
        go_wp2_with ((with_reducible refine wpList_unguard ?_ ?_); (focus rfl))
        have hF := HR6.out.sets k sl no va
        have x0 := hF.c0; have x1 := hF.c1; have x2 := hF.c2; have x3 := hF.c3
        refine bodyPost_ret (v := .tuple #[.agg #[.int .i64 k, .int .i64 sl, .int .i64 no, .int .i64 va], .bool true]) (by simp [results, Try.results31, go_sem, x0, x1, x2, x3]) rfl ⟨?_, ?_⟩
        · unfold getRet; rw [if_pos (HGG.out.trans hG.out), HKk.out, HKs.out, HKn.out, HKv.out]
        · rw [hBw]; exact ((((HB6.out.setCell (show B ≤ (⟨B, 0, none⟩ : Addr).block from Nat.le_refl _) _).setCell (show B ≤ (⟨B, 1, none⟩ : Addr).block from Nat.le_refl _) _).setCell (show B ≤ (⟨B, 2, none⟩ : Addr).block from Nat.le_refl _) _).setCell (show B ≤ (⟨B, 3, none⟩ : Addr).block from Nat.le_refl _) _)
      · have hG : Hid (G = false) := by show _ = _; rw [HG.out, HRR.out, decide_eq_false hpg]; rfl
        rw [decide_eq_false hpg] at hcmp
        clear hPl hpg HG hM6
        generalize ofB (recP k sl no va) = P at *
        have b0 := HR6.out.c0; have z0 := HR6.out.free 0
        have b1 := HR6.out.c1; have z1 := HR6.out.free 1
        have b2 := HR6.out.c2; have z2 := HR6.out.free 2
        have b3 := HR6.out.c3; have z3 := HR6.out.free 3
        go_wp2_with ((with_reducible refine wpList_unguard ?_ ?_); (focus rfl))
        have hF := HR6.out.sets 0 0 0 0
        have x0 := hF.c0; have x1 := hF.c1; have x2 := hF.c2; have x3 := hF.c3
        refine bodyPost_ret (v := .tuple #[.agg #[.int .i64 0, .int .i64 0, .int .i64 0, .int .i64 0], .bool false]) (by simp [results, Try.results31, go_sem, x0, x1, x2, x3]) rfl ⟨?_, ?_⟩
        · unfold getRet; rw [if_neg (by rw [HGG.out, hG.out]; decide)]
        · rw [hBw]; exact ((((HB6.out.setCell (show B ≤ (⟨B, 0, none⟩ : Addr).block from Nat.le_refl _) _).setCell (show B ≤ (⟨B, 1, none⟩ : Addr).block from Nat.le_refl _) _).setCell (show B ≤ (⟨B, 2, none⟩ : Addr).block from Nat.le_refl _) _).setCell (show B ≤ (⟨B, 3, none⟩ : Addr).block from Nat.le_refl _) _)
    | false =>
      have hG : Hid (G = false) := by show _ = _; rw [HG.out, HRR.out]; rfl
      clear hR HG hM5 m0 m1 m2 m3
      have b0 := HR5.out.c0; have z0 := HR5.out.free 0
      have b1 := HR5.out.c1; have z1 := HR5.out.free 1
      have b2 := HR5.out.c2; have z2 := HR5.out.free 2
      have b3 := HR5.out.c3; have z3 := HR5.out.free 3
      go_wp2_with ((with_reducible refine wpList_unguard ?_ ?_); (focus rfl))
      have hF := HR5.out.sets 0 0 0 0
      have x0 := hF.c0; have x1 := hF.c1; have x2 := hF.c2; have x3 := hF.c3
      refine bodyPost_ret (v := .tuple #[.agg #[.int .i64 0, .int .i64 0, .int .i64 0, .int .i64 0], .bool false]) (by simp [results, Try.results31, go_sem, x0, x1, x2, x3]) rfl ⟨?_, ?_⟩
      · unfold getRet; rw [if_neg (by rw [HGG.out, hG.out]; decide)]
      · rw [hBw]; exact ((((HB5.out.setCell (show B ≤ (⟨B, 0, none⟩ : Addr).block from Nat.le_refl _) _).setCell (show B ≤ (⟨B, 1, none⟩ : Addr).block from Nat.le_refl _) _).setCell (show B ≤ (⟨B, 2, none⟩ : Addr).block from Nat.le_refl _) _).setCell (show B ≤ (⟨B, 3, none⟩ : Addr).block from Nat.le_refl _) _)
end Go.Proofs.Ytngkmlchblgmeaa
