/-
  The document's polynomials (the reference): back to bytes, alike or not, sums.
-/
import Derived.Test.YtlipedigmokgbaaRef5a
namespace Tri
def raddL (a b : List Nat) : List Nat := (List.range (max a.length b.length)).map fun i => a.getD i 0 ^^^ b.getD i 0
def radd (a b : List Nat) : List Nat := cutR (raddL a b)
theorem cutR_bytes {l : List Nat} (h : bytesL l) : bytesL (cutR l) := fun x hx => h x (cutR_mem l x hx)
theorem rev_bytes {l : List Nat} (h : bytesL l) : bytesL l.reverse := fun x hx => h x (List.mem_reverse.1 hx)
theorem bytesL_getD {l : List Nat} (h : bytesL l) (k : Nat) : l.getD k 0 < 256 := by
  by_cases hk : k < l.length
  · rw [List.getD_eq_getElem?_getD, List.getElem?_eq_getElem hk]; exact h _ (List.getElem_mem hk)
  · rw [List.getD_eq_getElem?_getD, List.getElem?_eq_none (by omega)]; exact (by decide : (0 : Nat) < 256)
theorem raddL_bytes {a b : List Nat} (ha : bytesL a) (hb : bytesL b) : bytesL (raddL a b) := by
  intro x hx
  unfold raddL at hx
  obtain ⟨i, _, rfl⟩ := List.mem_map.1 hx
  exact xor_lt (bytesL_getD ha i) (bytesL_getD hb i)
theorem radd_bytes {a b : List Nat} (ha : bytesL a) (hb : bytesL b) : bytesL (radd a b) := cutR_bytes (raddL_bytes ha hb)
theorem raddL_length (a b : List Nat) : (raddL a b).length = max a.length b.length := by unfold raddL; simp
theorem radd_length (a b : List Nat) : (radd a b).length ≤ max a.length b.length := by
  have := cutR_length_le (raddL a b)
  rw [raddL_length] at this
  exact this
theorem raddL_take (a b : List Nat) (k : Nat) (h : k < max a.length b.length) : (raddL a b).take (k + 1) = (raddL a b).take k ++ [a.getD k 0 ^^^ b.getD k 0] := by
  rw [List.take_succ_eq_append_getElem (by rw [raddL_length]; exact h)]
  congr 2
  unfold raddL
  simp
end Tri
namespace Go.Proofs.Ytlipedigmokgbaa
open Go.RowKit Tri

set_option maxHeartbeats 1000000 in
set_option maxRecDepth 100000 in
theorem ref5_Bytes (p : Option Addr) (n c : Nat) (l0 : List Nat) (w : World) (hn : n = l0.length) (hnc : n ≤ c) (hp : cellsI w p l0) (hb : bytesL l0) (hl : l0.length ≤ 100000) :
    Calls Try.prog 54 #[.slice p n c] w (RetC w (rbytes l0)) := by
  subst hn
  have HP0 := hid hp
  have HP : Hid (cellsI w p (cutR l0)) := hp.cut
  have HB : Hid (bytesL (cutR l0)) := cutR_bytes hb
  clear hp hb
  obtain ⟨i0, hi, hz0, hz1, hz2⟩ := info_parts Try.infoB
  have hcl := cutR_length_le l0
  have HRB : Hid (rbytes l0 = (cutR l0).reverse) := rfl
  go_enter Try.func54, Try.ntmps54
  go_wp2_with ((with_reducible refine wpList_unguard ?_ ?_); (focus rfl))
  refine Calls.mono (ref5_Cut p _ c l0 w rfl hnc HP0.out (by omega)) ?_; rintro e w' ⟨rfl, rfl⟩
  generalize rbytes l0 = R at *
  generalize cutR l0 = l at *
  clear HP0
  have hown0 : Hid (ownsB (w.alloc (.cells #[] 5)) w.heap.size (.slice (some ⟨w.heap.size, 0, none⟩) 0 0) []) := World.ownsRow_lit w #[] 0 (Nat.le_refl _) (by unfold maxLen; omega) rfl
  have hB0 : Hid (Below w.heap.size w (w.alloc (.cells #[] 5))) := (Below.refl _ _).alloc (Nat.le_refl _) _
  have hwr : IntKind.i64.wrap ((l.length : Int) - 1) = (l.length : Int) - 1 := by rw [IntKind.wrap_i64]; omega
  go_wp2_with ((with_reducible refine wpList_unguard ?_ ?_); (focus rfl))
  go_loopw [3, 4] (fun s i wr => ∃ k : Nat, k ≤ l.length ∧ i = .int .i64 ((l.length : Int) - 1 - k) ∧ ownsB wr w.heap.size s (l.reverse.take k) ∧ Below w.heap.size w wr) (fun _ i _ => (intOf i + 1).toNat)
  case atStart => exact ⟨0, Nat.zero_le _, by simp [hwr], hown0.out, hB0.out⟩
  case round =>
    obtain ⟨k, hk, rfl, hO, hB⟩ := hrel
    have HO := hid hO
    have HB1 := hid hB
    clear hO hB hown0 hB0
    by_cases hlt : k < l.length
    · obtain ⟨j, hj⟩ : ∃ j, l.length = j + 1 + k := ⟨l.length - 1 - k, by omega⟩
      have hji : (l.length : Int) - 1 - (k : Int) = (j : Int) := by omega
      have hji2 : Hid ((l.length : Int) - 1 - ((k + 1 : Nat) : Int) = (j : Int) - 1) := by show _ = _; omega
      obtain ⟨a, o, rfl, hc0⟩ := HP.out j (by omega)
      have hc : wr.cell? ⟨a, o + j, none⟩ = some (.int .i64 (l.getD j 0 : Nat)) := by
        rw [HB1.out.cell (p := ⟨a, o + j, none⟩) (block_lt_of_cell hc0)]; exact hc0
      have hy := HB.out _ (getD_mem l j (by omega))
      have HS : Hid (l.reverse.take (k + 1) = l.reverse.take k ++ [l.getD j 0]) := rev_take_succ l j k hj
      have hkl : (l.reverse.take k).length ≤ 1000000 := by rw [List.length_take, List.length_reverse]; omega
      have hjl : j < l.length := by omega
      have HJ := hid hj
      clear hc0 hj
      rw [hji]
      generalize hs1 : l.reverse.take (k + 1) = S1 at *
      have HS1 := hid hs1
      clear hs1
      generalize l.getD j 0 = y at *
      generalize l.reverse.take k = S at *
      have hw1 : IntKind.u8.wrap (y : Int) = (y : Int) := by rw [IntKind.wrap_u8]; omega
      have hw2 : IntKind.i64.wrap ((j : Int) - 1) = (j : Int) - 1 := by rw [IntKind.wrap_i64]; omega
      go_wp2_with (at_builtin; refine wpList_push rfl _ _ 28 rfl w.heap.size 5 i0 .u8 1 Try.underlying28 hi hz0 hz1 hz2 (by decide) _ S y HO.out rfl _ rfl rfl hkl HB1.out.size ?_)
      intro v' w' hown' hbel
      have hO' : Hid (ownsB w' w.heap.size v' S1) := by show ownsB _ _ _ _; rw [HS.out]; exact hown'
      have hB' := hid (HB1.out.trans hbel)
      clear hown' hbel
      go_wp2_with ((with_reducible refine wpList_unguard ?_ ?_); (focus rfl))
      go_roundw
      case rel => exact ⟨k + 1, by omega, by rw [hji2.out], by rw [HS1.out]; exact hO'.out, hB'.out⟩
      case measure => simp [intOf] <;> omega
    · obtain rfl : k = l.length := by omega
      have hji : (l.length : Int) - 1 - (l.length : Int) = -1 := by omega
      rw [hji]
      rw [← List.length_reverse, List.take_length] at HO
      have HO' := hid (show ownsB wr w.heap.size _ R from by rw [HRB.out]; exact HO.out)
      clear HO HRB
      rcases HO'.out.buf with ⟨rfl, h0⟩ | ⟨g, cap, rfl, hg, hle, hbf⟩
      · have H0 := hid h0
        clear h0
        go_wp2_with ((with_reducible refine wpList_unguard ?_ ?_); (focus rfl))
        go_ret
        exact ⟨none, 0, by rw [H0.out]; rfl, by rw [H0.out]; exact Nat.le_refl _, by rw [H0.out]; exact cellsB.nil _ _, HB1.out⟩
      · have HBF := hid hbf
        clear hbf
        go_wp2_with ((with_reducible refine wpList_unguard ?_ ?_); (focus rfl))
        go_ret
        exact ⟨_, cap, rfl, hle, HBF.out.1, HB1.out⟩
set_option maxHeartbeats 1000000 in
set_option maxRecDepth 100000 in
theorem ref5_Same (p q : Option Addr) (n c m d : Nat) (x l : List Nat) (w : World) (hn : n = x.length) (hp : cellsB w p x) (hm : m = l.length) (hmd : m ≤ d) (hq : cellsI w q l) (hb : bytesL l) (hx : x.length ≤ 100000) (hl : l.length ≤ 100000) :
    Calls Try.prog 22 #[.slice p n c, .slice q m d] w fun e w' => e = .returned (.bool (decide (x = rbytes l))) ∧ Below w.heap.size w w' := by
  subst hn hm
  have HX := hid hp
  have HQ := hid hq
  have HB := hid hb
  clear hp hq hb
  go_enter Try.func22, Try.ntmps22
  go_wp2_with ((with_reducible refine wpList_unguard ?_ ?_); (focus rfl))
  refine Calls.mono (ref5_Bytes q _ d l w rfl hmd HQ.out HB.out hl) ?_
  rintro e w1 ⟨q1, d1, rfl, hle, hc1, hbel⟩
  have HY := hid hc1
  have HBel := hid hbel
  have HXX := hid (HX.out.below hbel)
  clear hc1 hbel HX
  generalize hy0 : rbytes l = y at *
  have HY0 := hid hy0
  clear hy0
  by_cases hlen : x.length = y.length
  · have hne : ((x.length : Int) != (y.length : Int)) = false := by rw [bne_eq_false_iff_eq]; omega
    go_wp2_with ((with_reducible refine wpList_unguard ?_ ?_); (focus rfl))
    go_loopw [6] (fun i wr => ∃ k : Nat, k ≤ x.length ∧ i = .int .i64 k ∧ x.take k = y.take k ∧ Below w1.heap.size w1 wr) (fun i _ => x.length - (intOf i).toNat)
    case atStart => exact ⟨0, Nat.zero_le _, rfl, rfl, Below.refl _ _⟩
    case round =>
      obtain ⟨k, hk, rfl, hT, hBw⟩ := hrel
      have HT := hid hT
      have HBw := hid hBw
      have HBel2 := hid (HBel.out.trans (hBw.mono HBel.out.size))
      clear hT hBw
      by_cases hlt : k < x.length
      · have hlt2 : k < y.length := by omega
        obtain ⟨a, o, rfl, hc⟩ := HXX.out.below HBw.out k hlt
        obtain ⟨a', o', rfl, hc'⟩ := HY.out.below HBw.out k hlt2
        have HS : Hid (x.getD k 0 = y.getD k 0 → x.take (k + 1) = y.take (k + 1)) := by
          show _ → _
          intro h
          rw [take_snocN x k hlt, take_snocN y k hlt2, HT.out, h]
        have HNe : Hid (x.getD k 0 ≠ y.getD k 0 → decide (x = y) = false) := by
          show _ → _
          intro h
          exact decide_eq_false (fun e => h (by rw [e]))
        generalize x.getD k 0 = u at *
        generalize y.getD k 0 = v at *
        by_cases huv : u = v
        · have HS' := hid (HS.out huv)
          subst huv
          go_wp2
          go_region
          go_wp2
          go_roundw
          case rel => exact ⟨k + 1, by omega, by go_num, HS'.out, HBw.out.drew⟩
          case measure => simp [intOf]; omega
        · have hd : ((u : Int) != (v : Int)) = true := by rw [bne_iff_ne]; omega
          have HF := hid (HNe.out huv)
          go_wp2
          go_region
          go_wp2
          go_ret
          exact ⟨by rw [HY0.out, HF.out]; rfl, HBel2.out.drew⟩
      · have HF : Hid (decide (x = y) = true) := by
          have h := HT.out
          rw [List.take_of_length_le (by omega), List.take_of_length_le (by omega)] at h
          exact decide_eq_true h
        go_wp2
        go_ret
        exact ⟨by rw [HY0.out, HF.out]; rfl, HBel2.out⟩
  · have hne : ((x.length : Int) != (y.length : Int)) = true := by rw [bne_iff_ne]; omega
    have HF : Hid (decide (x = y) = false) := decide_eq_false (fun e => hlen (by rw [e]))
    go_wp2_with ((with_reducible refine wpList_unguard ?_ ?_); (focus rfl))
    go_ret
    exact ⟨by rw [HY0.out, HF.out]; rfl, HBel.out⟩
set_option maxHeartbeats 1000000 in
set_option maxRecDepth 100000 in
theorem ref5_Add (p q : Option Addr) (n c m d : Nat) (x y : List Nat) (w : World) (hn : n = x.length) (hp : cellsI w p x) (hm : m = y.length) (hq : cellsI w q y) (hx : bytesL x) (hy : bytesL y) (hlx : x.length ≤ 100000) (hly : y.length ≤ 100000) :
    Calls Try.prog 19 #[.slice p n c, .slice q m d] w (RetI w (radd x y)) := by
  subst hn hm
  have HX := hid hp
  have HY := hid hq
  have HBX := hid hx
  have HBY := hid hy
  clear hp hq hx hy
  obtain ⟨i0, hi, hz0, hz1, hz2⟩ := info_parts Try.infoI
  have hLl := raddL_length x y
  have HT0 : Hid (∀ k, k < max x.length y.length → (raddL x y).take (k + 1) = (raddL x y).take k ++ [x.getD k 0 ^^^ y.getD k 0]) := raddL_take x y
  have HRA : Hid (radd x y = cutR (raddL x y)) := rfl
  generalize radd x y = R at *
  generalize raddL x y = L at *
  go_enter Try.func19, Try.ntmps19
  go_wp2_with ((with_reducible refine wpList_unguard ?_ ?_); (focus rfl))
  have hown0 : Hid (ownsI (w.alloc (.cells #[] 3)) w.heap.size (.slice (some ⟨w.heap.size, 0, none⟩) 0 0) []) := World.ownsRow_lit w #[] 0 (Nat.le_refl _) (by unfold maxLen; omega) rfl
  have hB0 : Hid (Below w.heap.size w (w.alloc (.cells #[] 3))) := (Below.refl _ _).alloc (Nat.le_refl _) _
  go_wp2_with ((with_reducible refine wpList_unguard ?_ ?_); (focus rfl))
  go_loopw [5, 6] (fun s i wr => ∃ k : Nat, k ≤ max x.length y.length ∧ i = .int .i64 k ∧ ownsI wr w.heap.size s (L.take k) ∧ Below w.heap.size w wr) (fun _ i _ => max x.length y.length - (intOf i).toNat)
  case atStart => exact ⟨0, Nat.zero_le _, rfl, hown0.out, hB0.out⟩
  case round =>
    obtain ⟨k, hk, rfl, hO, hB⟩ := hrel
    have HO := hid hO
    have HB1 := hid hB
    clear hO hB hown0 hB0
    by_cases hlt : k < max x.length y.length
    · have HS := hid (HT0.out k hlt)
      have hkl : (L.take k).length ≤ 1000000 := by rw [List.length_take]; omega
      have hxl := bytesL_getD HBX.out k
      have hyl := bytesL_getD HBY.out k
      have hxor := i64_xor_nat (x.getD k 0) (y.getD k 0) (by omega) (by omega)
      generalize hs1 : L.take (k + 1) = S1 at *
      have HS1 := hid hs1
      clear hs1
      generalize L.take k = S at *
      generalize hu0 : x.getD k 0 = u at *
      generalize hv0 : y.getD k 0 = v at *
      have HU := hid hu0
      have HV := hid hv0
      clear hu0 hv0
      generalize u ^^^ v = z at *
      by_cases hx1 : k < x.length
      · have ht1 : decide ((k : Int) < (x.length : Int)) = true := by simpa using hx1
        go_wp2_with ((with_reducible refine wpList_unguard ?_ ?_); (focus rfl))
        refine Calls.mono (ref5_at p _ c x k u wr HU.out rfl (HX.out.below HB1.out) (by omega)) ?_; rintro e w' ⟨rfl, rfl⟩
        go_wp2_with ((with_reducible refine wpList_unguard ?_ ?_); (focus rfl))
        refine Calls.mono (ref5_at q _ d y k v wr HV.out rfl (HY.out.below HB1.out) (by omega)) ?_; rintro e w' ⟨rfl, rfl⟩
        go_wp2_with (at_builtin; refine wpList_push rfl _ _ 27 rfl w.heap.size 3 i0 .i64 8 Try.underlying27 hi hz0 hz1 hz2 (by decide) _ S z HO.out rfl _ rfl rfl hkl HB1.out.size ?_)
        intro v' w' hown' hbel
        have hO' : Hid (ownsI w' w.heap.size v' S1) := by show ownsI _ _ _ _; rw [HS.out]; exact hown'
        have hB' := hid (HB1.out.trans hbel)
        clear hown' hbel
        go_wp2_with ((with_reducible refine wpList_unguard ?_ ?_); (focus rfl))
        go_roundw
        case rel => exact ⟨k + 1, by omega, by go_num, by rw [HS1.out]; exact hO'.out, hB'.out⟩
        case measure => simp [intOf]; omega
      · have ht1 : decide ((k : Int) < (x.length : Int)) = false := by simpa using hx1
        have ht2 : decide ((k : Int) < (y.length : Int)) = true := by simp; omega
        go_wp2_with ((with_reducible refine wpList_unguard ?_ ?_); (focus rfl))
        refine Calls.mono (ref5_at p _ c x k u wr HU.out rfl (HX.out.below HB1.out) (by omega)) ?_; rintro e w' ⟨rfl, rfl⟩
        go_wp2_with ((with_reducible refine wpList_unguard ?_ ?_); (focus rfl))
        refine Calls.mono (ref5_at q _ d y k v wr HV.out rfl (HY.out.below HB1.out) (by omega)) ?_; rintro e w' ⟨rfl, rfl⟩
        go_wp2_with (at_builtin; refine wpList_push rfl _ _ 27 rfl w.heap.size 3 i0 .i64 8 Try.underlying27 hi hz0 hz1 hz2 (by decide) _ S z HO.out rfl _ rfl rfl hkl HB1.out.size ?_)
        intro v' w' hown' hbel
        have hO' : Hid (ownsI w' w.heap.size v' S1) := by show ownsI _ _ _ _; rw [HS.out]; exact hown'
        have hB' := hid (HB1.out.trans hbel)
        clear hown' hbel
        go_wp2_with ((with_reducible refine wpList_unguard ?_ ?_); (focus rfl))
        go_roundw
        case rel => exact ⟨k + 1, by omega, by go_num, by rw [HS1.out]; exact hO'.out, hB'.out⟩
        case measure => simp [intOf]; omega
    · have hx1 : ¬ k < x.length := by omega
      have hy1 : ¬ k < y.length := by omega
      have ht1 : decide ((k : Int) < (x.length : Int)) = false := by simpa using hx1
      have ht2 : decide ((k : Int) < (y.length : Int)) = false := by simpa using hy1
      have hTk : Hid (L.take k = L) := by show _ = _; exact List.take_of_length_le (by omega)
      rw [hTk.out] at HO
      have HLl := hid hLl
      have hL2 : L.length ≤ 1000000 := by omega
      clear hLl
      obtain ⟨p', c', rfl, hle, hcr⟩ := HO.out.cells
      have HC := hid hcr
      clear hcr
      go_wp2_with ((with_reducible refine wpList_unguard ?_ ?_); (focus rfl))
      refine Calls.mono (ref5_Cut p' _ c' L wr rfl hle HC.out hL2) ?_; rintro e w' ⟨rfl, rfl⟩
      have hle2 := cutR_length_le L
      have HC2 := hid HC.out.cut
      rw [← HRA.out] at hle2 HC2 ⊢
      go_wp2_with ((with_reducible refine wpList_unguard ?_ ?_); (focus rfl))
      go_ret
      exact ⟨p', c', rfl, Nat.le_trans hle2 hle, HC2.out, HB1.out⟩
end Go.Proofs.Ytlipedigmokgbaa
