/-
  Clone of any row, Reverse; high, value, scaled of the solver.
  gap of the solver.
  The polynomial of some roots in the program. Conditions: at most 10000 roots.
  Slices of ints (each a whole number from 0 on) in memory: read, made by the call itself, written in place; and noughts cut off the end.
  append of one number onto a row that the call owns.
  derived, unlikes, places of the solver.
  A slice's ints (of either sign), as they lie in memory.
  Rows of whole numbers (ints of either sign): slices.Index, Contains, IndexFunc, ContainsFunc of ints; what is told of a search.
-/
import Derived.Test.YtgckhekikcdaiaaPak3
import Derived.Deep.RegionWith
import Derived.Deep.RegionHeld
import Derived.Test.YtgckhekikcdaiaaPak1
import Derived.ProofKit
namespace Go.Proofs.Ytgckhekikcdaiaa
open Go.RowKit Tri

set_option maxHeartbeats 1000000 in
set_option maxRecDepth 100000 in
theorem sl_CloneAny (p : Option Addr) (n c : Nat) (l : List Nat) (w : World) (hn : n = l.length) (hp : cellsB w p l) (hl : l.length ≤ 1000000) (h0 : l ≠ [] ∨ p = none) :
    Calls Try.prog 45 #[.slice p n c] w (RetB w l) := by
  subst hn
  by_cases hq : l = []
  · obtain rfl : p = none := by rcases h0 with h | h; exact absurd hq h; exact h
    subst hq
    have hnil := Lib.run_eql_slice_nil (P := Try.prog) w 22 5 none 0 c 0 0 Try.underlying22
    (go_enter Try.func45, Try.ntmps45; try simp only [List.append])
    go_wp2_with ((with_reducible refine wpList_unguard ?_ ?_); (focus rfl))
    go_ret
    exact ⟨_, rfl, World.ownsRow_nil _ _ _ _, Below.refl _ _⟩
  · obtain ⟨a, o, rfl, -⟩ := hp 0 (List.length_pos_iff.2 hq)
    exact sl_Clone_some a o _ c l w rfl hp hl
/-- What stands at a place when k from either end have changed places. -/
def rvF (l : List Nat) (k i : Nat) : Nat := if i < k ∨ l.length - k ≤ i then l.getD (l.length - 1 - i) 0 else l.getD i 0
theorem rv_zero (l : List Nat) : (List.range l.length).map (rvF l 0) = l := by
  apply List.ext_getElem (by simp)
  intro i h1 h2
  simp only [List.getElem_map, List.getElem_range]
  unfold rvF
  rw [if_neg (by simp at h1; omega), List.getD_eq_getElem?_getD, List.getElem?_eq_getElem h2]; rfl
theorem rv_full (l : List Nat) (k : Nat) (h : l.length ≤ 2 * k + 1) : (List.range l.length).map (rvF l k) = l.reverse := by
  apply List.ext_getElem (by simp)
  intro i h1 h2
  simp only [List.getElem_map, List.getElem_range, List.getElem_reverse]
  have h3 : i < l.length := by simpa using h1
  have e : l.getD (l.length - 1 - i) 0 = l[l.length - 1 - i] := by rw [List.getD_eq_getElem?_getD, List.getElem?_eq_getElem (by omega)]; rfl
  unfold rvF
  split
  · exact e
  · have : i = l.length - 1 - i := by omega
    rw [← e, ← this]
theorem rv_len (l : List Nat) (k : Nat) : ((List.range l.length).map (rvF l k)).length = l.length := by simp
theorem rv_at (l : List Nat) (k i : Nat) (h : i < l.length) : ((List.range l.length).map (rvF l k)).getD i 0 = rvF l k i := by
  rw [List.getD_eq_getElem?_getD, List.getElem?_map, List.getElem?_range h]; rfl
theorem rv_step (l : List Nat) (k : Nat) (h : 2 * k + 1 < l.length) :
    (((List.range l.length).map (rvF l k)).set k (rvF l k (l.length - 1 - k))).set (l.length - 1 - k) (rvF l k k) = (List.range l.length).map (rvF l (k + 1)) := by
  apply List.ext_getElem (by simp)
  intro i h1 h2
  have h3 : i < l.length := by simpa using h2
  simp only [List.getElem_set, List.getElem_map, List.getElem_range]
  by_cases e1 : l.length - 1 - k = i
  · rw [if_pos e1]
    unfold rvF
    rw [if_neg (by omega), if_pos (by omega), ← e1, show l.length - 1 - (l.length - 1 - k) = k from by omega]
  · rw [if_neg e1]
    by_cases e2 : k = i
    · rw [if_pos e2]
      unfold rvF
      rw [if_neg (by omega), if_pos (by omega), e2]
    · rw [if_neg e2]
      unfold rvF
      by_cases e3 : i < k ∨ l.length - k ≤ i
      · rw [if_pos e3, if_pos (by omega)]
      · rw [if_neg e3, if_neg (by omega)]
set_option maxHeartbeats 1000000 in
theorem sl_Reverse_nil (c : Nat) (w : World) : Calls Try.prog 107 #[.slice none 0 c] w fun e w' => e = .returned (.tuple #[]) ∧ w = w' := by
  (go_enter Try.func107, Try.ntmps107; try simp only [List.append])
  go_wp2_with ((with_reducible refine wpList_unguard ?_ ?_); (focus rfl))
  go_loopw [2, 3] (fun i j wr => i = .int .i64 0 ∧ j = .int .i64 (-1) ∧ wr = w) (fun _ _ _ => 0)
  case atStart => exact ⟨rfl, rfl, rfl⟩
  case round =>
    obtain ⟨rfl, rfl, rfl⟩ := hrel
    go_wp2_with ((with_reducible refine wpList_unguard ?_ ?_); (focus rfl))
    go_returns
    exact ⟨rfl, rfl⟩
set_option maxHeartbeats 4000000 in
set_option maxRecDepth 100000 in
theorem sl_Reverse (w0 : World) (g cap : Nat) (l : List Nat) (w : World) (hg : w0.heap.size ≤ g) (hB : Below w0.heap.size w0 w) (hb : bufB w g l) (hl : l.length ≤ 1000000) :
    Calls Try.prog 107 #[.slice (some ⟨g, 0, none⟩) l.length cap] w fun e w' => e = .returned (.tuple #[]) ∧ bufB w' g l.reverse ∧ Below w0.heap.size w0 w' := by
  have HG := hid hg
  have HB := hid hB
  have HU := hid hb
  clear hB hb hg
  (go_enter Try.func107, Try.ntmps107; try simp only [List.append])
  go_wp2_with ((with_reducible refine wpList_unguard ?_ ?_); (focus rfl))
  go_loopw [2, 3] (fun i j wr => ∃ k : Nat, 2 * k ≤ l.length ∧ i = .int .i64 k ∧ j = .int .i64 ((l.length : Int) - 1 - k) ∧ bufB wr g ((List.range l.length).map (rvF l k)) ∧ Below w0.heap.size w0 wr) (fun i _ _ => l.length - (intOf i).toNat)
  case atStart => exact ⟨0, Nat.zero_le _, rfl, by simp, by rw [rv_zero]; exact HU.out, HB.out⟩
  case round =>
    clear HU HB
    obtain ⟨k, hk, rfl, rfl, hU, hB⟩ := hrel
    have HU := hid hU
    have HB := hid hB
    clear hU hB
    by_cases hlt : 2 * k + 1 < l.length
    · obtain ⟨J, hJ⟩ : ∃ J : Nat, (l.length : Int) - 1 - k = J := ⟨l.length - 1 - k, by omega⟩
      have hJn : J = l.length - 1 - k := by omega
      have hkJ : k ≠ J := by omega
      have hkJ2 : (k : Int) < (J : Int) := by omega
      have a0 := HU.out.at k (by rw [rv_len]; omega)
      have a1 := HU.out.at J (by rw [rv_len]; omega)
      have f0 := HU.out.2 k (by rw [rv_len]; omega)
      have f1 := HU.out.2 J (by rw [rv_len]; omega)
      rw [rv_at _ _ _ (by omega)] at a0 a1
      have hst := ((HU.out.set k (rvF l k J) (by rw [rv_len]; omega)).set J (rvF l k k) (by rw [List.length_set, rv_len]; omega)).drew
      have hsp := rv_step l k hlt
      rw [← hJn] at hsp
      rw [hsp] at hst
      have HST := hid hst
      have HBl := hid (((HB.out.setCell (p := ⟨g, k, none⟩) HG.out (.int .u8 (rvF l k J : Nat))).setCell (p := ⟨g, J, none⟩) HG.out (.int .u8 (rvF l k k : Nat))).drew)
      rw [hJ]
      clear hst hsp
      generalize rvF l k J = x at *
      generalize rvF l k k = y at *
      have a0d : wr.drew.cell? ⟨g, k, none⟩ = some (.int .u8 (y : Nat)) := a0
      have a1d : wr.drew.cell? ⟨g, J, none⟩ = some (.int .u8 (x : Nat)) := a1
      have f0d : wr.drew.frozen? ⟨g, k, none⟩ = false := f0
      have f1d : wr.drew.frozen? ⟨g, J, none⟩ = false := f1
      have hJl : (J : Int) < (l.length : Int) := by omega
      have hkl : (k : Int) < (l.length : Int) := by omega
      have HJ := hid hJ
      have HLT := hid hlt
      clear hJ hJn hlt hkJ
      have hkJ : k ≠ J := by omega
      have hJk : J ≠ k := by omega
      go_upto_region 3 with fail
      go_region
      go_wp2
      go_roundw
      case rel => exact ⟨k + 1, by have := HLT.out; omega, by go_num, congrArg (Value.int .i64) (by have := HJ.out; omega), HST.out, HBl.out⟩
      case measure => simp [intOf]; have := HLT.out; omega
    · have q : decide ((k : Int) < (l.length : Int) - 1 - k) = false := decide_eq_false (by omega)
      rw [rv_full l k (by omega)] at HU
      go_wp2_with ((with_reducible refine wpList_unguard ?_ ?_); (focus rfl))
      go_returns
      exact ⟨rfl, HU.out, HB.out⟩
theorem ownsB.buf2 {w : World} {base : Nat} {v : Value} {l : List Nat} (h : ownsB w base v l) (hl : l ≠ []) : ∃ g cap, v = .slice (some ⟨g, 0, none⟩) l.length cap ∧ base ≤ g ∧ l.length ≤ cap ∧ bufB w g l := by
  rcases h.buf with ⟨-, h1⟩ | h1
  · exact absurd h1 hl
  · exact h1
set_option maxHeartbeats 1000000 in
set_option maxRecDepth 100000 in
theorem sol_high (p : Option Addr) (n c : Nat) (l : List Nat) (w : World) (hn : n = l.length) (hp : cellsB w p l) (hl : l.length ≤ 1000000) (h0 : l ≠ [] ∨ p = none) :
    Calls Try.prog 83 #[.slice p n c] w (RetC w l.reverse) := by
  subst hn
  have HC := hid (sl_CloneAny p _ c l w rfl hp hl h0)
  clear hp h0
  (go_enter Try.func83, Try.ntmps83; try simp only [List.append])
  go_wp2_with ((with_reducible refine wpList_unguard ?_ ?_); (focus rfl))
  refine Calls.mono HC.out ?_; rintro e w1 ⟨v, rfl, hO, hB⟩
  clear HC
  have HB := hid hB
  rcases hO.buf with ⟨rfl, rfl⟩ | ⟨g, cap, rfl, hg, hc, hbuf⟩
  · clear hO hB
    go_wp2_with ((with_reducible refine wpList_unguard ?_ ?_); (focus rfl))
    refine Calls.mono (sl_Reverse_nil 0 w1) ?_; rintro e w2 ⟨rfl, rfl⟩
    go_wp2_with ((with_reducible refine wpList_unguard ?_ ?_); (focus rfl))
    go_ret
    exact ⟨none, 0, rfl, Nat.le_refl _, cellsB.nil _ _, HB.out⟩
  · have HR := hid (sl_Reverse w g cap l w1 hg hB hbuf hl)
    clear hO hB hbuf HB
    go_wp2_with ((with_reducible refine wpList_unguard ?_ ?_); (focus rfl))
    refine Calls.mono HR.out ?_; rintro e w2 ⟨rfl, hbuf, hB⟩
    have HB := hid hB
    have HU := hid hbuf
    have hlr : Hid (l.reverse.length = l.length) := List.length_reverse
    clear HR hB hbuf
    go_wp2_with ((with_reducible refine wpList_unguard ?_ ?_); (focus rfl))
    go_ret
    exact ⟨some ⟨g, 0, none⟩, cap, by rw [hlr.out]; rfl, by rw [hlr.out]; exact hc, HU.out.1, HB.out⟩
theorem rev_bytes {a : List Nat} (h : bytesL a) : bytesL a.reverse := fun x hx => h x (List.mem_reverse.1 hx)
set_option maxHeartbeats 4000000 in
set_option maxRecDepth 100000 in
theorem sol_value (V f n0 p0 : Nat) (sv era loc : Value) (p : Option Addr) (n c : Nat) (a : List Nat) (x : Nat) (w : World) (hS : isS w V f n0 p0 sv era loc) (hF : isF w f) (hn : n = a.length) (hp : cellsB w p a) (ha : bytesL a) (hla : a.length ≤ 10000) (h0 : a ≠ [] ∨ p = none) (hx : x < 256) :
    Calls Try.prog 116 #[.pointer (some ⟨V, 0, none⟩), .slice p n c, .int .u8 x] w fun e w' => e = .returned (.int .u8 (valL a x : Nat)) ∧ Below w.heap.size w w' := by
  have c0 : w.cell? ⟨V, 0, none⟩ = some (.pointer (some ⟨f, 0, none⟩)) := hS.cell 0 _ rfl
  have HF := hid hF
  have HA := hid ha
  subst hn
  have HC := hid (sol_high p _ c a w.drew rfl hp (by omega) h0)
  have hb0 := hid ((Below.refl w.heap.size w).drew)
  clear hS hF hp ha h0
  (go_enter Try.func116, Try.ntmps116; try simp only [List.append])
  go_upto_region 1 with fail
  go_region_held3 (fun u => u.cell? ⟨V, 0, none⟩ = some (.pointer (some ⟨f, 0, none⟩))) (first | with_reducible exact cell1_keep c0 hb0.out | with_reducible exact cell1_keep c0 hB.out | with_reducible exact cell1_keep c0 hB2) (first | (go_at_call 83; refine Calls.mono HC.out ?_; rintro e w2 ⟨p2, c2, rfl, hc2, hcell, hb⟩; have hB := hid (hb0.out.trans (hb.mono (Nat.le_refl _))); clear hb) | (go_at_call 25; refine Calls.mono (poly_Eval f p2 _ c2 a.reverse x w2 (HF.out.blw hB.out) (by simp) hcell (rev_bytes HA.out) hx (by rw [List.length_reverse]; omega)) ?_; rintro e w3 ⟨rfl, hk⟩; have hB2 := hB.out.trans (hk.1.mono hB.out.size)))
  all_goals (go_wp2_with ((with_reducible refine wpList_unguard ?_ ?_); (focus rfl)))
  go_ret
  exact ⟨rfl, hB2⟩
/-- A list whose places are reckoned anew, one by one. -/
def stF (f g : Nat → Nat) (n k : Nat) : List Nat := (List.range n).map fun i => if i < k then f i else g i
theorem stF_len (f g : Nat → Nat) (n k : Nat) : (stF f g n k).length = n := by unfold stF; simp
theorem stF_at (f g : Nat → Nat) {n k : Nat} (h : k < n) : (stF f g n k).getD k 0 = g k := by
  unfold stF
  rw [List.getD_eq_getElem?_getD, List.getElem?_map, List.getElem?_range h]
  simp
theorem stF_set (f g : Nat → Nat) {n k : Nat} (h : k < n) : (stF f g n k).set k (f k) = stF f g n (k + 1) := by
  unfold stF
  apply List.ext_getElem (by simp)
  intro i h1 h2
  simp only [List.getElem_set, List.getElem_map, List.getElem_range]
  by_cases e : k = i
  · subst e; simp
  · rw [if_neg e]
    by_cases e2 : i < k
    · rw [if_pos e2, if_pos (by omega)]
    · rw [if_neg e2, if_neg (by omega)]
theorem range_getD (a : List Nat) : (List.range a.length).map (fun i => a.getD i 0) = a := by
  apply List.ext_getElem (by simp)
  intro i h1 h2
  simp [h2]
theorem stF_zero (f : Nat → Nat) (a : List Nat) : stF f (fun i => a.getD i 0) a.length 0 = a := by
  unfold stF
  simp only [Nat.not_lt_zero, if_false]
  exact range_getD a
theorem stF_full (f g : Nat → Nat) (n : Nat) : stF f g n n = (List.range n).map f := by
  unfold stF
  exact List.map_congr_left fun i hi => by rw [if_pos (List.mem_range.1 hi)]
theorem scaled_st (a : List Nat) (y : Nat) : scaledL a y = (List.range a.length).map fun i => gmul (a.getD i 0) y := by
  unfold scaledL
  have := congrArg (List.map fun x => gmul x y) (range_getD a)
  rw [List.map_map] at this
  exact this.symm
set_option maxHeartbeats 8000000 in
set_option maxRecDepth 100000 in
theorem sol_scaled (V f n0 p0 : Nat) (sv era loc : Value) (p : Option Addr) (n c : Nat) (a : List Nat) (y : Nat) (w : World) (hS : isS w V f n0 p0 sv era loc) (hF : isF w f) (hn : n = a.length) (hp : cellsB w p a) (ha : bytesL a) (hla : a.length ≤ 10000) (h0 : a ≠ []) (hy : y < 256) :
    Calls Try.prog 81 #[.pointer (some ⟨V, 0, none⟩), .slice p n c, .int .u8 y] w (RetC w (scaledL a y)) := by
  subst hn
  have c0 : w.cell? ⟨V, 0, none⟩ = some (.pointer (some ⟨f, 0, none⟩)) := hS.cell 0 _ rfl
  have hVw : V < w.heap.size := block_lt_of_cell c0
  have HF := hid hF
  have HA := hid ha
  have H0 := hid h0
  have HL : Hid (scaledL a y = (List.range a.length).map fun i => gmul (a.getD i 0) y) := scaled_st a y
  have HC := hid (sl_CloneAny p _ c a w rfl hp (by omega) (.inl h0))
  clear hS hF hp ha h0
  (go_enter Try.func81, Try.ntmps81; try simp only [List.append])
  go_wp2_with ((with_reducible refine wpList_unguard ?_ ?_); (focus rfl))
  refine Calls.mono HC.out ?_; rintro e w1 ⟨v, rfl, hO, hB⟩
  obtain ⟨ob, cap, rfl, hob, hcap, hbuf⟩ := hO.buf2 H0.out
  have HB := hid hB
  have HOB := hid hob
  have hz : bufB w1 ob (stF (fun i => gmul (a.getD i 0) y) (fun i => a.getD i 0) a.length 0) := by rw [stF_zero]; exact hbuf
  have HBF := hid hz
  have hVob : V ≠ ob := by omega
  clear HC hO hB hob hbuf hz hVw
  go_wp2_with ((with_reducible refine wpList_unguard ?_ ?_); (focus rfl))
  go_loopw [13] (fun v wr => ∃ k : Nat, k ≤ a.length ∧ v = .int .i64 k ∧ bufB wr ob (stF (fun i => gmul (a.getD i 0) y) (fun i => a.getD i 0) a.length k) ∧ Below w.heap.size w wr) (fun v _ => a.length - (intOf v).toNat)
  case atStart => exact ⟨0, Nat.zero_le _, rfl, HBF.out, HB.out⟩
  case round =>
    clear HBF HB
    obtain ⟨k, hk, rfl, hbuf, hB⟩ := hrel
    have HB := hid hB
    have HBF := hid hbuf
    clear hB hbuf
    by_cases hlt : k < a.length
    · have hbc := HBF.out.at k (by rw [stF_len]; exact hlt)
      rw [stF_at _ _ hlt] at hbc
      have hbf := HBF.out.2 k (by rw [stF_len]; exact hlt)
      have hx1 : a.getD k 0 < 256 := getD_lt HA.out k
      have hFd := hid (HF.out.blw HB.out.drew)
      have hset := stF_set (fun i => gmul (a.getD i 0) y) (fun i => a.getD i 0) hlt
      obtain ⟨x, hx⟩ : ∃ x, a.getD k 0 = x := ⟨_, rfl⟩
      obtain ⟨z, hz⟩ : ∃ z, gmul (a.getD k 0) y = z := ⟨_, rfl⟩
      simp only [hz] at hset
      have hMul : ∀ s, s = wr.heap.size → Calls Try.prog 52 #[.pointer (some ⟨f, 0, none⟩), .slice (some ⟨s, 0, none⟩) 2 2] (wr.alloc (.cells #[.int .u8 (x : Nat), .int .u8 (y : Nat)] 5)).drew fun e w' => e = .returned (.int .u8 (z : Nat)) ∧ (wr.alloc (.cells #[.int .u8 (x : Nat), .int .u8 (y : Nat)] 5)).drew = w' := by
        rintro s rfl
        rw [← hz, hx]
        exact gf_Mul2 f _ x y _ _ wr.drew hFd.out rfl rfl rfl (hx ▸ hx1) hy _
      rw [hx] at hbc
      have hbd : wr.drew.cell? ⟨ob, k, none⟩ = some (.int .u8 (x : Nat)) := hbc
      have hsc : ((wr.alloc (.cells #[.int .u8 (x : Nat), .int .u8 (y : Nat)] 5)).drew).cell? ⟨ob, k, none⟩ = some (.int .u8 (x : Nat)) := cell1_keep hbc ((Below.refl wr.heap.size wr).alloc (Nat.le_refl _) _).drew
      have hsf : ((wr.alloc (.cells #[.int .u8 (x : Nat), .int .u8 (y : Nat)] 5)).drew).frozen? ⟨ob, k, none⟩ = false := by
        show (wr.alloc _).frozen? _ = false
        rw [frozen?_alloc_cells]; exact hbf
      have kb2 := fun o => cell1_keep c0 (HB.out.alloc HB.out.size o).drew
      have kb4 := fun o v => cell1_keep c0 ((HB.out.alloc HB.out.size o).setCell (p := ⟨ob, k, none⟩) HOB.out v).drew
      have hst := ((HBF.out.alloc #[.int .u8 (x : Nat), .int .u8 (y : Nat)] 5).set k z (by rw [stF_len]; exact hlt)).drew
      rw [hset] at hst
      have HST := hid hst
      have hBl := hid (((HB.out.alloc HB.out.size (.cells #[.int .u8 (x : Nat), .int .u8 (y : Nat)] 5)).setCell (p := ⟨ob, k, none⟩) HOB.out (.int .u8 (z : Nat))).drew)
      clear hst hset hx1 hx hz hbf
      go_upto_region 5 with fail
      have c0a : wr.drew.cell? ⟨V, 0, none⟩ = some (.pointer (some ⟨f, 0, none⟩)) := cell1_keep c0 HB.out.drew
      have c0b := kb2 (.cells #[.int .u8 (x : Nat), .int .u8 (y : Nat)] 5)
      have c0w : wr.cell? ⟨V, 0, none⟩ = some (.pointer (some ⟨f, 0, none⟩)) := cell1_keep c0 HB.out
      clear kb2 kb4
      go_region_with (first | (go_at_call 52; refine Calls.mono (hMul _ (by first | rfl | simp)) ?_; rintro e w2 ⟨rfl, rfl⟩))
      all_goals go_wp2
      all_goals go_roundw
      all_goals first | exact ⟨k + 1, by omega, by go_num, HST.out, hBl.out⟩ | (simp [intOf]; omega)
    · obtain rfl : k = a.length := by omega
      rw [stF_full, ← HL.out] at HBF
      have hl : Hid ((scaledL a y).length = a.length) := scaledL_len a y
      go_wp2_with ((with_reducible refine wpList_unguard ?_ ?_); (focus rfl))
      go_ret
      exact ⟨some ⟨ob, 0, none⟩, cap, by rw [hl.out]; rfl, by rw [hl.out]; exact hcap, HBF.out.1, HB.out⟩
end Go.Proofs.Ytgckhekikcdaiaa

namespace Go.Proofs.Ytgckhekikcdaiaa
open Go.RowKit Tri

set_option maxHeartbeats 8000000 in
set_option maxRecDepth 100000 in
theorem sol_gap (V f n0 p0 : Nat) (ps : Option Addr) (cs : Nat) (s : List Nat) (era : Value) (pl : Option Addr) (cl : Nat) (loc : List Nat) (r : Nat) (w : World) (hS : isS w V f n0 p0 (.slice ps s.length cs) era (.slice pl loc.length cl)) (hF : isF w f)
    (hs : cellsB w ps s) (hbs : bytesL s) (hls : s.length ≤ 10000) (hl : cellsB w pl loc) (hbl : bytesL loc) (hll : loc.length ≤ 10000) (hr : r ≤ 1000) :
    Calls Try.prog 79 #[.pointer (some ⟨V, 0, none⟩), .int .i64 r] w fun e w' => e = .returned (.int .u8 (gapL s loc r : Nat)) ∧ Below w.heap.size w w' := by
  have c0 : w.cell? ⟨V, 0, none⟩ = some (.pointer (some ⟨f, 0, none⟩)) := hS.cell 0 _ rfl
  have c3 : w.cell? ⟨V, 3, none⟩ = some (.slice ps s.length cs) := hS.cell 3 _ rfl
  have c5 : w.cell? ⟨V, 5, none⟩ = some (.slice pl loc.length cl) := hS.cell 5 _ rfl
  have HF := hid hF
  have HP := hid hs
  have HQ := hid hl
  have HBS := hid hbs
  have HBL := hid hbl
  have HG : Hid (gapL s loc r = xorS (gapF s loc r) loc.length) := rfl
  clear hS hF hs hl hbs hbl
  (go_enter Try.func79, Try.ntmps79; try simp only [List.append])
  go_wp2_with ((with_reducible refine wpList_unguard ?_ ?_); (focus rfl))
  go_loopw [12, 5] (fun v o wr => ∃ k : Nat, k ≤ loc.length ∧ v = .int .i64 k ∧ o = .int .u8 (xorS (gapF s loc r) k : Nat) ∧ Below w.heap.size w wr) (fun v _ _ => loc.length - (intOf v).toNat)
  case atStart => exact ⟨0, Nat.zero_le _, rfl, rfl, Below.refl _ _⟩
  case round =>
    obtain ⟨k, hk, rfl, rfl, hB⟩ := hrel
    have HB := hid hB
    clear hB
    by_cases hlt : k < loc.length
    · obtain ⟨b, o, rfl, cl0⟩ := HQ.out k hlt
      have hx0 : xorS (gapF s loc r) k < 256 := xorS_lt (gapF_lt s loc r) k
      have hx1 : loc.getD k 0 < 256 := getD_lt HBL.out k
      have hx2 : coZ s ((r : Int) - 1 - k) < 256 := coZ_lt HBS.out _
      have HX : Hid (xorS (gapF s loc r) (k + 1) = xorS (gapF s loc r) k ^^^ gmul (loc.getD k 0) (coZ s ((r : Int) - 1 - k))) := rfl
      have hx3 : gmul (loc.getD k 0) (coZ s ((r : Int) - 1 - k)) < 256 := gmul_lt _ _
      have hAt : ∀ (x : Int), x = (r : Int) - 1 - k → Calls Try.prog 105 #[.slice ps s.length cs, .int .i64 x] wr.drew fun e w' => e = .returned (.int .u8 (coZ s ((r : Int) - 1 - k) : Nat)) ∧ wr.drew = w' := by
        rintro x rfl
        exact sol_at ps _ cs s _ wr.drew rfl (HP.out.below HB.out.drew) (by omega)
      have hw1 : IntKind.i64.wrap (IntKind.i64.wrap ((r : Int) - 1) - k) = (r : Int) - 1 - k := by rw [IntKind.wrap_i64, IntKind.wrap_i64]; omega
      have hFd := hid (HF.out.blw HB.out.drew)
      obtain ⟨y0, hy0⟩ : ∃ y, xorS (gapF s loc r) k = y := ⟨_, rfl⟩
      obtain ⟨y1, hy1⟩ : ∃ y, loc.getD k 0 = y := ⟨_, rfl⟩
      obtain ⟨y2, hy2⟩ : ∃ y, coZ s ((r : Int) - 1 - k) = y := ⟨_, rfl⟩
      rw [hy0, hy1, hy2] at HX
      rw [hy1, hy2] at hx3
      rw [hy0] at hx0 ⊢
      rw [hy1] at hx1 cl0
      rw [hy2] at hx2 hAt
      obtain ⟨y3, hy3⟩ : ∃ y, gmul y1 y2 = y := ⟨_, rfl⟩
      rw [hy3] at HX hx3
      have hMul : ∀ t, t = wr.heap.size → Calls Try.prog 52 #[.pointer (some ⟨f, 0, none⟩), .slice (some ⟨t, 0, none⟩) 2 2] (wr.alloc (.cells #[.int .u8 (y1 : Nat), .int .u8 (y2 : Nat)] 5)).drew fun e w' => e = .returned (.int .u8 (y3 : Nat)) ∧ (wr.alloc (.cells #[.int .u8 (y1 : Nat), .int .u8 (y2 : Nat)] 5)).drew = w' := by
        rintro t rfl
        rw [← hy3]
        exact gf_Mul2 f _ y1 y2 _ _ wr.drew hFd.out rfl rfl rfl hx1 hx2 _
      have hAdd : ∀ t, t = wr.heap.size + 1 → Calls Try.prog 51 #[.pointer (some ⟨f, 0, none⟩), .slice (some ⟨t, 0, none⟩) 2 2] ((wr.alloc (.cells #[.int .u8 (y1 : Nat), .int .u8 (y2 : Nat)] 5)).alloc (.cells #[.int .u8 (y0 : Nat), .int .u8 (y3 : Nat)] 5)).drew fun e w' => e = .returned (.int .u8 (y0 ^^^ y3 : Nat)) ∧ ((wr.alloc (.cells #[.int .u8 (y1 : Nat), .int .u8 (y2 : Nat)] 5)).alloc (.cells #[.int .u8 (y0 : Nat), .int .u8 (y3 : Nat)] 5)).drew = w' := by
        rintro t rfl
        exact gf_Add2 f _ y0 y3 _ _ (wr.alloc (.cells #[.int .u8 (y1 : Nat), .int .u8 (y2 : Nat)] 5)).drew (by simp) rfl rfl hx0 hx3 _
      have hB1 := hid HB.out.drew
      have hB2 := fun o => hid (HB.out.alloc HB.out.size o).drew
      have hB3 := fun o o2 => hid ((HB.out.alloc HB.out.size o).alloc (HB.out.alloc HB.out.size o).size o2).drew
      clear hx0 hx1 hx2 hx3 hy0 hy1 hy2 hy3
      go_upto_region 5 with fail
      go_region_held3 (fun u => u.cell? ⟨V, 0, none⟩ = some (.pointer (some ⟨f, 0, none⟩)) ∧ u.cell? ⟨V, 3, none⟩ = some (.slice ps s.length cs) ∧ u.cell? ⟨V, 5, none⟩ = some (.slice (some ⟨b, o, none⟩) loc.length cl) ∧ u.cell? ⟨b, o + k, none⟩ = some (.int .u8 (y1 : Nat))) (first | with_reducible exact kk4 c0 c3 c5 cl0 hB1.out | with_reducible exact kk4 c0 c3 c5 cl0 (hB2 _).out | with_reducible exact kk4 c0 c3 c5 cl0 (hB3 _ _).out) (first | (go_at_call 105; with_reducible refine Calls.mono (hAt _ (by first | with_reducible rfl | with_reducible exact hw1)) ?_; rintro e w2 ⟨rfl, rfl⟩) | (go_at_call 52; refine Calls.mono (hMul _ (by first | rfl | simp)) ?_; rintro e w2 ⟨rfl, rfl⟩) | (go_at_call 51; refine Calls.mono (hAdd _ (by first | rfl | simp)) ?_; rintro e w2 ⟨rfl, rfl⟩))
      all_goals go_wp2
      all_goals go_roundw
      case rel => exact ⟨k + 1, by omega, by go_num, by rw [HX.out], (hB3 _ _).out⟩
      case measure => simp [intOf]; omega
    · obtain rfl : k = loc.length := by omega
      rw [← HG.out]
      go_wp2_with ((with_reducible refine wpList_unguard ?_ ?_); (focus rfl))
      go_ret
      exact ⟨rfl, HB.out⟩
end Go.Proofs.Ytgckhekikcdaiaa

namespace Tri
def proots (l : List Nat) : List Nat := pmul (l.map fun r => [1, r])
end Tri
namespace Go.Proofs.Ytgckhekikcdaiaa
open Go.RowKit Tri

theorem Try.infoR : (Try.prog.info? 22).map (fun i => (i.zero, i.size, i.bytes)) = some (some (.slice none 0 0), 1, 24) := by kernel_rfl
/-- An own row of small rows [1, r]. -/
def factR (w : World) (base : Nat) (v : Value) (l : List Nat) : Prop :=
  ∃ bs : List Nat, bs.length = l.length ∧ w.ownsRow base 22 1 v l.length (bs.map fun b => Value.slice (some ⟨b, 0, none⟩) 2 2) ∧
    ∀ i, i < l.length → w.heap[bs.getD i 0]? = some (.cells #[.int .u8 1, .int .u8 (l.getD i 0 : Nat)] 5)
theorem factR.cells {w : World} {base : Nat} {v : Value} {l : List Nat} (h : factR w base v l) : ∃ p c, v = .slice p l.length c ∧ cellsR w p (l.map fun r => [1, r]) := by
  obtain ⟨bs, hl, hown, hb⟩ := h
  obtain ⟨h1, h0⟩ := hown
  rcases h0 with ⟨h2, h3⟩ | ⟨g, cap, cur, h2, h3, h4, h5, h6, h7, h8⟩
  · refine ⟨none, 0, by rw [h2, h3], ?_⟩
    intro i hi
    rw [List.length_map] at hi
    omega
  · refine ⟨_, _, h2, ?_⟩
    intro i hi
    rw [List.length_map] at hi
    have hgd : (l.map fun r => [1, r]).getD i [] = [1, l.getD i 0] := by
      simp [List.getD_eq_getElem?_getD, List.getElem?_eq_getElem hi]
    rw [hgd]
    refine ⟨g, 0, some ⟨bs.getD i 0, 0, none⟩, 2, rfl, ?_, by simp, ?_⟩
    · have h9 := congrArg (fun l : List Value => l[i]?) h8
      simp only [List.getElem?_take, List.getElem?_map] at h9
      rw [if_pos (by omega), List.getElem?_eq_getElem (by omega : i < bs.length)] at h9
      unfold World.cell?
      rw [Nat.zero_add]
      simp only [h4]
      rw [← Array.getElem?_toList, h9]
      simp [hl, hi]
    · intro j hj
      refine ⟨_, _, rfl, ?_⟩
      unfold World.cell?
      simp only [hb i hi]
      match j, hj with
      | 0, _ => simp
      | 1, _ => simp

theorem factR.alloc {w : World} {base : Nat} {v : Value} {l : List Nat} (h : factR w base v l) (o : Obj) : factR (w.alloc o) base v l := by
  obtain ⟨bs, hl, ho, hbs⟩ := h
  refine ⟨bs, hl, ?_, fun i hi => ?_⟩
  · obtain ⟨h1, h0⟩ := ho
    refine ⟨h1, h0.imp id fun ⟨g, cap, cur, h2, h3, h4, h5⟩ => ⟨g, cap, cur, h2, h3, ?_, h5⟩⟩
    rw [Below.heap_alloc w o g (Array.getElem?_eq_some_iff.1 h4).1]; exact h4
  · rw [Below.heap_alloc w o _ (Array.getElem?_eq_some_iff.1 (hbs i hi)).1]; exact hbs i hi
theorem factR.alloc2 {w : World} {base : Nat} {v : Value} {l : List Nat} (h : factR w base v l) (o o' : Obj) : factR ((w.alloc o).alloc o') base v l := (h.alloc o).alloc o'
theorem factR.grow {w w' : World} {base n : Nat} {v v' : Value} {l bs : List Nat} {b r : Nat} (hl : bs.length = n) (hll : l.length = n) (ho : w.ownsRow base 22 1 v n (bs.map fun b => Value.slice (some ⟨b, 0, none⟩) 2 2))
    (hbs : ∀ i, i < l.length → w.heap[bs.getD i 0]? = some (.cells #[.int .u8 1, .int .u8 (l.getD i 0 : Nat)] 5))
    (hb : w.heap[b]? = some (.cells #[.int .u8 1, .int .u8 (r : Nat)] 5))
    (hown : w'.ownsRow base 22 1 v' (n + 1) ((bs.map fun b => Value.slice (some ⟨b, 0, none⟩) 2 2) ++ [.slice (some ⟨b, 0, none⟩) 2 2])) (hg : w.grownBy w' v.ownBlock) : factR w' base v' (l ++ [r]) := by
  subst hll
  have hne : ∀ (k r' : Nat), w.heap[k]? = some (Obj.cells #[.int .u8 1, .int .u8 (r' : Nat)] 5) → w'.heap[k]? = w.heap[k]? := by
    intro k r' hk
    refine hg.block k (Array.getElem?_eq_some_iff.1 hk).1 ?_
    intro e
    obtain ⟨_, h0⟩ := ho
    rcases h0 with ⟨h2, _⟩ | ⟨g, cap, cur, h2, _, h4, _⟩
    · rw [h2] at e; simp [Value.ownBlock] at e
    · rw [h2] at e
      simp only [Value.ownBlock, Option.some.injEq] at e
      rw [e] at hk
      rw [hk] at h4
      simp at h4
  refine ⟨bs ++ [b], by simp [hl], ?_, ?_⟩
  · simpa using hown
  · intro i hi
    rw [List.length_append, List.length_singleton] at hi
    by_cases e : i < l.length
    · have h1 := hbs i e
      have h2 : (bs ++ [b]).getD i 0 = bs.getD i 0 := by simp [List.getD_eq_getElem?_getD, List.getElem?_append_left (by omega : i < bs.length)]
      have h3 : (l ++ [r]).getD i 0 = l.getD i 0 := by simp [List.getD_eq_getElem?_getD, List.getElem?_append_left e]
      rw [h2, h3, hne _ _ h1, h1]
    · obtain rfl : i = l.length := by omega
      have h2 : (bs ++ [b]).getD l.length 0 = b := by rw [← hl]; simp
      have h3 : (l ++ [r]).getD l.length 0 = r := by simp
      rw [h2, h3, hne _ _ hb, hb]

set_option maxHeartbeats 1000000 in
set_option maxRecDepth 100000 in
theorem poly_Roots (f : Nat) (p : Option Addr) (n c : Nat) (l : List Nat) (w : World) (hF : isF w f) (hn : n = l.length) (hp : cellsB w p l) (hb : bytesL l) (hl : l.length ≤ 10000) :
    Calls Try.prog 35 #[.pointer (some ⟨f, 0, none⟩), .slice p n c] w (RetC w (proots l)) := by
  subst hn
  have HP := hid hp
  have HB := hid hb
  have HF := hid hF
  clear hp hb hF
  obtain ⟨i0, hi, hz0, hz1, hz2⟩ := info_parts Try.infoR
  go_enter Try.func35, Try.ntmps35
  go_wp2_with ((with_reducible refine wpList_unguard ?_ ?_); (focus rfl))
  go_loopw [5, 10] (fun s i wr => ∃ k : Nat, k ≤ l.length ∧ i = .int .i64 k ∧ factR wr w.heap.size s (l.take k) ∧ Keeps w f wr) (fun _ i _ => l.length - (intOf i).toNat)
  case atStart => exact ⟨0, Nat.zero_le _, rfl, ⟨[], rfl, World.ownsRow_nil _ _ _ _, by simp⟩, Below.refl _ _, HF.out⟩
  case round =>
    obtain ⟨k, hk, rfl, hR, hK⟩ := hrel
    have HR := hid hR
    have K := hid hK
    clear hR hK
    by_cases hlt : k < l.length
    · obtain ⟨a, o, rfl, hc0⟩ := HP.out k hlt
      have hc : wr.cell? ⟨a, o + k, none⟩ = some (.int .u8 (l.getD k 0 : Nat)) := by
        rw [K.out.1.cell (p := ⟨a, o + k, none⟩) (block_lt_of_cell hc0)]; exact hc0
      have HS : Hid (l.take (k + 1) = l.take k ++ [l.getD k 0]) := take_snocN l k hlt
      have hkl : Hid ((l.take k).length = k) := by show _ = _; rw [List.length_take]; omega
      clear hc0
      generalize hs2 : l.take (k + 1) = S2 at *
      have HS2 := hid hs2
      clear hs2
      generalize l.getD k 0 = r at *
      generalize l.take k = S at *
      have hB1 : Below wr.heap.size wr ((wr.alloc (.cells #[.int .u8 1, .int .u8 (r : Nat)] 5)).alloc (.cells #[.slice (some ⟨wr.heap.size, 0, none⟩) 2 2] 22)) :=
        ((Below.refl _ _).alloc (Nat.le_refl _) _).alloc (by simp) _
      have hR2 := HR.out.alloc2 (.cells #[.int .u8 1, .int .u8 (r : Nat)] 5) (.cells #[.slice (some ⟨wr.heap.size, 0, none⟩) 2 2] 22)
      have hR3 := hR2
      obtain ⟨bs, hbl, hown, hbs⟩ := hR2
      rw [hkl.out] at hown hbl
      go_wp2_with (at_builtin; refine wpList_append_own _ rfl _ _ 82 rfl w.heap.size 22 i0 (.slice none 0 0) 1 24 Try.underlying82 hi hz0 hz1 hz2 rfl (by decide) _ k (bs.map fun b => Value.slice (some ⟨b, 0, none⟩) 2 2) rfl ?c0 ⟨wr.heap.size + 1, 0, none⟩ 1 1 [Value.slice (some ⟨wr.heap.size, 0, none⟩) 2 2] rfl ?c1a ?c1 ?c2 ?c3 ?c4 ?c5 ?_)
      case c0 => exact hown
      case c1a => rfl
      case c1 =>
        intro j u hj
        match j with
        | 0 =>
          simp only [List.getElem?_cons_zero, Option.some.injEq] at hj
          subst hj
          have hx := World.cell?_alloc_new (wr.alloc (.cells #[.int .u8 1, .int .u8 (r : Nat)] 5)) #[.slice (some ⟨wr.heap.size, 0, none⟩) 2 2] 22 0
          have hsz : (wr.alloc (.cells #[.int .u8 1, .int .u8 (r : Nat)] 5)).heap.size = wr.heap.size + 1 := by simp
          rw [hsz] at hx
          exact hx
        | j + 1 => simp at hj
      case c2 => intro u hu; simp only [List.mem_singleton] at hu; subst hu; rfl
      case c3 => unfold maxLen; omega
      case c4 => omega
      case c5 => have := K.out.1.size; simp; omega
      intro v' w' hown' hgrow _
      have hpb : ((wr.alloc (.cells #[.int .u8 1, .int .u8 (r : Nat)] 5)).alloc (.cells #[.slice (some ⟨wr.heap.size, 0, none⟩) 2 2] 22)).heap[wr.heap.size]? = some (.cells #[.int .u8 1, .int .u8 (r : Nat)] 5) := by
        rw [Below.heap_alloc _ _ _ (by simp), (MapKept.heap_alloc wr _).1]
      have HR4 := hid (factR.grow hbl hkl.out hown hbs hpb hown' hgrow)
      rw [← HS.out] at HR4
      have hbel : Below w.heap.size w w' := ((K.out.1.trans (hB1.mono K.out.1.size))).grown hgrow (by have := K.out.1.size; simp; omega) (by
        intro g hg
        obtain ⟨_, h0⟩ := hown
        rcases h0 with ⟨h2, _⟩ | ⟨g', cap, cur, h2, h3, _⟩
        · rw [h2] at hg; simp [Value.ownBlock] at hg
        · rw [h2] at hg; simp only [Value.ownBlock, Option.some.injEq] at hg; omega)
      have K7 : Hid (Keeps w f w') := ⟨hbel, HF.out.below hbel HF.out.lt⟩
      clear hbel hown' hgrow hpb hown hbs hR3 hB1 hbl
      go_wp2
      go_roundw
      case rel => exact ⟨k + 1, by omega, by go_num, by rw [HS2.out]; exact HR4.out, K7.out⟩
      case measure => simp [intOf]; omega
    · obtain rfl : k = l.length := by omega
      rw [List.take_length] at HR
      obtain ⟨p', c', rfl, hcr⟩ := HR.out.cells
      have HC := hid hcr
      clear hcr
      go_wp2_with ((with_reducible refine wpList_unguard ?_ ?_); (focus rfl))
      refine Calls.mono (poly_Mul f p' _ c' (l.map fun r => [1, r]) wr K.out.2 (by simp) HC.out ?_ (by simp; omega) ?_) ?_
      · intro a ha
        obtain ⟨r, hr, rfl⟩ := List.mem_map.1 ha
        intro y hy
        simp only [List.mem_cons, List.not_mem_nil, or_false] at hy
        rcases hy with rfl | rfl
        · omega
        · exact HB.out _ hr
      · have : ∀ l : List Nat, lens (l.map fun r => [1, r]) = 2 * l.length := by
          intro l
          induction l with
          | nil => rfl
          | cons a l ih => simp only [lens, List.map_cons, List.sum_cons, List.length_cons] at ih ⊢; simp only [List.length_nil] ; omega
        rw [this]; omega
      rintro e w2 ⟨q2, d2, rfl, hle2, hq2, hbel⟩
      have HQ2 := hid hq2
      have HBel := hid (K.out.1.trans (hbel.mono K.out.1.size))
      have HPR : Hid (proots l = pmul (l.map fun r => [1, r])) := rfl
      clear hq2 hbel
      rw [← HPR.out] at hle2 HQ2 ⊢
      generalize proots l = S at *
      go_wp2_with ((with_reducible refine wpList_unguard ?_ ?_); (focus rfl))
      go_ret
      exact ⟨q2, d2, rfl, hle2, HQ2.out, HBel.out⟩
end Go.Proofs.Ytgckhekikcdaiaa

namespace Tri
/-- Without noughts at the end. -/
def cutR (l : List Nat) : List Nat := (trim l.reverse).reverse
theorem cutR_nil : cutR [] = [] := rfl
theorem cutR_snoc0 (l : List Nat) : cutR (l ++ [0]) = cutR l := by
  unfold cutR; rw [List.reverse_append]; rfl
theorem cutR_snoc (l : List Nat) (a : Nat) (h : a ≠ 0) : cutR (l ++ [a]) = l ++ [a] := by
  unfold cutR
  rw [List.reverse_append]
  show (trim (a :: l.reverse)).reverse = _
  unfold trim
  rw [if_neg h]
  simp
theorem cutR_prefix (l : List Nat) : ∃ k, k ≤ l.length ∧ cutR l = l.take k := by
  obtain ⟨k, hk⟩ := trim_suffix l.reverse
  refine ⟨(cutR l).length, ?_, ?_⟩
  · unfold cutR; rw [List.length_reverse]; have := trim_length_le l.reverse; simpa using this
  · have h := congrArg List.reverse hk
    rw [List.reverse_reverse, List.reverse_append] at h
    have h2 : l = cutR l ++ (List.replicate k 0).reverse := h
    have h3 := List.take_left (l₁ := cutR l) (l₂ := (List.replicate k 0).reverse)
    rw [← h2] at h3
    exact h3.symm
theorem cutR_mem (l : List Nat) (x : Nat) (h : x ∈ cutR l) : x ∈ l := by
  obtain ⟨k, _, e⟩ := cutR_prefix l
  rw [e] at h
  exact List.mem_of_mem_take h
theorem cutR_length_le (l : List Nat) : (cutR l).length ≤ l.length := by
  obtain ⟨k, hk, e⟩ := cutR_prefix l
  rw [e, List.length_take]; omega
end Tri
namespace Go.Proofs.Ytgckhekikcdaiaa
open Go.RowKit Tri

/-- A slice's ints. -/
def cellsI (w : World) (p : Option Addr) (l : List Nat) : Prop :=
  ∀ i, i < l.length → ∃ a o, p = some ⟨a, o, none⟩ ∧ w.cell? ⟨a, o + i, none⟩ = some (.int .i64 (l.getD i 0 : Nat))
theorem cellsI.nil (w : World) (p : Option Addr) : cellsI w p [] := fun i hi => by simp at hi
theorem cellsI.alloc {w : World} {p : Option Addr} {l : List Nat} (h : cellsI w p l) (o : Obj) : cellsI (w.alloc o) p l := by
  intro i hi
  obtain ⟨a, f, e, hc⟩ := h i hi
  exact ⟨a, f, e, by rw [World.cell?_alloc_lt _ _ _ (block_lt_of_cell hc)]; exact hc⟩
theorem cellsI.below {w w' : World} {p : Option Addr} {l : List Nat} (h : cellsI w p l) (hb : Below w.heap.size w w') : cellsI w' p l := by
  intro i hi
  obtain ⟨a, f, e, hc⟩ := h i hi
  exact ⟨a, f, e, by rw [hb.cell (p := ⟨a, f + i, none⟩) (block_lt_of_cell hc)]; exact hc⟩
theorem cellsI.take {w : World} {p : Option Addr} {l : List Nat} (h : cellsI w p l) (k : Nat) : cellsI w p (l.take k) := by
  intro i hi
  rw [List.length_take] at hi
  obtain ⟨a, f, e, hc⟩ := h i (by omega)
  refine ⟨a, f, e, ?_⟩
  rw [hc]
  simp only [List.getD_eq_getElem?_getD, List.getElem?_take]
  rw [if_pos (by omega)]
theorem cellsI.cut {w : World} {p : Option Addr} {l : List Nat} (h : cellsI w p l) : cellsI w p (cutR l) := by
  obtain ⟨k, _, e⟩ := cutR_prefix l
  rw [e]; exact h.take k
theorem cellsI.new (w : World) (l : List Nat) (vs : Array Value) (t : TypeId) (h : vs.toList = l.map fun x => Value.int .i64 (x : Nat)) :
    cellsI (w.alloc (.cells vs t)) (some ⟨w.heap.size, 0, none⟩) l := by
  intro i hi
  refine ⟨_, _, rfl, ?_⟩
  rw [World.cell?_alloc_new, ← Array.getElem?_toList, h, Nat.zero_add, List.getElem?_map, List.getElem?_eq_getElem hi]
  simp [hi]

/-- A slice of ints that the call has made. -/
def ownsI (w : World) (base : Nat) (v : Value) (l : List Nat) : Prop := w.ownsRow base 3 1 v l.length (l.map fun x => Value.int .i64 (x : Nat))
theorem ownsI.cells {w : World} {base : Nat} {v : Value} {l : List Nat} (h : ownsI w base v l) : ∃ p c, v = .slice p l.length c ∧ l.length ≤ c ∧ cellsI w p l := by
  have h' := h
  unfold ownsI at h'
  rcases h.2 with ⟨rfl, h0⟩ | ⟨g, cap, cur, rfl, _, _, hle, _, _, _⟩
  · refine ⟨none, 0, by rw [h0], by omega, ?_⟩
    rw [List.eq_nil_of_length_eq_zero h0]; exact cellsI.nil _ _
  · refine ⟨_, _, rfl, hle, ?_⟩
    intro i hi
    refine ⟨_, _, rfl, ?_⟩
    rw [Nat.zero_add, h'.cellAt i (by omega), List.getElem?_map, List.getElem?_eq_getElem hi]
    simp [hi]
theorem Try.infoI : (Try.prog.info? 3).map (fun i => (i.zero, i.size, i.bytes)) = some (some (.int .i64 0), 1, 8) := by kernel_rfl
/-- What a call hands back: ints (in whatever memory). -/
def RetI (w : World) (l : List Nat) (e : Ending) (w' : World) : Prop := ∃ p c, e = .returned (.slice p l.length c) ∧ l.length ≤ c ∧ cellsI w' p l ∧ Below w.heap.size w w'

def sliceN : Value → Nat
  | .slice _ n _ => n
  | _ => 0
set_option maxHeartbeats 1000000 in
theorem ref5_Cut (p : Option Addr) (n c : Nat) (l : List Nat) (w : World) (hn : n = l.length) (hc : n ≤ c) (hp : cellsI w p l) (hl : l.length ≤ 1000000) :
    Calls Try.prog 44 #[.slice p n c] w fun e w' => e = .returned (.slice p (cutR l).length c) ∧ w = w' := by
  subst hn
  have HP := hid hp
  clear hp
  go_enter Try.func44, Try.ntmps44
  go_wp2
  go_loop [0] (fun v => ∃ k : Nat, k ≤ l.length ∧ v = .slice p k c ∧ cutR (l.take k) = cutR l) (fun v => sliceN v)
  case atStart => exact ⟨l.length, Nat.le_refl _, rfl, by rw [List.take_length]⟩
  case round =>
    obtain ⟨k, hk, rfl, hcut⟩ := hrel
    have HCut := hid hcut
    clear hcut
    cases k with
    | zero =>
      have hr : Hid (cutR l = []) := by show _ = _; rw [← HCut.out]; rfl
      go_wp2_with ((with_reducible refine wpList_unguard ?_ ?_); (focus rfl))
      go_ret
      exact ⟨by rw [hr.out]; rfl, rfl⟩
    | succ m =>
      obtain ⟨a, o, rfl, hc0⟩ := HP.out m (by omega)
      have hw : IntKind.i64.wrap (m : Int) = (m : Int) := by rw [IntKind.wrap_i64]; omega
      have hw2 : IntKind.i64.wrap (((m : Int) + 1) - 1) = (m : Int) := by rw [IntKind.wrap_i64]; omega
      have hmc : ((m : Int) + 1 - 1) = (m : Int) := by omega
      have hgt : (0 : Int) < (m : Int) + 1 := by omega
      have hmk : m < l.length := by omega
      have hmc' : m + 1 ≤ c := by omega
      by_cases hz : l.getD m 0 = 0
      · rw [hz] at hc0
        have HN : Hid (cutR (l.take m) = cutR l) := by show _ = _; rw [← HCut.out, take_snocN l m hmk, hz, cutR_snoc0]
        go_wp2_with ((with_reducible refine wpList_unguard ?_ ?_); (focus rfl))
        go_round
        case rel => exact ⟨m, by omega, by simp, HN.out⟩
        case measure => simp [sliceN]
      · have HN : Hid ((cutR l).length = m + 1) := by
          show _ = _
          rw [← HCut.out, take_snocN l m hmk, cutR_snoc _ _ hz]
          rw [List.length_append, List.length_take, List.length_singleton]
          omega
        have hne : ((l.getD m 0 : Int) == 0) = false := by rw [beq_eq_false_iff_ne]; omega
        generalize l.getD m 0 = x at *
        go_wp2_with ((with_reducible refine wpList_unguard ?_ ?_); (focus rfl))
        go_ret
        exact ⟨by rw [HN.out]; rfl, rfl⟩
end Go.Proofs.Ytgckhekikcdaiaa

namespace Go.Proofs.Ytgckhekikcdaiaa
open Go.RowKit Tri

/-- A row of numbers that the call owns. -/
def rowK (w : World) (base : Nat) (e : TypeId) (k : IntKind) (v : Value) (l : List Nat) : Prop := w.ownsRow base e 1 v l.length (l.map fun x => Value.int k (x : Nat))
theorem wpList_push {P : Program} {wr : World} {ops : Array Oper} {rest : List Oper} {o : Oper} {a : Act} {Q : Exit → Act → World → Prop} (hgd : o.guard = none) (s x : Operand) (t : TypeId)
    (ho : o.op = .call { callee := .builtin .append, args := #[s, x], argTypes := #[t, t] })
    (base : Nat) (e : TypeId) (i : TypeInfo) (k : IntKind) (bytes : Nat) (ht : P.underlying t = some (.slice e)) (hi : P.info? e = some i) (hz : i.zero = some (.int k 0))
    (hsize : i.size = 1) (hby : i.bytes = bytes) (hb8 : bytes ≤ 8)
    (v : Value) (l : List Nat) (y : Nat) (hown : rowK wr base e k v l) (hs : a.eval s = v)
    (g : Nat) (hx : a.eval x = .slice (some ⟨g, 0, none⟩) 1 1) (hg : g = wr.heap.size) (hlen : l.length ≤ 1000000) (hbase : base ≤ wr.heap.size)
    (h : ∀ v' w', rowK w' base e k v' (l ++ [y]) → Below base wr w' → wpList P ops Q rest (a.put o.dst v') w') :
    wpList P ops Q (o :: rest) a (wr.alloc (.cells #[.int k (y : Nat)] e)) := by
  subst hg
  refine wpList_append_own (wr.alloc (.cells #[.int k (y : Nat)] e)) hgd s x t ho base e i (.int k 0) 1 bytes ht hi hz hsize hby rfl (by decide) v l.length (l.map fun x => Value.int k (x : Nat)) hs (World.ownsRow.alloc hown _)
    ⟨wr.heap.size, 0, none⟩ 1 1 [Value.int k (y : Nat)] hx rfl ?_ ?_ ?_ ?_ ?_ ?_
  · intro j u hj
    match j with
    | 0 =>
      simp only [List.getElem?_cons_zero, Option.some.injEq] at hj
      subst hj
      exact World.cell?_alloc_new wr #[.int k (y : Nat)] e 0
    | j + 1 => simp at hj
  · intro u hu; simp only [List.mem_singleton] at hu; subst hu; rfl
  · unfold maxLen; omega
  · calc (l.length + 1) * bytes ≤ (l.length + 1) * 8 := Nat.mul_le_mul_left _ hb8
      _ ≤ _ := by omega
  · simp; omega
  · intro v' w' h2 h3 _
    refine h v' w' ?_ ?_
    · unfold rowK; rw [List.length_append, List.map_append]; exact h2
    · have hb0 : Below base wr (wr.alloc (.cells #[.int k (y : Nat)] e)) := ((Below.refl _ _).alloc (Nat.le_refl _) _).mono hbase
      refine hb0.grown h3 (by simp; omega) ?_
      intro b hb
      rcases hown.2 with ⟨h4, _⟩ | ⟨g', cap, cur, h4, h5, _⟩
      · rw [h4] at hb; simp [Value.ownBlock] at hb
      · rw [h4] at hb; simp only [Value.ownBlock, Option.some.injEq] at hb; omega
end Go.Proofs.Ytgckhekikcdaiaa

namespace Go.Proofs.Ytgckhekikcdaiaa
open Go.RowKit Tri

theorem rowK.below2 {w w' : World} {base : Nat} {e : TypeId} {k : IntKind} {v : Value} {l : List Nat} (h : rowK w base e k v l) (hb : Below w.heap.size w w') : rowK w' base e k v l := by
  obtain ⟨h1, h2⟩ := h
  refine ⟨h1, ?_⟩
  rcases h2 with h2 | ⟨g, cap, cur, rfl, h3, h4, h5⟩
  · exact .inl h2
  · exact .inr ⟨g, cap, cur, rfl, h3, (hb.block g (Array.getElem?_eq_some_iff.1 h4).1).trans h4, h5⟩
theorem derL_succ (a : List Nat) (k : Nat) : (List.range (k + 1)).map (derF a) = (List.range k).map (derF a) ++ [derF a k] := by rw [List.range_succ, List.map_append]; rfl
set_option maxHeartbeats 4000000 in
set_option maxRecDepth 100000 in
theorem sol_derived (p : Option Addr) (n c : Nat) (a : List Nat) (w : World) (hn : n = a.length) (hp : cellsB w p a) (hl : a.length ≤ 10000) :
    Calls Try.prog 103 #[.slice p n c] w fun e w' => ∃ v, e = .returned v ∧ ownsB w' w.heap.size v (derL a) ∧ (derL a = [] → v = .slice none 0 0) ∧ Below w.heap.size w w' := by
  subst hn
  have HP := hid hp
  have HL : Hid (derL a = (List.range (a.length - 1)).map (derF a)) := rfl
  clear hp
  obtain ⟨i0, hi, hz0, hz1, hz2⟩ := info_parts Try.infoB
  (go_enter Try.func103, Try.ntmps103; try simp only [List.append])
  go_wp2_with ((with_reducible refine wpList_unguard ?_ ?_); (focus rfl))
  go_loopw [4, 3] (fun v o wr => ∃ k : Nat, k ≤ a.length - 1 ∧ v = .int .i64 ((k : Int) + 1) ∧ ownsB wr w.heap.size o ((List.range k).map (derF a)) ∧ (k = 0 → o = .slice none 0 0) ∧ Below w.heap.size w wr) (fun v _ _ => a.length - (intOf v).toNat)
  case atStart => exact ⟨0, Nat.zero_le _, rfl, World.ownsRow_nil _ _ _ _, fun _ => rfl, Below.refl _ _⟩
  case round =>
    obtain ⟨k, hk, rfl, hO, hk0, hB⟩ := hrel
    have HO := hid hO
    have HK0 := hid hk0
    clear hk0
    have HB := hid hB
    clear hO hB
    by_cases hlt : k + 1 < a.length
    · have hlt2 : (k : Int) + 1 < (a.length : Int) := by omega
      have q0 : decide ((k : Int) + 1 < (a.length : Int)) = true := decide_eq_true hlt2
      have HS := hid (derL_succ a k)
      have hdl : ((List.range k).map (derF a)).length ≤ 1000000 := by simp; omega
      have hbs := HB.out.size
      by_cases hp2 : (k + 1) % 2 = 1
      · have hd : derF a k = a.getD (k + 1) 0 := by unfold derF; rw [if_pos hp2]
        have q : (((k : Int) + 1) % 2 == 1) = true := by rw [beq_iff_eq]; omega
        obtain ⟨b, o, rfl, hc⟩ := (HP.out.below HB.out) (k + 1) hlt
        rw [← hd] at hc
        generalize derF a k = y at *
        generalize (List.range k).map (derF a) = D at *
        have hc2 : wr.cell? ⟨b, o + k + 1, none⟩ = some (.int .u8 (y : Nat)) := hc
        clear hd hp2
        go_wp2_with (at_builtin; refine wpList_push rfl _ _ 22 rfl w.heap.size 5 i0 .u8 1 Try.underlying22 hi hz0 hz1 hz2 (by decide) _ D y HO.out rfl _ rfl rfl hdl hbs ?_)
        intro v' w' hq hb
        have HO2 : Hid (ownsB w' w.heap.size v' (D ++ [y])) := hq
        have HB2 := hid (HB.out.trans hb)
        clear hq hb
        go_wp2_with ((with_reducible refine wpList_unguard ?_ ?_); (focus rfl))
        go_roundw
        case rel => exact ⟨k + 1, by omega, by go_num, by rw [HS.out]; exact HO2.out, fun h => absurd h (Nat.succ_ne_zero k), HB2.out⟩
        case measure => simp [intOf]; omega
      · have hd : derF a k = 0 := by unfold derF; rw [if_neg hp2]
        have q : (((k : Int) + 1) % 2 == 1) = false := by rw [beq_eq_false_iff_ne]; omega
        rw [hd] at HS
        generalize (List.range k).map (derF a) = D at *
        clear hd hp2
        go_wp2_with (at_builtin; refine wpList_push rfl _ _ 22 rfl w.heap.size 5 i0 .u8 1 Try.underlying22 hi hz0 hz1 hz2 (by decide) _ D 0 HO.out rfl _ rfl rfl hdl hbs ?_)
        intro v' w' hq hb
        have HO2 : Hid (ownsB w' w.heap.size v' (D ++ [0])) := hq
        have HB2 := hid (HB.out.trans hb)
        clear hq hb
        go_wp2_with ((with_reducible refine wpList_unguard ?_ ?_); (focus rfl))
        go_roundw
        case rel => exact ⟨k + 1, by omega, by go_num, by rw [HS.out]; exact HO2.out, fun h => absurd h (Nat.succ_ne_zero k), HB2.out⟩
        case measure => simp [intOf]; omega
    · have q0 : decide ((k : Int) + 1 < (a.length : Int)) = false := decide_eq_false (by omega)
      have hke : k = a.length - 1 := by omega
      rw [hke, ← HL.out] at HO
      go_wp2_with ((with_reducible refine wpList_unguard ?_ ?_); (focus rfl))
      go_ret
      exact ⟨_, rfl, HO.out, fun h => HK0.out (by have := congrArg List.length h; rw [derL_len] at this; simp at this; omega), HB.out⟩
/-- The places at which two words have unlike bytes. -/
def unkB (a b : List Nat) (i : Nat) : Bool := decide (a.getD i 0 ≠ b.getD i 0)
def unkL (a b : List Nat) (k : Nat) : List Nat := (List.range k).filter (unkB a b)
theorem unkL_succ (a b : List Nat) (k : Nat) : unkL a b (k + 1) = if unkB a b k then unkL a b k ++ [k] else unkL a b k := by
  unfold unkL
  rw [List.range_succ, List.filter_append]
  cases h : unkB a b k <;> simp [h]
theorem unkL_len (a b : List Nat) (k : Nat) : (unkL a b k).length ≤ k := by
  unfold unkL
  have := List.length_filter_le (unkB a b) (List.range k)
  simpa using this
/-- What a call hands back in new memory: ints. -/
def RetN (w : World) (l : List Nat) (e : Ending) (w' : World) : Prop := ∃ v, e = .returned v ∧ rowK w' w.heap.size 3 .i64 v l ∧ Below w.heap.size w w'
set_option maxHeartbeats 4000000 in
set_option maxRecDepth 100000 in
theorem sol_unlikes (p q : Option Addr) (n c m d : Nat) (a b : List Nat) (w : World) (hn : n = a.length) (hp : cellsB w p a) (hm : m = b.length) (hq : cellsB w q b) (hab : a.length = b.length) (hl : a.length ≤ 10000) :
    Calls Try.prog 78 #[.slice p n c, .slice q m d] w (RetN w (unkL a b a.length)) := by
  subst hn hm
  have HP := hid hp
  have HQ := hid hq
  have HAB := hid hab
  clear hp hq hab
  obtain ⟨i0, hi, hz0, hz1, hz2⟩ := info_parts Try.infoI
  (go_enter Try.func78, Try.ntmps78; try simp only [List.append])
  go_wp2_with ((with_reducible refine wpList_unguard ?_ ?_); (focus rfl))
  go_loopw [9, 5] (fun v o wr => ∃ k : Nat, k ≤ a.length ∧ v = .int .i64 k ∧ rowK wr w.heap.size 3 .i64 o (unkL a b k) ∧ Below w.heap.size w wr) (fun v _ _ => a.length - (intOf v).toNat)
  case atStart => exact ⟨0, Nat.zero_le _, rfl, World.ownsRow_nil _ _ _ _, Below.refl _ _⟩
  case round =>
    obtain ⟨k, hk, rfl, hO, hB⟩ := hrel
    have HO := hid hO
    have HB := hid hB
    clear hO hB
    by_cases hlt : k < a.length
    · have hltb : (k : Int) < (b.length : Int) := by have := HAB.out; omega
      have hkb : k < b.length := by have := HAB.out; omega
      obtain ⟨a1, o1, rfl, hc1⟩ := (HP.out.below HB.out) k hlt
      obtain ⟨a2, o2, rfl, hc2⟩ := (HQ.out.below HB.out) k hkb
      have HS := hid (unkL_succ a b k)
      have hdl := unkL_len a b k
      have hbs := HB.out.size
      have hU : unkB a b k = decide (a.getD k 0 ≠ b.getD k 0) := rfl
      generalize a.getD k 0 = x at *
      generalize b.getD k 0 = y at *
      generalize unkL a b k = D at *
      have HO2 := hid (show rowK wr.drew w.heap.size 3 .i64 u5 D from HO.out)
      by_cases hxy : x = y
      · have q : ((x : Int) != (y : Int)) = false := by rw [bne_eq_false_iff_eq]; omega
        have hS2 : Hid (unkL a b (k + 1) = D) := by show _ = _; rw [HS.out, hU, decide_eq_false (fun h => h hxy)]; rfl
        clear hU hxy
        go_upto_region 5 with fail
        go_region
        go_wp2_with ((with_reducible refine wpList_unguard ?_ ?_); (focus rfl))
        go_roundw
        case rel => exact ⟨k + 1, by omega, by go_num, by rw [hS2.out]; exact HO2.out, HB.out.drew⟩
        case measure => simp [intOf]; omega
      · have q : ((x : Int) != (y : Int)) = true := by rw [bne_iff_ne]; omega
        have hS2 : Hid (unkL a b (k + 1) = D ++ [k]) := by show _ = _; rw [HS.out, hU, decide_eq_true hxy]; rfl
        clear hU hxy
        go_upto_region 5 with fail
        go_region
        go_wp2_with (at_builtin; refine wpList_push (wr := wr.drew) rfl _ _ 41 rfl w.heap.size 3 i0 .i64 8 Try.underlying41 hi hz0 hz1 hz2 (by decide) _ D k HO2.out rfl _ rfl rfl (by omega) hbs ?_)
        intro v' w' hq hb
        have HO3 : Hid (rowK w' w.heap.size 3 .i64 v' (D ++ [k])) := hq
        have HB2 := hid (HB.out.drew.trans hb)
        clear hq hb
        go_wp2_with ((with_reducible refine wpList_unguard ?_ ?_); (focus rfl))
        go_roundw
        case rel => exact ⟨k + 1, by omega, by go_num, by rw [hS2.out]; exact HO3.out, HB2.out⟩
        case measure => simp [intOf]; omega
    · obtain rfl : k = a.length := by omega
      go_wp2_with ((with_reducible refine wpList_unguard ?_ ?_); (focus rfl))
      go_ret
      exact ⟨_, rfl, HO.out, HB.out⟩
theorem sol_Inv (f x : Nat) (w : World) (hF : isF w f) (hx : x < 256) :
    Calls Try.prog 68 #[.pointer (some ⟨f, 0, none⟩), .int .u8 (x : Nat)] w fun e w' => e = .returned (.tuple #[.int .u8 (inv0 x : Nat), .bool (decide (x ≠ 0))]) ∧ w = w' := by
  by_cases h : x = 0
  · subst h
    exact (gf_Inv_zero f w).mono fun _ _ ⟨he, hw⟩ => ⟨by rw [he]; rfl, hw⟩
  · refine (gf_Inv f x w hF hx (by omega)).mono fun _ _ ⟨he, hw⟩ => ⟨?_, hw⟩
    rw [he]
    unfold inv0
    rw [if_neg h, decide_eq_true h]
set_option maxHeartbeats 8000000 in
set_option maxRecDepth 100000 in
theorem sol_places (V f n p0 : Nat) (sv era : Value) (pl : Option Addr) (cl : Nat) (loc : List Nat) (w : World) (hS : isS w V f n p0 sv era (.slice pl loc.length cl)) (hF : isF w f) (hn : n ≤ 255) (hl : cellsB w pl loc) (hbl : bytesL loc) (hll : loc.length ≤ 10000) (hl0 : loc ≠ []) :
    Calls Try.prog 100 #[.pointer (some ⟨V, 0, none⟩)] w (RetN w (plsL n loc n)) := by
  have c0 : w.cell? ⟨V, 0, none⟩ = some (.pointer (some ⟨f, 0, none⟩)) := hS.cell 0 _ rfl
  have c1 : w.cell? ⟨V, 1, none⟩ = some (.int .i64 n) := hS.cell 1 _ rfl
  have c5 : w.cell? ⟨V, 5, none⟩ = some (.slice pl loc.length cl) := hS.cell 5 _ rfl
  have HS := hid hS
  have HF := hid hF
  have HP := hid hl
  have HBL := hid hbl
  have H0 := hid hl0
  clear hS hF hl hbl hl0
  obtain ⟨i0, hi, hz0, hz1, hz2⟩ := info_parts Try.infoI
  (go_enter Try.func100, Try.ntmps100; try simp only [List.append])
  go_wp2_with ((with_reducible refine wpList_unguard ?_ ?_); (focus rfl))
  go_loopw [11, 3] (fun v o wr => ∃ k : Nat, k ≤ n ∧ v = .int .i64 k ∧ rowK wr w.heap.size 3 .i64 o (plsL n loc k) ∧ Below w.heap.size w wr) (fun v _ _ => n - (intOf v).toNat)
  case atStart => exact ⟨0, Nat.zero_le _, rfl, World.ownsRow_nil _ _ _ _, Below.refl _ _⟩
  case round =>
    obtain ⟨k, hk, rfl, hO, hB⟩ := hrel
    have HO := hid hO
    have HB := hid hB
    clear hO hB
    by_cases hlt : k < n
    · have HX := hid (plsL_succ n loc k)
      have hdl := plsL_len n loc k
      have hU : isPl n loc k = decide (valL loc (inv0 (plc n k)) = 0) := rfl
      have hpl := plc_lt n k
      have HB1 := hid HB.out.drew
      have HOd := hid (show rowK wr.drew w.heap.size 3 .i64 u3 (plsL n loc k) from HO.out)
      have hPc := hid (sol_place V f n p0 sv era (.slice pl loc.length cl) k wr.drew (HS.out.below HB1.out) (HF.out.blw HB1.out) hn (by omega))
      go_upto_region 5 with fail
      go_region_held3 (fun u => u.cell? ⟨V, 0, none⟩ = some (.pointer (some ⟨f, 0, none⟩))) (first | with_reducible exact cell1_keep c0 HB1.out | with_reducible exact cell1_keep c0 HB2.out) (first | (go_at_call 99; refine Calls.mono hPc.out ?_; rintro e w2 ⟨rfl, hb⟩; have HB2 := hid (HB1.out.trans (hb.mono HB1.out.size)); have HO2 := hid (HOd.out.below2 hb)) | (go_at_call 68; refine Calls.mono (sol_Inv f _ w2 (HF.out.blw HB2.out) hpl) ?_; rintro e w3 ⟨rfl, rfl⟩))
      have c5' := cell1_keep c5 HB2.out
      have hx := inv0_lt (plc n k)
      generalize inv0 (plc n k) = x at *
      have hVl := sol_value V f n p0 sv era (.slice pl loc.length cl) pl _ cl loc x w2 (HS.out.below HB2.out) (HF.out.blw HB2.out) rfl (HP.out.below HB2.out) HBL.out hll (.inl H0.out) hx
      generalize valL loc x = z at *
      generalize plsL n loc k = D at *
      clear hPc hb
      go_wp2_with ((with_reducible refine wpList_unguard ?_ ?_); (focus rfl))
      refine Calls.mono hVl ?_; rintro e w4 ⟨rfl, hb⟩
      have HB4 := hid (HB2.out.trans (hb.mono HB2.out.size))
      have HO4 := hid (HO2.out.below2 hb)
      have hbs := HB4.out.size
      clear hVl hb c5'
      by_cases hz : z = 0
      · have q : ((z : Int) == 0) = true := by rw [beq_iff_eq]; omega
        have hS2 : Hid (plsL n loc (k + 1) = D ++ [k]) := by show _ = _; rw [HX.out, hU, decide_eq_true hz]; rfl
        clear hU hz
        go_wp2_with (at_builtin; refine wpList_push rfl _ _ 41 rfl w.heap.size 3 i0 .i64 8 Try.underlying41 hi hz0 hz1 hz2 (by decide) _ D k HO4.out rfl _ rfl rfl (by omega) hbs ?_)
        intro v' w' hq hb
        have HO3 : Hid (rowK w' w.heap.size 3 .i64 v' (D ++ [k])) := hq
        have HB5 := hid (HB4.out.trans hb)
        clear hq hb
        go_wp2_with ((with_reducible refine wpList_unguard ?_ ?_); (focus rfl))
        go_roundw
        case rel => exact ⟨k + 1, by omega, by go_num, by rw [hS2.out]; exact HO3.out, HB5.out⟩
        case measure => simp [intOf]; omega
      · have q : ((z : Int) == 0) = false := by rw [beq_eq_false_iff_ne]; omega
        have hS2 : Hid (plsL n loc (k + 1) = D) := by show _ = _; rw [HX.out, hU, decide_eq_false hz]; rfl
        clear hU hz
        go_wp2_with ((with_reducible refine wpList_unguard ?_ ?_); (focus rfl))
        go_roundw
        case rel => exact ⟨k + 1, by omega, by go_num, by rw [hS2.out]; exact HO4.out, HB4.out⟩
        case measure => simp [intOf]; omega
    · obtain rfl : k = n := by omega
      go_wp2_with ((with_reducible refine wpList_unguard ?_ ?_); (focus rfl))
      go_ret
      exact ⟨_, rfl, HO.out, HB.out⟩
end Go.Proofs.Ytgckhekikcdaiaa

namespace Go.Proofs.Ytgckhekikcdaiaa
open Go.RowKit

/-- A slice's ints. -/
def cellsZ (w : World) (p : Option Addr) (l : List Int) : Prop :=
  ∀ i, i < l.length → ∃ a o, p = some ⟨a, o, none⟩ ∧ w.cell? ⟨a, o + i, none⟩ = some (.int .i64 (l.getD i 0))
theorem cellsZ.nil (w : World) (p : Option Addr) : cellsZ w p [] := fun i hi => by simp at hi
theorem cellsZ.below {w w' : World} {p : Option Addr} {l : List Int} (h : cellsZ w p l) (hb : Below w.heap.size w w') : cellsZ w' p l := by
  intro i hi
  obtain ⟨a, f, e, hc⟩ := h i hi
  exact ⟨a, f, e, by rw [hb.cell (p := ⟨a, f + i, none⟩) (block_lt_of_cell hc)]; exact hc⟩
theorem cellsZ.new (w : World) (l : List Int) (vs : Array Value) (t : TypeId) (h : vs.toList = l.map fun x => Value.int .i64 x) :
    cellsZ (w.alloc (.cells vs t)) (some ⟨w.heap.size, 0, none⟩) l := by
  intro i hi
  refine ⟨_, _, rfl, ?_⟩
  rw [World.cell?_alloc_new, ← Array.getElem?_toList, h, Nat.zero_add, List.getElem?_map, List.getElem?_eq_getElem hi]
  simp [hi]
end Go.Proofs.Ytgckhekikcdaiaa

namespace Go.Proofs.Ytgckhekikcdaiaa
open Go.RowKit

theorem any_take_succ (p : Int → Bool) (l : List Int) (k : Nat) (h : k < l.length) : (l.take (k + 1)).any p = ((l.take k).any p || p (l.getD k 0)) := by
  rw [List.take_succ_eq_append_getElem h, List.any_append]
  simp [h]
theorem any_of_at (p : Int → Bool) (l : List Int) (k : Nat) (h : k < l.length) (hp : p (l.getD k 0) = true) : l.any p = true := by
  rw [List.any_eq_true]
  refine ⟨l.getD k 0, ?_, hp⟩
  rw [List.getD_eq_getElem?_getD, List.getElem?_eq_getElem h]
  exact List.getElem_mem _
/-- What is told of a search: an index, 0 or more just if there is such a one. -/
def ixRet (p : Int → Bool) (l : List Int) (e : Ending) : Prop := ∃ r : Int, e = .returned (.int .i64 r) ∧ decide (0 ≤ r) = l.any p
set_option maxHeartbeats 400000 in
set_option maxRecDepth 100000 in
theorem sl_IndexZ (x : Int) (p : Option Addr) (n c : Nat) (l : List Int) (w : World) (hn : n = l.length) (hp : cellsZ w p l) (hl : l.length ≤ 1000000) :
    Calls Try.prog 128 #[.slice p n c, .int .i64 x] w
      fun e w' => ixRet (fun y => decide (x = y)) l e ∧ w = w' := by
  subst hn
  have HP := hid hp
  clear hp
  go_enter Try.func128, Try.ntmps128
  go_wp2
  go_loop [8] (fun i => ∃ k : Nat, k ≤ l.length ∧ i = .int .i64 k ∧ (l.take k).any (fun y => decide (x = y)) = false) (fun i => l.length - (intOf i).toNat)
  case atStart => exact ⟨0, Nat.zero_le _, rfl, rfl⟩
  case round =>
    obtain ⟨k, hk, rfl, ht⟩ := hrel
    have HT := hid ht
    clear ht
    by_cases hlt : k < l.length
    · obtain ⟨a, o, rfl, hc⟩ := HP.out k hlt
      have HS := hid (any_take_succ (fun y => decide (x = y)) l k hlt)
      have HA := hid (any_of_at (fun y => decide (x = y)) l k hlt)
      generalize l.getD k 0 = y at *
      by_cases hxy : x = y
      · have hb : (x == y) = true := beq_iff_eq.2 hxy
        go_wp2
        go_ret
        refine ⟨⟨k, rfl, ?_⟩, rfl⟩
        subst hxy
        rw [HA.out (decide_eq_true rfl)]
        exact decide_eq_true (by omega)
      · have hb : (x == y) = false := beq_eq_false_iff_ne.2 hxy
        go_wp2
        go_round
        case rel => exact ⟨k + 1, by omega, by go_num, by rw [HS.out, HT.out, decide_eq_false hxy]; rfl⟩
        case measure => simp [intOf]; omega
    · have HTT : Hid (l.any (fun y => decide (x = y)) = false) := by have := HT.out; rw [List.take_of_length_le (by omega)] at this; exact this
      go_wp2
      go_ret
      exact ⟨⟨-1, rfl, by rw [HTT.out]; rfl⟩, rfl⟩
set_option maxHeartbeats 400000 in
set_option maxRecDepth 100000 in
theorem sl_ContainsZ (x : Int) (p : Option Addr) (n c : Nat) (l : List Int) (w : World) (hn : n = l.length) (hp : cellsZ w p l) (hl : l.length ≤ 1000000) :
    Calls Try.prog 117 #[.slice p n c, .int .i64 x] w
      fun e w' => e = .returned (.bool (l.any fun y => decide (x = y))) ∧ w = w' := by
  subst hn
  have HP := hid hp
  clear hp
  go_enter Try.func117, Try.ntmps117
  go_wp2_with ((with_reducible refine wpList_unguard ?_ ?_); (focus rfl))
  refine Calls.mono (sl_IndexZ x p _ c l w rfl HP.out hl) ?_; rintro e w' ⟨⟨r, rfl, hr⟩, rfl⟩
  have HR := hid hr
  clear hr
  go_wp2_with ((with_reducible refine wpList_unguard ?_ ?_); (focus rfl))
  go_ret
  exact ⟨by rw [← HR.out]; rfl, rfl⟩
end Go.Proofs.Ytgckhekikcdaiaa
