/-
  Clone of any row, Reverse; high, value, scaled of the solver.
  gap of the solver.
  derived, unlikes, places of the solver.
  A slice's ints (of either sign), as they lie in memory.
  Rows of whole numbers (ints of either sign): slices.Index, Contains, IndexFunc, ContainsFunc of ints; what is told of a search.
  unlike, by of the solver.
  erasures of the solver.
  A region that draws its order, whose operations read, and whose calls keep a class of worlds: one walk in the order of the text.
-/
import Derived.Test.YtgckhekikcdaiaaPak9
import Derived.Test.YtgckhekikcdaiaaPak3
import Derived.Deep.RegionWith
import Derived.Deep.RegionHeld
import Derived.Test.YtgckhekikcdaiaaPak1
import Derived.ProofKit
import Derived.Deep.QuietTactic
import Derived.BigQuiet
namespace Go.Proofs.Ytgckhekikcdaiaa
open Go.RowKit Tri

set_option maxHeartbeats 1000000 in
set_option maxRecDepth 100000 in
theorem sl_CloneAny (p : Option Addr) (n c : Nat) (l : List Nat) (w : World) (hn : n = l.length) (hp : cellsB w p l) (hl : l.length ≤ 1000000) (h0 : l ≠ [] ∨ p = none) :
    Calls Try.prog 45 #[.slice p n c] w (RetB w l) := by
  subst hn
  by_cases hq : l = []
  · obtain rfl : p = none := by rcases h0 with h | h; exact absurd hq h; exact h
    subst hq
    have hnil := Lib.run_eql_slice_nil (P := Try.prog) w 22 5 none 0 c 0 0 Try.underlying22
    (go_enter Try.func45, Try.ntmps45; try simp only [List.append])
    go_wp2_with ((with_reducible refine wpList_unguard ?_ ?_); (focus rfl))
    go_ret
    exact ⟨_, rfl, World.ownsRow_nil _ _ _ _, Below.refl _ _⟩
  · obtain ⟨a, o, rfl, -⟩ := hp 0 (List.length_pos_iff.2 hq)
    exact sl_Clone_some a o _ c l w rfl hp hl
/-- What stands at a place when k from either end have changed places. -/
def rvF (l : List Nat) (k i : Nat) : Nat := if i < k ∨ l.length - k ≤ i then l.getD (l.length - 1 - i) 0 else l.getD i 0
theorem rv_zero (l : List Nat) : (List.range l.length).map (rvF l 0) = l := by
  apply List.ext_getElem (by simp)
  intro i h1 h2
  simp only [List.getElem_map, List.getElem_range]
  unfold rvF
  rw [if_neg (by simp at h1; omega), List.getD_eq_getElem?_getD, List.getElem?_eq_getElem h2]; rfl
theorem rv_full (l : List Nat) (k : Nat) (h : l.length ≤ 2 * k + 1) : (List.range l.length).map (rvF l k) = l.reverse := by
  apply List.ext_getElem (by simp)
  intro i h1 h2
  simp only [List.getElem_map, List.getElem_range, List.getElem_reverse]
  have h3 : i < l.length := by simpa using h1
  have e : l.getD (l.length - 1 - i) 0 = l[l.length - 1 - i] := by rw [List.getD_eq_getElem?_getD, List.getElem?_eq_getElem (by omega)]; rfl
  unfold rvF
  split
  · exact e
  · have : i = l.length - 1 - i := by omega
    rw [← e, ← this]
theorem rv_len (l : List Nat) (k : Nat) : ((List.range l.length).map (rvF l k)).length = l.length := by simp
theorem rv_at (l : List Nat) (k i : Nat) (h : i < l.length) : ((List.range l.length).map (rvF l k)).getD i 0 = rvF l k i := by
  rw [List.getD_eq_getElem?_getD, List.getElem?_map, List.getElem?_range h]; rfl
theorem rv_step (l : List Nat) (k : Nat) (h : 2 * k + 1 < l.length) :
    (((List.range l.length).map (rvF l k)).set k (rvF l k (l.length - 1 - k))).set (l.length - 1 - k) (rvF l k k) = (List.range l.length).map (rvF l (k + 1)) := by
  apply List.ext_getElem (by simp)
  intro i h1 h2
  have h3 : i < l.length := by simpa using h2
  simp only [List.getElem_set, List.getElem_map, List.getElem_range]
  by_cases e1 : l.length - 1 - k = i
  · rw [if_pos e1]
    unfold rvF
    rw [if_neg (by omega), if_pos (by omega), ← e1, show l.length - 1 - (l.length - 1 - k) = k from by omega]
  · rw [if_neg e1]
    by_cases e2 : k = i
    · rw [if_pos e2]
      unfold rvF
      rw [if_neg (by omega), if_pos (by omega), e2]
    · rw [if_neg e2]
      unfold rvF
      by_cases e3 : i < k ∨ l.length - k ≤ i
      · rw [if_pos e3, if_pos (by omega)]
      · rw [if_neg e3, if_neg (by omega)]
set_option maxHeartbeats 1000000 in
theorem sl_Reverse_nil (c : Nat) (w : World) : Calls Try.prog 107 #[.slice none 0 c] w fun e w' => e = .returned (.tuple #[]) ∧ w = w' := by
  (go_enter Try.func107, Try.ntmps107; try simp only [List.append])
  go_wp2_with ((with_reducible refine wpList_unguard ?_ ?_); (focus rfl))
  go_loopw [2, 3] (fun i j wr => i = .int .i64 0 ∧ j = .int .i64 (-1) ∧ wr = w) (fun _ _ _ => 0)
  case atStart => exact ⟨rfl, rfl, rfl⟩
  case round =>
    obtain ⟨rfl, rfl, rfl⟩ := hrel
    go_wp2_with ((with_reducible refine wpList_unguard ?_ ?_); (focus rfl))
    go_returns
    exact ⟨rfl, rfl⟩
set_option maxHeartbeats 4000000 in
set_option maxRecDepth 100000 in
theorem sl_Reverse (w0 : World) (g cap : Nat) (l : List Nat) (w : World) (hg : w0.heap.size ≤ g) (hB : Below w0.heap.size w0 w) (hb : bufB w g l) (hl : l.length ≤ 1000000) :
    Calls Try.prog 107 #[.slice (some ⟨g, 0, none⟩) l.length cap] w fun e w' => e = .returned (.tuple #[]) ∧ bufB w' g l.reverse ∧ Below w0.heap.size w0 w' := by
  have HG := hid hg
  have HB := hid hB
  have HU := hid hb
  clear hB hb hg
  (go_enter Try.func107, Try.ntmps107; try simp only [List.append])
  go_wp2_with ((with_reducible refine wpList_unguard ?_ ?_); (focus rfl))
  go_loopw [2, 3] (fun i j wr => ∃ k : Nat, 2 * k ≤ l.length ∧ i = .int .i64 k ∧ j = .int .i64 ((l.length : Int) - 1 - k) ∧ bufB wr g ((List.range l.length).map (rvF l k)) ∧ Below w0.heap.size w0 wr) (fun i _ _ => l.length - (intOf i).toNat)
  case atStart => exact ⟨0, Nat.zero_le _, rfl, by simp, by rw [rv_zero]; exact HU.out, HB.out⟩
  case round =>
    clear HU HB
    obtain ⟨k, hk, rfl, rfl, hU, hB⟩ := hrel
    have HU := hid hU
    have HB := hid hB
    clear hU hB
    by_cases hlt : 2 * k + 1 < l.length
    · obtain ⟨J, hJ⟩ : ∃ J : Nat, (l.length : Int) - 1 - k = J := ⟨l.length - 1 - k, by omega⟩
      have hJn : J = l.length - 1 - k := by omega
      have hkJ : k ≠ J := by omega
      have hkJ2 : (k : Int) < (J : Int) := by omega
      have a0 := HU.out.at k (by rw [rv_len]; omega)
      have a1 := HU.out.at J (by rw [rv_len]; omega)
      have f0 := HU.out.2 k (by rw [rv_len]; omega)
      have f1 := HU.out.2 J (by rw [rv_len]; omega)
      rw [rv_at _ _ _ (by omega)] at a0 a1
      have hst := ((HU.out.set k (rvF l k J) (by rw [rv_len]; omega)).set J (rvF l k k) (by rw [List.length_set, rv_len]; omega)).drew
      have hsp := rv_step l k hlt
      rw [← hJn] at hsp
      rw [hsp] at hst
      have HST := hid hst
      have HBl := hid (((HB.out.setCell (p := ⟨g, k, none⟩) HG.out (.int .u8 (rvF l k J : Nat))).setCell (p := ⟨g, J, none⟩) HG.out (.int .u8 (rvF l k k : Nat))).drew)
      rw [hJ]
      clear hst hsp
      generalize rvF l k J = x at *
      generalize rvF l k k = y at *
      have a0d : wr.drew.cell? ⟨g, k, none⟩ = some (.int .u8 (y : Nat)) := a0
      have a1d : wr.drew.cell? ⟨g, J, none⟩ = some (.int .u8 (x : Nat)) := a1
      have f0d : wr.drew.frozen? ⟨g, k, none⟩ = false := f0
      have f1d : wr.drew.frozen? ⟨g, J, none⟩ = false := f1
      have hJl : (J : Int) < (l.length : Int) := by omega
      have hkl : (k : Int) < (l.length : Int) := by omega
      have HJ := hid hJ
      have HLT := hid hlt
      clear hJ hJn hlt hkJ
      have hkJ : k ≠ J := by omega
      have hJk : J ≠ k := by omega
      go_upto_region 3 with fail
      go_region
      go_wp2
      go_roundw
      case rel => exact ⟨k + 1, by have := HLT.out; omega, by go_num, congrArg (Value.int .i64) (by have := HJ.out; omega), HST.out, HBl.out⟩
      case measure => simp [intOf]; have := HLT.out; omega
    · have q : decide ((k : Int) < (l.length : Int) - 1 - k) = false := decide_eq_false (by omega)
      rw [rv_full l k (by omega)] at HU
      go_wp2_with ((with_reducible refine wpList_unguard ?_ ?_); (focus rfl))
      go_returns
      exact ⟨rfl, HU.out, HB.out⟩
theorem ownsB.buf2 {w : World} {base : Nat} {v : Value} {l : List Nat} (h : ownsB w base v l) (hl : l ≠ []) : ∃ g cap, v = .slice (some ⟨g, 0, none⟩) l.length cap ∧ base ≤ g ∧ l.length ≤ cap ∧ bufB w g l := by
  rcases h.buf with ⟨-, h1⟩ | h1
  · exact absurd h1 hl
  · exact h1
set_option maxHeartbeats 1000000 in
set_option maxRecDepth 100000 in
theorem sol_high (p : Option Addr) (n c : Nat) (l : List Nat) (w : World) (hn : n = l.length) (hp : cellsB w p l) (hl : l.length ≤ 1000000) (h0 : l ≠ [] ∨ p = none) :
    Calls Try.prog 83 #[.slice p n c] w (RetC w l.reverse) := by
  subst hn
  have HC := hid (sl_CloneAny p _ c l w rfl hp hl h0)
  clear hp h0
  (go_enter Try.func83, Try.ntmps83; try simp only [List.append])
  go_wp2_with ((with_reducible refine wpList_unguard ?_ ?_); (focus rfl))
  refine Calls.mono HC.out ?_; rintro e w1 ⟨v, rfl, hO, hB⟩
  clear HC
  have HB := hid hB
  rcases hO.buf with ⟨rfl, rfl⟩ | ⟨g, cap, rfl, hg, hc, hbuf⟩
  · clear hO hB
    go_wp2_with ((with_reducible refine wpList_unguard ?_ ?_); (focus rfl))
    refine Calls.mono (sl_Reverse_nil 0 w1) ?_; rintro e w2 ⟨rfl, rfl⟩
    go_wp2_with ((with_reducible refine wpList_unguard ?_ ?_); (focus rfl))
    go_ret
    exact ⟨none, 0, rfl, Nat.le_refl _, cellsB.nil _ _, HB.out⟩
  · have HR := hid (sl_Reverse w g cap l w1 hg hB hbuf hl)
    clear hO hB hbuf HB
    go_wp2_with ((with_reducible refine wpList_unguard ?_ ?_); (focus rfl))
    refine Calls.mono HR.out ?_; rintro e w2 ⟨rfl, hbuf, hB⟩
    have HB := hid hB
    have HU := hid hbuf
    have hlr : Hid (l.reverse.length = l.length) := List.length_reverse
    clear HR hB hbuf
    go_wp2_with ((with_reducible refine wpList_unguard ?_ ?_); (focus rfl))
    go_ret
    exact ⟨some ⟨g, 0, none⟩, cap, by rw [hlr.out]; rfl, by rw [hlr.out]; exact hc, HU.out.1, HB.out⟩
theorem rev_bytes {a : List Nat} (h : bytesL a) : bytesL a.reverse := fun x hx => h x (List.mem_reverse.1 hx)
set_option maxHeartbeats 4000000 in
set_option maxRecDepth 100000 in
theorem sol_value (V f n0 p0 : Nat) (sv era loc : Value) (p : Option Addr) (n c : Nat) (a : List Nat) (x : Nat) (w : World) (hS : isS w V f n0 p0 sv era loc) (hF : isF w f) (hn : n = a.length) (hp : cellsB w p a) (ha : bytesL a) (hla : a.length ≤ 10000) (h0 : a ≠ [] ∨ p = none) (hx : x < 256) :
    Calls Try.prog 116 #[.pointer (some ⟨V, 0, none⟩), .slice p n c, .int .u8 x] w fun e w' => e = .returned (.int .u8 (valL a x : Nat)) ∧ Below w.heap.size w w' := by
  have c0 : w.cell? ⟨V, 0, none⟩ = some (.pointer (some ⟨f, 0, none⟩)) := hS.cell 0 _ rfl
  have HF := hid hF
  have HA := hid ha
  subst hn
  have HC := hid (sol_high p _ c a w.drew rfl hp (by omega) h0)
  have hb0 := hid ((Below.refl w.heap.size w).drew)
  clear hS hF hp ha h0
  (go_enter Try.func116, Try.ntmps116; try simp only [List.append])
  go_upto_region 1 with fail
  go_region_held3 (fun u => u.cell? ⟨V, 0, none⟩ = some (.pointer (some ⟨f, 0, none⟩))) (first | with_reducible exact cell1_keep c0 hb0.out | with_reducible exact cell1_keep c0 hB.out | with_reducible exact cell1_keep c0 hB2) (first | (go_at_call 83; refine Calls.mono HC.out ?_; rintro e w2 ⟨p2, c2, rfl, hc2, hcell, hb⟩; have hB := hid (hb0.out.trans (hb.mono (Nat.le_refl _))); clear hb) | (go_at_call 25; refine Calls.mono (poly_Eval f p2 _ c2 a.reverse x w2 (HF.out.blw hB.out) (by simp) hcell (rev_bytes HA.out) hx (by rw [List.length_reverse]; omega)) ?_; rintro e w3 ⟨rfl, hk⟩; have hB2 := hB.out.trans (hk.1.mono hB.out.size)))
  all_goals (go_wp2_with ((with_reducible refine wpList_unguard ?_ ?_); (focus rfl)))
  go_ret
  exact ⟨rfl, hB2⟩
/-- A list whose places are reckoned anew, one by one. -/
def stF (f g : Nat → Nat) (n k : Nat) : List Nat := (List.range n).map fun i => if i < k then f i else g i
theorem stF_len (f g : Nat → Nat) (n k : Nat) : (stF f g n k).length = n := by unfold stF; simp
theorem stF_at (f g : Nat → Nat) {n k : Nat} (h : k < n) : (stF f g n k).getD k 0 = g k := by
  unfold stF
  rw [List.getD_eq_getElem?_getD, List.getElem?_map, List.getElem?_range h]
  simp
theorem stF_set (f g : Nat → Nat) {n k : Nat} (h : k < n) : (stF f g n k).set k (f k) = stF f g n (k + 1) := by
  unfold stF
  apply List.ext_getElem (by simp)
  intro i h1 h2
  simp only [List.getElem_set, List.getElem_map, List.getElem_range]
  by_cases e : k = i
  · subst e; simp
  · rw [if_neg e]
    by_cases e2 : i < k
    · rw [if_pos e2, if_pos (by omega)]
    · rw [if_neg e2, if_neg (by omega)]
theorem range_getD (a : List Nat) : (List.range a.length).map (fun i => a.getD i 0) = a := by
  apply List.ext_getElem (by simp)
  intro i h1 h2
  simp [h2]
theorem stF_zero (f : Nat → Nat) (a : List Nat) : stF f (fun i => a.getD i 0) a.length 0 = a := by
  unfold stF
  simp only [Nat.not_lt_zero, if_false]
  exact range_getD a
theorem stF_full (f g : Nat → Nat) (n : Nat) : stF f g n n = (List.range n).map f := by
  unfold stF
  exact List.map_congr_left fun i hi => by rw [if_pos (List.mem_range.1 hi)]
theorem scaled_st (a : List Nat) (y : Nat) : scaledL a y = (List.range a.length).map fun i => gmul (a.getD i 0) y := by
  unfold scaledL
  have := congrArg (List.map fun x => gmul x y) (range_getD a)
  rw [List.map_map] at this
  exact this.symm
set_option maxHeartbeats 8000000 in
set_option maxRecDepth 100000 in
theorem sol_scaled (V f n0 p0 : Nat) (sv era loc : Value) (p : Option Addr) (n c : Nat) (a : List Nat) (y : Nat) (w : World) (hS : isS w V f n0 p0 sv era loc) (hF : isF w f) (hn : n = a.length) (hp : cellsB w p a) (ha : bytesL a) (hla : a.length ≤ 10000) (h0 : a ≠ []) (hy : y < 256) :
    Calls Try.prog 81 #[.pointer (some ⟨V, 0, none⟩), .slice p n c, .int .u8 y] w (RetC w (scaledL a y)) := by
  subst hn
  have c0 : w.cell? ⟨V, 0, none⟩ = some (.pointer (some ⟨f, 0, none⟩)) := hS.cell 0 _ rfl
  have hVw : V < w.heap.size := block_lt_of_cell c0
  have HF := hid hF
  have HA := hid ha
  have H0 := hid h0
  have HL : Hid (scaledL a y = (List.range a.length).map fun i => gmul (a.getD i 0) y) := scaled_st a y
  have HC := hid (sl_CloneAny p _ c a w rfl hp (by omega) (.inl h0))
  clear hS hF hp ha h0
  (go_enter Try.func81, Try.ntmps81; try simp only [List.append])
  go_wp2_with ((with_reducible refine wpList_unguard ?_ ?_); (focus rfl))
  refine Calls.mono HC.out ?_; rintro e w1 ⟨v, rfl, hO, hB⟩
  obtain ⟨ob, cap, rfl, hob, hcap, hbuf⟩ := hO.buf2 H0.out
  have HB := hid hB
  have HOB := hid hob
  have hz : bufB w1 ob (stF (fun i => gmul (a.getD i 0) y) (fun i => a.getD i 0) a.length 0) := by rw [stF_zero]; exact hbuf
  have HBF := hid hz
  have hVob : V ≠ ob := by omega
  clear HC hO hB hob hbuf hz hVw
  go_wp2_with ((with_reducible refine wpList_unguard ?_ ?_); (focus rfl))
  go_loopw [13] (fun v wr => ∃ k : Nat, k ≤ a.length ∧ v = .int .i64 k ∧ bufB wr ob (stF (fun i => gmul (a.getD i 0) y) (fun i => a.getD i 0) a.length k) ∧ Below w.heap.size w wr) (fun v _ => a.length - (intOf v).toNat)
  case atStart => exact ⟨0, Nat.zero_le _, rfl, HBF.out, HB.out⟩
  case round =>
    clear HBF HB
    obtain ⟨k, hk, rfl, hbuf, hB⟩ := hrel
    have HB := hid hB
    have HBF := hid hbuf
    clear hB hbuf
    by_cases hlt : k < a.length
    · have hbc := HBF.out.at k (by rw [stF_len]; exact hlt)
      rw [stF_at _ _ hlt] at hbc
      have hbf := HBF.out.2 k (by rw [stF_len]; exact hlt)
      have hx1 : a.getD k 0 < 256 := getD_lt HA.out k
      have hFd := hid (HF.out.blw HB.out.drew)
      have hset := stF_set (fun i => gmul (a.getD i 0) y) (fun i => a.getD i 0) hlt
      obtain ⟨x, hx⟩ : ∃ x, a.getD k 0 = x := ⟨_, rfl⟩
      obtain ⟨z, hz⟩ : ∃ z, gmul (a.getD k 0) y = z := ⟨_, rfl⟩
      simp only [hz] at hset
      have hMul : ∀ s, s = wr.heap.size → Calls Try.prog 52 #[.pointer (some ⟨f, 0, none⟩), .slice (some ⟨s, 0, none⟩) 2 2] (wr.alloc (.cells #[.int .u8 (x : Nat), .int .u8 (y : Nat)] 5)).drew fun e w' => e = .returned (.int .u8 (z : Nat)) ∧ (wr.alloc (.cells #[.int .u8 (x : Nat), .int .u8 (y : Nat)] 5)).drew = w' := by
        rintro s rfl
        rw [← hz, hx]
        exact gf_Mul2 f _ x y _ _ wr.drew hFd.out rfl rfl rfl (hx ▸ hx1) hy _
      rw [hx] at hbc
      have hbd : wr.drew.cell? ⟨ob, k, none⟩ = some (.int .u8 (x : Nat)) := hbc
      have hsc : ((wr.alloc (.cells #[.int .u8 (x : Nat), .int .u8 (y : Nat)] 5)).drew).cell? ⟨ob, k, none⟩ = some (.int .u8 (x : Nat)) := cell1_keep hbc ((Below.refl wr.heap.size wr).alloc (Nat.le_refl _) _).drew
      have hsf : ((wr.alloc (.cells #[.int .u8 (x : Nat), .int .u8 (y : Nat)] 5)).drew).frozen? ⟨ob, k, none⟩ = false := by
        show (wr.alloc _).frozen? _ = false
        rw [frozen?_alloc_cells]; exact hbf
      have kb2 := fun o => cell1_keep c0 (HB.out.alloc HB.out.size o).drew
      have kb4 := fun o v => cell1_keep c0 ((HB.out.alloc HB.out.size o).setCell (p := ⟨ob, k, none⟩) HOB.out v).drew
      have hst := ((HBF.out.alloc #[.int .u8 (x : Nat), .int .u8 (y : Nat)] 5).set k z (by rw [stF_len]; exact hlt)).drew
      rw [hset] at hst
      have HST := hid hst
      have hBl := hid (((HB.out.alloc HB.out.size (.cells #[.int .u8 (x : Nat), .int .u8 (y : Nat)] 5)).setCell (p := ⟨ob, k, none⟩) HOB.out (.int .u8 (z : Nat))).drew)
      clear hst hset hx1 hx hz hbf
      go_upto_region 5 with fail
      have c0a : wr.drew.cell? ⟨V, 0, none⟩ = some (.pointer (some ⟨f, 0, none⟩)) := cell1_keep c0 HB.out.drew
      have c0b := kb2 (.cells #[.int .u8 (x : Nat), .int .u8 (y : Nat)] 5)
      have c0w : wr.cell? ⟨V, 0, none⟩ = some (.pointer (some ⟨f, 0, none⟩)) := cell1_keep c0 HB.out
      clear kb2 kb4
      go_region_with (first | (go_at_call 52; refine Calls.mono (hMul _ (by first | rfl | simp)) ?_; rintro e w2 ⟨rfl, rfl⟩))
      all_goals go_wp2
      all_goals go_roundw
      all_goals first | exact ⟨k + 1, by omega, by go_num, HST.out, hBl.out⟩ | (simp [intOf]; omega)
    · obtain rfl : k = a.length := by omega
      rw [stF_full, ← HL.out] at HBF
      have hl : Hid ((scaledL a y).length = a.length) := scaledL_len a y
      go_wp2_with ((with_reducible refine wpList_unguard ?_ ?_); (focus rfl))
      go_ret
      exact ⟨some ⟨ob, 0, none⟩, cap, by rw [hl.out]; rfl, by rw [hl.out]; exact hcap, HBF.out.1, HB.out⟩
end Go.Proofs.Ytgckhekikcdaiaa

namespace Go.Proofs.Ytgckhekikcdaiaa
open Go.RowKit Tri

set_option maxHeartbeats 8000000 in
set_option maxRecDepth 100000 in
theorem sol_gap (V f n0 p0 : Nat) (ps : Option Addr) (cs : Nat) (s : List Nat) (era : Value) (pl : Option Addr) (cl : Nat) (loc : List Nat) (r : Nat) (w : World) (hS : isS w V f n0 p0 (.slice ps s.length cs) era (.slice pl loc.length cl)) (hF : isF w f)
    (hs : cellsB w ps s) (hbs : bytesL s) (hls : s.length ≤ 10000) (hl : cellsB w pl loc) (hbl : bytesL loc) (hll : loc.length ≤ 10000) (hr : r ≤ 1000) :
    Calls Try.prog 79 #[.pointer (some ⟨V, 0, none⟩), .int .i64 r] w fun e w' => e = .returned (.int .u8 (gapL s loc r : Nat)) ∧ Below w.heap.size w w' := by
  have c0 : w.cell? ⟨V, 0, none⟩ = some (.pointer (some ⟨f, 0, none⟩)) := hS.cell 0 _ rfl
  have c3 : w.cell? ⟨V, 3, none⟩ = some (.slice ps s.length cs) := hS.cell 3 _ rfl
  have c5 : w.cell? ⟨V, 5, none⟩ = some (.slice pl loc.length cl) := hS.cell 5 _ rfl
  have HF := hid hF
  have HP := hid hs
  have HQ := hid hl
  have HBS := hid hbs
  have HBL := hid hbl
  have HG : Hid (gapL s loc r = xorS (gapF s loc r) loc.length) := rfl
  clear hS hF hs hl hbs hbl
  (go_enter Try.func79, Try.ntmps79; try simp only [List.append])
  go_wp2_with ((with_reducible refine wpList_unguard ?_ ?_); (focus rfl))
  go_loopw [12, 5] (fun v o wr => ∃ k : Nat, k ≤ loc.length ∧ v = .int .i64 k ∧ o = .int .u8 (xorS (gapF s loc r) k : Nat) ∧ Below w.heap.size w wr) (fun v _ _ => loc.length - (intOf v).toNat)
  case atStart => exact ⟨0, Nat.zero_le _, rfl, rfl, Below.refl _ _⟩
  case round =>
    obtain ⟨k, hk, rfl, rfl, hB⟩ := hrel
    have HB := hid hB
    clear hB
    by_cases hlt : k < loc.length
    · obtain ⟨b, o, rfl, cl0⟩ := HQ.out k hlt
      have hx0 : xorS (gapF s loc r) k < 256 := xorS_lt (gapF_lt s loc r) k
      have hx1 : loc.getD k 0 < 256 := getD_lt HBL.out k
      have hx2 : coZ s ((r : Int) - 1 - k) < 256 := coZ_lt HBS.out _
      have HX : Hid (xorS (gapF s loc r) (k + 1) = xorS (gapF s loc r) k ^^^ gmul (loc.getD k 0) (coZ s ((r : Int) - 1 - k))) := rfl
      have hx3 : gmul (loc.getD k 0) (coZ s ((r : Int) - 1 - k)) < 256 := gmul_lt _ _
      have hAt : ∀ (x : Int), x = (r : Int) - 1 - k → Calls Try.prog 105 #[.slice ps s.length cs, .int .i64 x] wr.drew fun e w' => e = .returned (.int .u8 (coZ s ((r : Int) - 1 - k) : Nat)) ∧ wr.drew = w' := by
        rintro x rfl
        exact sol_at ps _ cs s _ wr.drew rfl (HP.out.below HB.out.drew) (by omega)
      have hw1 : IntKind.i64.wrap (IntKind.i64.wrap ((r : Int) - 1) - k) = (r : Int) - 1 - k := by rw [IntKind.wrap_i64, IntKind.wrap_i64]; omega
      have hFd := hid (HF.out.blw HB.out.drew)
      obtain ⟨y0, hy0⟩ : ∃ y, xorS (gapF s loc r) k = y := ⟨_, rfl⟩
      obtain ⟨y1, hy1⟩ : ∃ y, loc.getD k 0 = y := ⟨_, rfl⟩
      obtain ⟨y2, hy2⟩ : ∃ y, coZ s ((r : Int) - 1 - k) = y := ⟨_, rfl⟩
      rw [hy0, hy1, hy2] at HX
      rw [hy1, hy2] at hx3
      rw [hy0] at hx0 ⊢
      rw [hy1] at hx1 cl0
      rw [hy2] at hx2 hAt
      obtain ⟨y3, hy3⟩ : ∃ y, gmul y1 y2 = y := ⟨_, rfl⟩
      rw [hy3] at HX hx3
      have hMul : ∀ t, t = wr.heap.size → Calls Try.prog 52 #[.pointer (some ⟨f, 0, none⟩), .slice (some ⟨t, 0, none⟩) 2 2] (wr.alloc (.cells #[.int .u8 (y1 : Nat), .int .u8 (y2 : Nat)] 5)).drew fun e w' => e = .returned (.int .u8 (y3 : Nat)) ∧ (wr.alloc (.cells #[.int .u8 (y1 : Nat), .int .u8 (y2 : Nat)] 5)).drew = w' := by
        rintro t rfl
        rw [← hy3]
        exact gf_Mul2 f _ y1 y2 _ _ wr.drew hFd.out rfl rfl rfl hx1 hx2 _
      have hAdd : ∀ t, t = wr.heap.size + 1 → Calls Try.prog 51 #[.pointer (some ⟨f, 0, none⟩), .slice (some ⟨t, 0, none⟩) 2 2] ((wr.alloc (.cells #[.int .u8 (y1 : Nat), .int .u8 (y2 : Nat)] 5)).alloc (.cells #[.int .u8 (y0 : Nat), .int .u8 (y3 : Nat)] 5)).drew fun e w' => e = .returned (.int .u8 (y0 ^^^ y3 : Nat)) ∧ ((wr.alloc (.cells #[.int .u8 (y1 : Nat), .int .u8 (y2 : Nat)] 5)).alloc (.cells #[.int .u8 (y0 : Nat), .int .u8 (y3 : Nat)] 5)).drew = w' := by
        rintro t rfl
        exact gf_Add2 f _ y0 y3 _ _ (wr.alloc (.cells #[.int .u8 (y1 : Nat), .int .u8 (y2 : Nat)] 5)).drew (by simp) rfl rfl hx0 hx3 _
      have hB1 := hid HB.out.drew
      have hB2 := fun o => hid (HB.out.alloc HB.out.size o).drew
      have hB3 := fun o o2 => hid ((HB.out.alloc HB.out.size o).alloc (HB.out.alloc HB.out.size o).size o2).drew
      clear hx0 hx1 hx2 hx3 hy0 hy1 hy2 hy3
      go_upto_region 5 with fail
      go_region_held3 (fun u => u.cell? ⟨V, 0, none⟩ = some (.pointer (some ⟨f, 0, none⟩)) ∧ u.cell? ⟨V, 3, none⟩ = some (.slice ps s.length cs) ∧ u.cell? ⟨V, 5, none⟩ = some (.slice (some ⟨b, o, none⟩) loc.length cl) ∧ u.cell? ⟨b, o + k, none⟩ = some (.int .u8 (y1 : Nat))) (first | with_reducible exact kk4 c0 c3 c5 cl0 hB1.out | with_reducible exact kk4 c0 c3 c5 cl0 (hB2 _).out | with_reducible exact kk4 c0 c3 c5 cl0 (hB3 _ _).out) (first | (go_at_call 105; with_reducible refine Calls.mono (hAt _ (by first | with_reducible rfl | with_reducible exact hw1)) ?_; rintro e w2 ⟨rfl, rfl⟩) | (go_at_call 52; refine Calls.mono (hMul _ (by first | rfl | simp)) ?_; rintro e w2 ⟨rfl, rfl⟩) | (go_at_call 51; refine Calls.mono (hAdd _ (by first | rfl | simp)) ?_; rintro e w2 ⟨rfl, rfl⟩))
      all_goals go_wp2
      all_goals go_roundw
      case rel => exact ⟨k + 1, by omega, by go_num, by rw [HX.out], (hB3 _ _).out⟩
      case measure => simp [intOf]; omega
    · obtain rfl : k = loc.length := by omega
      rw [← HG.out]
      go_wp2_with ((with_reducible refine wpList_unguard ?_ ?_); (focus rfl))
      go_ret
      exact ⟨rfl, HB.out⟩
end Go.Proofs.Ytgckhekikcdaiaa

namespace Go.Proofs.Ytgckhekikcdaiaa
open Go.RowKit Tri

theorem rowK.below2 {w w' : World} {base : Nat} {e : TypeId} {k : IntKind} {v : Value} {l : List Nat} (h : rowK w base e k v l) (hb : Below w.heap.size w w') : rowK w' base e k v l := by
  obtain ⟨h1, h2⟩ := h
  refine ⟨h1, ?_⟩
  rcases h2 with h2 | ⟨g, cap, cur, rfl, h3, h4, h5⟩
  · exact .inl h2
  · exact .inr ⟨g, cap, cur, rfl, h3, (hb.block g (Array.getElem?_eq_some_iff.1 h4).1).trans h4, h5⟩
theorem derL_succ (a : List Nat) (k : Nat) : (List.range (k + 1)).map (derF a) = (List.range k).map (derF a) ++ [derF a k] := by rw [List.range_succ, List.map_append]; rfl
set_option maxHeartbeats 4000000 in
set_option maxRecDepth 100000 in
theorem sol_derived (p : Option Addr) (n c : Nat) (a : List Nat) (w : World) (hn : n = a.length) (hp : cellsB w p a) (hl : a.length ≤ 10000) :
    Calls Try.prog 103 #[.slice p n c] w fun e w' => ∃ v, e = .returned v ∧ ownsB w' w.heap.size v (derL a) ∧ (derL a = [] → v = .slice none 0 0) ∧ Below w.heap.size w w' := by
  subst hn
  have HP := hid hp
  have HL : Hid (derL a = (List.range (a.length - 1)).map (derF a)) := rfl
  clear hp
  obtain ⟨i0, hi, hz0, hz1, hz2⟩ := info_parts Try.infoB
  (go_enter Try.func103, Try.ntmps103; try simp only [List.append])
  go_wp2_with ((with_reducible refine wpList_unguard ?_ ?_); (focus rfl))
  go_loopw [4, 3] (fun v o wr => ∃ k : Nat, k ≤ a.length - 1 ∧ v = .int .i64 ((k : Int) + 1) ∧ ownsB wr w.heap.size o ((List.range k).map (derF a)) ∧ (k = 0 → o = .slice none 0 0) ∧ Below w.heap.size w wr) (fun v _ _ => a.length - (intOf v).toNat)
  case atStart => exact ⟨0, Nat.zero_le _, rfl, World.ownsRow_nil _ _ _ _, fun _ => rfl, Below.refl _ _⟩
  case round =>
    obtain ⟨k, hk, rfl, hO, hk0, hB⟩ := hrel
    have HO := hid hO
    have HK0 := hid hk0
    clear hk0
    have HB := hid hB
    clear hO hB
    by_cases hlt : k + 1 < a.length
    · have hlt2 : (k : Int) + 1 < (a.length : Int) := by omega
      have q0 : decide ((k : Int) + 1 < (a.length : Int)) = true := decide_eq_true hlt2
      have HS := hid (derL_succ a k)
      have hdl : ((List.range k).map (derF a)).length ≤ 1000000 := by simp; omega
      have hbs := HB.out.size
      by_cases hp2 : (k + 1) % 2 = 1
      · have hd : derF a k = a.getD (k + 1) 0 := by unfold derF; rw [if_pos hp2]
        have q : (((k : Int) + 1) % 2 == 1) = true := by rw [beq_iff_eq]; omega
        obtain ⟨b, o, rfl, hc⟩ := (HP.out.below HB.out) (k + 1) hlt
        rw [← hd] at hc
        generalize derF a k = y at *
        generalize (List.range k).map (derF a) = D at *
        have hc2 : wr.cell? ⟨b, o + k + 1, none⟩ = some (.int .u8 (y : Nat)) := hc
        clear hd hp2
        go_wp2_with (at_builtin; refine wpList_push rfl _ _ 22 rfl w.heap.size 5 i0 .u8 1 Try.underlying22 hi hz0 hz1 hz2 (by decide) _ D y HO.out rfl _ rfl rfl hdl hbs ?_)
        intro v' w' hq hb
        have HO2 : Hid (ownsB w' w.heap.size v' (D ++ [y])) := hq
        have HB2 := hid (HB.out.trans hb)
        clear hq hb
        go_wp2_with ((with_reducible refine wpList_unguard ?_ ?_); (focus rfl))
        go_roundw
        case rel => exact ⟨k + 1, by omega, by go_num, by rw [HS.out]; exact HO2.out, fun h => absurd h (Nat.succ_ne_zero k), HB2.out⟩
        case measure => simp [intOf]; omega
      · have hd : derF a k = 0 := by unfold derF; rw [if_neg hp2]
        have q : (((k : Int) + 1) % 2 == 1) = false := by rw [beq_eq_false_iff_ne]; omega
        rw [hd] at HS
        generalize (List.range k).map (derF a) = D at *
        clear hd hp2
        go_wp2_with (at_builtin; refine wpList_push rfl _ _ 22 rfl w.heap.size 5 i0 .u8 1 Try.underlying22 hi hz0 hz1 hz2 (by decide) _ D 0 HO.out rfl _ rfl rfl hdl hbs ?_)
        intro v' w' hq hb
        have HO2 : Hid (ownsB w' w.heap.size v' (D ++ [0])) := hq
        have HB2 := hid (HB.out.trans hb)
        clear hq hb
        go_wp2_with ((with_reducible refine wpList_unguard ?_ ?_); (focus rfl))
        go_roundw
        case rel => exact ⟨k + 1, by omega, by go_num, by rw [HS.out]; exact HO2.out, fun h => absurd h (Nat.succ_ne_zero k), HB2.out⟩
        case measure => simp [intOf]; omega
    · have q0 : decide ((k : Int) + 1 < (a.length : Int)) = false := decide_eq_false (by omega)
      have hke : k = a.length - 1 := by omega
      rw [hke, ← HL.out] at HO
      go_wp2_with ((with_reducible refine wpList_unguard ?_ ?_); (focus rfl))
      go_ret
      exact ⟨_, rfl, HO.out, fun h => HK0.out (by have := congrArg List.length h; rw [derL_len] at this; simp at this; omega), HB.out⟩
/-- The places at which two words have unlike bytes. -/
def unkB (a b : List Nat) (i : Nat) : Bool := decide (a.getD i 0 ≠ b.getD i 0)
def unkL (a b : List Nat) (k : Nat) : List Nat := (List.range k).filter (unkB a b)
theorem unkL_succ (a b : List Nat) (k : Nat) : unkL a b (k + 1) = if unkB a b k then unkL a b k ++ [k] else unkL a b k := by
  unfold unkL
  rw [List.range_succ, List.filter_append]
  cases h : unkB a b k <;> simp [h]
theorem unkL_len (a b : List Nat) (k : Nat) : (unkL a b k).length ≤ k := by
  unfold unkL
  have := List.length_filter_le (unkB a b) (List.range k)
  simpa using this
/-- What a call hands back in new memory: ints. -/
def RetN (w : World) (l : List Nat) (e : Ending) (w' : World) : Prop := ∃ v, e = .returned v ∧ rowK w' w.heap.size 3 .i64 v l ∧ Below w.heap.size w w'
set_option maxHeartbeats 4000000 in
set_option maxRecDepth 100000 in
theorem sol_unlikes (p q : Option Addr) (n c m d : Nat) (a b : List Nat) (w : World) (hn : n = a.length) (hp : cellsB w p a) (hm : m = b.length) (hq : cellsB w q b) (hab : a.length = b.length) (hl : a.length ≤ 10000) :
    Calls Try.prog 78 #[.slice p n c, .slice q m d] w (RetN w (unkL a b a.length)) := by
  subst hn hm
  have HP := hid hp
  have HQ := hid hq
  have HAB := hid hab
  clear hp hq hab
  obtain ⟨i0, hi, hz0, hz1, hz2⟩ := info_parts Try.infoI
  (go_enter Try.func78, Try.ntmps78; try simp only [List.append])
  go_wp2_with ((with_reducible refine wpList_unguard ?_ ?_); (focus rfl))
  go_loopw [9, 5] (fun v o wr => ∃ k : Nat, k ≤ a.length ∧ v = .int .i64 k ∧ rowK wr w.heap.size 3 .i64 o (unkL a b k) ∧ Below w.heap.size w wr) (fun v _ _ => a.length - (intOf v).toNat)
  case atStart => exact ⟨0, Nat.zero_le _, rfl, World.ownsRow_nil _ _ _ _, Below.refl _ _⟩
  case round =>
    obtain ⟨k, hk, rfl, hO, hB⟩ := hrel
    have HO := hid hO
    have HB := hid hB
    clear hO hB
    by_cases hlt : k < a.length
    · have hltb : (k : Int) < (b.length : Int) := by have := HAB.out; omega
      have hkb : k < b.length := by have := HAB.out; omega
      obtain ⟨a1, o1, rfl, hc1⟩ := (HP.out.below HB.out) k hlt
      obtain ⟨a2, o2, rfl, hc2⟩ := (HQ.out.below HB.out) k hkb
      have HS := hid (unkL_succ a b k)
      have hdl := unkL_len a b k
      have hbs := HB.out.size
      have hU : unkB a b k = decide (a.getD k 0 ≠ b.getD k 0) := rfl
      generalize a.getD k 0 = x at *
      generalize b.getD k 0 = y at *
      generalize unkL a b k = D at *
      have HO2 := hid (show rowK wr.drew w.heap.size 3 .i64 u5 D from HO.out)
      by_cases hxy : x = y
      · have q : ((x : Int) != (y : Int)) = false := by rw [bne_eq_false_iff_eq]; omega
        have hS2 : Hid (unkL a b (k + 1) = D) := by show _ = _; rw [HS.out, hU, decide_eq_false (fun h => h hxy)]; rfl
        clear hU hxy
        go_upto_region 5 with fail
        go_region
        go_wp2_with ((with_reducible refine wpList_unguard ?_ ?_); (focus rfl))
        go_roundw
        case rel => exact ⟨k + 1, by omega, by go_num, by rw [hS2.out]; exact HO2.out, HB.out.drew⟩
        case measure => simp [intOf]; omega
      · have q : ((x : Int) != (y : Int)) = true := by rw [bne_iff_ne]; omega
        have hS2 : Hid (unkL a b (k + 1) = D ++ [k]) := by show _ = _; rw [HS.out, hU, decide_eq_true hxy]; rfl
        clear hU hxy
        go_upto_region 5 with fail
        go_region
        go_wp2_with (at_builtin; refine wpList_push (wr := wr.drew) rfl _ _ 41 rfl w.heap.size 3 i0 .i64 8 Try.underlying41 hi hz0 hz1 hz2 (by decide) _ D k HO2.out rfl _ rfl rfl (by omega) hbs ?_)
        intro v' w' hq hb
        have HO3 : Hid (rowK w' w.heap.size 3 .i64 v' (D ++ [k])) := hq
        have HB2 := hid (HB.out.drew.trans hb)
        clear hq hb
        go_wp2_with ((with_reducible refine wpList_unguard ?_ ?_); (focus rfl))
        go_roundw
        case rel => exact ⟨k + 1, by omega, by go_num, by rw [hS2.out]; exact HO3.out, HB2.out⟩
        case measure => simp [intOf]; omega
    · obtain rfl : k = a.length := by omega
      go_wp2_with ((with_reducible refine wpList_unguard ?_ ?_); (focus rfl))
      go_ret
      exact ⟨_, rfl, HO.out, HB.out⟩
theorem sol_Inv (f x : Nat) (w : World) (hF : isF w f) (hx : x < 256) :
    Calls Try.prog 68 #[.pointer (some ⟨f, 0, none⟩), .int .u8 (x : Nat)] w fun e w' => e = .returned (.tuple #[.int .u8 (inv0 x : Nat), .bool (decide (x ≠ 0))]) ∧ w = w' := by
  by_cases h : x = 0
  · subst h
    exact (gf_Inv_zero f w).mono fun _ _ ⟨he, hw⟩ => ⟨by rw [he]; rfl, hw⟩
  · refine (gf_Inv f x w hF hx (by omega)).mono fun _ _ ⟨he, hw⟩ => ⟨?_, hw⟩
    rw [he]
    unfold inv0
    rw [if_neg h, decide_eq_true h]
set_option maxHeartbeats 8000000 in
set_option maxRecDepth 100000 in
theorem sol_places (V f n p0 : Nat) (sv era : Value) (pl : Option Addr) (cl : Nat) (loc : List Nat) (w : World) (hS : isS w V f n p0 sv era (.slice pl loc.length cl)) (hF : isF w f) (hn : n ≤ 255) (hl : cellsB w pl loc) (hbl : bytesL loc) (hll : loc.length ≤ 10000) (hl0 : loc ≠ []) :
    Calls Try.prog 100 #[.pointer (some ⟨V, 0, none⟩)] w (RetN w (plsL n loc n)) := by
  have c0 : w.cell? ⟨V, 0, none⟩ = some (.pointer (some ⟨f, 0, none⟩)) := hS.cell 0 _ rfl
  have c1 : w.cell? ⟨V, 1, none⟩ = some (.int .i64 n) := hS.cell 1 _ rfl
  have c5 : w.cell? ⟨V, 5, none⟩ = some (.slice pl loc.length cl) := hS.cell 5 _ rfl
  have HS := hid hS
  have HF := hid hF
  have HP := hid hl
  have HBL := hid hbl
  have H0 := hid hl0
  clear hS hF hl hbl hl0
  obtain ⟨i0, hi, hz0, hz1, hz2⟩ := info_parts Try.infoI
  (go_enter Try.func100, Try.ntmps100; try simp only [List.append])
  go_wp2_with ((with_reducible refine wpList_unguard ?_ ?_); (focus rfl))
  go_loopw [11, 3] (fun v o wr => ∃ k : Nat, k ≤ n ∧ v = .int .i64 k ∧ rowK wr w.heap.size 3 .i64 o (plsL n loc k) ∧ Below w.heap.size w wr) (fun v _ _ => n - (intOf v).toNat)
  case atStart => exact ⟨0, Nat.zero_le _, rfl, World.ownsRow_nil _ _ _ _, Below.refl _ _⟩
  case round =>
    obtain ⟨k, hk, rfl, hO, hB⟩ := hrel
    have HO := hid hO
    have HB := hid hB
    clear hO hB
    by_cases hlt : k < n
    · have HX := hid (plsL_succ n loc k)
      have hdl := plsL_len n loc k
      have hU : isPl n loc k = decide (valL loc (inv0 (plc n k)) = 0) := rfl
      have hpl := plc_lt n k
      have HB1 := hid HB.out.drew
      have HOd := hid (show rowK wr.drew w.heap.size 3 .i64 u3 (plsL n loc k) from HO.out)
      have hPc := hid (sol_place V f n p0 sv era (.slice pl loc.length cl) k wr.drew (HS.out.below HB1.out) (HF.out.blw HB1.out) hn (by omega))
      go_upto_region 5 with fail
      go_region_held3 (fun u => u.cell? ⟨V, 0, none⟩ = some (.pointer (some ⟨f, 0, none⟩))) (first | with_reducible exact cell1_keep c0 HB1.out | with_reducible exact cell1_keep c0 HB2.out) (first | (go_at_call 99; refine Calls.mono hPc.out ?_; rintro e w2 ⟨rfl, hb⟩; have HB2 := hid (HB1.out.trans (hb.mono HB1.out.size)); have HO2 := hid (HOd.out.below2 hb)) | (go_at_call 68; refine Calls.mono (sol_Inv f _ w2 (HF.out.blw HB2.out) hpl) ?_; rintro e w3 ⟨rfl, rfl⟩))
      have c5' := cell1_keep c5 HB2.out
      have hx := inv0_lt (plc n k)
      generalize inv0 (plc n k) = x at *
      have hVl := sol_value V f n p0 sv era (.slice pl loc.length cl) pl _ cl loc x w2 (HS.out.below HB2.out) (HF.out.blw HB2.out) rfl (HP.out.below HB2.out) HBL.out hll (.inl H0.out) hx
      generalize valL loc x = z at *
      generalize plsL n loc k = D at *
      clear hPc hb
      go_wp2_with ((with_reducible refine wpList_unguard ?_ ?_); (focus rfl))
      refine Calls.mono hVl ?_; rintro e w4 ⟨rfl, hb⟩
      have HB4 := hid (HB2.out.trans (hb.mono HB2.out.size))
      have HO4 := hid (HO2.out.below2 hb)
      have hbs := HB4.out.size
      clear hVl hb c5'
      by_cases hz : z = 0
      · have q : ((z : Int) == 0) = true := by rw [beq_iff_eq]; omega
        have hS2 : Hid (plsL n loc (k + 1) = D ++ [k]) := by show _ = _; rw [HX.out, hU, decide_eq_true hz]; rfl
        clear hU hz
        go_wp2_with (at_builtin; refine wpList_push rfl _ _ 41 rfl w.heap.size 3 i0 .i64 8 Try.underlying41 hi hz0 hz1 hz2 (by decide) _ D k HO4.out rfl _ rfl rfl (by omega) hbs ?_)
        intro v' w' hq hb
        have HO3 : Hid (rowK w' w.heap.size 3 .i64 v' (D ++ [k])) := hq
        have HB5 := hid (HB4.out.trans hb)
        clear hq hb
        go_wp2_with ((with_reducible refine wpList_unguard ?_ ?_); (focus rfl))
        go_roundw
        case rel => exact ⟨k + 1, by omega, by go_num, by rw [hS2.out]; exact HO3.out, HB5.out⟩
        case measure => simp [intOf]; omega
      · have q : ((z : Int) == 0) = false := by rw [beq_eq_false_iff_ne]; omega
        have hS2 : Hid (plsL n loc (k + 1) = D) := by show _ = _; rw [HX.out, hU, decide_eq_false hz]; rfl
        clear hU hz
        go_wp2_with ((with_reducible refine wpList_unguard ?_ ?_); (focus rfl))
        go_roundw
        case rel => exact ⟨k + 1, by omega, by go_num, by rw [hS2.out]; exact HO4.out, HB4.out⟩
        case measure => simp [intOf]; omega
    · obtain rfl : k = n := by omega
      go_wp2_with ((with_reducible refine wpList_unguard ?_ ?_); (focus rfl))
      go_ret
      exact ⟨_, rfl, HO.out, HB.out⟩
end Go.Proofs.Ytgckhekikcdaiaa

namespace Go.Proofs.Ytgckhekikcdaiaa
open Go.RowKit

/-- A slice's ints. -/
def cellsZ (w : World) (p : Option Addr) (l : List Int) : Prop :=
  ∀ i, i < l.length → ∃ a o, p = some ⟨a, o, none⟩ ∧ w.cell? ⟨a, o + i, none⟩ = some (.int .i64 (l.getD i 0))
theorem cellsZ.nil (w : World) (p : Option Addr) : cellsZ w p [] := fun i hi => by simp at hi
theorem cellsZ.below {w w' : World} {p : Option Addr} {l : List Int} (h : cellsZ w p l) (hb : Below w.heap.size w w') : cellsZ w' p l := by
  intro i hi
  obtain ⟨a, f, e, hc⟩ := h i hi
  exact ⟨a, f, e, by rw [hb.cell (p := ⟨a, f + i, none⟩) (block_lt_of_cell hc)]; exact hc⟩
theorem cellsZ.new (w : World) (l : List Int) (vs : Array Value) (t : TypeId) (h : vs.toList = l.map fun x => Value.int .i64 x) :
    cellsZ (w.alloc (.cells vs t)) (some ⟨w.heap.size, 0, none⟩) l := by
  intro i hi
  refine ⟨_, _, rfl, ?_⟩
  rw [World.cell?_alloc_new, ← Array.getElem?_toList, h, Nat.zero_add, List.getElem?_map, List.getElem?_eq_getElem hi]
  simp [hi]
end Go.Proofs.Ytgckhekikcdaiaa

namespace Go.Proofs.Ytgckhekikcdaiaa
open Go.RowKit

theorem any_take_succ (p : Int → Bool) (l : List Int) (k : Nat) (h : k < l.length) : (l.take (k + 1)).any p = ((l.take k).any p || p (l.getD k 0)) := by
  rw [List.take_succ_eq_append_getElem h, List.any_append]
  simp [h]
theorem any_of_at (p : Int → Bool) (l : List Int) (k : Nat) (h : k < l.length) (hp : p (l.getD k 0) = true) : l.any p = true := by
  rw [List.any_eq_true]
  refine ⟨l.getD k 0, ?_, hp⟩
  rw [List.getD_eq_getElem?_getD, List.getElem?_eq_getElem h]
  exact List.getElem_mem _
/-- What is told of a search: an index, 0 or more just if there is such a one. -/
def ixRet (p : Int → Bool) (l : List Int) (e : Ending) : Prop := ∃ r : Int, e = .returned (.int .i64 r) ∧ decide (0 ≤ r) = l.any p
set_option maxHeartbeats 400000 in
set_option maxRecDepth 100000 in
theorem sl_IndexZ (x : Int) (p : Option Addr) (n c : Nat) (l : List Int) (w : World) (hn : n = l.length) (hp : cellsZ w p l) (hl : l.length ≤ 1000000) :
    Calls Try.prog 128 #[.slice p n c, .int .i64 x] w
      fun e w' => ixRet (fun y => decide (x = y)) l e ∧ w = w' := by
  subst hn
  have HP := hid hp
  clear hp
  go_enter Try.func128, Try.ntmps128
  go_wp2
  go_loop [8] (fun i => ∃ k : Nat, k ≤ l.length ∧ i = .int .i64 k ∧ (l.take k).any (fun y => decide (x = y)) = false) (fun i => l.length - (intOf i).toNat)
  case atStart => exact ⟨0, Nat.zero_le _, rfl, rfl⟩
  case round =>
    obtain ⟨k, hk, rfl, ht⟩ := hrel
    have HT := hid ht
    clear ht
    by_cases hlt : k < l.length
    · obtain ⟨a, o, rfl, hc⟩ := HP.out k hlt
      have HS := hid (any_take_succ (fun y => decide (x = y)) l k hlt)
      have HA := hid (any_of_at (fun y => decide (x = y)) l k hlt)
      generalize l.getD k 0 = y at *
      by_cases hxy : x = y
      · have hb : (x == y) = true := beq_iff_eq.2 hxy
        go_wp2
        go_ret
        refine ⟨⟨k, rfl, ?_⟩, rfl⟩
        subst hxy
        rw [HA.out (decide_eq_true rfl)]
        exact decide_eq_true (by omega)
      · have hb : (x == y) = false := beq_eq_false_iff_ne.2 hxy
        go_wp2
        go_round
        case rel => exact ⟨k + 1, by omega, by go_num, by rw [HS.out, HT.out, decide_eq_false hxy]; rfl⟩
        case measure => simp [intOf]; omega
    · have HTT : Hid (l.any (fun y => decide (x = y)) = false) := by have := HT.out; rw [List.take_of_length_le (by omega)] at this; exact this
      go_wp2
      go_ret
      exact ⟨⟨-1, rfl, by rw [HTT.out]; rfl⟩, rfl⟩
set_option maxHeartbeats 400000 in
set_option maxRecDepth 100000 in
theorem sl_ContainsZ (x : Int) (p : Option Addr) (n c : Nat) (l : List Int) (w : World) (hn : n = l.length) (hp : cellsZ w p l) (hl : l.length ≤ 1000000) :
    Calls Try.prog 117 #[.slice p n c, .int .i64 x] w
      fun e w' => e = .returned (.bool (l.any fun y => decide (x = y))) ∧ w = w' := by
  subst hn
  have HP := hid hp
  clear hp
  go_enter Try.func117, Try.ntmps117
  go_wp2_with ((with_reducible refine wpList_unguard ?_ ?_); (focus rfl))
  refine Calls.mono (sl_IndexZ x p _ c l w rfl HP.out hl) ?_; rintro e w' ⟨⟨r, rfl, hr⟩, rfl⟩
  have HR := hid hr
  clear hr
  go_wp2_with ((with_reducible refine wpList_unguard ?_ ?_); (focus rfl))
  go_ret
  exact ⟨by rw [← HR.out]; rfl, rfl⟩
end Go.Proofs.Ytgckhekikcdaiaa

namespace Go.Proofs.Ytgckhekikcdaiaa
open Go.RowKit Tri

theorem cellsI.z {w : World} {p : Option Addr} {l : List Nat} (h : cellsI w p l) : cellsZ w p (l.map fun x => ((x : Nat) : Int)) := by
  intro i hi
  rw [List.length_map] at hi
  obtain ⟨a, o, e, hc⟩ := h i hi
  refine ⟨a, o, e, ?_⟩
  rw [hc]
  congr 2
  rw [List.getD_eq_getElem?_getD, List.getD_eq_getElem?_getD, List.getElem?_map]
  cases l[i]? <;> rfl
theorem contains_z (l : List Nat) (x : Nat) : (l.map fun y => ((y : Nat) : Int)).contains (x : Int) = l.contains x := by
  induction l with
  | nil => rfl
  | cons a l ih =>
    rw [List.map_cons, List.contains_cons, List.contains_cons, ih]
    congr 1
    rw [Bool.eq_iff_iff, beq_iff_eq, beq_iff_eq]
    omega
theorem sol_Div (f a k : Nat) (w : World) (hF : isF w f) (ha : a < 256) (hk : k < 256) :
    Calls Try.prog 62 #[.pointer (some ⟨f, 0, none⟩), .int .u8 (a : Nat), .int .u8 (k : Nat)] w fun e w' => e = .returned (.tuple #[.int .u8 ((if k = 0 then 0 else gmul a (ginv k) : Nat)), .bool (decide (k ≠ 0))]) ∧ Below w.heap.size w w' := by
  by_cases h : k = 0
  · subst h
    exact (gf_Div_zero f a w).mono fun _ _ ⟨he, hw⟩ => ⟨by rw [he]; rfl, by rw [← hw]; exact Below.refl _ _⟩
  · refine (gf_Div f a k w hF ha hk (by omega)).mono fun _ _ ⟨he, hw⟩ => ⟨?_, ?_⟩
    · rw [he, if_neg h, decide_eq_true h]
    · rw [← hw]; exact (Below.refl _ _).alloc (Nat.le_refl _) _
set_option maxHeartbeats 8000000 in
set_option maxRecDepth 100000 in
theorem sol_by (V f n p0 : Nat) (sv era loc : Value) (i : Nat) (po pd : Option Addr) (co cd : Nat) (om der : List Nat) (w : World) (hS : isS w V f n p0 sv era loc) (hF : isF w f) (hn : n ≤ 255) (hi : i ≤ 1000000)
    (ho : cellsB w po om) (hbo : bytesL om) (hlo : om.length ≤ 10000) (ho0 : om ≠ [] ∨ po = none) (hd : cellsB w pd der) (hbd : bytesL der) (hld : der.length ≤ 10000) (hd0 : der ≠ [] ∨ pd = none) :
    Calls Try.prog 104 #[.pointer (some ⟨V, 0, none⟩), .int .i64 i, .slice po om.length co, .slice pd der.length cd] w fun e w' => e = .returned (.tuple #[.int .u8 (byV n om der i : Nat), .bool (byOk n der i)]) ∧ Below w.heap.size w w' := by
  have c0 : w.cell? ⟨V, 0, none⟩ = some (.pointer (some ⟨f, 0, none⟩)) := hS.cell 0 _ rfl
  have HS := hid hS
  have HF := hid hF
  have HO := hid ho
  have HD := hid hd
  have HBO := hid hbo
  have HBD := hid hbd
  have HO0 := hid ho0
  have HD0 := hid hd0
  have HV : Hid (byV n om der i = gmul (plc n i) (if valL der (inv0 (plc n i)) = 0 then 0 else gmul (valL om (inv0 (plc n i))) (ginv (valL der (inv0 (plc n i)))))) := rfl
  have HK : Hid (byOk n der i = decide (valL der (inv0 (plc n i)) ≠ 0)) := rfl
  have hpl := plc_lt n i
  clear hS hF ho hd hbo hbd ho0 hd0
  (go_enter Try.func104, Try.ntmps104; try simp only [List.append])
  go_wp2_with ((with_reducible refine wpList_unguard ?_ ?_); (focus rfl))
  refine Calls.mono (sol_place V f n p0 sv era loc i w HS.out HF.out hn hi) ?_; rintro e w1 ⟨rfl, hb⟩
  have HB := hid hb
  have c0' := cell1_keep c0 hb
  clear hb
  have hx := inv0_lt (plc n i)
  have hIn := sol_Inv f (plc n i) w1 (HF.out.blw HB.out) hpl
  generalize plc n i = x at *
  generalize inv0 x = y at *
  go_wp2_with ((with_reducible refine wpList_unguard ?_ ?_); (focus rfl))
  refine Calls.mono hIn ?_; rintro e w2 ⟨rfl, rfl⟩
  clear hIn
  have HB1 := hid HB.out.drew
  have hv1 := hid (sol_value V f n p0 sv era loc po _ co om y w1.drew (HS.out.below HB1.out) (HF.out.blw HB1.out) rfl (HO.out.below HB1.out) HBO.out hlo HO0.out hx)
  have hv2 := fun u hb => hid (sol_value V f n p0 sv era loc pd _ cd der y u (HS.out.below hb) (HF.out.blw hb) rfl (HD.out.below hb) HBD.out hld HD0.out hx)
  have hz1 := valL_lt HBO.out y
  have hz2 := valL_lt HBD.out y
  generalize valL om y = z1 at *
  generalize valL der y = z2 at *
  obtain ⟨q, hq⟩ : ∃ q, (if z2 = 0 then 0 else gmul z1 (ginv z2)) = q := ⟨_, rfl⟩
  have hq2 : q < 256 := by rw [← hq]; split; omega; exact gmul_lt _ _
  obtain ⟨ok, hok⟩ : ∃ ok, decide (z2 ≠ 0) = ok := ⟨_, rfl⟩
  have hDv := fun u hb => hid (sol_Div f z1 z2 u (HF.out.blw hb) hz1 hz2)
  rw [hq] at HV hDv
  rw [hok] at HK hDv
  clear hq hok
  go_upto_region 3 with fail
  go_region_held3 (fun u => u.cell? ⟨V, 0, none⟩ = some (.pointer (some ⟨f, 0, none⟩))) (first | with_reducible exact cell1_keep c0 HB1.out | with_reducible exact cell1_keep c0 HB3.out | with_reducible exact cell1_keep c0 HB4.out | with_reducible exact cell1_keep c0 HB5.out) (first | (go_at_call 116; with_reducible refine Calls.mono hv1.out ?_; rintro e w3 ⟨rfl, hb3⟩; have HB3 := hid (HB1.out.trans (hb3.mono HB1.out.size))) | (go_at_call 116; with_reducible refine Calls.mono (hv2 _ HB3.out).out ?_; rintro e w4 ⟨rfl, hb4⟩; have HB4 := hid (HB3.out.trans (hb4.mono HB3.out.size))) | (go_at_call 62; refine Calls.mono (hDv _ HB4.out).out ?_; rintro e w5 ⟨rfl, hb5⟩; have HB5 := hid (HB4.out.trans (hb5.mono HB4.out.size))))
  have c05 := cell1_keep c0 HB5.out
  have hMu := fun t => hid (gf_Mul2 f w5.heap.size x q (x : Int) (q : Int) w5 (HF.out.blw HB5.out) rfl rfl rfl hpl hq2 t)
  clear hv1 hv2 hDv hb3 hb4 hb5 HB3 HB4
  go_wp2_with ((with_reducible refine wpList_unguard ?_ ?_); (focus rfl))
  refine Calls.mono (hMu _).out ?_; rintro e w6 ⟨rfl, rfl⟩
  go_wp2_with ((with_reducible refine wpList_unguard ?_ ?_); (focus rfl))
  go_ret2
  exact ⟨by rw [HV.out, HK.out]; rfl, HB5.out.alloc HB5.out.size _⟩
theorem unlN_succ (E l : List Nat) (k : Nat) (h : k < l.length) : unlN E (l.take (k + 1)) = unlN E (l.take k) + if E.contains (l.getD k 0) then 0 else 1 := by
  unfold unlN
  rw [List.take_succ_eq_append_getElem h, List.countP_append, List.getD_eq_getElem?_getD, List.getElem?_eq_getElem h, Option.getD_some]
  congr 1
  cases hc : E.contains l[k] with
  | true => simp only [List.countP_cons, List.countP_nil, hc]; rfl
  | false => simp only [List.countP_cons, List.countP_nil, hc]; rfl
theorem unlN_le (E l : List Nat) (k : Nat) : unlN E (l.take k) ≤ k := by
  unfold unlN
  have := List.countP_le_length (p := fun i => !(E.contains i)) (l := l.take k)
  rw [List.length_take] at this
  omega
set_option maxHeartbeats 4000000 in
set_option maxRecDepth 100000 in
theorem sol_unlike (V f n p0 : Nat) (sv : Value) (pe : Option Addr) (ce : Nat) (E : List Nat) (loc : Value) (pl : Option Addr) (cl : Nat) (l : List Nat) (w : World) (hS : isS w V f n p0 sv (.slice pe E.length ce) loc) (hE : cellsI w pe E) (hEl : E.length ≤ 1000) (hl : cellsI w pl l) (hll : l.length ≤ 1000) :
    Calls Try.prog 101 #[.pointer (some ⟨V, 0, none⟩), .slice pl l.length cl] w fun e w' => e = .returned (.int .i64 (unlN E l : Nat)) ∧ w = w' := by
  have c4 : w.cell? ⟨V, 4, none⟩ = some (.slice pe E.length ce) := hS.cell 4 _ rfl
  have HE := hid hE
  have HL := hid hl
  have HT : Hid (unlN E (l.take l.length) = unlN E l) := by show _ = _; rw [List.take_length]
  clear hS hE hl
  (go_enter Try.func101, Try.ntmps101; try simp only [List.append])
  go_wp2_with ((with_reducible refine wpList_unguard ?_ ?_); (focus rfl))
  go_loopw [10, 5] (fun v o wr => ∃ k : Nat, k ≤ l.length ∧ v = .int .i64 k ∧ o = .int .i64 (unlN E (l.take k) : Nat) ∧ wr = w) (fun v _ _ => l.length - (intOf v).toNat)
  case atStart => exact ⟨0, Nat.zero_le _, rfl, rfl, rfl⟩
  case round =>
    obtain ⟨k, hk, rfl, rfl, rfl⟩ := hrel
    by_cases hlt : k < l.length
    · obtain ⟨b, o, rfl, hc⟩ := HL.out k hlt
      have HX := hid (unlN_succ E l k hlt)
      have hle := unlN_le E l k
      have hCo := sl_ContainsZ ((l.getD k 0 : Nat) : Int) pe E.length ce (E.map fun x => ((x : Nat) : Int)) wr (by simp) HE.out.z (by simp; omega)
      have hz : ((E.map fun x => ((x : Nat) : Int)).any fun y => decide (((l.getD k 0 : Nat) : Int) = y)) = E.contains (l.getD k 0) := by
        rw [List.any_map, List.contains_eq_any_beq]
        apply congrArg (fun p => E.any p)
        funext y
        simp only [Function.comp_apply]
        rw [Bool.eq_iff_iff, decide_eq_true_eq, beq_iff_eq]
        omega
      rw [hz] at hCo
      clear hz
      generalize l.getD k 0 = x at *
      obtain ⟨z, hz⟩ : ∃ z, E.contains x = z := ⟨_, rfl⟩
      rw [hz] at hCo HX
      clear hz
      generalize unlN E (l.take k) = N at *
      go_wp2_with ((with_reducible refine wpList_unguard ?_ ?_); (focus rfl))
      refine Calls.mono hCo ?_; rintro e w2 ⟨rfl, rfl⟩
      clear hCo
      cases z with
      | true =>
        go_wp2_with ((with_reducible refine wpList_unguard ?_ ?_); (focus rfl))
        go_roundw
        case rel => exact ⟨k + 1, by omega, by go_num, by rw [HX.out]; rfl, trivial⟩
        case measure => simp [intOf]; omega
      | false =>
        go_wp2_with ((with_reducible refine wpList_unguard ?_ ?_); (focus rfl))
        go_roundw
        case rel => exact ⟨k + 1, by omega, by go_num, by rw [HX.out]; rfl, trivial⟩
        case measure => simp [intOf]; omega
    · obtain rfl : k = l.length := by omega
      rw [HT.out]
      go_wp2_with ((with_reducible refine wpList_unguard ?_ ?_); (focus rfl))
      go_ret
      exact ⟨rfl, rfl⟩
end Go.Proofs.Ytgckhekikcdaiaa

namespace Go.Proofs.Ytgckhekikcdaiaa
open Go.RowKit Tri

/-- What lies outside of the solver's own block stays. -/
structure OutV (V : Nat) (w w' : World) : Prop where
  os : w'.os = w.os
  tape : w'.tape = w.tape
  output : w'.output = w.output
  size : w.heap.size ≤ w'.heap.size
  block : ∀ k, k < w.heap.size → k ≠ V → w'.heap[k]? = w.heap[k]?
theorem OutV.of {V : Nat} {w w' : World} (h : Below w.heap.size w w') : OutV V w w' := ⟨h.os, h.tape, h.output, h.size, fun k hk _ => h.block k hk⟩
theorem OutV.trans {V : Nat} {a b c : World} (h : OutV V a b) (k : OutV V b c) : OutV V a c :=
  ⟨k.os.trans h.os, k.tape.trans h.tape, k.output.trans h.output, Nat.le_trans h.size k.size, fun j h1 h2 => (k.block j (Nat.lt_of_lt_of_le h1 h.size) h2).trans (h.block j h1 h2)⟩
theorem OutV.set {V : Nat} {a b : World} (h : OutV V a b) (j : Nat) (v : Value) : OutV V a (b.setCell ⟨V, j, none⟩ v) :=
  ⟨h.os, h.tape, h.output, by simpa using h.size, fun k h1 h2 => by rw [heap_setCell_other b _ k _ h2]; exact h.block k h1 h2⟩
def offV (p : Option Addr) (V : Nat) : Prop := ∀ a o s, p = some ⟨a, o, s⟩ → a ≠ V
theorem cellsB.outV {V : Nat} {w w' : World} {p : Option Addr} {l : List Nat} (h : cellsB w p l) (ho : OutV V w w') (hp : offV p V) : cellsB w' p l := by
  intro j hj
  obtain ⟨a, o, e, hc⟩ := h j hj
  refine ⟨a, o, e, ?_⟩
  rw [World.cell?_of_block (a := ⟨a, o + j, none⟩) (ho.block a (block_lt_of_cell hc) (hp a o none e))]
  exact hc
theorem cellsI.outV {V : Nat} {w w' : World} {p : Option Addr} {l : List Nat} (h : cellsI w p l) (ho : OutV V w w') (hp : offV p V) : cellsI w' p l := by
  intro j hj
  obtain ⟨a, o, e, hc⟩ := h j hj
  refine ⟨a, o, e, ?_⟩
  rw [World.cell?_of_block (a := ⟨a, o + j, none⟩) (ho.block a (block_lt_of_cell hc) (hp a o none e))]
  exact hc
theorem isS_F {w : World} {V f n p : Nat} {s era loc : Value} (hS : isS w V f n p s era loc) (hF : isF w f) : f ≠ V := by
  intro e
  have h1 : w.heap[V]? = some (.cells (solC f n p s era loc) 114) := hS
  have h2 : w.heap[f]? = some (.cells fieldC 73) := hF
  rw [e, h1] at h2
  simp at h2
theorem isF.outV {V : Nat} {w w' : World} {f : Nat} (h : isF w f) (ho : OutV V w w') (hf : f ≠ V) : isF w' f := (ho.block f (Array.getElem?_eq_some_iff.1 h).1 hf).trans h
theorem isS_off {w : World} {V f n p : Nat} {s1 s2 s3 : Option Addr} {n1 n2 n3 m1 m2 m3 : Nat} (hS : isS w V f n p (.slice s1 n1 m1) (.slice s2 n2 m2) (.slice s3 n3 m3)) {q : Option Addr} {l : List Nat} (hq : cellsB w q l) (hl : l ≠ []) : offV q V := by
  intro a o s e hv
  obtain ⟨a', o', e', hc⟩ := hq 0 (List.length_pos_iff.2 hl)
  rw [e'] at e
  simp only [Option.some.injEq, Addr.mk.injEq] at e
  obtain ⟨rfl, rfl, -⟩ := e
  subst hv
  rw [Nat.add_zero, cell_of_row w a' o' _ _ _ hS] at hc
  unfold solC at hc
  rcases o' with _ | _ | _ | _ | _ | _ | o' <;> simp at hc
theorem isS.setLoc {w : World} {V f n p : Nat} {s era loc : Value} (hS : isS w V f n p s era loc) (v : Value) : isS (w.setCell ⟨V, 5, none⟩ v) V f n p s era v := Blk.set hS 5 v
theorem plusL_ne (a b : List Nat) (y : Nat) : plusL a b y ≠ [] := by
  intro h
  have := congrArg List.length h
  rw [plusL_len] at this
  simp at this
theorem eraL_ne (n : Nat) (l : List Nat) : eraL n l ≠ [] := by
  intro h
  have := congrArg List.length h
  rw [eraL_len] at this
  simp at this
set_option maxHeartbeats 8000000 in
set_option maxRecDepth 100000 in
theorem sol_erasures (V f n p0 : Nat) (ps : Option Addr) (ns cs : Nat) (pe : Option Addr) (ce : Nat) (E : List Nat) (l0 : Option Addr) (n0 m0 : Nat) (w : World) (hS : isS w V f n p0 (.slice ps ns cs) (.slice pe E.length ce) (.slice l0 n0 m0)) (hF : isF w f) (hn : n ≤ 255) (hE : cellsI w pe E) (hEV : offV pe V) (hEl : E.length ≤ 300) (hEb : ∀ i ∈ E, i ≤ 1000000) :
    Calls Try.prog 76 #[.pointer (some ⟨V, 0, none⟩)] w fun e w' => e = .returned (.tuple #[]) ∧ OutV V w w' ∧ ∃ p c, isS w' V f n p0 (.slice ps ns cs) (.slice pe E.length ce) (.slice p (eraL n E).length c) ∧ cellsB w' p (eraL n E) ∧ offV p V := by
  have HF := hid hF
  have HE := hid hE
  have HEV := hid hEV
  have HEB := hid hEb
  have HfV : Hid (f ≠ V) := isS_F hS hF
  have hA : Below w.heap.size w (w.alloc (.cells #[.int .u8 1] 5)) := (Below.refl _ _).alloc (Nat.le_refl _) _
  have hSa := hS.below hA
  have hS1 := hid (hSa.setLoc (.slice (some ⟨w.heap.size, 0, none⟩) 1 1))
  have hO1 := hid ((OutV.of (V := V) hA).set 5 (.slice (some ⟨w.heap.size, 0, none⟩) 1 1))
  have hVw : V < w.heap.size := hS.lt
  have hc1 : cellsB ((w.alloc (.cells #[.int .u8 1] 5)).setCell ⟨V, 5, none⟩ (.slice (some ⟨w.heap.size, 0, none⟩) 1 1)) (some ⟨w.heap.size, 0, none⟩) (eraL n (E.take 0)) := by
    have h1 := cellsB.new w [1] #[.int .u8 (1 : Nat)] 5 rfl
    intro j hj
    obtain ⟨a, o, e, hc⟩ := h1 j hj
    refine ⟨a, o, e, ?_⟩
    simp only [Option.some.injEq, Addr.mk.injEq] at e
    obtain ⟨rfl, rfl, -⟩ := e
    rw [World.cell?_of_block (a := ⟨w.heap.size, 0 + j, none⟩) (heap_setCell_other _ _ _ _ (show w.heap.size ≠ V by omega))]
    exact hc
  have HC1 := hid hc1
  have HVw : Hid (w.heap.size ≠ V) := (show w.heap.size ≠ V by omega)
  have c5 : (w.alloc (.cells #[.int .u8 1] 5)).cell? ⟨V, 5, none⟩ = some (.slice l0 n0 m0) := hSa.cell 5 _ rfl
  have f5 : (w.alloc (.cells #[.int .u8 1] 5)).frozen? ⟨V, 5, none⟩ = false := hSa.free 5
  have c4 : w.cell? ⟨V, 4, none⟩ = some (.slice pe E.length ce) := hS.cell 4 _ rfl
  have c4s : ((w.alloc (.cells #[.int .u8 1] 5)).setCell ⟨V, 5, none⟩ (.slice (some ⟨w.heap.size, 0, none⟩) 1 1)).cell? ⟨V, 4, none⟩ = some (.slice pe E.length ce) := hS1.out.cell 4 _ rfl
  clear hS hF hE hEV hEb hA hc1 hSa hVw
  (go_enter Try.func76, Try.ntmps76; try simp only [List.append])
  go_wp2_with ((with_reducible refine wpList_unguard ?_ ?_); (focus rfl))
  clear c5 f5 c4 c4s
  generalize (w.alloc (.cells #[.int .u8 1] 5)).setCell ⟨V, 5, none⟩ (.slice (some ⟨w.heap.size, 0, none⟩) 1 1) = w1 at *
  go_loopw [13] (fun v wr => ∃ (k : Nat) (p : Option Addr) (c : Nat), k ≤ E.length ∧ v = .int .i64 k ∧ isS wr V f n p0 (.slice ps ns cs) (.slice pe E.length ce) (.slice p (eraL n (E.take k)).length c) ∧ cellsB wr p (eraL n (E.take k)) ∧ offV p V ∧ OutV V w wr) (fun v _ => E.length - (intOf v).toNat)
  case atStart => exact ⟨0, some ⟨w.heap.size, 0, none⟩, 1, Nat.zero_le _, rfl, hS1.out, HC1.out, fun a o s e => by simp only [Option.some.injEq, Addr.mk.injEq] at e; rw [← e.1]; exact HVw.out, hO1.out⟩
  case round =>
    clear hS1 HC1 hO1
    obtain ⟨k, p, c, hk, rfl, hS, hc, hpV, hO⟩ := hrel
    have HS := hid hS
    have HC := hid hc
    have HPV := hid hpV
    have HO := hid hO
    clear hS hc hpV hO
    by_cases hlt : k < E.length
    · obtain ⟨b, o, rfl, hc⟩ := (HE.out.outV HO.out HEV.out) k hlt
      have hx : E.getD k 0 ≤ 1000000 := HEB.out _ (by rw [List.getD_eq_getElem?_getD, List.getElem?_eq_getElem hlt]; exact List.getElem_mem hlt)
      have HSn : Hid (eraL n (E.take (k + 1)) = plusL (eraL n (E.take k)) (eraL n (E.take k)) (plc n (E.getD k 0))) := by
        show _ = _
        rw [List.take_succ_eq_append_getElem hlt, eraL_snoc, List.getD_eq_getElem?_getD, List.getElem?_eq_getElem hlt]; rfl
      have hbD := hid (eraL_bytes n (E.take k))
      have hlD : (eraL n (E.take k)).length ≤ 301 := by rw [eraL_len, List.length_take]; omega
      generalize E.getD k 0 = x at *
      generalize eraL n (E.take k) = D at *
      have c5 : wr.drew.cell? ⟨V, 5, none⟩ = some (.slice p D.length c) := HS.out.cell 5 _ rfl
      have HF1 := hid (HF.out.outV HO.out HfV.out)
      have hPc := hid (sol_place V f n p0 _ _ _ x wr.drew HS.out HF1.out hn hx)
      have hpl := plc_lt n x
      generalize plc n x = y at *
      have hPs := fun (u : World) (hb : Below wr.heap.size wr u) => hid (sol_plus V f n p0 _ _ _ p p _ c _ c D D y u (HS.out.below hb) (HF1.out.blw hb) rfl (HC.out.below hb) hbD.out (by omega) rfl (HC.out.below hb) hbD.out (by omega) hpl)
      go_upto_region 4 with fail
      go_region_with (first | (go_at_call 99; refine Calls.mono hPc.out ?_; rintro e w2 ⟨rfl, hb2⟩; have c5b := cell1_keep c5 hb2; have hB2 := hid ((Below.refl wr.heap.size wr).drew.trans (hb2.mono (Nat.le_refl _)))) | (go_at_call 80; refine Calls.mono (hPs _ hB2.out).out ?_; rintro e w3 ⟨p3, c3, rfl, hl3, hc3, hb3⟩; have c5c := (cell1_keep c5b hb3); have f5c := ((HS.out.below hB2.out).below hb3).free 5))
      all_goals (go_wp2_with ((with_reducible refine wpList_unguard ?_ ?_); (focus rfl)))
      all_goals go_roundw
      all_goals first | (simp [intOf]; omega) | skip
      all_goals
        have hS3 := (HS.out.below hB2.out).below hb3
        have hoff := isS_off hS3 hc3 (plusL_ne D D y)
        have hl3' : (plusL D D y).length = (plusL D D y).length := rfl
        exact ⟨k + 1, p3, c3, by omega, by go_num, by rw [HSn.out]; exact hS3.setLoc _, by rw [HSn.out]; exact hc3.outV ((OutV.of (Below.refl _ _)).set 5 _) hoff, hoff, (HO.out.trans (OutV.of (hB2.out.trans (hb3.mono hB2.out.size)))).set 5 _⟩
    · obtain rfl : k = E.length := by omega
      rw [List.take_length] at HS HC
      go_wp2_with ((with_reducible refine wpList_unguard ?_ ?_); (focus rfl))
      go_returns
      exact ⟨rfl, HO.out, p, c, HS.out, HC.out, HPV.out⟩
end Go.Proofs.Ytgckhekikcdaiaa

namespace Go.Proofs.Ytgckhekikcdaiaa
open Go.RowKit

theorem wp_region_quietC {P : Program} {id : Nat} {Q : Exit → Act → World → Prop} {a : Act} {w : World} {l : List Oper} (C : World → Prop) (hm : P.follows .mixedOrders = true) (hB : Region.lexB .any l.toArray = true) (hC : C w.drew)
    (h : wpQuiet P l.toArray C (fun a' => ∀ w', C w' → Q .normal a' w') l a) : (Code.region id l.toArray true).wp P Q a w :=
  wp_region_quiet (C := C) hm hB hC (by simpa using h)
theorem quietC_nil {P : Program} {ops : Array Oper} {C : World → Prop} {Q : Act → Prop} {a : Act} (l : List Oper) (hl : l.isEmpty = true) (h : Q a) : wpQuiet P ops C Q l a := by
  cases l with
  | nil => exact h
  | cons => cases hl
/-- An array read whole, in a quiet walk. -/
theorem quiet_load_row {P : Program} {C : World → Prop} {K : Act → Prop} {o : Oper} {a : Act} (ty : TypeId) (x : Operand) (ho : o.op = .load ty x) (g : Nat) (hx : a.eval x = .pointer (some ⟨g, 0, none⟩)) (cs : Array Value)
    (hl : ∀ w, C w → (loadVar ty ⟨g, 0, none⟩).run P w = .ok (.agg cs) w) (hk : K (a.put o.dst (.agg cs))) : o.quiet P a C K :=
  ⟨_, fun w hw => by
    unfold Oper.quietAt execOp
    simp only [ho, hx, Instr.loadAt, Instr.sureAddr, Sem.run_bind, Sem.run_pure, Result.andThen_ok, hl w hw]
    exact ⟨rfl, rfl⟩, hk⟩
end Go.Proofs.Ytgckhekikcdaiaa
