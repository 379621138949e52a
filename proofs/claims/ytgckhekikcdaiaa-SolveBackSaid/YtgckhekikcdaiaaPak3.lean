/-
  The solver's block; at, place, plus.
  The product of two polynomials in the program. Conditions: polynomials of at most 100000 bytes.
  Rows of rows of bytes; the product of many polynomials in the program. Conditions: all lengths together are at most 100000.
  The sum of polynomials in the program. Conditions: at most 100000 polynomials of at most 100000 bytes.
  The derivative in the program. Conditions: polynomials of at most 100000 bytes.
-/
import Derived.Test.YtgckhekikcdaiaaPak2
import Derived.Deep.RegionHeld3
import Derived.Deep.CutRange
import Derived.Deep.Onto
namespace Go.Proofs.Ytgckhekikcdaiaa
open Go.RowKit Tri

/-- A solver. -/
def solC (f : Nat) (n p : Nat) (s era loc : Value) : Array Value := #[.pointer (some ⟨f, 0, none⟩), .int .i64 n, .int .i64 p, s, era, loc]
def isS (w : World) (V f n p : Nat) (s era loc : Value) : Prop := Blk w V 114 (solC f n p s era loc)
theorem isF.blw {w w' : World} {b : Nat} (h : isF w b) (hb : Below w.heap.size w w') : isF w' b := by
  have hl : b < w.heap.size := (Array.getElem?_eq_some_iff.1 h).1
  exact (hb.block b hl).trans h
theorem isS.below {w w' : World} {V f n p : Nat} {s era loc : Value} (h : isS w V f n p s era loc) (hb : Below w.heap.size w w') : isS w' V f n p s era loc := Blk.below h hb
theorem cell1_keep {w w' : World} {a : Addr} {v : Value} (h : w.cell? a = some v) (hb : Below w.heap.size w w') : w'.cell? a = some v := (hb.cell (p := a) (block_lt_of_cell h)).trans h
set_option maxHeartbeats 1000000 in
theorem sol_at (p : Option Addr) (n c : Nat) (a : List Nat) (i : Int) (w : World) (hn : n = a.length) (hp : cellsB w p a) (hl : a.length ≤ 1000000) :
    Calls Try.prog 105 #[.slice p n c, .int .i64 i] w fun e w' => e = .returned (.int .u8 (coZ a i : Nat)) ∧ w = w' := by
  subst hn
  have HP := hid hp
  clear hp
  by_cases h0 : i < 0
  · have q : decide (i < 0) = true := decide_eq_true h0
    have he : Hid (coZ a i = 0) := by show _ = _; unfold coZ; rw [if_neg (by omega)]
    (go_enter Try.func105, Try.ntmps105; try simp only [List.append])
    go_wp2_with ((with_reducible refine wpList_unguard ?_ ?_); (focus rfl))
    go_ret
    exact ⟨by rw [he.out]; rfl, rfl⟩
  · have q : decide (i < 0) = false := decide_eq_false h0
    by_cases h1 : (a.length : Int) ≤ i
    · have q1 : decide ((a.length : Int) ≤ i) = true := decide_eq_true h1
      have he : Hid (coZ a i = 0) := by show _ = _; unfold coZ; rw [if_neg (by omega)]
      (go_enter Try.func105, Try.ntmps105; try simp only [List.append])
      go_wp2_with ((with_reducible refine wpList_unguard ?_ ?_); (focus rfl))
      go_ret
      exact ⟨by rw [he.out]; rfl, rfl⟩
    · have q1 : decide ((a.length : Int) ≤ i) = false := decide_eq_false h1
      obtain ⟨j, rfl⟩ : ∃ j : Nat, i = j := ⟨i.toNat, by omega⟩
      have hj : j < a.length := by omega
      have he : Hid (coZ a (j : Int) = a.getD j 0) := coZ_nat a j
      obtain ⟨b, o, rfl, hc⟩ := HP.out j hj
      generalize a.getD j 0 = x at *
      (go_enter Try.func105, Try.ntmps105; try simp only [List.append])
      go_wp2_with ((with_reducible refine wpList_unguard ?_ ?_); (focus rfl))
      go_ret
      exact ⟨by rw [he.out]; rfl, rfl⟩
set_option maxHeartbeats 4000000 in
set_option maxRecDepth 100000 in
theorem sol_place (V f n p : Nat) (s era loc : Value) (i : Nat) (w : World) (hS : isS w V f n p s era loc) (hF : isF w f) (hn : n ≤ 255) (hi : i ≤ 1000000) :
    Calls Try.prog 99 #[.pointer (some ⟨V, 0, none⟩), .int .i64 i] w fun e w' => e = .returned (.int .u8 (plc n i : Nat)) ∧ Below w.heap.size w w' := by
  have c0 : w.cell? ⟨V, 0, none⟩ = some (.pointer (some ⟨f, 0, none⟩)) := hS.cell 0 _ rfl
  have c1 : w.cell? ⟨V, 1, none⟩ = some (.int .i64 n) := hS.cell 1 _ rfl
  have HF := hid hF
  clear hS hF
  have hE : ∀ (w : World) (x : Int), x = (n : Int) - 1 - i → isF w f → Hid (Calls Try.prog 34 #[.pointer (some ⟨f, 0, none⟩), .int .i64 x] w fun e w' => e = .returned (.int .u8 (gexpZ ((n : Int) - 1 - i) : Nat)) ∧ w = w') := by
    rintro w x rfl h
    exact gf_Exp f ((n : Int) - 1 - i) w h
  have hw : IntKind.i64.wrap (IntKind.i64.wrap ((n : Int) - 1) - i) = (n : Int) - 1 - i := by rw [IntKind.wrap_i64, IntKind.wrap_i64]; omega
  have hP : Hid (gexpZ ((n : Int) - 1 - i) = plc n i) := rfl
  (go_enter Try.func99, Try.ntmps99; try simp only [List.append])
  go_upto_region 1 with fail
  go_region_held3 (fun u => u.cell? ⟨V, 0, none⟩ = some (.pointer (some ⟨f, 0, none⟩)) ∧ u.cell? ⟨V, 1, none⟩ = some (.int .i64 n)) (first | assumption | go_keep) (first | (go_at_call 34; refine Calls.mono (hE _ _ (by first | omega | exact hw | (simp only [IntKind.wrap_i64]; omega)) HF.out.drew).out ?_; rintro e w2 ⟨rfl, rfl⟩))
  all_goals (go_wp2_with ((with_reducible refine wpList_unguard ?_ ?_); (focus rfl)))
  go_ret
  exact ⟨by rw [hP.out]; rfl, (Below.refl _ _).drew⟩
/-- For a region's condition: what lay below is there, and these cells. -/
theorem kk1 {w0 u : World} {a0 : Addr} {v0 : Value} (c0 : w0.cell? a0 = some v0) (h : Below w0.heap.size w0 u) : Below w0.heap.size w0 u ∧ u.cell? a0 = some v0 := ⟨h, cell1_keep c0 h⟩
theorem kk2 {w0 u : World} {a0 a1 : Addr} {v0 v1 : Value} (c0 : w0.cell? a0 = some v0) (c1 : w0.cell? a1 = some v1) (h : Below w0.heap.size w0 u) : Below w0.heap.size w0 u ∧ u.cell? a0 = some v0 ∧ u.cell? a1 = some v1 := ⟨h, cell1_keep c0 h, cell1_keep c1 h⟩
theorem kk3 {w0 u : World} {a0 a1 a2 : Addr} {v0 v1 v2 : Value} (c0 : w0.cell? a0 = some v0) (c1 : w0.cell? a1 = some v1) (c2 : w0.cell? a2 = some v2) (h : Below w0.heap.size w0 u) : Below w0.heap.size w0 u ∧ u.cell? a0 = some v0 ∧ u.cell? a1 = some v1 ∧ u.cell? a2 = some v2 := ⟨h, cell1_keep c0 h, cell1_keep c1 h, cell1_keep c2 h⟩
theorem kk4 {w0 u : World} {a0 a1 a2 a3 : Addr} {v0 v1 v2 v3 : Value} (c0 : w0.cell? a0 = some v0) (c1 : w0.cell? a1 = some v1) (c2 : w0.cell? a2 = some v2) (c3 : w0.cell? a3 = some v3) (h : Below w0.heap.size w0 u) : u.cell? a0 = some v0 ∧ u.cell? a1 = some v1 ∧ u.cell? a2 = some v2 ∧ u.cell? a3 = some v3 := ⟨cell1_keep c0 h, cell1_keep c1 h, cell1_keep c2 h, cell1_keep c3 h⟩
theorem kA {w0 u : World} {p : Prop} {o : Obj} (h : Below w0.heap.size w0 u ∧ p) : Below w0.heap.size w0 (u.alloc o) := h.1.alloc h.1.size o
theorem kS {w0 u : World} {p : Prop} {a : Addr} {v : Value} (ha : w0.heap.size ≤ a.block) (h : Below w0.heap.size w0 u ∧ p) : Below w0.heap.size w0 (u.setCell a v) := h.1.setCell ha v
theorem kC {w0 u u' : World} {p : Prop} (hb : Below u.heap.size u u') (h : Below w0.heap.size w0 u ∧ p) : Below w0.heap.size w0 u' := h.1.trans (hb.mono h.1.size)
theorem gf_Mul2S (w0 : World) (b s x y : Nat) (vx vy : Int) (w : World) (p : Prop) (hF : isF w0 b) (hK : Below w0.heap.size w0 w ∧ p) (hs : s = w.heap.size) (ex : vx = (x : Nat)) (ey : vy = (y : Nat)) (hx : x < 256) (hy : y < 256) (t : TypeId) :
    Calls Try.prog 52 #[.pointer (some ⟨b, 0, none⟩), .slice (some ⟨s, 0, none⟩) 2 2] (w.alloc (.cells #[.int .u8 vx, .int .u8 vy] t))
      fun e w' => e = .returned (.int .u8 (gmul x y : Nat)) ∧ w.alloc (.cells #[.int .u8 vx, .int .u8 vy] t) = w' := gf_Mul2 b s x y vx vy w (hF.blw hK.1) hs ex ey hx hy t
set_option maxHeartbeats 8000000 in
set_option maxRecDepth 100000 in
theorem sol_plus (V f n0 p0 : Nat) (sv era loc : Value) (p q : Option Addr) (n c m d : Nat) (a b : List Nat) (y : Nat) (w : World) (hS : isS w V f n0 p0 sv era loc) (hF : isF w f) (hn : n = a.length) (hp : cellsB w p a) (ha : bytesL a) (hla : a.length ≤ 10000) (hm : m = b.length) (hq : cellsB w q b) (hb : bytesL b) (hlb : b.length ≤ 10000) (hy : y < 256) :
    Calls Try.prog 80 #[.pointer (some ⟨V, 0, none⟩), .slice p n c, .slice q m d, .int .u8 y] w (RetC w (plusL a b y)) := by
  subst hn hm
  have c0 : w.cell? ⟨V, 0, none⟩ = some (.pointer (some ⟨f, 0, none⟩)) := hS.cell 0 _ rfl
  have HF := hid hF
  have HP := hid hp
  have HQ := hid hq
  have HA := hid ha
  have HBy := hid hb
  clear hS hF hp hq ha hb
  obtain ⟨N, hN⟩ : ∃ N, max a.length (b.length + 1) = N := ⟨_, rfl⟩
  have hNi : max (a.length : Int) ((b.length : Int) + 1) = (N : Int) := by omega
  have hN1 : N ≤ 10001 := by omega
  have HL : Hid (plusL a b y = (List.range N).map (plusF a b y)) := by show _ = _; unfold plusL; rw [hN]
  (go_enter Try.func80, Try.ntmps80; try simp only [List.append])
  go_upto_region 1 with fail
  go_cut [9] from 11 to 17 (fun v u => v = .slice (some ⟨w.heap.size, 0, none⟩) N N ∧ u = w.alloc (.cells (madeCells #[.int .u8 0] N) 5))
  case first =>
    by_cases h : (a.length : Int) < (b.length : Int) + 1
    · have hmk := run_make_row' (P := Try.prog) 22 5 (.int .u8 0) 1 Try.underlying22 Try.infoB rfl .i64 .i64 (b.length + 1) (by omega) (by omega)
      rw [show ((b.length + 1 : Nat) : Int) = (b.length : Int) + 1 from by omega] at hmk
      have hx : max (a.length : Int) ((b.length : Int) + 1) = (b.length : Int) + 1 := by omega
      have e : N = b.length + 1 := by omega
      clear hNi
      go_wp2_with ((with_reducible refine wpList_unguard ?_ ?_); (focus rfl))
      go_meet
      subst e
      exact ⟨rfl, rfl⟩
    · have hmk := run_make_row' (P := Try.prog) 22 5 (.int .u8 0) 1 Try.underlying22 Try.infoB rfl .i64 .i64 a.length (by omega) (by omega)
      have hx : max (a.length : Int) ((b.length : Int) + 1) = (a.length : Int) := by omega
      have e : N = a.length := by omega
      clear hNi
      go_wp2_with ((with_reducible refine wpList_unguard ?_ ?_); (focus rfl))
      go_meet
      subst e
      exact ⟨rfl, rfl⟩
  case rest =>
    obtain ⟨rfl, rfl⟩ := hcut
    have hbuf := bufB.made w N 5
    have hb0 : Below w.heap.size w (w.alloc (.cells (madeCells #[.int .u8 0] N) 5)) := (Below.refl _ _).alloc (Nat.le_refl _) _
    have hob : w.heap.size ≤ w.heap.size := Nat.le_refl _
    obtain ⟨ob, hoe⟩ : ∃ ob, w.heap.size = ob := ⟨_, rfl⟩
    have HOE := hid hoe
    have HOB : Hid (w.heap.size ≤ ob) := Nat.le_of_eq hoe
    rw [hoe] at hbuf ⊢
    generalize w.alloc (.cells (madeCells #[.int .u8 0] N) 5) = w1 at *
    have HBF := hid hbuf
    have HB := hid hb0
    clear hbuf hb0 hob hoe hNi hN
    go_wp2_with ((with_reducible refine wpList_unguard ?_ ?_); (focus rfl))
    go_loopw [20] (fun v wr => ∃ k : Nat, k ≤ N ∧ v = .int .i64 k ∧ bufB wr ob (fillF (plusF a b y) N k) ∧ Below w.heap.size w wr) (fun v _ => N - (intOf v).toNat)
    case atStart => exact ⟨0, Nat.zero_le _, rfl, by rw [fillF_zero]; exact HBF.out, HB.out⟩
    case round =>
      clear HBF HB
      obtain ⟨k, hk, rfl, hbuf, hB⟩ := hrel
      have HB := hid hB
      have HBF := hid hbuf
      clear hB hbuf
      by_cases hlt : k < N
      · have hbc := HBF.out.at k (by rw [fillF_len _ (by omega)]; exact hlt)
        rw [fillF_at _ hlt] at hbc
        have hbf := HBF.out.2 k (by rw [fillF_len _ (by omega)]; exact hlt)
        have hx1 : coZ a (k : Int) < 256 := coZ_lt HA.out _
        have hx2 : coZ b ((k : Int) - 1) < 256 := coZ_lt HBy.out _
        have hx3 : gmul y (coZ b ((k : Int) - 1)) < 256 := gmul_lt _ _
        have hAt1 := sol_at p a.length c a (k : Int) wr.drew rfl (HP.out.below HB.out.drew) (by omega)
        have hAt2 : ∀ (x : Int), x = (k : Int) - 1 → Calls Try.prog 105 #[.slice q b.length d, .int .i64 x] wr.drew fun e w' => e = .returned (.int .u8 (coZ b ((k : Int) - 1) : Nat)) ∧ wr.drew = w' := by
          rintro x rfl
          exact sol_at q _ d b _ wr.drew rfl (HQ.out.below HB.out.drew) (by omega)
        have hFd := hid (HF.out.blw HB.out.drew)
        have hVw : V < w.heap.size := block_lt_of_cell c0
        have hVob : V ≠ ob := by have := HOB.out; omega
        clear hVw
        obtain ⟨y2, hy2⟩ : ∃ y2, coZ b ((k : Int) - 1) = y2 := ⟨_, rfl⟩
        obtain ⟨y1, hy1⟩ : ∃ y1, coZ a (k : Int) = y1 := ⟨_, rfl⟩
        obtain ⟨y3, hy3⟩ : ∃ y3, gmul y (coZ b ((k : Int) - 1)) = y3 := ⟨_, rfl⟩
        have HF3 : Hid (plusF a b y k = y1 ^^^ y3) := by show _ = _; unfold plusF; rw [hy1, hy3]
        have hMul : ∀ s, s = wr.heap.size → Calls Try.prog 52 #[.pointer (some ⟨f, 0, none⟩), .slice (some ⟨s, 0, none⟩) 2 2] (wr.alloc (.cells #[.int .u8 (y : Nat), .int .u8 (y2 : Nat)] 5)).drew fun e w' => e = .returned (.int .u8 (y3 : Nat)) ∧ (wr.alloc (.cells #[.int .u8 (y : Nat), .int .u8 (y2 : Nat)] 5)).drew = w' := by
          rintro s rfl
          rw [← hy3, hy2]
          exact gf_Mul2 f _ y y2 _ _ wr.drew hFd.out rfl rfl rfl hy (hy2 ▸ hx2) _
        have hAdd : ∀ s, s = wr.heap.size + 1 → Calls Try.prog 51 #[.pointer (some ⟨f, 0, none⟩), .slice (some ⟨s, 0, none⟩) 2 2] ((wr.alloc (.cells #[.int .u8 (y : Nat), .int .u8 (y2 : Nat)] 5)).alloc (.cells #[.int .u8 (y1 : Nat), .int .u8 (y3 : Nat)] 5)).drew fun e w' => e = .returned (.int .u8 (y1 ^^^ y3 : Nat)) ∧ ((wr.alloc (.cells #[.int .u8 (y : Nat), .int .u8 (y2 : Nat)] 5)).alloc (.cells #[.int .u8 (y1 : Nat), .int .u8 (y3 : Nat)] 5)).drew = w' := by
          rintro s rfl
          exact gf_Add2 f _ y1 y3 _ _ (wr.alloc (.cells #[.int .u8 (y : Nat), .int .u8 (y2 : Nat)] 5)).drew (by simp) rfl rfl (hy1 ▸ hx1) (hy3 ▸ hx3) _
        have kb2 := fun o => cell1_keep c0 (HB.out.alloc HB.out.size o).drew
        have kb3 := fun o o2 => cell1_keep c0 ((HB.out.alloc HB.out.size o).alloc (HB.out.alloc HB.out.size o).size o2).drew
        have hsc : (((wr.alloc (.cells #[.int .u8 (y : Nat), .int .u8 (y2 : Nat)] 5)).alloc (.cells #[.int .u8 (y1 : Nat), .int .u8 (y3 : Nat)] 5)).drew).cell? ⟨ob, k, none⟩ = some (.int .u8 0) := cell1_keep hbc (((Below.refl wr.heap.size wr).alloc (Nat.le_refl _) _).alloc (by simp) _).drew
        have hsf : (((wr.alloc (.cells #[.int .u8 (y : Nat), .int .u8 (y2 : Nat)] 5)).alloc (.cells #[.int .u8 (y1 : Nat), .int .u8 (y3 : Nat)] 5)).drew).frozen? ⟨ob, k, none⟩ = false := by
          show ((wr.alloc _).alloc _).frozen? _ = false
          rw [frozen?_alloc_cells, frozen?_alloc_cells]; exact hbf
        clear hbc hbf
        have kb4 := fun o o2 v => cell1_keep c0 (((HB.out.alloc HB.out.size o).alloc (HB.out.alloc HB.out.size o).size o2).setCell (p := ⟨ob, k, none⟩) HOB.out v).drew
        have hst := hid (((HBF.out.alloc #[.int .u8 (y : Nat), .int .u8 (y2 : Nat)] 5).alloc #[.int .u8 (y1 : Nat), .int .u8 (y3 : Nat)] 5).set k (y1 ^^^ y3) (by rw [fillF_len _ (by omega)]; exact hlt)).drew
        rw [← HF3.out, fillF_set _ hlt] at hst
        have hBl := hid ((((HB.out.alloc HB.out.size (.cells #[.int .u8 (y : Nat), .int .u8 (y2 : Nat)] 5)).alloc (HB.out.alloc HB.out.size (.cells #[.int .u8 (y : Nat), .int .u8 (y2 : Nat)] 5)).size (.cells #[.int .u8 (y1 : Nat), .int .u8 (y3 : Nat)] 5)).setCell (p := ⟨ob, k, none⟩) HOB.out (.int .u8 (plusF a b y k : Nat))).drew)
        rw [HF3.out] at hst hBl
        rw [hy1] at hAt1
        rw [hy2] at hAt2
        clear hx1 hx2 hx3 hy1 hy2 hy3
        have hw1 : IntKind.i64.wrap ((k : Int) - 1) = (k : Int) - 1 := by rw [IntKind.wrap_i64]; omega
        go_upto_region 5 with fail
        go_region_held3 (fun u => u.cell? ⟨V, 0, none⟩ = some (.pointer (some ⟨f, 0, none⟩))) (first | with_reducible exact cell1_keep c0 HB.out.drew | with_reducible exact kb2 _ | with_reducible exact kb3 _ _ | with_reducible exact kb4 _ _ _ | go_keep) (first | (go_at_call 105; with_reducible refine Calls.mono hAt1 ?_; rintro e w2 ⟨rfl, rfl⟩) | (go_at_call 105; with_reducible refine Calls.mono (hAt2 _ (by first | with_reducible rfl | with_reducible exact hw1)) ?_; rintro e w2 ⟨rfl, rfl⟩) | (go_at_call 52; refine Calls.mono (hMul _ (by first | rfl | simp)) ?_; rintro e w2 ⟨rfl, rfl⟩) | (go_at_call 51; refine Calls.mono (hAdd _ (by first | rfl | simp)) ?_; rintro e w2 ⟨rfl, rfl⟩))
        go_wp2
        go_roundw
        case rel => exact ⟨k + 1, by omega, by go_num, hst.out, hBl.out⟩
        case measure => simp [intOf]; omega
      · obtain rfl : k = N := by omega
        rw [fillF_full] at HBF
        have hl : Hid ((plusL a b y).length = k) := by show _ = _; rw [HL.out]; simp
        rw [← HL.out] at HBF
        go_wp2_with ((with_reducible refine wpList_unguard ?_ ?_); (focus rfl))
        go_ret
        exact ⟨some ⟨ob, 0, none⟩, k, by rw [hl.out]; rfl, by rw [hl.out]; exact Nat.le_refl _, HBF.out.1, HB.out⟩
end Go.Proofs.Ytgckhekikcdaiaa

namespace Tri
/-- One place added to. -/
def acc (L : List Nat) (j v : Nat) : List Nat := L.set j (L.getD j 0 ^^^ v)
/-- The multiples of b by x, from place i on, added for the first k. -/
def rowTo (L : List Nat) (i x : Nat) (b : List Nat) : Nat → List Nat
  | 0 => L
  | k + 1 => acc (rowTo L i x b k) (i + k) (gmul x (b.getD k 0))
def convTo (L a b : List Nat) : Nat → List Nat
  | 0 => L
  | i + 1 => rowTo (convTo L a b i) i (a.getD i 0) b b.length
def ptwo (a b : List Nat) : List Nat :=
  if trim a = [] ∨ trim b = [] then [] else convTo (List.replicate ((trim a).length + (trim b).length - 1) 0) (trim a) (trim b) (trim a).length
theorem acc_length (L : List Nat) (j v : Nat) : (acc L j v).length = L.length := by simp [acc]
theorem rowTo_length (L : List Nat) (i x : Nat) (b : List Nat) (k : Nat) : (rowTo L i x b k).length = L.length := by
  induction k with
  | zero => rfl
  | succ k ih => rw [rowTo, acc_length, ih]
theorem convTo_length (L a b : List Nat) (i : Nat) : (convTo L a b i).length = L.length := by
  induction i with
  | zero => rfl
  | succ i ih => rw [convTo, rowTo_length, ih]
theorem acc_bytes {L : List Nat} (h : bytesL L) {j v : Nat} (hv : v < 256) : bytesL (acc L j v) := by
  intro y hy
  by_cases hj : j < L.length
  · rcases List.mem_or_eq_of_mem_set hy with h1 | h1
    · exact h y h1
    · rw [h1]; exact xor_lt (h _ (by rw [List.getD_eq_getElem?_getD, List.getElem?_eq_getElem hj]; exact List.getElem_mem hj)) hv
  · unfold acc at hy
    rw [List.set_eq_of_length_le (by omega)] at hy
    exact h y hy
theorem rowTo_bytes {L : List Nat} (h : bytesL L) (i x : Nat) (b : List Nat) (k : Nat) : bytesL (rowTo L i x b k) := by
  induction k with
  | zero => exact h
  | succ k ih => exact acc_bytes ih (gmul_lt _ _)
theorem convTo_bytes {L : List Nat} (h : bytesL L) (a b : List Nat) (i : Nat) : bytesL (convTo L a b i) := by
  induction i with
  | zero => exact h
  | succ i ih => exact rowTo_bytes ih _ _ _ _
end Tri
namespace Go.Proofs.Ytgckhekikcdaiaa
open Go.RowKit Tri

/-- A new row of two bytes. -/
def PairB (v : Value) (w : World) (x y : Nat) : Prop := ∃ s, v = .slice (some ⟨s, 0, none⟩) 2 2 ∧ cellsB w (some ⟨s, 0, none⟩) [x, y]
theorem PairB.below {v : Value} {w w' : World} {x y : Nat} (h : PairB v w x y) (hb : Below w.heap.size w w') : PairB v w' x y := by
  obtain ⟨n, e, hc⟩ := h
  exact ⟨n, e, hc.below hb⟩
theorem PairB.new (w : World) (x y : Nat) (t : TypeId) : PairB (.slice (some ⟨w.heap.size, 0, none⟩) 2 2) (w.alloc (.cells #[.int .u8 (x : Nat), .int .u8 (y : Nat)] t)) x y :=
  ⟨_, rfl, cellsB.new w [x, y] _ t rfl⟩
def twoV (f ob n i k o x y : Nat) (j : Nat) (v : Value) (w : World) : Prop := match j with
  | 0 | 5 => v = .slice (some ⟨ob, 0, none⟩) n n
  | 1 | 6 => v = .int .i64 (i : Nat)
  | 2 | 7 => v = .int .i64 (k : Nat)
  | 3 | 8 => v = .int .i64 ((i : Int) + (k : Int))
  | 4 | 11 => v = .pointer (some ⟨f, 0, none⟩)
  | 9 | 18 => v = .pointer (some ⟨ob, i + k, none⟩)
  | 10 => v = .int .u8 (o : Nat)
  | 12 => v = .int .u8 (x : Nat) | 13 => v = .int .u8 (y : Nat)
  | 14 => PairB v w x y
  | 15 => v = .int .u8 (gmul x y : Nat)
  | 16 => PairB v w o (gmul x y)
  | 17 => v = .int .u8 (o ^^^ gmul x y : Nat)
  | _ => True
theorem twoV_st (f ob n i k o x y : Nat) (j : Nat) (v : Value) (w w' : World) (hb : Below w.heap.size w w') (h : twoV f ob n i k o x y j v w) : twoV f ob n i k o x y j v w' := by
  unfold twoV at *
  split at h <;> first | exact h | exact h.below hb
theorem Try.infoB' : (Try.prog.info? 5).map (fun i => (i.zero, i.size, i.bytes)) = some (some (.int .u8 0), 1, 1) := by kernel_rfl

/-- What a call hands back: bytes, in a row of their own from its start on. -/
def RetO (w : World) (l : List Nat) (e : Ending) (w' : World) : Prop := ∃ p c, e = .returned (.slice p l.length c) ∧ l.length ≤ c ∧ cellsB w' p l ∧ Below w.heap.size w w' ∧ (p = none ∨ ∃ b, p = some ⟨b, 0, none⟩)
theorem RetO.ret {w w' : World} {l : List Nat} {e : Ending} (h : RetO w l e w') : RetC w l e w' := by
  obtain ⟨p, c, h1, h2, h3, h4, _⟩ := h
  exact ⟨p, c, h1, h2, h3, h4⟩

set_option maxHeartbeats 4000000 in
set_option maxRecDepth 100000 in
theorem poly_twoO (f : Nat) (p q : Option Addr) (n c m d : Nat) (a b : List Nat) (w : World) (hF : isF w f) (hn : n = a.length) (hnc : n ≤ c) (hp : cellsB w p a) (hm : m = b.length) (hmd : m ≤ d) (hq : cellsB w q b)
    (hba : bytesL a) (hbb : bytesL b) (hla : a.length ≤ 100000) (hlb : b.length ≤ 100000) :
    Calls Try.prog 48 #[.pointer (some ⟨f, 0, none⟩), .slice p n c, .slice q m d] w (RetO w (ptwo a b)) := by
  subst hn hm
  have HF := hid hF
  have HP := hid hp
  have HQ := hid hq
  clear hF hp hq
  go_enter Try.func48, Try.ntmps48
  go_wp2_with ((with_reducible refine wpList_unguard ?_ ?_); (focus rfl))
  refine Calls.mono (poly_Trim p _ c a w rfl hnc HP.out (by omega)) ?_; rintro e w1 ⟨va, rfl, hO, hB⟩
  have HB1 := hid hB
  obtain ⟨pa, ca, rfl, hA1⟩ := hO.cells
  clear hB hO
  go_wp2_with ((with_reducible refine wpList_unguard ?_ ?_); (focus rfl))
  refine Calls.mono (poly_Trim q _ d b w1 rfl hmd (HQ.out.below HB1.out) (by omega)) ?_; rintro e w2 ⟨vb, rfl, hO, hB⟩
  obtain ⟨pb, cb, rfl, hB2⟩ := hO.cells
  have HA := hid (hA1.below hB)
  have HBB := hid hB2
  have K0 : Keeps w f w2 := ⟨HB1.out.trans (hB.mono HB1.out.size), HF.out.below (HB1.out.trans (hB.mono HB1.out.size)) HF.out.lt⟩
  have K := hid K0
  clear hB hO hA1 hB2 K0 HP HQ HB1 HF
  have hta := trim_length_le a
  have htb := trim_length_le b
  have hxa := hid (trim_bytes hba)
  have hxb := hid (trim_bytes hbb)
  have hres : Hid (ptwo a b = if trim a = [] ∨ trim b = [] then [] else convTo (List.replicate ((trim a).length + (trim b).length - 1) 0) (trim a) (trim b) (trim a).length) := rfl
  clear hba hbb
  generalize trim a = A at *
  generalize trim b = B at *
  by_cases hA0 : A.length = 0
  · have he : Hid (ptwo a b = []) := by show _ = _; rw [hres.out, if_pos (.inl (List.eq_nil_of_length_eq_zero hA0))]
    rw [hA0]
    clear hres hA0
    go_wp2_with ((with_reducible refine wpList_unguard ?_ ?_); (focus rfl))
    go_ret
    exact ⟨none, 0, by rw [he.out]; rfl, by rw [he.out]; exact Nat.le_refl _, by rw [he.out]; exact cellsB.nil _ _, K.out.1, .inl rfl⟩
  by_cases hB0 : B.length = 0
  · have he : Hid (ptwo a b = []) := by show _ = _; rw [hres.out, if_pos (.inr (List.eq_nil_of_length_eq_zero hB0))]
    have ha0 : ((A.length : Int) == 0) = false := by simpa using hA0
    rw [hB0]
    clear hres hB0 hA0
    go_wp2_with ((with_reducible refine wpList_unguard ?_ ?_); (focus rfl))
    go_ret
    exact ⟨none, 0, by rw [he.out]; rfl, by rw [he.out]; exact Nat.le_refl _, by rw [he.out]; exact cellsB.nil _ _, K.out.1, .inl rfl⟩
  have he : Hid (ptwo a b = convTo (List.replicate (A.length + B.length - 1) 0) A B A.length) := by
    show _ = _; rw [hres.out, if_neg]; intro h; rcases h with h | h
    · exact hA0 (by rw [h]; rfl)
    · exact hB0 (by rw [h]; rfl)
  have ha0 : ((A.length : Int) == 0) = false := by simpa using hA0
  have hb0 : ((B.length : Int) == 0) = false := by simpa using hB0
  obtain ⟨N, hN⟩ : ∃ N, A.length + B.length - 1 = N := ⟨_, rfl⟩
  have hNI : (A.length : Int) + (B.length : Int) - 1 = (N : Int) := by omega
  have hmk := run_make_row' (P := Try.prog) 22 5 (.int .u8 0) 1 Try.underlying22 Try.infoB rfl .i64 .i64 N (by omega) (by omega)
  rw [hN] at he
  have HN := hid hN
  have HM := hid (bufB.made w2 N 5)
  have K2 : Hid (Keeps w2 f w2) := ⟨Below.refl _ _, K.out.2⟩
  have K3 := hid (K2.out.alloc (.cells (madeCells #[.int .u8 0] N) 5))
  clear hres hA0 hB0 hN
  go_wp2_with ((with_reducible refine wpList_unguard ?_ ?_); (focus rfl))
  generalize w2.alloc (.cells (madeCells #[.int .u8 0] N) 5) = w3 at *
  obtain ⟨ob, hob⟩ : ∃ ob, w2.heap.size = ob := ⟨_, rfl⟩
  have HOB := hid hob
  rw [hob] at HM ⊢
  clear hmk hob hNI
  have hbL : bytesL (List.replicate N 0) := by intro y hy; rw [List.mem_replicate] at hy; omega
  have HBL := hid hbL
  clear hbL
  have hL0 : (List.replicate N 0).length = N := List.length_replicate
  generalize List.replicate N 0 = L0 at *
  have HL0 := hid hL0
  clear hL0
  go_loopw [33] (fun i wr => ∃ k : Nat, k ≤ A.length ∧ i = .int .i64 k ∧ Keeps w2 f wr ∧ bufB wr ob (convTo L0 A B k)) (fun i _ => A.length - (intOf i).toNat)
  case atStart => exact ⟨0, Nat.zero_le _, rfl, K3.out, HM.out⟩
  case round =>
    clear K3 HM
    obtain ⟨i, hi, rfl, hK, hM⟩ := hrel
    have K4 := hid hK
    have HM := hid hM
    clear hK hM
    by_cases hlt : i < A.length
    · obtain ⟨a', o', rfl, hc0⟩ := HA.out i hlt
      have hc : wr.cell? ⟨a', o' + i, none⟩ = some (.int .u8 (A.getD i 0 : Nat)) := by
        rw [K4.out.1.cell (p := ⟨a', o' + i, none⟩) (block_lt_of_cell hc0)]; exact hc0
      have hx : A.getD i 0 < 256 := hxa.out _ (getD_mem A i hlt)
      have HCS : Hid (convTo L0 A B (i + 1) = rowTo (convTo L0 A B i) i (A.getD i 0) B B.length) := rfl
      have hL1 : Hid ((convTo L0 A B i).length = N) := by show _ = _; rw [convTo_length]; exact HL0.out
      have hB1 := hid (convTo_bytes HBL.out A B i)
      clear hc0
      generalize A.getD i 0 = x at *
      generalize convTo L0 A B i = L1 at *
      go_wp2_with ((with_reducible refine wpList_unguard ?_ ?_); (focus rfl))
      go_loopw [40] (fun i' wr => ∃ k : Nat, k ≤ B.length ∧ i' = .int .i64 k ∧ Keeps w2 f wr ∧ bufB wr ob (rowTo L1 i x B k)) (fun i' _ => B.length - (intOf i').toNat)
      case atStart => exact ⟨0, Nat.zero_le _, rfl, K4.out, HM.out⟩
      case round =>
        clear HM
        obtain ⟨k, hk, rfl, hK, hM⟩ := hrel
        have K5 := hid hK
        have HM := hid hM
        clear hK hM
        by_cases hkt : k < B.length
        · obtain ⟨b', q', rfl, hc0⟩ := HBB.out k hkt
          have hcb : wr.cell? ⟨b', q' + k, none⟩ = some (.int .u8 (B.getD k 0 : Nat)) := by
            rw [K5.out.1.cell (p := ⟨b', q' + k, none⟩) (block_lt_of_cell hc0)]; exact hc0
          have hy : B.getD k 0 < 256 := hxb.out _ (getD_mem B k hkt)
          have HCS2 : Hid (rowTo L1 i x B (k + 1) = acc (rowTo L1 i x B k) (i + k) (gmul x (B.getD k 0))) := rfl
          have hL2 : Hid ((rowTo L1 i x B k).length = N) := by show _ = _; rw [rowTo_length]; exact hL1.out
          have hB2 := hid (rowTo_bytes hB1.out i x B k)
          clear hc0
          generalize B.getD k 0 = y at *
          generalize rowTo L1 i x B k = L at *
          have hik : i + k < N := by have := HN.out; omega
          have hNle : N ≤ 200000 := by have := HN.out; omega
          have ho : L.getD (i + k) 0 < 256 := hB2.out _ (getD_mem L _ (by rw [hL2.out]; exact hik))
          have HO : Hid (∀ w', bufB w' ob L → w'.cell? ⟨ob, i + k, none⟩ = some (.int .u8 (L.getD (i + k) 0 : Nat)) ∧ w'.frozen? ⟨ob, i + k, none⟩ = false) := fun w' h => ⟨h.at _ (by rw [hL2.out]; exact hik), h.2 _ (by rw [hL2.out]; exact hik)⟩
          have HSet : Hid (acc L (i + k) (gmul x y) = L.set (i + k) (L.getD (i + k) 0 ^^^ gmul x y)) := rfl
          generalize L.getD (i + k) 0 = o at *
          have hwr : IntKind.i64.wrap ((i : Int) + (k : Int)) = (i : Int) + (k : Int) := by rw [IntKind.wrap_i64]; omega
          have hix : 0 ≤ (i : Int) + (k : Int) ∧ (i : Int) + (k : Int) < (N : Int) := by omega
          have htn : ((i : Int) + (k : Int)).toNat = i + k := by omega
          have HWR := hid hwr
          have HIX := hid hix
          have HTN := hid htn
          clear hwr hix htn
          go_wp2_with ((with_reducible refine wpList_unguard ?_ ?_); (focus rfl))
          refine region_store (m := 19) _ _ (fun w' => Keeps w2 f w' ∧ bufB w' ob L) (twoV f ob N i k o x y) (by kernel_rfl) (by kernel_rfl) (by kernel_rfl) rfl rfl (by kernel_rfl) ⟨by decide, rfl⟩ ⟨K5.out.drew, HM.out.drew⟩ (twoV_st f ob N i k o x y) ?_ ?_
          · clear K5 HM
            refine ⟨fun A w3 hC hu hd K hK => ?_, ?_⟩
            · exact op_tmp 7 _ rfl (hu 7 rfl) (hK _ _ rfl hC (Below.refl _ _))
            refine ⟨fun A w3 hC hu hd K hK => ?_, ?_⟩
            · exact op_tmp 8 _ rfl (hu 8 rfl) (hK _ _ rfl hC (Below.refl _ _))
            refine ⟨fun A w3 hC hu hd K hK => ?_, ?_⟩
            · exact op_tmp 10 _ rfl (hu 10 rfl) (hK _ _ rfl hC (Below.refl _ _))
            refine ⟨fun A w3 hC hu hd K hK => ?_, ?_⟩
            · have h1 : A.tmps[46]?.getD undef = Value.int .i64 (i : Nat) := by have this : A.tmps.getD 46 undef = Value.int .i64 (i : Nat) := hd ⟨1, .data⟩ (by simp) rfl _ _ rfl rfl; simpa using this
              have h2 : A.tmps[47]?.getD undef = Value.int .i64 (k : Nat) := by have this : A.tmps.getD 47 undef = Value.int .i64 (k : Nat) := hd ⟨2, .data⟩ (by simp) rfl _ _ rfl rfl; simpa using this
              clear hu hd
              go_simp
              rw [HWR.out]
              exact hK _ _ rfl hC (Below.refl _ _)
            refine ⟨fun A w3 hC hu hd K hK => ?_, ?_⟩
            · exact op_tmp 0 _ rfl (hu 0 rfl) (hK _ _ rfl hC (Below.refl _ _))
            refine ⟨fun A w3 hC hu hd K hK => ?_, ?_⟩
            · exact op_tmp 7 _ rfl (hu 7 rfl) (hK _ _ rfl hC (Below.refl _ _))
            refine ⟨fun A w3 hC hu hd K hK => ?_, ?_⟩
            · exact op_tmp 8 _ rfl (hu 8 rfl) (hK _ _ rfl hC (Below.refl _ _))
            refine ⟨fun A w3 hC hu hd K hK => ?_, ?_⟩
            · exact op_tmp 10 _ rfl (hu 10 rfl) (hK _ _ rfl hC (Below.refl _ _))
            refine ⟨fun A w3 hC hu hd K hK => ?_, ?_⟩
            · have h1 : A.tmps[51]?.getD undef = Value.int .i64 (i : Nat) := by have this : A.tmps.getD 51 undef = Value.int .i64 (i : Nat) := hd ⟨6, .data⟩ (by simp) rfl _ _ rfl rfl; simpa using this
              have h2 : A.tmps[52]?.getD undef = Value.int .i64 (k : Nat) := by have this : A.tmps.getD 52 undef = Value.int .i64 (k : Nat) := hd ⟨7, .data⟩ (by simp) rfl _ _ rfl rfl; simpa using this
              clear hu hd
              go_simp
              rw [HWR.out]
              exact hK _ _ rfl hC (Below.refl _ _)
            refine ⟨fun A w3 hC hu hd K hK => ?_, ?_⟩
            · have h1 : A.tmps[50]?.getD undef = Value.slice (some ⟨ob, 0, none⟩) N N := by have this : A.tmps.getD 50 undef = Value.slice (some ⟨ob, 0, none⟩) N N := hd ⟨5, .data⟩ (by simp) rfl _ _ rfl rfl; simpa using this
              have h2 : A.tmps[53]?.getD undef = Value.int .i64 ((i : Int) + (k : Int)) := by have this : A.tmps.getD 53 undef = Value.int .i64 ((i : Int) + (k : Int)) := hd ⟨8, .data⟩ (by simp) rfl _ _ rfl rfl; simpa using this
              clear hu hd
              go_simp
              rw [if_pos HIX.out, HTN.out]
              go_simp
              exact hK _ _ rfl hC (Below.refl _ _)
            refine ⟨fun A w3 hC hu hd K hK => ?_, ?_⟩
            · have h1 : A.tmps[54]?.getD undef = Value.pointer (some ⟨ob, i + k, none⟩) := by have this : A.tmps.getD 54 undef = Value.pointer (some ⟨ob, i + k, none⟩) := hd ⟨9, .data⟩ (by simp) rfl _ _ rfl rfl; simpa using this
              have hl := (HO.out _ hC.2).1
              clear hu hd
              go_simp
              exact hK _ _ rfl hC (Below.refl _ _)
            refine ⟨fun A w3 hC hu hd K hK => ?_, ?_⟩
            · exact op_tmp 0 _ rfl (hu 0 rfl) (hK _ _ rfl hC (Below.refl _ _))
            refine ⟨fun A w3 hC hu hd K hK => ?_, ?_⟩
            · exact op_tmp 9 _ rfl (hu 9 rfl) (hK _ _ rfl hC (Below.refl _ _))
            refine ⟨fun A w3 hC hu hd K hK => ?_, ?_⟩
            · exact op_tmp 11 _ rfl (hu 11 rfl) (hK _ _ rfl hC (Below.refl _ _))
            refine ⟨fun A w3 hC hu hd K hK => ?_, ?_⟩
            · have h1 : A.tmps[57]?.getD undef = Value.int .u8 (x : Nat) := by have this : A.tmps.getD 57 undef = Value.int .u8 (x : Nat) := hd ⟨12, .data⟩ (by simp) rfl _ _ rfl rfl; simpa using this
              have h2 : A.tmps[58]?.getD undef = Value.int .u8 (y : Nat) := by have this : A.tmps.getD 58 undef = Value.int .u8 (y : Nat) := hd ⟨13, .data⟩ (by simp) rfl _ _ rfl rfl; simpa using this
              clear hu hd
              go_simp
              exact hK _ _ (PairB.new w3 _ _ _) ⟨hC.1.alloc _, hC.2.alloc _ _⟩ ((Below.refl _ _).alloc (Nat.le_refl _) _)
            refine ⟨fun A w3 hC hu hd K hK => ?_, ?_⟩
            · have h1 : A.tmps[56]?.getD undef = Value.pointer (some ⟨f, 0, none⟩) := by have this : A.tmps.getD 56 undef = Value.pointer (some ⟨f, 0, none⟩) := hd ⟨11, .data⟩ (by simp) rfl _ _ rfl rfl; simpa using this
              obtain ⟨n, h0, hc2⟩ : PairB (A.tmps.getD 59 undef) w3 x y := hd ⟨14, .data⟩ (by simp) rfl _ _ rfl rfl; have h2 : A.tmps[59]?.getD undef = .slice (some ⟨n, 0, none⟩) 2 2 := by simpa using h0
              clear hu hd h0
              go_simp
              refine Calls.mono (gf_Mul f _ _ _ [x, y] _ hC.1.2 rfl hc2 (by simp [hx, hy]) (by simp)) ?_
              rintro e w4 ⟨rfl, rfl⟩
              rw [gprod_two x y hy]
              exact hK _ _ rfl hC (Below.refl _ _)
            refine ⟨fun A w3 hC hu hd K hK => ?_, ?_⟩
            · have h1 : A.tmps[55]?.getD undef = Value.int .u8 (o : Nat) := by have this : A.tmps.getD 55 undef = Value.int .u8 (o : Nat) := hd ⟨10, .data⟩ (by simp) rfl _ _ rfl rfl; simpa using this
              have h2 : A.tmps[60]?.getD undef = Value.int .u8 (gmul x y : Nat) := by have this : A.tmps.getD 60 undef = Value.int .u8 (gmul x y : Nat) := hd ⟨15, .data⟩ (by simp) rfl _ _ rfl rfl; simpa using this
              clear hu hd
              go_simp
              exact hK _ _ (PairB.new w3 _ _ _) ⟨hC.1.alloc _, hC.2.alloc _ _⟩ ((Below.refl _ _).alloc (Nat.le_refl _) _)
            refine ⟨fun A w3 hC hu hd K hK => ?_, ?_⟩
            · have h1 : A.tmps[49]?.getD undef = Value.pointer (some ⟨f, 0, none⟩) := by have this : A.tmps.getD 49 undef = Value.pointer (some ⟨f, 0, none⟩) := hd ⟨4, .data⟩ (by simp) rfl _ _ rfl rfl; simpa using this
              obtain ⟨n, h0, hc2⟩ : PairB (A.tmps.getD 61 undef) w3 o (gmul x y) := hd ⟨16, .data⟩ (by simp) rfl _ _ rfl rfl; have h2 : A.tmps[61]?.getD undef = .slice (some ⟨n, 0, none⟩) 2 2 := by simpa using h0
              clear hu hd h0
              go_simp
              refine Calls.mono (gf_Add f _ _ _ [o, gmul x y] _ rfl hc2 (by simp [ho, gmul_lt]) (by simp)) ?_
              rintro e w4 ⟨rfl, rfl⟩
              rw [gsum_two o (gmul x y)]
              exact hK _ _ rfl hC (Below.refl _ _)
            refine ⟨fun A w3 hC hu hd K hK => ?_, ?_⟩
            · have h1 : A.tmps[45]?.getD undef = Value.slice (some ⟨ob, 0, none⟩) N N := by have this : A.tmps.getD 45 undef = Value.slice (some ⟨ob, 0, none⟩) N N := hd ⟨0, .data⟩ (by simp) rfl _ _ rfl rfl; simpa using this
              have h2 : A.tmps[48]?.getD undef = Value.int .i64 ((i : Int) + (k : Int)) := by have this : A.tmps.getD 48 undef = Value.int .i64 ((i : Int) + (k : Int)) := hd ⟨3, .data⟩ (by simp) rfl _ _ rfl rfl; simpa using this
              clear hu hd
              go_simp
              rw [if_pos HIX.out, HTN.out]
              go_simp
              exact hK _ _ rfl hC (Below.refl _ _)
            trivial
          · intro vs w4 hC hbl hv
            have h62 : vs 62 = .int .u8 (o ^^^ gmul x y : Nat) := hv 17 _ 62 (by decide) rfl rfl
            have h63 : vs 63 = .pointer (some ⟨ob, i + k, none⟩) := hv 18 _ 63 (by decide) rfl rfl
            clear hv hbl
            have hl := HO.out _ hC.2
            have HC := hid hC
            clear hC
            simp only [List.take_succ_cons, List.take_zero, wrote_cons, wrote_nil]
            go_simp
            have hbel : Below w2.heap.size w2 (w4.setCell ⟨ob, i + k, none⟩ (.int .u8 (o ^^^ gmul x y : Nat))) := HC.out.1.1.setCell (by show w2.heap.size ≤ ob; rw [HOB.out]; exact Nat.le_refl _) _
            have HK6 : Hid (Keeps w2 f (w4.setCell ⟨ob, i + k, none⟩ (.int .u8 (o ^^^ gmul x y : Nat)))) := ⟨hbel, K2.out.2.below hbel K2.out.2.lt⟩
            have HM6 := hid (HC.out.2.set (i + k) (o ^^^ gmul x y) (by rw [hL2.out]; exact hik))
            rw [← HSet.out, ← HCS2.out] at HM6
            clear hbel hl HC h62 h63
            generalize w4.setCell ⟨ob, i + k, none⟩ (.int .u8 (o ^^^ gmul x y : Nat)) = w5 at *
            generalize (o ^^^ gmul x y) = v at *
            go_wp2_with ((with_reducible refine wpList_unguard ?_ ?_); (focus rfl))
            go_roundw
            case rel => exact ⟨k + 1, by omega, by go_num, HK6.out, HM6.out⟩
            case measure => simp [intOf]; omega
        · obtain rfl : k = B.length := by omega
          have HM6 : Hid (bufB wr ob (convTo L0 A B (i + 1))) := by show bufB _ _ _; rw [HCS.out]; exact HM.out
          clear HM HCS
          go_wp2_with ((with_reducible refine wpList_unguard ?_ ?_); (focus rfl))
          go_roundw
          case rel => exact ⟨i + 1, by omega, by go_num, K5.out, HM6.out⟩
          case measure => simp [intOf]; omega
    · obtain rfl : i = A.length := by omega
      have hlen : Hid ((convTo L0 A B A.length).length = N) := by show _ = _; rw [convTo_length]; exact HL0.out
      go_wp2_with ((with_reducible refine wpList_unguard ?_ ?_); (focus rfl))
      go_ret
      exact ⟨some ⟨ob, 0, none⟩, N, by rw [he.out, hlen.out]; rfl, by rw [he.out, hlen.out]; exact Nat.le_refl _, by rw [he.out]; exact HM.out.1, K.out.1.trans (K4.out.1.mono K.out.1.size), .inr ⟨_, rfl⟩⟩
theorem poly_two (f : Nat) (p q : Option Addr) (n c m d : Nat) (a b : List Nat) (w : World) (hF : isF w f) (hn : n = a.length) (hnc : n ≤ c) (hp : cellsB w p a) (hm : m = b.length) (hmd : m ≤ d) (hq : cellsB w q b)
    (hba : bytesL a) (hbb : bytesL b) (hla : a.length ≤ 100000) (hlb : b.length ≤ 100000) :
    Calls Try.prog 48 #[.pointer (some ⟨f, 0, none⟩), .slice p n c, .slice q m d] w (RetC w (ptwo a b)) :=
  (poly_twoO f p q n c m d a b w hF hn hnc hp hm hmd hq hba hbb hla hlb).mono fun _ _ h => h.ret
end Go.Proofs.Ytgckhekikcdaiaa

namespace Tri
def pmul (l : List (List Nat)) : List Nat := l.foldl ptwo [1]
def lens (l : List (List Nat)) : Nat := (l.map List.length).sum
theorem ptwo_length_le (a b : List Nat) : (ptwo a b).length ≤ a.length + b.length := by
  unfold ptwo
  split
  · simp
  · rw [convTo_length, List.length_replicate]
    have := trim_length_le a
    have := trim_length_le b
    omega
theorem ptwo_bytes {a b : List Nat} (_ha : bytesL a) (_hb : bytesL b) : bytesL (ptwo a b) := by
  unfold ptwo
  split
  · intro y hy; simp at hy
  · refine convTo_bytes ?_ _ _ _
    intro y hy; rw [List.mem_replicate] at hy; omega
theorem pmul_snoc (l : List (List Nat)) (a : List Nat) : pmul (l ++ [a]) = ptwo (pmul l) a := by simp [pmul]
theorem lens_snoc (l : List (List Nat)) (a : List Nat) : lens (l ++ [a]) = lens l + a.length := by simp [lens]
theorem take_snocR (l : List (List Nat)) (k : Nat) (h : k < l.length) : l.take (k + 1) = l.take k ++ [l.getD k []] := by
  rw [List.take_succ_eq_append_getElem h]
  simp [h]
theorem lens_take_le (l : List (List Nat)) (k : Nat) : lens (l.take k) ≤ lens l := by
  have : lens l = lens (l.take k) + lens (l.drop k) := by
    have h := List.take_append_drop k l
    have h2 := congrArg (fun l => (l.map List.length).sum) h
    simp only [List.map_append, List.sum_append] at h2
    unfold lens
    omega
  omega
theorem pmul_take (l : List (List Nat)) (hb : ∀ a ∈ l, bytesL a) (k : Nat) (hk : k ≤ l.length) : (pmul (l.take k)).length ≤ lens (l.take k) + 1 ∧ bytesL (pmul (l.take k)) := by
  induction k with
  | zero =>
    refine ⟨by simp [pmul], ?_⟩
    intro y hy; simp [pmul] at hy; omega
  | succ k ih =>
    obtain ⟨h1, h2⟩ := ih (by omega)
    have hm : l.getD k [] ∈ l := by rw [List.getD_eq_getElem?_getD, List.getElem?_eq_getElem (by omega)]; exact List.getElem_mem _
    rw [take_snocR l k (by omega), pmul_snoc, lens_snoc]
    refine ⟨?_, ptwo_bytes h2 (hb _ hm)⟩
    have := ptwo_length_le (pmul (l.take k)) (l.getD k [])
    omega
end Tri
namespace Go.Proofs.Ytgckhekikcdaiaa
open Go.RowKit Tri

/-- A row of rows of bytes. -/
def cellsR (w : World) (p : Option Addr) (l : List (List Nat)) : Prop :=
  ∀ i, i < l.length → ∃ a o q c, p = some ⟨a, o, none⟩ ∧ w.cell? ⟨a, o + i, none⟩ = some (.slice q (l.getD i []).length c) ∧ (l.getD i []).length ≤ c ∧ cellsB w q (l.getD i [])
theorem cellsR.below {w w' : World} {p : Option Addr} {l : List (List Nat)} (h : cellsR w p l) (hb : Below w.heap.size w w') : cellsR w' p l := by
  intro i hi
  obtain ⟨a, o, q, c, e, hc, hle, hq⟩ := h i hi
  exact ⟨a, o, q, c, e, by rw [hb.cell (p := ⟨a, o + i, none⟩) (block_lt_of_cell hc)]; exact hc, hle, hq.below hb⟩

set_option maxHeartbeats 1000000 in
set_option maxRecDepth 100000 in
theorem poly_MulO (f : Nat) (p : Option Addr) (n c : Nat) (l : List (List Nat)) (w : World) (hF : isF w f) (hn : n = l.length) (hp : cellsR w p l) (hb : ∀ a ∈ l, bytesL a) (hl : l.length ≤ 100000) (hz : lens l ≤ 90000) :
    Calls Try.prog 60 #[.pointer (some ⟨f, 0, none⟩), .slice p n c] w (RetO w (pmul l)) := by
  subst hn
  have HP := hid hp
  have HB := hid hb
  have HZ := hid hz
  have HF := hid hF
  clear hp hb hz hF
  go_enter Try.func60, Try.ntmps60
  go_wp2_with ((with_reducible refine wpList_unguard ?_ ?_); (focus rfl))
  have K0 := hid (show Keeps w f (w.alloc (.cells #[.int .u8 1] 5)) from Keeps.alloc ⟨Below.refl _ _, HF.out⟩ _)
  have C0 := hid (cellsB.new w [1] #[.int .u8 1] 5 rfl)
  generalize w.alloc (.cells #[.int .u8 1] 5) = w1 at *
  generalize w.heap.size = b0 at C0 ⊢
  go_loopw [5, 13] (fun s i wr => ∃ k : Nat, k ≤ l.length ∧ i = .int .i64 k ∧ (∃ q d, s = .slice q (pmul (l.take k)).length d ∧ (pmul (l.take k)).length ≤ d ∧ cellsB wr q (pmul (l.take k)) ∧ (q = none ∨ ∃ b, q = some ⟨b, 0, none⟩)) ∧ Keeps w f wr) (fun _ i _ => l.length - (intOf i).toNat)
  case atStart => exact ⟨0, Nat.zero_le _, rfl, ⟨_, _, rfl, Nat.le_refl _, C0.out, .inr ⟨_, rfl⟩⟩, K0.out⟩
  case round =>
    clear K0 C0
    obtain ⟨k, hk, rfl, ⟨q, d, rfl, hle, hq, hqo⟩, hK⟩ := hrel
    have HQO := hid hqo
    have HQ := hid hq
    have K := hid hK
    clear hq hK hqo
    by_cases hlt : k < l.length
    · obtain ⟨a, o, q', c', rfl, hc0, hcc, hq'⟩ := HP.out k hlt
      have hc : wr.cell? ⟨a, o + k, none⟩ = some (.slice q' (l.getD k []).length c') := by
        rw [K.out.1.cell (p := ⟨a, o + k, none⟩) (block_lt_of_cell hc0)]; exact hc0
      have HQ' := hid (hq'.below K.out.1)
      have hpt := pmul_take l HB.out k hk
      have hm : l.getD k [] ∈ l := by rw [List.getD_eq_getElem?_getD, List.getElem?_eq_getElem hlt]; exact List.getElem_mem _
      have hx : Hid (bytesL (l.getD k [])) := HB.out _ hm
      have hlen : (l.getD k []).length ≤ 90000 := by
        have h1 := lens_take_le l (k + 1)
        rw [take_snocR l k hlt, lens_snoc] at h1
        have := HZ.out
        omega
      have hlp : (pmul (l.take k)).length ≤ 100000 := by
        have h1 := lens_take_le l k
        have := HZ.out
        have := hpt.1
        omega
      have HS : Hid (pmul (l.take (k + 1)) = ptwo (pmul (l.take k)) (l.getD k [])) := by show _ = _; rw [take_snocR l k hlt, pmul_snoc]
      have hxb := hid hpt.2
      clear hc0 hq' hpt hm
      generalize l.getD k [] = y at *
      generalize pmul (l.take k) = s at *
      go_wp2_with ((with_reducible refine wpList_unguard ?_ ?_); (focus rfl))
      refine Calls.mono (poly_twoO f q q' _ d _ c' s y wr K.out.2 rfl hle HQ.out rfl hcc HQ'.out hxb.out hx.out hlp (by omega)) ?_
      rintro e w2 ⟨q2, d2, rfl, hle2, hq2, hbel, hqo2⟩
      have HQO2 := hid hqo2
      have HQ2 := hid hq2
      have K2 : Hid (Keeps w f w2) := ⟨K.out.1.trans (hbel.mono K.out.1.size), K.out.2.below hbel K.out.2.lt⟩
      clear hq2 hbel K hqo2
      rw [← HS.out] at hle2 HQ2 ⊢
      clear HS
      generalize hs' : pmul (l.take (k + 1)) = s' at *
      have HS' := hid hs'
      clear hs'
      go_wp2_with ((with_reducible refine wpList_unguard ?_ ?_); (focus rfl))
      go_roundw
      case rel => exact ⟨k + 1, by omega, by go_num, by rw [HS'.out]; exact ⟨q2, d2, rfl, hle2, HQ2.out, HQO2.out⟩, K2.out⟩
      case measure => simp [intOf]; omega
    · have he : Hid (pmul (l.take k) = pmul l) := by show _ = _; rw [List.take_of_length_le (by omega)]
      rw [he.out] at hle HQ ⊢
      go_wp2_with ((with_reducible refine wpList_unguard ?_ ?_); (focus rfl))
      go_ret
      exact ⟨q, d, rfl, hle, HQ.out, K.out.1, HQO.out⟩
theorem poly_Mul (f : Nat) (p : Option Addr) (n c : Nat) (l : List (List Nat)) (w : World) (hF : isF w f) (hn : n = l.length) (hp : cellsR w p l) (hb : ∀ a ∈ l, bytesL a) (hl : l.length ≤ 100000) (hz : lens l ≤ 90000) :
    Calls Try.prog 60 #[.pointer (some ⟨f, 0, none⟩), .slice p n c] w (RetC w (pmul l)) :=
  (poly_MulO f p n c l w hF hn hp hb hl hz).mono fun _ _ h => h.ret
end Go.Proofs.Ytgckhekikcdaiaa

namespace Tri
/-- The bytes of a added, from place j on, the first k. -/
def rowAdd (L : List Nat) (j : Nat) (a : List Nat) : Nat → List Nat
  | 0 => L
  | k + 1 => acc (rowAdd L j a k) (j + k) (a.getD k 0)
def longest (l : List (List Nat)) : Nat := l.foldl (fun n a => max n a.length) 0
def addAll (n : Nat) (l : List (List Nat)) : List Nat := l.foldl (fun L a => rowAdd L (n - a.length) a a.length) (List.replicate n 0)
def padd (l : List (List Nat)) : List Nat := trim (addAll (longest l) l)
theorem longest_snoc (l : List (List Nat)) (a : List Nat) : longest (l ++ [a]) = max (longest l) a.length := by simp [longest]
theorem longest_foldl (l : List (List Nat)) : ∀ n : Nat, n ≤ l.foldl (fun n a => max n a.length) n ∧ ∀ a ∈ l, a.length ≤ l.foldl (fun n a => max n a.length) n := by
  induction l with
  | nil => intro n; exact ⟨Nat.le_refl _, by simp⟩
  | cons b l ih =>
    intro n
    simp only [List.foldl_cons]
    obtain ⟨h1, h2⟩ := ih (max n b.length)
    refine ⟨by omega, fun a ha => ?_⟩
    rcases List.mem_cons.1 ha with rfl | h
    · omega
    · exact h2 a h
theorem longest_ge (l : List (List Nat)) (a : List Nat) (h : a ∈ l) : a.length ≤ longest l := (longest_foldl l 0).2 a h
theorem longest_le (l : List (List Nat)) (m : Nat) (h : ∀ a ∈ l, a.length ≤ m) : longest l ≤ m := by
  unfold longest
  have key : ∀ (l : List (List Nat)) (n : Nat), n ≤ m → (∀ a ∈ l, a.length ≤ m) → l.foldl (fun n a => max n a.length) n ≤ m := by
    intro l
    induction l with
    | nil => intro n hn _; exact hn
    | cons b l ih => intro n hn h; rw [List.foldl_cons]; exact ih _ (by have := h b (by simp); show max n b.length ≤ m; omega) (fun a ha => h a (by simp [ha]))
  exact key l 0 (Nat.zero_le _) h
theorem rowAdd_length (L : List Nat) (j : Nat) (a : List Nat) (k : Nat) : (rowAdd L j a k).length = L.length := by
  induction k with
  | zero => rfl
  | succ k ih => rw [rowAdd, acc_length, ih]
theorem rowAdd_bytes {L : List Nat} (h : bytesL L) (j : Nat) {a : List Nat} (ha : bytesL a) (k : Nat) : bytesL (rowAdd L j a k) := by
  induction k with
  | zero => exact h
  | succ k ih =>
    refine acc_bytes ih ?_
    by_cases hk : k < a.length
    · exact ha _ (by rw [List.getD_eq_getElem?_getD, List.getElem?_eq_getElem hk]; exact List.getElem_mem hk)
    · rw [List.getD_eq_getElem?_getD, List.getElem?_eq_none (by omega)]; simp
theorem addAll_snoc (n : Nat) (l : List (List Nat)) (a : List Nat) : addAll n (l ++ [a]) = rowAdd (addAll n l) (n - a.length) a a.length := by simp [addAll]
theorem addAll_take (n : Nat) (l : List (List Nat)) (hb : ∀ a ∈ l, bytesL a) (k : Nat) (hk : k ≤ l.length) : (addAll n (l.take k)).length = n ∧ bytesL (addAll n (l.take k)) := by
  induction k with
  | zero => exact ⟨by simp [addAll], by intro y hy; simp [addAll] at hy; omega⟩
  | succ k ih =>
    obtain ⟨h1, h2⟩ := ih (by omega)
    have hm : l.getD k [] ∈ l := by rw [List.getD_eq_getElem?_getD, List.getElem?_eq_getElem (by omega)]; exact List.getElem_mem _
    rw [take_snocR l k (by omega), addAll_snoc]
    exact ⟨by rw [rowAdd_length, h1], rowAdd_bytes h2 _ (hb _ hm) _⟩
end Tri
namespace Go.Proofs.Ytgckhekikcdaiaa
open Go.RowKit Tri

set_option maxHeartbeats 2000000 in
set_option maxRecDepth 100000 in
theorem poly_Add (f : Nat) (p : Option Addr) (n c : Nat) (l : List (List Nat)) (w : World) (hF : isF w f) (hn : n = l.length) (hp : cellsR w p l) (hb : ∀ a ∈ l, bytesL a) (hl : l.length ≤ 100000) (hz : ∀ a ∈ l, a.length ≤ 100000) :
    Calls Try.prog 50 #[.pointer (some ⟨f, 0, none⟩), .slice p n c] w (RetB w (padd l)) := by
  subst hn
  have HP := hid hp
  have HB := hid hb
  have HZ := hid hz
  have HF := hid hF
  clear hp hb hz hF
  have hmem : ∀ k, k < l.length → l.getD k [] ∈ l := fun k hk => by rw [List.getD_eq_getElem?_getD, List.getElem?_eq_getElem hk]; exact List.getElem_mem _
  have HMem := hid hmem
  clear hmem
  have hnl : longest l ≤ 100000 := longest_le l _ HZ.out
  go_enter Try.func50, Try.ntmps50
  go_wp2_with ((with_reducible refine wpList_unguard ?_ ?_); (focus rfl))
  go_loop [5, 18] (fun s i => ∃ k : Nat, k ≤ l.length ∧ i = .int .i64 k ∧ s = .int .i64 (longest (l.take k) : Nat)) (fun _ i => l.length - (intOf i).toNat)
  case atStart => exact ⟨0, Nat.zero_le _, rfl, rfl⟩
  case round =>
    obtain ⟨k, hk, rfl, rfl⟩ := hrel
    by_cases hlt : k < l.length
    · obtain ⟨a, o, q', c', rfl, hc, _, _⟩ := HP.out k hlt
      have HS : Hid (longest (l.take (k + 1)) = max (longest (l.take k)) (l.getD k []).length) := by show _ = _; rw [take_snocR l k hlt, longest_snoc]
      have hlen := HZ.out _ (HMem.out k hlt)
      have hlk : longest (l.take k) ≤ 100000 := longest_le _ _ fun a ha => HZ.out a (List.mem_of_mem_take ha)
      generalize l.getD k [] = y at *
      generalize longest (l.take k) = m at *
      go_wp2_with ((with_reducible refine wpList_unguard ?_ ?_); (focus rfl))
      refine ⟨⟨k + 1, by omega, by go_num, ?_⟩, by simp [intOf]; omega⟩
      rw [HS.out]
      congr 1
      split <;> omega
    · have hlo : Hid (longest (l.take k) = longest l) := by show _ = _; rw [List.take_of_length_le (by omega)]
      rw [hlo.out]
      have hmk := run_make_row' (P := Try.prog) 22 5 (.int .u8 0) 1 Try.underlying22 Try.infoB rfl .i64 .i64 (longest l) (by omega) (by omega)
      have HM := hid (bufB.made w (longest l) 5)
      have K2 : Hid (Keeps w f w) := ⟨Below.refl _ _, HF.out⟩
      have K3 := hid (K2.out.alloc (.cells (madeCells #[.int .u8 0] (longest l)) 5))
      have hge : Hid (∀ k, k < l.length → (l.getD k []).length ≤ longest l) := fun k hk => longest_ge l _ (HMem.out k hk)
      have HA : Hid (∀ k, k ≤ l.length → (addAll (longest l) (l.take k)).length = longest l ∧ bytesL (addAll (longest l) (l.take k))) := addAll_take _ l HB.out
      have HA0 : Hid (addAll (longest l) (l.take 0) = List.replicate (longest l) 0) := rfl
      have HAS : Hid (∀ k, k < l.length → addAll (longest l) (l.take (k + 1)) = rowAdd (addAll (longest l) (l.take k)) (longest l - (l.getD k []).length) (l.getD k []) (l.getD k []).length) := fun k hk => by rw [take_snocR l k hk, addAll_snoc]
      have HP' : Hid (padd l = trim (addAll (longest l) l)) := rfl
      clear hlo
      generalize longest l = N at *
      go_wp2_with ((with_reducible refine wpList_unguard ?_ ?_); (focus rfl))
      generalize w.alloc (.cells (madeCells #[.int .u8 0] N) 5) = w3 at *
      obtain ⟨ob, hob⟩ : ∃ ob, w.heap.size = ob := ⟨_, rfl⟩
      have HOB := hid hob
      rw [hob] at HM ⊢
      clear hmk hob
      go_loopw [31] (fun i wr => ∃ k : Nat, k ≤ l.length ∧ i = .int .i64 k ∧ Keeps w f wr ∧ bufB wr ob (addAll N (l.take k))) (fun i _ => l.length - (intOf i).toNat)
      case atStart => exact ⟨0, Nat.zero_le _, rfl, K3.out, by rw [HA0.out]; exact HM.out⟩
      case round =>
        clear K3 HM HA0
        obtain ⟨i, hi, rfl, hK, hM⟩ := hrel
        have K4 := hid hK
        have HM := hid hM
        clear hK hM
        by_cases hlt : i < l.length
        · obtain ⟨a, o, q', c', rfl, hc0, _, hq'⟩ := HP.out i hlt
          have hc : wr.cell? ⟨a, o + i, none⟩ = some (.slice q' (l.getD i []).length c') := by
            rw [K4.out.1.cell (p := ⟨a, o + i, none⟩) (block_lt_of_cell hc0)]; exact hc0
          have hyl := hge.out i hlt
          have hyb : Hid (bytesL (l.getD i [])) := HB.out _ (HMem.out i hlt)
          have HCS := hid (HAS.out i hlt)
          have hL1 : Hid ((addAll N (l.take i)).length = N) := (HA.out i (by omega)).1
          have hB1 : Hid (bytesL (addAll N (l.take i))) := (HA.out i (by omega)).2
          have HQ := hid hq'
          clear hc0 hq'
          generalize hs1 : addAll N (l.take (i + 1)) = S1 at *
          have HS1 := hid hs1
          clear hs1
          generalize l.getD i [] = y at *
          generalize addAll N (l.take i) = L1 at *
          go_wp2_with ((with_reducible refine wpList_unguard ?_ ?_); (focus rfl))
          go_loopw [37] (fun i' wr => ∃ k : Nat, k ≤ y.length ∧ i' = .int .i64 k ∧ Keeps w f wr ∧ bufB wr ob (rowAdd L1 (N - y.length) y k)) (fun i' _ => y.length - (intOf i').toNat)
          case atStart => exact ⟨0, Nat.zero_le _, rfl, K4.out, HM.out⟩
          case round =>
            clear HM
            obtain ⟨k, hk, rfl, hK, hM⟩ := hrel
            have K5 := hid hK
            have HM := hid hM
            clear hK hM
            by_cases hkt : k < y.length
            · obtain ⟨b', q'', rfl, hc0⟩ := HQ.out k hkt
              have hcb : wr.cell? ⟨b', q'' + k, none⟩ = some (.int .u8 (y.getD k 0 : Nat)) := by
                rw [K5.out.1.cell (p := ⟨b', q'' + k, none⟩) (block_lt_of_cell hc0)]; exact hc0
              have hy : y.getD k 0 < 256 := hyb.out _ (getD_mem y k hkt)
              have HCS2 : Hid (rowAdd L1 (N - y.length) y (k + 1) = (rowAdd L1 (N - y.length) y k).set (N - y.length + k) ((rowAdd L1 (N - y.length) y k).getD (N - y.length + k) 0 ^^^ y.getD k 0)) := rfl
              have hL2 : Hid ((rowAdd L1 (N - y.length) y k).length = N) := by show _ = _; rw [rowAdd_length]; exact hL1.out
              have hB2 := hid (rowAdd_bytes hB1.out (N - y.length) hyb.out k)
              clear hc0
              generalize hs2 : rowAdd L1 (N - y.length) y (k + 1) = S2 at *
              have HS2 := hid hs2
              clear hs2
              generalize y.getD k 0 = x at *
              generalize rowAdd L1 (N - y.length) y k = L at *
              obtain ⟨j, hj⟩ : ∃ j, N - y.length + k = j := ⟨_, rfl⟩
              have hjN : j < N := by omega
              have hjI : (N : Int) - (y.length : Int) + (k : Int) = (j : Int) := by omega
              rw [hj] at HCS2
              clear hj
              have ho : L.getD j 0 < 256 := hB2.out _ (getD_mem L _ (by rw [hL2.out]; exact hjN))
              have hcell := HM.out.at j (by rw [hL2.out]; exact hjN)
              have hfr := HM.out.2 j (by rw [hL2.out]; exact hjN)
              generalize L.getD j 0 = o at *
              go_wp2_with ((with_reducible refine wpList_unguard ?_ ?_); (focus rfl))
              refine Calls.mono (gf_Add f _ _ _ [o, x] _ rfl (cellsB.new wr [o, x] _ 5 rfl) (by simp [ho, hy]) (by simp)) ?_
              rintro e w4 ⟨rfl, rfl⟩
              rw [gsum_two o x]
              have K6 := hid (K5.out.alloc (.cells #[.int .u8 (o : Nat), .int .u8 (x : Nat)] 5))
              have HM6 := hid (HM.out.alloc #[.int .u8 (o : Nat), .int .u8 (x : Nat)] 5)
              have hcell := HM6.out.at j (by rw [hL2.out]; exact hjN)
              have hfr := HM6.out.2 j (by rw [hL2.out]; exact hjN)
              clear HM K5
              generalize wr.alloc (.cells #[.int .u8 (o : Nat), .int .u8 (x : Nat)] 5) = w6 at *
              have hbel : Below w.heap.size w (w6.setCell ⟨ob, j, none⟩ (.int .u8 (o ^^^ x : Nat))) := K6.out.1.setCell (by show w.heap.size ≤ ob; rw [HOB.out]; exact Nat.le_refl _) _
              have K7 : Hid (Keeps w f (w6.setCell ⟨ob, j, none⟩ (.int .u8 (o ^^^ x : Nat)))) := ⟨hbel, HF.out.below hbel HF.out.lt⟩
              have HM7 := hid (HM6.out.set j (o ^^^ x) (by rw [hL2.out]; exact hjN))
              rw [← HCS2.out] at HM7
              clear hbel K6 HM6
              generalize (o ^^^ x) = v at *
              go_wp2_with ((with_reducible refine wpList_unguard ?_ ?_); (focus rfl))
              generalize w6.setCell ⟨ob, j, none⟩ (.int .u8 (v : Nat)) = w7 at *
              go_roundw
              case rel => exact ⟨k + 1, by omega, by go_num, K7.out, by rw [HS2.out]; exact HM7.out⟩
              case measure => simp [intOf]; omega
            · obtain rfl : k = y.length := by omega
              rw [← HCS.out] at HM
              go_wp2_with ((with_reducible refine wpList_unguard ?_ ?_); (focus rfl))
              go_roundw
              case rel => exact ⟨i + 1, by omega, by go_num, K5.out, by rw [HS1.out]; exact HM.out⟩
              case measure => simp [intOf]; omega
        · obtain rfl : i = l.length := by omega
          have hA := HA.out l.length (Nat.le_refl _)
          rw [List.take_length] at HM hA
          have hAN := hA.1
          clear hA
          have HL := hid hAN
          clear hAN
          generalize addAll N l = S at *
          go_wp2_with ((with_reducible refine wpList_unguard ?_ ?_); (focus rfl))
          refine Calls.mono (poly_Trim _ N _ S _ HL.out.symm (Nat.le_refl _) HM.out.1 (by rw [HL.out]; omega)) ?_; rintro e w5 ⟨v, rfl, hO, hB⟩
          rw [← HP'.out] at hO
          have HO := hid (World.ownsRow.mono hO K4.out.1.size)
          have HB' := hid (K4.out.1.trans (hB.mono K4.out.1.size))
          clear hO hB
          go_wp2_with ((with_reducible refine wpList_unguard ?_ ?_); (focus rfl))
          go_ret
          exact ⟨v, rfl, HO.out, HB'.out⟩
end Go.Proofs.Ytgckhekikcdaiaa

namespace Tri
def derTo (L : List Nat) (n : Nat) : Nat → List Nat
  | 0 => L
  | k + 1 => if (n - 1 - k) % 2 = 0 then (derTo L n k).set k 0 else derTo L n k
def pder (a : List Nat) : List Nat := if a = [] then [] else trim (derTo (a.take (a.length - 1)) a.length (a.length - 1))
theorem derTo_length (L : List Nat) (n k : Nat) : (derTo L n k).length = L.length := by
  induction k with
  | zero => rfl
  | succ k ih =>
    unfold derTo
    split
    · rw [List.length_set, ih]
    · exact ih
end Tri
namespace Go.Proofs.Ytgckhekikcdaiaa
open Go.RowKit Tri

theorem ownsB.buf {w : World} {base : Nat} {v : Value} {l : List Nat} (h : ownsB w base v l) :
    (v = .slice none 0 0 ∧ l = []) ∨ ∃ g cap, v = .slice (some ⟨g, 0, none⟩) l.length cap ∧ base ≤ g ∧ l.length ≤ cap ∧ bufB w g l := by
  have h' := h
  obtain ⟨_, h0⟩ := h
  rcases h0 with ⟨h1, h2⟩ | ⟨g, cap, cur, h1, h2, h3, h4, h5, h6, h7⟩
  · exact .inl ⟨h1, List.eq_nil_of_length_eq_zero h2⟩
  · refine .inr ⟨g, cap, h1, h2, h4, ?_, fun i hi => ?_⟩
    · obtain ⟨p, c, e, hc⟩ := h'.cells
      rw [h1] at e
      simp only [Value.slice.injEq] at e
      rw [e.1]
      exact hc
    · unfold World.frozen?
      rw [h3]
      simp

end Go.Proofs.Ytgckhekikcdaiaa
