/-
  Geometries: within, Right, Wide, Slot, log, All, Tally, Half; the reference's Right.
-/
import Derived.Test.YtiicbbhjepkndaaQreg
import Derived.Test.YtiicbbhjepkndaaCz
namespace Tri
def withinB : List Int → Bool
  | a :: x :: b :: l => decide (a ≤ x ∧ x ≤ b) && withinB l
  | _ => true
def geoOk (d p s : Int) : Bool := decide (1 ≤ d ∧ d ≤ 8) && (decide (2 ≤ p ∧ p ≤ 6) && decide (1 ≤ s ∧ s ≤ 8))
def wideI (d p s : Int) : Int := if geoOk d p s then d + p else 0
def slotI (d p s : Int) : Int := if geoOk d p s then (d + p) * s else 0
def allI (d p s : Int) : Int := if geoOk d p s then 3 * ((d + p) * s) + 18 else 0
theorem geoOk_iff {d p s : Int} : geoOk d p s = true ↔ (1 ≤ d ∧ d ≤ 8) ∧ (2 ≤ p ∧ p ≤ 6) ∧ (1 ≤ s ∧ s ≤ 8) := by
  unfold geoOk
  simp only [Bool.and_eq_true, decide_eq_true_eq]
theorem slot_le {d p s : Int} (h : geoOk d p s = true) : 3 ≤ (d + p) * s ∧ (d + p) * s ≤ 112 := by
  obtain ⟨h1, h2, h3⟩ := geoOk_iff.1 h
  have a1 : (d + p) * s ≤ 14 * s := Int.mul_le_mul_of_nonneg_right (by omega) (by omega)
  have a2 : 3 * s ≤ (d + p) * s := Int.mul_le_mul_of_nonneg_right (by omega) (by omega)
  omega
end Tri
namespace Go.Proofs.Ytiicbbhjepkndaa
open Go.RowKit Tri

def slLen (v : Value) : Nat := match v with | .slice _ m _ => m | _ => 0
theorem cellsZ.drop {w : World} {a o : Nat} {l : List Int} (h : cellsZ w (some ⟨a, o, none⟩) l) (k : Nat) : cellsZ w (some ⟨a, o + k, none⟩) (l.drop k) := by
  intro i hi
  rw [List.length_drop] at hi
  obtain ⟨a', o', e, hc⟩ := h (k + i) (by omega)
  simp only [Option.some.injEq, Addr.mk.injEq] at e
  obtain ⟨rfl, rfl, _⟩ := e
  refine ⟨_, _, rfl, ?_⟩
  rw [show o + k + i = o + (k + i) from by omega, hc, List.getD_eq_getElem?_getD, List.getD_eq_getElem?_getD, List.getElem?_drop]
set_option maxHeartbeats 4000000 in
set_option maxRecDepth 100000 in
theorem geo_within (p : Option Addr) (n c : Nat) (l : List Int) (w : World) (hn : n = l.length) (hnc : n ≤ c) (hp : cellsZ w p l) (h3 : l.length % 3 = 0) (hl : l.length ≤ 1000) :
    Calls Try.prog 97 #[.slice p n c] w fun e w' => e = .returned (.bool (withinB l)) ∧ Below w.heap.size w w' := by
  subst hn
  (go_enter Try.func97, Try.ntmps97; try simp only [List.append])
  go_wp2_with ((with_reducible refine wpList_unguard ?_ ?_); (focus rfl))
  go_loopw [0] (fun v wr => ∃ (q : Option Addr) (m : List Int) (d : Nat), v = .slice q m.length d ∧ m.length ≤ d ∧ cellsZ wr q m ∧ m.length % 3 = 0 ∧ m.length ≤ 1000 ∧ withinB m = withinB l ∧ Below w.heap.size w wr) (fun v _ => slLen v)
  case atStart => exact ⟨p, l, c, rfl, hnc, hp, h3, hl, rfl, Below.refl _ _⟩
  case round =>
    obtain ⟨q, m, d, rfl, hmd, hq, hm3, hm, hw, hb⟩ := hrel
    match m, hm3, hmd, hm, hq, hw with
    | [], hm3, hmd, hm, hq, hw =>
      have HW := hid hw
      have HB := hid hb
      clear hw hb hq
      go_wp2_with ((with_reducible refine wpList_unguard ?_ ?_); (focus rfl))
      go_ret
      rw [← HW.out]
      exact ⟨rfl, HB.out⟩
    | [_], hm3, _, _, _, _ => simp at hm3
    | [_, _], hm3, _, _, _, _ => simp at hm3
    | a :: x :: b :: r, hm3, hmd, hm, hq, hw =>
      simp only [List.length_cons] at hm3 hmd hm
      obtain ⟨g, o, rfl, h0⟩ := hq 0 (by simp)
      obtain ⟨g1, o1, e1, h1⟩ := hq 1 (by simp)
      obtain ⟨g2, o2, e2, h2⟩ := hq 2 (by simp)
      simp only [Option.some.injEq, Addr.mk.injEq] at e1 e2
      obtain ⟨rfl, rfl, _⟩ := e1
      obtain ⟨rfl, rfl, _⟩ := e2
      have k0 : wr.cell? ⟨g, o, none⟩ = some (.int .i64 a) := h0
      have k1 : wr.cell? ⟨g, o + 1, none⟩ = some (.int .i64 x) := h1
      have k2 : wr.cell? ⟨g, o + 2, none⟩ = some (.int .i64 b) := h2
      have HQ := hid (cellsZ.drop hq 3)
      have HW := hid hw
      have HB := hid hb
      have hlen : (a :: x :: b :: r).length = r.length + 3 := by simp
      obtain ⟨N, hN⟩ : ∃ N, r.length + 3 = N := ⟨_, rfl⟩
      rw [hlen, hN]
      have q0 : decide ((0 : Int) < (N : Int)) = true := decide_eq_true (by omega)
      have n0 : 0 < N := by omega
      have n1 : 1 < N := by omega
      have n2 : 2 < N := by omega
      have n3 : 3 ≤ N := by omega
      have i0 : (0 : Int) < (N : Int) := by omega
      have i1 : (1 : Int) < (N : Int) := by omega
      have i2 : (2 : Int) < (N : Int) := by omega
      have hrN : r.length = N - 3 := by omega
      have HN := hid hrN
      have hNd : N ≤ d := by omega
      clear h0 h1 h2 hq hw hb hlen hN hrN
      rcases Int.lt_or_le x a with hxa | hxa
      · have q1 : decide (x < a) = true := decide_eq_true hxa
        have hR : Hid (withinB l = false) := by
          show _ = _
          rw [← HW.out]
          unfold withinB
          rw [decide_eq_false (by omega)]
          rfl
        go_wp2_with ((with_reducible refine wpList_unguard ?_ ?_); (focus rfl))
        (refine wp_region_quietC (fun w' => Below (wr).heap.size wr w') (by kernel_rfl) (by kernel_rfl) ((Below.refl _ _).drew) ?_; (repeat (first | go_big_quiet_skip | (go_big_quiet_want; first | (go_big_quiet_op; go_big_quiet_on) | (apply Exists.intro; refine And.intro (fun wq hq => ?_) ?_; (focus ((have k0' := (hq.cell (block_lt_of_cell k0)).trans k0; have k1' := (hq.cell (block_lt_of_cell k1)).trans k1; have k2' := (hq.cell (block_lt_of_cell k2)).trans k2); (try go_simp); first | done | rfl | (fail))); go_simp; go_big_quiet_on)))); refine quietC_nil _ rfl ?_; intro wE hE)
        have HE := hid (HB.out.trans (hE.mono HB.out.size))
        clear hE
        go_wp2_with ((with_reducible refine wpList_unguard ?_ ?_); (focus rfl))
        go_ret
        rw [hR.out]
        exact ⟨rfl, HE.out⟩
      · have q1 : decide (x < a) = false := decide_eq_false (by omega)
        rcases Int.lt_or_le b x with hxb | hxb
        · have q2 : decide (b < x) = true := decide_eq_true hxb
          have hR : Hid (withinB l = false) := by
            show _ = _
            rw [← HW.out]
            unfold withinB
            rw [decide_eq_false (by omega)]
            rfl
          go_wp2_with ((with_reducible refine wpList_unguard ?_ ?_); (focus rfl))
          (refine wp_region_quietC (fun w' => Below (wr).heap.size wr w') (by kernel_rfl) (by kernel_rfl) ((Below.refl _ _).drew) ?_; (repeat (first | go_big_quiet_skip | (go_big_quiet_want; first | (go_big_quiet_op; go_big_quiet_on) | (apply Exists.intro; refine And.intro (fun wq hq => ?_) ?_; (focus ((have k0' := (hq.cell (block_lt_of_cell k0)).trans k0; have k1' := (hq.cell (block_lt_of_cell k1)).trans k1; have k2' := (hq.cell (block_lt_of_cell k2)).trans k2); (try go_simp); first | done | rfl | (fail))); go_simp; go_big_quiet_on)))); refine quietC_nil _ rfl ?_; intro wE hE)
          have HE := hid (HB.out.trans (hE.mono HB.out.size))
          clear hE
          go_wp2_with ((with_reducible refine wpList_unguard ?_ ?_); (focus rfl))
          go_ret
          rw [hR.out]
          exact ⟨rfl, HE.out⟩
        · have q2 : decide (b < x) = false := decide_eq_false (by omega)
          have HW2 : Hid (withinB r = withinB l) := by
            show _ = _
            rw [← HW.out]
            show _ = withinB (a :: x :: b :: r)
            rw [withinB, decide_eq_true (by omega)]
            rfl
          go_wp2_with ((with_reducible refine wpList_unguard ?_ ?_); (focus rfl))
          (refine wp_region_quietC (fun w' => Below (wr).heap.size wr w') (by kernel_rfl) (by kernel_rfl) ((Below.refl _ _).drew) ?_; (repeat (first | go_big_quiet_skip | (go_big_quiet_want; first | (go_big_quiet_op; go_big_quiet_on) | (apply Exists.intro; refine And.intro (fun wq hq => ?_) ?_; (focus ((have k0' := (hq.cell (block_lt_of_cell k0)).trans k0; have k1' := (hq.cell (block_lt_of_cell k1)).trans k1; have k2' := (hq.cell (block_lt_of_cell k2)).trans k2); (try go_simp); first | done | rfl | (fail))); go_simp; go_big_quiet_on)))); refine quietC_nil _ rfl ?_; intro wE hE)
          have HE := hid (HB.out.trans (hE.mono HB.out.size))
          have HQ2 : Hid (cellsZ wE (some ⟨g, o + 3, none⟩) r) := HQ.out.below hE
          clear hE HQ HB HW
          by_cases hd3 : d = 3
          · subst hd3
            have hr0 : r = [] := by
              cases r with
              | nil => rfl
              | cons y r => simp only [List.length_cons] at hmd; omega
            subst hr0
            go_wp2_with ((with_reducible refine wpList_unguard ?_ ?_); (focus rfl))
            go_roundw
            case rel => exact ⟨_, [], _, rfl, by simp, cellsZ.nil _ _, by simp, by simp, HW2.out, HE.out⟩
            case measure => simp [slLen]; omega
          · go_wp2_with ((with_reducible refine wpList_unguard ?_ ?_); (focus rfl))
            go_roundw
            case rel => exact ⟨_, r, _, by rw [HN.out], by have := HN.out; omega, HQ2.out, by omega, by omega, HW2.out, HE.out⟩
            case measure => simp [slLen]; omega
theorem cellsZ_new (w : World) (l : List Int) : cellsZ (w.alloc (.cells (l.map fun x => Value.int .i64 x).toArray 3)) (some ⟨w.heap.size, 0, none⟩) l := cellsZ.new w l _ _ (by simp)
def G3 (w : World) (B : Nat) (t : TypeId) (a b c : Int) : Prop := w.heap[B]? = some (.cells #[.int .i64 a, .int .i64 b, .int .i64 c] t)
theorem G3.lt {w : World} {B : Nat} {t : TypeId} {a b c : Int} (h : G3 w B t a b c) : B < w.heap.size := (Array.getElem?_eq_some_iff.1 h).1
theorem G3.below {w w' : World} {B : Nat} {t : TypeId} {a b c : Int} (h : G3 w B t a b c) (hb : Below w.heap.size w w') : G3 w' B t a b c := by
  unfold G3; rw [hb.block B h.lt]; exact h
theorem G3.c0 {w : World} {B : Nat} {t : TypeId} {a b c : Int} (h : G3 w B t a b c) : w.cell? ⟨B, 0, none⟩ = some (.int .i64 a) := cell_of_row _ _ 0 _ _ _ h
theorem G3.c1 {w : World} {B : Nat} {t : TypeId} {a b c : Int} (h : G3 w B t a b c) : w.cell? ⟨B, 1, none⟩ = some (.int .i64 b) := cell_of_row _ _ 1 _ _ _ h
theorem G3.c2 {w : World} {B : Nat} {t : TypeId} {a b c : Int} (h : G3 w B t a b c) : w.cell? ⟨B, 2, none⟩ = some (.int .i64 c) := cell_of_row _ _ 2 _ _ _ h
theorem G3.new (w : World) (t : TypeId) (a b c : Int) : G3 (w.alloc (.cells #[.int .i64 a, .int .i64 b, .int .i64 c] t)) w.heap.size t a b c := heap_alloc_new w _
set_option maxHeartbeats 4000000 in
set_option maxRecDepth 100000 in
theorem geo_Right (d p s : Int) (w : World) :
    Calls Try.prog 86 #[.agg #[.int .i64 d, .int .i64 p, .int .i64 s]] w fun e w' => e = .returned (.bool (geoOk d p s)) ∧ Below w.heap.size w w' := by
  have hb := (Below.refl w.heap.size w).alloc (Nat.le_refl _) (.cells #[.int .i64 d, .int .i64 p, .int .i64 s] 64)
  have hG := G3.new w 64 d p s
  have HB := hid hb
  have HG := hid hG
  have hs1 : (w.alloc (.cells #[.int .i64 d, .int .i64 p, .int .i64 s] 64)).heap.size = w.heap.size + 1 := by simp
  clear hb hG
  obtain ⟨w1, hw1⟩ : ∃ u, w.alloc (.cells #[.int .i64 d, .int .i64 p, .int .i64 s] 64) = u := ⟨_, rfl⟩
  rw [hw1] at HB HG hs1
  have c0 := HG.out.c0
  have c1 := HG.out.c1
  have c2 := HG.out.c2
  have hb2 := (Below.refl w1.heap.size w1).alloc (Nat.le_refl _) (.cells ([1, d, 8, 2, p, 6, 1, s, 8].map fun x => Value.int .i64 x).toArray 3)
  have hz := cellsZ_new w1 [1, d, 8, 2, p, 6, 1, s, 8]
  have hwi := geo_within (some ⟨w1.heap.size, 0, none⟩) 9 9 [1, d, 8, 2, p, 6, 1, s, 8] _ rfl (Nat.le_refl _) hz (by simp) (by simp)
  have hE : withinB [1, d, 8, 2, p, 6, 1, s, 8] = geoOk d p s := by
    unfold geoOk
    simp only [withinB, Bool.and_true]
  rw [hE, hs1] at hwi
  have HB2 := hid (HB.out.trans (hb2.mono HB.out.size))
  have HWI := hid hwi
  clear hb2 hz hwi hE
  (go_enter Try.func86, Try.ntmps86; try simp only [List.append])
  go_wp2_with ((with_reducible refine wpList_unguard ?_ ?_); (focus rfl))
  refine Calls.mono HWI.out ?_; rintro e w3 ⟨rfl, hb⟩
  have HB3 := hid (HB2.out.trans (hb.mono HB2.out.size))
  clear hb HB2 HWI
  go_wp2_with ((with_reducible refine wpList_unguard ?_ ?_); (focus rfl))
  go_ret
  exact ⟨rfl, HB3.out⟩
end Go.Proofs.Ytiicbbhjepkndaa
