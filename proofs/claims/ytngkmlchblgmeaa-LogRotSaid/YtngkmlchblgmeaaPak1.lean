/-
  Small words that all texts of this seat share: bytes in memory, what is told of an argument, lists.
  A block of the heap that is known whole.
  A region that draws its order, whose operations read, and whose calls keep a class of worlds: one walk in the order of the text.
  A slice's ints (of either sign), as they lie in memory.
  Geometries: within, Right, Wide, Slot, log, All, Tally, Half; the reference's Right.
  Geometries: Wide, Slot, log, All, Tally, Half; the reference's Right; the statements' small geometry.
  The field of 256 bytes in plain Lean: tables of powers and logs, products through them, the same products bit by bit, and the laws of a field. No program in sight.
  The check sum in plain Lean: one step of the register, eight of them, the table's way and the bit's way, and that it is linear and loses nothing. No program in sight.
  The check sum in the program: what crc.New lays into memory, and what Sum answers. Conditions: the Crc that is there is the block that crc.New makes.
  Texts and bytes in memory: what a conversion makes, what it reads, and lists of texts.
-/
import Derived.Test.YtngkmlchblgmeaaProg
import Derived.WalkKit
import Derived.WalkSpells
import Derived.WalkLawsBesides
import Derived.Handy
import Derived.ProofKit
import Derived.Deep.QuietTactic
import Derived.BigQuiet
import Derived.Lib.ConvBytes
namespace Go.Proofs.Ytngkmlchblgmeaa
open Go.RowKit

theorem hid {p : Prop} (h : p) : Hid p := h

theorem u8_of {a : Int} (h : (Lit.int .u8 a).wf = true) : ∃ n : Nat, n < 256 ∧ a = n := by
  have := bounds_u8 h
  exact ⟨a.toNat, by omega, by omega⟩

theorem xor_byte (a b : Nat) (ha : a < 256) (hb : b < 256) : bits .xor .u8 (a : Int) (b : Int) = ((a ^^^ b : Nat) : Int) := Go.u8_xor_nat a b ha hb
theorem i64_xor_nat (a b : Nat) (ha : a < 2 ^ 62) (hb : b < 2 ^ 62) : bits .xor .i64 (a : Int) (b : Int) = ((a ^^^ b : Nat) : Int) := by
  have hx : a ^^^ b < 2 ^ 62 := Nat.xor_lt_two_pow ha hb
  show IntKind.i64.wrap ((BitVec.ofInt 64 (a : Int) ^^^ BitVec.ofInt 64 (b : Int)).toNat : Int) = _
  rw [BitVec.toNat_xor, ofInt_u64 a (by omega), ofInt_u64 b (by omega), IntKind.wrap_i64]
  omega
/-- What is told of a slice of whole numbers that came in. -/
def IsRow (k : IntKind) (w : World) (a : Option Addr) (len cap : Nat) (zs : List Int) : Prop :=
  (a = none ∧ len = 0 ∧ cap = 0 ∧ zs = []) ∨
  ∃ x, a = some x ∧ len ≤ cap ∧ cap ≤ maxLen ∧ zs.length = cap ∧ (∀ i, i < zs.length → w.cell? (x.add i) = some (.int k (zs.getD i 0))) ∧ ∀ n ∈ zs, (Lit.int k n).wf = true
theorem getD_of (l : List Nat) (k : Nat) (h : k < l.length) : l.getD k 0 = l[k] := by simp [h]
theorem getD_mem (l : List Nat) (k : Nat) (h : k < l.length) : l.getD k 0 ∈ l := by rw [getD_of l k h]; exact List.getElem_mem h
theorem take_snocN (l : List Nat) (k : Nat) (h : k < l.length) : l.take (k + 1) = l.take k ++ [l.getD k 0] := by
  rw [List.take_succ_eq_append_getElem h]
  simp [h]

/-- A slice's bytes. -/
def cellsB (w : World) (p : Option Addr) (l : List Nat) : Prop :=
  ∀ i, i < l.length → ∃ a o, p = some ⟨a, o, none⟩ ∧ w.cell? ⟨a, o + i, none⟩ = some (.int .u8 (l.getD i 0 : Nat))
theorem cellsB.nil (w : World) (p : Option Addr) : cellsB w p [] := fun i hi => by simp at hi
theorem cellsB.alloc {w : World} {p : Option Addr} {l : List Nat} (h : cellsB w p l) (o : Obj) : cellsB (w.alloc o) p l := by
  intro i hi
  obtain ⟨a, f, e, hc⟩ := h i hi
  exact ⟨a, f, e, by rw [World.cell?_alloc_lt _ _ _ (block_lt_of_cell hc)]; exact hc⟩
theorem cellsB.drew {w : World} {p : Option Addr} {l : List Nat} (h : cellsB w p l) : cellsB w.drew p l := h
theorem cellsB.below {w w' : World} {p : Option Addr} {l : List Nat} (h : cellsB w p l) (hb : Below w.heap.size w w') : cellsB w' p l := by
  intro i hi
  obtain ⟨a, f, e, hc⟩ := h i hi
  exact ⟨a, f, e, by rw [hb.cell (p := ⟨a, f + i, none⟩) (block_lt_of_cell hc)]; exact hc⟩
/-- The bytes of a new array that is written out. -/
theorem cellsB.new (w : World) (l : List Nat) (vs : Array Value) (t : TypeId) (h : vs.toList = l.map fun x => Value.int .u8 (x : Nat)) :
    cellsB (w.alloc (.cells vs t)) (some ⟨w.heap.size, 0, none⟩) l := by
  intro i hi
  refine ⟨_, _, rfl, ?_⟩
  rw [World.cell?_alloc_new, ← Array.getElem?_toList, h, Nat.zero_add, List.getElem?_map, List.getElem?_eq_getElem hi]
  simp [hi]

/-- An operation whose guard says yes is as one without a guard. -/
theorem wpList_unguard {P : Program} {ops : Array Oper} {Q : Exit → Act → World → Prop} {a : Act} {w : World} {rest : List Oper} {dst : Option Tmp} {op : Op} {type : TypeId} {pos : String} {after : Array Edge} {g : Nat × Bool}
    (hw : Region.wanted ⟨dst, op, type, pos, after, some g⟩ (yielded ops a.tmps) = true) (h : wpList P ops Q (⟨dst, op, type, pos, after, none⟩ :: rest) a w) :
    wpList P ops Q (⟨dst, op, type, pos, after, some g⟩ :: rest) a w := by
  unfold wpList at h ⊢
  rw [if_pos hw]
  rw [if_pos (by simp [Region.wanted])] at h
  exact h
end Go.Proofs.Ytngkmlchblgmeaa

namespace Go.Proofs.Ytngkmlchblgmeaa
open Go.RowKit

def Blk (w : World) (B : Nat) (t : TypeId) (vs : Array Value) : Prop := w.heap[B]? = some (.cells vs t)
theorem Blk.lt {w : World} {B : Nat} {t : TypeId} {vs : Array Value} (h : Blk w B t vs) : B < w.heap.size := (Array.getElem?_eq_some_iff.1 h).1
theorem Blk.below {w w' : World} {B : Nat} {t : TypeId} {vs : Array Value} (h : Blk w B t vs) (hb : Below w.heap.size w w') : Blk w' B t vs := by
  unfold Blk; rw [hb.block B h.lt]; exact h
theorem Blk.belowN {w w' : World} {B n : Nat} {t : TypeId} {vs : Array Value} (h : Blk w B t vs) (hb : Below n w w') (hn : B < n) : Blk w' B t vs := by
  unfold Blk; rw [hb.block B hn]; exact h
theorem Blk.new (w : World) (t : TypeId) (vs : Array Value) : Blk (w.alloc (.cells vs t)) w.heap.size t vs := heap_alloc_new w _
theorem Blk.cell {w : World} {B : Nat} {t : TypeId} {vs : Array Value} (h : Blk w B t vs) (i : Nat) (v : Value) (hv : vs[i]? = some v) : w.cell? ⟨B, i, none⟩ = some v := by
  unfold World.cell?
  rw [show w.heap[B]? = _ from h]
  simpa using hv
theorem Blk.free {w : World} {B : Nat} {t : TypeId} {vs : Array Value} (h : Blk w B t vs) (i : Nat) : w.frozen? ⟨B, i, none⟩ = false := by
  unfold World.frozen?
  simp only
  rw [show w.heap[B]? = _ from h]
  simp
theorem Blk.set {w : World} {B : Nat} {t : TypeId} {vs : Array Value} (h : Blk w B t vs) (i : Nat) (v : Value) : Blk (w.setCell ⟨B, i, none⟩ v) B t (vs.setIfInBounds i v) := heap_setCell_same w B i _ _ v h
theorem Blk.setOther {w : World} {B : Nat} {t : TypeId} {vs : Array Value} (h : Blk w B t vs) (p : Addr) (v : Value) (hp : B ≠ p.block) : Blk (w.setCell p v) B t vs := by
  unfold Blk; rw [heap_setCell_other w p B v hp]; exact h
theorem Blk.drew {w : World} {B : Nat} {t : TypeId} {vs : Array Value} (h : Blk w B t vs) : Blk w.drew B t vs := h
end Go.Proofs.Ytngkmlchblgmeaa

namespace Go.Proofs.Ytngkmlchblgmeaa
open Go.RowKit

theorem wp_region_quietC {P : Program} {id : Nat} {Q : Exit → Act → World → Prop} {a : Act} {w : World} {l : List Oper} (C : World → Prop) (hm : P.follows .mixedOrders = true) (hB : Region.lexB .any l.toArray = true) (hC : C w.drew)
    (h : wpQuiet P l.toArray C (fun a' => ∀ w', C w' → Q .normal a' w') l a) : (Code.region id l.toArray true).wp P Q a w :=
  wp_region_quiet (C := C) hm hB hC (by simpa using h)
theorem quietC_nil {P : Program} {ops : Array Oper} {C : World → Prop} {Q : Act → Prop} {a : Act} (l : List Oper) (hl : l.isEmpty = true) (h : Q a) : wpQuiet P ops C Q l a := by
  cases l with
  | nil => exact h
  | cons => cases hl
/-- An array read whole, in a quiet walk. -/
theorem quiet_load_row {P : Program} {C : World → Prop} {K : Act → Prop} {o : Oper} {a : Act} (ty : TypeId) (x : Operand) (ho : o.op = .load ty x) (g : Nat) (hx : a.eval x = .pointer (some ⟨g, 0, none⟩)) (cs : Array Value)
    (hl : ∀ w, C w → (loadVar ty ⟨g, 0, none⟩).run P w = .ok (.agg cs) w) (hk : K (a.put o.dst (.agg cs))) : o.quiet P a C K :=
  ⟨_, fun w hw => by
    unfold Oper.quietAt execOp
    simp only [ho, hx, Instr.loadAt, Instr.sureAddr, Sem.run_bind, Sem.run_pure, Result.andThen_ok, hl w hw]
    exact ⟨rfl, rfl⟩, hk⟩
end Go.Proofs.Ytngkmlchblgmeaa

namespace Go.Proofs.Ytngkmlchblgmeaa
open Go.RowKit

/-- A slice's ints. -/
def cellsZ (w : World) (p : Option Addr) (l : List Int) : Prop :=
  ∀ i, i < l.length → ∃ a o, p = some ⟨a, o, none⟩ ∧ w.cell? ⟨a, o + i, none⟩ = some (.int .i64 (l.getD i 0))
theorem cellsZ.nil (w : World) (p : Option Addr) : cellsZ w p [] := fun i hi => by simp at hi
theorem cellsZ.below {w w' : World} {p : Option Addr} {l : List Int} (h : cellsZ w p l) (hb : Below w.heap.size w w') : cellsZ w' p l := by
  intro i hi
  obtain ⟨a, f, e, hc⟩ := h i hi
  exact ⟨a, f, e, by rw [hb.cell (p := ⟨a, f + i, none⟩) (block_lt_of_cell hc)]; exact hc⟩
theorem cellsZ.new (w : World) (l : List Int) (vs : Array Value) (t : TypeId) (h : vs.toList = l.map fun x => Value.int .i64 x) :
    cellsZ (w.alloc (.cells vs t)) (some ⟨w.heap.size, 0, none⟩) l := by
  intro i hi
  refine ⟨_, _, rfl, ?_⟩
  rw [World.cell?_alloc_new, ← Array.getElem?_toList, h, Nat.zero_add, List.getElem?_map, List.getElem?_eq_getElem hi]
  simp [hi]
end Go.Proofs.Ytngkmlchblgmeaa

namespace Tri
def withinB : List Int → Bool
  | a :: x :: b :: l => decide (a ≤ x ∧ x ≤ b) && withinB l
  | _ => true
def geoOk (d p s : Int) : Bool := decide (1 ≤ d ∧ d ≤ 8) && (decide (2 ≤ p ∧ p ≤ 6) && decide (1 ≤ s ∧ s ≤ 8))
def wideI (d p s : Int) : Int := if geoOk d p s then d + p else 0
def slotI (d p s : Int) : Int := if geoOk d p s then (d + p) * s else 0
def allI (d p s : Int) : Int := if geoOk d p s then 3 * ((d + p) * s) + 18 else 0
theorem geoOk_iff {d p s : Int} : geoOk d p s = true ↔ (1 ≤ d ∧ d ≤ 8) ∧ (2 ≤ p ∧ p ≤ 6) ∧ (1 ≤ s ∧ s ≤ 8) := by
  unfold geoOk
  simp only [Bool.and_eq_true, decide_eq_true_eq]
theorem slot_le {d p s : Int} (h : geoOk d p s = true) : 3 ≤ (d + p) * s ∧ (d + p) * s ≤ 112 := by
  obtain ⟨h1, h2, h3⟩ := geoOk_iff.1 h
  have a1 : (d + p) * s ≤ 14 * s := Int.mul_le_mul_of_nonneg_right (by omega) (by omega)
  have a2 : 3 * s ≤ (d + p) * s := Int.mul_le_mul_of_nonneg_right (by omega) (by omega)
  omega
end Tri
namespace Go.Proofs.Ytngkmlchblgmeaa
open Go.RowKit Tri

def slLen (v : Value) : Nat := match v with | .slice _ m _ => m | _ => 0
theorem cellsZ.drop {w : World} {a o : Nat} {l : List Int} (h : cellsZ w (some ⟨a, o, none⟩) l) (k : Nat) : cellsZ w (some ⟨a, o + k, none⟩) (l.drop k) := by
  intro i hi
  rw [List.length_drop] at hi
  obtain ⟨a', o', e, hc⟩ := h (k + i) (by omega)
  simp only [Option.some.injEq, Addr.mk.injEq] at e
  obtain ⟨rfl, rfl, _⟩ := e
  refine ⟨_, _, rfl, ?_⟩
  rw [show o + k + i = o + (k + i) from by omega, hc, List.getD_eq_getElem?_getD, List.getD_eq_getElem?_getD, List.getElem?_drop]
set_option maxHeartbeats 4000000 in
set_option maxRecDepth 100000 in
theorem geo_within (p : Option Addr) (n c : Nat) (l : List Int) (w : World) (hn : n = l.length) (hnc : n ≤ c) (hp : cellsZ w p l) (h3 : l.length % 3 = 0) (hl : l.length ≤ 1000) :
    Calls Try.prog 57 #[.slice p n c] w fun e w' => e = .returned (.bool (withinB l)) ∧ Below w.heap.size w w' := by
  subst hn
  (go_enter Try.func57, Try.ntmps57; try simp only [List.append])
  go_wp2_with ((with_reducible refine wpList_unguard ?_ ?_); (focus rfl))
  go_loopw [0] (fun v wr => ∃ (q : Option Addr) (m : List Int) (d : Nat), v = .slice q m.length d ∧ m.length ≤ d ∧ cellsZ wr q m ∧ m.length % 3 = 0 ∧ m.length ≤ 1000 ∧ withinB m = withinB l ∧ Below w.heap.size w wr) (fun v _ => slLen v)
  case atStart => exact ⟨p, l, c, rfl, hnc, hp, h3, hl, rfl, Below.refl _ _⟩
  case round =>
    obtain ⟨q, m, d, rfl, hmd, hq, hm3, hm, hw, hb⟩ := hrel
    match m, hm3, hmd, hm, hq, hw with
    | [], hm3, hmd, hm, hq, hw =>
      have HW := hid hw
      have HB := hid hb
      clear hw hb hq
      go_wp2_with ((with_reducible refine wpList_unguard ?_ ?_); (focus rfl))
      go_ret
      rw [← HW.out]
      exact ⟨rfl, HB.out⟩
    | [_], hm3, _, _, _, _ => simp at hm3
    | [_, _], hm3, _, _, _, _ => simp at hm3
    | a :: x :: b :: r, hm3, hmd, hm, hq, hw =>
      simp only [List.length_cons] at hm3 hmd hm
      obtain ⟨g, o, rfl, h0⟩ := hq 0 (by simp)
      obtain ⟨g1, o1, e1, h1⟩ := hq 1 (by simp)
      obtain ⟨g2, o2, e2, h2⟩ := hq 2 (by simp)
      simp only [Option.some.injEq, Addr.mk.injEq] at e1 e2
      obtain ⟨rfl, rfl, _⟩ := e1
      obtain ⟨rfl, rfl, _⟩ := e2
      have k0 : wr.cell? ⟨g, o, none⟩ = some (.int .i64 a) := h0
      have k1 : wr.cell? ⟨g, o + 1, none⟩ = some (.int .i64 x) := h1
      have k2 : wr.cell? ⟨g, o + 2, none⟩ = some (.int .i64 b) := h2
      have HQ := hid (cellsZ.drop hq 3)
      have HW := hid hw
      have HB := hid hb
      have hlen : (a :: x :: b :: r).length = r.length + 3 := by simp
      obtain ⟨N, hN⟩ : ∃ N, r.length + 3 = N := ⟨_, rfl⟩
      rw [hlen, hN]
      have q0 : decide ((0 : Int) < (N : Int)) = true := decide_eq_true (by omega)
      have n0 : 0 < N := by omega
      have n1 : 1 < N := by omega
      have n2 : 2 < N := by omega
      have n3 : 3 ≤ N := by omega
      have i0 : (0 : Int) < (N : Int) := by omega
      have i1 : (1 : Int) < (N : Int) := by omega
      have i2 : (2 : Int) < (N : Int) := by omega
      have hrN : r.length = N - 3 := by omega
      have HN := hid hrN
      have hNd : N ≤ d := by omega
      clear h0 h1 h2 hq hw hb hlen hN hrN
      rcases Int.lt_or_le x a with hxa | hxa
      · have q1 : decide (x < a) = true := decide_eq_true hxa
        have hR : Hid (withinB l = false) := by
          show _ = _
          rw [← HW.out]
          unfold withinB
          rw [decide_eq_false (by omega)]
          rfl
        go_wp2_with ((with_reducible refine wpList_unguard ?_ ?_); (focus rfl))
        (refine wp_region_quietC (fun w' => Below (wr).heap.size wr w') (by kernel_rfl) (by kernel_rfl) ((Below.refl _ _).drew) ?_; (repeat (first | go_big_quiet_skip | (go_big_quiet_want; first | (go_big_quiet_op; go_big_quiet_on) | (apply Exists.intro; refine And.intro (fun wq hq => ?_) ?_; (focus ((have k0' := (hq.cell (block_lt_of_cell k0)).trans k0; have k1' := (hq.cell (block_lt_of_cell k1)).trans k1; have k2' := (hq.cell (block_lt_of_cell k2)).trans k2); (try go_simp); first | done | rfl | (fail))); go_simp; go_big_quiet_on)))); refine quietC_nil _ rfl ?_; intro wE hE)
        have HE := hid (HB.out.trans (hE.mono HB.out.size))
        clear hE
        go_wp2_with ((with_reducible refine wpList_unguard ?_ ?_); (focus rfl))
        go_ret
        rw [hR.out]
        exact ⟨rfl, HE.out⟩
      · have q1 : decide (x < a) = false := decide_eq_false (by omega)
        rcases Int.lt_or_le b x with hxb | hxb
        · have q2 : decide (b < x) = true := decide_eq_true hxb
          have hR : Hid (withinB l = false) := by
            show _ = _
            rw [← HW.out]
            unfold withinB
            rw [decide_eq_false (by omega)]
            rfl
          go_wp2_with ((with_reducible refine wpList_unguard ?_ ?_); (focus rfl))
          (refine wp_region_quietC (fun w' => Below (wr).heap.size wr w') (by kernel_rfl) (by kernel_rfl) ((Below.refl _ _).drew) ?_; (repeat (first | go_big_quiet_skip | (go_big_quiet_want; first | (go_big_quiet_op; go_big_quiet_on) | (apply Exists.intro; refine And.intro (fun wq hq => ?_) ?_; (focus ((have k0' := (hq.cell (block_lt_of_cell k0)).trans k0; have k1' := (hq.cell (block_lt_of_cell k1)).trans k1; have k2' := (hq.cell (block_lt_of_cell k2)).trans k2); (try go_simp); first | done | rfl | (fail))); go_simp; go_big_quiet_on)))); refine quietC_nil _ rfl ?_; intro wE hE)
          have HE := hid (HB.out.trans (hE.mono HB.out.size))
          clear hE
          go_wp2_with ((with_reducible refine wpList_unguard ?_ ?_); (focus rfl))
          go_ret
          rw [hR.out]
          exact ⟨rfl, HE.out⟩
        · have q2 : decide (b < x) = false := decide_eq_false (by omega)
          have HW2 : Hid (withinB r = withinB l) := by
            show _ = _
            rw [← HW.out]
            show _ = withinB (a :: x :: b :: r)
            rw [withinB, decide_eq_true (by omega)]
            rfl
          go_wp2_with ((with_reducible refine wpList_unguard ?_ ?_); (focus rfl))
          (refine wp_region_quietC (fun w' => Below (wr).heap.size wr w') (by kernel_rfl) (by kernel_rfl) ((Below.refl _ _).drew) ?_; (repeat (first | go_big_quiet_skip | (go_big_quiet_want; first | (go_big_quiet_op; go_big_quiet_on) | (apply Exists.intro; refine And.intro (fun wq hq => ?_) ?_; (focus ((have k0' := (hq.cell (block_lt_of_cell k0)).trans k0; have k1' := (hq.cell (block_lt_of_cell k1)).trans k1; have k2' := (hq.cell (block_lt_of_cell k2)).trans k2); (try go_simp); first | done | rfl | (fail))); go_simp; go_big_quiet_on)))); refine quietC_nil _ rfl ?_; intro wE hE)
          have HE := hid (HB.out.trans (hE.mono HB.out.size))
          have HQ2 : Hid (cellsZ wE (some ⟨g, o + 3, none⟩) r) := HQ.out.below hE
          clear hE HQ HB HW
          by_cases hd3 : d = 3
          · subst hd3
            have hr0 : r = [] := by
              cases r with
              | nil => rfl
              | cons y r => simp only [List.length_cons] at hmd; omega
            subst hr0
            go_wp2_with ((with_reducible refine wpList_unguard ?_ ?_); (focus rfl))
            go_roundw
            case rel => exact ⟨_, [], _, rfl, by simp, cellsZ.nil _ _, by simp, by simp, HW2.out, HE.out⟩
            case measure => simp [slLen]; omega
          · go_wp2_with ((with_reducible refine wpList_unguard ?_ ?_); (focus rfl))
            go_roundw
            case rel => exact ⟨_, r, _, by rw [HN.out], by have := HN.out; omega, HQ2.out, by omega, by omega, HW2.out, HE.out⟩
            case measure => simp [slLen]; omega
theorem cellsZ_new (w : World) (l : List Int) : cellsZ (w.alloc (.cells (l.map fun x => Value.int .i64 x).toArray 3)) (some ⟨w.heap.size, 0, none⟩) l := cellsZ.new w l _ _ (by simp)
def G3 (w : World) (B : Nat) (t : TypeId) (a b c : Int) : Prop := w.heap[B]? = some (.cells #[.int .i64 a, .int .i64 b, .int .i64 c] t)
theorem G3.lt {w : World} {B : Nat} {t : TypeId} {a b c : Int} (h : G3 w B t a b c) : B < w.heap.size := (Array.getElem?_eq_some_iff.1 h).1
theorem G3.below {w w' : World} {B : Nat} {t : TypeId} {a b c : Int} (h : G3 w B t a b c) (hb : Below w.heap.size w w') : G3 w' B t a b c := by
  unfold G3; rw [hb.block B h.lt]; exact h
theorem G3.c0 {w : World} {B : Nat} {t : TypeId} {a b c : Int} (h : G3 w B t a b c) : w.cell? ⟨B, 0, none⟩ = some (.int .i64 a) := cell_of_row _ _ 0 _ _ _ h
theorem G3.c1 {w : World} {B : Nat} {t : TypeId} {a b c : Int} (h : G3 w B t a b c) : w.cell? ⟨B, 1, none⟩ = some (.int .i64 b) := cell_of_row _ _ 1 _ _ _ h
theorem G3.c2 {w : World} {B : Nat} {t : TypeId} {a b c : Int} (h : G3 w B t a b c) : w.cell? ⟨B, 2, none⟩ = some (.int .i64 c) := cell_of_row _ _ 2 _ _ _ h
theorem G3.new (w : World) (t : TypeId) (a b c : Int) : G3 (w.alloc (.cells #[.int .i64 a, .int .i64 b, .int .i64 c] t)) w.heap.size t a b c := heap_alloc_new w _
set_option maxHeartbeats 4000000 in
set_option maxRecDepth 100000 in
theorem geo_Right (d p s : Int) (w : World) :
    Calls Try.prog 52 #[.agg #[.int .i64 d, .int .i64 p, .int .i64 s]] w fun e w' => e = .returned (.bool (geoOk d p s)) ∧ Below w.heap.size w w' := by
  have hb := (Below.refl w.heap.size w).alloc (Nat.le_refl _) (.cells #[.int .i64 d, .int .i64 p, .int .i64 s] 39)
  have hG := G3.new w 39 d p s
  have HB := hid hb
  have HG := hid hG
  have hs1 : (w.alloc (.cells #[.int .i64 d, .int .i64 p, .int .i64 s] 39)).heap.size = w.heap.size + 1 := by simp
  clear hb hG
  obtain ⟨w1, hw1⟩ : ∃ u, w.alloc (.cells #[.int .i64 d, .int .i64 p, .int .i64 s] 39) = u := ⟨_, rfl⟩
  rw [hw1] at HB HG hs1
  have c0 := HG.out.c0
  have c1 := HG.out.c1
  have c2 := HG.out.c2
  have hb2 := (Below.refl w1.heap.size w1).alloc (Nat.le_refl _) (.cells ([1, d, 8, 2, p, 6, 1, s, 8].map fun x => Value.int .i64 x).toArray 3)
  have hz := cellsZ_new w1 [1, d, 8, 2, p, 6, 1, s, 8]
  have hwi := geo_within (some ⟨w1.heap.size, 0, none⟩) 9 9 [1, d, 8, 2, p, 6, 1, s, 8] _ rfl (Nat.le_refl _) hz (by simp) (by simp)
  have hE : withinB [1, d, 8, 2, p, 6, 1, s, 8] = geoOk d p s := by
    unfold geoOk
    simp only [withinB, Bool.and_true]
  rw [hE, hs1] at hwi
  have HB2 := hid (HB.out.trans (hb2.mono HB.out.size))
  have HWI := hid hwi
  clear hb2 hz hwi hE
  (go_enter Try.func52, Try.ntmps52; try simp only [List.append])
  go_wp2_with ((with_reducible refine wpList_unguard ?_ ?_); (focus rfl))
  refine Calls.mono HWI.out ?_; rintro e w3 ⟨rfl, hb⟩
  have HB3 := hid (HB2.out.trans (hb.mono HB2.out.size))
  clear hb HB2 HWI
  go_wp2_with ((with_reducible refine wpList_unguard ?_ ?_); (focus rfl))
  go_ret
  exact ⟨rfl, HB3.out⟩
end Go.Proofs.Ytngkmlchblgmeaa

namespace Go.Proofs.Ytngkmlchblgmeaa
open Go.RowKit Tri

/-- What a method of a geometry lays first: the geometry in a block of its own. -/
theorem geo_box (w : World) (t : TypeId) (d p s : Int) : ∃ w1, w.alloc (.cells #[.int .i64 d, .int .i64 p, .int .i64 s] t) = w1 ∧ w1.heap.size = w.heap.size + 1 ∧ G3 w1 w.heap.size t d p s ∧ Below w.heap.size w w1 :=
  ⟨_, rfl, by simp, G3.new w t d p s, (Below.refl w.heap.size w).alloc (Nat.le_refl _) _⟩
def i64r (x : Int) : Prop := -9223372036854775808 ≤ x ∧ x ≤ 9223372036854775807
set_option maxHeartbeats 4000000 in
set_option maxRecDepth 100000 in
theorem geo_Wide (d p s : Int) (w : World) :
    Calls Try.prog 110 #[.agg #[.int .i64 d, .int .i64 p, .int .i64 s]] w fun e w' => e = .returned (.int .i64 (wideI d p s)) ∧ Below w.heap.size w w' := by
  obtain ⟨w1, hw1, -, hG, hB⟩ := geo_box w 39 d p s
  have c0 := hG.c0
  have c1 := hG.c1
  have c2 := hG.c2
  have HG := hid hG
  have HB := hid hB
  clear hG hB
  have HR := hid (geo_Right d p s w1)
  cases hok : geoOk d p s with
  | false =>
    have HE : Hid (wideI d p s = 0) := by show _ = _; unfold wideI; rw [hok]; rfl
    rw [hok] at HR
    (go_enter Try.func110, Try.ntmps110; try simp only [List.append])
    go_wp2_with ((with_reducible refine wpList_unguard ?_ ?_); (focus rfl))
    refine Calls.mono HR.out ?_; rintro e w3 ⟨rfl, hb⟩
    have HB3 := hid (HB.out.trans (hb.mono HB.out.size))
    clear hb HB
    go_wp2_with ((with_reducible refine wpList_unguard ?_ ?_); (focus rfl))
    go_ret
    rw [HE.out]
    exact ⟨rfl, HB3.out⟩
  | true =>
    have HE : Hid (wideI d p s = d + p) := by show _ = _; unfold wideI; rw [hok]; rfl
    obtain ⟨h1, h2, h3⟩ := geoOk_iff.1 hok
    rw [hok] at HR
    (go_enter Try.func110, Try.ntmps110; try simp only [List.append])
    go_wp2_with ((with_reducible refine wpList_unguard ?_ ?_); (focus rfl))
    refine Calls.mono HR.out ?_; rintro e w3 ⟨rfl, hb⟩
    have HG3 := HG.out.below hb
    have HB3 := hid (HB.out.trans (hb.mono HB.out.size))
    clear hb HB c0 c1 c2
    have c0 := HG3.c0
    have c1 := HG3.c1
    clear HG3
    go_wp2_with ((with_reducible refine wpList_unguard ?_ ?_); (focus rfl))
    go_ret
    rw [HE.out]
    exact ⟨rfl, HB3.out⟩
theorem slot_eq (d p s : Int) : wideI d p s * max s 0 = slotI d p s := by
  unfold wideI slotI
  cases h : geoOk d p s with
  | false => simp
  | true =>
    obtain ⟨_, _, h3⟩ := geoOk_iff.1 h
    rw [if_pos rfl, if_pos rfl, show max s 0 = s from by omega]
theorem slotI_range (d p s : Int) : 0 ≤ slotI d p s ∧ slotI d p s ≤ 112 := by
  unfold slotI
  cases h : geoOk d p s with
  | false => simp
  | true => have := slot_le h; rw [if_pos rfl]; omega
theorem wideI_range (d p s : Int) : 0 ≤ wideI d p s ∧ wideI d p s ≤ 14 := by
  unfold wideI
  cases h : geoOk d p s with
  | false => simp
  | true => obtain ⟨_, _, h3⟩ := geoOk_iff.1 h; rw [if_pos rfl]; omega
set_option maxHeartbeats 4000000 in
set_option maxRecDepth 100000 in
theorem geo_Slot (d p s : Int) (w : World) (hs : i64r s) :
    Calls Try.prog 77 #[.agg #[.int .i64 d, .int .i64 p, .int .i64 s]] w fun e w' => e = .returned (.int .i64 (slotI d p s)) ∧ Below w.heap.size w w' := by
  obtain ⟨w1, hw1, -, hG, hB⟩ := geo_box w 39 d p s
  have HG := hid hG
  have HB := hid hB
  clear hG hB
  have HE := hid (slot_eq d p s)
  have HR := slotI_range d p s
  have HWR := wideI_range d p s
  generalize slotI d p s = S at *
  generalize hWd : wideI d p s = W at *
  have HWd := hid hWd
  clear hWd
  have c0 := HG.out.c0
  have c1 := HG.out.c1
  have c2 := HG.out.c2
  rcases Int.lt_or_le s 0 with h0 | h0
  · have hm : max s 0 = 0 := by omega
    rw [hm, Int.mul_zero] at HE
    have HE2 : Hid (S = 0) := HE.out.symm
    clear hm HE
    (go_enter Try.func77, Try.ntmps77; try simp only [List.append])
    go_wp2_with ((with_reducible refine wpList_unguard ?_ ?_); (focus rfl))
    (refine wp_region_quietC (fun w' => Below (w1).heap.size w1 w') (by kernel_rfl) (by kernel_rfl) ((Below.refl _ _).drew) ?_; (repeat (first | go_big_quiet_skip | (go_big_quiet_want; first | (go_big_quiet_op; go_big_quiet_on) | (apply Exists.intro; refine And.intro (fun wq hq => ?_) ?_; (focus ((have a0' := (hq.cell (block_lt_of_cell c0)).trans c0; have a1' := (hq.cell (block_lt_of_cell c1)).trans c1; have a2' := (hq.cell (block_lt_of_cell c2)).trans c2); (try go_simp); first | done | rfl | ((go_at_call 110; refine Calls.mono (geo_Wide d p s _) ?_; rintro e w6 ⟨rfl, hb5⟩; exact ⟨by rw [HWd.out], hq.trans (hb5.mono hq.size)⟩)))); go_simp; go_big_quiet_on)))); refine quietC_nil _ rfl ?_; intro wE hE)
    have HE3 := hid (HB.out.trans (hE.mono HB.out.size))
    clear hE
    have hw0 : IntKind.i64.wrap 0 = 0 := by decide
    go_wp2_with ((with_reducible refine wpList_unguard ?_ ?_); (focus rfl))
    go_ret
    rw [HE2.out]
    exact ⟨rfl, HE3.out⟩
  · have hm : max s 0 = s := by omega
    rw [hm] at HE
    have hws : IntKind.i64.wrap (W * s) = S := by rw [HE.out, IntKind.wrap_i64]; omega
    clear hm
    (go_enter Try.func77, Try.ntmps77; try simp only [List.append])
    go_wp2_with ((with_reducible refine wpList_unguard ?_ ?_); (focus rfl))
    (refine wp_region_quietC (fun w' => Below (w1).heap.size w1 w') (by kernel_rfl) (by kernel_rfl) ((Below.refl _ _).drew) ?_; (repeat (first | go_big_quiet_skip | (go_big_quiet_want; first | (go_big_quiet_op; go_big_quiet_on) | (apply Exists.intro; refine And.intro (fun wq hq => ?_) ?_; (focus ((have a0' := (hq.cell (block_lt_of_cell c0)).trans c0; have a1' := (hq.cell (block_lt_of_cell c1)).trans c1; have a2' := (hq.cell (block_lt_of_cell c2)).trans c2); (try go_simp); first | done | rfl | ((go_at_call 110; refine Calls.mono (geo_Wide d p s _) ?_; rintro e w6 ⟨rfl, hb5⟩; exact ⟨by rw [HWd.out], hq.trans (hb5.mono hq.size)⟩)))); go_simp; go_big_quiet_on)))); refine quietC_nil _ rfl ?_; intro wE hE)
    have HE3 := hid (HB.out.trans (hE.mono HB.out.size))
    clear hE
    go_wp2_with ((with_reducible refine wpList_unguard ?_ ?_); (focus rfl))
    go_ret
    exact ⟨rfl, HE3.out⟩
set_option maxHeartbeats 4000000 in
set_option maxRecDepth 100000 in
theorem geo_log (d p s : Int) (w : World) (hs : i64r s) :
    Calls Try.prog 53 #[.agg #[.int .i64 d, .int .i64 p, .int .i64 s]] w fun e w' => e = .returned (.int .i64 (3 * slotI d p s)) ∧ Below w.heap.size w w' := by
  obtain ⟨w1, hw1, -, hG, hB⟩ := geo_box w 39 d p s
  have HB := hid hB
  have c0 := hG.c0
  have c1 := hG.c1
  have c2 := hG.c2
  clear hG hB
  have HR := slotI_range d p s
  have HS := hid (geo_Slot d p s w1 hs)
  generalize slotI d p s = S at *
  (go_enter Try.func53, Try.ntmps53; try simp only [List.append])
  go_wp2_with ((with_reducible refine wpList_unguard ?_ ?_); (focus rfl))
  refine Calls.mono HS.out ?_; rintro e w3 ⟨rfl, hb⟩
  have HB3 := hid (HB.out.trans (hb.mono HB.out.size))
  clear hb HB
  go_wp2_with ((with_reducible refine wpList_unguard ?_ ?_); (focus rfl))
  go_ret
  exact ⟨rfl, HB3.out⟩
set_option maxHeartbeats 4000000 in
set_option maxRecDepth 100000 in
theorem geo_All (d p s : Int) (w : World) (hs : i64r s) :
    Calls Try.prog 18 #[.agg #[.int .i64 d, .int .i64 p, .int .i64 s]] w fun e w' => e = .returned (.int .i64 (allI d p s)) ∧ Below w.heap.size w w' := by
  obtain ⟨w1, hw1, -, hG, hB⟩ := geo_box w 39 d p s
  have HB := hid hB
  have HG := hid hG
  have c0 := hG.c0
  have c1 := hG.c1
  have c2 := hG.c2
  clear hG hB
  have HR := hid (geo_Right d p s w1)
  cases hok : geoOk d p s with
  | false =>
    have HE : Hid (allI d p s = 0) := by show _ = _; unfold allI; rw [hok]; rfl
    rw [hok] at HR
    (go_enter Try.func18, Try.ntmps18; try simp only [List.append])
    go_wp2_with ((with_reducible refine wpList_unguard ?_ ?_); (focus rfl))
    refine Calls.mono HR.out ?_; rintro e w3 ⟨rfl, hb⟩
    have HB3 := hid (HB.out.trans (hb.mono HB.out.size))
    clear hb HB
    go_wp2_with ((with_reducible refine wpList_unguard ?_ ?_); (focus rfl))
    go_ret
    rw [HE.out]
    exact ⟨rfl, HB3.out⟩
  | true =>
    have HE : Hid (allI d p s = 3 * slotI d p s + 18) := by show _ = _; unfold allI slotI; rw [hok]; rfl
    have HSR := slotI_range d p s
    have HL := fun w => hid (geo_log d p s w hs)
    rw [hok] at HR
    generalize slotI d p s = S at *
    (go_enter Try.func18, Try.ntmps18; try simp only [List.append])
    go_wp2_with ((with_reducible refine wpList_unguard ?_ ?_); (focus rfl))
    refine Calls.mono HR.out ?_; rintro e w3 ⟨rfl, hb⟩
    have HG3 := HG.out.below hb
    have HB3 := hid (HB.out.trans (hb.mono HB.out.size))
    clear hb HB c0 c1 c2
    have c0 := HG3.c0
    have c1 := HG3.c1
    have c2 := HG3.c2
    clear HG3
    go_wp2_with ((with_reducible refine wpList_unguard ?_ ?_); (focus rfl))
    refine Calls.mono (HL w3).out ?_; rintro e w4 ⟨rfl, hb⟩
    have HB4 := hid (HB3.out.trans (hb.mono HB3.out.size))
    clear hb HB3
    go_wp2_with ((with_reducible refine wpList_unguard ?_ ?_); (focus rfl))
    go_ret
    rw [HE.out]
    refine ⟨?_, HB4.out⟩
    refine congrArg (fun x => Ending.returned (Value.int .i64 x)) ?_
    show _ + _ = _
    omega
def tallyI (d p s c : Int) : Int := if geoOk d p s && decide (0 ≤ c ∧ c ≤ 1) then allI d p s - 2 + c else 0
def tallyE (d p s c : Int) : Int := if geoOk d p s then (if 0 ≤ c ∧ c ≤ 1 then 0 else 2) else 1
set_option maxHeartbeats 4000000 in
set_option maxRecDepth 100000 in
theorem ref09_Right (d p s : Int) (w : World) :
    Calls Try.prog 17 #[.agg #[.int .i64 d, .int .i64 p, .int .i64 s]] w fun e w' => e = .returned (.bool (geoOk d p s)) ∧ Below w.heap.size w w' := by
  obtain ⟨w1, hw1, -, hG, hB⟩ := geo_box w 49 d p s
  have HB := hid hB
  have c0 := hG.c0
  have c1 := hG.c1
  have c2 := hG.c2
  clear hG hB
  obtain ⟨R, hR⟩ : ∃ R, geoOk d p s = R := ⟨_, rfl⟩
  rw [hR]
  have HR := hid hR
  clear hR
  (go_enter Try.func17, Try.ntmps17; try simp only [List.append])
  go_wp2_with ((with_reducible refine wpList_unguard ?_ ?_); (focus rfl))
  all_goals
    go_ret
    refine ⟨?_, HB.out⟩
    refine congrArg (fun b => Ending.returned (Value.bool b)) ?_
    rw [← HR.out, Bool.eq_iff_iff, geoOk_iff]
    simp
    try omega
theorem law15_Geo (w : World) : Calls Try.prog 14 #[] w fun e w' => e = .returned (.agg #[.int .i64 1, .int .i64 2, .int .i64 1]) ∧ Below w.heap.size w w' := by
  (go_enter Try.func14, Try.ntmps14; try simp only [List.append])
  go_wp2_with ((with_reducible refine wpList_unguard ?_ ?_); (focus rfl))
  go_returns
  exact ⟨rfl, (Below.refl w.heap.size w).alloc (Nat.le_refl _) _⟩
end Go.Proofs.Ytngkmlchblgmeaa

namespace Tri

/-- Is it so for every number below n? -/
def allB (n : Nat) (p : Nat → Bool) : Bool := match n with
  | 0 => true
  | k + 1 => p k && allB k p

theorem allB_of {n : Nat} {p : Nat → Bool} (h : allB n p = true) : ∀ k, k < n → p k = true := by
  induction n with
  | zero => intro k hk; omega
  | succ n ih =>
    simp only [allB, Bool.and_eq_true] at h
    intro k hk
    by_cases e : k = n
    · subst e; exact h.1
    · exact ih h.2 k (by omega)

/-- x times a byte. -/
def xt (b : Nat) : Nat := if b < 128 then 2 * b else (2 * b) ^^^ 285

def expT : List Nat := [
  1, 2, 4, 8, 16, 32, 64, 128, 29, 58, 116, 232, 205, 135, 19, 38, 76, 152, 45, 90, 180, 117, 234, 201, 143, 3, 6, 12, 24, 48, 96, 192, 157, 39, 78,
  156, 37, 74, 148, 53, 106, 212, 181, 119, 238, 193, 159, 35, 70, 140, 5, 10, 20, 40, 80, 160, 93, 186, 105, 210, 185, 111, 222, 161, 95, 190, 97,
  194, 153, 47, 94, 188, 101, 202, 137, 15, 30, 60, 120, 240, 253, 231, 211, 187, 107, 214, 177, 127, 254, 225, 223, 163, 91, 182, 113, 226, 217, 175,
  67, 134, 17, 34, 68, 136, 13, 26, 52, 104, 208, 189, 103, 206, 129, 31, 62, 124, 248, 237, 199, 147, 59, 118, 236, 197, 151, 51, 102, 204, 133, 23,
  46, 92, 184, 109, 218, 169, 79, 158, 33, 66, 132, 21, 42, 84, 168, 77, 154, 41, 82, 164, 85, 170, 73, 146, 57, 114, 228, 213, 183, 115, 230, 209,
  191, 99, 198, 145, 63, 126, 252, 229, 215, 179, 123, 246, 241, 255, 227, 219, 171, 75, 150, 49, 98, 196, 149, 55, 110, 220, 165, 87, 174, 65, 130,
  25, 50, 100, 200, 141, 7, 14, 28, 56, 112, 224, 221, 167, 83, 166, 81, 162, 89, 178, 121, 242, 249, 239, 195, 155, 43, 86, 172, 69, 138, 9, 18, 36,
  72, 144, 61, 122, 244, 245, 247, 243, 251, 235, 203, 139, 11, 22, 44, 88, 176, 125, 250, 233, 207, 131, 27, 54, 108, 216, 173, 71, 142]
def logT : List Nat := [
  0, 0, 1, 25, 2, 50, 26, 198, 3, 223, 51, 238, 27, 104, 199, 75, 4, 100, 224, 14, 52, 141, 239, 129, 28, 193, 105, 248, 200, 8, 76, 113, 5, 138, 101,
  47, 225, 36, 15, 33, 53, 147, 142, 218, 240, 18, 130, 69, 29, 181, 194, 125, 106, 39, 249, 185, 201, 154, 9, 120, 77, 228, 114, 166, 6, 191, 139, 98,
  102, 221, 48, 253, 226, 152, 37, 179, 16, 145, 34, 136, 54, 208, 148, 206, 143, 150, 219, 189, 241, 210, 19, 92, 131, 56, 70, 64, 30, 66, 182, 163,
  195, 72, 126, 110, 107, 58, 40, 84, 250, 133, 186, 61, 202, 94, 155, 159, 10, 21, 121, 43, 78, 212, 229, 172, 115, 243, 167, 87, 7, 112, 192, 247,
  140, 128, 99, 13, 103, 74, 222, 237, 49, 197, 254, 24, 227, 165, 153, 119, 38, 184, 180, 124, 17, 68, 146, 217, 35, 32, 137, 46, 55, 63, 209, 91,
  149, 188, 207, 205, 144, 135, 151, 178, 220, 252, 190, 97, 242, 86, 211, 171, 20, 42, 93, 158, 132, 60, 57, 83, 71, 109, 65, 162, 31, 45, 67, 216,
  183, 123, 164, 118, 196, 23, 73, 236, 127, 12, 111, 246, 108, 161, 59, 82, 41, 157, 85, 170, 251, 96, 134, 177, 187, 204, 62, 90, 203, 89, 95, 176,
  156, 169, 160, 81, 11, 245, 22, 235, 122, 117, 44, 215, 79, 174, 213, 233, 230, 231, 173, 232, 116, 214, 244, 234, 168, 80, 88, 175]

/-- The power of x. -/
def gexp (n : Nat) : Nat := expT.getD (n % 255) 0
/-- The log of a byte. -/
def glog (b : Nat) : Nat := logT.getD b 0
/-- The product. -/
def gmul (a b : Nat) : Nat := if a = 0 ∨ b = 0 then 0 else gexp (glog a + glog b)
/-- The inverse. -/
def ginv (a : Nat) : Nat := gexp (255 - glog a)

theorem gexp_zero : gexp 0 = 1 := by decide +kernel
theorem gexp_add_255 (n : Nat) : gexp (n + 255) = gexp n := by unfold gexp; rw [Nat.add_mod_right]
theorem gexp_mod (n : Nat) : gexp (n % 255) = gexp n := by unfold gexp; rw [Nat.mod_mod]
theorem gexp_succ (n : Nat) : gexp (n + 1) = xt (gexp n) := by
  have h : allB 255 (fun n => expT.getD ((n + 1) % 255) 0 == xt (expT.getD (n % 255) 0)) = true := by decide +kernel
  have := allB_of h (n % 255) (Nat.mod_lt _ (by omega))
  simp only [beq_iff_eq, Nat.mod_mod, Nat.mod_add_mod] at this
  exact this
theorem gexp_lt (n : Nat) : gexp n < 256 := by
  have h : allB 255 (fun n => decide (expT.getD n 0 < 256)) = true := by decide +kernel
  simpa [gexp] using allB_of h (n % 255) (Nat.mod_lt _ (by omega))
theorem gexp_pos (n : Nat) : 0 < gexp n := by
  have h : allB 255 (fun n => decide (0 < expT.getD n 0)) = true := by decide +kernel
  simpa [gexp] using allB_of h (n % 255) (Nat.mod_lt _ (by omega))
theorem gexp_ne (n : Nat) : gexp n ≠ 0 := by have := gexp_pos n; omega
theorem glog_lt (b : Nat) : glog b < 255 := by
  by_cases hb : b < 256
  · have h : allB 256 (fun n => decide (logT.getD n 0 < 255)) = true := by decide +kernel
    simpa [glog] using allB_of h b hb
  · unfold glog
    rw [List.getD_eq_getElem?_getD, List.getElem?_eq_none (by have : logT.length = 256 := by decide +kernel
                                                              omega)]
    decide
theorem gexp_glog (b : Nat) (h0 : b ≠ 0) (hb : b < 256) : gexp (glog b) = b := by
  have h : allB 256 (fun b => b == 0 || (expT.getD (logT.getD b 0 % 255) 0 == b)) = true := by decide +kernel
  have := allB_of h b hb
  simp only [Bool.or_eq_true, beq_iff_eq] at this
  rcases this with h | h
  · omega
  · exact h
theorem glog_gexp (n : Nat) : glog (gexp n) = n % 255 := by
  have h : allB 255 (fun n => logT.getD (expT.getD n 0) 0 == n) = true := by decide +kernel
  have := allB_of h (n % 255) (Nat.mod_lt _ (by omega))
  simpa [glog, gexp] using this
theorem glog_one : glog 1 = 0 := by decide +kernel
theorem gexp_inj {i j : Nat} (hi : i < 255) (hj : j < 255) (h : gexp i = gexp j) : i = j := by
  have := congrArg glog h
  rwa [glog_gexp, glog_gexp, Nat.mod_eq_of_lt hi, Nat.mod_eq_of_lt hj] at this

theorem gmul_zero (a : Nat) : gmul a 0 = 0 := by simp [gmul]
theorem zero_gmul (a : Nat) : gmul 0 a = 0 := by simp [gmul]
theorem gmul_comm (a b : Nat) : gmul a b = gmul b a := by simp only [gmul, Or.comm, Nat.add_comm]
theorem gmul_lt (a b : Nat) : gmul a b < 256 := by unfold gmul; split <;> simp [gexp_lt]
theorem gmul_gexp (i j : Nat) : gmul (gexp i) (gexp j) = gexp (i + j) := by
  unfold gmul
  rw [if_neg (by simp [gexp_ne]), glog_gexp, glog_gexp, ← gexp_mod, ← Nat.add_mod, gexp_mod]
theorem gmul_ne {a b : Nat} (ha : a ≠ 0) (hb : b ≠ 0) : gmul a b ≠ 0 := by unfold gmul; rw [if_neg (by omega)]; exact gexp_ne _
theorem gmul_eq_zero {a b : Nat} : gmul a b = 0 ↔ a = 0 ∨ b = 0 := by
  constructor
  · intro h
    by_cases e : a = 0 ∨ b = 0
    · exact e
    · exact absurd h (gmul_ne (by omega) (by omega))
  · rintro (rfl | rfl)
    · exact zero_gmul _
    · exact gmul_zero _
theorem gmul_one (a : Nat) (ha : a < 256) : gmul a 1 = a := by
  by_cases h : a = 0
  · simp [gmul, h]
  · unfold gmul; rw [if_neg (by omega), glog_one, Nat.add_zero, gexp_glog a h ha]
theorem one_gmul (a : Nat) (ha : a < 256) : gmul 1 a = a := by rw [gmul_comm, gmul_one a ha]
theorem gmul_assoc (a b c : Nat) : gmul (gmul a b) c = gmul a (gmul b c) := by
  by_cases ha : a = 0
  · subst ha; simp [zero_gmul]
  by_cases hb : b = 0
  · subst hb; simp [zero_gmul, gmul_zero]
  by_cases hc : c = 0
  · subst hc; simp [gmul_zero]
  have e1 : gmul a b = gexp (glog a + glog b) := by unfold gmul; rw [if_neg (by omega)]
  have e2 : gmul b c = gexp (glog b + glog c) := by unfold gmul; rw [if_neg (by omega)]
  rw [e1, e2]
  unfold gmul
  rw [if_neg (by simp [gexp_ne]; omega), if_neg (by simp [gexp_ne]; omega), glog_gexp, glog_gexp, ← gexp_mod, Nat.mod_add_mod, ← gexp_mod (glog a + _), Nat.add_mod_mod, Nat.add_assoc]
theorem gmul_left_comm (a b c : Nat) : gmul a (gmul b c) = gmul b (gmul a c) := by rw [← gmul_assoc, gmul_comm a b, gmul_assoc]
theorem ginv_lt (a : Nat) : ginv a < 256 := gexp_lt _
theorem ginv_ne (a : Nat) : ginv a ≠ 0 := gexp_ne _
theorem gmul_ginv (a : Nat) (h0 : a ≠ 0) : gmul a (ginv a) = 1 := by
  unfold gmul ginv
  rw [if_neg (by simp [gexp_ne]; omega), glog_gexp, ← gexp_mod, Nat.add_mod_mod, show glog a + (255 - glog a) = 0 + 255 from by have := glog_lt a; omega, gexp_mod, gexp_add_255, gexp_zero]

theorem xor_lt {a b : Nat} (ha : a < 256) (hb : b < 256) : a ^^^ b < 256 := Nat.xor_lt_two_pow (n := 8) ha hb
theorem bit_xor (p q s : Nat) : ((p ^^^ q) >>> s) % 2 = ((p >>> s) % 2 + (q >>> s) % 2) % 2 := by
  rw [Nat.shiftRight_xor_distrib]
  have := @Nat.xor_mod_two_eq_one (p >>> s) (q >>> s)
  omega
theorem xor_both (p q c : Nat) : (p ^^^ c) ^^^ (q ^^^ c) = p ^^^ q := by
  rw [Nat.xor_assoc, Nat.xor_comm q c, ← Nat.xor_assoc c c q, Nat.xor_self, Nat.zero_xor]
theorem xt_eq (a : Nat) (ha : a < 256) : xt a = if (a >>> 7) % 2 = 1 then (a <<< 1) ^^^ 285 else a <<< 1 := by
  unfold xt
  rw [Nat.shiftRight_eq_div_pow, Nat.shiftLeft_eq]
  by_cases h : a < 128
  · rw [if_pos h, if_neg (by omega)]; omega
  · rw [if_neg h, if_pos (by omega)]; congr 1; omega
/-- One step of a reduction is linear. -/
theorem step_xor (p q s c : Nat) (f : Nat → Nat) (hf : f (p ^^^ q) = f p ^^^ f q) :
    (if ((p ^^^ q) >>> s) % 2 = 1 then f (p ^^^ q) ^^^ c else f (p ^^^ q)) = (if (p >>> s) % 2 = 1 then f p ^^^ c else f p) ^^^ (if (q >>> s) % 2 = 1 then f q ^^^ c else f q) := by
  rw [bit_xor, hf]
  by_cases h1 : (p >>> s) % 2 = 1 <;> by_cases h2 : (q >>> s) % 2 = 1
  · rw [if_neg (by omega), if_pos h1, if_pos h2, xor_both]
  · rw [if_pos (by omega), if_pos h1, if_neg h2, Nat.xor_assoc, Nat.xor_assoc, Nat.xor_comm c]
  · rw [if_pos (by omega), if_neg h1, if_pos h2, Nat.xor_assoc]
  · rw [if_neg (by omega), if_neg h1, if_neg h2]
theorem xt_xor (a b : Nat) (ha : a < 256) (hb : b < 256) : xt (a ^^^ b) = xt a ^^^ xt b := by
  rw [xt_eq _ (xor_lt ha hb), xt_eq _ ha, xt_eq _ hb]
  exact step_xor a b 7 285 (fun x => x <<< 1) Nat.shiftLeft_xor_distrib
theorem gmul_gexp_succ (i b : Nat) : gmul (gexp (i + 1)) b = xt (gmul (gexp i) b) := by
  by_cases hb : b = 0
  · subst hb; simp [gmul_zero, xt]
  · unfold gmul
    rw [if_neg (by simp [gexp_ne]; omega), if_neg (by simp [gexp_ne]; omega), glog_gexp, glog_gexp, ← gexp_mod, Nat.mod_add_mod, gexp_mod, ← gexp_succ, ← gexp_mod (i % 255 + _ + 1),
      show (i % 255 + glog b + 1) % 255 = (i + 1 + glog b) % 255 from by omega, gexp_mod]
theorem gmul_xor_exp (i b c : Nat) (hb : b < 256) (hc : c < 256) : gmul (gexp i) (b ^^^ c) = gmul (gexp i) b ^^^ gmul (gexp i) c := by
  induction i with
  | zero => rw [gexp_zero, one_gmul _ (xor_lt hb hc), one_gmul _ hb, one_gmul _ hc]
  | succ i ih => rw [gmul_gexp_succ, gmul_gexp_succ, gmul_gexp_succ, ih, xt_xor _ _ (gmul_lt _ _) (gmul_lt _ _)]
theorem gmul_xor (a b c : Nat) (ha : a < 256) (hb : b < 256) (hc : c < 256) : gmul a (b ^^^ c) = gmul a b ^^^ gmul a c := by
  by_cases h : a = 0
  · subst h; simp [zero_gmul]
  · rw [← gexp_glog a h ha]; exact gmul_xor_exp _ _ _ hb hc
theorem xor_gmul (a b c : Nat) (ha : a < 256) (hb : b < 256) (hc : c < 256) : gmul (b ^^^ c) a = gmul b a ^^^ gmul c a := by
  rw [gmul_comm, gmul_xor a b c ha hb hc, gmul_comm a b, gmul_comm a c]

/-- The product bit by bit, as the document has it: first the sum of shifted factors .. -/
def rsum (a b : Nat) : Nat → Nat → Nat
  | 0, p => p
  | k + 1, p => rsum a b k (if (b >>> (7 - k)) % 2 = 1 then p ^^^ (a <<< (7 - k)) else p)
/-- .. then what is left of it. -/
def rred : Nat → Nat → Nat
  | 0, p => p
  | k + 1, p => rred k (if (p >>> (k + 8)) % 2 = 1 then p ^^^ (285 <<< k) else p)
def rmul (a b : Nat) : Nat := rred 7 (rsum a b 8 0)

theorem rred_xor (k : Nat) : ∀ p q, rred k (p ^^^ q) = rred k p ^^^ rred k q := by
  induction k with
  | zero => intro p q; rfl
  | succ k ih =>
    intro p q
    simp only [rred]
    rw [step_xor p q (k + 8) (285 <<< k) (fun x => x) rfl, ih]
theorem rsum_xor (a b c k : Nat) : ∀ p q, rsum a (b ^^^ c) k (p ^^^ q) = rsum a b k p ^^^ rsum a c k q := by
  induction k with
  | zero => intro p q; rfl
  | succ k ih =>
    intro p q
    simp only [rsum]
    rw [← ih]
    congr 1
    rw [bit_xor]
    by_cases h1 : (b >>> (7 - k)) % 2 = 1 <;> by_cases h2 : (c >>> (7 - k)) % 2 = 1
    · rw [if_neg (by omega), if_pos h1, if_pos h2, xor_both]
    · rw [if_pos (by omega), if_pos h1, if_neg h2, Nat.xor_assoc, Nat.xor_assoc, Nat.xor_comm q]
    · rw [if_pos (by omega), if_neg h1, if_pos h2, Nat.xor_assoc]
    · rw [if_neg (by omega), if_neg h1, if_neg h2]
theorem rmul_xor (a b c : Nat) : rmul a (b ^^^ c) = rmul a b ^^^ rmul a c := by
  unfold rmul
  rw [← rred_xor, ← rsum_xor, Nat.xor_self]
theorem lohi (b : Nat) (hb : b < 256) : (b % 16) ^^^ (16 * (b / 16)) = b := by
  have h : allB 256 (fun b => Nat.beq (Nat.xor (b % 16) (16 * (b / 16))) b) = true := by decide +kernel
  exact Nat.eq_of_beq_eq_true (allB_of h b hb)
theorem rmul_lt_of (a b : Nat) (ha : a < 256) (hb : b < 256) : rmul a b < 256 := by
  have h : allB 256 (fun a => allB 16 (fun b => Nat.blt (rmul a b) 256 && Nat.blt (rmul a (16 * b)) 256)) = true := by decide +kernel
  have h1 := allB_of (allB_of h a ha) (b % 16) (by omega)
  have h2 := allB_of (allB_of h a ha) (b / 16) (by omega)
  simp only [Bool.and_eq_true, Nat.blt_eq] at h1 h2
  rw [← lohi b hb, rmul_xor]
  exact xor_lt h1.1 h2.2
theorem rmul_xt (a b : Nat) (ha : a < 256) (hb : b < 256) : rmul a (xt b) = xt (rmul a b) := by
  have h : allB 256 (fun a => allB 16 (fun b => Nat.beq (rmul a (xt b)) (xt (rmul a b)) && Nat.beq (rmul a (xt (16 * b))) (xt (rmul a (16 * b))))) = true := by decide +kernel
  have h1 := allB_of (allB_of h a ha) (b % 16) (by omega)
  have h2 := allB_of (allB_of h a ha) (b / 16) (by omega)
  simp only [Bool.and_eq_true] at h1 h2
  have l1 : b % 16 < 256 := by omega
  have l2 : 16 * (b / 16) < 256 := by omega
  rw [← lohi b hb, rmul_xor, xt_xor _ _ l1 l2, rmul_xor, xt_xor _ _ (rmul_lt_of a _ ha l1) (rmul_lt_of a _ ha l2),
    Nat.eq_of_beq_eq_true h1.1, Nat.eq_of_beq_eq_true h2.2]
theorem rmul_exp (a i : Nat) (ha : a < 256) : rmul a (gexp i) = gmul a (gexp i) := by
  induction i with
  | zero =>
    have h : allB 256 (fun a => Nat.beq (rmul a 1) a) = true := by decide +kernel
    rw [gexp_zero, gmul_one a ha]
    exact Nat.eq_of_beq_eq_true (allB_of h a ha)
  | succ i ih => rw [gexp_succ, rmul_xt a _ ha (gexp_lt i), ih, gmul_comm, ← gmul_gexp_succ, gexp_succ, gmul_comm]
/-- Both products are one. -/
theorem rmul_eq (a b : Nat) (ha : a < 256) (hb : b < 256) : rmul a b = gmul a b := by
  by_cases h : b = 0
  · subst h
    have h : allB 256 (fun a => Nat.beq (rmul a 0) 0) = true := by decide +kernel
    rw [gmul_zero]
    exact Nat.eq_of_beq_eq_true (allB_of h a ha)
  · rw [← gexp_glog b h hb]; exact rmul_exp a _ ha
end Tri

namespace Tri

/-- One step of the register. -/
def cst (r : Nat) : Nat := if r % 2 = 1 then (r / 2) ^^^ 3988292384 else r / 2
/-- n steps. -/
def csts : Nat → Nat → Nat
  | 0, r => r
  | n + 1, r => csts n (cst r)
/-- The table. -/
def ctab (i : Nat) : Nat := csts 8 i
/-- The register behind a byte. -/
def cbyte (r b : Nat) : Nat := (r / 256) ^^^ ctab ((r ^^^ b) % 256)
/-- The register behind bytes. -/
def creg (r : Nat) (l : List Nat) : Nat := l.foldl cbyte r
/-- The sum of bytes. -/
def csum (l : List Nat) : Nat := 4294967295 - creg 4294967295 l

theorem shr1 (r : Nat) : r >>> 1 = r / 2 := by rw [Nat.shiftRight_eq_div_pow]
theorem cst_eq (r : Nat) : cst r = if (r >>> 0) % 2 = 1 then (r >>> 1) ^^^ 3988292384 else r >>> 1 := by
  unfold cst; rw [shr1, Nat.shiftRight_zero]
theorem cst_xor (a b : Nat) : cst (a ^^^ b) = cst a ^^^ cst b := by
  rw [cst_eq, cst_eq a, cst_eq b]
  exact step_xor a b 0 3988292384 (fun x => x >>> 1) Nat.shiftRight_xor_distrib
theorem csts_xor (n : Nat) : ∀ a b, csts n (a ^^^ b) = csts n a ^^^ csts n b := by
  induction n with
  | zero => intro a b; rfl
  | succ n ih => intro a b; simp only [csts]; rw [cst_xor, ih]
theorem csts_add (m n r : Nat) : csts (m + n) r = csts n (csts m r) := by
  induction m generalizing r with
  | zero => rw [Nat.zero_add]; rfl
  | succ m ih => rw [show m + 1 + n = (m + n) + 1 from by omega]; simp only [csts]; exact ih _
theorem cst_lt (r : Nat) (h : r < 2 ^ 32) : cst r < 2 ^ 32 := by
  unfold cst
  split
  · exact Nat.xor_lt_two_pow (by omega) (by omega)
  · omega
theorem csts_lt (n r : Nat) (h : r < 2 ^ 32) : csts n r < 2 ^ 32 := by
  induction n generalizing r with
  | zero => exact h
  | succ n ih => exact ih _ (cst_lt r h)
theorem xor_eq_zero {a b : Nat} (h : a ^^^ b = 0) : a = b := by
  have : (a ^^^ b) ^^^ b = b := by rw [h, Nat.zero_xor]
  rwa [Nat.xor_assoc, Nat.xor_self, Nat.xor_zero] at this
theorem cst_zero {r : Nat} (h : r < 2 ^ 32) (h0 : cst r = 0) : r = 0 := by
  unfold cst at h0
  split at h0
  · have := xor_eq_zero h0; omega
  · omega
theorem csts_zero {n r : Nat} (h : r < 2 ^ 32) (h0 : csts n r = 0) : r = 0 := by
  induction n generalizing r with
  | zero => exact h0
  | succ n ih => exact cst_zero h (ih (cst_lt r h) h0)
theorem csts_inj {n a b : Nat} (ha : a < 2 ^ 32) (hb : b < 2 ^ 32) (h : csts n a = csts n b) : a = b := by
  have : csts n (a ^^^ b) = 0 := by rw [csts_xor, h, Nat.xor_self]
  exact xor_eq_zero (csts_zero (Nat.xor_lt_two_pow ha hb) this)
theorem csts_shift (n h : Nat) : csts n (2 ^ n * h) = h := by
  induction n with
  | zero => simp [csts]
  | succ n ih =>
    simp only [csts]
    have : cst (2 ^ (n + 1) * h) = 2 ^ n * h := by
      unfold cst
      rw [Nat.pow_succ, Nat.mul_assoc, Nat.mul_comm 2 h, ← Nat.mul_assoc]
      generalize 2 ^ n * h = m
      rw [if_neg (by omega)]; omega
    rw [this, ih]
theorem hilo (x : Nat) : x = (256 * (x / 256)) ^^^ (x % 256) := by
  have h : 256 * (x / 256) = (x / 256) <<< 8 := by rw [Nat.shiftLeft_eq]; omega
  have h2 : (x / 256) <<< 8 ||| (x % 256) = (x / 256) <<< 8 + x % 256 := Nat.shiftLeft_add_eq_or_of_lt (by omega) _ |>.symm
  apply Nat.eq_of_testBit_eq
  intro i
  rw [Nat.testBit_xor, h, Nat.testBit_shiftLeft, show (256 : Nat) = 2 ^ 8 from rfl, Nat.testBit_mod_two_pow, Nat.testBit_div_two_pow]
  by_cases e : i < 8
  · simp [e, show ¬ 8 ≤ i from by omega]
  · simp [e, show 8 ≤ i from by omega]
theorem cbyte_eq (r b : Nat) (hb : b < 256) : cbyte r b = csts 8 (r ^^^ b) := by
  have h1 : (r ^^^ b) / 256 = r / 256 := by
    rw [show (256 : Nat) = 2 ^ 8 from rfl, Nat.xor_div_two_pow, show b / 2 ^ 8 = 0 from by omega, Nat.xor_zero]
  conv => rhs; rw [hilo (r ^^^ b), csts_xor, show 256 * ((r ^^^ b) / 256) = 2 ^ 8 * ((r ^^^ b) / 256) from rfl, csts_shift, h1]
  rfl
theorem cbyte_lt (r b : Nat) (hr : r < 2 ^ 32) (hb : b < 256) : cbyte r b < 2 ^ 32 := by
  rw [cbyte_eq r b hb]; exact csts_lt _ _ (Nat.xor_lt_two_pow hr (by omega))
theorem creg_lt (l : List Nat) (hl : ∀ b ∈ l, b < 256) (r : Nat) (hr : r < 2 ^ 32) : creg r l < 2 ^ 32 := by
  induction l generalizing r with
  | nil => exact hr
  | cons b l ih => exact ih (fun x hx => hl x (by simp [hx])) _ (cbyte_lt r b hr (hl b (by simp)))
theorem creg_append (l m : List Nat) (r : Nat) : creg r (l ++ m) = creg (creg r l) m := by unfold creg; rw [List.foldl_append]
theorem csum_lt (l : List Nat) (hl : ∀ b ∈ l, b < 256) : csum l < 2 ^ 32 := by unfold csum; omega

theorem not_xor (r : Nat) (h : r < 2 ^ 32) : 4294967295 ^^^ r = 4294967295 - r := by
  rw [show 4294967295 - r = 2 ^ 32 - (r + 1) from by omega]
  apply Nat.eq_of_testBit_eq
  intro i
  rw [Nat.testBit_xor, Nat.testBit_two_pow_sub_succ h, show (4294967295 : Nat) = 2 ^ 32 - 1 from rfl, Nat.testBit_two_pow_sub_one]
  by_cases e : i < 32
  · simp [e]
  · have : r.testBit i = false := Nat.testBit_lt_two_pow (Nat.lt_of_lt_of_le h (Nat.pow_le_pow_right (by omega) (by omega)))
    simp [e, this]

/-- The register behind a byte, bit by bit, as the document has it: what is left of the byte rides along. -/
def rbits : Nat → Nat → Nat → Nat
  | 0, r, _ => r
  | n + 1, r, c => rbits n (if r % 2 ≠ c % 2 then (r / 2) ^^^ 3988292384 else r / 2) (c / 2)
theorem rbits_eq (n : Nat) : ∀ r c, c < 2 ^ n → rbits n r c = csts n (r ^^^ c) := by
  induction n with
  | zero => intro r c hc; obtain rfl : c = 0 := by omega
            simp [rbits, csts]
  | succ n ih =>
    intro r c hc
    simp only [rbits, csts]
    rw [ih _ _ (by rw [Nat.pow_succ] at hc; omega)]
    congr 1
    unfold cst
    have hp := @Nat.xor_mod_two_eq_one r c
    have hd : (r ^^^ c) / 2 = r / 2 ^^^ c / 2 := by
      have := @Nat.xor_div_two_pow r c 1
      simpa using this
    by_cases e : r % 2 = c % 2
    · rw [if_neg (by omega), if_neg (by omega), hd]
    · rw [if_pos e, if_pos (by omega), hd, Nat.xor_assoc, Nat.xor_comm 3988292384, ← Nat.xor_assoc]
theorem cbyte_rbits (r b : Nat) (hb : b < 256) : rbits 8 r b = cbyte r b := by rw [cbyte_eq r b hb, rbits_eq 8 r b (by omega)]

/-! Linear: what turns three registers turns the fourth. -/
theorem cbyte_xor (r s a b : Nat) (ha : a < 256) (hb : b < 256) : cbyte (r ^^^ s) (a ^^^ b) = cbyte r a ^^^ cbyte s b := by
  rw [cbyte_eq _ _ (xor_lt ha hb), cbyte_eq r a ha, cbyte_eq s b hb, ← csts_xor]
  congr 1
  rw [Nat.xor_assoc, ← Nat.xor_assoc s a b, Nat.xor_comm s a, Nat.xor_assoc a s b, ← Nat.xor_assoc]
theorem creg_zip (l m : List Nat) (hl : ∀ b ∈ l, b < 256) (hm : ∀ b ∈ m, b < 256) (h : l.length = m.length) (r s : Nat) :
    creg (r ^^^ s) (List.zipWith (· ^^^ ·) l m) = creg r l ^^^ creg s m := by
  induction l generalizing m r s with
  | nil =>
    cases m with
    | nil => rfl
    | cons b m => simp at h
  | cons a l ih =>
    cases m with
    | nil => simp at h
    | cons b m =>
      simp only [List.zipWith_cons_cons, creg, List.foldl_cons]
      rw [cbyte_xor r s a b (hl a (by simp)) (hm b (by simp))]
      exact ih m (fun x hx => hl x (by simp [hx])) (fun x hx => hm x (by simp [hx])) (by simpa using h) _ _
theorem creg_inj {l : List Nat} (hl : ∀ b ∈ l, b < 256) {r s : Nat} (hr : r < 2 ^ 32) (hs : s < 2 ^ 32) (h : creg r l = creg s l) : r = s := by
  induction l generalizing r s with
  | nil => exact h
  | cons b l ih =>
    have hb := hl b (by simp)
    have := ih (fun x hx => hl x (by simp [hx])) (cbyte_lt r b hr hb) (cbyte_lt s b hs hb) h
    rw [cbyte_eq r b hb, cbyte_eq s b hb] at this
    have := csts_inj (Nat.xor_lt_two_pow hr (by omega)) (Nat.xor_lt_two_pow hs (by omega)) this
    have e : r ^^^ b ^^^ b = s ^^^ b ^^^ b := by rw [this]
    rwa [Nat.xor_assoc, Nat.xor_self, Nat.xor_zero, Nat.xor_assoc, Nat.xor_self, Nat.xor_zero] at e
end Tri

namespace Go.Proofs.Ytngkmlchblgmeaa
open Go.RowKit Tri

/-- What crc.New has laid behind n rounds. -/
def crcTab : Nat → Array Value
  | 0 => (List.replicate 256 (Value.int .u32 0)).toArray
  | n + 1 => (crcTab n).setIfInBounds n (.int .u32 (ctab n))
def crcC : Array Value := ((List.range 256).map (fun n => Value.int .u32 (ctab n))).toArray
theorem crcTab_size (n : Nat) : (crcTab n).size = 256 := by
  induction n with
  | zero => decide +kernel
  | succ n ih => simp [crcTab, ih]
theorem crcTab_end : crcTab 256 = crcC := by kernel_rfl
theorem crcC_at (k : Nat) (h : k < 256) : crcC[k]? = some (.int .u32 (ctab k)) := by
  unfold crcC
  rw [List.getElem?_toArray]
  simp [List.getElem?_range h]
/-- A Crc lies in block b. -/
def isC (w : World) (b : Nat) : Prop := w.heap[b]? = some (.cells crcC 152)
theorem isC.lt {w : World} {b : Nat} (h : isC w b) : b < w.heap.size := (Array.getElem?_eq_some_iff.1 h).1
theorem isC.at {w : World} {b : Nat} (h : isC w b) (k : Nat) (hk : k < 256) : w.cell? ⟨b, k, none⟩ = some (.int .u32 (ctab k)) := by
  rw [cell_of_row w b k _ _ _ h, crcC_at k hk]
theorem isC.below {w w' : World} {b B : Nat} (h : isC w b) (hb : Below B w w') (hB : b < B) : isC w' b := by
  unfold isC; rw [hb.block b hB]; exact h
theorem isC.alloc {w : World} {b : Nat} (h : isC w b) (o : Obj) : isC (w.alloc o) b := by
  unfold isC; rw [Below.heap_alloc w o b h.lt]; exact h
theorem isC.drew {w : World} {b : Nat} (h : isC w b) : isC w.drew b := h
theorem isC.new (w : World) : isC (w.alloc (.cells crcC 152)) w.heap.size := heap_alloc_new w _
theorem isC.setCell {w : World} {b : Nat} (h : isC w b) (a : Addr) (v : Value) (ha : b ≠ a.block) : isC (w.setCell a v) b := by
  unfold isC; rw [heap_setCell_other w a b v ha]; exact h

theorem zero_crc (w : World) : (zeroValue 152).run Try.prog w = .ok (.agg (crcTab 0)) w := by kernel_rfl
theorem cst_odd (r : Nat) (h : r % 2 = 1) (hr : r < 2 ^ 32) : bits .xor .u32 ((r : Int) / 2) 3988292384 = (cst r : Nat) := by
  have := Go.u32_xor_nat (r / 2) 3988292384 (by omega) (by omega)
  unfold cst; rw [if_pos h, ← this]; rfl
theorem cst_even (r : Nat) (h : ¬ r % 2 = 1) : (r : Int) / 2 = (cst r : Nat) := by unfold cst; rw [if_neg h]; rfl

set_option maxHeartbeats 1000000 in
set_option maxRecDepth 100000 in
theorem crc_New (w : World) : Calls Try.prog 72 #[] w fun e w' =>
    e = .returned (.pointer (some ⟨w.heap.size, 0, none⟩)) ∧ w.alloc (.cells crcC 152) = w' := by
  have hz := zero_crc
  go_enter Try.func72, Try.ntmps72
  go_wp2
  go_loopw [5] (fun i wr => ∃ k : Nat, k ≤ 256 ∧ i = .int .i64 k ∧ wr = w.alloc (.cells (crcTab k) 152)) (fun i _ => 256 - (intOf i).toNat)
  case atStart => exact ⟨0, Nat.zero_le _, rfl, rfl⟩
  case round =>
    obtain ⟨k, hk, rfl, rfl⟩ := hrel
    clear hz
    have hs := crcTab_size k
    have hsucc : Hid (crcTab (k + 1) = (crcTab k).setIfInBounds k (.int .u32 (ctab k))) := rfl
    have hend : Hid (k = 256 → crcTab k = crcC) := by intro e; rw [e]; exact crcTab_end
    generalize crcTab k = T at *
    by_cases hlt : k < 256
    · obtain ⟨x, hx⟩ : ∃ x, T[k]? = some x := ⟨T[k], Array.getElem?_eq_getElem (by omega)⟩
      clear hs hend
      go_wp2
      go_loop [3, 10] (fun r j => ∃ n : Nat, ∃ q : Nat, n ≤ 8 ∧ j = .int .i64 n ∧ r = .int .u32 q ∧ q < 4294967296 ∧ csts (8 - n) q = ctab k) (fun _ j => 8 - (intOf j).toNat)
      case atStart => exact ⟨0, k, by omega, rfl, rfl, by omega, rfl⟩
      case round =>
        obtain ⟨n, q, hn, rfl, rfl, hq, hc⟩ := hrel
        have HC := hid hc
        clear hc
        by_cases hlt2 : n < 8
        · have hst : Hid (csts (8 - n) q = csts (8 - (n + 1)) (cst q)) := by
            show csts (8 - n) q = _
            rw [show 8 - n = (8 - (n + 1)) + 1 from by omega]; rfl
          have hcl : cst q < 4294967296 := cst_lt q (by omega)
          have hnx : bits .and .u32 (q : Int) 1 = ((q % 2 : Nat) : Int) := by
            have := Go.u32_and_nat q 1 (by omega) (by omega)
            rw [nat_mask1] at this; exact this
          by_cases ho : q % 2 = 1
          · have hox := cst_odd q ho (by omega)
            have hon : ((q % 2 : Nat) : Int) = 1 := by omega
            rw [hon] at hnx
            clear ho hon
            generalize cst q = q' at *
            go_wp2
            go_round
            case rel => exact ⟨n + 1, q', by omega, by go_num, rfl, hcl, by rw [← HC.out, hst.out]⟩
            case measure => simp [intOf]; omega
          · have hox := cst_even q ho
            have hon : ((q % 2 : Nat) : Int) = 0 := by omega
            rw [hon] at hnx
            clear ho hon
            generalize cst q = q' at *
            go_wp2
            go_round
            case rel => exact ⟨n + 1, q', by omega, by go_num, rfl, hcl, by rw [← HC.out, hst.out]⟩
            case measure => simp [intOf]; omega
        · have hq' : Hid (ctab k = q) := by
            have := HC.out
            rw [show 8 - n = 0 from by omega] at this
            exact this.symm
          clear HC
          go_wp2
          go_roundw
          case rel => exact ⟨k + 1, by omega, by go_num, by rw [hsucc.out, hq'.out]⟩
          case measure => simp [intOf]; omega
    · clear hsucc hs
      have he : Hid (T = crcC) := hend.out (by omega)
      clear hend
      go_wp2
      go_ret
      exact ⟨rfl, by rw [he.out]⟩

set_option maxHeartbeats 400000 in
theorem crc_step (b r x : Nat) (w : World) (hC : isC w b) (hr : r < 4294967296) (hx : x < 256) :
    Calls Try.prog 123 #[.pointer (some ⟨b, 0, none⟩), .int .u32 r, .int .u8 x] w fun e w' => e = .returned (.int .u32 (cbyte r x)) ∧ w = w' := by
  have h1 : bits .xor .u8 ((r : Int) % 256) (x : Int) = (((r ^^^ x) % 256 : Nat) : Int) := by
    have := Go.u8_xor_nat (r % 256) x (by omega) hx
    have e : (r % 256) ^^^ x = (r ^^^ x) % 256 := by
      rw [show (256 : Nat) = 2 ^ 8 from rfl, Nat.xor_mod_two_pow, Nat.mod_eq_of_lt (a := x) (by omega)]
    rw [e] at this
    rw [← this]; rfl
  have hlt : (r ^^^ x) % 256 < 256 := Nat.mod_lt _ (by omega)
  have hc := hC.at _ hlt
  have h2 : Hid (bits .xor .u32 ((r : Int) / 256) (ctab ((r ^^^ x) % 256) : Nat) = (cbyte r x : Nat)) := by
    have := Go.u32_xor_nat (r / 256) (ctab ((r ^^^ x) % 256)) (by omega) (csts_lt 8 _ (by omega))
    show _ = _
    unfold cbyte; rw [← this]; rfl
  have h3 := h2.out
  generalize (r ^^^ x) % 256 = k at *
  clear hC h2
  go_enter Try.func123, Try.ntmps123
  go_wp2
  go_ret
  exact ⟨by rfl, rfl⟩
end Go.Proofs.Ytngkmlchblgmeaa

namespace Go.Proofs.Ytngkmlchblgmeaa
open Go.RowKit

/-- A text's bytes. -/
def sb (s : ByteArray) : List Nat := s.data.toList.map UInt8.toNat
theorem sb_length (s : ByteArray) : (sb s).length = s.size := by simp [sb]
theorem sb_lt (s : ByteArray) : ∀ x ∈ sb s, x < 256 := by
  intro x hx
  simp only [sb, List.mem_map] at hx
  obtain ⟨u, _, rfl⟩ := hx
  exact u.toNat_lt
theorem sb_getD (s : ByteArray) (j : Nat) (h : j < s.size) : (sb s).getD j 0 = (s.data.toList.getD j 0).toNat := by
  have h' : j < s.data.toList.length := by simpa using h
  rw [List.getD_eq_getElem?_getD, List.getD_eq_getElem?_getD, sb, List.getElem?_map, List.getElem?_eq_getElem h']
  rfl
/-- All bytes of texts. -/
def lb (l : List ByteArray) : List Nat := l.flatMap sb
theorem lb_lt (l : List ByteArray) : ∀ x ∈ lb l, x < 256 := by
  intro x hx
  simp only [lb, List.mem_flatMap] at hx
  obtain ⟨s, _, h⟩ := hx
  exact sb_lt s x h
/-- A slice's texts. -/
def cellsS (w : World) (p : Option Addr) (l : List ByteArray) : Prop :=
  ∀ i, i < l.length → ∃ a o, p = some ⟨a, o, none⟩ ∧ w.cell? ⟨a, o + i, none⟩ = some (.string (l.getD i ByteArray.empty))
theorem cellsS.nil (w : World) (p : Option Addr) : cellsS w p [] := fun i hi => by simp at hi
theorem cellsS.below {w w' : World} {p : Option Addr} {l : List ByteArray} (h : cellsS w p l) (hb : Below w.heap.size w w') : cellsS w' p l := by
  intro i hi
  obtain ⟨a, f, e, hc⟩ := h i hi
  exact ⟨a, f, e, by rw [hb.cell (p := ⟨a, f + i, none⟩) (block_lt_of_cell hc)]; exact hc⟩
theorem cellsS.new (w : World) (l : List ByteArray) (vs : Array Value) (t : TypeId) (h : vs.toList = l.map Value.string) :
    cellsS (w.alloc (.cells vs t)) (some ⟨w.heap.size, 0, none⟩) l := by
  intro i hi
  refine ⟨_, _, rfl, ?_⟩
  rw [World.cell?_alloc_new, ← Array.getElem?_toList, h, Nat.zero_add, List.getElem?_map, List.getElem?_eq_getElem hi]
  simp [hi]
theorem bytes_below (w : World) (e : TypeId) (s : ByteArray) : Below w.heap.size w (Lib.bytesWorld w e s) := by
  refine ⟨rfl, rfl, rfl, by rw [Lib.bytesWorld_size]; omega, fun k hk => Lib.bytesWorld_at_old w e s k hk⟩
theorem take_snocS (l : List ByteArray) (k : Nat) (h : k < l.length) : l.take (k + 1) = l.take k ++ [l.getD k ByteArray.empty] := by
  rw [List.take_succ_eq_append_getElem h]
  simp [h]
/-- Bytes as a text. -/
def ofB (l : List Nat) : ByteArray := ⟨(l.map UInt8.ofNat).toArray⟩
theorem ofB_size (l : List Nat) : (ofB l).size = l.length := by simp [ofB, ByteArray.size]
theorem ofB_append (l m : List Nat) : ofB l ++ ofB m = ofB (l ++ m) := by
  unfold ofB
  rw [List.map_append, ByteArray.mk_append_mk]
theorem sb_ofB (l : List Nat) (h : ∀ x ∈ l, x < 256) : sb (ofB l) = l := by
  unfold sb ofB
  rw [List.map_map]
  conv => rhs; rw [← List.map_id l]
  apply List.map_congr_left
  intro x hx
  simp only [Function.comp, id, UInt8.toNat_ofNat']
  exact Nat.mod_eq_of_lt (h x hx)
theorem ofB_sb (s : ByteArray) : ofB (sb s) = s := by
  unfold sb ofB
  rw [List.map_map]
  have : (UInt8.ofNat ∘ UInt8.toNat) = id := by funext x; simp
  rw [this, List.map_id]
theorem sb_inj {s t : ByteArray} (h : sb s = sb t) : s = t := by rw [← ofB_sb s, h, ofB_sb]
theorem str_beq (a b : ByteArray) : (a.toList == b.toList) = decide (sb a = sb b) := by
  by_cases h : sb a = sb b
  · have := sb_inj h
    subst this
    simp
  · rw [decide_eq_false h]
    rw [beq_eq_false_iff_ne]
    intro e
    apply h
    rw [ByteArray.toList_eq, ByteArray.toList_eq] at e
    unfold sb
    rw [e]
theorem sb_extract (s : ByteArray) (a b : Nat) : sb (s.extract a b) = ((sb s).drop a).take (b - a) := by
  unfold sb
  rw [ByteArray.data_extract, Array.toList_extract]
  simp
theorem strOfNums_nat (l : List Nat) : strOfNums (l.map fun (x : Nat) => (x : Int)) = ofB l := by
  unfold ofB strOfNums
  rw [List.map_map]
  rfl
/-- 'string(b)'. -/
theorem conv_str {w : World} {p : Option Addr} {l : List Nat} (h : cellsB w p l) (n c : Nat) (hn : n = l.length) :
    (convert 111 9 (.slice p n c)).run Try.prog w = .ok (.string (ofB l)) w := by
  subst hn
  cases p with
  | none =>
    cases l with
    | nil => exact run_convert_bytes_nil w 111 5 Try.underlying111 Try.underlying5 _ _ 9 Try.underlying9
    | cons x l => obtain ⟨a, o, e, _⟩ := h 0 (by simp); cases e
  | some a =>
    obtain ⟨b, o, s⟩ := a
    cases l with
    | nil =>
      rw [run_convert_bytes_string w 111 9 5 _ _ c Try.underlying111 Try.underlying5 Try.underlying9]
      simp only [List.length_nil]
      rw [run_bytesToString w _ 0 c [] (by simp [loadCells]; rfl)]
      rfl
    | cons x l =>
      obtain ⟨a', o', e, _⟩ := h 0 (by simp)
      simp only [Option.some.injEq, Addr.mk.injEq] at e
      obtain ⟨rfl, rfl, rfl⟩ := e
      have := run_convert_bytes_arg (P := Try.prog) w 111 5 Try.underlying111 Try.underlying5 b o (x :: l).length c ((x :: l).map fun (x : Nat) => (x : Int)) (by simp) (by
        intro i hi
        obtain ⟨a', o', e, hc⟩ := h i hi
        simp only [Option.some.injEq, Addr.mk.injEq] at e
        obtain ⟨rfl, rfl, _⟩ := e
        rw [hc]
        congr 2
        rw [List.getD_eq_getElem?_getD, List.getD_eq_getElem?_getD, List.getElem?_map, List.getElem?_eq_getElem hi]
        rfl) 9 Try.underlying9
      rw [this, strOfNums_nat]
/-- A row that the call owns, told as a slice's bytes. -/
theorem cells_of_owns {w : World} {base e n : Nat} {v : Value} {l : List Nat} (h : w.ownsRow base e 1 v n (l.map fun x => Value.int .u8 (x : Nat))) : ∃ p c, v = .slice p n c ∧ n = l.length ∧ cellsB w p l := by
  have hn : n = l.length := by have := h.1; simpa using this.symm
  rcases h.2 with ⟨rfl, h0⟩ | ⟨g, cap, cur, rfl, _, _, _, _, _, _⟩
  · subst h0
    exact ⟨none, 0, rfl, hn, by have : l = [] := by cases l; rfl; simp at hn
                                subst this; exact cellsB.nil _ _⟩
  · refine ⟨_, _, rfl, hn, ?_⟩
    intro i hi
    refine ⟨_, _, rfl, ?_⟩
    rw [Nat.zero_add, h.cellAt i (by omega), List.getElem?_map, List.getElem?_eq_getElem hi]
    simp [hi]
/-- '[]byte(s)': the new bytes may be written. -/
theorem bytes_free (w : World) (e : TypeId) (s : ByteArray) (j : Nat) (hj : j < s.size) : (Lib.bytesWorld w e s).frozen? ⟨w.heap.size, j, none⟩ = false := by
  unfold World.frozen?
  rw [Lib.bytesWorld_at_new]
  have h : s.size ≤ (Lib.bytesCells w e s).size := by simp [Lib.bytesCells]
  simp
  omega
theorem bytes_cells (w : World) (e : TypeId) (s : ByteArray) : cellsB (Lib.bytesWorld w e s) (some ⟨w.heap.size, 0, none⟩) (sb s) := by
  intro i hi
  rw [sb_length] at hi
  exact ⟨_, _, rfl, by rw [Nat.zero_add, Lib.bytesWorld_cell w e s i hi, sb_getD s i hi]⟩
/-- A byte stored into a slice's array. -/
theorem cellsB.set {w : World} {b o : Nat} {l : List Nat} (h : cellsB w (some ⟨b, o, none⟩) l) (i x : Nat) (hi : i < l.length) :
    cellsB (w.setCell ⟨b, o + i, none⟩ (.int .u8 (x : Nat))) (some ⟨b, o, none⟩) (l.set i x) := by
  intro j hj
  rw [List.length_set] at hj
  obtain ⟨a', o', e, hc⟩ := h j hj
  simp only [Option.some.injEq, Addr.mk.injEq] at e
  obtain ⟨rfl, rfl, _⟩ := e
  refine ⟨_, _, rfl, ?_⟩
  by_cases e : i = j
  · subst e
    rw [World.cell?_setCell_same _ _ _ hc]
    simp [hi]
  · rw [World.cell?_setCell_other _ _ _ _ (by intro e'; simp [e] at e'), hc]
    simp [List.getD_eq_getElem?_getD, List.getElem?_set, e]
theorem str_byte (s : ByteArray) (k : Nat) (h : k < s.size) : ((s[k]'h).toNat : Int) = ((sb s).getD k 0 : Nat) := by
  rw [sb_getD s k h]
  congr 2
  rw [List.getD_eq_getElem?_getD, List.getElem?_eq_getElem (by simpa using h)]
  rfl

end Go.Proofs.Ytngkmlchblgmeaa
