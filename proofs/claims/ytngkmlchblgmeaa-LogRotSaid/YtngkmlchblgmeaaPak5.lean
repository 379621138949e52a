/-
  strings.Builder in the program: WriteString and String; what lies elsewhere stays.
  Numbers in some sizes each, as a text, in the program (record.join).
  What is told of an argument, opened: arrays of ints by value.
  Records in the program: which may be, their pages; versions as values, and back.
  Versions of values; which records may be; '==' of arrays of ints.
  A record's page in the program (record.Put).
  Rows of ints (the same as in the texts of chapter 05, for seats without it).
  num.wrong, slices.ContainsFunc of sizes, num.Size in the program: sizes from 1 to 7.
  num.Take in the program: the numbers that stand in a text.
  A page's record in the program (record.Get): pages of at least 10 bytes.
-/
import Derived.Test.YtngkmlchblgmeaaPak4
import Derived.Test.YtngkmlchblgmeaaShelf
import Derived.Test.YtngkmlchblgmeaaPak1
import Derived.ProofKit
import Derived.OpenShut
import Derived.Test.YtngkmlchblgmeaaPak3
import Derived.Stop.BytesEq
import Derived.Deep.RegionLaw
namespace Go.Proofs.Ytngkmlchblgmeaa
open Go.RowKit

/-- A builder that holds some bytes. -/
def bldB (w : World) (B b : Nat) (l : List Nat) : Prop := Lib.IsBuilder 163 5 B b (l.map fun x => Value.int .u8 (x : Nat)) w
theorem bldB.below {w w' : World} {B b : Nat} {l : List Nat} (h : bldB w B b l) (hb : Below w.heap.size w w') : bldB w' B b l := by
  have key : ∀ p, Lib.BuilderAt 163 5 B b p (l.map fun x => Value.int .u8 (x : Nat)) w → Lib.BuilderAt 163 5 B b p (l.map fun x => Value.int .u8 (x : Nat)) w' := by
    intro p ⟨h1, v, h2, h3, h4⟩
    refine ⟨h1, v, by rw [hb.block b (Array.getElem?_eq_some_iff.1 h2).1]; exact h2, ?_, h4⟩
    obtain ⟨h5, h6⟩ := h3
    refine ⟨h5, h6.imp id fun ⟨g, cap, cur, h7, h8, h9, h10⟩ => ⟨g, cap, cur, h7, h8, ?_, h10⟩⟩
    rw [hb.block g (Array.getElem?_eq_some_iff.1 h9).1]; exact h9
  exact h.imp (key _) (key _)
theorem bldB.new (w : World) : bldB (w.alloc (.cells #[.pointer none, .slice none 0 0] 163)) w.heap.size w.heap.size [] := Lib.fresh_isBuilder _ _ w
theorem strCells_ofB (l : List Nat) (h : ∀ x ∈ l, x < 256) : Lib.strCells (ofB l) = l.map fun x => Value.int .u8 (x : Nat) := by
  unfold Lib.strCells ofB
  rw [List.map_map]
  apply List.map_congr_left
  intro x hx
  simp only [Function.comp, UInt8.toNat_ofNat']
  rw [Nat.mod_eq_of_lt (h x hx)]
theorem bld_WriteString (B b : Nat) (l m : List Nat) (w : World) (h : bldB w B b l) (hm : ∀ x ∈ m, x < 256) (hlen : l.length + m.length ≤ 1000000) (hBw : B ≤ w.heap.size) :
    Calls Try.prog 103 #[.pointer (some ⟨b, 0, none⟩), .string (ofB m)] w fun e w' => (∃ v, e = .returned v) ∧ bldB w' B b (l ++ m) ∧ Below B w w' :=
  (Any.Builder_WriteString { Try.lays105 with } Try.Builder_Extra_105 B b _ (ofB m) w h (by rw [List.length_map, ofB_size]; omega) hBw).mono fun _ _ ⟨h1, h2, h3⟩ => ⟨⟨_, h1⟩, by
    show Lib.IsBuilder _ _ _ _ _ _
    rw [List.map_append, ← strCells_ofB m hm]
    exact .inr h2, h3⟩
theorem bld_String (B b : Nat) (l : List Nat) (w : World) (h : bldB w B b l) (hl : ∀ x ∈ l, x < 256) (hBw : B ≤ w.heap.size) :
    Calls Try.prog 105 #[.pointer (some ⟨b, 0, none⟩)] w fun e w' => e = .returned (.string (ofB l)) ∧ Below B w w' := by
  have h' : Lib.IsBuilder 163 5 B b (Lib.byteCells (l.map UInt8.ofNat)) w := by
    unfold Lib.byteCells
    rw [List.map_map]
    have : l.map ((fun b : UInt8 => Value.int .u8 b.toNat) ∘ UInt8.ofNat) = l.map fun x => Value.int .u8 (x : Nat) := by
      apply List.map_congr_left
      intro x hx
      simp only [Function.comp, UInt8.toNat_ofNat']
      rw [Nat.mod_eq_of_lt (hl x hx)]
    rw [this]; exact h
  exact Try.Builder_String_any B b (l.map UInt8.ofNat) w h' hBw
end Go.Proofs.Ytngkmlchblgmeaa

namespace Go.Proofs.Ytngkmlchblgmeaa
open Go.RowKit

def joinL (L : List (Nat × Nat)) : List Nat := L.flatMap fun q => putB q.1 q.2
theorem joinL_snoc (L : List (Nat × Nat)) (q : Nat × Nat) : joinL (L ++ [q]) = joinL L ++ putB q.1 q.2 := by unfold joinL; rw [List.flatMap_append]; simp
theorem joinL_lt (L : List (Nat × Nat)) : ∀ y ∈ joinL L, y < 256 := by
  intro y hy
  obtain ⟨q, _, h⟩ := List.mem_flatMap.1 hy
  exact putB_lt _ _ y h
theorem joinL_len (L : List (Nat × Nat)) (h : ∀ q ∈ L, q.1 ≤ 7) : (joinL L).length ≤ 7 * L.length := by
  induction L with
  | nil => simp [joinL]
  | cons q L ih =>
    have : joinL (q :: L) = putB q.1 q.2 ++ joinL L := rfl
    rw [this, List.length_append, putB_length, List.length_cons]
    have h1 := h q (by simp)
    have h2 := ih fun r hr => h r (by simp [hr])
    omega
/-- A slice of pairs of ints. -/
def cellsP (w : World) (p : Option Addr) (L : List (Nat × Nat)) : Prop :=
  ∀ i, i < L.length → ∃ a o, p = some ⟨a, o, none⟩ ∧ w.cell? ⟨a, o + i * 2, none⟩ = some (.int .i64 ((L.getD i (0, 0)).1 : Nat)) ∧ w.cell? ⟨a, o + i * 2 + 1, none⟩ = some (.int .i64 ((L.getD i (0, 0)).2 : Nat))
theorem take_snocP (L : List (Nat × Nat)) (k : Nat) (h : k < L.length) : L.take (k + 1) = L.take k ++ [L.getD k (0, 0)] := by
  rw [List.take_succ_eq_append_getElem h]
  simp [h]

set_option maxHeartbeats 2000000 in
set_option maxRecDepth 100000 in
theorem rec_join (p : Option Addr) (n c : Nat) (L : List (Nat × Nat)) (w : World) (hn : n = L.length) (hp : cellsP w p L) (hL : ∀ q ∈ L, 1 ≤ q.1 ∧ q.1 ≤ 7 ∧ q.2 < 2 ^ (8 * q.1)) (hl : L.length ≤ 1000) :
    Calls Try.prog 111 #[.slice p n c] w fun e w' => e = .returned (.string (ofB (joinL L))) ∧ Below w.heap.size w w' := by
  subst hn
  have HP := hid hp
  have HL := hid hL
  clear hp hL
  have HLen : Hid (∀ k, (joinL (L.take k)).length ≤ 7 * L.length) := fun k => by
    have h1 := joinL_len (L.take k) fun q hq => (HL.out q (List.mem_of_mem_take hq)).2.1
    rw [List.length_take] at h1
    omega
  (go_enter Try.func111, Try.ntmps111; try simp only [List.append])
  go_wp2_with ((with_reducible refine wpList_unguard ?_ ?_); (focus rfl))
  have HB0 := hid (bldB.new w)
  have hb0 := hid (show Below w.heap.size w (w.alloc (.cells #[.pointer none, .slice none 0 0] 163)) from (Below.refl _ _).alloc (Nat.le_refl _) _)
  generalize w.alloc (.cells #[.pointer none, .slice none 0 0] 163) = w1 at *
  obtain ⟨B, hB⟩ : ∃ B, w.heap.size = B := ⟨_, rfl⟩
  rw [hB] at HB0
  have HBe := hid hB
  rw [hB]
  clear hB
  go_loopw [10] (fun i wr => ∃ k : Nat, k ≤ L.length ∧ i = .int .i64 k ∧ bldB wr B B (joinL (L.take k)) ∧ Below w.heap.size w wr) (fun i _ => L.length - (intOf i).toNat)
  case atStart => exact ⟨0, Nat.zero_le _, rfl, HB0.out, hb0.out⟩
  case round =>
    clear HB0 hb0
    obtain ⟨k, hk, rfl, hD, hbw⟩ := hrel
    have HD := hid hD
    have HBW := hid hbw
    clear hD hbw
    by_cases hlt : k < L.length
    · obtain ⟨a, o, rfl, hc1, hc2⟩ := HP.out k hlt
      have hd1 : wr.cell? ⟨a, o + k * 2, none⟩ = some (.int .i64 ((L.getD k (0, 0)).1 : Nat)) := by rw [HBW.out.cell (p := ⟨a, o + k * 2, none⟩) (block_lt_of_cell hc1)]; exact hc1
      have hd2 : wr.cell? ⟨a, o + k * 2 + 1, none⟩ = some (.int .i64 ((L.getD k (0, 0)).2 : Nat)) := by rw [HBW.out.cell (p := ⟨a, o + k * 2 + 1, none⟩) (block_lt_of_cell hc2)]; exact hc2
      have hm := HL.out (L.getD k (0, 0)) (by rw [List.getD_eq_getElem?_getD, List.getElem?_eq_getElem hlt]; exact List.getElem_mem _)
      have HS : Hid (joinL (L.take (k + 1)) = joinL (L.take k) ++ putB (L.getD k (0, 0)).1 (L.getD k (0, 0)).2) := by show _ = _; rw [take_snocP L k hlt, joinL_snoc]
      have hjl := HLen.out k
      clear hc1 hc2
      generalize hj2 : joinL (L.take (k + 1)) = J2 at *
      have HJ2 := hid hj2
      clear hj2
      generalize L.getD k (0, 0) = q at *
      obtain ⟨sz, x⟩ := q
      generalize joinL (L.take k) = J at *
      simp only at hd1 hd2 hm HS
      go_wp2_with ((with_reducible refine wpList_unguard ?_ ?_); (focus rfl))
      have hb1 := hid (show Below w.heap.size w (wr.alloc (.cells #[.int .i64 (sz : Nat), .int .i64 (x : Nat)] 174)) from HBW.out.alloc HBW.out.size _)
      have hD1 := hid (HD.out.below (w' := wr.alloc (.cells #[.int .i64 (sz : Nat), .int .i64 (x : Nat)] 174)) ((Below.refl _ _).alloc (Nat.le_refl _) _))
      have hsz : wr.heap.size + 1 = (wr.alloc (.cells #[.int .i64 (sz : Nat), .int .i64 (x : Nat)] 174)).heap.size := by simp
      generalize wr.heap.size + 1 = s1 at *
      generalize wr.alloc (.cells #[.int .i64 (sz : Nat), .int .i64 (x : Nat)] 174) = w2 at *
      refine Calls.mono (num_Put1 sz s1 x _ _ w2 _ hsz rfl rfl hm.1 hm.2.1 hm.2.2) ?_
      rintro e w3 ⟨rfl, hb3⟩
      have HB3 := hid (hb1.out.trans (hb3.mono hb1.out.size))
      have HD3 := hid (hD1.out.below hb3)
      have hpl := putB_length sz x
      have HPLt := hid (putB_lt sz x)
      have hBs : B ≤ w3.heap.size := by have := HBe.out; have := HB3.out.size; omega
      have hjm : J.length + (putB sz x).length ≤ 1000000 := by omega
      clear hb1 hD1 hb3 HD HBW hpl hd1 hd2
      generalize putB sz x = y at *
      go_wp2_with ((with_reducible refine wpList_unguard ?_ ?_); (focus rfl))
      refine Calls.mono (bld_WriteString B B J y w3 HD3.out HPLt.out hjm hBs) ?_
      rintro e w4 ⟨⟨v, rfl⟩, hD4, hb4⟩
      have HD4 : Hid (bldB w4 B B J2) := by show bldB _ _ _ _; rw [HS.out]; exact hD4
      have HB4 : Hid (Below w.heap.size w w4) := by show Below _ _ _; rw [HBe.out] at HB3 ⊢; exact HB3.out.trans hb4
      clear hD4 hb4
      go_wp2_with ((with_reducible refine wpList_unguard ?_ ?_); (focus rfl))
      go_roundw
      case rel => exact ⟨k + 1, by omega, by go_num, by rw [HJ2.out]; exact HD4.out, HB4.out⟩
      case measure => simp [intOf]; omega
    · have hT : Hid (L.take k = L) := by show _ = _; exact List.take_of_length_le (by omega)
      rw [hT.out] at HD
      have hBs : B ≤ wr.heap.size := by have := HBe.out; have := HBW.out.size; omega
      go_wp2_with ((with_reducible refine wpList_unguard ?_ ?_); (focus rfl))
      refine Calls.mono (bld_String B B (joinL L) wr HD.out (joinL_lt L) hBs) ?_
      rintro e w4 ⟨rfl, hb4⟩
      have HB4 : Hid (Below w.heap.size w w4) := by show Below _ _ _; rw [HBe.out] at HBW ⊢; exact HBW.out.trans hb4
      clear hb4
      generalize hT2 : ofB (joinL L) = T at *
      have HT := hid hT2
      clear hT2
      go_wp2_with ((with_reducible refine wpList_unguard ?_ ?_); (focus rfl))
      go_ret
      exact ⟨by rw [HT.out]; rfl, HB4.out⟩
end Go.Proofs.Ytngkmlchblgmeaa

namespace Go.Proofs.Ytngkmlchblgmeaa
open Go.ChangeShapes Go.WideShapes Go.ChangeAt Go.RowKit

set_option linter.constructorNameAsVariable false in
theorem open_intarr {H : Type} {enc : TypeId × Value → H} {W : World} {base t n : Nat} {v : Value} {d : DataW H} {p : List MemPlace} (ht : Try.prog.underlying t = some (.array n 3)) (hc : Try.prog.cellsOf t = n)
    (hv : Value.okWide Try.prog W .any base t v) (h : DataW.Trod enc Try.prog W 0 (fun _ => true) true t v d p) :
    ∃ l : List Int, l.length = n ∧ v = .agg (l.map (Value.int .i64)).toArray ∧ ∀ x ∈ l, (Lit.int .i64 x).wf = true := by
  have hv' : ∃ cs, v = Value.agg cs ∧ cs.size = Try.prog.cellsOf t ∧ Row.okWide Try.prog W .any base t cs := by
    unfold Value.okWide at hv; rw [ht] at hv; exact hv
  obtain ⟨cs, rfl, hsz, -⟩ := hv'
  obtain ⟨fuel, hf⟩ := h
  obtain ⟨xs, m, _, _, hlen, hxl, hat⟩ := DataW.trod_array ht hf
  have hce : Try.prog.cellsOf 3 = 1 := by kernel_rfl
  have hcs : ∀ i, (h : i < cs.size) → ∃ x : Int, cs[i] = .int .i64 x ∧ (Lit.int .i64 x).wf = true := by
    intro i hi
    have hin : i < n := by omega
    have h1 := hat i hin
    rw [hce, Nat.mul_one] at h1
    have hl : (Value.cells (.agg cs)).toList = cs.toList := rfl
    rw [hl] at h1
    have hdt : (cs.toList.drop i).take 1 = [cs[i]] := by
      rw [List.drop_eq_getElem_cons (by simpa using hi)]
      simp
    rw [hdt, List.getElem?_eq_getElem (by omega)] at h1
    obtain ⟨x, e, _, hw⟩ := DataW.trod_int Try.underlying3 h1
    simp only [List.cons.injEq, and_true] at e
    exact ⟨x, e, hw⟩
  obtain ⟨l, hl⟩ : ∃ l : List Int, cs.toList = l.map (Value.int .i64) ∧ ∀ x ∈ l, (Lit.int .i64 x).wf = true := by
    obtain ⟨c⟩ := cs
    simp only at hcs ⊢
    clear hf hat hv hlen hsz
    induction c with
    | nil => exact ⟨[], rfl, by simp⟩
    | cons a c ih =>
      obtain ⟨x, e, hw⟩ := hcs 0 (by simp)
      obtain ⟨l, hl, hlw⟩ := ih (fun i hi => by have := hcs (i + 1) (by simp at hi ⊢; omega); simpa using this)
      refine ⟨x :: l, ?_, ?_⟩
      · simp at e; simp [e, hl]
      · intro y hy
        rcases List.mem_cons.1 hy with rfl | hy
        · exact hw
        · exact hlw y hy
  refine ⟨l, ?_, ?_, hl.2⟩
  · have := congrArg List.length hl.1
    simp at this
    omega
  · rw [← hl.1]
theorem list3i {l : List Int} (h : l.length = 3) : ∃ a b c, l = [a, b, c] := by
  match l, h with
  | [a, b, c], _ => exact ⟨a, b, c, rfl⟩
end Go.Proofs.Ytngkmlchblgmeaa

namespace Tri
def recL (k s n v : Nat) : List Nat := Go.Proofs.Ytngkmlchblgmeaa.putB 1 k ++ Go.Proofs.Ytngkmlchblgmeaa.putB 1 s ++ Go.Proofs.Ytngkmlchblgmeaa.putB 2 n ++ Go.Proofs.Ytngkmlchblgmeaa.putB 6 v ++ Go.Proofs.Ytngkmlchblgmeaa.putB 2 0
def recSum (l : List Nat) : Nat := min (csum l) 4294967294
def recP (k s n v : Nat) : List Nat := recL k s n v ++ Go.Proofs.Ytngkmlchblgmeaa.putB 4 (recSum (recL k s n v))
end Tri
namespace Go.Proofs.Ytngkmlchblgmeaa
open Go.RowKit Tri

set_option maxHeartbeats 1000000 in
theorem rec_within (n m : Int) (w : World) : Calls Try.prog 85 #[.int .i64 n, .int .i64 m] w fun e w' => e = .returned (.bool (decide (0 ≤ n ∧ n ≤ m))) ∧ w = w' := by
  (go_enter Try.func85, Try.ntmps85; try simp only [List.append])
  by_cases h1 : 0 ≤ n
  · have ht : decide (0 ≤ n) = true := decide_eq_true h1
    by_cases h2 : n ≤ m
    · have ht2 : decide (n ≤ m) = true := decide_eq_true h2
      have hr : Hid (decide (0 ≤ n ∧ n ≤ m) = true) := decide_eq_true ⟨h1, h2⟩
      go_wp2_with ((with_reducible refine wpList_unguard ?_ ?_); (focus rfl))
      go_ret
      first | exact ⟨rfl, rfl⟩ | exact ⟨by rw [hr.out]; rfl, rfl⟩
    · have ht2 : decide (n ≤ m) = false := decide_eq_false h2
      have hr : Hid (decide (0 ≤ n ∧ n ≤ m) = false) := decide_eq_false (fun h => h2 h.2)
      go_wp2_with ((with_reducible refine wpList_unguard ?_ ?_); (focus rfl))
      go_ret
      first | exact ⟨rfl, rfl⟩ | exact ⟨by rw [hr.out]; rfl, rfl⟩
  · have ht : decide (0 ≤ n) = false := decide_eq_false h1
    have hr : Hid (decide (0 ≤ n ∧ n ≤ m) = false) := decide_eq_false (fun h => h1 h.1)
    go_wp2_with ((with_reducible refine wpList_unguard ?_ ?_); (focus rfl))
    go_ret
    first | exact ⟨rfl, rfl⟩ | exact ⟨by rw [hr.out]; rfl, rfl⟩
end Go.Proofs.Ytngkmlchblgmeaa

namespace Go.Proofs.Ytngkmlchblgmeaa
open Go.RowKit Tri

theorem and16 (m : Nat) (hm : m < 4611686018427387904) : bits .and .i64 (m : Int) 65535 = ((m % 65536 : Nat) : Int) := by
  have h2 : m &&& 65535 = m % 65536 := Nat.and_two_pow_sub_one_eq_mod m 16
  show IntKind.i64.wrap ((BitVec.ofInt 64 (m : Int) &&& BitVec.ofInt 64 ((65535 : Nat) : Int)).toNat : Int) = _
  rw [BitVec.toNat_and, ofInt_u64 _ (by omega), ofInt_u64 65535 (by omega), h2, IntKind.wrap_i64]
  omega
theorem run_eq_3 (t : Nat) (ht : Try.prog.underlying t = some (.array 3 3)) (a b c x y z : Int) (w : World) :
    (Op.equalIn 10000 t (.agg #[.int .i64 a, .int .i64 b, .int .i64 c]) (.agg #[.int .i64 x, .int .i64 y, .int .i64 z])).run Try.prog w = .ok (decide (a = x ∧ b = y ∧ c = z)) w := by
  have hsz : ∀ w, (sizeOf 3).run Try.prog w = .ok 1 w := by intro w; kernel_rfl
  rw [Op.equalIn]
  have p0 : ∀ u v r : Int, ∀ w, (part 3 #[.int .i64 u, .int .i64 v, .int .i64 r] 0).run Try.prog w = .ok (.int .i64 u) w := fun _ _ _ _ => by kernel_rfl
  have p1 : ∀ u v r : Int, ∀ w, (part 3 #[.int .i64 u, .int .i64 v, .int .i64 r] 1).run Try.prog w = .ok (.int .i64 v) w := fun _ _ _ _ => by kernel_rfl
  have p2 : ∀ u v r : Int, ∀ w, (part 3 #[.int .i64 u, .int .i64 v, .int .i64 r] 2).run Try.prog w = .ok (.int .i64 r) w := fun _ _ _ _ => by kernel_rfl
  have pe : ∀ u v : Int, ∀ w, (Op.equalIn 9999 3 (.int .i64 u) (.int .i64 v)).run Try.prog w = .ok (u == v) w := fun u v w => run_equalIn_int w 9998 3 .i64 .i64 u v Try.underlying3
  simp only [Sem.run_bind, run_underlying ht, Result.andThen_ok, hsz, Std.Legacy.Range.forIn_eq_forIn_range', Std.Legacy.Range.size, Nat.sub_zero, Nat.add_sub_cancel, Nat.div_one]
  by_cases h1 : a = x
  · by_cases h2 : b = y
    · by_cases h3 : c = z
      · simp [List.range', p0, p1, p2, pe, h1, h2, h3]
      · simp [List.range', p0, p1, p2, pe, h1, h2, h3]
    · simp [List.range', p0, p1, p2, pe, h1, h2]
  · simp [List.range', p0, p1, p2, pe, h1]

def recOk (k s n v : Int) : Bool := decide (0 ≤ k ∧ k ≤ 127) && (decide (0 ≤ s ∧ s ≤ 3) && (decide (0 ≤ n ∧ n ≤ 65535) && decide (0 ≤ v ∧ v ≤ 281474976710655)))
set_option maxHeartbeats 2000000 in
set_option maxRecDepth 100000 in
theorem rec_Right (k s n v : Int) (w : World) :
    Calls Try.prog 66 #[.agg #[.int .i64 k, .int .i64 s, .int .i64 n, .int .i64 v]] w fun e w' => e = .returned (.bool (recOk k s n v)) ∧ Below w.heap.size w w' := by
  (go_enter Try.func66, Try.ntmps66; try simp only [List.append])
  go_wp2_with ((with_reducible refine wpList_unguard ?_ ?_); (focus rfl))
  have hb0 : Below w.heap.size w (w.alloc (.cells #[.int .i64 k, .int .i64 s, .int .i64 n, .int .i64 v] 37)) := (Below.refl _ _).alloc (Nat.le_refl _) _
  generalize hT : w.alloc (.cells #[.int .i64 k, .int .i64 s, .int .i64 n, .int .i64 v] 37) = w1 at *
  have hk1 : w1.cell? ⟨w.heap.size, 0, none⟩ = some (.int .i64 k) := by rw [← hT]; simp [go_sem]
  have hs1 : w1.cell? ⟨w.heap.size, 1, none⟩ = some (.int .i64 s) := by rw [← hT]; simp [go_sem]
  have hn1 : w1.cell? ⟨w.heap.size, 2, none⟩ = some (.int .i64 n) := by rw [← hT]; simp [go_sem]
  have hv1 : w1.cell? ⟨w.heap.size, 3, none⟩ = some (.int .i64 v) := by rw [← hT]; simp [go_sem]
  clear hT
  refine Calls.mono (rec_within k 127 _) ?_
  rintro e w' ⟨rfl, rfl⟩
  by_cases hk : 0 ≤ k ∧ k ≤ 127
  · rw [decide_eq_true hk]
    go_wp2_with ((with_reducible refine wpList_unguard ?_ ?_); (focus rfl))
    refine Calls.mono (rec_within s 3 _) ?_
    rintro e w' ⟨rfl, rfl⟩
    by_cases hs : 0 ≤ s ∧ s ≤ 3
    · rw [decide_eq_true hs]
      go_wp2_with ((with_reducible refine wpList_unguard ?_ ?_); (focus rfl))
      refine Calls.mono (rec_within n 65535 _) ?_
      rintro e w' ⟨rfl, rfl⟩
      by_cases hn : 0 ≤ n ∧ n ≤ 65535
      · rw [decide_eq_true hn]
        go_wp2_with ((with_reducible refine wpList_unguard ?_ ?_); (focus rfl))
        refine Calls.mono (rec_within v 281474976710655 _) ?_
        rintro e w' ⟨rfl, rfl⟩
        by_cases hv : 0 ≤ v ∧ v ≤ 281474976710655
        · rw [decide_eq_true hv]
          go_wp2_with ((with_reducible refine wpList_unguard ?_ ?_); (focus rfl))
          go_ret
          refine ⟨?_, hb0⟩
          unfold recOk; rw [decide_eq_true hk, decide_eq_true hs, decide_eq_true hn, decide_eq_true hv]; rfl
        · rw [decide_eq_false hv]
          go_wp2_with ((with_reducible refine wpList_unguard ?_ ?_); (focus rfl))
          go_ret
          refine ⟨?_, hb0⟩
          unfold recOk; rw [decide_eq_true hk, decide_eq_true hs, decide_eq_true hn, decide_eq_false hv]; simp
      · rw [decide_eq_false hn]
        go_wp2_with ((with_reducible refine wpList_unguard ?_ ?_); (focus rfl))
        go_ret
        refine ⟨?_, hb0⟩
        unfold recOk; rw [decide_eq_true hk, decide_eq_true hs, decide_eq_false hn]; simp
    · rw [decide_eq_false hs]
      go_wp2_with ((with_reducible refine wpList_unguard ?_ ?_); (focus rfl))
      go_ret
      refine ⟨?_, hb0⟩
      unfold recOk; rw [decide_eq_true hk, decide_eq_false hs]; simp
  · rw [decide_eq_false hk]
    go_wp2_with ((with_reducible refine wpList_unguard ?_ ?_); (focus rfl))
    go_ret
    refine ⟨?_, hb0⟩
    unfold recOk; rw [decide_eq_false hk]; simp
end Go.Proofs.Ytngkmlchblgmeaa

namespace Go.Proofs.Ytngkmlchblgmeaa
open Go.RowKit Tri

theorem recL_lt (k s n v : Nat) : ∀ y ∈ recL k s n v, y < 256 := by
  intro y hy
  unfold recL at hy
  simp only [List.mem_append] at hy
  rcases hy with (((h | h) | h) | h) | h <;> exact putB_lt _ _ y h
theorem recL_len (k s n v : Nat) : (recL k s n v).length = 12 := by unfold recL; simp [putB_length]
set_option maxHeartbeats 4000000 in
set_option maxRecDepth 100000 in
theorem rec_Put (w0 : World) (b k s n v : Nat) (w : World) (K : KeepsC w0 b w) (hk : k ≤ 127) (hs : s ≤ 3) (hn : n ≤ 65535) (hv : v ≤ 281474976710655) :
    Calls Try.prog 78 #[.pointer (some ⟨b, 0, none⟩), .agg #[.int .i64 k, .int .i64 s, .int .i64 n, .int .i64 v]] w fun e w' => e = .returned (.tuple #[.string (ofB (recP k s n v)), .int .i64 0]) ∧ KeepsC w0 b w' := by
  have hok : recOk (k : Int) s n v = true := by unfold recOk; simp; omega
  have K1 := hid (K.alloc (.cells #[.int .i64 k, .int .i64 s, .int .i64 n, .int .i64 v] 37))
  (go_enter Try.func78, Try.ntmps78; try simp only [List.append])
  go_wp2_with ((with_reducible refine wpList_unguard ?_ ?_); (focus rfl))
  have hk1 : (w.alloc (.cells #[.int .i64 k, .int .i64 s, .int .i64 n, .int .i64 v] 37)).cell? ⟨w.heap.size, 0, none⟩ = some (.int .i64 k) := by simp [go_sem]
  have hs1 : (w.alloc (.cells #[.int .i64 k, .int .i64 s, .int .i64 n, .int .i64 v] 37)).cell? ⟨w.heap.size, 1, none⟩ = some (.int .i64 s) := by simp [go_sem]
  have hn1 : (w.alloc (.cells #[.int .i64 k, .int .i64 s, .int .i64 n, .int .i64 v] 37)).cell? ⟨w.heap.size, 2, none⟩ = some (.int .i64 n) := by simp [go_sem]
  have hv1 : (w.alloc (.cells #[.int .i64 k, .int .i64 s, .int .i64 n, .int .i64 v] 37)).cell? ⟨w.heap.size, 3, none⟩ = some (.int .i64 v) := by simp [go_sem]
  generalize w.alloc (.cells #[.int .i64 k, .int .i64 s, .int .i64 n, .int .i64 v] 37) = w1 at *
  refine Calls.mono (rec_Right k s n v w1) ?_
  rintro e w2 ⟨rfl, hb⟩
  have K2 := hid (K1.out.below hb)
  have hk2 : w2.cell? ⟨w.heap.size, 0, none⟩ = some (.int .i64 k) := by rw [hb.cell (p := ⟨w.heap.size, 0, none⟩) (block_lt_of_cell hk1)]; exact hk1
  have hs2 : w2.cell? ⟨w.heap.size, 1, none⟩ = some (.int .i64 s) := by rw [hb.cell (p := ⟨w.heap.size, 1, none⟩) (block_lt_of_cell hs1)]; exact hs1
  have hn2 : w2.cell? ⟨w.heap.size, 2, none⟩ = some (.int .i64 n) := by rw [hb.cell (p := ⟨w.heap.size, 2, none⟩) (block_lt_of_cell hn1)]; exact hn1
  have hv2 : w2.cell? ⟨w.heap.size, 3, none⟩ = some (.int .i64 v) := by rw [hb.cell (p := ⟨w.heap.size, 3, none⟩) (block_lt_of_cell hv1)]; exact hv1
  clear hb hk1 hs1 hn1 hv1 K1
  rw [hok]
  go_wp2_with ((with_reducible refine wpList_unguard ?_ ?_); (focus rfl))
  clear hk2 hs2 hn2 hv2
  have hL : cellsP (w2.alloc (.cells #[.int .i64 1, .int .i64 k, .int .i64 1, .int .i64 s, .int .i64 2, .int .i64 n, .int .i64 6, .int .i64 v, .int .i64 2, .int .i64 0] 174)) (some ⟨w2.heap.size, 0, none⟩) [(1, k), (1, s), (2, n), (6, v), (2, 0)] := by
    intro i hi
    have hi5 : i < 5 := hi
    rcases (show i = 0 ∨ i = 1 ∨ i = 2 ∨ i = 3 ∨ i = 4 by omega) with rfl | rfl | rfl | rfl | rfl <;> exact ⟨w2.heap.size, 0, rfl, by simp [go_sem], by simp [go_sem]⟩
  have K3 := hid (K2.out.alloc (.cells #[.int .i64 1, .int .i64 k, .int .i64 1, .int .i64 s, .int .i64 2, .int .i64 n, .int .i64 6, .int .i64 v, .int .i64 2, .int .i64 0] 174))
  have hB := rec_join (some ⟨w2.heap.size, 0, none⟩) 5 5 [(1, k), (1, s), (2, n), (6, v), (2, 0)] _ rfl hL (by
    intro q hq
    simp only [List.mem_cons, List.not_mem_nil, or_false] at hq
    rcases hq with rfl | rfl | rfl | rfl | rfl <;> simp <;> omega) (by simp)
  rw [show joinL [(1, k), (1, s), (2, n), (6, v), (2, 0)] = recL k s n v from by simp [joinL, recL]] at hB
  generalize w2.alloc (.cells #[.int .i64 1, .int .i64 k, .int .i64 1, .int .i64 s, .int .i64 2, .int .i64 n, .int .i64 6, .int .i64 v, .int .i64 2, .int .i64 0] 174) = w3 at *
  clear hL K2
  refine Calls.mono hB ?_
  rintro e w4 ⟨rfl, hb⟩
  have K4 := hid (K3.out.below hb)
  clear hB K3 hb
  have hlt := hid (recL_lt k s n v)
  have hln := recL_len k s n v
  have hP : Hid (recP k s n v = recL k s n v ++ putB 4 (recSum (recL k s n v))) := rfl
  generalize hPP : recP k s n v = P at *
  have HPP := hid hPP
  clear hPP
  generalize recL k s n v = J at *
  go_wp2_with ((with_reducible refine wpList_unguard ?_ ?_); (focus rfl))
  refine Calls.mono (crc_SumK w0 b _ _ _ [ofB J] #[.string (ofB J)] w4 _ K4.out rfl rfl rfl (by simp) (by intro s hs; simp at hs; subst hs; rw [ofB_size]; omega)) ?_
  rintro e w5 ⟨rfl, K5⟩
  have K5 := hid K5
  have hsb : lb [ofB J] = J := by unfold lb; simp [sb_ofB _ hlt.out]
  rw [hsb]
  have hS : Hid ((csum J : Nat) < 2 ^ 32) := csum_lt _ hlt.out
  have hm : min (csum J : Int) 4294967294 = ((recSum J : Nat) : Int) := by unfold recSum; omega
  have hq : recSum J < 2 ^ 32 := by unfold recSum; omega
  clear K4 hsb
  go_wp2_with ((with_reducible refine wpList_unguard ?_ ?_); (focus rfl))

  clear hm
  generalize recSum J = q at *
  have hL : cellsP (w5.alloc (.cells #[.int .i64 4, .int .i64 q] 174)) (some ⟨w5.heap.size, 0, none⟩) [(4, q)] := by
    intro i hi
    have hi5 : i < 1 := hi
    rcases (show i = 0 by omega) with rfl
    exact ⟨w5.heap.size, 0, rfl, by simp [go_sem], by simp [go_sem]⟩
  have K6 := hid (K5.out.alloc (.cells #[.int .i64 4, .int .i64 q] 174))
  have hB := rec_join (some ⟨w5.heap.size, 0, none⟩) 1 1 [(4, q)] _ rfl hL (by
    intro r hr
    simp only [List.mem_cons, List.not_mem_nil, or_false] at hr
    subst hr
    simp; omega) (by simp)
  rw [show joinL [(4, q)] = putB 4 q from by simp [joinL]] at hB
  generalize w5.alloc (.cells #[.int .i64 4, .int .i64 q] 174) = w6 at *
  clear hL K5
  refine Calls.mono hB ?_
  rintro e w7 ⟨rfl, hb⟩
  have K7 := hid (K6.out.below hb)
  clear hB K6 hb
  have hpl := putB_length 4 q
  generalize putB 4 q = y at *
  have hsz : (ofB J).size + (ofB y).size ≤ 9223372036854775807 := by rw [ofB_size, ofB_size]; omega
  have hadd : ∀ w', (Op.stringOp .add (ofB J) (ofB y)).run Try.prog w' = .ok (.string (ofB J ++ ofB y)) w' := fun w' => run_string_add_sum _ _ _ hsz
  have hcat : Hid (ofB J ++ ofB y = ofB P) := by show _ = _; rw [hP.out, ofB_append]
  clear hsz
  go_wp2_with ((with_reducible refine wpList_unguard ?_ ?_); (focus rfl))
  refine bodyPost_ret (v := .tuple #[.string (ofB P), .int .i64 0]) (by rw [← hcat.out]; simp [results, Try.results78, go_sem]) rfl ⟨by rw [HPP.out], K7.out⟩
set_option maxHeartbeats 4000000 in
set_option maxRecDepth 100000 in
theorem rec_Put_bad (w0 : World) (b : Nat) (k s n v : Int) (w : World) (K : KeepsC w0 b w) (hok : recOk k s n v = false) :
    Calls Try.prog 78 #[.pointer (some ⟨b, 0, none⟩), .agg #[.int .i64 k, .int .i64 s, .int .i64 n, .int .i64 v]] w fun e w' => e = .returned (.tuple #[.string ⟨#[]⟩, .int .i64 1]) ∧ KeepsC w0 b w' := by
  have K1 := hid (K.alloc (.cells #[.int .i64 k, .int .i64 s, .int .i64 n, .int .i64 v] 37))
  (go_enter Try.func78, Try.ntmps78; try simp only [List.append])
  go_wp2_with ((with_reducible refine wpList_unguard ?_ ?_); (focus rfl))
  generalize w.alloc (.cells #[.int .i64 k, .int .i64 s, .int .i64 n, .int .i64 v] 37) = w1 at *
  refine Calls.mono (rec_Right k s n v w1) ?_
  rintro e w2 ⟨rfl, hb⟩
  have K2 := hid (K1.out.below hb)
  clear hb K1
  rw [hok]
  go_wp2_with ((with_reducible refine wpList_unguard ?_ ?_); (focus rfl))
  refine bodyPost_ret (v := .tuple #[.string ⟨#[]⟩, .int .i64 1]) (by simp [results, Try.results78, go_sem]) rfl ⟨rfl, K2.out⟩
end Go.Proofs.Ytngkmlchblgmeaa

namespace Go.Proofs.Ytngkmlchblgmeaa
open Go.RowKit

theorem cellsI.nil (w : World) (p : Option Addr) : cellsI w p [] := fun i hi => by simp at hi
theorem cellsI.alloc {w : World} {p : Option Addr} {l : List Nat} (h : cellsI w p l) (o : Obj) : cellsI (w.alloc o) p l := by
  intro i hi
  obtain ⟨a, f, e, hc⟩ := h i hi
  exact ⟨a, f, e, by rw [World.cell?_alloc_lt _ _ _ (block_lt_of_cell hc)]; exact hc⟩
theorem cellsI.below {w w' : World} {p : Option Addr} {l : List Nat} (h : cellsI w p l) (hb : Below w.heap.size w w') : cellsI w' p l := by
  intro i hi
  obtain ⟨a, f, e, hc⟩ := h i hi
  exact ⟨a, f, e, by rw [hb.cell (p := ⟨a, f + i, none⟩) (block_lt_of_cell hc)]; exact hc⟩
theorem cellsI.take {w : World} {p : Option Addr} {l : List Nat} (h : cellsI w p l) (k : Nat) : cellsI w p (l.take k) := by
  intro i hi
  rw [List.length_take] at hi
  obtain ⟨a, f, e, hc⟩ := h i (by omega)
  refine ⟨a, f, e, ?_⟩
  rw [hc]
  simp only [List.getD_eq_getElem?_getD, List.getElem?_take]
  rw [if_pos (by omega)]
/-- A slice of ints that the call has made. -/
def ownsI (w : World) (base : Nat) (v : Value) (l : List Nat) : Prop := w.ownsRow base 3 1 v l.length (l.map fun x => Value.int .i64 (x : Nat))
theorem ownsI.cells {w : World} {base : Nat} {v : Value} {l : List Nat} (h : ownsI w base v l) : ∃ p c, v = .slice p l.length c ∧ l.length ≤ c ∧ cellsI w p l := by
  have h' := h
  unfold ownsI at h'
  rcases h.2 with ⟨rfl, h0⟩ | ⟨g, cap, cur, rfl, _, _, hle, _, _, _⟩
  · refine ⟨none, 0, by rw [h0], by omega, ?_⟩
    rw [List.eq_nil_of_length_eq_zero h0]; exact cellsI.nil _ _
  · refine ⟨_, _, rfl, hle, ?_⟩
    intro i hi
    refine ⟨_, _, rfl, ?_⟩
    rw [Nat.zero_add, h'.cellAt i (by omega), List.getElem?_map, List.getElem?_eq_getElem hi]
    simp [hi]
theorem Try.infoI : (Try.prog.info? 3).map (fun i => (i.zero, i.size, i.bytes)) = some (some (.int .i64 0), 1, 8) := by kernel_rfl
/-- A row of numbers that the call owns. -/
def rowK (w : World) (base : Nat) (e : TypeId) (k : IntKind) (v : Value) (l : List Nat) : Prop := w.ownsRow base e 1 v l.length (l.map fun x => Value.int k (x : Nat))
theorem wpList_push {P : Program} {wr : World} {ops : Array Oper} {rest : List Oper} {o : Oper} {a : Act} {Q : Exit → Act → World → Prop} (hgd : o.guard = none) (s x : Operand) (t : TypeId)
    (ho : o.op = .call { callee := .builtin .append, args := #[s, x], argTypes := #[t, t] })
    (base : Nat) (e : TypeId) (i : TypeInfo) (k : IntKind) (bytes : Nat) (ht : P.underlying t = some (.slice e)) (hi : P.info? e = some i) (hz : i.zero = some (.int k 0))
    (hsize : i.size = 1) (hby : i.bytes = bytes) (hb8 : bytes ≤ 8)
    (v : Value) (l : List Nat) (y : Nat) (hown : rowK wr base e k v l) (hs : a.eval s = v)
    (g : Nat) (hx : a.eval x = .slice (some ⟨g, 0, none⟩) 1 1) (hg : g = wr.heap.size) (hlen : l.length ≤ 1000000) (hbase : base ≤ wr.heap.size)
    (h : ∀ v' w', rowK w' base e k v' (l ++ [y]) → Below base wr w' → wpList P ops Q rest (a.put o.dst v') w') :
    wpList P ops Q (o :: rest) a (wr.alloc (.cells #[.int k (y : Nat)] e)) := by
  subst hg
  refine wpList_append_own (wr.alloc (.cells #[.int k (y : Nat)] e)) hgd s x t ho base e i (.int k 0) 1 bytes ht hi hz hsize hby rfl (by decide) v l.length (l.map fun x => Value.int k (x : Nat)) hs (World.ownsRow.alloc hown _)
    ⟨wr.heap.size, 0, none⟩ 1 1 [Value.int k (y : Nat)] hx rfl ?_ ?_ ?_ ?_ ?_ ?_
  · intro j u hj
    match j with
    | 0 =>
      simp only [List.getElem?_cons_zero, Option.some.injEq] at hj
      subst hj
      exact World.cell?_alloc_new wr #[.int k (y : Nat)] e 0
    | j + 1 => simp at hj
  · intro u hu; simp only [List.mem_singleton] at hu; subst hu; rfl
  · unfold maxLen; omega
  · calc (l.length + 1) * bytes ≤ (l.length + 1) * 8 := Nat.mul_le_mul_left _ hb8
      _ ≤ _ := by omega
  · simp; omega
  · intro v' w' h2 h3 _
    refine h v' w' ?_ ?_
    · unfold rowK; rw [List.length_append, List.map_append]; exact h2
    · have hb0 : Below base wr (wr.alloc (.cells #[.int k (y : Nat)] e)) := ((Below.refl _ _).alloc (Nat.le_refl _) _).mono hbase
      refine hb0.grown h3 (by simp; omega) ?_
      intro b hb
      rcases hown.2 with ⟨h4, _⟩ | ⟨g', cap, cur, h4, h5, _⟩
      · rw [h4] at hb; simp [Value.ownBlock] at hb
      · rw [h4] at hb; simp only [Value.ownBlock, Option.some.injEq] at hb; omega
end Go.Proofs.Ytngkmlchblgmeaa

namespace Go.Proofs.Ytngkmlchblgmeaa
open Go.RowKit

set_option maxHeartbeats 400000 in
theorem num_wrong (n : Nat) (w : World) (h1 : 1 ≤ n) (h7 : n ≤ 7) : Calls Try.prog 124 #[.int .i64 n] w fun e w' => e = .returned (.bool false) ∧ w = w' := by
  have e1 : decide ((n : Int) < 1) = false := decide_eq_false (by omega)
  have e2 : decide (7 < (n : Int)) = false := decide_eq_false (by omega)
  go_enter Try.func124, Try.ntmps124
  go_wp2_with ((with_reducible refine wpList_unguard ?_ ?_); (focus rfl))
  go_ret
  exact ⟨rfl, rfl⟩
def sizesL (l : List Nat) : Prop := ∀ x ∈ l, 1 ≤ x ∧ x ≤ 7
theorem sizesL.at {l : List Nat} (h : sizesL l) (k : Nat) (hk : k < l.length) : 1 ≤ l.getD k 0 ∧ l.getD k 0 ≤ 7 := by
  apply h
  rw [List.getD_eq_getElem?_getD, List.getElem?_eq_getElem hk]
  exact List.getElem_mem _
set_option maxHeartbeats 400000 in
set_option maxRecDepth 100000 in
theorem sl_IndexFuncI (p : Option Addr) (n c : Nat) (l : List Nat) (w : World) (hn : n = l.length) (hp : cellsI w p l) (hs : sizesL l) (hl : l.length ≤ 1000000) :
    Calls Try.prog 115 #[.slice p n c, .func (.func 124) #[] #[]] w
      fun e w' => e = .returned (.int .i64 (-1)) ∧ w = w' := by
  subst hn
  have HP := hid hp
  have HS := hid hs
  clear hp hs
  go_enter Try.func115, Try.ntmps115
  go_wp2
  go_loop [8] (fun i => ∃ k : Nat, k ≤ l.length ∧ i = .int .i64 k) (fun i => l.length - (intOf i).toNat)
  case atStart => exact ⟨0, Nat.zero_le _, rfl⟩
  case round =>
    obtain ⟨k, hk, rfl⟩ := hrel
    by_cases hlt : k < l.length
    · obtain ⟨a, o, rfl, hc⟩ := HP.out k hlt
      have hsk := HS.out.at k hlt
      generalize l.getD k 0 = x at *
      go_wp2_with fail
      refine Calls.mono (num_wrong x w hsk.1 hsk.2) ?_; rintro e w' ⟨rfl, rfl⟩
      go_wp2
      go_round
      case rel => exact ⟨k + 1, by omega, by go_num⟩
      case measure => simp [intOf]; omega
    · go_wp2
      go_ret
      exact ⟨rfl, rfl⟩
set_option maxHeartbeats 400000 in
set_option maxRecDepth 100000 in
theorem sl_ContainsFuncI (p : Option Addr) (n c : Nat) (l : List Nat) (w : World) (hn : n = l.length) (hp : cellsI w p l) (hs : sizesL l) (hl : l.length ≤ 1000000) :
    Calls Try.prog 95 #[.slice p n c, .func (.func 124) #[] #[]] w
      fun e w' => e = .returned (.bool false) ∧ w = w' := by
  subst hn
  have HPP := hid hp
  have HS := hid hs
  clear hp hs
  go_enter Try.func95, Try.ntmps95
  go_wp2_with ((with_reducible refine wpList_unguard ?_ ?_); (focus rfl))
  refine Calls.mono (sl_IndexFuncI p _ c l w rfl HPP.out HS.out hl) ?_; rintro e w' ⟨rfl, rfl⟩
  go_wp2_with ((with_reducible refine wpList_unguard ?_ ?_); (focus rfl))
  go_ret
  exact ⟨rfl, rfl⟩
def sumN (l : List Nat) : Nat := l.foldl (· + ·) 0
theorem sumN_take (l : List Nat) (k : Nat) (h : k < l.length) : sumN (l.take (k + 1)) = sumN (l.take k) + l.getD k 0 := by
  unfold sumN
  rw [List.take_succ_eq_append_getElem h, List.foldl_append]
  simp [h]
theorem sumN_le (l : List Nat) (h : sizesL l) (k : Nat) (hk : k ≤ l.length) : sumN (l.take k) ≤ 7 * k := by
  induction k with
  | zero => simp [sumN]
  | succ k ih =>
    rw [sumN_take l k hk]
    have := ih (by omega)
    have := (h.at k hk).2
    omega
set_option maxHeartbeats 400000 in
set_option maxRecDepth 100000 in
theorem num_Size (p : Option Addr) (n c : Nat) (l : List Nat) (w : World) (hn : n = l.length) (hp : cellsI w p l) (hs : sizesL l) (hl : l.length ≤ 1000000) :
    Calls Try.prog 125 #[.slice p n c] w fun e w' => e = .returned (.int .i64 (sumN l : Nat)) ∧ w = w' := by
  subst hn
  have HPP := hid hp
  have HS := hid hs
  clear hp hs
  go_enter Try.func125, Try.ntmps125
  go_wp2_with ((with_reducible refine wpList_unguard ?_ ?_); (focus rfl))
  refine Calls.mono (sl_ContainsFuncI p _ c l w rfl HPP.out HS.out hl) ?_; rintro e w' ⟨rfl, rfl⟩
  go_wp2_with ((with_reducible refine wpList_unguard ?_ ?_); (focus rfl))
  go_loop [10, 3] (fun i s => ∃ k : Nat, k ≤ l.length ∧ i = .int .i64 k ∧ s = .int .i64 (sumN (l.take k) : Nat)) (fun i _ => l.length - (intOf i).toNat)
  case atStart => exact ⟨0, Nat.zero_le _, rfl, rfl⟩
  case round =>
    obtain ⟨k, hk, rfl, rfl⟩ := hrel
    by_cases hlt : k < l.length
    · obtain ⟨a, o, rfl, hc⟩ := HPP.out k hlt
      have hsk := HS.out.at k hlt
      have hsl := sumN_le l HS.out k hk
      have ht := hid (sumN_take l k hlt)

      generalize sumN (l.take k) = t at *
      generalize l.getD k 0 = x at *
      go_wp2_with ((with_reducible refine wpList_unguard ?_ ?_); (focus rfl))
      go_round
      case rel => exact ⟨k + 1, by omega, by go_num, by have := ht.out; go_num⟩
      case measure => simp [intOf]; omega
    · have hT : Hid (l.take k = l) := by show _ = _; exact List.take_of_length_le (by omega)
      go_wp2_with ((with_reducible refine wpList_unguard ?_ ?_); (focus rfl))
      go_ret
      exact ⟨by rw [hT.out]; rfl, rfl⟩
end Go.Proofs.Ytngkmlchblgmeaa

namespace Go.Proofs.Ytngkmlchblgmeaa
open Go.RowKit

theorem foldl_add (l : List Nat) (c : Nat) : l.foldl (· + ·) c = c + l.foldl (· + ·) 0 := by
  induction l generalizing c with
  | nil => simp
  | cons x l ih => rw [List.foldl_cons, List.foldl_cons, ih (c + x), ih (0 + x)]; omega
theorem sumN_append (a b : List Nat) : sumN (a ++ b) = sumN a + sumN b := by unfold sumN; rw [List.foldl_append, foldl_add]
theorem sumN_take_le (l : List Nat) (k : Nat) : sumN (l.take k) ≤ sumN l := by
  have h := sumN_append (l.take k) (l.drop k)
  rw [List.take_append_drop] at h
  omega
/-- The number that bytes are, the highest first. -/
def numB (l : List Nat) : Nat := l.foldl (fun n c => n * 256 + c) 0
theorem numB_snoc (l : List Nat) (c : Nat) : numB (l ++ [c]) = numB l * 256 + c := by unfold numB; rw [List.foldl_append]; rfl
theorem numB_lt (l : List Nat) (h : ∀ x ∈ l, x < 256) (j : Nat) (hj : j ≤ l.length) : numB (l.take j) < 256 ^ j := by
  induction j with
  | zero => simp [numB]
  | succ j ih =>
    have h1 := ih (by omega)
    rw [List.take_succ_eq_append_getElem (by omega), numB_snoc, Nat.pow_succ]
    have h2 := h _ (List.getElem_mem (show j < l.length by omega))
    omega
def takeN (S L : List Nat) (k : Nat) : List Nat := (List.range k).map fun j => numB ((S.drop (sumN (L.take j))).take (L.getD j 0))
theorem takeN_length (S L : List Nat) (k : Nat) : (takeN S L k).length = k := by simp [takeN]
theorem takeN_succ (S L : List Nat) (k : Nat) : takeN S L (k + 1) = takeN S L k ++ [numB ((S.drop (sumN (L.take k))).take (L.getD k 0))] := by
  unfold takeN; rw [List.range_succ, List.map_append]; rfl
theorem or_shl8 (a x : Nat) (hx : x < 256) (ha : a < 281474976710656) : bits .or .i64 (wrap64 ((a : Int) * 2 ^ 8)) (x : Int) = ((a * 256 + x : Nat) : Int) := by
  have h1 : wrap64 ((a : Int) * 2 ^ 8) = ((a <<< 8 : Nat) : Int) := by
    rw [Nat.shiftLeft_eq]
    have e2 : ((a * 2 ^ 8 : Nat) : Int) = (a : Int) * 2 ^ 8 := by simp
    rw [← e2]
    have : a * 2 ^ 8 < 2 ^ 62 := by omega
    generalize a * 2 ^ 8 = m at *
    unfold wrap64
    omega
  rw [h1]
  have h2 : a <<< 8 ||| x = a * 256 + x := by
    rw [← Nat.shiftLeft_add_eq_or_of_lt (i := 8) (by omega), Nat.shiftLeft_eq]
  have h3 : a <<< 8 < 2 ^ 62 := by rw [Nat.shiftLeft_eq]; omega
  show IntKind.i64.wrap ((BitVec.ofInt 64 ((a <<< 8 : Nat) : Int) ||| BitVec.ofInt 64 (x : Int)).toNat : Int) = _
  rw [BitVec.toNat_or, ofInt_u64 _ (by omega), ofInt_u64 x (by omega), h2, IntKind.wrap_i64]
  omega

/-- 'append(s, x)' as one operation. -/
theorem wp_push {P : Program} {wr : World} {o : Oper} {a : Act} {K : Act → World → Prop} {Q : Exit → Act → World → Prop} (s x : Operand) (t : TypeId)
    (ho : o.op = .call { callee := .builtin .append, args := #[s, x], argTypes := #[t, t] })
    (base : Nat) (e : TypeId) (i : TypeInfo) (k : IntKind) (bytes : Nat) (ht : P.underlying t = some (.slice e)) (hi : P.info? e = some i) (hz : i.zero = some (.int k 0))
    (hsize : i.size = 1) (hby : i.bytes = bytes) (hb8 : bytes ≤ 8)
    (v : Value) (l : List Nat) (y : Nat) (hown : rowK wr base e k v l) (hs : a.eval s = v)
    (g : Nat) (hx : a.eval x = .slice (some ⟨g, 0, none⟩) 1 1) (hc : wr.cell? ⟨g, 0, none⟩ = some (.int k (y : Nat))) (hlen : l.length ≤ 1000000) (hbase : base ≤ wr.heap.size)
    (h : ∀ v' w', rowK w' base e k v' (l ++ [y]) → Below base wr w' → K (a.put o.dst v') w') : o.wp P a wr K Q := by
  refine wp_append_own wr s x t ho base e i (.int k 0) 1 bytes ht hi hz hsize hby rfl (by decide) v l.length (l.map fun x => Value.int k (x : Nat)) hs hown
    ⟨g, 0, none⟩ 1 1 [Value.int k (y : Nat)] hx rfl ?_ ?_ ?_ ?_ hbase ?_
  · intro j u hj
    match j with
    | 0 =>
      simp only [List.getElem?_cons_zero, Option.some.injEq] at hj
      subst hj
      rw [show (⟨g, 0, none⟩ : Addr).add 0 = ⟨g, 0, none⟩ from by simp [Addr.add]]
      exact hc
    | j + 1 => simp at hj
  · intro u hu; simp only [List.mem_singleton] at hu; subst hu; rfl
  · unfold maxLen; omega
  · calc (l.length + 1) * bytes ≤ (l.length + 1) * 8 := Nat.mul_le_mul_left _ hb8
      _ ≤ _ := by omega
  · intro v' w' h2 h3 _
    refine h v' w' ?_ ?_
    · unfold rowK; rw [List.length_append, List.map_append]; exact h2
    · refine ((Below.refl _ wr).mono hbase).grown h3 hbase ?_
      intro b hb
      rcases hown.2 with ⟨h4, _⟩ | ⟨g', cap, cur, h4, h5, _⟩
      · rw [h4] at hb; simp [Value.ownBlock] at hb
      · rw [h4] at hb; simp only [Value.ownBlock, Option.some.injEq] at hb; omega
theorem step_push {P : Program} {wr : World} {ops : Array Oper} {o : Oper} {a : Act} {K : Act → World → Prop} {Q : Exit → Act → World → Prop} {E : Prop} (hgd : o.guard = none) (s x : Operand) (t : TypeId)
    (ho : o.op = .call { callee := .builtin .append, args := #[s, x], argTypes := #[t, t] })
    (base : Nat) (e : TypeId) (i : TypeInfo) (k : IntKind) (bytes : Nat) (ht : P.underlying t = some (.slice e)) (hi : P.info? e = some i) (hz : i.zero = some (.int k 0))
    (hsize : i.size = 1) (hby : i.bytes = bytes) (hb8 : bytes ≤ 8)
    (v : Value) (l : List Nat) (y : Nat) (hown : rowK wr base e k v l) (hs : a.eval s = v)
    (g : Nat) (hx : a.eval x = .slice (some ⟨g, 0, none⟩) 1 1) (hc : wr.cell? ⟨g, 0, none⟩ = some (.int k (y : Nat))) (hlen : l.length ≤ 1000000) (hbase : base ≤ wr.heap.size)
    (h : ∀ v' w', rowK w' base e k v' (l ++ [y]) → Below base wr w' → K (a.put o.dst v') w') : if Region.wanted o (yielded ops a.tmps) = true then Oper.wp P o a wr K Q else E := by
  have hw : Region.wanted o (yielded ops a.tmps) = true := by simp [Region.wanted, hgd]
  rw [if_pos hw]
  exact wp_push s x t ho base e i k bytes ht hi hz hsize hby hb8 v l y hown hs g hx hc hlen hbase h
theorem ownsI.belowI {w w' : World} {base : Nat} {v : Value} {l : List Nat} (h : ownsI w base v l) (hb : Below w.heap.size w w') : ownsI w' base v l := by
  obtain ⟨h2, h3⟩ := h
  refine ⟨h2, h3.imp id fun ⟨g, cap, cur, h4, h5, h6, h7⟩ => ⟨g, cap, cur, h4, h5, ?_, h7⟩⟩
  rw [hb.block g (Array.getElem?_eq_some_iff.1 h6).1]; exact h6
set_option maxHeartbeats 4000000 in
set_option maxRecDepth 100000 in
theorem num_Take (s : ByteArray) (p : Option Addr) (n c : Nat) (L : List Nat) (w : World) (hn : n = L.length) (hp : cellsI w p L) (hs : sizesL L) (hl : L.length ≤ 1000) (hz : sumN L ≤ s.size) (hsz : s.size ≤ 1000000) :
    Calls Try.prog 116 #[.string s, .slice p n c] w fun e w' => ∃ v, e = .returned (.tuple #[v, .int .i64 0]) ∧ ownsI w' w.heap.size v (takeN (sb s) L L.length) ∧ Below w.heap.size w w' := by
  subst hn
  have HP := hid hp
  have HS := hid hs
  clear hp hs
  obtain ⟨i0, hi, hz0, hz1, hz2⟩ := info_parts Try.infoI
  have hcv := fun (w : World) (s : ByteArray) => Lib.run_convert_string_bytes (P := Try.prog) w 9 111 5 s Try.underlying9 Try.underlying111 Try.underlying5
  have hd : decide ((s.size : Int) < (sumN L : Nat)) = false := decide_eq_false (by omega)
  have hd2 : decide (s.size < sumN L) = false := decide_eq_false (by omega)
  have HZ := hid hz
  clear hz
  (go_enter Try.func116, Try.ntmps116; try simp only [List.append])
  go_wp2_with ((with_reducible refine wpList_unguard ?_ ?_); (focus rfl))
  refine Calls.mono (sl_ContainsFuncI p _ c L w rfl HP.out HS.out (by omega)) ?_; rintro e w' ⟨rfl, rfl⟩
  go_wp2_with ((with_reducible refine wpList_unguard ?_ ?_); (focus rfl))
  refine Calls.mono (num_Size p _ c L w rfl HP.out HS.out (by omega)) ?_; rintro e w' ⟨rfl, rfl⟩
  go_wp2_with ((with_reducible refine wpList_unguard ?_ ?_); (focus rfl))
  clear hd hd2
  have hS0 : Hid (s.size = (sb s).length) := (sb_length s).symm
  have hSb := hid (sb_lt s)
  generalize hSS : sb s = S at *
  have HSS := hid hSS
  clear hSS
  go_loopw [23, 6, 0] (fun i v t wr => ∃ (k : Nat) (T : ByteArray), k ≤ L.length ∧ i = .int .i64 k ∧ t = .string T ∧ sb T = S.drop (sumN (L.take k)) ∧ ownsI wr w.heap.size v (takeN S L k) ∧ Below w.heap.size w wr) (fun i _ _ _ => L.length - (intOf i).toNat)
  case atStart => exact ⟨0, s, Nat.zero_le _, rfl, rfl, by rw [HSS.out]; simp [sumN], World.ownsRow_nil _ _ _ _, Below.refl _ _⟩
  case round =>
    obtain ⟨k, T, hk, rfl, rfl, hT, hO, hB⟩ := hrel
    have HT := hid hT
    have HO := hid hO
    have HB := hid hB
    clear hT hO hB
    by_cases hlt : k < L.length
    · obtain ⟨a, o, rfl, hc0⟩ := HP.out k hlt
      have hc : wr.cell? ⟨a, o + k, none⟩ = some (.int .i64 (L.getD k 0 : Nat)) := by
        rw [HB.out.cell (p := ⟨a, o + k, none⟩) (block_lt_of_cell hc0)]; exact hc0
      have hx := HS.out.at k hlt
      have hsum := sumN_take L k hlt
      have hle := sumN_take_le L (k + 1)
      have hTs : T.size = s.size - sumN (L.take k) := by rw [← sb_length, HT.out, List.length_drop, hS0.out]
      have hTx : L.getD k 0 ≤ T.size := by have := HZ.out; omega
      have hN : Hid (takeN S L (k + 1) = takeN S L k ++ [numB ((S.drop (sumN (L.take k))).take (L.getD k 0))]) := takeN_succ S L k
      have hU : Hid (sb (T.extract 0 (L.getD k 0)) = (S.drop (sumN (L.take k))).take (L.getD k 0)) := by show _ = _; rw [sb_extract, HT.out, Nat.sub_zero, List.drop_zero]
      have hUs : (T.extract 0 (L.getD k 0)).size = L.getD k 0 := by rw [← sb_length, hU.out, List.length_take, ← HT.out, sb_length]; omega
      have hV : Hid (sb (T.extract (L.getD k 0) T.size) = S.drop (sumN (L.take (k + 1)))) := by
        show _ = _
        rw [sb_extract, HT.out, List.drop_drop, hsum, List.take_of_length_le]
        rw [List.length_drop, ← hS0.out]; omega
      have hTb : T.size ≤ 1000000 := by omega
      have hkl : (takeN S L k).length ≤ 1000000 := by rw [takeN_length]; omega
      clear hc0 hsum hle hTs
      generalize hN2 : takeN S L (k + 1) = N2 at *
      have HN2 := hid hN2
      clear hN2
      generalize takeN S L k = N1 at *
      generalize sumN (L.take k) = s1 at *
      generalize L.getD k 0 = x at *
      have hxi : (x : Int) ≤ T.size := by omega
      go_wp2_with ((with_reducible refine wpList_unguard ?_ ?_); (focus rfl))
      have hUb := hid (sb_lt (T.extract 0 x))
      have hW := hid (bytes_below wr 5 (T.extract 0 x))
      have hcell := hid (Lib.bytesWorld_cell wr 5 (T.extract 0 x))
      have HO1 := hid (HO.out.belowI hW.out)
      have HB1 : Hid (Below w.heap.size w (Lib.bytesWorld wr 5 (T.extract 0 x))) := HB.out.trans (hW.out.mono HB.out.size)
      clear HO HB hW hc
      generalize Lib.bytesWorld wr 5 (T.extract 0 x) = W1 at *
      generalize T.extract 0 x = U at *
      generalize grownCap wr x 0 5 = cap at *
      generalize hbs : wr.heap.size = bs at *
      clear hbs
      go_loop [32, 9] (fun i r => ∃ j : Nat, j ≤ x ∧ i = .int .i64 j ∧ r = .int .i64 (numB ((sb U).take j) : Nat)) (fun i _ => x - (intOf i).toNat)
      case atStart => exact ⟨0, Nat.zero_le _, rfl, rfl⟩
      case round =>
        obtain ⟨j, hj, rfl, rfl⟩ := hrel
        have hUl : (sb U).length = x := by rw [sb_length, hUs]
        have hlt' := numB_lt (sb U) hUb.out j (by omega)
        by_cases hjl : j < x
        · have hcj := hcell.out j (by omega)
          rw [← sb_getD U j (by omega)] at hcj
          have hy : (sb U).getD j 0 < 256 := sb_lt U _ (getD_mem _ j (by rw [hUl]; exact hjl))
          have hnx : Hid (numB ((sb U).take (j + 1)) = numB ((sb U).take j) * 256 + (sb U).getD j 0) := by
            show _ = _; rw [take_snocN _ _ (by rw [hUl]; exact hjl), numB_snoc]
          have hq : numB ((sb U).take j) < 281474976710656 := by
            have h6 : 256 ^ j ≤ 256 ^ 6 := Nat.pow_le_pow_right (by omega) (by omega)
            have : 256 ^ 6 = 281474976710656 := by decide
            omega
          clear hlt'
          generalize (sb U).getD j 0 = y at *
          generalize numB ((sb U).take j) = q at *
          have hor0 := or_shl8 q y hy hq
          rw [show wrap64 ((q : Int) * 2 ^ 8) = (q : Int) * 256 from by unfold wrap64; omega] at hor0
          have hor := hid hor0
          clear hor0
          go_wp2_with ((with_reducible refine wpList_unguard ?_ ?_); (focus rfl))
          go_round
          case rel => exact ⟨j + 1, by omega, by go_num, by rw [hnx.out, hor.out]⟩
          case measure => simp [intOf]; omega
        · have hjx : j = x := by omega
          have hN3 : Hid (N2 = N1 ++ [numB ((sb U).take j)]) := by show _ = _; rw [hN.out, hU.out, hjx, List.take_of_length_le (l := (S.drop s1).take x) (by rw [List.length_take]; omega)]
          generalize numB ((sb U).take j) = q at *
          clear hlt' hjl hcell
          go_wp2_with ((with_reducible refine wpList_unguard ?_ ?_); (focus rfl))
          have hr1 : Below W1.heap.size W1 (W1.alloc (.cells #[.int .i64 q] 3)).drew := ((Below.refl _ _).alloc (Nat.le_refl _) _).drew
          have HO2 := hid (HO1.out.belowI hr1)
          have HB2 := hid (HB1.out.trans (hr1.mono HB1.out.size))
          have hc2 : Hid ((W1.alloc (.cells #[.int .i64 q] 3)).drew.cell? ⟨W1.heap.size, 0, none⟩ = some (.int .i64 q)) := by show _ = _; simp [go_sem]
          clear hr1
          go_region_law (refine step_push rfl (.tmp 42) (.tmp 44) 84 rfl w.heap.size 3 i0 .i64 8 Try.underlying84 hi hz0 hz1 hz2 (by decide) _ N1 q HO2.out (by simp [Act.eval, Act.put]) W1.heap.size (by simp [Act.eval, Act.put]) hc2.out hkl HB2.out.size ?_; intro v' w' hown' hbel)
          have hO' : Hid (ownsI w' w.heap.size v' (takeN S L (k + 1))) := by show ownsI _ _ _ _; rw [HN2.out, hN3.out]; exact hown'
          have hB' := hid (HB2.out.trans hbel)
          clear hown' hbel
          go_wp2_with ((with_reducible refine wpList_unguard ?_ ?_); (focus rfl))
          go_roundw
          case rel => exact ⟨k + 1, T.extract x T.size, by omega, by go_num, rfl, by rw [hV.out], hO'.out, hB'.out⟩
          case measure => simp [intOf] <;> omega
    · have hkL : k = L.length := by omega
      subst hkL
      go_wp2_with ((with_reducible refine wpList_unguard ?_ ?_); (focus rfl))
      refine bodyPost_ret (v := .tuple #[_, .int .i64 0]) (by simp [results, Try.results116, go_sem]; rfl) rfl ⟨_, rfl, by rw [HSS.out]; exact HO.out, HB.out⟩
end Go.Proofs.Ytngkmlchblgmeaa

namespace Go.Proofs.Ytngkmlchblgmeaa
open Go.RowKit Tri

def pgK (S : List Nat) : Nat := numB (S.take 1)
def pgS (S : List Nat) : Nat := numB ((S.drop 1).take 1)
def pgN (S : List Nat) : Nat := numB ((S.drop 2).take 2)
def pgV (S : List Nat) : Nat := numB ((S.drop 4).take 6)
theorem takeN_pg (S : List Nat) : takeN S [1, 1, 2, 6] 4 = [pgK S, pgS S, pgN S, pgV S] := by
  simp [takeN, List.range_succ, sumN, pgK, pgS, pgN, pgV]
def getOk (S : List Nat) : Bool := recOk (pgK S) (pgS S) (pgN S) (pgV S) && decide (recP (pgK S) (pgS S) (pgN S) (pgV S) = S)
theorem recOk_iff {k s n v : Nat} : recOk (k : Int) s n v = true ↔ k ≤ 127 ∧ s ≤ 3 ∧ n ≤ 65535 ∧ v ≤ 281474976710655 := by
  unfold recOk
  simp only [Bool.and_eq_true, decide_eq_true_eq]
  omega

/-- A block that holds a record. -/
def R4 (w : World) (B : Nat) (a b c d : Int) : Prop := w.heap[B]? = some (.cells #[.int .i64 a, .int .i64 b, .int .i64 c, .int .i64 d] 37)
theorem R4.lt {w : World} {B : Nat} {a b c d : Int} (h : R4 w B a b c d) : B < w.heap.size := (Array.getElem?_eq_some_iff.1 h).1
theorem R4.below {w w' : World} {B : Nat} {a b c d : Int} (h : R4 w B a b c d) (hb : Below w.heap.size w w') : R4 w' B a b c d := by
  unfold R4; rw [hb.block B h.lt]; exact h
theorem R4.c0 {w : World} {B : Nat} {a b c d : Int} (h : R4 w B a b c d) : w.cell? ⟨B, 0, none⟩ = some (.int .i64 a) := cell_of_row _ _ 0 _ _ _ h
theorem R4.c1 {w : World} {B : Nat} {a b c d : Int} (h : R4 w B a b c d) : w.cell? ⟨B, 1, none⟩ = some (.int .i64 b) := cell_of_row _ _ 1 _ _ _ h
theorem R4.c2 {w : World} {B : Nat} {a b c d : Int} (h : R4 w B a b c d) : w.cell? ⟨B, 2, none⟩ = some (.int .i64 c) := cell_of_row _ _ 2 _ _ _ h
theorem R4.c3 {w : World} {B : Nat} {a b c d : Int} (h : R4 w B a b c d) : w.cell? ⟨B, 3, none⟩ = some (.int .i64 d) := cell_of_row _ _ 3 _ _ _ h
theorem R4.free {w : World} {B : Nat} {a b c d : Int} (h : R4 w B a b c d) (i : Nat) : w.frozen? ⟨B, i, none⟩ = false := by
  unfold World.frozen?
  simp only
  rw [show w.heap[B]? = _ from h]
  simp
theorem R4.sets {w : World} {B : Nat} {a b c d : Int} (h : R4 w B a b c d) (k s n v : Int) :
    R4 ((((w.setCell ⟨B, 0, none⟩ (.int .i64 k)).setCell ⟨B, 1, none⟩ (.int .i64 s)).setCell ⟨B, 2, none⟩ (.int .i64 n)).setCell ⟨B, 3, none⟩ (.int .i64 v)) B k s n v := by
  have h0 := heap_setCell_same w B 0 _ _ (.int .i64 k) h
  have h1 := heap_setCell_same _ B 1 _ _ (.int .i64 s) h0
  have h2 := heap_setCell_same _ B 2 _ _ (.int .i64 n) h1
  have h3 := heap_setCell_same _ B 3 _ _ (.int .i64 v) h2
  unfold R4
  simpa using h3
theorem KeepsC.set {w0 w : World} {b : Nat} (h : KeepsC w0 b w) (a : Addr) (v : Value) (h0 : w0.heap.size ≤ a.block) (hb : b ≠ a.block) : KeepsC w0 b (w.setCell a v) := ⟨h.1.setCell h0 v, h.2.setCell a v hb⟩

def getRet (S : List Nat) (e : Ending) : Prop :=
  if getOk S then e = .returned (.tuple #[.agg #[.int .i64 (pgK S : Nat), .int .i64 (pgS S : Nat), .int .i64 (pgN S : Nat), .int .i64 (pgV S : Nat)], .bool true])
  else e = .returned (.tuple #[.agg #[.int .i64 0, .int .i64 0, .int .i64 0, .int .i64 0], .bool false])
set_option maxHeartbeats 4000000 in
set_option maxRecDepth 100000 in
theorem rec_Get (w0 : World) (b : Nat) (page : ByteArray) (w : World) (K : KeepsC w0 b w) (h10 : 10 ≤ page.size) (hsz : page.size ≤ 1000000) :
    Calls Try.prog 98 #[.pointer (some ⟨b, 0, none⟩), .string page] w fun e w' =>
      getRet (sb page) e ∧ KeepsC w0 b w' := by
  have hw0 : w0.heap.size ≤ w.heap.size := K.1.size
  have hbB : b < w.heap.size := K.2.lt
  have hR0 : R4 (w.alloc (.cells #[.int .i64 0, .int .i64 0, .int .i64 0, .int .i64 0] 37)) w.heap.size 0 0 0 0 := heap_alloc_new w _
  have K0 := K.alloc (.cells #[.int .i64 0, .int .i64 0, .int .i64 0, .int .i64 0] 37)
  have hs0 : (w.alloc (.cells #[.int .i64 0, .int .i64 0, .int .i64 0, .int .i64 0] 37)).heap.size = w.heap.size + 1 := by simp
  (go_enter Try.func98, Try.ntmps98; try simp only [List.append])
  go_wp2_with ((with_reducible refine wpList_unguard ?_ ?_); (focus rfl))
  generalize w.alloc (.cells #[.int .i64 0, .int .i64 0, .int .i64 0, .int .i64 0] 37) = w1 at *
  generalize w.heap.size = B at *
  rw [← hs0]
  have hL := cellsI.new w1 [1, 1, 2, 6] #[.int .i64 1, .int .i64 1, .int .i64 2, .int .i64 6] 3 rfl
  have hb1 : Below w1.heap.size w1 (w1.alloc (.cells #[.int .i64 1, .int .i64 1, .int .i64 2, .int .i64 6] 3)) := (Below.refl _ _).alloc (Nat.le_refl _) _
  have K1 := K0.below hb1
  have hR1 := hR0.below hb1
  clear hb1 K0 hR0 hs0
  generalize w1.alloc (.cells #[.int .i64 1, .int .i64 1, .int .i64 2, .int .i64 6] 3) = w2 at *
  have hT := num_Take page (some ⟨w1.heap.size, 0, none⟩) 4 4 [1, 1, 2, 6] w2 rfl hL (by intro x hx; simp at hx; omega) (by simp) (by simp [sumN]; omega) hsz
  rw [show [1, 1, 2, 6].length = 4 from rfl, takeN_pg] at hT
  clear hL
  refine Calls.mono hT ?_
  rintro e w3 ⟨v, rfl, hO, hb⟩
  have K3 := hid (K1.below hb)
  have hR3 := hid (hR1.below hb)
  clear hT K1 hR1 hb
  obtain ⟨q, cap, rfl, hcap, hcl⟩ := hO.cells
  obtain ⟨a0, o0, rfl, d0⟩ := hcl 0 (by simp)
  obtain ⟨a1, o1, e1, d1⟩ := hcl 1 (by simp)
  obtain ⟨a2, o2, e2, d2⟩ := hcl 2 (by simp)
  obtain ⟨a3, o3, e3, d3⟩ := hcl 3 (by simp)
  simp only [Option.some.injEq, Addr.mk.injEq, and_true] at e1 e2 e3
  obtain ⟨rfl, rfl⟩ := e1
  obtain ⟨rfl, rfl⟩ := e2
  obtain ⟨rfl, rfl⟩ := e3
  have hk : Hid (pgK (sb page) = pgK (sb page)) := rfl
  simp only [List.getD_cons_zero, List.getD_cons_succ, Nat.add_zero, List.length_cons, List.length_nil, Nat.zero_add] at d0 d1 d2 d3 hcap ⊢
  have hlen4 : Hid (4 ≤ cap) := hcap
  clear hO hcl hcap hk
  have HG : Hid (getOk (sb page) = (recOk (pgK (sb page)) (pgS (sb page)) (pgN (sb page)) (pgV (sb page)) && decide (recP (pgK (sb page)) (pgS (sb page)) (pgN (sb page)) (pgV (sb page)) = sb page))) := rfl
  generalize hGG : getOk (sb page) = G at *
  have HGG := hid hGG
  clear hGG
  generalize hHKk : pgK (sb page) = k at *
  have HKk := hid hHKk
  clear hHKk
  generalize hHKs : pgS (sb page) = sl at *
  have HKs := hid hHKs
  clear hHKs
  generalize hHKn : pgN (sb page) = no at *
  have HKn := hid hHKn
  clear hHKn
  generalize hHKv : pgV (sb page) = va at *
  have HKv := hid hHKv
  clear hHKv
  go_wp2_with ((with_reducible refine wpList_unguard ?_ ?_); (focus rfl))
  have g0 : (w3.alloc (.cells #[.int .i64 0, .int .i64 0, .int .i64 0, .int .i64 0] 37)).cell? ⟨a0, o0, none⟩ = some (.int .i64 k) := by rw [World.cell?_alloc_lt _ _ _ (block_lt_of_cell d0)]; exact d0
  have g1 : (w3.alloc (.cells #[.int .i64 0, .int .i64 0, .int .i64 0, .int .i64 0] 37)).cell? ⟨a0, o0 + 1, none⟩ = some (.int .i64 sl) := by rw [World.cell?_alloc_lt _ _ _ (block_lt_of_cell d1)]; exact d1
  have g2 : (w3.alloc (.cells #[.int .i64 0, .int .i64 0, .int .i64 0, .int .i64 0] 37)).cell? ⟨a0, o0 + 2, none⟩ = some (.int .i64 no) := by rw [World.cell?_alloc_lt _ _ _ (block_lt_of_cell d2)]; exact d2
  have g3 : (w3.alloc (.cells #[.int .i64 0, .int .i64 0, .int .i64 0, .int .i64 0] 37)).cell? ⟨a0, o0 + 3, none⟩ = some (.int .i64 va) := by rw [World.cell?_alloc_lt _ _ _ (block_lt_of_cell d3)]; exact d3
  go_region
  clear g0 g1 g2 g3 d0 d1 d2 d3
  have hb4 : Below w3.heap.size w3 (w3.alloc (.cells #[.int .i64 k, .int .i64 sl, .int .i64 no, .int .i64 va] 37)).drew := ((Below.refl _ _).alloc (Nat.le_refl _) _).drew
  have K4 := hid (K3.out.below hb4)
  have hR4 := hid (hR3.out.below hb4)
  have hM4 : Hid (R4 (w3.alloc (.cells #[.int .i64 k, .int .i64 sl, .int .i64 no, .int .i64 va] 37)).drew w3.heap.size k sl no va) := heap_alloc_new w3 _
  clear hb4 K3 hR3
  generalize (w3.alloc (.cells #[.int .i64 k, .int .i64 sl, .int .i64 no, .int .i64 va] 37)).drew = w4 at *
  generalize w3.heap.size = D at *
  have m0 := hM4.out.c0; have m1 := hM4.out.c1; have m2 := hM4.out.c2; have m3 := hM4.out.c3
  have hbne : b ≠ B := by omega
  go_wp2_with ((with_reducible refine wpList_unguard ?_ ?_); (focus rfl))
  clear m0 m1 m2 m3
  rcases Bool.eq_false_or_eq_true (recOk (k : Int) sl no va) with hok | hok
  · have hr := recOk_iff.1 hok
    refine Calls.mono (rec_Put w4 b k sl no va w4 ⟨Below.refl _ _, K4.out.2⟩ hr.1 hr.2.1 hr.2.2.1 hr.2.2.2) ?_
    rintro e w5 ⟨rfl, hK5⟩
    have hb5 := hK5.1
    have K5 := hid (K4.out.below hb5)
    have hR5 := hid (hR4.out.below hb5)
    have hM5 := hid (hM4.out.below hb5)
    clear hK5 hb5 K4 hR4 hM4
    have hPl : ∀ y ∈ recP k sl no va, y < 256 := by
      intro y hy
      unfold recP at hy
      rcases List.mem_append.1 hy with h | h
      · exact recL_lt _ _ _ _ y h
      · exact putB_lt _ _ y h
    have hcmp : ((ofB (recP k sl no va)).toList == page.toList) = decide (recP k sl no va = sb page) := by rw [str_beq, sb_ofB _ hPl]
    by_cases hpg : recP k sl no va = sb page
    · have hG : Hid (G = true) := by show _ = _; rw [HG.out, hok, decide_eq_true hpg]; rfl
      rw [decide_eq_true hpg] at hcmp
      clear hPl hpg HG hok hr
      generalize ofB (recP k sl no va) = P at *
      have b0 := hR5.out.c0; have z0 := hR5.out.free 0
      have b1 := hR5.out.c1; have z1 := hR5.out.free 1
      have b2 := hR5.out.c2; have z2 := hR5.out.free 2
      have b3 := hR5.out.c3; have z3 := hR5.out.free 3
      have m0 := hM5.out.c0
      have m1 := hM5.out.c1
      have m2 := hM5.out.c2
      have m3 := hM5.out.c3
      go_wp2_with ((with_reducible refine wpList_unguard ?_ ?_); (focus rfl))
      have hF := hR5.out.sets k sl no va
      have x0 := hF.c0; have x1 := hF.c1; have x2 := hF.c2; have x3 := hF.c3
      refine bodyPost_ret (v := .tuple #[.agg #[.int .i64 k, .int .i64 sl, .int .i64 no, .int .i64 va], .bool true]) (by simp [results, Try.results98, go_sem, x0, x1, x2, x3]) rfl ⟨?_, ?_⟩
      · unfold getRet; rw [if_pos (HGG.out.trans hG.out), HKk.out, HKs.out, HKn.out, HKv.out]
      · exact (((K5.out.set ⟨B, 0, none⟩ _ hw0 hbne).set ⟨B, 1, none⟩ _ hw0 hbne).set ⟨B, 2, none⟩ _ hw0 hbne).set ⟨B, 3, none⟩ _ hw0 hbne
    · have hG : Hid (G = false) := by show _ = _; rw [HG.out, hok, decide_eq_false hpg]; rfl
      rw [decide_eq_false hpg] at hcmp
      clear hPl hpg HG hok hr hM5
      generalize ofB (recP k sl no va) = P at *
      have b0 := hR5.out.c0; have z0 := hR5.out.free 0
      have b1 := hR5.out.c1; have z1 := hR5.out.free 1
      have b2 := hR5.out.c2; have z2 := hR5.out.free 2
      have b3 := hR5.out.c3; have z3 := hR5.out.free 3
      go_wp2_with ((with_reducible refine wpList_unguard ?_ ?_); (focus rfl))
      have hF := hR5.out.sets 0 0 0 0
      have x0 := hF.c0; have x1 := hF.c1; have x2 := hF.c2; have x3 := hF.c3
      refine bodyPost_ret (v := .tuple #[.agg #[.int .i64 0, .int .i64 0, .int .i64 0, .int .i64 0], .bool false]) (by simp [results, Try.results98, go_sem, x0, x1, x2, x3]) rfl ⟨?_, ?_⟩
      · unfold getRet; rw [if_neg (by rw [HGG.out, hG.out]; decide)]
      · exact (((K5.out.set ⟨B, 0, none⟩ _ hw0 hbne).set ⟨B, 1, none⟩ _ hw0 hbne).set ⟨B, 2, none⟩ _ hw0 hbne).set ⟨B, 3, none⟩ _ hw0 hbne
  · refine Calls.mono (rec_Put_bad w4 b k sl no va w4 ⟨Below.refl _ _, K4.out.2⟩ hok) ?_
    rintro e w5 ⟨rfl, hK5⟩
    have hb5 := hK5.1
    have K5 := hid (K4.out.below hb5)
    have hR5 := hid (hR4.out.below hb5)
    have hM5 := hid (hM4.out.below hb5)
    clear hK5 hb5 K4 hR4 hM4
    have hG : Hid (G = false) := by show _ = _; rw [HG.out, hok]; rfl
    clear HG hok hM5
    have b0 := hR5.out.c0; have z0 := hR5.out.free 0
    have b1 := hR5.out.c1; have z1 := hR5.out.free 1
    have b2 := hR5.out.c2; have z2 := hR5.out.free 2
    have b3 := hR5.out.c3; have z3 := hR5.out.free 3
    go_wp2_with ((with_reducible refine wpList_unguard ?_ ?_); (focus rfl))
    have hF := hR5.out.sets 0 0 0 0
    have x0 := hF.c0; have x1 := hF.c1; have x2 := hF.c2; have x3 := hF.c3
    refine bodyPost_ret (v := .tuple #[.agg #[.int .i64 0, .int .i64 0, .int .i64 0, .int .i64 0], .bool false]) (by simp [results, Try.results98, go_sem, x0, x1, x2, x3]) rfl ⟨?_, ?_⟩
    · unfold getRet; rw [if_neg (by rw [HGG.out, hG.out]; decide)]
    · exact (((K5.out.set ⟨B, 0, none⟩ _ hw0 hbne).set ⟨B, 1, none⟩ _ hw0 hbne).set ⟨B, 2, none⟩ _ hw0 hbne).set ⟨B, 3, none⟩ _ hw0 hbne
end Go.Proofs.Ytngkmlchblgmeaa
