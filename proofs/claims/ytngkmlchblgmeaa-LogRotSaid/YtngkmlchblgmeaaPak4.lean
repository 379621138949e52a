/-
  num.Put in the program: numbers as bytes, the highest first. Conditions: a size from 1 to 7, numbers that fit it, at most a million of them.
-/
import Derived.Test.YtngkmlchblgmeaaPak1
namespace Go.Proofs.Ytngkmlchblgmeaa
open Go.RowKit

/-- A slice's whole numbers. -/
def cellsI (w : World) (p : Option Addr) (l : List Nat) : Prop :=
  ∀ i, i < l.length → ∃ a o, p = some ⟨a, o, none⟩ ∧ w.cell? ⟨a, o + i, none⟩ = some (.int .i64 (l.getD i 0 : Nat))
theorem cellsI.new (w : World) (l : List Nat) (vs : Array Value) (t : TypeId) (h : vs.toList = l.map fun x => Value.int .i64 (x : Nat)) :
    cellsI (w.alloc (.cells vs t)) (some ⟨w.heap.size, 0, none⟩) l := by
  intro i hi
  refine ⟨_, _, rfl, ?_⟩
  rw [World.cell?_alloc_new, ← Array.getElem?_toList, h, Nat.zero_add, List.getElem?_map, List.getElem?_eq_getElem hi]
  simp [hi]
/-- A number's bytes. -/
def putB (sz x : Nat) : List Nat := (List.range sz).map fun i => x / 2 ^ (8 * (sz - 1 - i)) % 256
def putL (sz : Nat) (l : List Nat) : List Nat := l.flatMap (putB sz)
theorem putB_length (sz x : Nat) : (putB sz x).length = sz := by simp [putB]
theorem putL_length (sz : Nat) (l : List Nat) : (putL sz l).length = sz * l.length := by
  induction l with
  | nil => simp [putL]
  | cons x l ih => simp only [putL, List.flatMap_cons, List.length_append, putB_length, List.length_cons] at *; rw [ih, Nat.mul_succ]; omega
theorem putB_lt (sz x : Nat) : ∀ y ∈ putB sz x, y < 256 := by
  intro y hy
  simp only [putB, List.mem_map] at hy
  obtain ⟨i, _, rfl⟩ := hy
  omega
theorem putL_lt (sz : Nat) (l : List Nat) : ∀ y ∈ putL sz l, y < 256 := by
  intro y hy
  simp only [putL, List.mem_flatMap] at hy
  obtain ⟨x, _, h⟩ := hy
  exact putB_lt sz x y h
theorem putB_succ (sz x j : Nat) (h : j < sz) : (putB sz x).take (j + 1) = (putB sz x).take j ++ [x / 2 ^ (8 * (sz - 1 - j)) % 256] := by
  rw [List.take_succ_eq_append_getElem (by rw [putB_length]; exact h)]
  simp [putB]
theorem Try.infoB : (Try.prog.info? 5).map (fun i => (i.zero, i.size, i.bytes)) = some (some (.int .u8 0), 1, 1) := by kernel_rfl

set_option maxHeartbeats 1000000 in
set_option maxRecDepth 100000 in
theorem num_Put (sz : Nat) (p : Option Addr) (n c : Nat) (l : List Nat) (w : World) (h1 : 1 ≤ sz) (h7 : sz ≤ 7) (hn : n = l.length) (hp : cellsI w p l) (hl : l.length ≤ 1000000) (hb : ∀ x ∈ l, x < 2 ^ (8 * sz)) :
    Calls Try.prog 122 #[.int .i64 sz, .slice p n c] w fun e w' => e = .returned (.tuple #[.string (ofB (putL sz l)), .int .i64 0]) ∧ Below w.heap.size w w' := by
  subst hn
  have HP := hid hp
  have HB := hid hb
  clear hp hb
  obtain ⟨i0, hi, hz0, hz1, hz2⟩ := info_parts Try.infoB
  go_enter Try.func122, Try.ntmps122
  go_wp2
  go_loopw [6, 14] (fun v i wr => ∃ k : Nat, k ≤ l.length ∧ i = .int .i64 k ∧ wr.ownsRow w.heap.size 5 1 v (sz * k) ((putL sz (l.take k)).map fun x => Value.int .u8 (x : Nat)) ∧ Below w.heap.size w wr) (fun _ i _ => l.length - (intOf i).toNat)
  case atStart => exact ⟨0, Nat.zero_le _, rfl, by simpa [putL] using World.ownsRow_nil _ _ _ _, Below.refl _ _⟩
  case round =>
    obtain ⟨k, hk, rfl, hO, hBl⟩ := hrel
    have HO := hid hO
    have HBl := hid hBl
    clear hO hBl
    rename_i v _ _
    by_cases hlt : k < l.length
    · obtain ⟨a, o, rfl, hc0⟩ := HP.out k hlt
      have hc : wr.cell? ⟨a, o + k, none⟩ = some (.int .i64 (l.getD k 0 : Nat)) := by
        rw [HBl.out.cell (p := ⟨a, o + k, none⟩) (block_lt_of_cell hc0)]; exact hc0
      have hx : Hid (l.getD k 0 < 2 ^ (8 * sz)) := HB.out _ (getD_mem l k hlt)
      clear hc0
      generalize hxe0 : l.getD k 0 = x at *
      have hxe := hid hxe0
      clear hxe0
      have hx0 : decide ((x : Int) < 0) = false := by simp
      have hxs : ((x : Int) / 2 ^ (8 * sz) != 0) = false := by
        have : ((x : Int) / 2 ^ (8 * sz)) = ((x / 2 ^ (8 * sz) : Nat) : Int) := by simp
        rw [this, Nat.div_eq_of_lt hx.out]; rfl
      have hsk : sz * k ≤ 7 * 1000000 := Nat.mul_le_mul h7 (by omega)
      have hts : Hid (putL sz (l.take (k + 1)) = putL sz (l.take k) ++ putB sz x) := by
        show _ = _; rw [take_snocN l k hlt, hxe.out]; simp [putL]
      go_wp2
      obtain ⟨wo, rfl⟩ : ∃ wo : World, wo = wr := ⟨_, rfl⟩
      go_loopw [6, 28] (fun v i wr => ∃ j : Nat, j ≤ sz ∧ i = .int .i64 j ∧ wr.ownsRow w.heap.size 5 1 v (sz * k + j) ((putL sz (l.take k) ++ (putB sz x).take j).map fun x => Value.int .u8 (x : Nat)) ∧ Below w.heap.size w wr) (fun _ i _ => sz - (intOf i).toNat)
      case atStart => exact ⟨0, Nat.zero_le _, rfl, by simpa using HO.out, HBl.out⟩
      case round =>
        obtain ⟨j, hj, rfl, hO, hB2⟩ := hrel
        have HO2 := hid hO
        have HB2 := hid hB2
        clear hO hB2 HO HBl
        have ht : (8 * ((sz : Int) - 1 - (j : Int))).toNat = 8 * (sz - 1 - j) := by omega
        have hnx : Hid (j < sz → (putB sz x).take (j + 1) = (putB sz x).take j ++ [x / 2 ^ (8 * (sz - 1 - j)) % 256]) := putB_succ sz x j
        have hy : ((x : Int) / 2 ^ (8 * (sz - 1 - j))) = ((x / 2 ^ (8 * (sz - 1 - j)) : Nat) : Int) := by simp
        generalize x / 2 ^ (8 * (sz - 1 - j)) = y at *
        by_cases hjl : j < sz
        · go_wp2_with (at_builtin; refine wpList_append_own _ rfl _ _ 111 rfl w.heap.size 5 i0 (.int .u8 0) 1 1 Try.underlying111 hi hz0 hz1 hz2 rfl (by decide) _ _ _ rfl (HO2.out.alloc _) ⟨wr.heap.size, 0, none⟩ 1 1 [.int .u8 ((y : Int) % 256)] rfl rfl ?c1 ?c2 ?c3 ?c4 ?c5 ?_)
          case c1 =>
            intro j u hj
            match j, hj with
            | 0, hj => simp at hj; subst hj; simp [Addr.add]
          case c2 => intro u hu; simp at hu; subst hu; rfl
          case c3 => unfold maxLen; omega
          case c4 => omega
          case c5 => have := HB2.out.size; simp; omega
          intro v' w1 hown' hgrow _
          have hO' : Hid (w1.ownsRow w.heap.size 5 1 v' (sz * k + (j + 1)) ((putL sz (l.take k) ++ (putB sz x).take (j + 1)).map fun x => Value.int .u8 (x : Nat))) := by
            have : w1.ownsRow w.heap.size 5 1 v' _ _ := hown'
            show w1.ownsRow _ _ _ _ _ _
            rw [hnx.out hjl, ← List.append_assoc, List.map_append]
            simpa [Nat.add_assoc] using this
          have hB' : Hid (Below w.heap.size w w1) := by
            have hs := HB2.out.size
            refine (HB2.out.alloc hs _).grown hgrow (by simp; omega) ?_
            intro g hg
            exact (HO2.out.lt g hg).1
          clear hown' hgrow HO2 HB2
          go_wp2
          go_roundw
          case rel => exact ⟨j + 1, by omega, by go_num, hO'.out, hB'.out⟩
          case measure => simp [intOf]; omega
        · have hfull : Hid ((putB sz x).take j = putB sz x) := by show _ = _; rw [List.take_of_length_le]; rw [putB_length]; omega
          go_wp2
          go_roundw
          case rel => exact ⟨k + 1, by omega, by go_num, by rw [hts.out, ← hfull.out, Nat.mul_succ, show sz * k + sz = sz * k + j from by omega]; exact HO2.out, HB2.out⟩
          case measure => simp [intOf]; omega
    · have hpe : Hid (putL sz (l.take k) = putL sz l) := by show _ = _; rw [List.take_of_length_le (by omega)]
      have HOl := HO.out
      rw [hpe.out] at HOl
      obtain ⟨p', c', rfl, hlen, hcB⟩ := cells_of_owns HOl
      have hcs := conv_str hcB (sz * k) c' hlen
      clear HOl HO hcB hlen
      go_wp2
      go_ret2
      exact ⟨rfl, HBl.out⟩
/-- Of one number, which lies in a new array. -/
theorem num_Put1 (sz s x : Nat) (vz vx : Int) (w : World) (t : TypeId) (hs : s = w.heap.size) (ez : vz = sz) (ex : vx = x) (h1 : 1 ≤ sz) (h7 : sz ≤ 7) (hx : x < 2 ^ (8 * sz)) :
    Calls Try.prog 122 #[.int .i64 vz, .slice (some ⟨s, 0, none⟩) 1 1] (w.alloc (.cells #[.int .i64 vx] t)) fun e w' => e = .returned (.tuple #[.string (ofB (putB sz x)), .int .i64 0]) ∧ Below w.heap.size w w' := by
  subst hs ez ex
  refine (num_Put sz _ 1 1 [x] _ h1 h7 rfl (cellsI.new w [x] #[.int .i64 x] t rfl) (by simp) (by simpa using hx)).mono fun e w' ⟨he, hb⟩ => ⟨?_, ?_⟩
  · rw [he]; simp [putL]
  · exact ((Below.refl _ _).alloc (Nat.le_refl _) _).trans (hb.mono (by simp))
end Go.Proofs.Ytngkmlchblgmeaa
