/-
  The check sum in the program: Seal and Open.
  Conditions: the Crc that is there is the block that crc.New makes; texts of at most 1000000 bytes together, at most 1000 of them.
-/
import Derived.Test.YtiailpbmmadaeaaCrcK
import Derived.Test.YtiailpbmmadaeaaNum
import Derived.Test.YtiailpbmmadaeaaShelf
namespace Go.Proofs.Ytiailpbmmadaeaa
open Go.RowKit Tri

theorem join_nil (l : List (List UInt8)) : Lib.join l [] = l.flatten := by
  unfold Lib.join
  rw [List.intercalate]
  induction l with
  | nil => rfl
  | cons x l ih =>
    cases l with
    | nil => rfl
    | cons y l => simp only [List.intersperse, List.flatten_cons, List.nil_append] at *; rw [ih]
theorem join_lb (l : List ByteArray) : (⟨(Lib.join (l.map (·.data.toList)) []).toArray⟩ : ByteArray) = ofB (lb l) := by
  rw [join_nil]
  unfold ofB lb sb
  congr 2
  rw [List.map_flatMap]
  induction l with
  | nil => rfl
  | cons s l ih =>
    simp only [List.map_cons, List.flatten_cons, List.flatMap_cons]
    rw [ih]
    congr 1
    rw [List.map_map]
    have : (UInt8.ofNat ∘ UInt8.toNat) = id := by funext x; simp
    rw [this, List.map_id]
theorem lb_size (l : List ByteArray) : (Lib.join (l.map (·.data.toList)) []).length = (lb l).length := by
  have := congrArg ByteArray.size (join_lb l)
  rw [ofB_size] at this
  simpa [ByteArray.size] using this
/-- Texts, one behind the other, whatever list they lie in. -/
theorem join_any (p : Option Addr) (n c : Nat) (l : List ByteArray) (w : World) (hn : n = l.length) (hc : n ≤ c) (hp : cellsS w p l) (hl : l.length ≤ 1000) (hz : (lb l).length ≤ 1000000) :
    Calls Try.prog 59 #[.slice p n c, .string ⟨#[]⟩] w fun e w' => e = .returned (.string (ofB (lb l))) ∧ Below w.heap.size w w' := by
  subst hn
  cases l with
  | nil => exact (Try.strings_Join_none p c ⟨#[]⟩ w).mono fun e w' ⟨he, hw⟩ => ⟨he, hw ▸ Below.refl _ _⟩
  | cons s l =>
    obtain ⟨a, o, rfl, h0⟩ := hp 0 (by simp)
    have := Try.strings_Join a o c (s :: l) ⟨#[]⟩ w (by
      intro j x hj
      have hlt : j < (s :: l).length := (List.getElem?_eq_some_iff.1 hj).1
      obtain ⟨a', o', e, hcell⟩ := hp j hlt
      simp only [Option.some.injEq, Addr.mk.injEq] at e
      obtain ⟨rfl, rfl, _⟩ := e
      rw [hcell, List.getD_eq_getElem?_getD, hj]; rfl) (block_lt_of_cell h0) (by omega) hc (by
      have := lb_size (s :: l)
      simp only [List.toList_toArray] at *
      omega)
    refine this.mono fun e w' ⟨he, hb⟩ => ⟨?_, hb⟩
    rw [he]
    congr 2
    exact join_lb (s :: l)
/-- A sealed text. -/
def sealB (l : List Nat) : List Nat := l ++ putB 4 (csum l)
set_option maxHeartbeats 400000 in
theorem crc_Seal (b : Nat) (p : Option Addr) (n c : Nat) (l : List ByteArray) (w : World) (hC : isC w b) (hn : n = l.length) (hc : n ≤ c) (hp : cellsS w p l) (hl : l.length ≤ 1000) (hz : (lb l).length ≤ 1000000) :
    Calls Try.prog 38 #[.pointer (some ⟨b, 0, none⟩), .slice p n c] w fun e w' => e = .returned (.string (ofB (sealB (lb l)))) ∧ Below w.heap.size w w' := by
  subst hn
  have HP := hid hp
  have HC := hid hC
  have HZ := hid hz
  clear hp hC
  have hs1 : ∀ s ∈ l, s.size ≤ (lb l).length := by
    intro s hs
    rw [← sb_length]
    exact (List.sublist_flatten_of_mem (List.mem_map_of_mem (f := sb) hs)).length_le
  go_enter Try.func38, Try.ntmps38
  go_wp2_with ((with_reducible refine wpList_unguard ?_ ?_); (focus rfl))
  refine Calls.mono (crc_Sum b p c _ l w HC.out rfl HP.out (by omega) (fun s hs => by have := hs1 s hs; omega)) ?_; rintro e w1 ⟨rfl, hb1⟩
  have HB := hid hb1
  have hlt : csum (lb l) < 2 ^ 32 := csum_lt _ (lb_lt l)
  clear hb1 hs1
  have hS : ∃ S, csum (lb l) = S := ⟨_, rfl⟩
  obtain ⟨S, hS⟩ := hS
  have HS := hid hS
  rw [hS] at hlt ⊢
  clear hS
  go_wp2_with ((with_reducible refine wpList_unguard ?_ ?_); (focus rfl))
  refine Calls.mono (num_Put1 4 _ S _ _ _ _ rfl rfl rfl (by omega) (by omega) hlt) ?_; rintro e w2 ⟨rfl, hb2⟩
  have HB2 := hid (HB.out.trans (hb2.mono HB.out.size))
  clear hb2
  go_wp2_with ((with_reducible refine wpList_unguard ?_ ?_); (focus rfl))
  refine Calls.mono (join_any p _ c l w2 rfl hc (HP.out.below HB2.out) hl hz) ?_; rintro e w3 ⟨rfl, hb3⟩
  have HB3 := hid (HB2.out.trans (hb3.mono HB2.out.size))
  clear hb3
  have hsz : (ofB (lb l)).size + (ofB (putB 4 S)).size ≤ 9223372036854775807 := by rw [ofB_size, ofB_size, putB_length]; have := HZ.out; omega
  go_wp2
  go_ret
  exact ⟨by simp only [sealB, HS.out, ← ofB_append]; rfl, HB3.out⟩
theorem lb_one (s : ByteArray) : lb [s] = sb s := by simp [lb]
/-- Of one text, which lies in a new array. -/
theorem crc_Seal1 (b s0 : Nat) (s : ByteArray) (w : World) (t : TypeId) (hC : isC w b) (hs : s0 = w.heap.size) (hz : s.size ≤ 1000000) :
    Calls Try.prog 38 #[.pointer (some ⟨b, 0, none⟩), .slice (some ⟨s0, 0, none⟩) 1 1] (w.alloc (.cells #[.string s] t)) fun e w' => e = .returned (.string (ofB (sealB (sb s)))) ∧ Below w.heap.size w w' := by
  subst hs
  refine (crc_Seal b _ 1 1 [s] _ (hC.alloc _) rfl (Nat.le_refl _) (cellsS.new w [s] _ t rfl) (by simp) (by rw [lb_one, sb_length]; exact hz)).mono fun e w' ⟨he, hb⟩ => ⟨?_, ?_⟩
  · rw [he, lb_one]
  · exact ((Below.refl _ _).alloc (Nat.le_refl _) _).trans (hb.mono (by simp))
end Go.Proofs.Ytiailpbmmadaeaa
