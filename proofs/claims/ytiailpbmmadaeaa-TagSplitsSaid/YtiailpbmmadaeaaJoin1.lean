/-
  tag.Join in the program.
-/
import Derived.Test.YtiailpbmmadaeaaJoin0
import Derived.Test.YtiailpbmmadaeaaTag1
namespace Go.Proofs.Ytiailpbmmadaeaa
open Go.RowKit Tri

theorem chunk_step (M : List Nat) (k n : Nat) (hM : M.length = n * 60) (hk : k < n) : M.take ((k + 1) * 60) = M.take (k * 60) ++ (M.drop (k * 60)).take 60 := by
  rw [show (k + 1) * 60 = k * 60 + 60 from by omega, List.take_add]
theorem chunk_len (M : List Nat) (k n : Nat) (hM : M.length = n * 60) (hk : k < n) : ((M.drop (k * 60)).take 60).length = 60 := by
  rw [List.length_take, List.length_drop]; omega
theorem cellsB.range {w : World} {a o : Nat} {M : List Nat} (h : cellsB w (some ⟨a, o, none⟩) M) (k n : Nat) (hM : M.length = n * 60) (hk : k < n) :
    w.rangeAt a (o + k * 60) (((M.drop (k * 60)).take 60).map fun x => Value.int .u8 (x : Nat)) := by
  intro j v hv
  rw [List.getElem?_map] at hv
  cases hj : ((M.drop (k * 60)).take 60)[j]? with
  | none => rw [hj] at hv; cases hv
  | some y =>
    rw [hj] at hv
    simp only [Option.map_some, Option.some.injEq] at hv
    subst hv
    have hjl : j < 60 := by have := (List.getElem?_eq_some_iff.1 hj).1; rw [List.length_take] at this; omega
    rw [List.getElem?_take, if_pos hjl, List.getElem?_drop] at hj
    obtain ⟨a', o', e, hc⟩ := h (k * 60 + j) (List.getElem?_eq_some_iff.1 hj).1
    simp only [Option.some.injEq, Addr.mk.injEq, and_true] at e
    obtain ⟨rfl, rfl⟩ := e
    rw [List.getD_eq_getElem?_getD, hj] at hc
    rw [Nat.add_assoc]
    exact hc
theorem bldB.frame {w w' : World} {B b : Nat} {l : List Nat} (h : bldB w B b l) (hf : ∀ g t vs, Blk w g t vs → Blk w' g t vs) : bldB w' B b l := by
  have key : ∀ p, Lib.BuilderAt 93 5 B b p (l.map fun x => Value.int .u8 (x : Nat)) w → Lib.BuilderAt 93 5 B b p (l.map fun x => Value.int .u8 (x : Nat)) w' := by
    intro p ⟨h1, v, h2, h3, h4⟩
    obtain ⟨h5, h6⟩ := h3
    exact ⟨h1, v, hf _ _ _ h2, ⟨h5, h6.imp id fun ⟨g, cap, cur, h7, h8, h9, h10⟩ => ⟨g, cap, cur, h7, h8, hf _ _ _ h9, h10⟩⟩, h4⟩
  exact h.imp (key _) (key _)
theorem bldB.ltB {w : World} {B b : Nat} {l : List Nat} (h : bldB w B b l) : b < w.heap.size := by
  rcases h with h | h
  · exact h.lt
  · exact h.lt
set_option maxHeartbeats 4000000 in
set_option maxRecDepth 100000 in
theorem tag_Join (p : Option Addr) (n c : Nat) (M : List Nat) (w : World) (hp : cellsB w p M) (hM : M.length = n * 60) (hMb : ∀ x ∈ M, x < 256) (hn : n ≤ 200) :
    Calls Try.prog 26 #[.slice p n c] w fun e w' => e = .returned (.string (ofB M)) ∧ Below w.heap.size w w' := by
  have HP := hid hp
  have HM := hid hM
  have HMb := hid hMb
  have hb1 : Below w.heap.size w (w.alloc (.cells #[.pointer none, .slice none 0 0] 93)) := (Below.refl _ _).alloc (Nat.le_refl _) _
  have hB1 := bldB.new w
  have HB1 := hid hB1
  have Hb1 := hid hb1
  clear hp hM hMb hb1 hB1
  (go_enter Try.func26, Try.ntmps26; try simp only [List.append])
  go_wp2_with fail
  generalize w.alloc (.cells #[.pointer none, .slice none 0 0] 93) = w1 at *
  go_loopw [8] (fun i wr => ∃ k : Nat, k ≤ n ∧ i = .int .i64 k ∧ bldB wr w.heap.size w.heap.size (M.take (k * 60)) ∧ Below w.heap.size w wr) (fun i _ => n - (intOf i).toNat)
  case atStart => exact ⟨0, by omega, rfl, by rw [Nat.zero_mul, List.take_zero]; exact HB1.out, Hb1.out⟩
  case round =>
    obtain ⟨k, hk, rfl, hB, hb⟩ := hrel
    have HB := hid hB
    have Hb := hid hb
    have hW : w.heap.size ≤ wr.heap.size := hb.size
    clear hB hb HB1 Hb1
    by_cases hlt : k < n
    · have hpc := HP.out.below Hb.out
      obtain ⟨a, o, rfl, hc0⟩ := hpc (k * 60) (by rw [HM.out]; omega)
      have HRg := hid (hpc.range k n HM.out hlt)
      have HCs := hid (chunk_step M k n HM.out hlt)
      have hcl := chunk_len M k n HM.out hlt
      have HCb : Hid (∀ x ∈ (M.drop (k * 60)).take 60, x < 256) := fun x hx => HMb.out x (List.mem_of_mem_drop (List.mem_of_mem_take hx))
      have hTl : (M.take (k * 60)).length = k * 60 := by rw [List.length_take, HM.out]; omega
      clear hpc hc0
      have hal : Below wr.heap.size wr (wr.alloc (.cells #[.int .u8 0, .int .u8 0, .int .u8 0, .int .u8 0, .int .u8 0, .int .u8 0, .int .u8 0, .int .u8 0, .int .u8 0, .int .u8 0, .int .u8 0, .int .u8 0, .int .u8 0, .int .u8 0, .int .u8 0, .int .u8 0, .int .u8 0, .int .u8 0, .int .u8 0, .int .u8 0, .int .u8 0, .int .u8 0, .int .u8 0, .int .u8 0, .int .u8 0, .int .u8 0, .int .u8 0, .int .u8 0, .int .u8 0, .int .u8 0, .int .u8 0, .int .u8 0, .int .u8 0, .int .u8 0, .int .u8 0, .int .u8 0, .int .u8 0, .int .u8 0, .int .u8 0, .int .u8 0, .int .u8 0, .int .u8 0, .int .u8 0, .int .u8 0, .int .u8 0, .int .u8 0, .int .u8 0, .int .u8 0, .int .u8 0, .int .u8 0, .int .u8 0, .int .u8 0, .int .u8 0, .int .u8 0, .int .u8 0, .int .u8 0, .int .u8 0, .int .u8 0, .int .u8 0, .int .u8 0] 31)) := (Below.refl _ _).alloc (Nat.le_refl _) _
      have hZ : Blk (wr.alloc (.cells #[.int .u8 0, .int .u8 0, .int .u8 0, .int .u8 0, .int .u8 0, .int .u8 0, .int .u8 0, .int .u8 0, .int .u8 0, .int .u8 0, .int .u8 0, .int .u8 0, .int .u8 0, .int .u8 0, .int .u8 0, .int .u8 0, .int .u8 0, .int .u8 0, .int .u8 0, .int .u8 0, .int .u8 0, .int .u8 0, .int .u8 0, .int .u8 0, .int .u8 0, .int .u8 0, .int .u8 0, .int .u8 0, .int .u8 0, .int .u8 0, .int .u8 0, .int .u8 0, .int .u8 0, .int .u8 0, .int .u8 0, .int .u8 0, .int .u8 0, .int .u8 0, .int .u8 0, .int .u8 0, .int .u8 0, .int .u8 0, .int .u8 0, .int .u8 0, .int .u8 0, .int .u8 0, .int .u8 0, .int .u8 0, .int .u8 0, .int .u8 0, .int .u8 0, .int .u8 0, .int .u8 0, .int .u8 0, .int .u8 0, .int .u8 0, .int .u8 0, .int .u8 0, .int .u8 0, .int .u8 0] 31)) wr.heap.size 31 (blkB (List.replicate 60 0)) := Blk.new wr 31 (blkB (List.replicate 60 0))
      have HZ := hid hZ
      have Hba := hid (Hb.out.trans (hal.mono hW))
      have hbl : w.heap.size < wr.heap.size := HB.out.ltB
      have HAl := hid hal
      clear hal hZ
      generalize (M.drop (k * 60)).take 60 = C at *
      go_wp2_with (first | (refine wpList_load_mid (op := ⟨some 11, _, _, _, _, _⟩) (by rfl) 31 _ (by rfl) a (o + k * 60) (by rfl) (C.map fun x => Value.int .u8 (x : Nat)) _ HRg.out Try.underlying31 rfl (by rw [List.length_map, hcl]; kernel_rfl) ?_) | (refine wpList_store_B (o := ⟨none, _, _, _, _, _⟩) (by rfl) 31 _ _ (by rfl) wr.heap.size 31 C (List.replicate 60 0) (by rfl) (by rfl) HZ.out (by rw [hcl]; rfl) (by rw [hcl]; kernel_rfl) w.heap.size w Hba.out hW ?_))
      intro w3 hB3 hb3 hfr3
      have HB4 := hid (HB.out.frame (w' := w3) fun g t vs hg => hfr3.out g t vs (Nat.ne_of_lt hg.lt) (hg.below HAl.out))
      clear HB HAl HZ Hba hfr3 HRg
      go_wp2_with fail
      refine Calls.mono (bld_Write w.heap.size w.heap.size wr.heap.size 60 60 (M.take (k * 60)) C w3 HB4.out hB3.out.cellsB hcl.symm (by omega) (by omega) (by have := hb3.out.size; omega)) ?_; rintro e w4 ⟨⟨v, rfl⟩, hB5, hb5⟩
      have HB5 := hid hB5
      have Hb5 := hid (hb3.out.trans hb5)
      rw [← HCs.out] at hB5
      have HB5 := hid hB5
      clear hB5 hb5 HB4 hB3 hb3 HCs
      go_wp2
      go_roundw
      case rel => exact ⟨k + 1, by omega, by go_num, HB5.out, Hb5.out⟩
      case measure => simp [intOf]; omega
    · have hB := HB.out
      rw [List.take_of_length_le (by rw [HM.out, show k = n from by omega]; exact Nat.le_refl _)] at hB
      have HB9 := hid hB
      clear hB HB
      go_wp2_with fail
      refine Calls.mono (bld_String w.heap.size w.heap.size M wr HB9.out HMb.out hW) ?_; rintro e w4 ⟨rfl, hb5⟩
      have Hb5 := hid (Hb.out.trans hb5)
      clear hb5
      go_wp2
      go_ret
      exact ⟨rfl, Hb5.out⟩
end Go.Proofs.Ytiailpbmmadaeaa
