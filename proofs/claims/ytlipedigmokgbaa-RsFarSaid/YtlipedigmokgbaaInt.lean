/-
  Slices of ints (each a whole number from 0 on) in memory: read, made by the call itself, written in place; and noughts cut off the end.
-/
import Derived.Test.YtlipedigmokgbaaPoly6
namespace Tri
/-- Without noughts at the end. -/
def cutR (l : List Nat) : List Nat := (trim l.reverse).reverse
theorem cutR_nil : cutR [] = [] := rfl
theorem cutR_snoc0 (l : List Nat) : cutR (l ++ [0]) = cutR l := by
  unfold cutR; rw [List.reverse_append]; rfl
theorem cutR_snoc (l : List Nat) (a : Nat) (h : a ≠ 0) : cutR (l ++ [a]) = l ++ [a] := by
  unfold cutR
  rw [List.reverse_append]
  show (trim (a :: l.reverse)).reverse = _
  unfold trim
  rw [if_neg h]
  simp
theorem cutR_prefix (l : List Nat) : ∃ k, k ≤ l.length ∧ cutR l = l.take k := by
  obtain ⟨k, hk⟩ := trim_suffix l.reverse
  refine ⟨(cutR l).length, ?_, ?_⟩
  · unfold cutR; rw [List.length_reverse]; have := trim_length_le l.reverse; simpa using this
  · have h := congrArg List.reverse hk
    rw [List.reverse_reverse, List.reverse_append] at h
    have h2 : l = cutR l ++ (List.replicate k 0).reverse := h
    have h3 := List.take_left (l₁ := cutR l) (l₂ := (List.replicate k 0).reverse)
    rw [← h2] at h3
    exact h3.symm
theorem cutR_mem (l : List Nat) (x : Nat) (h : x ∈ cutR l) : x ∈ l := by
  obtain ⟨k, _, e⟩ := cutR_prefix l
  rw [e] at h
  exact List.mem_of_mem_take h
theorem cutR_length_le (l : List Nat) : (cutR l).length ≤ l.length := by
  obtain ⟨k, hk, e⟩ := cutR_prefix l
  rw [e, List.length_take]; omega
end Tri
namespace Go.Proofs.Ytlipedigmokgbaa
open Go.RowKit Tri

/-- A slice's ints. -/
def cellsI (w : World) (p : Option Addr) (l : List Nat) : Prop :=
  ∀ i, i < l.length → ∃ a o, p = some ⟨a, o, none⟩ ∧ w.cell? ⟨a, o + i, none⟩ = some (.int .i64 (l.getD i 0 : Nat))
theorem cellsI.nil (w : World) (p : Option Addr) : cellsI w p [] := fun i hi => by simp at hi
theorem cellsI.alloc {w : World} {p : Option Addr} {l : List Nat} (h : cellsI w p l) (o : Obj) : cellsI (w.alloc o) p l := by
  intro i hi
  obtain ⟨a, f, e, hc⟩ := h i hi
  exact ⟨a, f, e, by rw [World.cell?_alloc_lt _ _ _ (block_lt_of_cell hc)]; exact hc⟩
theorem cellsI.below {w w' : World} {p : Option Addr} {l : List Nat} (h : cellsI w p l) (hb : Below w.heap.size w w') : cellsI w' p l := by
  intro i hi
  obtain ⟨a, f, e, hc⟩ := h i hi
  exact ⟨a, f, e, by rw [hb.cell (p := ⟨a, f + i, none⟩) (block_lt_of_cell hc)]; exact hc⟩
theorem cellsI.take {w : World} {p : Option Addr} {l : List Nat} (h : cellsI w p l) (k : Nat) : cellsI w p (l.take k) := by
  intro i hi
  rw [List.length_take] at hi
  obtain ⟨a, f, e, hc⟩ := h i (by omega)
  refine ⟨a, f, e, ?_⟩
  rw [hc]
  simp only [List.getD_eq_getElem?_getD, List.getElem?_take]
  rw [if_pos (by omega)]
theorem cellsI.cut {w : World} {p : Option Addr} {l : List Nat} (h : cellsI w p l) : cellsI w p (cutR l) := by
  obtain ⟨k, _, e⟩ := cutR_prefix l
  rw [e]; exact h.take k
theorem cellsI.new (w : World) (l : List Nat) (vs : Array Value) (t : TypeId) (h : vs.toList = l.map fun x => Value.int .i64 (x : Nat)) :
    cellsI (w.alloc (.cells vs t)) (some ⟨w.heap.size, 0, none⟩) l := by
  intro i hi
  refine ⟨_, _, rfl, ?_⟩
  rw [World.cell?_alloc_new, ← Array.getElem?_toList, h, Nat.zero_add, List.getElem?_map, List.getElem?_eq_getElem hi]
  simp [hi]

/-- A slice of ints that the call has made. -/
def ownsI (w : World) (base : Nat) (v : Value) (l : List Nat) : Prop := w.ownsRow base 3 1 v l.length (l.map fun x => Value.int .i64 (x : Nat))
theorem ownsI.cells {w : World} {base : Nat} {v : Value} {l : List Nat} (h : ownsI w base v l) : ∃ p c, v = .slice p l.length c ∧ l.length ≤ c ∧ cellsI w p l := by
  have h' := h
  unfold ownsI at h'
  rcases h.2 with ⟨rfl, h0⟩ | ⟨g, cap, cur, rfl, _, _, hle, _, _, _⟩
  · refine ⟨none, 0, by rw [h0], by omega, ?_⟩
    rw [List.eq_nil_of_length_eq_zero h0]; exact cellsI.nil _ _
  · refine ⟨_, _, rfl, hle, ?_⟩
    intro i hi
    refine ⟨_, _, rfl, ?_⟩
    rw [Nat.zero_add, h'.cellAt i (by omega), List.getElem?_map, List.getElem?_eq_getElem hi]
    simp [hi]
theorem Try.infoI : (Try.prog.info? 3).map (fun i => (i.zero, i.size, i.bytes)) = some (some (.int .i64 0), 1, 8) := by kernel_rfl
/-- What a call hands back: ints (in whatever memory). -/
def RetI (w : World) (l : List Nat) (e : Ending) (w' : World) : Prop := ∃ p c, e = .returned (.slice p l.length c) ∧ l.length ≤ c ∧ cellsI w' p l ∧ Below w.heap.size w w'

def sliceN : Value → Nat
  | .slice _ n _ => n
  | _ => 0
set_option maxHeartbeats 1000000 in
theorem ref5_Cut (p : Option Addr) (n c : Nat) (l : List Nat) (w : World) (hn : n = l.length) (hc : n ≤ c) (hp : cellsI w p l) (hl : l.length ≤ 1000000) :
    Calls Try.prog 52 #[.slice p n c] w fun e w' => e = .returned (.slice p (cutR l).length c) ∧ w = w' := by
  subst hn
  have HP := hid hp
  clear hp
  go_enter Try.func52, Try.ntmps52
  go_wp2
  go_loop [0] (fun v => ∃ k : Nat, k ≤ l.length ∧ v = .slice p k c ∧ cutR (l.take k) = cutR l) (fun v => sliceN v)
  case atStart => exact ⟨l.length, Nat.le_refl _, rfl, by rw [List.take_length]⟩
  case round =>
    obtain ⟨k, hk, rfl, hcut⟩ := hrel
    have HCut := hid hcut
    clear hcut
    cases k with
    | zero =>
      have hr : Hid (cutR l = []) := by show _ = _; rw [← HCut.out]; rfl
      go_wp2_with ((with_reducible refine wpList_unguard ?_ ?_); (focus rfl))
      go_ret
      exact ⟨by rw [hr.out]; rfl, rfl⟩
    | succ m =>
      obtain ⟨a, o, rfl, hc0⟩ := HP.out m (by omega)
      have hw : IntKind.i64.wrap (m : Int) = (m : Int) := by rw [IntKind.wrap_i64]; omega
      have hw2 : IntKind.i64.wrap (((m : Int) + 1) - 1) = (m : Int) := by rw [IntKind.wrap_i64]; omega
      have hmc : ((m : Int) + 1 - 1) = (m : Int) := by omega
      have hgt : (0 : Int) < (m : Int) + 1 := by omega
      have hmk : m < l.length := by omega
      have hmc' : m + 1 ≤ c := by omega
      by_cases hz : l.getD m 0 = 0
      · rw [hz] at hc0
        have HN : Hid (cutR (l.take m) = cutR l) := by show _ = _; rw [← HCut.out, take_snocN l m hmk, hz, cutR_snoc0]
        go_wp2_with ((with_reducible refine wpList_unguard ?_ ?_); (focus rfl))
        go_round
        case rel => exact ⟨m, by omega, by simp, HN.out⟩
        case measure => simp [sliceN]
      · have HN : Hid ((cutR l).length = m + 1) := by
          show _ = _
          rw [← HCut.out, take_snocN l m hmk, cutR_snoc _ _ hz]
          rw [List.length_append, List.length_take, List.length_singleton]
          omega
        have hne : ((l.getD m 0 : Int) == 0) = false := by rw [beq_eq_false_iff_ne]; omega
        generalize l.getD m 0 = x at *
        go_wp2_with ((with_reducible refine wpList_unguard ?_ ?_); (focus rfl))
        go_ret
        exact ⟨by rw [HN.out]; rfl, rfl⟩
end Go.Proofs.Ytlipedigmokgbaa
