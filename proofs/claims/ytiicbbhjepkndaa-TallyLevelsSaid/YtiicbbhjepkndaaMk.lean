/-
  What 'make' lays: rows of bytes, of bools and of ints, all nought.
-/
import Derived.Test.YtiicbbhjepkndaaBase
import Derived.Laws.MakeOwn
namespace Go.Proofs.Ytiicbbhjepkndaa
open Go.RowKit

theorem info_of {P : Program} {t : TypeId} {z : Value} {s b : Nat} (h : (P.info? t).map (fun i => (i.zero, i.size, i.bytes)) = some (some z, s, b)) : ∃ i, P.info? t = some i ∧ i.zero = some z ∧ i.size = s ∧ i.bytes = b := by
  obtain ⟨i, hi, h2⟩ := Option.map_eq_some_iff.1 h
  simp only [Prod.mk.injEq] at h2
  exact ⟨i, hi, h2.1, h2.2.1, h2.2.2⟩
theorem made_one (z : Value) (hz : z.cells = #[z]) (n : Nat) : madeCells z.cells n = Array.replicate n z := by
  rw [hz]
  apply Array.ext
  · rw [size_madeCells, Array.size_replicate]
  · intro j h1 h2
    simp only [madeCells, Array.getElem_map, Array.getElem_range, Array.getElem_replicate]
    have : j % (#[z] : Array Value).size = 0 := by show j % 1 = 0; omega
    rw [this]
    rfl
theorem run_mk1 {P : Program} (t e : TypeId) (z : Value) (b : Nat) (ht : P.underlying t = some (.slice e)) (hi : (P.info? e).map (fun i => (i.zero, i.size, i.bytes)) = some (some z, 1, b)) (hz : z.cells = #[z])
    (n c : Nat) (hnc : n ≤ c) (hb : b * c ≤ 281474976710656) (h63 : c ≤ 9223372036854775807) (w : World) :
    (Instr.makeSlice t (.int .i64 (n : Int)) (.int .i64 (c : Int))).run P w = .ok (.slice (some ⟨w.heap.size, 0, none⟩) n c) (w.alloc (.cells (Array.replicate c z) e)) := by
  obtain ⟨i, h0, h1, h2, h3⟩ := info_of hi
  have hb' : (i.bytes : Int) * (c : Int) ≤ 281474976710656 := by
    have h : ((i.bytes * c : Nat) : Int) ≤ 281474976710656 := by rw [h3]; omega
    rwa [Int.natCast_mul] at h
  have hr := run_make (P := P) w t e i z ht h0 h1 .i64 .i64 n c (by omega) (by omega) hb' (by omega)
  simp only [Int.toNat_natCast] at hr
  rw [hr, h2, Nat.mul_one, made_one z hz]
theorem Try.mkB (n c : Nat) (hnc : n ≤ c) (hc : c ≤ 100000000) (w : World) :
    (Instr.makeSlice 30 (.int .i64 (n : Int)) (.int .i64 (c : Int))).run Try.prog w = .ok (.slice (some ⟨w.heap.size, 0, none⟩) n c) (w.alloc (.cells (Array.replicate c (.int .u8 0)) 5)) :=
  run_mk1 _ _ (.int .u8 0) 1 Try.underlying30 (by kernel_rfl) rfl n c hnc (by omega) (by omega) w
theorem Try.mkI (n c : Nat) (hnc : n ≤ c) (hc : c ≤ 100000000) (w : World) :
    (Instr.makeSlice 46 (.int .i64 (n : Int)) (.int .i64 (c : Int))).run Try.prog w = .ok (.slice (some ⟨w.heap.size, 0, none⟩) n c) (w.alloc (.cells (Array.replicate c (.int .i64 0)) 3)) :=
  run_mk1 _ _ (.int .i64 0) 8 Try.underlying46 (by kernel_rfl) rfl n c hnc (by omega) (by omega) w
theorem Try.mkL (n c : Nat) (hnc : n ≤ c) (hc : c ≤ 100000000) (w : World) :
    (Instr.makeSlice 112 (.int .i64 (n : Int)) (.int .i64 (c : Int))).run Try.prog w = .ok (.slice (some ⟨w.heap.size, 0, none⟩) n c) (w.alloc (.cells (Array.replicate c (.bool false)) 4)) :=
  run_mk1 _ _ (.bool false) 1 Try.underlying112 (by kernel_rfl) rfl n c hnc (by omega) (by omega) w
end Go.Proofs.Ytiicbbhjepkndaa
