/-
  flash.New.
-/
import Derived.Test.YtiicbbhjepkndaaDev3
import Derived.Test.YtiicbbhjepkndaaShelf
import Derived.Test.YtiicbbhjepkndaaMk
import Derived.Test.YtiicbbhjepkndaaDevQ
import Derived.BigRegion
namespace Go.Proofs.Ytiicbbhjepkndaa
open Go.RowKit Tri

def newS (n : Nat) : FS := ⟨0, 0, -1, List.replicate (64 * n) 255, List.replicate n false, List.replicate n 0, false, 0⟩
def repS (n x : Nat) : ByteArray := ofB (List.replicate n x)
theorem rep_of (x : Nat) (n : Nat) : (⟨(Lib.repeatL (⟨#[UInt8.ofNat x]⟩ : ByteArray).data.toList n).toArray⟩ : ByteArray) = repS n x := by
  have : ∀ n, Lib.repeatL [UInt8.ofNat x] n = (List.replicate n x).map UInt8.ofNat := by
    intro n
    induction n with
    | zero => rfl
    | succ n ih => rw [List.replicate_succ, List.map_cons, ← ih]; rfl
  unfold repS ofB
  rw [← this]
theorem strRep (x n : Nat) (w : World) (hn : n ≤ 100000) :
    Calls Try.prog 21 #[.string ⟨#[UInt8.ofNat x]⟩, .int .i64 n] w fun e w' => e = .returned (.string (repS n x)) ∧ Below w.heap.size w w' := by
  refine (Try.strings_Repeat ⟨#[UInt8.ofNat x]⟩ n w (by omega) ?_).mono fun e w' h => ⟨?_, h.2⟩
  · show 1 * n ≤ _; omega
  · rw [h.1, rep_of]
theorem rowP.alloc {w : World} {B : Nat} {t : TypeId} {cs : List Value} (h : rowP w B t cs) (o : Obj) : rowP (w.alloc o) B t cs := h.below ((Below.refl w.heap.size w).alloc (Nat.le_refl _) o) h.lt
theorem rowP.newL (w : World) (t : TypeId) (cs : Array Value) (l : List Value) (hl : cs.toList = l) : rowP (w.alloc (.cells cs t)) w.heap.size t l := hl ▸ rowP.new w t cs
theorem rowP.bytes (w : World) (t : TypeId) (s : ByteArray) : rowP (Lib.bytesWorld w t s) w.heap.size t ((sb s).map fun x => Value.int .u8 (x : Nat)) := by
  refine ⟨List.replicate (grownCap w s.size 0 t - s.size) (.int .u8 0), ((Lib.bytesCells w t s).size, (Lib.bytesCells w t s).size + 1), (Lib.bytesWorld_at_new w t s).trans ?_, .inr ?_⟩
  · congr 2
    unfold Lib.bytesCells sb
    apply Array.ext'
    simp [Function.comp_def]
  · rw [List.length_map, sb_length]
    simp [Lib.bytesCells]
theorem devNew (n : Nat) (w w1 : World) (h1 : 1 ≤ n) (h5 : n ≤ 512) (hb : Below w.heap.size w w1) (swap : Bool) :
    let w2 := Lib.bytesWorld w1 5 (repS (64 * n) 255)
    let oL := Obj.cells (Array.replicate n (Value.bool false)) 4
    let oW := Obj.cells (Array.replicate n (Value.int .i64 0)) 3
    let L := if swap then w2.heap.size + 1 else w2.heap.size
    let W := if swap then w2.heap.size else w2.heap.size + 1
    let w5 := (((w2.alloc (if swap then oW else oL)).alloc (if swap then oL else oW)).alloc (.cells #[.int .i64 0, .int .u8 0, .int .i64 (-1), .slice (some ⟨w1.heap.size, 0, none⟩) (64 * n) (grownCap w1 (64 * n) 0 5), .slice (some ⟨L, 0, none⟩) n n, .slice (some ⟨W, 0, none⟩) n n, .bool false, .int .i64 0] 114)).drew
    DevP w5 ⟨w.heap.size, w5.heap.size, w2.heap.size + 1 + 1, w1.heap.size, L, W, grownCap w1 (64 * n) 0 5, n, n⟩ n (newS n) ∧ Below w.heap.size w w5 := by
  intro w2 oL oW L W w5
  have hsz : w2.heap.size = w1.heap.size + 1 := Lib.bytesWorld_size _ _ _
  have hr : rowP w2 w1.heap.size 5 ((List.replicate (64 * n) 255).map fun (x : Nat) => Value.int .u8 (x : Nat)) := by
    have h := rowP.bytes w1 5 (repS (64 * n) 255)
    rwa [show sb (repS (64 * n) 255) = List.replicate (64 * n) 255 from sb_ofB _ (by intro x hx; rw [List.mem_replicate] at hx; omega)] at h
  have hb2 : Below w.heap.size w w2 := hb.trans ((bytes_below w1 5 (repS (64 * n) 255)).mono hb.size)
  have hws := hb2.size
  have hws1 := hb.size
  have h5s : w5.heap.size = w2.heap.size + 3 := by show ((((w2.alloc _).alloc _).alloc _).drew).heap.size = _; simp
  have hbw : Below w.heap.size w w5 := (((hb2.alloc hb2.size _).alloc (by simp; omega) _).alloc (by simp; omega) _).drew
  have hok : (newS n).ok n := ⟨by simp [newS], by simp [newS], by simp [newS], h5, by simp [newS], by intro y hy; simp only [newS, List.mem_replicate] at hy; omega, by simp [newS]⟩
  have hcb : 64 * n ≤ grownCap w1 (64 * n) 0 5 := grownCap_ge _ _ _ _
  have hlr : ((Array.replicate n (Value.bool false)).toList) = (newS n).lk.map Value.bool := by simp [newS]
  have hwr : ((Array.replicate n (Value.int .i64 0)).toList) = (newS n).wr.map fun x => Value.int .i64 x := by simp [newS]
  refine ⟨⟨?_, (((hr.alloc _).alloc _).alloc _).drew, ?_, ?_, ?_, Nat.le_refl _, hok, hcb, Nat.le_refl _, Nat.le_refl _⟩, hbw⟩
  · have := rowP.new ((w2.alloc (if swap then oW else oL)).alloc (if swap then oL else oW)) 114 #[.int .i64 0, .int .u8 0, .int .i64 (-1), .slice (some ⟨w1.heap.size, 0, none⟩) (64 * n) (grownCap w1 (64 * n) 0 5), .slice (some ⟨L, 0, none⟩) n n, .slice (some ⟨W, 0, none⟩) n n, .bool false, .int .i64 0]
    have e : ((w2.alloc (if swap then oW else oL)).alloc (if swap then oL else oW)).heap.size = w2.heap.size + 1 + 1 := by simp
    rw [e] at this
    exact this.drew
  · cases swap
    · exact (((rowP.newL w2 _ _ _ hlr).alloc _).alloc _).drew
    · have := rowP.newL (w2.alloc oW) 4 _ _ hlr
      rw [show (w2.alloc oW).heap.size = w2.heap.size + 1 from by simp] at this
      exact (this.alloc _).drew
  · cases swap
    · have := rowP.newL (w2.alloc oL) 3 _ _ hwr
      rw [show (w2.alloc oL).heap.size = w2.heap.size + 1 from by simp] at this
      exact (this.alloc _).drew
    · exact (((rowP.newL w2 _ _ _ hwr).alloc _).alloc _).drew
  · cases swap <;> (unfold DI.ok; simp only [L, W, Bool.false_eq_true, if_true, if_false, reduceIte]; omega)
set_option maxHeartbeats 4000000 in
set_option maxRecDepth 100000 in
theorem dev_New (n : Nat) (w : World) (h1 : 1 ≤ n) (h5 : n ≤ 512) :
    Calls Try.prog 15 #[.int .i64 n] w fun e w' => ∃ i : DI, e = .returned (.tuple #[.pointer (some ⟨i.D, 0, none⟩), .int .i64 0]) ∧ i.lo = w.heap.size ∧ i.hi = w'.heap.size ∧ DevP w' i n (newS n) ∧ Below w.heap.size w w' := by
  have hd1 : decide ((n : Int) < 1) = false := decide_eq_false (by omega)
  have hd2 : decide ((512 : Int) < n) = false := decide_eq_false (by omega)
  have hd2' : decide ((n : Int) > 512) = false := decide_eq_false (by omega)
  have hcv := fun (w : World) (s : ByteArray) => Lib.run_convert_string_bytes (P := Try.prog) w 9 30 5 s Try.underlying9 Try.underlying30 Try.underlying5
  have hwr : wrap64 ((n : Int) * 64) = ((64 * n : Nat) : Int) := by unfold wrap64; omega
  (go_enter Try.func15, Try.ntmps15; try simp only [List.append])
  go_wp2_with ((with_reducible refine wpList_unguard ?_ ?_); (focus rfl))
  rw [show (n : Int) * 64 = ((64 * n : Nat) : Int) from by omega]
  refine Calls.mono (strRep 255 (64 * n) w (by omega)) ?_; rintro e w1 ⟨rfl, hb⟩
  have hsz : (repS (64 * n) 255).size = 64 * n := by unfold repS; rw [ofB_size]; simp
  have D0 := hid (devNew n w w1 h1 h5 hb false)
  have D1 := hid (devNew n w w1 h1 h5 hb true)
  go_wp2_with ((with_reducible refine wpList_unguard ?_ ?_); (focus rfl))
  generalize hW : Lib.bytesWorld w1 5 (repS (64 * n) 255) = w2 at *
  have mk1 := Try.mkL n n (Nat.le_refl _) (by omega)
  have mk2 := Try.mkI n n (Nat.le_refl _) (by omega)
  clear hW
  go_region
  all_goals
    go_wp2_with ((with_reducible refine wpList_unguard ?_ ?_); (focus rfl))
    go_ret2
    first
      | exact ⟨_, rfl, rfl, rfl, D0.out.1, D0.out.2⟩
      | exact ⟨_, rfl, rfl, rfl, D1.out.1, D1.out.2⟩
/-- Of a wrong number of sectors there is none. -/
theorem dev_New_no (n : Int) (w : World) (h : n < 1 ∨ 512 < n) :
    Calls Try.prog 15 #[.int .i64 n] w fun e w' => e = .returned (.tuple #[.pointer none, .int .i64 1]) ∧ w = w' := by
  rcases Int.lt_or_le n 1 with h1 | h1
  · have hd1 : decide (n < 1) = true := decide_eq_true (by omega)
    (go_enter Try.func15, Try.ntmps15; try simp only [List.append])
    go_wp2_with ((with_reducible refine wpList_unguard ?_ ?_); (focus rfl))
    go_ret2
    exact ⟨rfl, rfl⟩
  · have hd1 : decide (n < 1) = false := decide_eq_false (by omega)
    have hd2 : decide (512 < n) = true := decide_eq_true (by omega)
    (go_enter Try.func15, Try.ntmps15; try simp only [List.append])
    go_wp2_with ((with_reducible refine wpList_unguard ?_ ?_); (focus rfl))
    go_ret2
    exact ⟨rfl, rfl⟩
end Go.Proofs.Ytiicbbhjepkndaa
