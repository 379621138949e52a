/-
  Copy of a text into an array; an array stored whole; arrays of bytes as blocks.
-/
import Derived.Test.YtiailpbmmadaeaaBlk
import Derived.Test.YtiailpbmmadaeaaStr
import Derived.Lib.LazyBuf
import Derived.Deep.MidRow
namespace Go.Proofs.Ytiailpbmmadaeaa
open Go.RowKit

def setL (a : Array Value) (o : Nat) : List Value → Array Value
  | [] => a
  | v :: r => setL (a.setIfInBounds o v) (o + 1) r
theorem Blk.setCells {B : Nat} {t : TypeId} : ∀ (cs : List Value) (o : Nat) {w : World} {vs : Array Value}, Blk w B t vs → Blk (w.setCells B o cs) B t (setL vs o cs)
  | [], _, _, _, h => h
  | v :: r, o, _, _, h => Blk.setCells r (o + 1) (h.set o v)
theorem Blk.setCellsOther {B : Nat} {t : TypeId} {vs : Array Value} (b : Nat) (hb : B ≠ b) : ∀ (cs : List Value) (o : Nat) {w : World}, Blk w B t vs → Blk (w.setCells b o cs) B t vs
  | [], _, _, h => h
  | v :: r, o, _, h => Blk.setCellsOther b hb r (o + 1) (h.setOther ⟨b, o, none⟩ v hb)
theorem belowSetCells {n : Nat} {a : World} (b : Nat) (hb : n ≤ b) : ∀ (cs : List Value) (o : Nat) {w : World}, Below n a w → Below n a (w.setCells b o cs)
  | [], _, _, h => h
  | v :: r, o, _, h => belowSetCells b hb r (o + 1) (h.setCell (p := ⟨b, o, none⟩) hb v)
theorem setL_size (a : Array Value) : ∀ (o : Nat) (cs : List Value), (setL a o cs).size = a.size := by
  intro o cs
  induction cs generalizing a o with
  | nil => rfl
  | cons v r ih => unfold setL; rw [ih]; simp
theorem setL_toList (cs : List Value) : ∀ (a : Array Value) (o : Nat), o + cs.length ≤ a.size → (setL a o cs).toList = a.toList.take o ++ (cs ++ a.toList.drop (o + cs.length)) := by
  induction cs with
  | nil => intro a o h; simp [setL]
  | cons v r ih =>
    intro a o h
    simp only [List.length_cons] at h
    unfold setL
    rw [ih _ _ (by simp; omega)]
    simp only [Array.toList_setIfInBounds, List.length_cons]
    have hl : o < a.toList.length := by simp; omega
    rw [List.set_eq_take_append_cons_drop, if_pos hl]
    have h1 : (a.toList.take o).length = o := by simp; omega
    have e1 : (a.toList.take o ++ v :: a.toList.drop (o + 1)).take (o + 1) = a.toList.take o ++ [v] := by
      rw [List.take_append, List.take_of_length_le (l := a.toList.take o) (by rw [h1]; omega), h1, show o + 1 - o = 1 from by omega]
      rfl
    have e2 : (a.toList.take o ++ v :: a.toList.drop (o + 1)).drop (o + 1 + r.length) = a.toList.drop (o + (r.length + 1)) := by
      rw [List.drop_append, List.drop_of_length_le (l := a.toList.take o) (by rw [h1]; omega), h1, show o + 1 + r.length - o = r.length + 1 from by omega]
      rw [List.nil_append, List.drop_succ_cons, List.drop_drop]
      congr 1
      omega
    rw [e1, e2]
    simp

/-- Bytes as cells. -/
def blkB (l : List Nat) : Array Value := (l.map fun x => Value.int .u8 (x : Nat)).toArray
theorem blkB_size (l : List Nat) : (blkB l).size = l.length := by simp [blkB]
theorem blkB_toList (l : List Nat) : (blkB l).toList = l.map fun x => Value.int .u8 (x : Nat) := by simp [blkB]
theorem Blk.cellsB {w : World} {B : Nat} {t : TypeId} {l : List Nat} (h : Blk w B t (blkB l)) : cellsB w (some ⟨B, 0, none⟩) l := by
  intro i hi
  refine ⟨_, _, rfl, h.cell _ _ ?_⟩
  rw [Nat.zero_add, ← Array.getElem?_toList, blkB_toList, List.getElem?_map, List.getElem?_eq_getElem hi]
  simp [hi]
theorem setL_blkB (l m : List Nat) (o : Nat) (h : o + m.length ≤ l.length) : setL (blkB l) o (m.map fun x => Value.int .u8 (x : Nat)) = blkB (l.take o ++ (m ++ l.drop (o + m.length))) := by
  apply Array.ext'
  rw [setL_toList _ _ _ (by rw [blkB_size, List.length_map]; exact h), blkB_toList, blkB_toList]
  simp

theorem run_copy_str {P : Program} (w : World) (dT sT ty elem T : TypeId) (b o dLen dCap n : Nat) (t : ByteArray) (vs : Array Value)
    (hu : P.underlying dT = some (.slice elem)) (hz : ∀ w, (Go.sizeOf elem).run P w = .ok 1 w) (hn : n = Nat.min t.size dLen)
    (hB : Blk w b T vs) (hfit : o + n ≤ vs.size) :
    (Builtin.copy_ #[dT, sT] ty #[.slice (some ⟨b, o, none⟩) dLen dCap, .string t]).run P w = .ok (goInt n) (w.setCells b o ((sb t).take n |>.map fun x => Value.int .u8 (x : Nat))) := by
  subst hn
  have hm : ((sb t).take (Nat.min t.size dLen)).map (fun x => Value.int .u8 ((x : Nat) : Int)) = (t.data.toList.map fun x => Value.int .u8 (x.toNat : Int)).take (Nat.min t.size dLen) := by
    unfold sb
    simp only [List.map_take, List.map_map]
    rfl
  have hl : ((t.data.toList.map fun x => Value.int .u8 (x.toNat : Int)).take (Nat.min t.size dLen)).length = Nat.min t.size dLen := by
    rw [List.length_take, List.length_map, ← Lib.size_eq]
    exact Nat.min_eq_left (Nat.min_le_left _ _)
  have hst := run_storeCells_cells (P := P) b o ((t.data.toList.map fun x => Value.int .u8 (x.toNat : Int)).take (Nat.min t.size dLen)) 0 w (by
      rw [hl]; intro j hj
      have : j + o < vs.size := by omega
      rw [Nat.add_zero, hB.cell (o + j) (vs[o + j]'(by omega)) (Array.getElem?_eq_getElem (by omega))]; rfl) (by
      rw [hl]; intro j _; exact hB.free _) (by
    intro v hv
    obtain ⟨x, _, rfl⟩ := List.mem_map.1 (List.mem_of_mem_take hv)
    rfl)
  rw [hm]
  simp [Builtin.copy_, run_underlying hu, Builtin.lenOf, Builtin.firstCells, hz]
  rw [hst]
  rfl
theorem wpList_copy_str {P : Program} {w : World} {ops : Array Oper} {rest : List Oper} {o : Oper} {a : Act} {Q : Exit → Act → World → Prop} (hgd : o.guard = none) (d s : Operand) (dT sT : TypeId)
    (ho : o.op = .call { callee := .builtin .copy, args := #[d, s], argTypes := #[dT, sT] }) (elem T : TypeId) (hu : P.underlying dT = some (.slice elem)) (hz : ∀ w, (Go.sizeOf elem).run P w = .ok 1 w)
    (b off dLen dCap n : Nat) (t : ByteArray) (l : List Nat) (hd : a.eval d = .slice (some ⟨b, off, none⟩) dLen dCap) (hs : a.eval s = .string t) (hn : n = Nat.min t.size dLen)
    (hB : Blk w b T (blkB l)) (hfit : off + n ≤ l.length) (base : Nat) (w0 : World) (hb : Below base w0 w) (hbase : base ≤ b) (m : List Nat) (hm : l.take off ++ ((sb t).take n ++ l.drop (off + n)) = m)
    (h : ∀ w', Hid (Blk w' b T (blkB m)) → Hid (Below base w0 w') → Hid (∀ B' t' vs', B' ≠ b → Blk w B' t' vs' → Blk w' B' t' vs') → wpList P ops Q rest (a.put o.dst (goInt n)) w') :
    wpList P ops Q (o :: rest) a w := by
  refine wpList_plain hgd fun K hK => ?_
  have hrun := run_copy_str (P := P) w dT sT o.type elem T b off dLen dCap n t (blkB l) hu hz hn hB (by rw [blkB_size]; exact hfit)
  unfold Oper.wp
  simp [execOp, ho, resolve, invoke, builtin, hd, hs, hrun, Result.andThen]
  have hlen : ((sb t).take n).length = n := by rw [List.length_take, sb_length, hn]; exact Nat.min_eq_left (Nat.min_le_left _ _)
  refine hK _ _ (h _ ?_ (hid (belowSetCells b hbase _ _ hb)) (hid fun B' t' vs' hne hB' => hB'.setCellsOther b hne _ _))
  have h2 := hB.setCells (((sb t).take n).map fun x => Value.int .u8 (x : Nat)) off
  rw [setL_blkB _ _ _ (by rw [hlen]; exact hfit), hlen] at h2
  rw [List.map_take, hm] at h2
  exact hid h2
/-- An array of bytes stored whole into a block of its own. -/
theorem wpList_store_B {P : Program} {w : World} {ops : Array Oper} {rest : List Oper} {o : Oper} {a : Act} {Q : Exit → Act → World → Prop} (hgd : o.guard = none) (ty : TypeId) (x y : Operand) (ho : o.op = .store ty x y)
    (b : Nat) (T : TypeId) (l m : List Nat) (hx : a.eval x = .pointer (some ⟨b, 0, none⟩)) (hy : a.eval y = .agg (blkB l)) (hB : Blk w b T (blkB m)) (hlm : l.length = m.length)
    (hi : (P.info? ty).map (·.size) = some l.length) (base : Nat) (w0 : World) (hb : Below base w0 w) (hbase : base ≤ b)
    (h : ∀ w', Hid (Blk w' b T (blkB l)) → Hid (Below base w0 w') → Hid (∀ B' t' vs', B' ≠ b → Blk w B' t' vs' → Blk w' B' t' vs') → wpList P ops Q rest (a.put o.dst undef) w') :
    wpList P ops Q (o :: rest) a w := by
  refine wpList_store_mid hgd ty x y ho b 0 (blkB l) hx hy ?_ (by rw [blkB_size]; exact hi) ?_ ?_
  · intro j hj
    rw [blkB_size] at hj
    refine ⟨?_, hB.free _⟩
    rw [hB.cell (0 + j) ((blkB m)[j]'(by rw [blkB_size]; omega)) (by rw [Nat.zero_add]; exact Array.getElem?_eq_getElem _)]; rfl
  · rw [Array.all_eq_true_iff_forall_mem]
    intro v hv
    simp only [blkB, List.mem_toArray, List.mem_map] at hv
    obtain ⟨x, _, rfl⟩ := hv
    rfl
  · refine h _ ?_ (hid (belowSetCells b hbase _ _ hb)) (hid fun B' t' vs' hne hB' => hB'.setCellsOther b hne _ _)
    have h2 := hB.setCells (l.map fun x => Value.int .u8 (x : Nat)) 0
    rw [setL_blkB _ _ _ (by omega)] at h2
    rw [blkB_toList]
    have e : m.take 0 ++ (l ++ m.drop (0 + l.length)) = l := by
      rw [List.take_zero, List.nil_append, Nat.zero_add, List.drop_of_length_le (by omega), List.append_nil]
    rw [e] at h2
    exact hid h2
end Go.Proofs.Ytiailpbmmadaeaa
