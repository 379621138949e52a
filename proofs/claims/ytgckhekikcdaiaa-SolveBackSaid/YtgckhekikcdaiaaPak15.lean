/-
  Rows of rows of whole numbers that the call itself has made: written in place, swapped, appended to.
  The document's own inverses and powers (the reference) are those of the tables. Conditions: factors are bytes.
  The document's answer for a word's values, and whether it is right.
-/
import Derived.Test.YtgckhekikcdaiaaPak14
import Derived.Test.YtgckhekikcdaiaaPak4
import Derived.Test.YtgckhekikcdaiaaPak1
import Derived.RowKit3
import Derived.Test.YtgckhekikcdaiaaPak5
import Derived.Test.YtgckhekikcdaiaaPak11
namespace Go.Proofs.Ytgckhekikcdaiaa
open Go.RowKit Tri

/-- Block b is a row of at least n cells of type t, none frozen. -/
def rowX (w : World) (b : Nat) (t : TypeId) (n : Nat) (f : Nat → Value) : Prop :=
  ∃ c : Array Value, w.heap[b]? = some (.cells c t (0, 0)) ∧ n ≤ c.size ∧ ∀ i, i < n → c[i]? = some (f i)
section
variable {w : World} {b : Nat} {t : TypeId} {n : Nat} {f g : Nat → Value}
theorem rowX.cell (h : rowX w b t n f) {i : Nat} (hi : i < n) : w.cell? ⟨b, i, none⟩ = some (f i) := by
  obtain ⟨c, hb, _, hc⟩ := h
  simp [World.cell?, hb, hc i hi]
theorem rowX.frozen (h : rowX w b t n f) (i : Nat) : w.frozen? ⟨b, i, none⟩ = false := by
  obtain ⟨c, hb, _, _⟩ := h
  simp [World.frozen?, hb]
theorem rowX.lt (h : rowX w b t n f) : b < w.heap.size := by
  obtain ⟨c, hb, _, _⟩ := h
  exact (Array.getElem?_eq_some_iff.1 hb).1
theorem rowX.congr (h : rowX w b t n f) (e : ∀ i, i < n → f i = g i) : rowX w b t n g := by
  obtain ⟨c, hb, hn, hc⟩ := h
  exact ⟨c, hb, hn, fun i hi => by rw [hc i hi, e i hi]⟩
theorem rowX.of_block {w' : World} (h : rowX w b t n f) (e : w'.heap[b]? = w.heap[b]?) : rowX w' b t n f := by
  obtain ⟨c, hb, hn, hc⟩ := h
  exact ⟨c, e.trans hb, hn, hc⟩
theorem rowX.below {w' : World} (h : rowX w b t n f) (hb : Below w.heap.size w w') : rowX w' b t n f := h.of_block (hb.block b h.lt)
theorem rowX.set (h : rowX w b t n f) (i : Nat) (v : Value) : rowX (w.setCell ⟨b, i, none⟩ v) b t n (fun j => if j = i then v else f j) := by
  obtain ⟨c, hb, hn, hc⟩ := h
  refine ⟨c.setIfInBounds i v, ?_, by simpa using hn, fun j hj => ?_⟩
  · simp [World.setCell, Array.getElem?_modify, hb]
  · rw [Array.getElem?_setIfInBounds]
    by_cases e : j = i
    · subst e
      rw [if_pos rfl, if_pos (by omega)]
      show some v = some (if j = j then v else f j)
      rw [if_pos rfl]
    · rw [if_neg (fun h => e h.symm)]
      show c[j]? = some (if j = i then v else f j)
      rw [if_neg e]
      exact hc j hj
theorem rowX.setOther (h : rowX w b t n f) {a : Addr} (ha : b ≠ a.block) (v : Value) : rowX (w.setCell a v) b t n f := h.of_block (heap_setCell_other w a b v ha)
theorem rowX.of_owns {base cap : Nat} {xs : List Value} (h : w.ownsRow base t 1 (.slice (some ⟨b, 0, none⟩) n cap) n xs) (hf : ∀ i, i < n → xs[i]? = some (f i)) : rowX w b t n f ∧ base ≤ b ∧ n ≤ cap := by
  rcases h.2 with ⟨h1, _⟩ | ⟨g', cap', cur, h1, h2, h3, h4, h5, h6, h7⟩
  · cases h1
  · simp only [Value.slice.injEq, Option.some.injEq, Addr.mk.injEq, and_true, true_and] at h1
    obtain ⟨rfl, rfl⟩ := h1
    refine ⟨⟨cur, h3, by omega, fun i hi => ?_⟩, h2, h4⟩
    have h8 : (cur.toList.take (n * 1))[i]? = xs[i]? := by rw [h7]
    rw [List.getElem?_take_of_lt (by omega), Array.getElem?_toList, hf i hi] at h8
    exact h8
end
theorem rowK_rowX {w : World} {base : Nat} {v : Value} {l : List Nat} (h : rowK w base 3 .i64 v l) (hl : l ≠ []) : ∃ b c, v = .slice (some ⟨b, 0, none⟩) l.length c ∧ rowX w b 3 l.length (fun i => .int .i64 (l.getD i 0 : Nat)) ∧ base ≤ b ∧ l.length ≤ c := by
  have h' := h
  rcases h.2 with ⟨_, h0⟩ | ⟨g, cap, cur, rfl, h2, h3, h4, h5, h6, h7⟩
  · exact absurd (List.eq_nil_of_length_eq_zero h0) hl
  · obtain ⟨a1, a2, a3⟩ := rowX.of_owns (f := fun i => .int .i64 (l.getD i 0 : Nat)) h' (fun i hi => by rw [List.getElem?_map, List.getElem?_eq_getElem hi, List.getD_eq_getElem?_getD, List.getElem?_eq_getElem hi]; rfl)
    exact ⟨g, cap, rfl, a1, a2, a3⟩
/-- Rows of whole numbers, one beside the other. -/
structure MatW (w : World) (base G r m : Nat) (B C : Nat → Nat) (M : Nat → Nat → Nat) : Prop where
  g : rowX w G 41 r (fun i => .slice (some ⟨B i, 0, none⟩) m (C i))
  row : ∀ i, i < r → rowX w (B i) 3 m (fun c => .int .i64 (M i c : Nat))
  inj : ∀ i j, i < r → j < r → B i = B j → i = j
  cap : ∀ i, i < r → m ≤ C i
  gb : base ≤ G
  bb : ∀ i, i < r → base ≤ B i
section
variable {w : World} {base G r m : Nat} {B C : Nat → Nat} {M : Nat → Nat → Nat}
theorem rowX.apart {w : World} {b b' n n' : Nat} {f f' : Nat → Value} (h : rowX w b 41 n f) (h' : rowX w b' 3 n' f') : b ≠ b' := by
  intro e
  subst e
  obtain ⟨c, h1, _⟩ := h
  obtain ⟨c', h2, _⟩ := h'
  rw [h1] at h2
  simp at h2
theorem MatW.below {w' : World} (h : MatW w base G r m B C M) (hb : Below w.heap.size w w') : MatW w' base G r m B C M := ⟨h.g.below hb, fun i hi => (h.row i hi).below hb, h.inj, h.cap, h.gb, h.bb⟩
theorem MatW.drew (h : MatW w base G r m B C M) : MatW w.drew base G r m B C M := ⟨h.g, h.row, h.inj, h.cap, h.gb, h.bb⟩
theorem MatW.congr {M' : Nat → Nat → Nat} (h : MatW w base G r m B C M) (e : ∀ i, i < r → ∀ c, c < m → M i c = M' i c) : MatW w base G r m B C M' :=
  ⟨h.g, fun i hi => (h.row i hi).congr fun c hc => by rw [e i hi c hc], h.inj, h.cap, h.gb, h.bb⟩
theorem MatW.set (h : MatW w base G r m B C M) {i : Nat} (hi : i < r) (c y : Nat) : MatW (w.setCell ⟨B i, c, none⟩ (.int .i64 (y : Nat))) base G r m B C (fun a b => if a = i ∧ b = c then y else M a b) := by
  refine ⟨h.g.setOther (h.g.apart (h.row i hi)) _, fun a ha => ?_, h.inj, h.cap, h.gb, h.bb⟩
  by_cases e : a = i
  · subst e
    refine ((h.row a ha).set c _).congr fun b _ => ?_
    show (if b = c then _ else _) = _
    by_cases hb : b = c
    · rw [if_pos hb, if_pos ⟨rfl, hb⟩]
    · rw [if_neg hb, if_neg (fun h => hb h.2)]
  · refine ((h.row a ha).setOther (fun hh => e (h.inj a i ha hi hh)) _).congr fun b _ => ?_
    rw [if_neg (fun h => e h.1)]
theorem MatW.other (h : MatW w base G r m B C M) {ob : Nat} (ho : ob < base) (i : Nat) (v : Value) : MatW (w.setCell ⟨ob, i, none⟩ v) base G r m B C M :=
  ⟨h.g.setOther (a := ⟨ob, i, none⟩) (by have := h.gb; show G ≠ ob; omega) v, fun k hk => (h.row k hk).setOther (a := ⟨ob, i, none⟩) (by have := h.bb k hk; show B k ≠ ob; omega) v, h.inj, h.cap, h.gb, h.bb⟩
theorem MatW.swap (h : MatW w base G r m B C M) {a b : Nat} (ha : a < r) (hb : b < r) :
    MatW ((w.setCell ⟨G, a, none⟩ (.slice (some ⟨B b, 0, none⟩) m (C b))).setCell ⟨G, b, none⟩ (.slice (some ⟨B a, 0, none⟩) m (C a))) base G r m (swapF a b B) (swapF a b C) (swapF a b M) := by
  have hlt : ∀ i, i < r → ∃ k, k < r ∧ swapF a b B i = B k ∧ swapF a b C i = C k ∧ swapF a b M i = M k := by
    intro i hi
    unfold swapF
    split
    · exact ⟨b, hb, rfl, rfl, rfl⟩
    · split
      · exact ⟨a, ha, rfl, rfl, rfl⟩
      · exact ⟨i, hi, rfl, rfl, rfl⟩
  refine ⟨?_, fun i hi => ?_, fun i j hi hj hij => ?_, fun i hi => ?_, h.gb, fun i hi => ?_⟩
  · refine ((h.g.set a _).set b _).congr fun i hi => ?_
    unfold swapF
    by_cases e1 : i = b
    · rw [if_pos e1]
      by_cases e2 : i = a
      · rw [if_pos e2, if_pos e2]
        have : a = b := by omega
        rw [this]
      · rw [if_neg e2, if_pos e1, if_neg e2, if_pos e1]
    · rw [if_neg e1]
      by_cases e2 : i = a
      · rw [if_pos e2, if_pos e2, if_pos e2]
      · rw [if_neg e2, if_neg e2, if_neg e1, if_neg e2, if_neg e1]
  · obtain ⟨k, hk, e1, e2, e3⟩ := hlt i hi
    rw [e1, e3]
    have hne := (h.g.apart (h.row k hk)).symm
    exact ((h.row k hk).setOther (a := ⟨G, a, none⟩) hne _).setOther (a := ⟨G, b, none⟩) hne _
  · unfold swapF at hij
    by_cases i1 : i = a <;> by_cases j1 : j = a
    · omega
    · rw [if_pos i1, if_neg j1] at hij
      split at hij
      · rename_i h2
        have := h.inj b a hb ha hij
        omega
      · rename_i h2
        have := h.inj b j hb hj hij
        omega
    · rw [if_neg i1, if_pos j1] at hij
      split at hij
      · have := h.inj a b ha hb hij
        omega
      · have := h.inj i b hi hb hij
        omega
    · rw [if_neg i1, if_neg j1] at hij
      split at hij
      · split at hij
        · omega
        · have := h.inj a j ha hj hij
          omega
      · split at hij
        · have := h.inj i a hi ha hij
          omega
        · exact h.inj i j hi hj hij
  · obtain ⟨k, hk, e1, e2, e3⟩ := hlt i hi
    rw [e2]; exact h.cap k hk
  · obtain ⟨k, hk, e1, e2, e3⟩ := hlt i hi
    rw [e1]; exact h.bb k hk
end
def updF {α : Type} (f : Nat → α) (i : Nat) (y : α) (k : Nat) : α := if k = i then y else f k
/-- Rows, as they are appended. -/
structure MatC (w : World) (base : Nat) (v : Value) (i m : Nat) (B C : Nat → Nat) (M : Nat → Nat → Nat) : Prop where
  o : w.ownsRow base 41 1 v i ((List.range i).map fun j => Value.slice (some ⟨B j, 0, none⟩) m (C j))
  nn : ∃ G cap, v = .slice (some ⟨G, 0, none⟩) i cap
  row : ∀ j, j < i → rowX w (B j) 3 m (fun c => .int .i64 (M j c : Nat))
  inj : ∀ j k, j < i → k < i → B j = B k → j = k
  cap : ∀ j, j < i → m ≤ C j
  bb : ∀ j, j < i → base ≤ B j
theorem MatC.start {w : World} {base : Nat} (hb : base ≤ w.heap.size) (m : Nat) (B C : Nat → Nat) (M : Nat → Nat → Nat) : MatC (w.alloc (.cells #[] 41)) base (.slice (some ⟨w.heap.size, 0, none⟩) 0 0) 0 m B C M :=
  ⟨World.ownsRow_lit w #[] 0 hb (by unfold maxLen; omega) rfl, ⟨_, _, rfl⟩, fun j hj => by omega, fun j k hj => by omega, fun j hj => by omega, fun j hj => by omega⟩
theorem MatC.mat {w : World} {base : Nat} {v : Value} {r m : Nat} {B C : Nat → Nat} {M : Nat → Nat → Nat} (h : MatC w base v r m B C M) : ∃ G cap, v = .slice (some ⟨G, 0, none⟩) r cap ∧ r ≤ cap ∧ MatW w base G r m B C M := by
  obtain ⟨G, cap, rfl⟩ := h.nn
  obtain ⟨h1, h2, h3⟩ := rowX.of_owns (f := fun j => Value.slice (some ⟨B j, 0, none⟩) m (C j)) h.o (fun i hi => by rw [List.getElem?_map, List.getElem?_range hi]; rfl)
  exact ⟨G, cap, rfl, h3, h1, h.row, h.inj, h.cap, h2, h.bb⟩
theorem MatC.below {w w' : World} {base : Nat} {v : Value} {r m : Nat} {B C : Nat → Nat} {M : Nat → Nat → Nat} (h : MatC w base v r m B C M) (hb : Below w.heap.size w w') : MatC w' base v r m B C M := by
  refine ⟨?_, h.nn, fun j hj => (h.row j hj).below hb, h.inj, h.cap, h.bb⟩
  refine ⟨h.o.1, h.o.2.imp id fun ⟨g, cap, cur, h4, h5, h6, h7⟩ => ⟨g, cap, cur, h4, h5, ?_, h7⟩⟩
  rw [hb.block g (Array.getElem?_eq_some_iff.1 h6).1]; exact h6
theorem Try.infoRI : (Try.prog.info? 41).map (fun i => (i.zero, i.size, i.bytes)) = some (some (.slice none 0 0), 1, 24) := by kernel_rfl
theorem wpList_pushM {wr : World} {ops : Array Oper} {rest : List Oper} {o : Oper} {a : Act} {Q : Exit → Act → World → Prop} (hgd : o.guard = none) (s x : Operand) (t : TypeId)
    (ho : o.op = .call { callee := .builtin .append, args := #[s, x], argTypes := #[t, t] })
    (base : Nat) (inf : TypeInfo) (ht : Try.prog.underlying t = some (.slice 41)) (hinf : Try.prog.info? 41 = some inf) (hz : inf.zero = some (.slice none 0 0)) (hsize : inf.size = 1) (hby : inf.bytes = 24)
    (v : Value) (i m : Nat) (B C : Nat → Nat) (M : Nat → Nat → Nat) (hM : MatC wr base v i m B C M) (hs : a.eval s = v)
    (b c : Nat) (R : Nat → Nat) (hr : rowX wr b 3 m (fun c => .int .i64 (R c : Nat))) (hnew : ∀ j, j < i → B j ≠ b) (hbb : base ≤ b) (hcap : m ≤ c)
    (g : Nat) (hx : a.eval x = .slice (some ⟨g, 0, none⟩) 1 1) (hg : g = wr.heap.size) (hlen : i ≤ 1000000) (hbase : base ≤ wr.heap.size)
    (h : ∀ v' w', MatC w' base v' (i + 1) m (updF B i b) (updF C i c) (updF M i R) → Below base wr w' → wpList Try.prog ops Q rest (a.put o.dst v') w') :
    wpList Try.prog ops Q (o :: rest) a (wr.alloc (.cells #[.slice (some ⟨b, 0, none⟩) m c] 41)) := by
  subst hg
  refine wpList_append_own (wr.alloc (.cells #[.slice (some ⟨b, 0, none⟩) m c] 41)) hgd s x t ho base 41 inf (.slice none 0 0) 1 24 ht hinf hz hsize hby rfl (by decide) v i _ hs (hM.o.alloc _)
    ⟨wr.heap.size, 0, none⟩ 1 1 [Value.slice (some ⟨b, 0, none⟩) m c] hx rfl ?_ ?_ ?_ ?_ ?_ ?_
  · intro j u hj
    match j with
    | 0 =>
      simp only [List.getElem?_cons_zero, Option.some.injEq] at hj
      subst hj
      exact World.cell?_alloc_new wr #[.slice (some ⟨b, 0, none⟩) m c] 41 0
    | j + 1 => simp at hj
  · intro u hu; simp only [List.mem_singleton] at hu; subst hu; rfl
  · unfold maxLen; omega
  · omega
  · simp; omega
  · intro v' w' h2 h3 h4
    have hkeep : ∀ {b' : Nat} {f : Nat → Value}, rowX wr b' 3 m f → rowX w' b' 3 m f := by
      intro b' f hr'
      refine hr'.of_block ?_
      have hlt := hr'.lt
      rw [h3.block b' (by simp; omega) ?_]
      · exact Below.heap_alloc wr _ b' hlt
      · intro e
        obtain ⟨G, cap, rfl⟩ := hM.nn
        simp only [Value.ownBlock, Option.some.injEq] at e
        subst e
        have h5 := rowX.of_owns (f := fun j => Value.slice (some ⟨B j, 0, none⟩) m (C j)) hM.o (fun i hi => by rw [List.getElem?_map, List.getElem?_range hi]; rfl)
        exact (h5.1.apart hr') rfl
    have hB : ∀ j, j < i → updF B i b j = B j := fun j hj => if_neg (by omega)
    have hC : ∀ j, j < i → updF C i c j = C j := fun j hj => if_neg (by omega)
    refine h v' w' ⟨?_, ?_, fun j hj => ?_, fun j k hj hk e => ?_, fun j hj => ?_, fun j hj => ?_⟩ ?_
    · rw [List.range_succ, List.map_append]
      have e1 : (List.range i).map (fun j => Value.slice (some ⟨updF B i b j, 0, none⟩) m (updF C i c j)) = (List.range i).map fun j => Value.slice (some ⟨B j, 0, none⟩) m (C j) := by
        apply List.map_congr_left
        intro j hj
        have hj := List.mem_range.1 hj
        rw [hB j hj, hC j hj]
      have e2 : [i].map (fun j => Value.slice (some ⟨updF B i b j, 0, none⟩) m (updF C i c j)) = [Value.slice (some ⟨b, 0, none⟩) m c] := by
        unfold updF
        simp
      rw [e1, e2]
      exact h2
    · rcases h2.2 with ⟨_, h0⟩ | ⟨g', cap', _, e, _⟩
      · omega
      · exact ⟨g', cap', e⟩
    · by_cases e : j = i
      · subst e
        unfold updF
        rw [if_pos rfl, if_pos rfl]
        exact hkeep hr
      · unfold updF
        rw [if_neg e, if_neg e]
        exact hkeep (hM.row j (by omega))
    · unfold updF at e
      by_cases e1 : j = i <;> by_cases e2 : k = i
      · omega
      · rw [if_pos e1, if_neg e2] at e
        exact absurd e.symm (hnew k (by omega))
      · rw [if_neg e1, if_pos e2] at e
        exact absurd e (hnew j (by omega))
      · rw [if_neg e1, if_neg e2] at e
        exact hM.inj j k (by omega) (by omega) e
    · unfold updF
      split
      · exact hcap
      · exact hM.cap j (by omega)
    · unfold updF
      split
      · exact hbb
      · exact hM.bb j (by omega)
    · have hb0 : Below base wr (wr.alloc (.cells #[.slice (some ⟨b, 0, none⟩) m c] 41)) := ((Below.refl _ _).alloc (Nat.le_refl _) _).mono hbase
      refine hb0.grown h3 (by simp; omega) ?_
      intro k hk
      exact (hM.o.lt k hk).1
end Go.Proofs.Ytgckhekikcdaiaa

namespace Go.Proofs.Ytgckhekikcdaiaa
open Go.RowKit Tri

/-- The inverse as it is tried. -/
def rinv (a : Nat) : Nat := if a = 0 then 0 else ginv a
theorem rinv_lt (a : Nat) : rinv a < 256 := by unfold rinv; split <;> simp [ginv_lt]
theorem ginv_uniq (a b : Nat) (hb : b < 256) (h : gmul a b = 1) : b = rinv a := by
  by_cases e : a = 0
  · subst e; rw [zero_gmul] at h; omega
  · unfold rinv
    rw [if_neg e, ← gmul_one (ginv a) (ginv_lt a), ← h, ← gmul_assoc, gmul_comm (ginv a) a, gmul_ginv a e, one_gmul b hb]
set_option maxHeartbeats 400000 in
set_option maxRecDepth 100000 in
theorem ref_Inv (a : Nat) (ha : a < 256) (w : World) :
    Calls Try.prog 65 #[.int .i64 a] w fun e w' => e = .returned (.int .i64 (rinv a)) ∧ w = w' := by
  go_enter Try.func65, Try.ntmps65
  go_wp2
  go_loop [3] (fun i => ∃ k : Nat, k ≤ 256 ∧ i = .int .i64 k ∧ ∀ j, j < k → gmul a j ≠ 1) (fun i => 256 - (intOf i).toNat)
  case atStart => exact ⟨0, by omega, rfl, fun j hj => by omega⟩
  case round =>
    obtain ⟨k, hk, rfl, hno⟩ := hrel
    have HN := hid hno
    clear hno
    by_cases hlt : k < 256
    · go_wp2_with fail
      go_call ref_Mul a k ha hlt _ as e w' ⟨rfl, rfl⟩
      by_cases h1 : gmul a k = 1
      · have h1' : ((gmul a k : Int) == 1) = true := by simp; omega
        have he : Hid (k = rinv a) := ginv_uniq a k hlt h1
        clear h1
        go_wp2
        go_ret
        exact ⟨by rw [← he.out]; rfl, rfl⟩
      · have h1' : ((gmul a k : Int) == 1) = false := by simp; omega
        have H1 := hid h1
        clear h1
        go_wp2
        go_round
        case rel => exact ⟨k + 1, by omega, by go_num, fun j hj => by
          by_cases e : j = k
          · rw [e]; exact H1.out
          · exact HN.out j (by omega)⟩
        case measure => simp [intOf]; omega
    · have he : Hid (rinv a = 0) := by
        show rinv a = 0
        by_cases e : a = 0
        · rw [e]; rfl
        · exact absurd (gmul_ginv a e) (HN.out _ (by have := ginv_lt a; omega))
      go_wp2
      go_ret
      exact ⟨by rw [he.out]; rfl, rfl⟩
theorem gexp_one : gexp 1 = 2 := by decide +kernel
set_option maxHeartbeats 400000 in
set_option maxRecDepth 100000 in
theorem ref_Exp (n : Nat) (hn : n < 9223372036854775808) (w : World) :
    Calls Try.prog 64 #[.int .i64 n] w fun e w' => e = .returned (.int .i64 (gexp n)) ∧ w = w' := by
  have hm : Hid (gexp (n % 255) = gexp n) := gexp_mod n
  have hmod : Hid ((n : Int).tmod 255 = ((n % 255 : Nat) : Int)) := by show _ = _; rw [Int.tmod_eq_emod_of_nonneg (by omega)]; omega
  go_enter Try.func64, Try.ntmps64
  go_wp2
  go_loop [3, 4] (fun p i => ∃ k : Nat, k ≤ n % 255 ∧ i = .int .i64 k ∧ p = .int .i64 (gexp k)) (fun _ i => 255 - (intOf i).toNat)
  case atStart => exact ⟨0, by omega, rfl, rfl⟩
  case round =>
    obtain ⟨k, hk, rfl, rfl⟩ := hrel
    by_cases hlt : k < n % 255
    · have hg := gexp_lt k
      have hs : Hid (gmul (gexp k) 2 = gexp (k + 1)) := by show _ = _; rw [← gexp_one, gmul_gexp]
      have ht : (k : Int) < (n : Int) % 255 := by omega
      go_wp2_with fail
      refine (ref_Mul (gexp k) 2 hg (by omega) _).mono ?_
      rintro e w' ⟨rfl, rfl⟩
      go_wp2
      go_round
      case rel => exact ⟨k + 1, by omega, by go_num, by rw [hs.out]⟩
      case measure => simp [intOf]; omega
    · have ht : ¬ (k : Int) < (n : Int) % 255 := by omega
      have he : Hid (k = n % 255) := (show k = n % 255 by omega)
      go_wp2
      go_ret
      exact ⟨by rw [← hm.out, ← he.out]; rfl, rfl⟩
end Go.Proofs.Ytgckhekikcdaiaa

namespace Tri
theorem gexp_two (i : Nat) : gmul (gexp i) 2 = gexp (i + 1) := by
  have h : (2 : Nat) = gexp 1 := by decide +kernel
  conv => lhs; rw [h]
  exact gmul_gexp i 1
end Tri
namespace Go.Proofs.Ytgckhekikcdaiaa
open Go.RowKit Tri

set_option maxHeartbeats 2000000 in
set_option maxRecDepth 100000 in
theorem ref6_Values (p : Option Addr) (n c : Nat) (word : List Nat) (many : Nat) (w : World) (hn : n = word.length) (hp : cellsB w p word) (hb : bytesL word) (hl : word.length ≤ 1000) (hm : many ≤ 1000) :
    Calls Try.prog 63 #[.slice p n c, .int .i64 many] w (RetI w (synd word many)) := by
  subst hn
  have HP := hid hp
  have HB := hid hb
  clear hp hb
  obtain ⟨i0, hi, hz0, hz1, hz2⟩ := info_parts Try.infoI
  have HST : Hid (∀ j, j < many → (synd word many).take (j + 1) = (synd word many).take j ++ [peval (gexp j) word]) := fun j hj => synd_take word many j hj
  have HSl := hid (synd_length word many)
  generalize synd word many = S at *
  (go_enter Try.func63, Try.ntmps63; try simp only [List.append])
  go_wp2_with ((with_reducible refine wpList_unguard ?_ ?_); (focus rfl))
  refine Calls.mono (ref5_Of p _ c word w rfl HP.out HB.out (by omega)) ?_
  rintro e w1 ⟨p1, c1, rfl, hle1, hc1, hbel⟩
  have HW1 := hid hc1
  have HBel := hid hbel
  have HWB := hid (rof_bytes HB.out)
  have HRv : Hid (∀ x, reval (rof word) x = peval x word) := fun x => reval_rof x HB.out
  have hwl : (rof word).length ≤ 1000 := by rw [rof_length]; have := trim_length_le word; omega
  clear hc1 hbel
  generalize rof word = W at *
  have hown0 : Hid (ownsI (w1.alloc (.cells #[] 3)) w1.heap.size (.slice (some ⟨w1.heap.size, 0, none⟩) 0 0) []) := World.ownsRow_lit w1 #[] 0 (Nat.le_refl _) (by unfold maxLen; omega) rfl
  have hb1 : Below w1.heap.size w1 (w1.alloc (.cells #[] 3)) := (Below.refl _ _).alloc (Nat.le_refl _) _
  have hB1 := hid hb1
  clear hb1
  go_wp2_with ((with_reducible refine wpList_unguard ?_ ?_); (focus rfl))
  go_loopw [6, 7, 8] (fun s t i wr => ∃ j : Nat, j ≤ many ∧ i = .int .i64 j ∧ t = .int .i64 (gexp j : Nat) ∧ ownsI wr w1.heap.size s (S.take j) ∧ Below w1.heap.size w1 wr) (fun _ _ i _ => many - (intOf i).toNat)
  case atStart => exact ⟨0, Nat.zero_le _, rfl, rfl, hown0.out, hB1.out⟩
  case round =>
    obtain ⟨j, hj, rfl, rfl, hO, hK1⟩ := hrel
    have HO := hid hO
    have K1 := hid hK1
    clear hO hK1 hown0 hB1
    by_cases hlt : j < many
    · have HS := hid (HST.out j hlt)
      have hgl := gexp_lt j
      have hkl : (S.take j).length ≤ 1000000 := by rw [List.length_take, HSl.out]; omega
      have HG := hid (gexp_two j)
      generalize hs2 : S.take (j + 1) = S2 at *
      have HS2 := hid hs2
      clear hs2
      generalize S.take j = S1 at *
      generalize hg2 : gexp (j + 1) = x2 at *
      have HG2 := hid hg2
      clear hg2
      generalize gexp j = x at *
      go_wp2_with ((with_reducible refine wpList_unguard ?_ ?_); (focus rfl))
      refine Calls.mono (ref5_Eval p1 _ c1 W x wr rfl (HW1.out.below K1.out) HWB.out hgl (by omega)) ?_; rintro e w' ⟨rfl, rfl⟩
      rw [HRv.out]
      generalize peval x word = y at *
      go_wp2_with (at_builtin; refine wpList_push rfl _ _ 41 rfl w1.heap.size 3 i0 .i64 8 Try.underlying41 hi hz0 hz1 hz2 (by decide) _ S1 y HO.out rfl _ rfl rfl hkl K1.out.size ?_)
      intro v' w' hown' hbel
      have hO' : Hid (ownsI w' w1.heap.size v' S2) := by show ownsI _ _ _ _; rw [HS.out]; exact hown'
      have K1' := hid (K1.out.trans hbel)
      clear hown' hbel
      go_wp2_with ((with_reducible refine wpList_unguard ?_ ?_); (focus rfl))
      refine Calls.mono (ref_Mul x 2 hgl (by omega) _) ?_; rintro e w' ⟨rfl, rfl⟩
      rw [HG.out]
      go_wp2_with ((with_reducible refine wpList_unguard ?_ ?_); (focus rfl))
      go_roundw
      case rel => exact ⟨j + 1, by omega, by go_num, by rw [HG2.out], by rw [HS2.out]; exact hO'.out, K1'.out⟩
      case measure => simp [intOf]; omega
    · have hT : Hid (S.take j = S) := by show _ = _; exact List.take_of_length_le (by rw [HSl.out]; omega)
      rw [hT.out] at HO
      obtain ⟨p', c', rfl, hle, hcr⟩ := HO.out.cells
      have HC := hid hcr
      clear hcr
      go_wp2_with ((with_reducible refine wpList_unguard ?_ ?_); (focus rfl))
      go_ret
      exact ⟨p', c', rfl, hle, HC.out, HBel.out.trans (K1.out.mono HBel.out.size)⟩
end Go.Proofs.Ytgckhekikcdaiaa
