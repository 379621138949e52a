/-
  Weighted sums of factors, values of derivatives, and the polynomial of some roots, in plain Lean. No program in sight.
  Codes: what is told of one in memory; a new one in the program.
  A statement whose order is open, taken in any order at once: the rule with one's own word for what may change in memory (a store need not come last).
  A statement whose order is open but for its last two operations, which wait (themselves or through others) for all that stand before them.
  A word's values in the program, and whether it is right.
-/
import Derived.Test.YtgckhekikcdaiaaPak5
import Derived.Test.YtgckhekikcdaiaaPak4
import Derived.Test.YtgckhekikcdaiaaPak2
namespace Tri
/-- The factors' sum, each taken so often as its power's weight says. -/
def ev (W : Nat → Nat) : List Nat → Nat
  | [] => 0
  | a :: l => gmul a (W l.length) ^^^ ev W l
theorem ev_lt (W : Nat → Nat) (l : List Nat) : ev W l < 256 := by
  induction l with
  | nil => exact (by decide : (0 : Nat) < 256)
  | cons a l ih => exact xor_lt (gmul_lt _ _) ih
theorem ev_trim (W : Nat → Nat) (l : List Nat) : ev W (trim l) = ev W l := by
  induction l with
  | nil => rfl
  | cons a l ih =>
    by_cases e : a = 0
    · subst e
      show ev W (trim l) = gmul 0 _ ^^^ ev W l
      rw [zero_gmul, Nat.zero_xor, ih]
    · simp only [trim, if_neg e]
theorem ev_zeros (W : Nat → Nat) (n : Nat) : ev W (List.replicate n 0) = 0 := by
  induction n with
  | zero => rfl
  | succ n ih => show gmul 0 _ ^^^ ev W (List.replicate n 0) = 0; rw [ih, zero_gmul]; rfl
theorem ev_zero (l : List Nat) : ev (fun _ => 0) l = 0 := by
  induction l with
  | nil => rfl
  | cons a l ih => show gmul a 0 ^^^ ev _ l = 0; rw [ih, gmul_zero]; rfl
theorem ev_snoc (W : Nat → Nat) (l : List Nat) (c : Nat) : ev W (l ++ [c]) = ev (fun m => W (m + 1)) l ^^^ gmul c (W 0) := by
  induction l with
  | nil => show gmul c (W 0) ^^^ 0 = 0 ^^^ gmul c (W 0); rw [Nat.xor_zero, Nat.zero_xor]
  | cons a l ih =>
    show gmul a (W (l ++ [c]).length) ^^^ ev W (l ++ [c]) = gmul a (W (l.length + 1)) ^^^ ev _ l ^^^ _
    rw [ih, List.length_append, List.length_singleton, Nat.xor_assoc]
theorem ev_congr {W V : Nat → Nat} (l : List Nat) (h : ∀ i, i < l.length → W i = V i) : ev W l = ev V l := by
  induction l with
  | nil => rfl
  | cons a l ih =>
    show gmul a (W l.length) ^^^ ev W l = gmul a (V l.length) ^^^ ev V l
    rw [h _ (by simp), ih fun i hi => h i (by rw [List.length_cons]; omega)]
theorem ev_add {W V : Nat → Nat} (hW : ∀ i, W i < 256) (hV : ∀ i, V i < 256) {l : List Nat} (hl : bytesL l) : ev (fun i => W i ^^^ V i) l = ev W l ^^^ ev V l := by
  induction l with
  | nil => exact (Nat.xor_self 0).symm
  | cons a l ih =>
    show gmul a (W l.length ^^^ V l.length) ^^^ ev _ l = (gmul a (W l.length) ^^^ ev W l) ^^^ (gmul a (V l.length) ^^^ ev V l)
    rw [gmul_xor _ _ _ hl.head (hW _) (hV _), ih hl.tail, xor4]
theorem ev_mul {W : Nat → Nat} (c : Nat) (hc : c < 256) {l : List Nat} : ev (fun i => gmul c (W i)) l = gmul c (ev W l) := by
  induction l with
  | nil => exact (gmul_zero c).symm
  | cons a l ih =>
    show gmul a (gmul c (W l.length)) ^^^ ev _ l = gmul c (gmul a (W l.length) ^^^ ev W l)
    rw [gmul_xor _ _ _ hc (gmul_lt _ _) (ev_lt _ _), ih, gmul_left_comm]
theorem ev_acc (W : Nat → Nat) (hW : ∀ i, W i < 256) (L : List Nat) (h : bytesL L) (v : Nat) (hv : v < 256) : ∀ j, j < L.length → ev W (acc L j v) = ev W L ^^^ gmul v (W (L.length - 1 - j)) := by
  induction L with
  | nil => intro j hj; simp at hj
  | cons a L ih =>
    intro j hj
    cases j with
    | zero =>
      show gmul (a ^^^ v) (W L.length) ^^^ ev W L = gmul a (W L.length) ^^^ ev W L ^^^ gmul v (W (L.length + 1 - 1 - 0))
      rw [xor_gmul _ _ _ (hW _) h.head hv, Nat.add_sub_cancel, Nat.sub_zero, Nat.xor_assoc, Nat.xor_assoc, Nat.xor_comm (gmul v _)]
    | succ j =>
      simp only [List.length_cons] at hj
      have e : acc (a :: L) (j + 1) v = a :: acc L j v := by simp [acc]
      rw [e]
      show gmul a (W (acc L j v).length) ^^^ ev W (acc L j v) = gmul a (W L.length) ^^^ ev W L ^^^ gmul v (W (L.length + 1 - 1 - (j + 1)))
      rw [ih h.tail j (by omega), acc_length, Nat.xor_assoc, show L.length + 1 - 1 - (j + 1) = L.length - 1 - j from by omega]
theorem ev_rowTo (W : Nat → Nat) (hW : ∀ i, W i < 256) (L : List Nat) (h : bytesL L) (i y : Nat) (hy : y < 256) (b : List Nat) : ∀ k, k ≤ b.length → i + k ≤ L.length →
    ev W (rowTo L i y b k) = ev W L ^^^ gmul y (ev (fun m => W (m + (L.length - i - k))) (b.take k)) := by
  intro k
  induction k with
  | zero => intro _ _; show ev W L = ev W L ^^^ gmul y 0; rw [gmul_zero, Nat.xor_zero]
  | succ k ih =>
    intro hk hi
    obtain ⟨m, e1, e2, e3⟩ : ∃ m, L.length - i - (k + 1) = m ∧ L.length - i - k = m + 1 ∧ L.length - 1 - (i + k) = m := ⟨L.length - i - (k + 1), rfl, by omega, by omega⟩
    show ev W (acc (rowTo L i y b k) (i + k) (gmul y (b.getD k 0))) = _
    rw [ev_acc W hW _ (rowTo_bytes h _ _ _ _) _ (gmul_lt _ _) _ (by rw [rowTo_length]; omega), rowTo_length, ih (by omega) (by omega), e1, e2, e3, take_getD b k (by omega), ev_snoc,
      gmul_xor _ _ _ hy (ev_lt _ _) (gmul_lt _ _), Nat.xor_assoc, gmul_assoc, Nat.zero_add]
    congr 3
    exact ev_congr _ fun j _ => by rw [show j + 1 + m = j + (m + 1) from by omega]
theorem ev_convTo (W : Nat → Nat) (hW : ∀ i, W i < 256) (L : List Nat) (h : bytesL L) (a b : List Nat) (ha : bytesL a) : ∀ i, i ≤ a.length → i + b.length ≤ L.length + 1 →
    ev W (convTo L a b i) = ev W L ^^^ ev (fun p => ev (fun m => W (m + (p + (L.length + 1 - i - b.length)))) b) (a.take i) := by
  intro i
  induction i with
  | zero => intro _ _; exact (Nat.xor_zero _).symm
  | succ i ih =>
    intro hi hn
    obtain ⟨m, e1, e2, e3⟩ : ∃ m, L.length + 1 - (i + 1) - b.length = m ∧ L.length + 1 - i - b.length = m + 1 ∧ L.length - i - b.length = m := ⟨L.length - i - b.length, by omega, by omega, rfl⟩
    show ev W (rowTo (convTo L a b i) i (a.getD i 0) b b.length) = _
    rw [ev_rowTo W hW _ (convTo_bytes h _ _ _) _ _ (ha.getD i) b _ (Nat.le_refl _) (by rw [convTo_length]; omega), convTo_length, ih (by omega) (by omega), e1, e2, e3, take_getD a i (by omega), ev_snoc, List.take_length, Nat.xor_assoc, Nat.zero_add]
    congr 2
    exact ev_congr _ fun j _ => ev_congr _ fun k _ => by rw [show j + 1 + m = j + (m + 1) from by omega]
theorem ev_ptwo (W : Nat → Nat) (hW : ∀ i, W i < 256) {a b : List Nat} (ha : bytesL a) : ev W (ptwo a b) = ev (fun p => ev (fun m => W (m + p)) b) a := by
  have e2 : ev (fun p => ev (fun m => W (m + p)) b) a = ev (fun p => ev (fun m => W (m + p)) (trim b)) (trim a) := by
    rw [ev_trim]
    exact ev_congr _ fun i _ => (ev_trim _ _).symm
  rw [e2]
  unfold ptwo
  by_cases h : trim a = [] ∨ trim b = []
  · rw [if_pos h]
    rcases h with h | h
    · rw [h]; rfl
    · rw [h]; exact (ev_zero _).symm
  · rw [if_neg h]
    have h1 : 0 < (trim a).length := List.length_pos_iff.2 fun e => h (.inl e)
    have h2 : 0 < (trim b).length := List.length_pos_iff.2 fun e => h (.inr e)
    rw [ev_convTo W hW _ (bytesL.zeros _) _ _ (trim_bytes ha) _ (Nat.le_refl _) (by rw [List.length_replicate]; omega), List.length_replicate, ev_zeros, Nat.zero_xor, List.take_length,
      show (trim a).length + (trim b).length - 1 + 1 - (trim a).length - (trim b).length = 0 from by omega]
    rfl
theorem ev_XS (W : Nat → Nat) (l : List Nat) : ev W l = XS (fun i => gmul (co l i) (W i)) l.length := by
  induction l with
  | nil => rfl
  | cons a l ih =>
    show gmul a (W l.length) ^^^ ev W l = XS _ (l.length + 1)
    rw [ih, XS, co_top, Nat.xor_comm]
    congr 1
    exact XS_congr _ fun i hi => by rw [co_cons_lt a l i hi]
theorem peval_ev (x : Nat) {l : List Nat} (h : bytesL l) : peval x l = ev (gp x) l := by rw [peval_XS x h, ev_XS]
theorem XS_more (f : Nat → Nat) (n : Nat) : ∀ m, n ≤ m → (∀ i, n ≤ i → f i = 0) → XS f m = XS f n := by
  intro m
  induction m with
  | zero => intro h _; rw [show n = 0 from by omega]
  | succ m ih =>
    intro h hz
    by_cases e : n = m + 1
    · rw [e]
    · rw [XS, ih (by omega) hz, hz m (by omega), Nat.xor_zero]
theorem ev_XS_more (W : Nat → Nat) (l : List Nat) (n : Nat) (h : l.length ≤ n) : ev W l = XS (fun i => gmul (co l i) (W i)) n := by
  rw [ev_XS, XS_more _ _ _ h]
  intro i hi
  rw [co_ge l i hi, zero_gmul]

/-- The weights of the derivative's value. -/
def dp (x i : Nat) : Nat := if i % 2 = 1 then gp x (i - 1) else 0
theorem dp_lt (x i : Nat) : dp x i < 256 := by unfold dp; split <;> first | exact gp_lt _ _ | decide
theorem dp_succ (x i : Nat) : dp x (i + 1) = gmul x (dp x i) ^^^ gp x i := by
  unfold dp
  by_cases h : i % 2 = 1
  · rw [if_pos h, if_neg (by omega)]
    obtain ⟨j, rfl⟩ : ∃ j, i = j + 1 := ⟨i - 1, by omega⟩
    show 0 = gmul x (gp x j) ^^^ gmul (gp x j) x
    rw [gmul_comm, Nat.xor_self]
  · rw [if_neg h, if_pos (by omega), gmul_zero, Nat.zero_xor, Nat.add_sub_cancel]
theorem co_rbytes (m : List Nat) (i : Nat) : co (rbytes m) i = m.getD i 0 := by rw [rbytes_eq, co_trim, co_rev]
theorem co_pder (l : List Nat) (i : Nat) : co (pder l) i = if (i + 1) % 2 = 1 then co l (i + 1) else 0 := by
  rw [pder_rder, co_rbytes]
  unfold rder
  rw [cutR_getD, rderL_getD, rof_getD]
theorem pder_length_le (l : List Nat) : (pder l).length ≤ l.length := by
  rw [pder_rder, rbytes_eq]
  have h1 := trim_length_le (rder (rof l)).reverse
  have h2 := rder_length (rof l)
  have h3 := rof_length l
  have h4 := trim_length_le l
  rw [List.length_reverse] at h1
  omega
theorem pder_bytes' {l : List Nat} (h : bytesL l) : bytesL (pder l) := by
  rw [pder_rder, rbytes_eq]; exact trim_bytes (rev_bytes (rder_bytes (rof_bytes h)))
theorem peval_pder (x : Nat) {l : List Nat} (h : bytesL l) : peval x (pder l) = ev (dp x) l := by
  rw [peval_ev x (pder_bytes' h), ev_XS_more _ (pder l) l.length (pder_length_le l), ev_XS_more (dp x) l (l.length + 1) (Nat.le_succ _), XS_first]
  have h0 : gmul (co l 0) (dp x 0) = 0 := gmul_zero _
  rw [h0, Nat.zero_xor]
  refine XS_congr _ fun i _ => ?_
  rw [co_pder]
  unfold dp
  by_cases e : (i + 1) % 2 = 1
  · rw [if_pos e, if_pos e, Nat.add_sub_cancel]
  · rw [if_neg e, if_neg e, zero_gmul, gmul_zero]

/- roots -/
theorem lin_bytes {b : Nat} (hb : b < 256) : bytesL [1, b] := by
  intro y hy
  simp only [List.mem_cons, List.not_mem_nil, or_false] at hy
  rcases hy with rfl | rfl
  · omega
  · exact hb
theorem peval_lin (x b : Nat) (hx : x < 256) : peval x [1, b] = x ^^^ b := by
  show gmul (gmul 0 x ^^^ 1) x ^^^ b = _
  rw [zero_gmul, Nat.zero_xor, one_gmul x hx]
theorem dval_lin (x b : Nat) {s : List Nat} (hx : x < 256) (hb : b < 256) (hs : bytesL s) : ev (dp x) (ptwo s [1, b]) = gmul (x ^^^ b) (ev (dp x) s) ^^^ ev (gp x) s := by
  rw [ev_ptwo (dp x) (dp_lt x) hs]
  have h : ∀ p, ev (fun m => dp x (m + p)) [1, b] = gmul (x ^^^ b) (dp x p) ^^^ gp x p := by
    intro p
    show gmul 1 (dp x (1 + p)) ^^^ (gmul b (dp x (0 + p)) ^^^ 0) = _
    rw [Nat.xor_zero, Nat.zero_add, Nat.add_comm 1 p, one_gmul _ (dp_lt _ _), dp_succ, xor_gmul _ _ _ (dp_lt _ _) hx hb, Nat.xor_assoc, Nat.xor_assoc, Nat.xor_comm (gp x p)]
  rw [ev_congr s (fun p _ => h p), ev_add (W := fun p => gmul (x ^^^ b) (dp x p)) (V := gp x) (fun _ => gmul_lt _ _) (gp_lt x) hs, ev_mul _ (xor_lt hx hb)]
theorem xor_ne {x b : Nat} (h : x ≠ b) : x ^^^ b ≠ 0 := fun e => h (by
  have h2 := congrArg (fun y => y ^^^ b) e
  simp only [Nat.xor_assoc, Nat.xor_self, Nat.xor_zero, Nat.zero_xor] at h2
  exact h2)
/-- All that is asked of the polynomial of some roots. -/
theorem proots_is (x : Nat) (hx : x < 256) (l : List Nat) (hl : bytesL l) : bytesL (proots l) ∧ trim (proots l) = proots l ∧ (proots l).length = l.length + 1 ∧
    (peval x (proots l) = 0 ↔ 0 < l.count x) ∧ (2 ≤ l.count x → peval x (pder (proots l)) = 0) ∧ (l.count x = 1 → peval x (pder (proots l)) ≠ 0) := by
  have key : ∀ k, k ≤ l.length → ∀ r, r = proots (l.take k) → bytesL r ∧ trim r = r ∧ r.length = k + 1 ∧
      (peval x r = 0 ↔ 0 < (l.take k).count x) ∧ (2 ≤ (l.take k).count x → ev (dp x) r = 0) ∧ ((l.take k).count x = 1 → ev (dp x) r ≠ 0) := by
    intro k
    induction k with
    | zero =>
      intro _ r hr
      subst hr
      refine ⟨fun y hy => ?_, rfl, rfl, ?_, fun h => ?_, fun h => ?_⟩
      · have : y ∈ [1] := hy
        simp at this; omega
      · show pevalFrom x 0 [1] = 0 ↔ _
        have : pevalFrom x 0 [1] = 1 := by show gmul 0 x ^^^ 1 = 1; rw [zero_gmul]; rfl
        rw [this]; simp
      · simp at h
      · simp at h
    | succ k ih =>
      intro hk r hr
      have hs : proots (l.take (k + 1)) = ptwo (proots (l.take k)) [1, l.getD k 0] := by
        unfold proots
        rw [take_getD l k (by omega), List.map_append, List.map_singleton, pmul_snoc]
      have hb : l.getD k 0 < 256 := bytesL_getD hl k
      have hc : (l.take (k + 1)).count x = (l.take k).count x + if l.getD k 0 = x then 1 else 0 := by
        rw [take_getD l k (by omega), List.count_append, List.count_singleton]
        congr 1
        by_cases e : l.getD k 0 = x
        · simp [e]
        · simp [e]
      obtain ⟨h1, h2, h3, h4, h5, h6⟩ := ih (by omega) _ rfl
      rw [hs] at hr
      subst hr
      generalize proots (l.take k) = s at *
      generalize l.getD k 0 = b at *
      generalize (l.take k).count x = t at *
      have hv := peval_ptwo x h1 (lin_bytes hb)
      rw [peval_lin x b hx] at hv
      have hd := dval_lin x b hx hb h1
      rw [← peval_ev x h1] at hd
      refine ⟨ptwo_bytes h1 (lin_bytes hb), ptwo_trim _ _, ?_, ?_⟩
      · have hlin : trim [1, b] = [1, b] := by simp [trim]
        unfold ptwo
        rw [h2, hlin, if_neg (by intro h; rcases h with h | h; · rw [h] at h3; simp at h3
                                 · simp at h), convTo_length, List.length_replicate, h3]
        simp
      · rw [hv, hd, hc]
        by_cases e : b = x
        · rw [if_pos e, e, Nat.xor_self, gmul_zero, zero_gmul, Nat.zero_xor]
          refine ⟨⟨fun _ => by omega, fun _ => rfl⟩, fun h => h4.2 (by omega), fun h h0 => ?_⟩
          have := h4.1 h0
          omega
        · have hu := xor_ne (x := x) (b := b) (fun h => e h.symm)
          rw [if_neg e, Nat.add_zero]
          refine ⟨?_, fun h => ?_, fun h => ?_⟩
          · rw [gmul_eq_zero]
            constructor
            · intro h; rcases h with h | h
              · exact h4.1 h
              · exact absurd h hu
            · intro h; exact .inl (h4.2 h)
          · rw [h5 h, h4.2 (by omega), gmul_zero]; rfl
          · rw [h4.2 (by omega), Nat.xor_zero]
            exact gmul_ne hu (h6 h)
  have := key l.length (Nat.le_refl _) _ rfl
  rw [List.take_length] at this
  obtain ⟨h1, h2, h3, h4, h5, h6⟩ := this
  rw [peval_pder x h1]
  exact ⟨h1, h2, h3, h4, h5, h6⟩
end Tri

namespace Tri
/-- The powers of x that a code's words are 0 at. -/
def powers (p : Nat) : List Nat := (List.range p).map gexp
/-- The polynomial that divides a code's words. -/
def rgen (p : Nat) : List Nat := proots (powers p)
theorem powers_length (p : Nat) : (powers p).length = p := by unfold powers; simp
theorem powers_bytes (p : Nat) : bytesL (powers p) := by
  intro x hx
  unfold powers at hx
  obtain ⟨i, _, rfl⟩ := List.mem_map.1 hx
  exact gexp_lt i
theorem powers_take (p k : Nat) (h : k < p) : (powers p).take (k + 1) = (powers p).take k ++ [gexp k] := by
  rw [List.take_succ_eq_append_getElem (by rw [powers_length]; exact h)]
  congr 2
  unfold powers
  simp
theorem rgen_is (p : Nat) : bytesL (rgen p) ∧ trim (rgen p) = rgen p ∧ (rgen p).length = p + 1 := by
  obtain ⟨h1, h2, h3, _⟩ := proots_is 0 (by decide) (powers p) (powers_bytes p)
  rw [powers_length] at h3
  exact ⟨h1, h2, h3⟩
end Tri
namespace Go.Proofs.Ytgckhekikcdaiaa
open Go.RowKit Tri

/-- A code in memory. -/
def isR (w : World) (c f n k : Nat) : Prop :=
  ∃ pg cg, w.heap[c]? = some (.cells #[.pointer (some ⟨f, 0, none⟩), .int .i64 (n : Nat), .int .i64 (k : Nat), .slice pg (rgen (n - k)).length cg] 69) ∧ (rgen (n - k)).length ≤ cg ∧ cellsB w pg (rgen (n - k)) ∧ isF w f
theorem isR.below {w w' : World} {c f n k : Nat} (h : isR w c f n k) (hb : Below w.heap.size w w') : isR w' c f n k := by
  obtain ⟨pg, cg, h1, h2, h3, h4⟩ := h
  exact ⟨pg, cg, by rw [hb.block c (Array.getElem?_eq_some_iff.1 h1).1]; exact h1, h2, h3.below hb, h4.below hb h4.lt⟩
theorem isR.field {w : World} {c f n k : Nat} (h : isR w c f n k) : w.cell? ⟨c, 0, none⟩ = some (.pointer (some ⟨f, 0, none⟩)) := by
  obtain ⟨pg, cg, h1, _⟩ := h
  rw [cell_of_row w c 0 _ _ _ h1]; rfl
theorem isR.n {w : World} {c f n k : Nat} (h : isR w c f n k) : w.cell? ⟨c, 1, none⟩ = some (.int .i64 (n : Nat)) := by
  obtain ⟨pg, cg, h1, _⟩ := h
  rw [cell_of_row w c 1 _ _ _ h1]; rfl
theorem isR.k {w : World} {c f n k : Nat} (h : isR w c f n k) : w.cell? ⟨c, 2, none⟩ = some (.int .i64 (k : Nat)) := by
  obtain ⟨pg, cg, h1, _⟩ := h
  rw [cell_of_row w c 2 _ _ _ h1]; rfl
theorem isR.fld {w : World} {c f n k : Nat} (h : isR w c f n k) : isF w f := by
  obtain ⟨pg, cg, _, _, _, h4⟩ := h
  exact h4
theorem isR.gen {w : World} {c f n k : Nat} (h : isR w c f n k) : ∃ pg cg, w.cell? ⟨c, 3, none⟩ = some (.slice pg (rgen (n - k)).length cg) ∧ (rgen (n - k)).length ≤ cg ∧ cellsB w pg (rgen (n - k)) := by
  obtain ⟨pg, cg, h1, h2, h3, _⟩ := h
  refine ⟨pg, cg, ?_, h2, h3⟩
  rw [cell_of_row w c 3 _ _ _ h1]; rfl
theorem Keeps.nw {w0 w w' : World} {b : Nat} (h : Keeps w0 b w) (h' : Below w.heap.size w w') : Keeps w0 b w' :=
  ⟨h.1.trans (h'.mono h.1.size), h.2.below h' h.2.lt⟩

set_option maxHeartbeats 1000000 in
set_option maxRecDepth 100000 in
theorem rs_New_bad (f : Nat) (n k : Int) (w : World) (hn : -9223372036854775808 ≤ n ∧ n < 9223372036854775808) (hk : -9223372036854775808 ≤ k ∧ k < 9223372036854775808) (h : ¬ (1 ≤ k ∧ k < n ∧ n ≤ 255 ∧ n - k ≤ 64)) :
    Calls Try.prog 11 #[.pointer (some ⟨f, 0, none⟩), .int .i64 n, .int .i64 k] w fun e w' => e = .returned (.tuple #[.pointer none, .int .i64 1]) ∧ w = w' := by
  (go_enter Try.func11, Try.ntmps11; try simp only [List.append])
  by_cases h1 : k < 1
  · have ht : decide (k < 1) = true := decide_eq_true h1
    clear h
    go_wp2_with ((with_reducible refine wpList_unguard ?_ ?_); (focus rfl))
    refine bodyPost_ret (v := .tuple #[.pointer none, .int .i64 1]) (by simp [results, Try.results11, go_sem]) rfl ⟨rfl, rfl⟩
  · have ht : decide (k < 1) = false := decide_eq_false h1
    by_cases h2 : n ≤ k
    · have ht2 : decide (n ≤ k) = true := decide_eq_true h2
      clear h
      go_wp2_with ((with_reducible refine wpList_unguard ?_ ?_); (focus rfl))
      refine bodyPost_ret (v := .tuple #[.pointer none, .int .i64 1]) (by simp [results, Try.results11, go_sem]) rfl ⟨rfl, rfl⟩
    · have ht2 : decide (n ≤ k) = false := decide_eq_false h2
      by_cases h3 : 255 < n
      · have ht3 : decide (255 < n) = true := decide_eq_true h3
        clear h
        go_wp2_with ((with_reducible refine wpList_unguard ?_ ?_); (focus rfl))
        refine bodyPost_ret (v := .tuple #[.pointer none, .int .i64 1]) (by simp [results, Try.results11, go_sem]) rfl ⟨rfl, rfl⟩
      · have ht3 : decide (255 < n) = false := decide_eq_false h3
        have hw : IntKind.i64.wrap (n - k) = n - k := by rw [IntKind.wrap_i64]; omega
        have ht4 : decide (64 < n - k) = true := decide_eq_true (by omega)
        clear h
        go_wp2_with ((with_reducible refine wpList_unguard ?_ ?_); (focus rfl))
        refine bodyPost_ret (v := .tuple #[.pointer none, .int .i64 1]) (by simp [results, Try.results11, go_sem]) rfl ⟨rfl, rfl⟩
set_option maxHeartbeats 2000000 in
set_option maxRecDepth 100000 in
theorem rs_New (f n k : Nat) (w : World) (hF : isF w f) (h1 : 1 ≤ k) (h2 : k < n) (h3 : n ≤ 255) (h4 : n - k ≤ 64) :
    Calls Try.prog 11 #[.pointer (some ⟨f, 0, none⟩), .int .i64 n, .int .i64 k] w fun e w' => ∃ c, e = .returned (.tuple #[.pointer (some ⟨c, 0, none⟩), .int .i64 0]) ∧ isR w' c f n k ∧ Below w.heap.size w w' := by
  have HF := hid hF
  clear hF
  obtain ⟨i0, hi, hz0, hz1, hz2⟩ := info_parts Try.infoB
  obtain ⟨p, hp⟩ : ∃ p, n - k = p := ⟨_, rfl⟩
  have hnk : (n : Int) - (k : Int) = (p : Int) := by omega
  have hw : IntKind.i64.wrap (p : Int) = (p : Int) := by rw [IntKind.wrap_i64]; omega
  have ht1 : decide ((k : Int) < 1) = false := decide_eq_false (by omega)
  have ht2 : decide ((n : Int) ≤ (k : Int)) = false := decide_eq_false (by omega)
  have ht2n : decide (n ≤ k) = false := decide_eq_false (by omega)
  have hnle : ¬ n ≤ k := by omega
  have ht3 : decide (255 < (n : Int)) = false := decide_eq_false (by omega)
  have ht4 : decide (64 < (p : Int)) = false := decide_eq_false (by omega)
  have HP := hid hp
  have hp64 : p ≤ 64 := by omega
  have HPT : Hid (∀ j, j < p → (powers p).take (j + 1) = (powers p).take j ++ [gexp j]) := fun j hj => powers_take p j hj
  have HPl := hid (powers_length p)
  have HPB := hid (powers_bytes p)
  have HPR : Hid (rgen p = proots (powers p)) := rfl
  generalize powers p = S at *
  clear hp
  (go_enter Try.func11, Try.ntmps11; try simp only [List.append])
  go_wp2_with ((with_reducible refine wpList_unguard ?_ ?_); (focus rfl))
  go_loopw [8, 34] (fun s i wr => ∃ j : Nat, j ≤ p ∧ i = .int .i64 j ∧ ownsB wr w.heap.size s (S.take j) ∧ Keeps w f wr) (fun _ i _ => p - (intOf i).toNat)
  case atStart => exact ⟨0, Nat.zero_le _, rfl, World.ownsRow_nil _ _ _ _, Below.refl _ _, HF.out⟩
  case round =>
    obtain ⟨j, hj, rfl, hO, hK⟩ := hrel
    have HO := hid hO
    have K := hid hK
    clear hO hK
    by_cases hlt : j < p
    · have HS := hid (HPT.out j hlt)
      have hgl := gexp_lt j
      have hkl : (S.take j).length ≤ 1000000 := by rw [List.length_take]; omega
      have hge : gexpZ (j : Int) = gexp j := gexpZ_nat j
      generalize hs2 : S.take (j + 1) = S2 at *
      have HS2 := hid hs2
      clear hs2
      generalize S.take j = S1 at *
      go_wp2_with ((with_reducible refine wpList_unguard ?_ ?_); (focus rfl))
      refine Calls.mono (gf_Exp f (j : Int) wr K.out.2) ?_; rintro e w' ⟨rfl, rfl⟩
      rw [hge]
      clear hge
      generalize gexp j = y at *
      go_wp2_with (at_builtin; refine wpList_push rfl _ _ 22 rfl w.heap.size 5 i0 .u8 1 Try.underlying22 hi hz0 hz1 hz2 (by decide) _ S1 y HO.out rfl _ rfl rfl hkl K.out.1.size ?_)
      intro v' w' hown' hbel
      have hO' : Hid (ownsB w' w.heap.size v' S2) := by show ownsB _ _ _ _; rw [HS.out]; exact hown'
      have K' : Hid (Keeps w f w') := ⟨K.out.1.trans hbel, HF.out.below (K.out.1.trans hbel) HF.out.lt⟩
      clear hown' hbel
      go_wp2_with ((with_reducible refine wpList_unguard ?_ ?_); (focus rfl))
      go_roundw
      case rel => exact ⟨j + 1, by omega, by go_num, by rw [HS2.out]; exact hO'.out, K'.out⟩
      case measure => simp [intOf]; omega
    · have hT : Hid (S.take j = S) := by show _ = _; exact List.take_of_length_le (by rw [HPl.out]; omega)
      rw [hT.out] at HO
      obtain ⟨p', c', rfl, hcb⟩ := HO.out.cells
      have HC := hid hcb
      clear hcb
      go_wp2_with ((with_reducible refine wpList_unguard ?_ ?_); (focus rfl))
      refine Calls.mono (poly_Roots f p' _ c' S wr K.out.2 rfl HC.out HPB.out (by rw [HPl.out]; omega)) ?_
      rintro e w2 ⟨q2, d2, rfl, hle2, hq2, hbel⟩
      have K2 := hid (K.out.nw hbel)
      rw [← HPR.out] at hle2 hq2 ⊢
      have HQ2 := hid hq2
      clear hq2 hbel
      have hR : Hid (isR (w2.alloc (.cells #[.pointer (some ⟨f, 0, none⟩), .int .i64 (n : Nat), .int .i64 (k : Nat), .slice q2 (rgen p).length d2] 69)) w2.heap.size f n k) := by
        refine ⟨q2, d2, ?_, ?_, ?_, K2.out.2.alloc _⟩
        · rw [HP.out]; exact heap_alloc_new w2 _
        · rw [HP.out]; exact hle2
        · rw [HP.out]; exact HQ2.out.alloc _
      have hB := hid (K2.out.1.alloc K2.out.1.size (.cells #[.pointer (some ⟨f, 0, none⟩), .int .i64 (n : Nat), .int .i64 (k : Nat), .slice q2 (rgen p).length d2] 69))
      generalize rgen p = G at *
      go_wp2_with ((with_reducible refine wpList_unguard ?_ ?_); (focus rfl))
      refine bodyPost_ret (v := .tuple #[.pointer (some ⟨w2.heap.size, 0, none⟩), .int .i64 0]) (by simp [results, Try.results11, go_sem]) rfl ⟨_, rfl, hR.out, hB.out⟩
end Go.Proofs.Ytgckhekikcdaiaa

namespace Go.Proofs.Ytgckhekikcdaiaa
open Go.RowKit

section
variable {P : Program} {ops : Array Oper} {Q : Exit → Act → World → Prop}
theorem wrote_none (vs : Nat → Value) (op : Op) (ty : TypeId) (pos : String) (af : Array Edge) (g : Option (Nat × Bool)) (l : List Oper) (t : Array Value) :
    wrote vs (⟨none, op, ty, pos, af, g⟩ :: l) t = wrote vs l t := rfl
theorem ready_nil2 (hac : ∀ (i : Nat) (o : Oper), ops[i]? = some o → ∀ e : Edge, e ∈ o.after → Region.binds .any e = true → e.on < i) (L : Array Bool) (hs : L.size = ops.size) (h : Region.ready .any ops L = []) :
    ∀ i, i < ops.size → L[i]? = some true := by
  intro i
  induction i using Nat.strongRecOn with
  | ind i ih =>
    intro hi
    have hL : i < L.size := by omega
    have hm : i ∉ Region.ready .any ops L := by rw [h]; simp
    unfold Region.ready at hm
    rw [List.mem_filter] at hm
    simp only [List.mem_range, hi, true_and] at hm
    have ho : ops[i]? = some ops[i] := Array.getElem?_eq_getElem hi
    rw [ho] at hm
    simp only [Option.map_some, Option.getD_some, Bool.and_eq_true, Bool.not_eq_eq_eq_not, Bool.not_true] at hm
    cases hb : L[i] with
    | true => rw [Array.getElem?_eq_getElem hL, hb]
    | false =>
      exfalso
      apply hm
      refine ⟨by simp [hL, hb], ?_⟩
      rw [Array.all_eq_true_iff_forall_mem]
      intro e he
      cases hbd : Region.binds .any e with
      | false => simp
      | true =>
        have h1 := hac i _ ho e he hbd
        have h2 := ih e.on h1 (by omega)
        have : L.getD e.on false = true := by rw [Array.getD_eq_getD_getElem?, h2]; rfl
        simp [this]

theorem wpAny_inv2 (hac : ∀ (i : Nat) (o : Oper), ops[i]? = some o → ∀ e : Edge, e ∈ o.after → Region.binds .any e = true → e.on < i) (I : Array Bool → Act → World → Prop)
    (hstep : ∀ (i : Nat) (o : Oper), ops[i]? = some o → ∀ L a w, L.size = ops.size → I L a w → L[i]? = some false → (∀ e ∈ o.after, Region.binds .any e = true → L[e.on]? = some true) →
      wpOp P ops Q i (fun a' w' => I (L.setIfInBounds i true) a' w') a w)
    (hend : ∀ L a w, (∀ i, i < ops.size → L[i]? = some true) → I L a w → Q .normal a w) :
    ∀ fuel L a w, L.size = ops.size → I L a w → unlisted L ≤ fuel → wpAny P .any ops Q fuel L a w := by
  intro fuel
  induction fuel with
  | zero =>
    intro L a w hs hI hu
    have hall : ∀ i, i < ops.size → L[i]? = some true := by
      intro i hi
      rw [Array.getElem?_eq_getElem (by omega)]
      cases hb : L[i]'(by omega) with
      | true => rfl
      | false =>
        have : unlisted L = 0 := by omega
        have := unlisted_set L i (by rw [Array.getElem?_eq_getElem (by omega), hb])
        omega
    refine ⟨?_, hend L a w hall hI⟩
    unfold Region.ready
    rw [List.filter_eq_nil_iff]
    intro i hi
    simp only [List.mem_range] at hi
    have h1 := hall i hi
    have h2 : L.getD i true = true := by rw [Array.getD_eq_getD_getElem?, h1]; rfl
    rw [h2]; simp
  | succ fuel ih =>
    intro L a w hs hI hu
    refine ⟨fun hr => hend L a w (ready_nil2 hac L hs hr) hI, ?_⟩
    intro i hi
    unfold Region.ready at hi
    rw [List.mem_filter] at hi
    simp only [List.mem_range] at hi
    obtain ⟨hi1, hi2⟩ := hi
    have ho : ops[i]? = some ops[i] := Array.getElem?_eq_getElem hi1
    rw [ho] at hi2
    simp only [Option.map_some, Option.getD_some, Bool.and_eq_true] at hi2
    obtain ⟨hl, hd⟩ := hi2
    have hlf : L[i]? = some false := by
      rw [Array.getElem?_eq_getElem (by omega)]
      cases hb : L[i]'(by omega) with
      | false => rfl
      | true => simp [hs, hi1, hb] at hl
    refine wpOp_mono (fun a' w' hI' => ih _ a' w' (by simp [hs]) hI' (by have := unlisted_set L i hlf; omega)) (hstep i _ ho L a w hs hI hlf ?_)
    intro e he hb
    rw [Array.all_eq_true_iff_forall_mem] at hd
    have := hd e he
    simp only [hb, Bool.not_true, Bool.false_or] at this
    by_cases hlt : e.on < L.size
    · simp [hlt] at this
      rw [Array.getElem?_eq_getElem hlt, this]
    · simp [hlt] at this

/-- What each operation does, whenever its turn comes: from a state in which C holds, what is not written in this statement is as it was, and what it waits for has its value. -/
def opsOkR (P : Program) (ops : Array Oper) (Q : Exit → Act → World → Prop) (a0 : Act) (C : World → Prop) (R : World → World → Prop) (V : Nat → Value → World → Prop) : Nat → List Oper → Prop
  | _, [] => True
  | i, o :: rest => (∀ (a : Act) (w : World), C w → (∀ s, ops.toList.all (fun (o : Oper) => o.dst != some s) = true → a.tmps.getD s undef = a0.tmps.getD s undef) →
      (∀ e, e ∈ o.after → Region.binds .any e = true → ∀ (oe : Oper) (d : Nat), ops[e.on]? = some oe → oe.dst = some d → V e.on (a.tmps.getD d undef) w) →
      ∀ K : Act → World → Prop, (∀ v w', V i v w' → C w' → R w w' → K (a.put o.dst v) w') → o.wp P a w K Q) ∧ opsOkR P ops Q a0 C R V (i + 1) rest

theorem opsOkR_at {a0 : Act} {C : World → Prop} {R : World → World → Prop} {V : Nat → Value → World → Prop} (l : List Oper) : ∀ (k : Nat), opsOkR P ops Q a0 C R V k l → ∀ i o, l[i]? = some o →
    ∀ (a : Act) (w : World), C w → (∀ s, ops.toList.all (fun (o : Oper) => o.dst != some s) = true → a.tmps.getD s undef = a0.tmps.getD s undef) →
      (∀ e, e ∈ o.after → Region.binds .any e = true → ∀ (oe : Oper) (d : Nat), ops[e.on]? = some oe → oe.dst = some d → V e.on (a.tmps.getD d undef) w) →
      ∀ K : Act → World → Prop, (∀ v w', V (k + i) v w' → C w' → R w w' → K (a.put o.dst v) w') → o.wp P a w K Q := by
  induction l with
  | nil => intro k _ i o h; simp at h
  | cons x l ih =>
    intro k hk i o h
    cases i with
    | zero =>
      simp only [List.getElem?_cons_zero, Option.some.injEq] at h
      subst h
      exact hk.1
    | succ i =>
      simp only [List.getElem?_cons_succ] at h
      have := ih (k + 1) hk.2 i o h
      rw [show k + 1 + i = k + (i + 1) from by omega] at this
      exact this

/-- THE RULE, with one's own word for what may change in memory, and what is told of operations that give no value; the frame behind it is written out. -/
theorem region_gen {id : Nat} (a0 : Act) (w0 : World) (C : World → Prop) (R : World → World → Prop) (hR0 : ∀ w, R w w) (hRt : ∀ a b c, R a b → R b c → R a c) (V : Nat → Value → World → Prop) (hm : P.follows .mixedOrders = true)
    (hac : (ops.toList.mapIdx fun i (o : Oper) => o.after.all fun (e : Edge) => !Region.binds .any e || decide (e.on < i)).all (fun b => b) = true) (hg : ops.toList.all (fun (o : Oper) => o.guard.isNone) = true)
    (hdst : ((ops.toList.filterMap fun (o : Oper) => o.dst).Nodup ∧ ops.toList.all (fun (o : Oper) => match o.dst with | some d => decide (d < a0.tmps.size) | none => true) = true))
    (hC : C w0.drew) (hst : ∀ i v w w', R w w' → V i v w → V i v w')
    (hop : opsOkR P ops Q a0 C R V 0 ops.toList)
    (hend : ∀ (vs : Nat → Value) (w : World), C w → R w0.drew w → (∀ (i : Nat) (o : Oper) (d : Nat), ops[i]? = some o → o.dst = some d → V i (vs d) w) → (∀ (i : Nat) (o : Oper), ops[i]? = some o → o.dst = none → ∃ v, V i v w) →
      Q .normal { tmps := wrote vs ops.toList a0.tmps, defers := a0.defers } w) :
    (Code.region id ops true).wp P Q a0 w0 := by
  have hac' : ∀ (i : Nat) (o : Oper), ops[i]? = some o → ∀ e : Edge, e ∈ o.after → Region.binds .any e = true → e.on < i := by
    intro i o hi e he hbd
    rw [List.all_eq_true] at hac
    have := hac (o.after.all fun e => !Region.binds .any e || decide (e.on < i)) (by
      rw [List.mem_mapIdx]
      have hlt := (Array.getElem?_eq_some_iff.1 hi).1
      refine ⟨i, by simpa using hlt, ?_⟩
      have := (Array.getElem?_eq_some_iff.1 hi).2
      simp [this])
    rw [Array.all_eq_true_iff_forall_mem] at this
    simpa [hbd] using this e he
  have hdlt : ∀ o : Oper, o ∈ ops.toList → ∀ d, o.dst = some d → d < a0.tmps.size := by
    intro o ho d hd
    have := List.all_eq_true.1 hdst.2 o ho
    rw [hd] at this
    simpa using this
  have hinj : ∀ (i j : Nat) (oi oj : Oper) (d : Nat), ops[i]? = some oi → ops[j]? = some oj → oi.dst = some d → oj.dst = some d → i = j := by
    intro i j oi oj d hi hj hdi hdj
    rw [← Array.getElem?_toList] at hi hj
    exact dst_inj _ hdst.1 i j oi oj d hi hj hdi hdj
  refine wp_region_any hm ?_
  refine wpAny_inv2 hac' (fun L a w => C w ∧ R w0.drew w ∧ a.defers = a0.defers ∧ a.tmps.size = a0.tmps.size ∧
      (∀ s, ops.toList.all (fun (o : Oper) => o.dst != some s) = true → a.tmps.getD s undef = a0.tmps.getD s undef) ∧
      (∀ (i : Nat) (o : Oper) (d : Nat), ops[i]? = some o → o.dst = some d → L[i]? = some true → V i (a.tmps.getD d undef) w) ∧
      (∀ (i : Nat) (o : Oper), ops[i]? = some o → o.dst = none → L[i]? = some true → ∃ v, V i v w)) ?_ ?_ _ _ _ _ (by simp) ?_ ?_
  · intro i o ho L a w hs ⟨h1, h2, h3, h4, h5, h6, h7⟩ hi he
    have hom : o ∈ ops.toList := by rw [← Array.getElem?_toList] at ho; exact List.mem_of_getElem? ho
    have hgo : o.guard = none := by have := List.all_eq_true.1 hg o hom; simpa using this
    unfold wpOp
    rw [ho]
    simp only []
    rw [if_pos (by simp [Region.wanted, hgo])]
    refine .inl (opsOkR_at ops.toList 0 hop i o (by rw [Array.getElem?_toList]; exact ho) a w h1 h5 ?_ _ ?_)
    · intro e hem hb oe d hoe hd
      exact h6 e.on oe d hoe hd (he e hem hb)
    · intro v w' hv hc hbl
      rw [Nat.zero_add] at hv
      refine ⟨hc, hRt _ _ _ h2 hbl, ?_, ?_, ?_, ?_, ?_⟩
      · rw [← h3]; cases o.dst <;> rfl
      · rw [← h4]; cases o.dst <;> simp [Act.put]
      · intro s hsn
        rw [← h5 s hsn]
        cases hdo : o.dst with
        | none => rfl
        | some d => exact eval_put_other a d s v (fun e => by have := List.all_eq_true.1 hsn o hom; rw [hdo, e] at this; simp at this)
      · intro j oj d hj hdj hLj
        by_cases e : j = i
        · subst e
          rw [ho] at hj
          obtain rfl : o = oj := by simpa using hj
          rw [hdj, eval_put_same a d v (by rw [h4]; exact hdlt o hom d hdj)]
          exact hv
        · have hLj' : L[j]? = some true := by
            rw [Array.getElem?_setIfInBounds, if_neg (fun e' => e e'.symm)] at hLj
            exact hLj
          have := h6 j oj d hj hdj hLj'
          have hval : (a.put o.dst v).tmps.getD d undef = a.tmps.getD d undef := by
            cases hdo : o.dst with
            | none => rfl
            | some d' =>
              refine eval_put_other a d' d v (fun e' => e ?_)
              subst e'
              exact hinj j i oj o d' hj ho hdj hdo
          rw [hval]
          exact hst j _ w w' hbl this
      · intro j oj hj hdj hLj
        by_cases e : j = i
        · subst e
          exact ⟨v, hv⟩
        · have hLj' : L[j]? = some true := by
            rw [Array.getElem?_setIfInBounds, if_neg (fun e' => e e'.symm)] at hLj
            exact hLj
          obtain ⟨v0, hv0⟩ := h7 j oj hj hdj hLj'
          exact ⟨v0, hst j _ w w' hbl hv0⟩
  · intro L a w hall ⟨h1, h2, h3, h4, h5, h6, h7⟩
    have ha : a = { tmps := wrote (fun d => a.tmps.getD d undef) ops.toList a0.tmps, defers := a0.defers } := by
      obtain ⟨at', ad⟩ := a
      simp only at h3 h4 h5
      subst h3
      have key : at' = wrote (fun d => at'.getD d undef) ops.toList a0.tmps := by
        have hgd : ∀ s, s < at'.size → (wrote (fun d => at'.getD d undef) ops.toList a0.tmps).getD s undef = at'.getD s undef := by
          intro s hs
          refine wrote_at _ _ _ s (by omega) _ (fun _ => rfl) (fun hno => ?_)
          exact (h5 s (by rw [List.all_eq_true]; intro o ho; simpa using hno o ho)).symm
        apply Array.ext
        · rw [wrote_size]; exact h4
        · intro i hi1 hi2
          have h := hgd i hi1
          rw [Array.getD_eq_getD_getElem?, Array.getD_eq_getD_getElem?, Array.getElem?_eq_getElem hi1, Array.getElem?_eq_getElem hi2] at h
          exact h.symm
      exact congrArg (fun t => Act.mk t a0.defers) key
    rw [ha]
    exact hend _ w h1 h2 (fun i o d ho hd => h6 i o d ho hd (hall i (Array.getElem?_eq_some_iff.1 ho).1)) (fun i o ho hd => h7 i o ho hd (hall i (Array.getElem?_eq_some_iff.1 ho).1))
  · refine ⟨hC, hR0 _, rfl, rfl, fun _ _ => rfl, ?_, ?_⟩
    · intro i o d ho hd hL
      rw [Array.getElem?_replicate] at hL
      split at hL <;> simp_all
    · intro i o ho hd hL
      rw [Array.getElem?_replicate] at hL
      split at hL <;> simp_all
  · unfold unlisted
    simp
end
end Go.Proofs.Ytgckhekikcdaiaa

namespace Go.Proofs.Ytgckhekikcdaiaa
open Go.RowKit

section
variable {P : Program} {ops : Array Oper} {Q : Exit → Act → World → Prop}
theorem region_tail2 {id : Nat} {m : Nat} {om on : Oper} (a0 : Act) (w0 : World) (C : World → Prop) (V : Nat → Value → World → Prop) (hm : P.follows .mixedOrders = true)
    (hac : (ops.toList.mapIdx fun i (o : Oper) => o.after.all fun (e : Edge) => !Region.binds .any e || decide (e.on < i)).all (fun b => b) = true) (hg : ops.toList.all (fun (o : Oper) => o.guard.isNone) = true)
    (hsz : ops.size = m + 2) (hom : ops[m]? = some om) (hon : ops[m + 1]? = some on)
    (hdep : (List.range (m + 1)).all (fun j => (List.range (m + 2)).any fun k => decide (j < k) && decide (j = m ∨ k ≤ m) && (match ops[k]? with | some o => o.after.any fun (e : Edge) => decide (e.on = j) && Region.binds .any e | none => false)) = true)
    (hdst : (((ops.toList.take m).filterMap fun (o : Oper) => o.dst).Nodup ∧ (ops.toList.take m).all (fun (o : Oper) => match o.dst with | some d => decide (d < a0.tmps.size) | none => true) = true))
    (hC : C w0.drew) (hst : ∀ i v w w', Below w.heap.size w w' → V i v w → V i v w')
    (hop : opsOk P (ops.toList.take m).toArray Q a0 C V 0 (ops.toList.take m))
    (hend : ∀ (vs : Nat → Value) (w : World), C w → Below w0.heap.size w0 w → (∀ (i : Nat) (o : Oper) (d : Nat), i < m → ops[i]? = some o → o.dst = some d → V i (vs d) w) →
      om.wp P { tmps := wrote vs (ops.toList.take m) a0.tmps, defers := a0.defers } w (fun a w => on.wp P a w (Q .normal) Q) Q) :
    (Code.region id ops true).wp P Q a0 w0 := by
  have hac' : ∀ (i : Nat) (o : Oper), ops[i]? = some o → ∀ e : Edge, e ∈ o.after → Region.binds .any e = true → e.on < i := by
    intro i o hi e he hbd
    rw [List.all_eq_true] at hac
    have := hac (o.after.all fun e => !Region.binds .any e || decide (e.on < i)) (by
      rw [List.mem_mapIdx]
      have hlt := (Array.getElem?_eq_some_iff.1 hi).1
      refine ⟨i, by simpa using hlt, ?_⟩
      have := (Array.getElem?_eq_some_iff.1 hi).2
      simp [this])
    rw [Array.all_eq_true_iff_forall_mem] at this
    simpa [hbd] using this e he
  have hnext : ∀ j, j < m + 1 → ∃ (k : Nat) (o : Oper) (e : Edge), j < k ∧ (j = m ∨ k ≤ m) ∧ k < m + 2 ∧ ops[k]? = some o ∧ e ∈ o.after ∧ e.on = j ∧ Region.binds .any e = true := by
    intro j hj
    have := List.all_eq_true.1 hdep j (by simpa using hj)
    rw [List.any_eq_true] at this
    obtain ⟨k, hk, h1⟩ := this
    simp only [List.mem_range] at hk
    simp only [Bool.and_eq_true, decide_eq_true_eq] at h1
    obtain ⟨⟨h1, h2⟩, h3⟩ := h1
    cases ho : ops[k]? with
    | none => rw [ho] at h3; cases h3
    | some o =>
      rw [ho] at h3
      simp only [] at h3
      rw [Array.any_eq_true] at h3
      obtain ⟨x, hx, hxe⟩ := h3
      simp only [Bool.and_eq_true, decide_eq_true_eq] at hxe
      exact ⟨k, o, _, h1, h2, hk, ho, Array.getElem_mem hx, hxe.1, hxe.2⟩
  have htk : ∀ (i : Nat) (o : Oper), i < m → ops[i]? = some o → (ops.toList.take m)[i]? = some o := by
    intro i o hi ho
    rw [List.getElem?_take, if_pos hi, Array.getElem?_toList]; exact ho
  have hdlt : ∀ o : Oper, o ∈ ops.toList.take m → ∀ d, o.dst = some d → d < a0.tmps.size := by
    intro o ho d hd
    have := List.all_eq_true.1 hdst.2 o ho
    rw [hd] at this
    simpa using this
  -- what stands before place n is done, if what waits at n has all that it waits for, and what is done has what it waited for
  have hclosed : ∀ (L : Array Bool) (n : Nat), n ≤ m + 1 → (∀ (k : Nat) (o : Oper) (e : Edge), ops[k]? = some o → L[k]? = some true → e ∈ o.after → Region.binds .any e = true → L[e.on]? = some true) →
      (∀ (o : Oper) (e : Edge), ops[n]? = some o → e ∈ o.after → Region.binds .any e = true → L[e.on]? = some true) → (n = m + 1 → L[m]? = some true) → (n = m ∨ n = m + 1) → ∀ j, j < n → L[j]? = some true := by
    intro L n hn hcl hr hnm hn2
    have key : ∀ t j, j < n → n - j ≤ t → L[j]? = some true := by
      intro t
      induction t with
      | zero => intro j hj ht; omega
      | succ t ih =>
        intro j hj ht
        by_cases e : j = m ∧ n = m + 1
        · rw [e.1]; exact hnm e.2
        · obtain ⟨k, o, ed, h1, h2, h3, h4, h5, h6, h7⟩ := hnext j (by omega)
          by_cases ek : k = n
          · subst ek; rw [← h6]; exact hr o ed h4 h5 h7
          · have hkn : k < n := by omega
            rw [← h6]
            exact hcl k o ed h4 (ih k hkn (by omega)) h5 h7
    intro j hj
    exact key (n - j) j hj (Nat.le_refl _)
  refine wp_region_any hm ?_
  refine wpAny_inv2 hac' (fun L a w => (∀ (k : Nat) (o : Oper) (e : Edge), ops[k]? = some o → L[k]? = some true → e ∈ o.after → Region.binds .any e = true → L[e.on]? = some true) ∧
      (L[m + 1]? = some true → Q .normal a w ∧ ∀ j, j < m + 1 → L[j]? = some true) ∧ (L[m + 1]? = some false → L[m]? = some true → on.wp P a w (Q .normal) Q ∧ ∀ j, j < m → L[j]? = some true) ∧
      (L[m + 1]? = some false → L[m]? = some false → C w ∧ Below w0.heap.size w0 w ∧ a.defers = a0.defers ∧ a.tmps.size = a0.tmps.size ∧
      (∀ s, (ops.toList.take m).all (fun (o : Oper) => o.dst != some s) = true → a.tmps.getD s undef = a0.tmps.getD s undef) ∧
      (∀ (i : Nat) (o : Oper) (d : Nat), i < m → ops[i]? = some o → o.dst = some d → L[i]? = some true → V i (a.tmps.getD d undef) w))) ?_ ?_ _ _ _ _ (by simp) ?_ ?_
  · intro i o ho L a w hs ⟨hcl, hT, hM, hF⟩ hi he
    have hoA : o ∈ ops.toList := by rw [← Array.getElem?_toList] at ho; exact List.mem_of_getElem? ho
    have hgo : o.guard = none := by have := List.all_eq_true.1 hg o hoA; simpa using this
    have hLm : m < L.size := by omega
    have hLm1 : m + 1 < L.size := by omega
    have him : i < ops.size := (Array.getElem?_eq_some_iff.1 ho).1
    unfold wpOp
    rw [ho]
    simp only []
    rw [if_pos (by simp [Region.wanted, hgo])]
    left
    have hnew : ∀ (k : Nat) (o' : Oper) (e : Edge), ops[k]? = some o' → (L.setIfInBounds i true)[k]? = some true → e ∈ o'.after → Region.binds .any e = true → (L.setIfInBounds i true)[e.on]? = some true := by
      intro k o' e hk hLk hem hbd
      have h1 : L[e.on]? = some true := by
        by_cases ek : i = k
        · subst ek
          rw [ho] at hk
          obtain rfl : o = o' := by simpa using hk
          exact he e hem hbd
        · rw [Array.getElem?_setIfInBounds, if_neg ek] at hLk
          exact hcl k o' e hk hLk hem hbd
      rw [Array.getElem?_setIfInBounds]
      by_cases e2 : i = e.on
      · rw [if_pos e2, if_pos (by omega)]
      · rw [if_neg e2]; exact h1
    have hL1f : L[m + 1]? = some false := by
      rw [Array.getElem?_eq_getElem hLm1]
      cases hb : L[m + 1] with
      | false => rfl
      | true =>
        have h1 := (hT (by rw [Array.getElem?_eq_getElem hLm1, hb])).2
        by_cases e : i = m + 1
        · subst e; rw [Array.getElem?_eq_getElem hLm1, hb] at hi; exact hi
        · have := h1 i (by omega); rw [this] at hi; cases hi
    by_cases e1 : i = m + 1
    · subst e1
      rw [hon] at ho
      obtain rfl : on = o := by simpa using ho
      obtain ⟨k, o', ed, h1, h2, h3, h4, h5, h6, h7⟩ := hnext m (by omega)
      have hk : k = m + 1 := by omega
      subst hk
      rw [hon] at h4
      obtain rfl : on = o' := by simpa using h4
      have hLmt : L[m]? = some true := by rw [← h6]; exact he ed h5 h7
      obtain ⟨hw, hall⟩ := hM hL1f hLmt
      refine Oper.wp_mono (fun a' w' hq => ⟨hnew, fun _ => ⟨hq, fun j hj => ?_⟩, fun hf => ?_, fun hf => ?_⟩) hw
      · rw [Array.getElem?_setIfInBounds, if_neg (by omega)]
        by_cases ej : j = m
        · rw [ej]; exact hLmt
        · exact hall j (by omega)
      · rw [Array.getElem?_setIfInBounds, if_pos rfl, if_pos hLm1] at hf; cases hf
      · rw [Array.getElem?_setIfInBounds, if_pos rfl, if_pos hLm1] at hf; cases hf
    · have hLmf : L[m]? = some false := by
        rw [Array.getElem?_eq_getElem hLm]
        cases hb : L[m] with
        | false => rfl
        | true =>
          have h1 := (hM hL1f (by rw [Array.getElem?_eq_getElem hLm, hb])).2
          by_cases e : i = m
          · subst e; rw [Array.getElem?_eq_getElem hLm, hb] at hi; exact hi
          · have := h1 i (by omega); rw [this] at hi; cases hi
      obtain ⟨h1, h2, h3, h4, h5, h6⟩ := hF hL1f hLmf
      by_cases e : i = m
      · subst e
        rw [hom] at ho
        obtain rfl : om = o := by simpa using ho
        have hall : ∀ j, j < i → L[j]? = some true := hclosed L i (by omega) hcl (fun o' ed ho' hem hbd => by
          rw [hom] at ho'
          obtain rfl : om = o' := by simpa using ho'
          exact he ed hem hbd) (by omega) (.inl rfl)
        have ha : a = { tmps := wrote (fun d => a.tmps.getD d undef) (ops.toList.take i) a0.tmps, defers := a0.defers } := by
          obtain ⟨at', ad⟩ := a
          simp only at h3 h4 h5
          subst h3
          have key : at' = wrote (fun d => at'.getD d undef) (ops.toList.take i) a0.tmps := by
            have hgd : ∀ s, s < at'.size → (wrote (fun d => at'.getD d undef) (ops.toList.take i) a0.tmps).getD s undef = at'.getD s undef := by
              intro s hs
              refine wrote_at _ _ _ s (by omega) _ (fun _ => rfl) (fun hno => ?_)
              exact (h5 s (by rw [List.all_eq_true]; intro o ho; simpa using hno o ho)).symm
            apply Array.ext
            · rw [wrote_size]; exact h4
            · intro i hi1 hi2
              have h := hgd i hi1
              rw [Array.getD_eq_getD_getElem?, Array.getD_eq_getD_getElem?, Array.getElem?_eq_getElem hi1, Array.getElem?_eq_getElem hi2] at h
              exact h.symm
          exact congrArg (fun t => Act.mk t a0.defers) key
        have hw := hend (fun d => a.tmps.getD d undef) w h1 h2 (fun j oj d hj hoj hd => h6 j oj d hj hoj hd (hall j hj))
        rw [← ha] at hw
        refine Oper.wp_mono (fun a' w' hq => ⟨hnew, fun ht => ?_, fun _ _ => ⟨hq, fun j hj => ?_⟩, fun _ hf => ?_⟩) hw
        · rw [Array.getElem?_setIfInBounds, if_neg (by omega), hL1f] at ht; cases ht
        · rw [Array.getElem?_setIfInBounds, if_neg (by omega)]; exact hall j hj
        · rw [Array.getElem?_setIfInBounds, if_pos rfl, if_pos hLm] at hf; cases hf
      · have hilt : i < m := by omega
        have hot : o ∈ ops.toList.take m := List.mem_of_getElem? (htk i o hilt ho)
        refine opsOk_at (ops.toList.take m) 0 hop i o (htk i o hilt ho) a w h1 (by simpa using h5) ?_ _ ?_
        · intro ed hem hb oe d hoe hd
          have hlt := hac' i o ho ed hem hb
          have hoe' : ops[ed.on]? = some oe := by
            rw [List.getElem?_toArray, List.getElem?_take] at hoe
            split at hoe
            · rwa [Array.getElem?_toList] at hoe
            · cases hoe
          exact h6 ed.on oe d (by omega) hoe' hd (he ed hem hb)
        · intro v w' hv hc hbl
          rw [Nat.zero_add] at hv
          refine ⟨hnew, fun ht => ?_, fun _ ht => ?_, fun _ _ => ⟨hc, h2.trans (hbl.mono h2.size), ?_, ?_, ?_, ?_⟩⟩
          · rw [Array.getElem?_setIfInBounds, if_neg e1, hL1f] at ht; cases ht
          · rw [Array.getElem?_setIfInBounds, if_neg e, hLmf] at ht; cases ht
          · rw [← h3]; cases o.dst <;> rfl
          · rw [← h4]; cases o.dst <;> simp [Act.put]
          · intro s hsn
            rw [← h5 s hsn]
            cases hdo : o.dst with
            | none => rfl
            | some d => exact eval_put_other a d s v (fun e => by have := List.all_eq_true.1 hsn o hot; rw [hdo, e] at this; simp at this)
          · intro j oj d hjm hj hdj hLj
            by_cases e : j = i
            · subst e
              rw [ho] at hj
              obtain rfl : o = oj := by simpa using hj
              rw [hdj, eval_put_same a d v (by rw [h4]; exact hdlt o hot d hdj)]
              exact hv
            · have hLj' : L[j]? = some true := by
                rw [Array.getElem?_setIfInBounds, if_neg (fun e' => e e'.symm)] at hLj
                exact hLj
              have := h6 j oj d hjm hj hdj hLj'
              have hval : (a.put o.dst v).tmps.getD d undef = a.tmps.getD d undef := by
                cases hdo : o.dst with
                | none => rfl
                | some d' =>
                  refine eval_put_other a d' d v (fun e' => e ?_)
                  subst e'
                  exact dst_inj _ hdst.1 j i oj o d' (htk j oj hjm hj) (htk i o hilt ho) hdj hdo
              rw [hval]
              exact hst j _ w w' hbl this
  · intro L a w hall ⟨_, hT, _⟩
    exact (hT (hall (m + 1) (by omega))).1
  · refine ⟨fun k o e _ hk => ?_, fun ht => ?_, fun _ ht => ?_, fun _ _ => ⟨hC, (Below.refl _ _).drew, rfl, rfl, fun _ _ => rfl, ?_⟩⟩
    · rw [Array.getElem?_replicate] at hk; split at hk <;> simp_all
    · rw [Array.getElem?_replicate] at ht; split at ht <;> simp_all
    · rw [Array.getElem?_replicate] at ht; split at ht <;> simp_all
    · intro i o d _ ho hd hL
      rw [Array.getElem?_replicate] at hL
      split at hL <;> simp_all
  · unfold unlisted
    simp
end
end Go.Proofs.Ytgckhekikcdaiaa

namespace Tri
/-- A word's values. -/
def synd (word : List Nat) (p : Nat) : List Nat := (powers p).map fun x => peval x word
theorem synd_length (word : List Nat) (p : Nat) : (synd word p).length = p := by unfold synd; rw [List.length_map, powers_length]
theorem synd_bytes {word : List Nat} (h : bytesL word) (p : Nat) : bytesL (synd word p) := by
  intro y hy
  unfold synd at hy
  obtain ⟨x, _, rfl⟩ := List.mem_map.1 hy
  exact peval_lt x h
theorem synd_take (word : List Nat) (p k : Nat) (h : k < p) : (synd word p).take (k + 1) = (synd word p).take k ++ [peval (gexp k) word] := by
  unfold synd
  rw [← List.map_take, ← List.map_take, powers_take p k h, List.map_append]
  rfl
/-- Is a word one of the code? -/
def rightB (word : List Nat) (p : Nat) : Bool := (synd word p).all fun y => decide (y = 0)
end Tri
namespace Go.Proofs.Ytgckhekikcdaiaa
open Go.RowKit Tri

theorem firstNz_all (l : List Nat) : decide (firstNz l < l.length) = !(l.all fun y => decide (y = 0)) := by
  induction l with
  | nil => rfl
  | cons a l ih =>
    by_cases e : a = 0
    · subst e
      have h1 : firstNz (0 :: l) = firstNz l + 1 := by simp [firstNz]
      rw [h1, List.length_cons, List.all_cons]
      simp only [decide_true, Bool.true_and]
      rw [← ih]
      by_cases h : firstNz l < l.length
      · rw [decide_eq_true h, decide_eq_true (by omega)]
      · rw [decide_eq_false h, decide_eq_false (by omega)]
    · have h1 : firstNz (a :: l) = 0 := by simp [firstNz, e]
      rw [h1, List.all_cons, decide_eq_false e]
      simp
set_option maxHeartbeats 400000 in
theorem rs_isnt (x : Nat) (w : World) : Calls Try.prog 41 #[.int .u8 x] w fun e w' => e = .returned (.bool ((x : Int) != 0)) ∧ w = w' := by
  go_enter Try.func41, Try.ntmps41
  go_wp2
  go_ret
  exact ⟨rfl, rfl⟩
set_option maxHeartbeats 1000000 in
theorem sl_IndexFuncR (p : Option Addr) (n c : Nat) (l : List Nat) (w : World) (hn : n = l.length) (hp : cellsB w p l) (hl : l.length ≤ 1000000) :
    Calls Try.prog 53 #[.slice p n c, .func (.func 41) #[] #[]] w
      fun e w' => e = .returned (.int .i64 (idxNz l)) ∧ w = w' := by
  subst hn
  have HP := hid hp
  clear hp
  go_enter Try.func53, Try.ntmps53
  go_wp2
  go_loop [8] (fun i => ∃ k : Nat, k ≤ firstNz l ∧ i = .int .i64 k) (fun i => l.length - (intOf i).toNat)
  case atStart => exact ⟨0, Nat.zero_le _, rfl⟩
  case round =>
    obtain ⟨k, hk, rfl⟩ := hrel
    have hf := firstNz_le l
    by_cases hlt : k < l.length
    · obtain ⟨a, o, rfl, hc⟩ := HP.out k hlt
      by_cases hkf : k < firstNz l
      · have hz := firstNz_zero l k hkf
        rw [hz] at hc
        go_wp2_with fail
        refine Calls.mono (rs_isnt 0 w) ?_; rintro e w' ⟨rfl, rfl⟩
        go_wp2
        go_round
        case rel => exact ⟨k + 1, by omega, by go_num⟩
        case measure => simp [intOf]; omega
      · have hke : Hid (firstNz l = k) := (show firstNz l = k by omega)
        have hnz : ((l.getD k 0 : Int) != 0) = true := by have := firstNz_at l (by omega); rw [hke.out] at this; simp only [bne_iff_ne]; omega
        have hres : Hid (idxNz l = (k : Int)) := by show _ = _; unfold idxNz; rw [hke.out, if_pos hlt]
        generalize l.getD k 0 = x at *
        go_wp2_with fail
        refine Calls.mono (rs_isnt x w) ?_; rintro e w' ⟨rfl, rfl⟩
        go_wp2
        go_ret
        exact ⟨by rw [hres.out]; rfl, rfl⟩
    · have hres : Hid (idxNz l = -1) := by show _ = _; unfold idxNz; rw [if_neg (by omega)]
      go_wp2
      go_ret
      exact ⟨by rw [hres.out]; rfl, rfl⟩
/-- 'append(s, x)' as one operation. -/
theorem wp_push {P : Program} {wr : World} {o : Oper} {a : Act} {K : Act → World → Prop} {Q : Exit → Act → World → Prop} (s x : Operand) (t : TypeId)
    (ho : o.op = .call { callee := .builtin .append, args := #[s, x], argTypes := #[t, t] })
    (base : Nat) (e : TypeId) (i : TypeInfo) (k : IntKind) (bytes : Nat) (ht : P.underlying t = some (.slice e)) (hi : P.info? e = some i) (hz : i.zero = some (.int k 0))
    (hsize : i.size = 1) (hby : i.bytes = bytes) (hb8 : bytes ≤ 8)
    (v : Value) (l : List Nat) (y : Nat) (hown : rowK wr base e k v l) (hs : a.eval s = v)
    (g : Nat) (hx : a.eval x = .slice (some ⟨g, 0, none⟩) 1 1) (hc : wr.cell? ⟨g, 0, none⟩ = some (.int k (y : Nat))) (hlen : l.length ≤ 1000000) (hbase : base ≤ wr.heap.size)
    (h : ∀ v' w', rowK w' base e k v' (l ++ [y]) → Below base wr w' → K (a.put o.dst v') w') : o.wp P a wr K Q := by
  refine wp_append_own wr s x t ho base e i (.int k 0) 1 bytes ht hi hz hsize hby rfl (by decide) v l.length (l.map fun x => Value.int k (x : Nat)) hs hown
    ⟨g, 0, none⟩ 1 1 [Value.int k (y : Nat)] hx rfl ?_ ?_ ?_ ?_ hbase ?_
  · intro j u hj
    match j with
    | 0 =>
      simp only [List.getElem?_cons_zero, Option.some.injEq] at hj
      subst hj
      rw [show (⟨g, 0, none⟩ : Addr).add 0 = ⟨g, 0, none⟩ from by simp [Addr.add]]
      exact hc
    | j + 1 => simp at hj
  · intro u hu; simp only [List.mem_singleton] at hu; subst hu; rfl
  · unfold maxLen; omega
  · calc (l.length + 1) * bytes ≤ (l.length + 1) * 8 := Nat.mul_le_mul_left _ hb8
      _ ≤ _ := by omega
  · intro v' w' h2 h3 _
    refine h v' w' ?_ ?_
    · unfold rowK; rw [List.length_append, List.map_append]; exact h2
    · refine ((Below.refl _ wr).mono hbase).grown h3 hbase ?_
      intro b hb
      rcases hown.2 with ⟨h4, _⟩ | ⟨g', cap, cur, h4, h5, _⟩
      · rw [h4] at hb; simp [Value.ownBlock] at hb
      · rw [h4] at hb; simp only [Value.ownBlock, Option.some.injEq] at hb; omega
/-- A new row of one byte. -/
def OneB (v : Value) (w : World) (x : Nat) : Prop := ∃ s, v = .slice (some ⟨s, 0, none⟩) 1 1 ∧ w.cell? ⟨s, 0, none⟩ = some (.int .u8 (x : Nat))
theorem OneB.below {v : Value} {w w' : World} {x : Nat} (h : OneB v w x) (hb : Below w.heap.size w w') : OneB v w' x := by
  obtain ⟨n, e, hc⟩ := h
  exact ⟨n, e, by rw [hb.cell (p := ⟨n, 0, none⟩) (block_lt_of_cell hc)]; exact hc⟩
theorem OneB.new (w : World) (x : Nat) (t : TypeId) : OneB (.slice (some ⟨w.heap.size, 0, none⟩) 1 1) (w.alloc (.cells #[.int .u8 (x : Nat)] t)) x :=
  ⟨_, rfl, by rw [World.cell?_alloc_new]; rfl⟩
def synV (c f i : Nat) (vo vw : Value) (x y : Nat) (j : Nat) (v : Value) (w : World) : Prop := match j with
  | 0 => v = vo
  | 1 | 2 | 6 | 7 => v = .pointer (some ⟨c, 0, none⟩)
  | 3 | 8 => v = .pointer (some ⟨c, 0, none⟩)
  | 4 | 9 => v = .pointer (some ⟨f, 0, none⟩)
  | 5 => v = vw
  | 10 => v = .int .i64 (i : Nat)
  | 11 => v = .int .u8 (x : Nat)
  | 12 => v = .int .u8 (y : Nat)
  | 13 => OneB v w y
  | _ => True
theorem synV_st (c f i : Nat) (vo vw : Value) (x y : Nat) (j : Nat) (v : Value) (w w' : World) (hb : Below w.heap.size w w') (h : synV c f i vo vw x y j v w) : synV c f i vo vw x y j v w' := by
  unfold synV at *
  split at h <;> first | exact h | exact h.below hb
theorem ownsB.belowO {w w' : World} {base : Nat} {v : Value} {l : List Nat} (h : ownsB w base v l) (hb : Below w.heap.size w w') : ownsB w' base v l := by
  obtain ⟨h2, h3⟩ := h
  refine ⟨h2, h3.imp id fun ⟨g, cap, cur, h4, h5, h6, h7⟩ => ⟨g, cap, cur, h4, h5, ?_, h7⟩⟩
  rw [hb.block g (Array.getElem?_eq_some_iff.1 h6).1]; exact h6

set_option maxHeartbeats 4000000 in
set_option maxRecDepth 100000 in
theorem rs_Syndromes (c f n k : Nat) (p : Option Addr) (m d : Nat) (word : List Nat) (w : World) (hR : isR w c f n k) (hk : k < n) (hn : n ≤ 255) (hm : m = word.length) (hp : cellsB w p word) (hb : bytesL word) (hl : word.length = n) :
    Calls Try.prog 39 #[.pointer (some ⟨c, 0, none⟩), .slice p m d] w fun e w' => ∃ v, e = .returned (.tuple #[v, .int .i64 0]) ∧ ownsB w' w.heap.size v (synd word (n - k)) ∧ Below w.heap.size w w' := by
  subst hm
  have HR := hid hR
  have HP := hid hp
  have HB := hid hb
  clear hR hp hb
  obtain ⟨i0, hi, hz0, hz1, hz2⟩ := info_parts Try.infoB
  obtain ⟨q, hq⟩ : ∃ q, n - k = q := ⟨_, rfl⟩
  have hnk : (n : Int) - (k : Int) = (q : Int) := by omega
  have hw : IntKind.i64.wrap (q : Int) = (q : Int) := by rw [IntKind.wrap_i64]; omega
  have HST : Hid (∀ j, j < q → (synd word q).take (j + 1) = (synd word q).take j ++ [peval (gexp j) word]) := fun j hj => synd_take word q j hj
  have HSl := hid (synd_length word q)
  rw [hq]
  generalize synd word q = S at *
  have HQ := hid hq
  have hlw : word.length ≤ 255 := by omega
  have hne : ((word.length : Int) != (n : Int)) = false := by rw [bne_eq_false_iff_eq]; omega
  have HLw := hid hl
  clear hq hl
  have c1 := HR.out.n
  have c2 := HR.out.k
  (go_enter Try.func39, Try.ntmps39; try simp only [List.append])
  go_wp2_with ((with_reducible refine wpList_unguard ?_ ?_); (focus rfl))
  go_region
  clear c1 c2
  go_wp2_with ((with_reducible refine wpList_unguard ?_ ?_); (focus rfl))
  go_loopw [6, 28] (fun s i wr => ∃ j : Nat, j ≤ q ∧ i = .int .i64 j ∧ ownsB wr w.heap.size s (S.take j) ∧ Below w.heap.size w wr) (fun _ i _ => q - (intOf i).toNat)
  case atStart => exact ⟨0, Nat.zero_le _, rfl, World.ownsRow_nil _ _ _ _, (Below.refl _ _).drew⟩
  case round =>
    obtain ⟨j, hj, rfl, hO', hK⟩ := hrel
    obtain ⟨v0, hv0, hO⟩ : ∃ v0, v0 = (_ : Value) ∧ ownsB wr w.heap.size v0 (S.take j) := ⟨_, rfl, hO'⟩
    subst hv0
    clear hO'
    have HO := hid hO
    have K := hid hK
    have HRw := hid (HR.out.below hK)
    clear hO hK
    by_cases hlt : j < q
    · have HS := hid (HST.out j hlt)
      have hgl := gexp_lt j
      have hkl : (S.take j).length ≤ 1000000 := by rw [List.length_take, HSl.out]; omega
      have hge : Hid (gexpZ (j : Int) = gexp j) := gexpZ_nat j
      generalize hs2 : S.take (j + 1) = S2 at *
      have HS2 := hid hs2
      clear hs2
      generalize S.take j = S1 at *
      generalize gexp j = x at *
      have hyl := peval_lt x HB.out
      have HPE : Hid (∀ z, z = peval x word → peval x word = z) := fun z h => h.symm
      obtain ⟨y, hy⟩ : ∃ y, peval x word = y := ⟨_, rfl⟩
      rw [hy] at HS hyl
      have HY := hid hy
      clear hy HPE
      go_wp2_with ((with_reducible refine wpList_unguard ?_ ?_); (focus rfl))
      refine region_tail2 (m := 14) _ _ (fun w' => Below w.heap.size w w' ∧ ownsB w' w.heap.size v0 S1) (synV c f j v0 (.slice p word.length d) x y) (by kernel_rfl) (by kernel_rfl) (by kernel_rfl) rfl rfl rfl (by kernel_rfl) ⟨by decide, rfl⟩ ⟨K.out.drew, HO.out⟩ (synV_st c f j _ _ x y) ?_ ?_
      · clear K HRw
        refine ⟨fun A w3 hC hu hd K hK => ?_, ?_⟩
        · exact op_tmp 6 _ rfl (hu 6 rfl) (hK _ _ rfl hC (Below.refl _ _))
        refine ⟨fun A w3 hC hu hd K hK => ?_, ?_⟩
        · exact op_tmp 0 _ rfl (hu 0 rfl) (hK _ _ rfl hC (Below.refl _ _))
        refine ⟨fun A w3 hC hu hd K hK => ?_, ?_⟩
        · have h1 : A.tmps[32]?.getD undef = Value.pointer (some ⟨c, 0, none⟩) := by have this : A.tmps.getD 32 undef = Value.pointer (some ⟨c, 0, none⟩) := hd ⟨1, .data⟩ (by simp) rfl _ _ rfl rfl; simpa using this
          clear hu hd
          go_simp
          exact hK _ _ rfl hC (Below.refl _ _)
        refine ⟨fun A w3 hC hu hd K hK => ?_, ?_⟩
        · have h1 : A.tmps[33]?.getD undef = Value.pointer (some ⟨c, 0, none⟩) := by have this : A.tmps.getD 33 undef = Value.pointer (some ⟨c, 0, none⟩) := hd ⟨2, .data⟩ (by simp) rfl _ _ rfl rfl; simpa using this
          clear hu hd
          go_simp
          exact hK _ _ rfl hC (Below.refl _ _)
        refine ⟨fun A w3 hC hu hd K hK => ?_, ?_⟩
        · have h1 : A.tmps[34]?.getD undef = Value.pointer (some ⟨c, 0, none⟩) := by have this : A.tmps.getD 34 undef = Value.pointer (some ⟨c, 0, none⟩) := hd ⟨3, .data⟩ (by simp) rfl _ _ rfl rfl; simpa using this
          have hl := (HR.out.below hC.1).field
          clear hu hd
          go_simp
          exact hK _ _ rfl hC (Below.refl _ _)
        refine ⟨fun A w3 hC hu hd K hK => ?_, ?_⟩
        · exact op_tmp 1 _ rfl (hu 1 rfl) (hK _ _ rfl hC (Below.refl _ _))
        refine ⟨fun A w3 hC hu hd K hK => ?_, ?_⟩
        · exact op_tmp 0 _ rfl (hu 0 rfl) (hK _ _ rfl hC (Below.refl _ _))
        refine ⟨fun A w3 hC hu hd K hK => ?_, ?_⟩
        · have h1 : A.tmps[37]?.getD undef = Value.pointer (some ⟨c, 0, none⟩) := by have this : A.tmps.getD 37 undef = Value.pointer (some ⟨c, 0, none⟩) := hd ⟨6, .data⟩ (by simp) rfl _ _ rfl rfl; simpa using this
          clear hu hd
          go_simp
          exact hK _ _ rfl hC (Below.refl _ _)
        refine ⟨fun A w3 hC hu hd K hK => ?_, ?_⟩
        · have h1 : A.tmps[38]?.getD undef = Value.pointer (some ⟨c, 0, none⟩) := by have this : A.tmps.getD 38 undef = Value.pointer (some ⟨c, 0, none⟩) := hd ⟨7, .data⟩ (by simp) rfl _ _ rfl rfl; simpa using this
          clear hu hd
          go_simp
          exact hK _ _ rfl hC (Below.refl _ _)
        refine ⟨fun A w3 hC hu hd K hK => ?_, ?_⟩
        · have h1 : A.tmps[39]?.getD undef = Value.pointer (some ⟨c, 0, none⟩) := by have this : A.tmps.getD 39 undef = Value.pointer (some ⟨c, 0, none⟩) := hd ⟨8, .data⟩ (by simp) rfl _ _ rfl rfl; simpa using this
          have hl := (HR.out.below hC.1).field
          clear hu hd
          go_simp
          exact hK _ _ rfl hC (Below.refl _ _)
        refine ⟨fun A w3 hC hu hd K hK => ?_, ?_⟩
        · exact op_tmp 7 _ rfl (hu 7 rfl) (hK _ _ rfl hC (Below.refl _ _))
        refine ⟨fun A w3 hC hu hd K hK => ?_, ?_⟩
        · have h1 : A.tmps[40]?.getD undef = Value.pointer (some ⟨f, 0, none⟩) := by have this : A.tmps.getD 40 undef = Value.pointer (some ⟨f, 0, none⟩) := hd ⟨9, .data⟩ (by simp) rfl _ _ rfl rfl; simpa using this
          have h2 : A.tmps[41]?.getD undef = Value.int .i64 (j : Nat) := by have this : A.tmps.getD 41 undef = Value.int .i64 (j : Nat) := hd ⟨10, .data⟩ (by simp) rfl _ _ rfl rfl; simpa using this
          clear hu hd
          go_simp
          refine Calls.mono (gf_Exp f (j : Int) _ (HR.out.below hC.1).fld) ?_
          rintro e w5 ⟨rfl, rfl⟩
          rw [hge.out]
          exact hK _ _ rfl hC (Below.refl _ _)
        refine ⟨fun A w3 hC hu hd K hK => ?_, ?_⟩
        · have h1 : A.tmps[35]?.getD undef = Value.pointer (some ⟨f, 0, none⟩) := by have this : A.tmps.getD 35 undef = Value.pointer (some ⟨f, 0, none⟩) := hd ⟨4, .data⟩ (by simp) rfl _ _ rfl rfl; simpa using this
          have h2 : A.tmps[36]?.getD undef = Value.slice p word.length d := by have this : A.tmps.getD 36 undef = Value.slice p word.length d := hd ⟨5, .data⟩ (by simp) rfl _ _ rfl rfl; simpa using this
          have h3 : A.tmps[42]?.getD undef = Value.int .u8 (x : Nat) := by have this : A.tmps.getD 42 undef = Value.int .u8 (x : Nat) := hd ⟨11, .data⟩ (by simp) rfl _ _ rfl rfl; simpa using this
          clear hu hd
          go_simp
          refine Calls.mono (poly_Eval f p _ d word x _ (HR.out.below hC.1).fld rfl (HP.out.below hC.1) HB.out hgl (by omega)) ?_
          rintro e w5 ⟨rfl, hK5⟩
          rw [HY.out]
          exact hK _ _ rfl ⟨hC.1.trans (hK5.1.mono hC.1.size), hC.2.belowO hK5.1⟩ hK5.1
        refine ⟨fun A w3 hC hu hd K hK => ?_, ?_⟩
        · have h1 : A.tmps[43]?.getD undef = Value.int .u8 (y : Nat) := by have this : A.tmps.getD 43 undef = Value.int .u8 (y : Nat) := hd ⟨12, .data⟩ (by simp) rfl _ _ rfl rfl; simpa using this
          clear hu hd
          go_simp
          exact hK _ _ (OneB.new w3 _ _) ⟨hC.1.alloc hC.1.size _, hC.2.belowO ((Below.refl _ _).alloc (Nat.le_refl _) _)⟩ ((Below.refl _ _).alloc (Nat.le_refl _) _)
        trivial
      · intro vs w4 hC hbl hv
        have h31 := hv 0 _ 31 (by decide) rfl rfl
        obtain ⟨g, h44, hcg⟩ : OneB (vs 44) w4 y := hv 13 _ 44 (by decide) rfl rfl
        have h31' : vs 31 = _ := h31
        clear hv hbl h31
        have HC := hid hC
        clear hC
        simp only [List.take_succ_cons, List.take_zero, wrote_cons, wrote_nil]
        refine wp_push _ _ 22 rfl w.heap.size 5 i0 .u8 1 Try.underlying22 hi hz0 hz1 hz2 (by decide) _ S1 y HC.out.2 ?_ g ?_ hcg hkl HC.out.1.size ?_
        · simp [Act.eval, h31']
        · simp [Act.eval, h44]
        · intro v' w' hown' hbel
          have hO' : Hid (ownsB w' w.heap.size v' S2) := by show ownsB _ _ _ _; rw [HS.out]; exact hown'
          have K' := hid (HC.out.1.trans hbel)
          clear hown' hbel HC hcg h44 h31'
          go_simp
          go_wp2_with ((with_reducible refine wpList_unguard ?_ ?_); (focus rfl))
          go_roundw
          case rel => exact ⟨j + 1, by omega, by go_num, by rw [HS2.out]; exact hO'.out, K'.out⟩
          case measure => simp [intOf]; omega
    · have hT : Hid (S.take j = S) := by show _ = _; exact List.take_of_length_le (by rw [HSl.out]; omega)
      rw [hT.out] at HO
      go_wp2_with ((with_reducible refine wpList_unguard ?_ ?_); (focus rfl))
      refine bodyPost_ret (v := .tuple #[v0, .int .i64 0]) (by simp [results, Try.results39, go_sem]) rfl ⟨v0, rfl, HO.out, K.out⟩
end Go.Proofs.Ytgckhekikcdaiaa
