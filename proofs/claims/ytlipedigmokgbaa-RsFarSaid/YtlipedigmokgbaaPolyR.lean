/-
  Weighted sums of factors, values of derivatives, and the polynomial of some roots, in plain Lean. No program in sight.
-/
import Derived.Test.YtlipedigmokgbaaPolyW
namespace Tri
/-- The factors' sum, each taken so often as its power's weight says. -/
def ev (W : Nat → Nat) : List Nat → Nat
  | [] => 0
  | a :: l => gmul a (W l.length) ^^^ ev W l
theorem ev_lt (W : Nat → Nat) (l : List Nat) : ev W l < 256 := by
  induction l with
  | nil => exact (by decide : (0 : Nat) < 256)
  | cons a l ih => exact xor_lt (gmul_lt _ _) ih
theorem ev_trim (W : Nat → Nat) (l : List Nat) : ev W (trim l) = ev W l := by
  induction l with
  | nil => rfl
  | cons a l ih =>
    by_cases e : a = 0
    · subst e
      show ev W (trim l) = gmul 0 _ ^^^ ev W l
      rw [zero_gmul, Nat.zero_xor, ih]
    · simp only [trim, if_neg e]
theorem ev_zeros (W : Nat → Nat) (n : Nat) : ev W (List.replicate n 0) = 0 := by
  induction n with
  | zero => rfl
  | succ n ih => show gmul 0 _ ^^^ ev W (List.replicate n 0) = 0; rw [ih, zero_gmul]; rfl
theorem ev_zero (l : List Nat) : ev (fun _ => 0) l = 0 := by
  induction l with
  | nil => rfl
  | cons a l ih => show gmul a 0 ^^^ ev _ l = 0; rw [ih, gmul_zero]; rfl
theorem ev_snoc (W : Nat → Nat) (l : List Nat) (c : Nat) : ev W (l ++ [c]) = ev (fun m => W (m + 1)) l ^^^ gmul c (W 0) := by
  induction l with
  | nil => show gmul c (W 0) ^^^ 0 = 0 ^^^ gmul c (W 0); rw [Nat.xor_zero, Nat.zero_xor]
  | cons a l ih =>
    show gmul a (W (l ++ [c]).length) ^^^ ev W (l ++ [c]) = gmul a (W (l.length + 1)) ^^^ ev _ l ^^^ _
    rw [ih, List.length_append, List.length_singleton, Nat.xor_assoc]
theorem ev_congr {W V : Nat → Nat} (l : List Nat) (h : ∀ i, i < l.length → W i = V i) : ev W l = ev V l := by
  induction l with
  | nil => rfl
  | cons a l ih =>
    show gmul a (W l.length) ^^^ ev W l = gmul a (V l.length) ^^^ ev V l
    rw [h _ (by simp), ih fun i hi => h i (by rw [List.length_cons]; omega)]
theorem ev_add {W V : Nat → Nat} (hW : ∀ i, W i < 256) (hV : ∀ i, V i < 256) {l : List Nat} (hl : bytesL l) : ev (fun i => W i ^^^ V i) l = ev W l ^^^ ev V l := by
  induction l with
  | nil => exact (Nat.xor_self 0).symm
  | cons a l ih =>
    show gmul a (W l.length ^^^ V l.length) ^^^ ev _ l = (gmul a (W l.length) ^^^ ev W l) ^^^ (gmul a (V l.length) ^^^ ev V l)
    rw [gmul_xor _ _ _ hl.head (hW _) (hV _), ih hl.tail, xor4]
theorem ev_mul {W : Nat → Nat} (c : Nat) (hc : c < 256) {l : List Nat} : ev (fun i => gmul c (W i)) l = gmul c (ev W l) := by
  induction l with
  | nil => exact (gmul_zero c).symm
  | cons a l ih =>
    show gmul a (gmul c (W l.length)) ^^^ ev _ l = gmul c (gmul a (W l.length) ^^^ ev W l)
    rw [gmul_xor _ _ _ hc (gmul_lt _ _) (ev_lt _ _), ih, gmul_left_comm]
theorem ev_acc (W : Nat → Nat) (hW : ∀ i, W i < 256) (L : List Nat) (h : bytesL L) (v : Nat) (hv : v < 256) : ∀ j, j < L.length → ev W (acc L j v) = ev W L ^^^ gmul v (W (L.length - 1 - j)) := by
  induction L with
  | nil => intro j hj; simp at hj
  | cons a L ih =>
    intro j hj
    cases j with
    | zero =>
      show gmul (a ^^^ v) (W L.length) ^^^ ev W L = gmul a (W L.length) ^^^ ev W L ^^^ gmul v (W (L.length + 1 - 1 - 0))
      rw [xor_gmul _ _ _ (hW _) h.head hv, Nat.add_sub_cancel, Nat.sub_zero, Nat.xor_assoc, Nat.xor_assoc, Nat.xor_comm (gmul v _)]
    | succ j =>
      simp only [List.length_cons] at hj
      have e : acc (a :: L) (j + 1) v = a :: acc L j v := by simp [acc]
      rw [e]
      show gmul a (W (acc L j v).length) ^^^ ev W (acc L j v) = gmul a (W L.length) ^^^ ev W L ^^^ gmul v (W (L.length + 1 - 1 - (j + 1)))
      rw [ih h.tail j (by omega), acc_length, Nat.xor_assoc, show L.length + 1 - 1 - (j + 1) = L.length - 1 - j from by omega]
theorem ev_rowTo (W : Nat → Nat) (hW : ∀ i, W i < 256) (L : List Nat) (h : bytesL L) (i y : Nat) (hy : y < 256) (b : List Nat) : ∀ k, k ≤ b.length → i + k ≤ L.length →
    ev W (rowTo L i y b k) = ev W L ^^^ gmul y (ev (fun m => W (m + (L.length - i - k))) (b.take k)) := by
  intro k
  induction k with
  | zero => intro _ _; show ev W L = ev W L ^^^ gmul y 0; rw [gmul_zero, Nat.xor_zero]
  | succ k ih =>
    intro hk hi
    obtain ⟨m, e1, e2, e3⟩ : ∃ m, L.length - i - (k + 1) = m ∧ L.length - i - k = m + 1 ∧ L.length - 1 - (i + k) = m := ⟨L.length - i - (k + 1), rfl, by omega, by omega⟩
    show ev W (acc (rowTo L i y b k) (i + k) (gmul y (b.getD k 0))) = _
    rw [ev_acc W hW _ (rowTo_bytes h _ _ _ _) _ (gmul_lt _ _) _ (by rw [rowTo_length]; omega), rowTo_length, ih (by omega) (by omega), e1, e2, e3, take_getD b k (by omega), ev_snoc,
      gmul_xor _ _ _ hy (ev_lt _ _) (gmul_lt _ _), Nat.xor_assoc, gmul_assoc, Nat.zero_add]
    congr 3
    exact ev_congr _ fun j _ => by rw [show j + 1 + m = j + (m + 1) from by omega]
theorem ev_convTo (W : Nat → Nat) (hW : ∀ i, W i < 256) (L : List Nat) (h : bytesL L) (a b : List Nat) (ha : bytesL a) : ∀ i, i ≤ a.length → i + b.length ≤ L.length + 1 →
    ev W (convTo L a b i) = ev W L ^^^ ev (fun p => ev (fun m => W (m + (p + (L.length + 1 - i - b.length)))) b) (a.take i) := by
  intro i
  induction i with
  | zero => intro _ _; exact (Nat.xor_zero _).symm
  | succ i ih =>
    intro hi hn
    obtain ⟨m, e1, e2, e3⟩ : ∃ m, L.length + 1 - (i + 1) - b.length = m ∧ L.length + 1 - i - b.length = m + 1 ∧ L.length - i - b.length = m := ⟨L.length - i - b.length, by omega, by omega, rfl⟩
    show ev W (rowTo (convTo L a b i) i (a.getD i 0) b b.length) = _
    rw [ev_rowTo W hW _ (convTo_bytes h _ _ _) _ _ (ha.getD i) b _ (Nat.le_refl _) (by rw [convTo_length]; omega), convTo_length, ih (by omega) (by omega), e1, e2, e3, take_getD a i (by omega), ev_snoc, List.take_length, Nat.xor_assoc, Nat.zero_add]
    congr 2
    exact ev_congr _ fun j _ => ev_congr _ fun k _ => by rw [show j + 1 + m = j + (m + 1) from by omega]
theorem ev_ptwo (W : Nat → Nat) (hW : ∀ i, W i < 256) {a b : List Nat} (ha : bytesL a) : ev W (ptwo a b) = ev (fun p => ev (fun m => W (m + p)) b) a := by
  have e2 : ev (fun p => ev (fun m => W (m + p)) b) a = ev (fun p => ev (fun m => W (m + p)) (trim b)) (trim a) := by
    rw [ev_trim]
    exact ev_congr _ fun i _ => (ev_trim _ _).symm
  rw [e2]
  unfold ptwo
  by_cases h : trim a = [] ∨ trim b = []
  · rw [if_pos h]
    rcases h with h | h
    · rw [h]; rfl
    · rw [h]; exact (ev_zero _).symm
  · rw [if_neg h]
    have h1 : 0 < (trim a).length := List.length_pos_iff.2 fun e => h (.inl e)
    have h2 : 0 < (trim b).length := List.length_pos_iff.2 fun e => h (.inr e)
    rw [ev_convTo W hW _ (bytesL.zeros _) _ _ (trim_bytes ha) _ (Nat.le_refl _) (by rw [List.length_replicate]; omega), List.length_replicate, ev_zeros, Nat.zero_xor, List.take_length,
      show (trim a).length + (trim b).length - 1 + 1 - (trim a).length - (trim b).length = 0 from by omega]
    rfl
theorem ev_XS (W : Nat → Nat) (l : List Nat) : ev W l = XS (fun i => gmul (co l i) (W i)) l.length := by
  induction l with
  | nil => rfl
  | cons a l ih =>
    show gmul a (W l.length) ^^^ ev W l = XS _ (l.length + 1)
    rw [ih, XS, co_top, Nat.xor_comm]
    congr 1
    exact XS_congr _ fun i hi => by rw [co_cons_lt a l i hi]
theorem peval_ev (x : Nat) {l : List Nat} (h : bytesL l) : peval x l = ev (gp x) l := by rw [peval_XS x h, ev_XS]
theorem XS_more (f : Nat → Nat) (n : Nat) : ∀ m, n ≤ m → (∀ i, n ≤ i → f i = 0) → XS f m = XS f n := by
  intro m
  induction m with
  | zero => intro h _; rw [show n = 0 from by omega]
  | succ m ih =>
    intro h hz
    by_cases e : n = m + 1
    · rw [e]
    · rw [XS, ih (by omega) hz, hz m (by omega), Nat.xor_zero]
theorem ev_XS_more (W : Nat → Nat) (l : List Nat) (n : Nat) (h : l.length ≤ n) : ev W l = XS (fun i => gmul (co l i) (W i)) n := by
  rw [ev_XS, XS_more _ _ _ h]
  intro i hi
  rw [co_ge l i hi, zero_gmul]

/-- The weights of the derivative's value. -/
def dp (x i : Nat) : Nat := if i % 2 = 1 then gp x (i - 1) else 0
theorem dp_lt (x i : Nat) : dp x i < 256 := by unfold dp; split <;> first | exact gp_lt _ _ | decide
theorem dp_succ (x i : Nat) : dp x (i + 1) = gmul x (dp x i) ^^^ gp x i := by
  unfold dp
  by_cases h : i % 2 = 1
  · rw [if_pos h, if_neg (by omega)]
    obtain ⟨j, rfl⟩ : ∃ j, i = j + 1 := ⟨i - 1, by omega⟩
    show 0 = gmul x (gp x j) ^^^ gmul (gp x j) x
    rw [gmul_comm, Nat.xor_self]
  · rw [if_neg h, if_pos (by omega), gmul_zero, Nat.zero_xor, Nat.add_sub_cancel]
theorem co_rbytes (m : List Nat) (i : Nat) : co (rbytes m) i = m.getD i 0 := by rw [rbytes_eq, co_trim, co_rev]
theorem co_pder (l : List Nat) (i : Nat) : co (pder l) i = if (i + 1) % 2 = 1 then co l (i + 1) else 0 := by
  rw [pder_rder, co_rbytes]
  unfold rder
  rw [cutR_getD, rderL_getD, rof_getD]
theorem pder_length_le (l : List Nat) : (pder l).length ≤ l.length := by
  rw [pder_rder, rbytes_eq]
  have h1 := trim_length_le (rder (rof l)).reverse
  have h2 := rder_length (rof l)
  have h3 := rof_length l
  have h4 := trim_length_le l
  rw [List.length_reverse] at h1
  omega
theorem pder_bytes' {l : List Nat} (h : bytesL l) : bytesL (pder l) := by
  rw [pder_rder, rbytes_eq]; exact trim_bytes (rev_bytes (rder_bytes (rof_bytes h)))
theorem peval_pder (x : Nat) {l : List Nat} (h : bytesL l) : peval x (pder l) = ev (dp x) l := by
  rw [peval_ev x (pder_bytes' h), ev_XS_more _ (pder l) l.length (pder_length_le l), ev_XS_more (dp x) l (l.length + 1) (Nat.le_succ _), XS_first]
  have h0 : gmul (co l 0) (dp x 0) = 0 := gmul_zero _
  rw [h0, Nat.zero_xor]
  refine XS_congr _ fun i _ => ?_
  rw [co_pder]
  unfold dp
  by_cases e : (i + 1) % 2 = 1
  · rw [if_pos e, if_pos e, Nat.add_sub_cancel]
  · rw [if_neg e, if_neg e, zero_gmul, gmul_zero]

/- roots -/
theorem lin_bytes {b : Nat} (hb : b < 256) : bytesL [1, b] := by
  intro y hy
  simp only [List.mem_cons, List.not_mem_nil, or_false] at hy
  rcases hy with rfl | rfl
  · omega
  · exact hb
theorem peval_lin (x b : Nat) (hx : x < 256) : peval x [1, b] = x ^^^ b := by
  show gmul (gmul 0 x ^^^ 1) x ^^^ b = _
  rw [zero_gmul, Nat.zero_xor, one_gmul x hx]
theorem dval_lin (x b : Nat) {s : List Nat} (hx : x < 256) (hb : b < 256) (hs : bytesL s) : ev (dp x) (ptwo s [1, b]) = gmul (x ^^^ b) (ev (dp x) s) ^^^ ev (gp x) s := by
  rw [ev_ptwo (dp x) (dp_lt x) hs]
  have h : ∀ p, ev (fun m => dp x (m + p)) [1, b] = gmul (x ^^^ b) (dp x p) ^^^ gp x p := by
    intro p
    show gmul 1 (dp x (1 + p)) ^^^ (gmul b (dp x (0 + p)) ^^^ 0) = _
    rw [Nat.xor_zero, Nat.zero_add, Nat.add_comm 1 p, one_gmul _ (dp_lt _ _), dp_succ, xor_gmul _ _ _ (dp_lt _ _) hx hb, Nat.xor_assoc, Nat.xor_assoc, Nat.xor_comm (gp x p)]
  rw [ev_congr s (fun p _ => h p), ev_add (W := fun p => gmul (x ^^^ b) (dp x p)) (V := gp x) (fun _ => gmul_lt _ _) (gp_lt x) hs, ev_mul _ (xor_lt hx hb)]
theorem xor_ne {x b : Nat} (h : x ≠ b) : x ^^^ b ≠ 0 := fun e => h (by
  have h2 := congrArg (fun y => y ^^^ b) e
  simp only [Nat.xor_assoc, Nat.xor_self, Nat.xor_zero, Nat.zero_xor] at h2
  exact h2)
/-- All that is asked of the polynomial of some roots. -/
theorem proots_is (x : Nat) (hx : x < 256) (l : List Nat) (hl : bytesL l) : bytesL (proots l) ∧ trim (proots l) = proots l ∧ (proots l).length = l.length + 1 ∧
    (peval x (proots l) = 0 ↔ 0 < l.count x) ∧ (2 ≤ l.count x → peval x (pder (proots l)) = 0) ∧ (l.count x = 1 → peval x (pder (proots l)) ≠ 0) := by
  have key : ∀ k, k ≤ l.length → ∀ r, r = proots (l.take k) → bytesL r ∧ trim r = r ∧ r.length = k + 1 ∧
      (peval x r = 0 ↔ 0 < (l.take k).count x) ∧ (2 ≤ (l.take k).count x → ev (dp x) r = 0) ∧ ((l.take k).count x = 1 → ev (dp x) r ≠ 0) := by
    intro k
    induction k with
    | zero =>
      intro _ r hr
      subst hr
      refine ⟨fun y hy => ?_, rfl, rfl, ?_, fun h => ?_, fun h => ?_⟩
      · have : y ∈ [1] := hy
        simp at this; omega
      · show pevalFrom x 0 [1] = 0 ↔ _
        have : pevalFrom x 0 [1] = 1 := by show gmul 0 x ^^^ 1 = 1; rw [zero_gmul]; rfl
        rw [this]; simp
      · simp at h
      · simp at h
    | succ k ih =>
      intro hk r hr
      have hs : proots (l.take (k + 1)) = ptwo (proots (l.take k)) [1, l.getD k 0] := by
        unfold proots
        rw [take_getD l k (by omega), List.map_append, List.map_singleton, pmul_snoc]
      have hb : l.getD k 0 < 256 := bytesL_getD hl k
      have hc : (l.take (k + 1)).count x = (l.take k).count x + if l.getD k 0 = x then 1 else 0 := by
        rw [take_getD l k (by omega), List.count_append, List.count_singleton]
        congr 1
        by_cases e : l.getD k 0 = x
        · simp [e]
        · simp [e]
      obtain ⟨h1, h2, h3, h4, h5, h6⟩ := ih (by omega) _ rfl
      rw [hs] at hr
      subst hr
      generalize proots (l.take k) = s at *
      generalize l.getD k 0 = b at *
      generalize (l.take k).count x = t at *
      have hv := peval_ptwo x h1 (lin_bytes hb)
      rw [peval_lin x b hx] at hv
      have hd := dval_lin x b hx hb h1
      rw [← peval_ev x h1] at hd
      refine ⟨ptwo_bytes h1 (lin_bytes hb), ptwo_trim _ _, ?_, ?_⟩
      · have hlin : trim [1, b] = [1, b] := by simp [trim]
        unfold ptwo
        rw [h2, hlin, if_neg (by intro h; rcases h with h | h; · rw [h] at h3; simp at h3
                                 · simp at h), convTo_length, List.length_replicate, h3]
        simp
      · rw [hv, hd, hc]
        by_cases e : b = x
        · rw [if_pos e, e, Nat.xor_self, gmul_zero, zero_gmul, Nat.zero_xor]
          refine ⟨⟨fun _ => by omega, fun _ => rfl⟩, fun h => h4.2 (by omega), fun h h0 => ?_⟩
          have := h4.1 h0
          omega
        · have hu := xor_ne (x := x) (b := b) (fun h => e h.symm)
          rw [if_neg e, Nat.add_zero]
          refine ⟨?_, fun h => ?_, fun h => ?_⟩
          · rw [gmul_eq_zero]
            constructor
            · intro h; rcases h with h | h
              · exact h4.1 h
              · exact absurd h hu
            · intro h; exact .inl (h4.2 h)
          · rw [h5 h, h4.2 (by omega), gmul_zero]; rfl
          · rw [h4.2 (by omega), Nat.xor_zero]
            exact gmul_ne hu (h6 h)
  have := key l.length (Nat.le_refl _) _ rfl
  rw [List.take_length] at this
  obtain ⟨h1, h2, h3, h4, h5, h6⟩ := this
  rw [peval_pder x h1]
  exact ⟨h1, h2, h3, h4, h5, h6⟩
end Tri
