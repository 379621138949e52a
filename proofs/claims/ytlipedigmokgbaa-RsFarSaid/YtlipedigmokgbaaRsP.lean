/-
  Codes in plain Lean: what is encoded is right; right words of few bytes that aren't 0 are 0; sums of words. No program in sight.
-/
import Derived.Test.YtlipedigmokgbaaRs6
import Derived.Test.YtlipedigmokgbaaGcdP
import Derived.Test.YtlipedigmokgbaaPolyT
namespace Tri
/- sums over lists -/
def LS (f : Nat → Nat) : List Nat → Nat
  | [] => 0
  | e :: l => f e ^^^ LS f l
theorem LS_lt (f : Nat → Nat) (h : ∀ i, f i < 256) (l : List Nat) : LS f l < 256 := by
  induction l with
  | nil => exact (by decide : (0 : Nat) < 256)
  | cons e l ih => exact xor_lt (h e) ih
theorem LS_append (f : Nat → Nat) (l m : List Nat) : LS f (l ++ m) = LS f l ^^^ LS f m := by
  induction l with
  | nil => exact (Nat.zero_xor _).symm
  | cons e l ih => show f e ^^^ LS f (l ++ m) = f e ^^^ LS f l ^^^ LS f m; rw [ih, Nat.xor_assoc]
theorem LS_range (f : Nat → Nat) (n : Nat) : LS f (List.range n) = XS f n := by
  induction n with
  | zero => rfl
  | succ n ih => rw [List.range_succ, LS_append, ih]; show _ ^^^ (f n ^^^ 0) = _; rw [Nat.xor_zero]; rfl
theorem LS_filter (f : Nat → Nat) (p : Nat → Bool) (l : List Nat) (h : ∀ e ∈ l, p e = false → f e = 0) : LS f (l.filter p) = LS f l := by
  induction l with
  | nil => rfl
  | cons e l ih =>
    have ih' := ih fun x hx => h x (by simp [hx])
    by_cases hp : p e = true
    · rw [List.filter_cons_of_pos hp]; show f e ^^^ _ = f e ^^^ _; rw [ih']
    · have hp' : p e = false := by simpa using hp
      rw [List.filter_cons_of_neg hp, ih']
      show _ = f e ^^^ LS f l
      rw [h e (by simp) hp', Nat.zero_xor]
theorem LS_congr {f g : Nat → Nat} (l : List Nat) (h : ∀ e ∈ l, f e = g e) : LS f l = LS g l := by
  induction l with
  | nil => rfl
  | cons e l ih => show f e ^^^ _ = g e ^^^ _; rw [h e (by simp), ih fun x hx => h x (by simp [hx])]
theorem LS_add (f g : Nat → Nat) (l : List Nat) : LS (fun e => f e ^^^ g e) l = LS f l ^^^ LS g l := by
  induction l with
  | nil => exact (Nat.xor_self 0).symm
  | cons e l ih => show (f e ^^^ g e) ^^^ _ = (f e ^^^ LS f l) ^^^ (g e ^^^ LS g l); rw [ih, xor4]
theorem LS_mul (c : Nat) (hc : c < 256) (f : Nat → Nat) (hf : ∀ i, f i < 256) (l : List Nat) : LS (fun e => gmul c (f e)) l = gmul c (LS f l) := by
  induction l with
  | nil => exact (gmul_zero c).symm
  | cons e l ih => show gmul c (f e) ^^^ _ = gmul c (f e ^^^ LS f l); rw [ih, gmul_xor _ _ _ hc (hf e) (LS_lt f hf l)]
/-- As many sums of powers as there are places tell that all is 0. -/
theorem places_zero (E : List Nat) : ∀ (c : Nat → Nat) (m : Nat), E.Nodup → (∀ e ∈ E, e < 255) → (∀ e, c e < 256) → E.length ≤ m → (∀ i, i < m → LS (fun e => gmul (c e) (gexp (e * i))) E = 0) → ∀ e ∈ E, c e = 0 := by
  induction E with
  | nil => intro c m _ _ _ _ _ e he; simp at he
  | cons e0 E ih =>
    intro c m hnd hE hc hm h
    obtain ⟨hn0, hnd'⟩ := List.nodup_cons.1 hnd
    have hterm : ∀ e i, gmul (gmul (c e) (gexp e ^^^ gexp e0)) (gexp (e * i)) = gmul (c e) (gexp (e * (i + 1))) ^^^ gmul (gexp e0) (gmul (c e) (gexp (e * i))) := by
      intro e i
      rw [Nat.mul_succ, ← gmul_gexp, gmul_xor _ _ _ (hc e) (gexp_lt _) (gexp_lt _), xor_gmul _ _ _ (gexp_lt _) (gmul_lt _ _) (gmul_lt _ _), gmul_assoc, gmul_assoc, gmul_comm (gexp e) (gexp (e * i)), gmul_left_comm (gexp e0) (c e)]
    have hrest : ∀ e ∈ E, gmul (c e) (gexp e ^^^ gexp e0) = 0 := by
      refine ih (fun e => gmul (c e) (gexp e ^^^ gexp e0)) (m - 1) hnd' (fun e he => hE e (by simp [he])) (fun e => gmul_lt _ _) (by simp only [List.length_cons] at hm; omega) ?_
      intro i hi
      have h1 := h i (by omega)
      have h2 := h (i + 1) (by omega)
      have h3 : LS (fun e => gmul (gmul (c e) (gexp e ^^^ gexp e0)) (gexp (e * i))) (e0 :: E) = 0 := by
        rw [LS_congr (e0 :: E) fun e _ => hterm e i, LS_add, h2, LS_mul _ (gexp_lt _) _ (fun _ => gmul_lt _ _), h1, gmul_zero]
        rfl
      have h4 : gmul (gmul (c e0) (gexp e0 ^^^ gexp e0)) (gexp (e0 * i)) = 0 := by rw [Nat.xor_self, gmul_zero, zero_gmul]
      have h5 : gmul (gmul (c e0) (gexp e0 ^^^ gexp e0)) (gexp (e0 * i)) ^^^ LS (fun e => gmul (gmul (c e) (gexp e ^^^ gexp e0)) (gexp (e * i))) E = 0 := h3
      rw [h4, Nat.zero_xor] at h5
      exact h5
    have hz : ∀ e ∈ E, c e = 0 := by
      intro e he
      rcases gmul_eq_zero.1 (hrest e he) with h1 | h1
      · exact h1
      · exfalso
        have hne : e ≠ e0 := fun h => hn0 (h ▸ he)
        have : gexp e ≠ gexp e0 := fun h => hne (gexp_inj (hE e (by simp [he])) (hE e0 (by simp)) h)
        exact xor_ne this h1
    intro e he
    rcases List.mem_cons.1 he with rfl | he
    · have h0 := h 0 (by simp only [List.length_cons] at hm; omega)
      have h1 : gmul (c e) (gexp (e * 0)) ^^^ LS (fun e => gmul (c e) (gexp (e * 0))) E = 0 := h0
      have h2 : LS (fun e => gmul (c e) (gexp (e * 0))) E = 0 := by
        rw [LS_congr E (g := fun _ => 0) fun x hx => by rw [hz x hx, zero_gmul]]
        clear ih hrest hz hnd' hnd hE hm h h0 h1 he hn0
        induction E with
        | nil => rfl
        | cons a E ih2 => show 0 ^^^ LS _ E = 0; rw [ih2]; rfl
      rw [h2, Nat.xor_zero, Nat.mul_zero, gexp_zero, gmul_one _ (hc e)] at h1
      exact h1
    · exact hz e he
theorem gp_exp (i e : Nat) : gp (gexp i) e = gexp (e * i) := by
  induction e with
  | zero => rw [Nat.zero_mul, gexp_zero]; rfl
  | succ e ih => show gmul (gp (gexp i) e) (gexp i) = _; rw [ih, gmul_gexp, Nat.succ_mul]
/-- How many bytes aren't 0. -/
def wt (l : List Nat) : Nat := l.countP fun y => decide (y ≠ 0)
theorem wt_filter (l : List Nat) : ((List.range l.length).filter fun e => decide (co l e ≠ 0)).length = wt l := by
  induction l with
  | nil => rfl
  | cons a l ih =>
    rw [List.length_cons, List.range_succ, List.filter_append, List.length_append]
    have h1 : (List.range l.length).filter (fun e => decide (co (a :: l) e ≠ 0)) = (List.range l.length).filter (fun e => decide (co l e ≠ 0)) := by
      apply List.filter_congr
      intro e he
      rw [List.mem_range] at he
      rw [co_cons_lt a l e he]
    rw [h1, ih]
    unfold wt
    rw [List.countP_cons]
    congr 1
    by_cases h : a = 0
    · subst h
      simp [co_top]
    · have : co (a :: l) l.length ≠ 0 := by rw [co_top]; exact h
      simp [this, h]
theorem synd_zero {word : List Nat} {p : Nat} (h : rightB word p = true) (i : Nat) (hi : i < p) : peval (gexp i) word = 0 := by
  unfold rightB synd powers at h
  rw [List.map_map] at h
  have := List.all_eq_true.1 h (peval (gexp i) word) (List.mem_map.2 ⟨i, List.mem_range.2 hi, rfl⟩)
  simpa using this
theorem right_of {word : List Nat} {p : Nat} (h : ∀ i, i < p → peval (gexp i) word = 0) : rightB word p = true := by
  unfold rightB synd powers
  rw [List.map_map, List.all_eq_true]
  intro y hy
  obtain ⟨i, hi, rfl⟩ := List.mem_map.1 hy
  rw [List.mem_range] at hi
  simpa using h i hi
/-- A right word in which no more bytes than the parity's aren't 0 is 0. -/
theorem right_zero {word : List Nat} {p : Nat} (hb : bytesL word) (hn : word.length ≤ 255) (h : rightB word p = true) (hw : wt word ≤ p) : wt word = 0 := by
  have hE := wt_filter word
  have hz := places_zero ((List.range word.length).filter fun e => decide (co word e ≠ 0)) (co word) p (List.Pairwise.filter _ List.nodup_range) (fun e he => by
      have := (List.mem_filter.1 he).1
      rw [List.mem_range] at this
      omega) (co_lt hb) (by rw [hE]; exact hw) (fun i hi => by
      rw [LS_filter]
      · rw [LS_range]
        have := synd_zero h i hi
        rw [peval_XS _ hb] at this
        rw [← this]
        exact XS_congr _ fun e _ => by rw [gp_exp]
      · intro e _ he
        have : co word e = 0 := by simpa using he
        rw [this, zero_gmul])
  rw [← hE]
  cases hf : (List.range word.length).filter fun e => decide (co word e ≠ 0) with
  | nil => rfl
  | cons e l =>
    exfalso
    have hm : e ∈ (List.range word.length).filter fun e => decide (co word e ≠ 0) := by rw [hf]; simp
    have h1 := hz e hm
    have h2 := (List.mem_filter.1 hm).2
    rw [h1] at h2
    simp at h2
/-- Two words' sum. -/
def wxor (a b : List Nat) : List Nat := List.zipWith (fun x y => x ^^^ y) a b
theorem wxor_length (a b : List Nat) (h : a.length = b.length) : (wxor a b).length = a.length := by unfold wxor; rw [List.length_zipWith, h, Nat.min_self]
theorem wxor_bytes {a b : List Nat} (ha : bytesL a) (hb : bytesL b) : bytesL (wxor a b) := by
  unfold wxor
  induction a generalizing b with
  | nil => intro x hx; simp at hx
  | cons x a ih =>
    cases b with
    | nil => intro x hx; simp at hx
    | cons y b =>
      intro z hz
      rw [List.zipWith_cons_cons] at hz
      rcases List.mem_cons.1 hz with rfl | hz
      · exact xor_lt ha.head hb.head
      · exact ih ha.tail hb.tail z hz
theorem peval_wxor (x : Nat) {a b : List Nat} (ha : bytesL a) (hb : bytesL b) (h : a.length = b.length) : peval x (wxor a b) = peval x a ^^^ peval x b := by
  induction a generalizing b with
  | nil =>
    have : b = [] := List.eq_nil_of_length_eq_zero h.symm
    subst this; exact (Nat.xor_self 0).symm
  | cons u a ih =>
    cases b with
    | nil => simp at h
    | cons v b =>
      have hl : a.length = b.length := by simpa using h
      have e : wxor (u :: a) (v :: b) = (u ^^^ v) :: wxor a b := rfl
      have hbw : bytesL ((u ^^^ v) :: wxor a b) := by rw [← e]; exact wxor_bytes ha hb
      rw [e, peval_cons x _ hbw, peval_cons x _ ha, peval_cons x _ hb, ih ha.tail hb.tail hl, wxor_length _ _ hl, ← hl, xor_gmul _ _ _ (gp_lt _ _) ha.head hb.head, xor4]
theorem right_wxor {a b : List Nat} {p : Nat} (ha : bytesL a) (hb : bytesL b) (h : a.length = b.length) (h1 : rightB a p = true) (h2 : rightB b p = true) : rightB (wxor a b) p = true :=
  right_of fun i hi => by rw [peval_wxor _ ha hb h, synd_zero h1 i hi, synd_zero h2 i hi]; rfl
theorem peval_app (x : Nat) {l m : List Nat} (hl : bytesL l) (hm : bytesL m) : peval x (l ++ m) = gmul (peval x l) (gp x m.length) ^^^ peval x m := by
  show pevalFrom x 0 (l ++ m) = _
  rw [pevalFrom_app]
  exact pevalFrom_eq x hm _ (peval_lt x hl)
/-- What is encoded is right. -/
theorem enc_right {data : List Nat} (h : bytesL data) (p : Nat) (hp : p ≤ 1000) : rightB (enc data p) p = true := by
  refine right_of fun i hi => ?_
  have hx := gexp_lt i
  have hd := par_is h p
  obtain ⟨g1, g2, g3, g4, _, _⟩ := proots_is (gexp i) hx (powers p) (powers_bytes p)
  have hroot : peval (gexp i) (rgen p) = 0 := g4.2 (List.count_pos_iff.2 (List.mem_map.2 ⟨i, List.mem_range.2 hi, rfl⟩))
  have hgb : bytesL (rgen p) := g1
  have hsb := pshift_b h (p : Int)
  have h1 := hd.evs hsb (gp (gexp i)) (gp_lt _)
  rw [← ev_ptwo_sh _ (gp_lt _) _ hd.qb, ← peval_ev _ (ptwo_bytes hd.qb hgb), peval_ptwo _ hd.qb hgb, hroot, gmul_zero, Nat.zero_xor, ← peval_ev _ hsb, ← peval_ev _ hd.rb, peval_pshift _ h p hp] at h1
  have h2 : peval (gexp i) (par data p) = peval (gexp i) (parR data p) := by
    unfold par
    rw [peval_app _ (bytesL.zeros _) hd.rb, peval_zeros, zero_gmul, Nat.zero_xor]
  unfold enc
  rw [peval_app _ h (par_bytes h p), par_length h, h2, h1, Nat.xor_self]
theorem wt_zero_nil {l : List Nat} (h : wt l = 0) : ∀ y ∈ l, y = 0 := by
  intro y hy
  unfold wt at h
  rw [List.countP_eq_zero] at h
  have := h y hy
  simpa using this
theorem wxor_zero {a b : List Nat} (h : a.length = b.length) (hz : ∀ y ∈ wxor a b, y = 0) : a = b := by
  induction a generalizing b with
  | nil => exact (List.eq_nil_of_length_eq_zero h.symm).symm
  | cons u a ih =>
    cases b with
    | nil => simp at h
    | cons v b =>
      have e : wxor (u :: a) (v :: b) = (u ^^^ v) :: wxor a b := rfl
      rw [e] at hz
      have h1 := hz (u ^^^ v) (by simp)
      have huv : u = v := by
        by_cases hc : u = v
        · exact hc
        · exact absurd h1 (xor_ne hc)
      rw [huv, ih (by simpa using h) fun y hy => hz y (by simp [hy])]
theorem wxor_self (a : List Nat) : ∀ y ∈ wxor a a, y = 0 := by
  induction a with
  | nil => intro y hy; simp [wxor] at hy
  | cons u a ih =>
    intro y hy
    have e : wxor (u :: a) (u :: a) = (u ^^^ u) :: wxor a a := rfl
    rw [e] at hy
    rcases List.mem_cons.1 hy with rfl | hy
    · exact Nat.xor_self u
    · exact ih y hy
theorem enc_inj {a b : List Nat} {p : Nat} (h : a.length = b.length) (he : enc a p = enc b p) : a = b := by
  unfold enc at he
  exact (List.append_inj he h).1
end Tri
