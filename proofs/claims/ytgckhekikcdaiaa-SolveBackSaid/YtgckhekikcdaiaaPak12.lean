/-
  Codes in plain Lean: what is encoded is right; right words of few bytes that aren't 0 are 0; sums of words. No program in sight.
  The search for the places that a word's values tell of (Berlekamp and Massey, erased places ahead), in plain Lean: it finds just the places at which the word differs from a codeword, as long as these are within what may be. No program in sight.
  What the found places' bytes are turned by (Forney), in plain Lean; a word that differs from a codeword within what may be is mended to it. No program in sight.
  A word that differs from a codeword at erased places and at no more others than may be is mended to it, in plain Lean: what the solver's search and its turning of bytes come to. No program in sight.
  Sorted lists without the numbers that stand twice, in plain Lean. No program in sight.
-/
import Derived.Test.YtgckhekikcdaiaaPak11
import Derived.Test.YtgckhekikcdaiaaPak2
import Derived.Lib.SlicesCompact
namespace Tri
/- sums over lists -/
def LS (f : Nat → Nat) : List Nat → Nat
  | [] => 0
  | e :: l => f e ^^^ LS f l
theorem LS_lt (f : Nat → Nat) (h : ∀ i, f i < 256) (l : List Nat) : LS f l < 256 := by
  induction l with
  | nil => exact (by decide : (0 : Nat) < 256)
  | cons e l ih => exact xor_lt (h e) ih
theorem LS_append (f : Nat → Nat) (l m : List Nat) : LS f (l ++ m) = LS f l ^^^ LS f m := by
  induction l with
  | nil => exact (Nat.zero_xor _).symm
  | cons e l ih => show f e ^^^ LS f (l ++ m) = f e ^^^ LS f l ^^^ LS f m; rw [ih, Nat.xor_assoc]
theorem LS_range (f : Nat → Nat) (n : Nat) : LS f (List.range n) = XS f n := by
  induction n with
  | zero => rfl
  | succ n ih => rw [List.range_succ, LS_append, ih]; show _ ^^^ (f n ^^^ 0) = _; rw [Nat.xor_zero]; rfl
theorem LS_filter (f : Nat → Nat) (p : Nat → Bool) (l : List Nat) (h : ∀ e ∈ l, p e = false → f e = 0) : LS f (l.filter p) = LS f l := by
  induction l with
  | nil => rfl
  | cons e l ih =>
    have ih' := ih fun x hx => h x (by simp [hx])
    by_cases hp : p e = true
    · rw [List.filter_cons_of_pos hp]; show f e ^^^ _ = f e ^^^ _; rw [ih']
    · have hp' : p e = false := by simpa using hp
      rw [List.filter_cons_of_neg hp, ih']
      show _ = f e ^^^ LS f l
      rw [h e (by simp) hp', Nat.zero_xor]
theorem LS_congr {f g : Nat → Nat} (l : List Nat) (h : ∀ e ∈ l, f e = g e) : LS f l = LS g l := by
  induction l with
  | nil => rfl
  | cons e l ih => show f e ^^^ _ = g e ^^^ _; rw [h e (by simp), ih fun x hx => h x (by simp [hx])]
theorem LS_add (f g : Nat → Nat) (l : List Nat) : LS (fun e => f e ^^^ g e) l = LS f l ^^^ LS g l := by
  induction l with
  | nil => exact (Nat.xor_self 0).symm
  | cons e l ih => show (f e ^^^ g e) ^^^ _ = (f e ^^^ LS f l) ^^^ (g e ^^^ LS g l); rw [ih, xor4]
theorem LS_mul (c : Nat) (hc : c < 256) (f : Nat → Nat) (hf : ∀ i, f i < 256) (l : List Nat) : LS (fun e => gmul c (f e)) l = gmul c (LS f l) := by
  induction l with
  | nil => exact (gmul_zero c).symm
  | cons e l ih => show gmul c (f e) ^^^ _ = gmul c (f e ^^^ LS f l); rw [ih, gmul_xor _ _ _ hc (hf e) (LS_lt f hf l)]
/-- As many sums of powers as there are places tell that all is 0. -/
theorem places_zero (E : List Nat) : ∀ (c : Nat → Nat) (m : Nat), E.Nodup → (∀ e ∈ E, e < 255) → (∀ e, c e < 256) → E.length ≤ m → (∀ i, i < m → LS (fun e => gmul (c e) (gexp (e * i))) E = 0) → ∀ e ∈ E, c e = 0 := by
  induction E with
  | nil => intro c m _ _ _ _ _ e he; simp at he
  | cons e0 E ih =>
    intro c m hnd hE hc hm h
    obtain ⟨hn0, hnd'⟩ := List.nodup_cons.1 hnd
    have hterm : ∀ e i, gmul (gmul (c e) (gexp e ^^^ gexp e0)) (gexp (e * i)) = gmul (c e) (gexp (e * (i + 1))) ^^^ gmul (gexp e0) (gmul (c e) (gexp (e * i))) := by
      intro e i
      rw [Nat.mul_succ, ← gmul_gexp, gmul_xor _ _ _ (hc e) (gexp_lt _) (gexp_lt _), xor_gmul _ _ _ (gexp_lt _) (gmul_lt _ _) (gmul_lt _ _), gmul_assoc, gmul_assoc, gmul_comm (gexp e) (gexp (e * i)), gmul_left_comm (gexp e0) (c e)]
    have hrest : ∀ e ∈ E, gmul (c e) (gexp e ^^^ gexp e0) = 0 := by
      refine ih (fun e => gmul (c e) (gexp e ^^^ gexp e0)) (m - 1) hnd' (fun e he => hE e (by simp [he])) (fun e => gmul_lt _ _) (by simp only [List.length_cons] at hm; omega) ?_
      intro i hi
      have h1 := h i (by omega)
      have h2 := h (i + 1) (by omega)
      have h3 : LS (fun e => gmul (gmul (c e) (gexp e ^^^ gexp e0)) (gexp (e * i))) (e0 :: E) = 0 := by
        rw [LS_congr (e0 :: E) fun e _ => hterm e i, LS_add, h2, LS_mul _ (gexp_lt _) _ (fun _ => gmul_lt _ _), h1, gmul_zero]
        rfl
      have h4 : gmul (gmul (c e0) (gexp e0 ^^^ gexp e0)) (gexp (e0 * i)) = 0 := by rw [Nat.xor_self, gmul_zero, zero_gmul]
      have h5 : gmul (gmul (c e0) (gexp e0 ^^^ gexp e0)) (gexp (e0 * i)) ^^^ LS (fun e => gmul (gmul (c e) (gexp e ^^^ gexp e0)) (gexp (e * i))) E = 0 := h3
      rw [h4, Nat.zero_xor] at h5
      exact h5
    have hz : ∀ e ∈ E, c e = 0 := by
      intro e he
      rcases gmul_eq_zero.1 (hrest e he) with h1 | h1
      · exact h1
      · exfalso
        have hne : e ≠ e0 := fun h => hn0 (h ▸ he)
        have : gexp e ≠ gexp e0 := fun h => hne (gexp_inj (hE e (by simp [he])) (hE e0 (by simp)) h)
        exact xor_ne this h1
    intro e he
    rcases List.mem_cons.1 he with rfl | he
    · have h0 := h 0 (by simp only [List.length_cons] at hm; omega)
      have h1 : gmul (c e) (gexp (e * 0)) ^^^ LS (fun e => gmul (c e) (gexp (e * 0))) E = 0 := h0
      have h2 : LS (fun e => gmul (c e) (gexp (e * 0))) E = 0 := by
        rw [LS_congr E (g := fun _ => 0) fun x hx => by rw [hz x hx, zero_gmul]]
        clear ih hrest hz hnd' hnd hE hm h h0 h1 he hn0
        induction E with
        | nil => rfl
        | cons a E ih2 => show 0 ^^^ LS _ E = 0; rw [ih2]; rfl
      rw [h2, Nat.xor_zero, Nat.mul_zero, gexp_zero, gmul_one _ (hc e)] at h1
      exact h1
    · exact hz e he
theorem gp_exp (i e : Nat) : gp (gexp i) e = gexp (e * i) := by
  induction e with
  | zero => rw [Nat.zero_mul, gexp_zero]; rfl
  | succ e ih => show gmul (gp (gexp i) e) (gexp i) = _; rw [ih, gmul_gexp, Nat.succ_mul]
/-- How many bytes aren't 0. -/
def wt (l : List Nat) : Nat := l.countP fun y => decide (y ≠ 0)
theorem wt_filter (l : List Nat) : ((List.range l.length).filter fun e => decide (co l e ≠ 0)).length = wt l := by
  induction l with
  | nil => rfl
  | cons a l ih =>
    rw [List.length_cons, List.range_succ, List.filter_append, List.length_append]
    have h1 : (List.range l.length).filter (fun e => decide (co (a :: l) e ≠ 0)) = (List.range l.length).filter (fun e => decide (co l e ≠ 0)) := by
      apply List.filter_congr
      intro e he
      rw [List.mem_range] at he
      rw [co_cons_lt a l e he]
    rw [h1, ih]
    unfold wt
    rw [List.countP_cons]
    congr 1
    by_cases h : a = 0
    · subst h
      simp [co_top]
    · have : co (a :: l) l.length ≠ 0 := by rw [co_top]; exact h
      simp [this, h]
theorem synd_zero {word : List Nat} {p : Nat} (h : rightB word p = true) (i : Nat) (hi : i < p) : peval (gexp i) word = 0 := by
  unfold rightB synd powers at h
  rw [List.map_map] at h
  have := List.all_eq_true.1 h (peval (gexp i) word) (List.mem_map.2 ⟨i, List.mem_range.2 hi, rfl⟩)
  simpa using this
theorem right_of {word : List Nat} {p : Nat} (h : ∀ i, i < p → peval (gexp i) word = 0) : rightB word p = true := by
  unfold rightB synd powers
  rw [List.map_map, List.all_eq_true]
  intro y hy
  obtain ⟨i, hi, rfl⟩ := List.mem_map.1 hy
  rw [List.mem_range] at hi
  simpa using h i hi
/-- A right word in which no more bytes than the parity's aren't 0 is 0. -/
theorem right_zero {word : List Nat} {p : Nat} (hb : bytesL word) (hn : word.length ≤ 255) (h : rightB word p = true) (hw : wt word ≤ p) : wt word = 0 := by
  have hE := wt_filter word
  have hz := places_zero ((List.range word.length).filter fun e => decide (co word e ≠ 0)) (co word) p (List.Pairwise.filter _ List.nodup_range) (fun e he => by
      have := (List.mem_filter.1 he).1
      rw [List.mem_range] at this
      omega) (co_lt hb) (by rw [hE]; exact hw) (fun i hi => by
      rw [LS_filter]
      · rw [LS_range]
        have := synd_zero h i hi
        rw [peval_XS _ hb] at this
        rw [← this]
        exact XS_congr _ fun e _ => by rw [gp_exp]
      · intro e _ he
        have : co word e = 0 := by simpa using he
        rw [this, zero_gmul])
  rw [← hE]
  cases hf : (List.range word.length).filter fun e => decide (co word e ≠ 0) with
  | nil => rfl
  | cons e l =>
    exfalso
    have hm : e ∈ (List.range word.length).filter fun e => decide (co word e ≠ 0) := by rw [hf]; simp
    have h1 := hz e hm
    have h2 := (List.mem_filter.1 hm).2
    rw [h1] at h2
    simp at h2
/-- Two words' sum. -/
def wxor (a b : List Nat) : List Nat := List.zipWith (fun x y => x ^^^ y) a b
theorem wxor_length (a b : List Nat) (h : a.length = b.length) : (wxor a b).length = a.length := by unfold wxor; rw [List.length_zipWith, h, Nat.min_self]
theorem wxor_bytes {a b : List Nat} (ha : bytesL a) (hb : bytesL b) : bytesL (wxor a b) := by
  unfold wxor
  induction a generalizing b with
  | nil => intro x hx; simp at hx
  | cons x a ih =>
    cases b with
    | nil => intro x hx; simp at hx
    | cons y b =>
      intro z hz
      rw [List.zipWith_cons_cons] at hz
      rcases List.mem_cons.1 hz with rfl | hz
      · exact xor_lt ha.head hb.head
      · exact ih ha.tail hb.tail z hz
theorem peval_wxor (x : Nat) {a b : List Nat} (ha : bytesL a) (hb : bytesL b) (h : a.length = b.length) : peval x (wxor a b) = peval x a ^^^ peval x b := by
  induction a generalizing b with
  | nil =>
    have : b = [] := List.eq_nil_of_length_eq_zero h.symm
    subst this; exact (Nat.xor_self 0).symm
  | cons u a ih =>
    cases b with
    | nil => simp at h
    | cons v b =>
      have hl : a.length = b.length := by simpa using h
      have e : wxor (u :: a) (v :: b) = (u ^^^ v) :: wxor a b := rfl
      have hbw : bytesL ((u ^^^ v) :: wxor a b) := by rw [← e]; exact wxor_bytes ha hb
      rw [e, peval_cons x _ hbw, peval_cons x _ ha, peval_cons x _ hb, ih ha.tail hb.tail hl, wxor_length _ _ hl, ← hl, xor_gmul _ _ _ (gp_lt _ _) ha.head hb.head, xor4]
theorem right_wxor {a b : List Nat} {p : Nat} (ha : bytesL a) (hb : bytesL b) (h : a.length = b.length) (h1 : rightB a p = true) (h2 : rightB b p = true) : rightB (wxor a b) p = true :=
  right_of fun i hi => by rw [peval_wxor _ ha hb h, synd_zero h1 i hi, synd_zero h2 i hi]; rfl
theorem peval_app (x : Nat) {l m : List Nat} (hl : bytesL l) (hm : bytesL m) : peval x (l ++ m) = gmul (peval x l) (gp x m.length) ^^^ peval x m := by
  show pevalFrom x 0 (l ++ m) = _
  rw [pevalFrom_app]
  exact pevalFrom_eq x hm _ (peval_lt x hl)
/-- What is encoded is right. -/
theorem enc_right {data : List Nat} (h : bytesL data) (p : Nat) (hp : p ≤ 1000) : rightB (enc data p) p = true := by
  refine right_of fun i hi => ?_
  have hx := gexp_lt i
  have hd := par_is h p
  obtain ⟨g1, g2, g3, g4, _, _⟩ := proots_is (gexp i) hx (powers p) (powers_bytes p)
  have hroot : peval (gexp i) (rgen p) = 0 := g4.2 (List.count_pos_iff.2 (List.mem_map.2 ⟨i, List.mem_range.2 hi, rfl⟩))
  have hgb : bytesL (rgen p) := g1
  have hsb := pshift_b h (p : Int)
  have h1 := hd.evs hsb (gp (gexp i)) (gp_lt _)
  rw [← ev_ptwo_sh _ (gp_lt _) _ hd.qb, ← peval_ev _ (ptwo_bytes hd.qb hgb), peval_ptwo _ hd.qb hgb, hroot, gmul_zero, Nat.zero_xor, ← peval_ev _ hsb, ← peval_ev _ hd.rb, peval_pshift _ h p hp] at h1
  have h2 : peval (gexp i) (par data p) = peval (gexp i) (parR data p) := by
    unfold par
    rw [peval_app _ (bytesL.zeros _) hd.rb, peval_zeros, zero_gmul, Nat.zero_xor]
  unfold enc
  rw [peval_app _ h (par_bytes h p), par_length h, h2, h1, Nat.xor_self]
theorem wt_zero_nil {l : List Nat} (h : wt l = 0) : ∀ y ∈ l, y = 0 := by
  intro y hy
  unfold wt at h
  rw [List.countP_eq_zero] at h
  have := h y hy
  simpa using this
theorem wxor_zero {a b : List Nat} (h : a.length = b.length) (hz : ∀ y ∈ wxor a b, y = 0) : a = b := by
  induction a generalizing b with
  | nil => exact (List.eq_nil_of_length_eq_zero h.symm).symm
  | cons u a ih =>
    cases b with
    | nil => simp at h
    | cons v b =>
      have e : wxor (u :: a) (v :: b) = (u ^^^ v) :: wxor a b := rfl
      rw [e] at hz
      have h1 := hz (u ^^^ v) (by simp)
      have huv : u = v := by
        by_cases hc : u = v
        · exact hc
        · exact absurd h1 (xor_ne hc)
      rw [huv, ih (by simpa using h) fun y hy => hz y (by simp [hy])]
theorem wxor_self (a : List Nat) : ∀ y ∈ wxor a a, y = 0 := by
  induction a with
  | nil => intro y hy; simp [wxor] at hy
  | cons u a ih =>
    intro y hy
    have e : wxor (u :: a) (u :: a) = (u ^^^ u) :: wxor a a := rfl
    rw [e] at hy
    rcases List.mem_cons.1 hy with rfl | hy
    · exact Nat.xor_self u
    · exact ih y hy
theorem enc_inj {a b : List Nat} {p : Nat} (h : a.length = b.length) (he : enc a p = enc b p) : a = b := by
  unfold enc at he
  exact (List.append_inj he h).1
end Tri

namespace Tri
open Go Go.RowKit Go.Proofs.Ytgckhekikcdaiaa
theorem xorS_XS (f : Nat → Nat) (n : Nat) : xorS f n = XS f n := by
  induction n with
  | zero => rfl
  | succ n ih => show xorS f n ^^^ f n = XS f n ^^^ f n; rw [ih]
theorem XS_add (f g : Nat → Nat) (n : Nat) : XS (fun i => f i ^^^ g i) n = XS f n ^^^ XS g n := by
  induction n with
  | zero => exact (Nat.xor_self 0).symm
  | succ n ih => show XS _ n ^^^ (f n ^^^ g n) = (XS f n ^^^ f n) ^^^ (XS g n ^^^ g n); rw [ih, xor4]
theorem XS_mul (c : Nat) (hc : c < 256) (f : Nat → Nat) (hf : ∀ i, f i < 256) (n : Nat) : XS (fun i => gmul c (f i)) n = gmul c (XS f n) := by
  induction n with
  | zero => exact (gmul_zero c).symm
  | succ n ih => show XS _ n ^^^ gmul c (f n) = gmul c (XS f n ^^^ f n); rw [ih, gmul_xor _ _ _ hc (XS_lt _ hf n) (hf n)]
theorem XS_LS (a : Nat → Nat → Nat) (n : Nat) (l : List Nat) : XS (fun j => LS (fun e => a j e) l) n = LS (fun e => XS (fun j => a j e) n) l := by
  induction l with
  | nil => exact XS_zero _ _ fun _ _ => rfl
  | cons e l ih =>
    show XS (fun j => a j e ^^^ LS (fun e => a j e) l) n = XS (fun j => a j e) n ^^^ LS _ l
    rw [XS_add, ih]
/- values, the lowest power first -/
theorem valL_nil (x : Nat) : valL [] x = 0 := rfl
theorem valL_cons (a : Nat) (l : List Nat) (x : Nat) : valL (a :: l) x = gmul (valL l x) x ^^^ a := by
  unfold valL
  rw [List.reverse_cons, peval_snoc]
theorem valL_XS {a : List Nat} (h : bytesL a) (x n : Nat) (hn : a.length ≤ n) : valL a x = XS (fun i => gmul (a.getD i 0) (gp x i)) n := by
  unfold valL
  rw [peval_XS x (rev_bytes h), List.length_reverse, ← XS_more _ a.length n hn (fun i hi => by rw [co_rev, getD_ge _ _ hi, zero_gmul])]
  exact XS_congr _ fun i _ => by rw [co_rev]
theorem valL_zero {a : List Nat} (h : ∀ i, a.getD i 0 = 0) (x : Nat) : valL a x = 0 := by
  induction a with
  | nil => rfl
  | cons b l ih =>
    have hb : b = 0 := by simpa using h 0
    rw [valL_cons, ih (fun i => by simpa using h (i + 1)), hb, zero_gmul]; rfl
theorem plusL_getD (a b : List Nat) (y i : Nat) : (plusL a b y).getD i 0 = a.getD i 0 ^^^ gmul y (if i = 0 then 0 else b.getD (i - 1) 0) := by
  have key : plusF a b y i = a.getD i 0 ^^^ gmul y (if i = 0 then 0 else b.getD (i - 1) 0) := by
    unfold plusF
    rw [coZ_nat]
    congr 2
    cases i with
    | zero => rw [if_pos rfl]; unfold coZ; rw [if_neg (by omega)]
    | succ i => rw [if_neg (by omega), show ((i + 1 : Nat) : Int) - 1 = ((i : Nat) : Int) from by omega, coZ_nat]; rfl
  unfold plusL
  rw [List.getD_eq_getElem?_getD, List.getElem?_map]
  by_cases h : i < max a.length (b.length + 1)
  · rw [List.getElem?_range h]; exact key
  · rw [List.getElem?_eq_none (by rw [List.length_range]; omega)]
    rw [← key]
    show 0 = plusF a b y i
    rw [key, getD_ge a i (by omega), if_neg (by omega), getD_ge b (i - 1) (by omega), gmul_zero]; rfl
theorem valL_plus {a b : List Nat} (ha : bytesL a) (hb : bytesL b) (y x : Nat) (hy : y < 256) (hx : x < 256) : valL (plusL a b y) x = valL a x ^^^ gmul y (gmul x (valL b x)) := by
  have hT : ∀ i, gmul (b.getD i 0) (gp x i) < 256 := fun i => gmul_lt _ _
  rw [valL_XS (plusL_bytes ha b y) x (max a.length (b.length + 1) + 1) (by rw [plusL_len]; omega), valL_XS ha x (max a.length (b.length + 1) + 1) (by omega), valL_XS hb x (max a.length (b.length + 1)) (by omega), ← XS_mul x hx _ hT, ← XS_mul y hy _ (fun i => gmul_lt _ _)]
  have h1 : XS (fun i => gmul ((plusL a b y).getD i 0) (gp x i)) (max a.length (b.length + 1) + 1) = XS (fun i => gmul (a.getD i 0) (gp x i) ^^^ gmul (gmul y (if i = 0 then 0 else b.getD (i - 1) 0)) (gp x i)) (max a.length (b.length + 1) + 1) := by
    apply XS_congr
    intro i _
    rw [plusL_getD, xor_gmul _ _ _ (gp_lt _ _) (getD_lt ha i) (gmul_lt _ _)]
  rw [h1, XS_add]
  congr 1
  rw [XS_first, if_pos rfl, gmul_zero, zero_gmul, Nat.zero_xor]
  apply XS_congr
  intro i _
  rw [if_neg (by omega), Nat.add_sub_cancel]
  show gmul (gmul y (b.getD i 0)) (gmul (gp x i) x) = _
  simp only [gmul_comm, gmul_left_comm, gmul_assoc]
theorem valL_scaled {a : List Nat} (ha : bytesL a) (y x : Nat) (hy : y < 256) (hx : x < 256) : valL (scaledL a y) x = gmul y (valL a x) := by
  induction a with
  | nil => exact (gmul_zero y).symm
  | cons b l ih =>
    show valL (gmul b y :: scaledL l y) x = _
    rw [valL_cons, valL_cons, ih ha.tail, gmul_xor _ _ _ hy (gmul_lt _ _) ha.head, gmul_assoc, gmul_comm b y]
theorem valL_shift {b : List Nat} (x : Nat) : valL (0 :: b) x = gmul x (valL b x) := by rw [valL_cons, Nat.xor_zero, gmul_comm]
/-- What is left when a value is taken away and the rest divided by x less a root. -/
def dvL (x : Nat) : List Nat → List Nat
  | [] => []
  | _ :: l => valL l x :: dvL x l
theorem dvL_bytes {a : List Nat} (h : bytesL a) (x : Nat) : bytesL (dvL x a) := by
  induction a with
  | nil => intro y hy; simp [dvL] at hy
  | cons b l ih =>
    intro y hy
    rcases List.mem_cons.1 hy with rfl | hy
    · exact valL_lt h.tail x
    · exact ih h.tail y hy
theorem valL_dv {a : List Nat} (h : bytesL a) (x y : Nat) (hx : x < 256) (hy : y < 256) : valL a y = gmul (y ^^^ x) (valL (dvL x a) y) ^^^ valL a x := by
  induction a with
  | nil => show 0 = gmul _ 0 ^^^ 0; rw [gmul_zero]; rfl
  | cons b l ih =>
    have hv := valL_lt h.tail x
    have hd := valL_lt (dvL_bytes h.tail x) y
    show valL (b :: l) y = gmul (y ^^^ x) (valL (valL l x :: dvL x l) y) ^^^ valL (b :: l) x
    rw [valL_cons, valL_cons, valL_cons]
    rw [ih h.tail]
    rw [xor_gmul y _ _ hy (gmul_lt _ _) hv, gmul_xor (y ^^^ x) _ _ (xor_lt hy hx) (gmul_lt _ _) hv, xor_gmul (valL l x) y x hv hy hx, gmul_assoc, gmul_comm y (valL l x), gmul_comm x (valL l x)]
    generalize gmul (y ^^^ x) (gmul (valL (dvL x l) y) y) = A
    generalize gmul (valL l x) y = B
    generalize gmul (valL l x) x = C
    rw [Nat.xor_assoc A, Nat.xor_assoc A]
    congr 1
    rw [Nat.xor_assoc B C, ← Nat.xor_assoc C C, Nat.xor_self, Nat.zero_xor]
theorem dvL_getD (x : Nat) (a : List Nat) (i : Nat) : (dvL x a).getD i 0 = valL (a.drop (i + 1)) x := by
  induction a generalizing i with
  | nil => simp [dvL, valL_nil]
  | cons b l ih =>
    cases i with
    | zero => rfl
    | succ i => exact ih i
theorem getD_drop0 (a : List Nat) (k i : Nat) : (a.drop k).getD i 0 = a.getD (k + i) 0 := by rw [List.getD_eq_getElem?_getD, List.getElem?_drop, List.getD_eq_getElem?_getD]
/-- As many roots as the degree and one more: all is 0. -/
theorem roots_zero : ∀ (R : List Nat) (a : List Nat), bytesL a → R.Nodup → (∀ x ∈ R, x < 256 ∧ valL a x = 0) → (∀ i, R.length ≤ i → a.getD i 0 = 0) → ∀ i, a.getD i 0 = 0
  | [], _, _, _, _, h, i => h i (Nat.zero_le _)
  | x :: R, a, hb, hnd, hr, hz, i => by
    obtain ⟨hn0, hnd'⟩ := List.nodup_cons.1 hnd
    obtain ⟨hx, hx0⟩ := hr x (by simp)
    have hq : ∀ i, (dvL x a).getD i 0 = 0 := by
      refine roots_zero R (dvL x a) (dvL_bytes hb x) hnd' (fun y hy => ?_) (fun i hi => ?_)
      · obtain ⟨hy1, hy2⟩ := hr y (by simp [hy])
        refine ⟨hy1, ?_⟩
        have := valL_dv hb x y hx hy1
        rw [hy2, hx0, Nat.xor_zero] at this
        rcases gmul_eq_zero.1 this.symm with h1 | h1
        · exact absurd h1 (xor_ne fun e => hn0 (e ▸ hy))
        · exact h1
      · rw [dvL_getD]
        exact valL_zero (fun j => by rw [getD_drop0]; exact hz _ (by rw [List.length_cons]; omega)) x
    have hd : ∀ k, valL (a.drop (k + 1)) x = 0 := fun k => by rw [← dvL_getD]; exact hq k
    have h1 : valL (a.drop i) x = 0 := by
      cases i with
      | zero => exact hx0
      | succ k => exact hd k
    by_cases hi : i < a.length
    · rw [List.drop_eq_getElem_cons hi, valL_cons, hd i, zero_gmul, Nat.zero_xor] at h1
      rw [List.getD_eq_getElem?_getD, List.getElem?_eq_getElem hi]
      exact h1
    · exact getD_ge _ _ (by omega)
/- places and their powers -/
def ex (n i : Nat) : Nat := n - 1 - i
def px (n i : Nat) : Nat := gexp (255 - ex n i)
theorem px_lt (n i : Nat) : px n i < 256 := gexp_lt _
theorem plc_ex {n i : Nat} (hi : i < n) : plc n i = gexp (ex n i) := by
  unfold plc ex
  rw [show (n : Int) - 1 - i = ((n - 1 - i : Nat) : Int) from by omega, gexpZ_nat]
theorem inv_plc {n i : Nat} (hn : n ≤ 255) (hi : i < n) : inv0 (plc n i) = px n i := by
  rw [plc_ex hi]
  unfold inv0 px ginv
  rw [if_neg (gexp_ne _), glog_gexp, Nat.mod_eq_of_lt (by unfold ex; omega)]
theorem px_pow (n i j m : Nat) (hn : n ≤ 255) (hi : i < n) (hj : j ≤ m) : gmul (gexp (ex n i * m)) (gp (px n i) j) = gexp (ex n i * (m - j)) := by
  unfold px
  rw [gp_exp, gmul_gexp]
  have h1 : ex n i < 255 := by unfold ex; omega
  obtain ⟨k, rfl⟩ : ∃ k, m = j + k := ⟨m - j, by omega⟩
  rw [show j + k - j = k from by omega, Nat.mul_add]
  have h2 : ex n i * j + ex n i * k + j * (255 - ex n i) = ex n i * k + 255 * j := by
    have : j * (255 - ex n i) + j * ex n i = 255 * j := by rw [← Nat.mul_add, show 255 - ex n i + ex n i = 255 from by omega, Nat.mul_comm]
    rw [Nat.mul_comm (ex n i) j]
    omega
  rw [h2, ← gexp_mod, Nat.add_mul_mod_self_left, gexp_mod]
theorem px_inj {n i j : Nat} (hn : n ≤ 255) (hi : i < n) (hj : j < n) (h : px n i = px n j) : i = j := by
  unfold px at h
  have hi' : ex n i < 255 := by unfold ex; omega
  have hj' : ex n j < 255 := by unfold ex; omega
  have h1 := congrArg glog h
  rw [glog_gexp, glog_gexp] at h1
  have : ex n i = ex n j := by
    by_cases a : ex n i = 0 <;> by_cases b : ex n j = 0 <;> omega
  unfold ex at this
  omega
/-- The weighted sum of a polynomial's values at all places' powers. -/
def sg (n : Nat) (Y : Nat → Nat) (A : List Nat) (m : Nat) : Nat := LS (fun i => gmul (Y i) (gmul (valL A (px n i)) (gexp (ex n i * m)))) (List.range n)
theorem sg_lt (n : Nat) (Y : Nat → Nat) (A : List Nat) (m : Nat) : sg n Y A m < 256 := LS_lt _ (fun _ => gmul_lt _ _) _
theorem px_step {n i m : Nat} (hn : n ≤ 255) (hi : i < n) : gmul (px n i) (gexp (ex n i * (m + 1))) = gexp (ex n i * m) := by
  have := px_pow n i 1 (m + 1) hn hi (by omega)
  rw [Nat.add_sub_cancel] at this
  rw [← this, gmul_comm]
  congr 1
  show px n i = gmul 1 (px n i)
  rw [one_gmul _ (px_lt _ _)]
theorem sg_plus {n : Nat} (hn : n ≤ 255) {Y : Nat → Nat} (hY : ∀ i, Y i < 256) {a b : List Nat} (ha : bytesL a) (hb : bytesL b) (y : Nat) (hy : y < 256) (m : Nat) : sg n Y (plusL a b y) (m + 1) = sg n Y a (m + 1) ^^^ gmul y (sg n Y b m) := by
  unfold sg
  rw [← LS_mul y hy _ (fun _ => gmul_lt _ _), ← LS_add]
  refine LS_congr _ fun i hi => ?_
  have hi := List.mem_range.1 hi
  rw [valL_plus ha hb y _ hy (px_lt _ _), xor_gmul _ _ _ (gexp_lt _) (valL_lt ha _) (gmul_lt _ _), gmul_xor _ _ _ (hY i) (gmul_lt _ _) (gmul_lt _ _), ← px_step (m := m) hn hi]
  congr 1
  simp only [gmul_comm, gmul_left_comm, gmul_assoc]
theorem sg_shift {n : Nat} (hn : n ≤ 255) (Y : Nat → Nat) (b : List Nat) (m : Nat) : sg n Y (0 :: b) (m + 1) = sg n Y b m := by
  unfold sg
  refine LS_congr _ fun i hi => ?_
  have hi := List.mem_range.1 hi
  rw [valL_shift, ← px_step (m := m) hn hi]
  simp only [gmul_comm, gmul_left_comm, gmul_assoc]
theorem sg_scaled {n : Nat} {Y : Nat → Nat} {a : List Nat} (ha : bytesL a) (y : Nat) (hy : y < 256) (m : Nat) : sg n Y (scaledL a y) m = gmul y (sg n Y a m) := by
  unfold sg
  rw [← LS_mul y hy _ (fun _ => gmul_lt _ _)]
  refine LS_congr _ fun i _ => ?_
  rw [valL_scaled ha y _ hy (px_lt _ _)]
  simp only [gmul_comm, gmul_left_comm, gmul_assoc]
/-- What the places so far don't explain, told by the sum. -/
theorem gap_sg {n p : Nat} (hn : n ≤ 255) {Y : Nat → Nat} (hY : ∀ i, Y i < 256) {s : List Nat} (hs : ∀ j, j < p → s.getD j 0 = LS (fun i => gmul (Y i) (gexp (ex n i * j))) (List.range n)) (C : List Nat) (hC : bytesL C) (m : Nat) (hm : m < p) (hl : C.length ≤ m + 1) :
    gapL s C (m + 1) = sg n Y C m := by
  unfold gapL
  rw [xorS_XS]
  have h1 : XS (gapF s C (m + 1)) C.length = XS (fun j => LS (fun i => gmul (Y i) (gmul (gexp (ex n i * m)) (gmul (C.getD j 0) (gp (px n i) j)))) (List.range n)) C.length := by
    apply XS_congr
    intro j hj
    unfold gapF
    rw [show ((m + 1 : Nat) : Int) - 1 - j = ((m - j : Nat) : Int) from by omega, coZ_nat, hs (m - j) (by omega), ← LS_mul _ (getD_lt hC j) _ (fun _ => gmul_lt _ _)]
    refine LS_congr _ fun i hi => ?_
    rw [← px_pow n i j m hn (List.mem_range.1 hi) (by omega)]
    simp only [gmul_comm, gmul_left_comm, gmul_assoc]
  rw [h1, XS_LS]
  unfold sg
  refine LS_congr _ fun i hi => ?_
  rw [XS_mul _ (hY i) _ (fun _ => gmul_lt _ _), XS_mul _ (gexp_lt _) _ (fun _ => gmul_lt _ _), ← valL_XS hC _ _ (Nat.le_refl _), gmul_comm (gexp _)]
/-- Sums over some places that are 0 for so many powers on end. -/
theorem sums_zero {n : Nat} (hn : n ≤ 255) (X : List Nat) (hX : X.Nodup) (hXn : ∀ i ∈ X, i < n) (c : Nat → Nat) (hc : ∀ i, c i < 256) (k : Nat) (h : ∀ m, m < X.length → LS (fun i => gmul (c i) (gexp (ex n i * (k + m)))) X = 0) : ∀ i ∈ X, c i = 0 := by
  have conv : ∀ (f : Nat → Nat) (l : List Nat), LS f (l.map (ex n)) = LS (fun i => f (ex n i)) l := by
    intro f l
    induction l with
    | nil => rfl
    | cons a l ih => show f (ex n a) ^^^ _ = f (ex n a) ^^^ _; rw [ih]
  have hback : ∀ i ∈ X, n - 1 - ex n i = i := fun i hi => by have := hXn i hi; unfold ex; omega
  have hz := places_zero (X.map (ex n)) (fun e => gmul (c (n - 1 - e)) (gexp (e * k))) X.length (by
      unfold List.Nodup
      rw [List.pairwise_map]
      refine List.Pairwise.imp_of_mem ?_ hX
      intro a b ha hb hne he
      refine hne ?_
      rw [← hback a ha, ← hback b hb, he]) (fun e he => by
      obtain ⟨i, hi, rfl⟩ := List.mem_map.1 he
      have := hXn i hi
      unfold ex
      omega) (fun e => gmul_lt _ _) (by rw [List.length_map]; exact Nat.le_refl _) (fun m hm => by
      rw [conv]
      refine Eq.trans (LS_congr _ fun i hi => ?_) (h m hm)
      rw [hback i hi, gmul_assoc, gmul_gexp, ← Nat.mul_add])
  intro i hi
  have := hz (ex n i) (List.mem_map.2 ⟨i, hi, rfl⟩)
  rw [hback i hi] at this
  rcases gmul_eq_zero.1 this with h1 | h1
  · exact h1
  · exact absurd h1 (gexp_ne _)
/-- How it stands after k steps. -/
structure BmI (n : Nat) (Y : Nat → Nat) (E X : List Nat) (r : Nat) (x : SrS) : Prop where
  c1 : bytesL x.loc
  b1 : bytesL x.last
  le : E.length ≤ x.l
  lr : x.l ≤ r
  lv : x.l ≤ E.length + X.length
  cl : x.loc.length ≤ x.l + 1
  c0 : x.loc.getD 0 0 = 1
  bl : x.last.length + x.l ≤ r + E.length + 1
  ce : ∀ i ∈ E, valL x.loc (px n i) = 0
  be : ∀ i ∈ E, valL x.last (px n i) = 0
  cs : ∀ m, x.l ≤ m → m < r → sg n Y x.loc m = 0
  bs : ∀ m, r + E.length ≤ x.l + m → m + 1 < r → sg n Y x.last m = 0
  b2 : E.length < x.l → sg n Y x.last (r - 1) = 1
/-- A sum over all places is one over those that aren't erased, of a polynomial that is 0 at those. -/
theorem sg_others {n : Nat} {Y : Nat → Nat} {E X : List Nat} (hX : X = (List.range n).filter fun i => !(E.contains i) && decide (Y i ≠ 0)) {A : List Nat} (hE : ∀ i ∈ E, valL A (px n i) = 0) (m : Nat) : sg n Y A m = LS (fun i => gmul (gmul (Y i) (valL A (px n i))) (gexp (ex n i * m))) X := by
  unfold sg
  rw [hX, LS_filter]
  · exact LS_congr _ fun i _ => (gmul_assoc _ _ _).symm
  · intro i _ hi
    rw [Bool.and_eq_false_iff, Bool.not_eq_false', decide_eq_false_iff_not, List.contains_iff_mem, Classical.not_not] at hi
    rcases hi with hi | hi
    · rw [hE i hi, gmul_zero, zero_gmul]
    · rw [hi, zero_gmul, zero_gmul]
theorem BmI.step {n p : Nat} (hn : n ≤ 255) {Y : Nat → Nat} (hY : ∀ i, Y i < 256) {E X : List Nat} (hX : X = (List.range n).filter fun i => !(E.contains i) && decide (Y i ≠ 0)) {s : List Nat}
    (hs : ∀ j, j < p → s.getD j 0 = LS (fun i => gmul (Y i) (gexp (ex n i * j))) (List.range n)) {r : Nat} (hr : r < p) {x : SrS} (h : BmI n Y E X r x) : BmI n Y E X (r + 1) (srStep s E.length (r + 1) x) := by
  have hg := gap_sg hn hY hs x.loc h.c1 r hr (by have := h.cl; have := h.lr; omega)
  have hgl := gapL_lt s x.loc (r + 1)
  have hle := h.le
  have hlr := h.lr
  have hlv := h.lv
  have hcl := h.cl
  have hbl := h.bl
  have hb0 : bytesL (0 :: x.last) := by
    intro y hy
    rcases List.mem_cons.1 hy with rfl | hy
    · omega
    · exact h.b1 y hy
  have hbe0 : ∀ i ∈ E, valL (0 :: x.last) (px n i) = 0 := fun i hi => by rw [valL_shift, h.be i hi, gmul_zero]
  have hce1 : ∀ d, d < 256 → ∀ i ∈ E, valL (plusL x.loc x.last d) (px n i) = 0 := fun d hd i hi => by rw [valL_plus h.c1 h.b1 d _ hd (px_lt _ _), h.ce i hi, h.be i hi, gmul_zero, gmul_zero]; rfl
  have hc01 : ∀ d, (plusL x.loc x.last d).getD 0 0 = 1 := fun d => by rw [plusL_getD, if_pos rfl, gmul_zero, h.c0]; rfl
  have hbs0 : ∀ m, r + 1 + E.length ≤ x.l + m → m + 1 < r + 1 → sg n Y (0 :: x.last) m = 0 := by
    intro m h1 h2
    obtain ⟨m, rfl⟩ : ∃ q, m = q + 1 := ⟨m - 1, by omega⟩
    rw [sg_shift hn]
    exact h.bs m (by omega) (by omega)
  have hb20 : E.length < x.l → sg n Y (0 :: x.last) (r + 1 - 1) = 1 := by
    intro h1
    obtain ⟨q, rfl⟩ : ∃ q, r = q + 1 := ⟨r - 1, by omega⟩
    show sg n Y (0 :: x.last) (q + 1) = 1
    rw [sg_shift hn]
    exact h.b2 h1
  unfold srStep
  rw [hg]
  have hd := sg_lt n Y x.loc r
  split
  · rename_i hz
    refine ⟨h.c1, hb0, hle, by show x.l ≤ _; omega, hlv, hcl, h.c0, by show (0 :: x.last).length + x.l ≤ _; rw [List.length_cons]; omega, h.ce, hbe0, fun m h1 h2 => ?_, hbs0, hb20⟩
    by_cases e : m = r
    · rw [e]; exact hz
    · exact h.cs m h1 (by omega)
  · rename_i hz
    split
    · rename_i h2l
      have hsum : ∀ m, m + x.l = r + E.length + 1 ∨ (r + E.length + 1 ≤ m + x.l) → m < r + 1 → sg n Y (plusL x.loc x.last (sg n Y x.loc r)) m = 0 := by
        intro m h1 h2
        obtain ⟨q, rfl⟩ : ∃ q, m = q + 1 := ⟨m - 1, by omega⟩
        rw [sg_plus hn hY h.c1 h.b1 _ hd]
        by_cases e : q + 1 = r
        · rw [e, show q = r - 1 from by omega, h.b2 (by omega), gmul_one _ hd, Nat.xor_self]
        · rw [h.cs _ (by omega) (by omega), h.bs q (by omega) (by omega), gmul_zero]; rfl
      have hLv : r + 1 + E.length - x.l ≤ E.length + X.length := by
        by_cases hc : r + 1 + E.length - x.l ≤ E.length + X.length
        · exact hc
        exfalso
        have h0 := sums_zero hn X (by rw [hX]; exact List.Pairwise.filter _ List.nodup_range) (fun i hi => by rw [hX] at hi; exact List.mem_range.1 (List.mem_filter.1 hi).1) (fun i => gmul (Y i) (valL x.loc (px n i))) (fun i => gmul_lt _ _) x.l (fun m hm => by
          rw [← sg_others hX h.ce]
          exact h.cs _ (by omega) (by omega))
        apply hz
        rw [sg_others hX h.ce]
        have hcz : ∀ (l : List Nat), (∀ i ∈ l, i ∈ X) → LS (fun i => gmul (gmul (Y i) (valL x.loc (px n i))) (gexp (ex n i * r))) l = 0 := by
          intro l
          induction l with
          | nil => intro _; rfl
          | cons a l ih =>
            intro hl
            show gmul (gmul (Y a) (valL x.loc (px n a))) _ ^^^ _ = 0
            rw [ih fun i hi => hl i (by simp [hi]), h0 a (hl a (by simp)), zero_gmul]; rfl
        exact hcz X fun i hi => hi
      refine ⟨plusL_bytes h.c1 _ _, scaledL_bytes _ _, ?_, ?_, hLv, ?_, hc01 _, ?_, hce1 _ hd, ?_, fun m h1 h2 => ?_, fun m h1 h2 => ?_, fun h1 => ?_⟩
      · show E.length ≤ r + 1 + E.length - x.l; omega
      · show r + 1 + E.length - x.l ≤ r + 1; omega
      · show (plusL _ _ _).length ≤ r + 1 + E.length - x.l + 1; rw [plusL_len]; omega
      · show (scaledL _ _).length + (r + 1 + E.length - x.l) ≤ _; rw [scaledL_len]; omega
      · intro i hi
        show valL (scaledL _ _) _ = 0
        rw [valL_scaled h.c1 _ _ (inv0_lt _) (px_lt _ _), h.ce i hi, gmul_zero]
      · have h1 : r + 1 + E.length - x.l ≤ m := h1
        exact hsum m (by omega) h2
      · have h1 : r + 1 + E.length ≤ (r + 1 + E.length - x.l) + m := h1
        show sg n Y (scaledL _ _) m = 0
        rw [sg_scaled h.c1 _ (inv0_lt _), h.cs m (by omega) (by omega), gmul_zero]
      · show sg n Y (scaledL _ _) (r + 1 - 1) = 1
        rw [sg_scaled h.c1 _ (inv0_lt _), Nat.add_sub_cancel]
        unfold inv0
        rw [if_neg hz, gmul_comm, gmul_ginv _ hz]
    · rename_i h2l
      refine ⟨plusL_bytes h.c1 _ _, hb0, hle, by show x.l ≤ _; omega, hlv, ?_, hc01 _, ?_, hce1 _ hd, hbe0, fun m h1 h2 => ?_, hbs0, hb20⟩
      · show (plusL _ _ _).length ≤ x.l + 1; rw [plusL_len]; omega
      · show (0 :: x.last).length + x.l ≤ _; rw [List.length_cons]; omega
      · have h1 : x.l ≤ m := h1
        obtain ⟨q, rfl⟩ : ∃ q, m = q + 1 := ⟨m - 1, by omega⟩
        show sg n Y (plusL _ _ _) _ = 0
        rw [sg_plus hn hY h.c1 h.b1 _ hd]
        by_cases e : q + 1 = r
        · rw [e, show q = r - 1 from by omega, h.b2 (by omega), gmul_one _ hd, Nat.xor_self]
        · rw [h.cs _ h1 (by omega), h.bs q (by omega) (by omega), gmul_zero]; rfl
end Tri

namespace Tri
open Go Go.RowKit Go.Proofs.Ytgckhekikcdaiaa
theorem eraL_c0 (n : Nat) (l : List Nat) : (eraL n l).getD 0 0 = 1 :=
  foldl_inv (P := fun a => a.getD 0 0 = 1) _ (fun b a h => by rw [plusL_getD, if_pos rfl, gmul_zero, h]; rfl) l [1] rfl
theorem px_mul {n i : Nat} (hn : n ≤ 255) (hi : i < n) : gmul (gexp (ex n i)) (px n i) = 1 := by
  unfold px
  rw [gmul_gexp, show ex n i + (255 - ex n i) = 0 + 255 from by unfold ex; omega, gexp_add_255, gexp_zero]
theorem eraL_root {n : Nat} (hn : n ≤ 255) (l : List Nat) (hl : ∀ i ∈ l, i < n) : ∀ i ∈ l, valL (eraL n l) (px n i) = 0 := by
  have key : ∀ (l : List Nat) (a : List Nat) (D : List Nat), bytesL a → (∀ i ∈ D, valL a (px n i) = 0) → (∀ i ∈ l, i < n) → ∀ i, i ∈ D ∨ i ∈ l → valL (l.foldl (fun a i => plusL a a (plc n i)) a) (px n i) = 0 := by
    intro l
    induction l with
    | nil => intro a D _ hD _ i hi; exact hD i (by simpa using hi)
    | cons b l ih =>
      intro a D ha hD hl i hi
      rw [List.foldl_cons]
      have hv : ∀ i, valL (plusL a a (plc n b)) (px n i) = valL a (px n i) ^^^ gmul (plc n b) (gmul (px n i) (valL a (px n i))) := fun i => valL_plus ha ha _ _ (plc_lt _ _) (px_lt _ _)
      refine ih (plusL a a (plc n b)) (b :: D) (plusL_bytes ha _ _) (fun i hi => ?_) (fun i hi => hl i (by simp [hi])) i ?_
      · rw [hv]
        rcases List.mem_cons.1 hi with rfl | hi
        · have hb := hl i (by simp)
          rw [plc_ex hb, ← gmul_assoc, px_mul hn hb, one_gmul _ (valL_lt ha _), Nat.xor_self]
        · rw [hD i hi, gmul_zero, gmul_zero]; rfl
      · rcases hi with hi | hi
        · exact .inl (by simp [hi])
        · rcases List.mem_cons.1 hi with rfl | hi
          · exact .inl (by simp)
          · exact .inr hi
  intro i hi
  exact key l [1] [] (by intro x hx; simp at hx; omega) (by simp) hl i (.inr hi)
theorem BmI.start {n : Nat} (hn : n ≤ 255) (Y : Nat → Nat) {E : List Nat} (X : List Nat) (hE : ∀ i ∈ E, i < n) : BmI n Y E X E.length ⟨E.length, eraL n E, eraL n E⟩ := by
  have hb := eraL_bytes n E
  have hl := eraL_len n E
  have hr := eraL_root hn E hE
  exact ⟨hb, hb, Nat.le_refl _, Nat.le_refl _, by show E.length ≤ _; omega, by show (eraL n E).length ≤ E.length + 1; omega, eraL_c0 n E, by show (eraL n E).length + E.length ≤ _; omega, hr, hr, fun m h1 h2 => by have h1 : E.length ≤ m := h1; omega, fun m h1 h2 => by have h1 : E.length + E.length ≤ E.length + m := h1; omega, fun h => by have h : E.length < E.length := h; omega⟩
theorem BmI.run {n p : Nat} (hn : n ≤ 255) {Y : Nat → Nat} (hY : ∀ i, Y i < 256) {E X : List Nat} (hE : ∀ i ∈ E, i < n) (hX : X = (List.range n).filter fun i => !(E.contains i) && decide (Y i ≠ 0)) {s : List Nat}
    (hs : ∀ j, j < p → s.getD j 0 = LS (fun i => gmul (Y i) (gexp (ex n i * j))) (List.range n)) : ∀ k, E.length + k ≤ p → BmI n Y E X (E.length + k) (srRun s E.length (eraL n E) k)
  | 0, _ => BmI.start hn Y X hE
  | k + 1, hk => by
    have := (BmI.run hn hY hE hX hs k (by omega)).step hn hY hX hs (by omega)
    rw [show E.length + k + 1 = E.length + 1 + k from by omega] at this
    rw [show E.length + (k + 1) = E.length + 1 + k from by omega]
    exact this
theorem nodup_px {n : Nat} (hn : n ≤ 255) {l : List Nat} (hl : l.Nodup) (hm : ∀ i ∈ l, i < n) : (l.map (px n)).Nodup := by
  unfold List.Nodup
  rw [List.pairwise_map]
  refine List.Pairwise.imp_of_mem ?_ hl
  intro a b ha hb hne he
  exact hne (px_inj hn (hm a ha) (hm b hb) he)
/-- No polynomial that is 1 at 0 has more roots than its degree. -/
theorem roots_le {n : Nat} (hn : n ≤ 255) {C : List Nat} (hC : bytesL C) (h0 : C.getD 0 0 = 1) {V : List Nat} (hV : V.Nodup) (hm : ∀ i ∈ V, i < n) (hr : ∀ i ∈ V, valL C (px n i) = 0) : V.length < C.length := by
  by_cases h : V.length < C.length
  · exact h
  exfalso
  have := roots_zero (V.map (px n)) C hC (nodup_px hn hV hm) (fun x hx => by
    obtain ⟨i, hi, rfl⟩ := List.mem_map.1 hx
    exact ⟨px_lt _ _, hr i hi⟩) (fun i hi => getD_ge _ _ (by rw [List.length_map] at hi; omega)) 0
  omega
theorem BmI.end {n p : Nat} (hn : n ≤ 255) {Y : Nat → Nat} {E X : List Nat} (hEn : E.Nodup) (hE : ∀ i ∈ E, i < n) (hX : X = (List.range n).filter fun i => !(E.contains i) && decide (Y i ≠ 0)) {x : SrS} (h : BmI n Y E X p x) (hp : E.length + 2 * X.length ≤ p) :
    x.l = E.length + X.length ∧ (∀ i ∈ E ++ X, valL x.loc (px n i) = 0) ∧ ∀ i, i < n → valL x.loc (px n i) = 0 → i ∈ E ++ X := by
  have hXn : X.Nodup := by rw [hX]; exact List.Pairwise.filter _ List.nodup_range
  have hXm : ∀ i ∈ X, i < n ∧ i ∉ E ∧ Y i ≠ 0 := fun i hi => by
    rw [hX, List.mem_filter, List.mem_range, Bool.and_eq_true, Bool.not_eq_true', decide_eq_true_eq] at hi
    refine ⟨hi.1, fun he => ?_, hi.2.2⟩
    rw [List.contains_iff_mem.2 he] at hi
    cases hi.2.1
  have h1 := h.lv
  have hz := sums_zero hn X hXn (fun i hi => (hXm i hi).1) (fun i => gmul (Y i) (valL x.loc (px n i))) (fun i => gmul_lt _ _) x.l (fun m hm => by
    rw [← sg_others hX h.ce]
    exact h.cs _ (by omega) (by omega))
  have hV : ∀ i ∈ E ++ X, valL x.loc (px n i) = 0 := fun i hi => by
    rcases List.mem_append.1 hi with hi | hi
    · exact h.ce i hi
    · rcases gmul_eq_zero.1 (hz i hi) with h2 | h2
      · exact absurd h2 (hXm i hi).2.2
      · exact h2
  have hVn : (E ++ X).Nodup := List.nodup_append.2 ⟨hEn, hXn, fun a ha b hb e => (hXm b hb).2.1 (e ▸ ha)⟩
  have hVm : ∀ i ∈ E ++ X, i < n := fun i hi => by
    rcases List.mem_append.1 hi with hi | hi
    · exact hE i hi
    · exact (hXm i hi).1
  have hl := roots_le hn h.c1 h.c0 hVn hVm hV
  rw [List.length_append] at hl
  have hcl := h.cl
  refine ⟨by omega, hV, fun i hi hr => ?_⟩
  by_cases hin : i ∈ E ++ X
  · exact hin
  exfalso
  have := roots_le hn h.c1 h.c0 (V := i :: (E ++ X)) (List.nodup_cons.2 ⟨hin, hVn⟩) (fun j hj => by
    rcases List.mem_cons.1 hj with rfl | hj
    · exact hi
    · exact hVm j hj) (fun j hj => by
    rcases List.mem_cons.1 hj with rfl | hj
    · exact hr
    · exact hV j hj)
  rw [List.length_cons, List.length_append] at this
  omega
/-- A polynomial divided by 1 less a power times x, factor by factor. -/
def dq (X : Nat) (C : List Nat) : Nat → Nat
  | 0 => C.getD 0 0
  | m + 1 => gmul X (dq X C m) ^^^ C.getD (m + 1) 0
theorem dq_lt {X : Nat} {C : List Nat} (hC : bytesL C) : ∀ m, dq X C m < 256
  | 0 => getD_lt hC 0
  | _ + 1 => xor_lt (gmul_lt _ _) (getD_lt hC _)
theorem dq_conv {C : List Nat} (hC : bytesL C) (a m : Nat) : dq (gexp a) C m = XS (fun j => gmul (gexp (a * j)) (C.getD (m - j) 0)) (m + 1) := by
  induction m with
  | zero =>
    show C.getD 0 0 = 0 ^^^ gmul (gexp (a * 0)) (C.getD (0 - 0) 0)
    rw [Nat.mul_zero, gexp_zero, one_gmul _ (getD_lt hC _), Nat.zero_xor]
  | succ m ih =>
    rw [XS_first]
    show gmul (gexp a) (dq (gexp a) C m) ^^^ C.getD (m + 1) 0 = _
    rw [ih, ← XS_mul _ (gexp_lt a) _ (fun _ => gmul_lt _ _), Nat.mul_zero, gexp_zero, one_gmul _ (getD_lt hC _), Nat.sub_zero, Nat.xor_comm]
    congr 1
    apply XS_congr
    intro j _
    rw [Nat.mul_succ, ← gmul_gexp, Nat.add_sub_add_right]
    simp only [gmul_comm, gmul_left_comm, gmul_assoc]
theorem dq_cv {C : List Nat} (hC : bytesL C) {X x : Nat} (hx : x < 256) (h : gmul X x = 1) (m : Nat) : gmul (dq X C m) (gp x m) = XS (fun j => gmul (C.getD j 0) (gp x j)) (m + 1) := by
  induction m with
  | zero => show gmul (C.getD 0 0) (gp x 0) = 0 ^^^ gmul (C.getD 0 0) (gp x 0); rw [Nat.zero_xor]
  | succ m ih =>
    show gmul (gmul X (dq X C m) ^^^ C.getD (m + 1) 0) (gp x (m + 1)) = XS _ (m + 1) ^^^ gmul (C.getD (m + 1) 0) (gp x (m + 1))
    rw [xor_gmul _ _ _ (gp_lt _ _) (gmul_lt _ _) (getD_lt hC _), ← ih]
    congr 1
    show gmul (gmul X (dq X C m)) (gmul (gp x m) x) = _
    rw [show gmul (gmul X (dq X C m)) (gmul (gp x m) x) = gmul (gmul X x) (gmul (dq X C m) (gp x m)) from by simp only [gmul_comm, gmul_left_comm, gmul_assoc], h, one_gmul _ (gmul_lt _ _)]
theorem gp_px (n i m : Nat) : gp (px n i) m ≠ 0 := by unfold px; rw [gp_exp]; exact gexp_ne _
theorem dq_end {n i : Nat} (hn : n ≤ 255) (hi : i < n) {C : List Nat} (hC : bytesL C) (hr : valL C (px n i) = 0) {m : Nat} (hm : C.length ≤ m + 1) : dq (gexp (ex n i)) C m = 0 := by
  have h1 := dq_cv hC (px_lt n i) (px_mul hn hi) m
  rw [← valL_XS hC _ _ hm, hr] at h1
  rcases gmul_eq_zero.1 h1 with h | h
  · exact h
  · exact absurd h (gp_px _ _ _)
/-- The quotient's value. -/
def qv (X : Nat) (C : List Nat) (y N : Nat) : Nat := XS (fun m => gmul (dq X C m) (gp y m)) N
theorem qv_lt (X : Nat) (C : List Nat) (y N : Nat) : qv X C y N < 256 := XS_lt _ (fun _ => gmul_lt _ _) _
theorem qv_mul {C : List Nat} (hC : bytesL C) (X y : Nat) (hX : X < 256) (hy : y < 256) (N : Nat) : gmul (1 ^^^ gmul X y) (qv X C y (N + 1)) = XS (fun j => gmul (C.getD j 0) (gp y j)) (N + 1) ^^^ gmul (gmul X (dq X C N)) (gp y (N + 1)) := by
  have hu : 1 ^^^ gmul X y < 256 := xor_lt (by omega) (gmul_lt _ _)
  have hone : ∀ z, z < 256 → gmul (1 ^^^ gmul X y) z = z ^^^ gmul (gmul X y) z := fun z hz => by rw [xor_gmul _ _ _ hz (by omega) (gmul_lt _ _), one_gmul _ hz]
  induction N with
  | zero =>
    have e1 : qv X C y 1 = C.getD 0 0 := by
      show 0 ^^^ gmul (C.getD 0 0) 1 = _
      rw [gmul_one _ (getD_lt hC _), Nat.zero_xor]
    have e2 : XS (fun j => gmul (C.getD j 0) (gp y j)) 1 = C.getD 0 0 := by
      show 0 ^^^ gmul (C.getD 0 0) 1 = _
      rw [gmul_one _ (getD_lt hC _), Nat.zero_xor]
    rw [show (0 : Nat) + 1 = 1 from rfl, e1, e2, hone _ (getD_lt hC _)]
    congr 1
    show gmul (gmul X y) (C.getD 0 0) = gmul (gmul X (C.getD 0 0)) (gmul 1 y)
    rw [one_gmul _ hy]
    simp only [gmul_comm, gmul_left_comm, gmul_assoc]
  | succ N ih =>
    have e1 : qv X C y (N + 1 + 1) = qv X C y (N + 1) ^^^ gmul (dq X C (N + 1)) (gp y (N + 1)) := rfl
    have e2 : XS (fun j => gmul (C.getD j 0) (gp y j)) (N + 1 + 1) = XS (fun j => gmul (C.getD j 0) (gp y j)) (N + 1) ^^^ gmul (C.getD (N + 1) 0) (gp y (N + 1)) := rfl
    have e3 : gmul (dq X C (N + 1)) (gp y (N + 1)) = gmul (gmul X (dq X C N)) (gp y (N + 1)) ^^^ gmul (C.getD (N + 1) 0) (gp y (N + 1)) := by
      show gmul (gmul X (dq X C N) ^^^ C.getD (N + 1) 0) _ = _
      rw [xor_gmul _ _ _ (gp_lt _ _) (gmul_lt _ _) (getD_lt hC _)]
    have e4 : gmul (gmul X y) (gmul (dq X C (N + 1)) (gp y (N + 1))) = gmul (gmul X (dq X C (N + 1))) (gp y (N + 1 + 1)) := by
      show _ = gmul (gmul X (dq X C (N + 1))) (gmul (gp y (N + 1)) y)
      simp only [gmul_comm, gmul_left_comm, gmul_assoc]
    rw [e1, gmul_xor _ _ _ hu (qv_lt _ _ _ _) (gmul_lt _ _), ih, hone _ (gmul_lt _ _), e4, e2, e3]
    generalize XS (fun j => gmul (C.getD j 0) (gp y j)) (N + 1) = a
    generalize gmul (gmul X (dq X C N)) (gp y (N + 1)) = b
    generalize gmul (C.getD (N + 1) 0) (gp y (N + 1)) = c
    generalize gmul (gmul X (dq X C (N + 1))) (gp y (N + 1 + 1)) = d
    rw [Nat.xor_assoc a b, ← Nat.xor_assoc b (b ^^^ c), ← Nat.xor_assoc b b, Nat.xor_self, Nat.zero_xor, Nat.xor_assoc a c]
theorem XS_pairs (g : Nat → Nat) : ∀ M, XS (fun m => XS g (m + 1)) (2 * M) = XS (fun j => g (2 * j + 1)) M
  | 0 => rfl
  | M + 1 => by
    have e : XS (fun m => XS g (m + 1)) (2 * (M + 1)) = XS (fun m => XS g (m + 1)) (2 * M) ^^^ XS g (2 * M + 1) ^^^ (XS g (2 * M + 1) ^^^ g (2 * M + 1)) := rfl
    rw [e, XS_pairs g M, Nat.xor_assoc, ← Nat.xor_assoc (XS g (2 * M + 1)), Nat.xor_self, Nat.zero_xor]
    rfl
theorem XS_even (h : Nat → Nat) (hz : ∀ j, h (2 * j + 1) = 0) : ∀ M, XS h (2 * M) = XS (fun j => h (2 * j)) M
  | 0 => rfl
  | M + 1 => by
    have e : XS h (2 * (M + 1)) = XS h (2 * M) ^^^ h (2 * M) ^^^ h (2 * M + 1) := rfl
    rw [e, XS_even h hz M, hz, Nat.xor_zero]
    rfl
theorem qv_der {C : List Nat} (hC : bytesL C) {X x : Nat} (hx : x < 256) (h : gmul X x = 1) (M : Nat) (hM : C.length ≤ 2 * M) : qv X C x (2 * M) = gmul x (valL (derL C) x) := by
  have h1 : qv X C x (2 * M) = XS (fun m => XS (fun j => gmul (C.getD j 0) (gp x j)) (m + 1)) (2 * M) := XS_congr _ fun m _ => dq_cv hC hx h m
  have hg : ∀ i, (derL C).getD i 0 = derF C i := by
    intro i
    unfold derL
    rw [List.getD_eq_getElem?_getD, List.getElem?_map]
    by_cases hi : i < C.length - 1
    · rw [List.getElem?_range hi]; rfl
    · rw [List.getElem?_eq_none (by rw [List.length_range]; omega)]
      show 0 = derF C i
      unfold derF
      rw [getD_ge _ _ (by omega)]
      split <;> rfl
  rw [h1, XS_pairs, valL_XS (derL_bytes hC) x (2 * M) (by rw [derL_len]; omega), ← XS_mul x hx _ (fun _ => gmul_lt _ _), XS_even]
  · apply XS_congr
    intro j _
    rw [hg]
    unfold derF
    rw [if_pos (by omega)]
    show gmul _ (gmul (gp x (2 * j)) x) = _
    simp only [gmul_comm, gmul_left_comm, gmul_assoc]
  · intro j
    rw [hg]
    unfold derF
    rw [if_neg (by omega), zero_gmul, gmul_zero]
theorem qv_more {n i : Nat} (hn : n ≤ 255) (hi : i < n) {C : List Nat} (hC : bytesL C) (hr : valL C (px n i) = 0) (y : Nat) {N M : Nat} (hN : C.length ≤ N + 1) (hM : N ≤ M) : qv (gexp (ex n i)) C y M = qv (gexp (ex n i)) C y N :=
  XS_more _ N M hM fun m hm => by rw [dq_end hn hi hC hr (by omega), zero_gmul]
theorem qv_other {n i k : Nat} (hn : n ≤ 255) (hi : i < n) (hk : k < n) (hne : k ≠ i) {C : List Nat} (hC : bytesL C) (hr : valL C (px n k) = 0) (hri : valL C (px n i) = 0) {N : Nat} (hN : C.length ≤ N + 1) : qv (gexp (ex n k)) C (px n i) N = 0 := by
  rw [← qv_more hn hk hC hr (px n i) hN (M := N + 1) (by omega)]
  have h1 := qv_mul hC (gexp (ex n k)) (px n i) (gexp_lt _) (px_lt _ _) N
  rw [dq_end hn hk hC hr hN, gmul_zero, zero_gmul, Nat.xor_zero, ← valL_XS hC _ _ hN, hri] at h1
  rcases gmul_eq_zero.1 h1 with h | h
  · exfalso
    have e : gmul (gexp (ex n k)) (px n i) = 1 := by
      have := congrArg (fun z => 1 ^^^ z) h
      rwa [← Nat.xor_assoc, Nat.xor_self, Nat.zero_xor, Nat.xor_zero] at this
    apply hne
    apply px_inj hn hk hi
    have h2 := congrArg (gmul (px n k)) e
    rw [← gmul_assoc, gmul_comm (px n k), px_mul hn hk, one_gmul _ (px_lt _ _), gmul_one _ (px_lt _ _)] at h2
    exact h2.symm
  · exact h
/-- A root of as many as the degree is a simple one. -/
theorem qv_ne {n i : Nat} (hn : n ≤ 255) {C : List Nat} (hC : bytesL C) (h0 : C.getD 0 0 = 1) {V : List Nat} (hV : V.Nodup) (hm : ∀ i ∈ V, i < n) (hr : ∀ i ∈ V, valL C (px n i) = 0) (hl : C.length ≤ V.length + 1) (hi : i ∈ V) : qv (gexp (ex n i)) C (px n i) V.length ≠ 0 := by
  intro hz
  have hin := hm i hi
  have hDb : bytesL ((List.range V.length).map (dq (gexp (ex n i)) C)) := map_bytes (dq_lt hC) _
  have hDg : ∀ m, m < V.length → ((List.range V.length).map (dq (gexp (ex n i)) C)).getD m 0 = dq (gexp (ex n i)) C m := fun m hm => by
    rw [List.getD_eq_getElem?_getD, List.getElem?_map, List.getElem?_range hm]; rfl
  have hDv : ∀ y, valL ((List.range V.length).map (dq (gexp (ex n i)) C)) y = qv (gexp (ex n i)) C y V.length := fun y => by
    rw [valL_XS hDb y V.length (by simp)]
    exact XS_congr _ fun m hm => by rw [hDg m hm]
  have h1 := roots_zero (V.map (px n)) _ hDb (nodup_px hn hV hm) (fun x hx => by
    obtain ⟨k, hk, rfl⟩ := List.mem_map.1 hx
    refine ⟨px_lt _ _, ?_⟩
    rw [hDv]
    by_cases e : i = k
    · rw [← e]; exact hz
    · exact qv_other hn (hm k hk) hin e hC (hr i hi) (hr k hk) hl) (fun j hj => getD_ge _ _ (by rw [List.length_map] at hj; simpa using hj)) 0
  rw [hDg 0 (List.length_pos_of_mem hi)] at h1
  have : dq (gexp (ex n i)) C 0 = 1 := h0
  omega
theorem LS_single (f : Nat → Nat) (i : Nat) : ∀ (l : List Nat), l.Nodup → i ∈ l → (∀ k ∈ l, k ≠ i → f k = 0) → LS f l = f i
  | a :: l, hnd, hi, h => by
    obtain ⟨h1, h2⟩ := List.nodup_cons.1 hnd
    have zero : ∀ (m : List Nat), (∀ k ∈ m, f k = 0) → LS f m = 0 := by
      intro m
      induction m with
      | nil => intro _; rfl
      | cons b m ih => intro hm; show f b ^^^ LS f m = 0; rw [hm b (by simp), ih fun k hk => hm k (by simp [hk])]; rfl
    show f a ^^^ LS f l = f i
    rcases List.mem_cons.1 hi with rfl | hi
    · rw [zero l fun k hk => h k (by simp [hk]) fun e => h1 (e ▸ hk), Nat.xor_zero]
    · rw [h a (by simp) (fun e => h1 (e ▸ hi)), LS_single f i l h2 hi fun k hk => h k (by simp [hk]), Nat.zero_xor]
/-- The evaluator's value at a root is the byte times the quotient's value. -/
theorem om_val {n p : Nat} (hn : n ≤ 255) {Y : Nat → Nat} (hY : ∀ i, Y i < 256) {s : List Nat} (hs : ∀ j, j < p → s.getD j 0 = LS (fun i => gmul (Y i) (gexp (ex n i * j))) (List.range n)) {C : List Nat} (hC : bytesL C) (hl : C.length ≤ p + 1)
    (hr : ∀ k, k < n → Y k ≠ 0 → valL C (px n k) = 0) {i : Nat} (hi : i < n) (hri : valL C (px n i) = 0) : valL (omL s C p) (px n i) = gmul (Y i) (qv (gexp (ex n i)) C (px n i) p) := by
  have hg : ∀ m, m < p → (omL s C p).getD m 0 = LS (fun k => gmul (Y k) (dq (gexp (ex n k)) C m)) (List.range n) := by
    intro m hm
    unfold omL
    rw [List.getD_eq_getElem?_getD, List.getElem?_map, List.getElem?_range hm]
    show omC s C m = _
    unfold omC
    rw [xorS_XS]
    have h1 : XS (omF s C m) (m + 1) = XS (fun j => LS (fun k => gmul (Y k) (gmul (gexp (ex n k * j)) (C.getD (m - j) 0))) (List.range n)) (m + 1) := by
      apply XS_congr
      intro j hj
      unfold omF
      rw [coZ_nat, show (m : Int) - j = ((m - j : Nat) : Int) from by omega, coZ_nat, hs j (by omega), gmul_comm, ← LS_mul _ (getD_lt hC _) _ (fun _ => gmul_lt _ _)]
      refine LS_congr _ fun k _ => ?_
      simp only [gmul_comm, gmul_left_comm, gmul_assoc]
    rw [h1, XS_LS]
    refine LS_congr _ fun k _ => ?_
    rw [XS_mul _ (hY k) _ (fun _ => gmul_lt _ _), ← dq_conv hC]
  rw [valL_XS (omL_bytes s C p) _ p (by rw [omL_len]; exact Nat.le_refl _)]
  have h2 : XS (fun m => gmul ((omL s C p).getD m 0) (gp (px n i) m)) p = XS (fun m => LS (fun k => gmul (Y k) (gmul (dq (gexp (ex n k)) C m) (gp (px n i) m))) (List.range n)) p := by
    apply XS_congr
    intro m hm
    rw [hg m hm, gmul_comm, ← LS_mul _ (gp_lt _ _) _ (fun _ => gmul_lt _ _)]
    refine LS_congr _ fun k _ => ?_
    simp only [gmul_comm, gmul_left_comm, gmul_assoc]
  rw [h2, XS_LS, LS_single _ i _ List.nodup_range (List.mem_range.2 hi)]
  · rw [XS_mul _ (hY i) _ (fun _ => gmul_lt _ _)]; rfl
  · intro k hk hne
    rw [XS_mul _ (hY k) _ (fun _ => gmul_lt _ _)]
    by_cases h0 : Y k = 0
    · rw [h0, zero_gmul]
    · rw [show XS (fun m => gmul (dq (gexp (ex n k)) C m) (gp (px n i) m)) p = qv (gexp (ex n k)) C (px n i) p from rfl, qv_other hn hi (List.mem_range.1 hk) hne hC (hr k (List.mem_range.1 hk) h0) hri hl, gmul_zero]
end Tri

namespace Tri
open Go Go.RowKit Go.Proofs.Ytgckhekikcdaiaa
theorem getD_set (l : List Nat) (i y j : Nat) (hi : i < l.length) : (l.set i y).getD j 0 = if j = i then y else l.getD j 0 := by
  rw [List.getD_eq_getElem?_getD, List.getElem?_set]
  by_cases h : i = j
  · subst h; rw [if_pos rfl, if_pos rfl, if_pos hi]; rfl
  · rw [if_neg h, if_neg (fun e => h e.symm), List.getD_eq_getElem?_getD]
theorem fixL_some (n : Nat) (om der : List Nat) : ∀ (L out : List Nat), L.Nodup → (∀ i ∈ L, i < out.length) → (∀ i ∈ L, byOk n der i = true) → ∃ o, fixL n om der out L = some o ∧ o.length = out.length ∧ ∀ j, o.getD j 0 = out.getD j 0 ^^^ (if j ∈ L then byV n om der j else 0)
  | [], out, _, _, _ => ⟨out, rfl, rfl, fun j => by simp⟩
  | i :: L, out, hnd, hl, hk => by
    obtain ⟨h1, h2⟩ := List.nodup_cons.1 hnd
    have hi := hl i (by simp)
    obtain ⟨o, ho, hol, hog⟩ := fixL_some n om der L (out.set i (out.getD i 0 ^^^ byV n om der i)) h2 (fun j hj => by rw [List.length_set]; exact hl j (by simp [hj])) (fun j hj => hk j (by simp [hj]))
    refine ⟨o, ?_, by rw [hol, List.length_set], fun j => ?_⟩
    · show (if byOk n der i then _ else none) = _
      rw [if_pos (hk i (by simp))]
      exact ho
    · rw [hog, getD_set _ _ _ _ hi]
      by_cases e : j = i
      · subst e
        rw [if_pos rfl, if_neg h1, if_pos (by simp), Nat.xor_zero]
      · rw [if_neg e]
        by_cases hj : j ∈ L
        · rw [if_pos hj, if_pos (by simp [hj])]
        · rw [if_neg hj, if_neg (by simp [e, hj])]
theorem synd_getD (word : List Nat) (p j : Nat) (hj : j < p) : (synd word p).getD j 0 = peval (gexp j) word := by
  unfold synd powers
  rw [List.map_map, List.getD_eq_getElem?_getD, List.getElem?_map, List.getElem?_range hj]; rfl
theorem peval_places {l : List Nat} (h : bytesL l) (j : Nat) : peval (gexp j) l = LS (fun i => gmul (l.getD i 0) (gexp (ex l.length i * j))) (List.range l.length) := by
  rw [peval_XS _ h, XS_rev, LS_range]
  apply XS_congr
  intro i hi
  rw [co_getD l _ (by omega), gp_exp, show l.length - 1 - (l.length - 1 - i) = i from by omega]
  rfl
/-- The places at which two words differ, those left out that are erased. -/
def offP (n : Nat) (E a b : List Nat) : List Nat := (List.range n).filter fun i => !(E.contains i) && decide (a.getD i 0 ≠ b.getD i 0)
theorem xor_zero_iff (a b : Nat) : a ^^^ b ≠ 0 ↔ a ≠ b := by
  constructor
  · intro h e; exact h (by rw [e, Nat.xor_self])
  · exact xor_ne
theorem list_ext {a b : List Nat} (hl : a.length = b.length) (h : ∀ i, a.getD i 0 = b.getD i 0) : a = b := by
  apply List.ext_getElem hl
  intro i h1 h2
  have := h i
  rwa [getD_of _ _ h1, getD_of _ _ h2] at this
theorem mend_finds {n p : Nat} (hn : n ≤ 255) {E : List Nat} (hEn : E.Nodup) (hE : ∀ i ∈ E, i < n) {word w : List Nat} (hbw : bytesL word) (hb : bytesL w) (hl1 : word.length = n) (hl2 : w.length = n) (hr : rightB w p = true)
    (hp : E.length + 2 * (offP n E word w).length ≤ p) :
    mendL n p (synd word p) E (srRun (synd word p) E.length (eraL n E) (p - E.length)).loc word ((srRun (synd word p) E.length (eraL n E) (p - E.length)).l : Nat) = some w := by
  have hY : ∀ i, word.getD i 0 ^^^ w.getD i 0 < 256 := fun i => xor_lt (getD_lt hbw i) (getD_lt hb i)
  have hXe : offP n E word w = (List.range n).filter fun i => !(E.contains i) && decide (word.getD i 0 ^^^ w.getD i 0 ≠ 0) := by
    unfold offP
    apply List.filter_congr
    intro i _
    congr 1
    rw [decide_eq_decide]
    exact (xor_zero_iff _ _).symm
  generalize offP n E word w = X at *
  have hs : ∀ j, j < p → (synd word p).getD j 0 = LS (fun i => gmul (word.getD i 0 ^^^ w.getD i 0) (gexp (ex n i * j))) (List.range n) := by
    intro j hj
    have h0 := synd_zero hr j hj
    rw [peval_places hb, hl2] at h0
    rw [synd_getD _ _ _ hj, peval_places hbw, hl1]
    refine ((Nat.xor_zero _).symm.trans (congrArg _ h0.symm)).trans ?_
    rw [← LS_add]
    exact LS_congr _ fun i _ => (xor_gmul _ _ _ (gexp_lt _) (getD_lt hbw i) (getD_lt hb i)).symm
  have hI := BmI.run hn hY hE hXe hs (p - E.length) (by omega)
  rw [show E.length + (p - E.length) = p from by omega] at hI
  obtain ⟨hL, hroot, honly⟩ := hI.end hn hEn hE hXe hp
  generalize srRun (synd word p) E.length (eraL n E) (p - E.length) = R at *
  have hC := hI.c1
  have hcl := hI.cl
  have hX1 : ∀ i ∈ X, i < n ∧ i ∉ E ∧ word.getD i 0 ^^^ w.getD i 0 ≠ 0 := fun i hi => by
    rw [hXe, List.mem_filter, List.mem_range, Bool.and_eq_true, Bool.not_eq_true', decide_eq_true_eq] at hi
    refine ⟨hi.1, fun he => ?_, hi.2.2⟩
    rw [List.contains_iff_mem.2 he] at hi
    cases hi.2.1
  have hX2 : ∀ i, i < n → word.getD i 0 ^^^ w.getD i 0 ≠ 0 → i ∈ E ++ X := fun i hi h => by
    by_cases he : i ∈ E
    · exact List.mem_append.2 (.inl he)
    · refine List.mem_append.2 (.inr ?_)
      rw [hXe, List.mem_filter, List.mem_range, Bool.and_eq_true, Bool.not_eq_true', decide_eq_true_eq]
      refine ⟨hi, ?_, h⟩
      cases hc : E.contains i with
      | false => rfl
      | true => exact absurd (List.contains_iff_mem.1 hc) he
  have hXn : X.Nodup := by rw [hXe]; exact List.Pairwise.filter _ List.nodup_range
  have hVn : (E ++ X).Nodup := List.nodup_append.2 ⟨hEn, hXn, fun a ha b hb e => (hX1 b hb).2.1 (e ▸ ha)⟩
  have hVm : ∀ i ∈ E ++ X, i < n := fun i hi => by
    rcases List.mem_append.1 hi with hi | hi
    · exact hE i hi
    · exact (hX1 i hi).1
  have hPn : (plsL n R.loc n).Nodup := List.Pairwise.filter _ List.nodup_range
  have hPm : ∀ i, i ∈ plsL n R.loc n ↔ i ∈ E ++ X := by
    intro i
    unfold plsL isPl
    rw [List.mem_filter, List.mem_range, decide_eq_true_eq]
    constructor
    · rintro ⟨h1, h2⟩
      rw [inv_plc hn h1] at h2
      exact honly i h1 h2
    · intro h1
      have h2 := hVm i h1
      exact ⟨h2, by rw [inv_plc hn h2]; exact hroot i h1⟩
  have hperm : List.Perm (plsL n R.loc n) (E ++ X) := (List.perm_ext_iff_of_nodup hPn hVn).2 hPm
  have hun : unlN E (plsL n R.loc n) = X.length := by
    unfold unlN
    rw [hperm.countP_eq, List.countP_append]
    have h1 : E.countP (fun i => !(E.contains i)) = 0 := by
      rw [List.countP_eq_zero]
      intro a ha
      rw [List.contains_iff_mem.2 ha]
      decide
    have h2 : X.countP (fun i => !(E.contains i)) = X.length := by
      rw [List.countP_eq_length]
      intro a ha
      cases hc : E.contains a with
      | false => rfl
      | true => exact absurd (List.contains_iff_mem.1 hc) (hX1 a ha).2.1
    rw [h1, h2, Nat.zero_add]
  have hlen : (plsL n R.loc n).length = R.l := by rw [hperm.length_eq, List.length_append, hL]
  unfold mendL
  rw [hun, hlen, if_neg (by omega)]
  have hVl : (E ++ X).length = R.l := by rw [List.length_append, hL]
  have hq : ∀ i, i ∈ E ++ X → qv (gexp (ex n i)) R.loc (px n i) (2 * (p + 1)) = gmul (px n i) (valL (derL R.loc) (px n i)) ∧ qv (gexp (ex n i)) R.loc (px n i) (2 * (p + 1)) ≠ 0 ∧ valL (omL (synd word p) R.loc p) (px n i) = gmul (word.getD i 0 ^^^ w.getD i 0) (qv (gexp (ex n i)) R.loc (px n i) (2 * (p + 1))) := by
    intro i hi
    have hin := hVm i hi
    refine ⟨qv_der hC (px_lt _ _) (px_mul hn hin) (p + 1) (by omega), ?_, ?_⟩
    · rw [qv_more hn hin hC (hroot i hi) (px n i) (N := (E ++ X).length) (by omega) (by omega)]
      exact qv_ne hn hC hI.c0 hVn hVm hroot (by omega) hi
    · rw [om_val hn hY hs hC (by omega) (fun k hk h => hroot k (hX2 k hk h)) hin (hroot i hi), qv_more hn hin hC (hroot i hi) (px n i) (N := p) (M := 2 * (p + 1)) (by omega) (by omega)]
  have hok : ∀ i ∈ plsL n R.loc n, byOk n (derL R.loc) i = true := by
    intro i hi
    have hi' := (hPm i).1 hi
    obtain ⟨h1, h2, h3⟩ := hq i hi'
    unfold byOk
    rw [inv_plc hn (hVm i hi'), decide_eq_true_eq]
    intro h0
    rw [h0, gmul_zero] at h1
    exact h2 h1
  have hby : ∀ i ∈ plsL n R.loc n, byV n (omL (synd word p) R.loc p) (derL R.loc) i = word.getD i 0 ^^^ w.getD i 0 := by
    intro i hi
    have hi' := (hPm i).1 hi
    have hin := hVm i hi'
    obtain ⟨h1, h2, h3⟩ := hq i hi'
    have hd : valL (derL R.loc) (px n i) ≠ 0 := fun h0 => by rw [h0, gmul_zero] at h1; exact h2 h1
    unfold byV
    rw [inv_plc hn hin, if_neg hd, h3, h1, plc_ex hin]
    rw [show gmul (gexp (ex n i)) (gmul (gmul (word.getD i 0 ^^^ w.getD i 0) (gmul (px n i) (valL (derL R.loc) (px n i)))) (ginv (valL (derL R.loc) (px n i)))) = gmul (gmul (word.getD i 0 ^^^ w.getD i 0) (gmul (gexp (ex n i)) (px n i))) (gmul (valL (derL R.loc) (px n i)) (ginv (valL (derL R.loc) (px n i)))) from by simp only [gmul_comm, gmul_left_comm, gmul_assoc], px_mul hn hin, gmul_ginv _ hd, gmul_one _ (hY i), gmul_one _ (hY i)]
  obtain ⟨o, ho, hol, hog⟩ := fixL_some n (omL (synd word p) R.loc p) (derL R.loc) (plsL n R.loc n) word hPn (fun i hi => by rw [hl1]; exact plsL_mem hi) hok
  rw [ho]
  congr 1
  apply list_ext (by rw [hol, hl1, hl2])
  intro i
  rw [hog]
  by_cases hi : i ∈ plsL n R.loc n
  · rw [if_pos hi, hby i hi, ← Nat.xor_assoc, Nat.xor_self, Nat.zero_xor]
  · rw [if_neg hi, Nat.xor_zero]
    by_cases hin : i < n
    · by_cases h : word.getD i 0 = w.getD i 0
      · exact h
      · exact absurd ((hPm i).2 (hX2 i hin ((xor_zero_iff _ _).2 h))) hi
    · rw [getD_ge _ _ (by omega), getD_ge _ _ (by omega)]
end Tri

namespace Tri
open Go
theorem get_bang (l : List Int) (i : Nat) (h : i < l.length) : l.toArray[i]! = l[i] := by simp [h]
theorem compact_eq (l : List Int) : Lib.compact l = ((List.range l.length).filter (Lib.keeps l.toArray)).map (l.toArray[·]!) := rfl
theorem compact_mem (l : List Int) (x : Int) : x ∈ Lib.compact l ↔ x ∈ l := by
  rw [compact_eq, List.mem_map]
  constructor
  · rintro ⟨i, hi, rfl⟩
    have hi := List.mem_range.1 (List.mem_filter.1 hi).1
    rw [get_bang l i hi]
    exact List.getElem_mem hi
  · intro hx
    obtain ⟨j, hj, rfl⟩ := List.getElem_of_mem hx
    induction j with
    | zero => exact ⟨0, List.mem_filter.2 ⟨List.mem_range.2 hj, by simp [Lib.keeps]⟩, get_bang l 0 hj⟩
    | succ j ih =>
      by_cases h : l[j + 1] = l[j]
      · rw [h]
        exact ih (by omega) (List.getElem_mem _)
      · refine ⟨j + 1, List.mem_filter.2 ⟨List.mem_range.2 hj, ?_⟩, get_bang l _ hj⟩
        unfold Lib.keeps
        rw [decide_eq_true_eq]
        right
        rw [get_bang l _ hj, show j + 1 - 1 = j from rfl, get_bang l _ (by omega)]
        exact h
theorem compact_sorted (l : List Int) (h : l.Pairwise (· ≤ ·)) : (Lib.compact l).Pairwise (· < ·) := by
  rw [compact_eq, List.pairwise_map]
  refine List.Pairwise.imp_of_mem ?_ (List.Pairwise.filter _ List.pairwise_lt_range)
  intro i j hi hj hij
  have hi' := List.mem_range.1 (List.mem_filter.1 hi).1
  have hj' := List.mem_range.1 (List.mem_filter.1 hj).1
  have hk := (List.mem_filter.1 hj).2
  unfold Lib.keeps at hk
  rw [decide_eq_true_eq, get_bang l _ hj', get_bang l _ (by omega)] at hk
  rw [get_bang l _ hi', get_bang l _ hj']
  have h1 : l[j - 1] ≤ l[j] := List.pairwise_iff_getElem.1 h (j - 1) j (by omega) hj' (by omega)
  have h2 : l[i] ≤ l[j - 1] := by
    by_cases e : i = j - 1
    · subst e; exact Int.le_refl _
    · exact List.pairwise_iff_getElem.1 h i (j - 1) hi' (by omega) (by omega)
  rcases hk with hk | hk
  · omega
  · omega
/-- The places that are erased, in order, each once. -/
def sortI (l : List Int) : List Int := l.mergeSort fun x y => decide (x ≤ y)
theorem sortI_sorted (l : List Int) : (sortI l).Pairwise (· ≤ ·) := by
  have := List.pairwise_mergeSort (le := fun x y : Int => decide (x ≤ y)) (fun a b c h1 h2 => by rw [decide_eq_true_eq] at *; omega) (fun a b => by rw [Bool.or_eq_true, decide_eq_true_eq, decide_eq_true_eq]; omega) l
  exact this.imp fun h => of_decide_eq_true h
theorem sortI_mem (l : List Int) (x : Int) : x ∈ sortI l ↔ x ∈ l := List.mem_mergeSort
theorem sortI_length (l : List Int) : (sortI l).length = l.length := List.length_mergeSort l
def eraZ (l : List Int) : List Nat := (Lib.compact (sortI l)).map Int.toNat
theorem eraZ_mem {l : List Int} (h : ∀ x ∈ l, 0 ≤ x) (i : Nat) : i ∈ eraZ l ↔ (i : Int) ∈ l := by
  unfold eraZ
  rw [List.mem_map]
  constructor
  · rintro ⟨x, hx, rfl⟩
    rw [compact_mem, sortI_mem] at hx
    rwa [Int.toNat_of_nonneg (h x hx)]
  · intro hx
    exact ⟨(i : Int), by rw [compact_mem, sortI_mem]; exact hx, Int.toNat_natCast i⟩
theorem eraZ_sorted {l : List Int} (h : ∀ x ∈ l, 0 ≤ x) : (eraZ l).Pairwise (· < ·) := by
  unfold eraZ
  rw [List.pairwise_map]
  refine List.Pairwise.imp_of_mem ?_ (compact_sorted _ (sortI_sorted l))
  intro a b ha hb hab
  rw [compact_mem, sortI_mem] at ha hb
  have := h a ha
  have := h b hb
  omega
theorem eraZ_nodup {l : List Int} (h : ∀ x ∈ l, 0 ≤ x) : (eraZ l).Nodup := (eraZ_sorted h).imp fun h => Nat.ne_of_lt h
theorem eraZ_cast {l : List Int} (h : ∀ x ∈ l, 0 ≤ x) : (eraZ l).map (fun x => ((x : Nat) : Int)) = Lib.compact (sortI l) := by
  unfold eraZ
  rw [List.map_map]
  have : ∀ (m : List Int), (∀ x ∈ m, 0 ≤ x) → m.map ((fun x : Nat => (x : Int)) ∘ Int.toNat) = m := by
    intro m
    induction m with
    | nil => intro _; rfl
    | cons a m ih => intro hm; rw [List.map_cons, ih fun x hx => hm x (by simp [hx])]; congr 1; exact Int.toNat_of_nonneg (hm a (by simp))
  exact this _ fun x hx => by rw [compact_mem, sortI_mem] at hx; exact h x hx
theorem eraZ_length_le (l : List Int) : (eraZ l).length ≤ l.length := by
  unfold eraZ
  rw [List.length_map, compact_eq, List.length_map]
  refine Nat.le_trans (List.length_filter_le _ _) ?_
  rw [List.length_range, sortI_length]
  exact Nat.le_refl _
theorem sorted_ext {a b : List Nat} (ha : a.Pairwise (· < ·)) (hb : b.Pairwise (· < ·)) (h : ∀ i, i ∈ a ↔ i ∈ b) : a = b := by
  have hp : List.Perm a b := (List.perm_ext_iff_of_nodup (ha.imp fun h => Nat.ne_of_lt h) (hb.imp fun h => Nat.ne_of_lt h)).2 h
  exact hp.eq_of_pairwise (le := (· < ·)) (fun x y _ _ h1 h2 => absurd h1 (Nat.lt_asymm h2)) ha hb
end Tri
