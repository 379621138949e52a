/-
  Divisors of polynomials and the greatest common one, in plain Lean. No program in sight.
-/
import Derived.Test.YtlipedigmokgbaaDivP
import Derived.Test.YtlipedigmokgbaaPolyR
namespace Tri
/-- Weights that are bytes. -/
def wts (W : Nat → Nat) : Prop := ∀ i, W i < 256
/-- A polynomial's weighted sums, at weights moved by k. -/
def sh (W : Nat → Nat) (d : List Nat) (k : Nat) : Nat := ev (fun m => W (m + k)) d
theorem sh_wts (W : Nat → Nat) (d : List Nat) : wts (sh W d) := fun _ => ev_lt _ _
theorem ev_ptwo_sh (W : Nat → Nat) (hW : wts W) {a : List Nat} (b : List Nat) (ha : bytesL a) : ev W (ptwo a b) = ev (sh W b) a := ev_ptwo W hW ha
/-- d goes into p without a rest. -/
def dvd (d p : List Nat) : Prop := ∃ q, bytesL q ∧ ∀ W, wts W → ev W p = ev (sh W d) q
theorem ev_of_co {l s t : List Nat} (hs : bytesL s) (ht : bytesL t) (h : ∀ i, co l i = co s i ^^^ co t i) (W : Nat → Nat) (hW : wts W) : ev W l = ev W s ^^^ ev W t := by
  obtain ⟨N, h1, h2, h3⟩ : ∃ N, l.length ≤ N ∧ s.length ≤ N ∧ t.length ≤ N := ⟨l.length + s.length + t.length, by omega, by omega, by omega⟩
  rw [ev_XS_more W l N h1, ev_XS_more W s N h2, ev_XS_more W t N h3]
  clear h1 h2 h3
  induction N with
  | zero => exact (Nat.xor_self 0).symm
  | succ n ih => rw [XS, XS, XS, ih, h n, xor_gmul _ _ _ (hW n) (co_lt hs n) (co_lt ht n), xor4]
theorem ev_same {l m : List Nat} (h : ∀ i, co l i = co m i) (W : Nat → Nat) : ev W l = ev W m := by
  obtain ⟨N, h1, h2⟩ : ∃ N, l.length ≤ N ∧ m.length ≤ N := ⟨l.length + m.length, by omega, by omega⟩
  rw [ev_XS_more W l N h1, ev_XS_more W m N h2]
  exact XS_congr _ fun i _ => by rw [h]
/-- A factor as a weighted sum. -/
theorem co_ev {l : List Nat} (hl : bytesL l) (i : Nat) : co l i = ev (fun j => if j = i then 1 else 0) l := by
  rw [ev_XS]
  have key : ∀ n, XS (fun j => gmul (co l j) (if j = i then 1 else 0)) n = if i < n then co l i else 0 := by
    intro n
    induction n with
    | zero => rfl
    | succ n ih =>
      rw [XS, ih]
      by_cases e : n = i
      · subst e; rw [if_pos rfl, if_neg (by omega), if_pos (by omega), Nat.zero_xor, gmul_one _ (co_lt hl n)]
      · rw [if_neg e, gmul_zero, Nat.xor_zero]
        by_cases h : i < n
        · rw [if_pos h, if_pos (by omega)]
        · rw [if_neg h, if_neg (by omega)]
  rw [key]
  split
  · rfl
  · exact co_ge l i (by omega)
theorem delta_wts (i : Nat) : wts (fun j => if j = i then 1 else 0) := fun j => by
  show (if j = i then 1 else 0) < 256
  split <;> decide
theorem padd2_bytes {s t : List Nat} (hs : bytesL s) (ht : bytesL t) : bytesL (padd [s, t]) := by
  have h : ∀ a ∈ [s, t], bytesL a := by
    intro a ha
    simp only [List.mem_cons, List.not_mem_nil, or_false] at ha
    rcases ha with rfl | rfl <;> assumption
  have := (addAll_take (longest [s, t]) [s, t] h [s, t].length (Nat.le_refl _)).2
  rw [List.take_length] at this
  exact trim_bytes this
theorem ev_padd2 {s t : List Nat} (hs : bytesL s) (ht : bytesL t) (W : Nat → Nat) (hW : wts W) : ev W (padd [s, t]) = ev W s ^^^ ev W t := by
  refine ev_of_co hs ht (fun i => ?_) W hW
  have h : ∀ a ∈ [s, t], bytesL a := by
    intro a ha
    simp only [List.mem_cons, List.not_mem_nil, or_false] at ha
    rcases ha with rfl | rfl <;> assumption
  have h1 := co_addAll (longest [s, t]) [s, t] h (fun a ha => longest_ge _ a ha) i 2 (Nat.le_refl _)
  unfold padd
  rw [co_trim]
  refine h1.trans ?_
  show 0 ^^^ co s i ^^^ co t i = _
  rw [Nat.zero_xor]
theorem IsDiv.evs {a b q r : List Nat} (h : IsDiv a b q r) (_ha : bytesL a) (W : Nat → Nat) (hW : wts W) : ev W a = ev (sh W b) q ^^^ ev W r := by
  have hb2 : ∀ i, co a i = co (ptwo q b) i ^^^ co r i := fun i => by rw [h.back, co_ptwo, h.qt]
  have hpb : bytesL (ptwo q b) := by
    unfold ptwo
    split
    · intro x hx; simp at hx
    · exact convTo_bytes (bytesL.zeros _) _ _ _
  rw [ev_of_co hpb h.rb hb2 W hW, ev_ptwo_sh W hW b h.qb]
theorem dvd_refl {a : List Nat} (ha : bytesL a) : dvd a a := by
  refine ⟨[1], fun y hy => by simp at hy; omega, fun W hW => ?_⟩
  show _ = gmul 1 (sh W a 0) ^^^ 0
  rw [Nat.xor_zero, one_gmul _ (sh_wts W a 0)]
  rfl
theorem dvd_nil (d : List Nat) : dvd d [] := ⟨[], fun y hy => by simp at hy, fun _ _ => rfl⟩
theorem dvd_mul {d b q : List Nat} (h : dvd d b) (hq : bytesL q) : ∃ s, bytesL s ∧ ∀ W, wts W → ev (sh W b) q = ev (sh W d) s := by
  obtain ⟨s, hs, he⟩ := h
  refine ⟨ptwo q s, ptwo_bytes hq hs, fun W hW => ?_⟩
  rw [ev_ptwo_sh _ (sh_wts W d) s hq]
  refine ev_congr q fun k _ => ?_
  show ev (fun m => W (m + k)) b = ev (fun m => sh W d (m + k)) s
  rw [he _ (fun m => hW _)]
  refine ev_congr s fun m _ => ?_
  exact ev_congr d fun j _ => by show W (j + m + k) = W (j + (m + k)); rw [Nat.add_assoc]
theorem dvd_sum {d : List Nat} {s t : List Nat} (hs : bytesL s) (ht : bytesL t) : ∃ u, bytesL u ∧ ∀ W, wts W → ev (sh W d) s ^^^ ev (sh W d) t = ev (sh W d) u :=
  ⟨padd [s, t], padd2_bytes hs ht, fun W _ => (ev_padd2 hs ht _ (sh_wts W d)).symm⟩
/-- What goes into divisor and rest goes into what is divided. -/
theorem IsDiv.dvd_whole {a b q r d : List Nat} (h : IsDiv a b q r) (ha : bytesL a) (h1 : dvd d b) (h2 : dvd d r) : dvd d a := by
  obtain ⟨s, hs, e1⟩ := dvd_mul h1 h.qb
  obtain ⟨t, ht, e2⟩ := h2
  obtain ⟨u, hu, e3⟩ := dvd_sum (d := d) hs ht
  exact ⟨u, hu, fun W hW => by rw [h.evs ha W hW, e1 W hW, e2 W hW, e3 W hW]⟩
theorem IsDiv.dvd_rest {a b q r d : List Nat} (h : IsDiv a b q r) (ha : bytesL a) (h1 : dvd d a) (h2 : dvd d b) : dvd d r := by
  obtain ⟨s, hs, e1⟩ := dvd_mul h2 h.qb
  obtain ⟨t, ht, e2⟩ := h1
  obtain ⟨u, hu, e3⟩ := dvd_sum (d := d) ht hs
  refine ⟨u, hu, fun W hW => ?_⟩
  have := h.evs ha W hW
  rw [e2 W hW, e1 W hW] at this
  rw [← e3 W hW, this, Nat.xor_comm (ev (sh W d) s), Nat.xor_assoc, Nat.xor_self, Nat.xor_zero]
theorem ptwo_len (a b : List Nat) (ha : trim a ≠ []) (hb : trim b ≠ []) : (ptwo a b).length + 1 = (trim a).length + (trim b).length := by
  have h1 : 0 < (trim a).length := List.length_pos_iff.2 ha
  unfold ptwo
  rw [if_neg (fun h => h.elim ha hb), convTo_length, List.length_replicate]
  omega
/-- What goes in leaves no rest. -/
theorem IsDiv.rest_nil {a b q r : List Nat} (h : IsDiv a b q r) (ha : bytesL a) (h1 : dvd b a) : r = [] := by
  obtain ⟨s, hs, e1⟩ := h1
  obtain ⟨u, hu, e2⟩ := dvd_sum (d := b) hs h.qb
  have he : ∀ W, wts W → ev W r = ev W (ptwo u b) := fun W hW => by
    rw [ev_ptwo_sh W hW b hu, ← e2 W hW]
    have := h.evs ha W hW
    rw [e1 W hW] at this
    rw [this, Nat.xor_comm (ev (sh W b) q), Nat.xor_assoc, Nat.xor_self, Nat.xor_zero]
  have hpb : bytesL (ptwo u b) := by
    unfold ptwo
    split
    · intro x hx; simp at hx
    · exact convTo_bytes (bytesL.zeros _) _ _ _
  have hco : ∀ i, co r i = co (ptwo u b) i := fun i => by rw [co_ev h.rb, co_ev hpb, he _ (delta_wts i)]
  have ht := trim_ext hco
  rw [h.rt, ptwo_trim] at ht
  by_cases hu0 : trim u = []
  · rw [ht]; unfold ptwo; rw [if_pos (.inl hu0)]
  · have hd := h.deg
    have hb0 : trim b ≠ [] := fun e => by rw [e] at hd; simp at hd
    have := ptwo_len u b hu0 hb0
    have h3 : 0 < (trim u).length := List.length_pos_iff.2 hu0
    rw [ht] at hd
    omega

/-- The greatest common divisor of two, before its first factor is made 1. -/
def gcdL (a b : List Nat) : Nat → List Nat
  | 0 => a
  | n + 1 => if b = [] then a else gcdL b (pdivmod a b).2 n
theorem gcdL_more (n : Nat) : ∀ (a b : List Nat) (m : Nat), bytesL a → bytesL b → trim b = b → b.length ≤ n → n ≤ m → gcdL a b m = gcdL a b n := by
  induction n with
  | zero =>
    intro a b m _ _ _ hb _
    have : b = [] := List.eq_nil_of_length_eq_zero (by omega)
    cases m with
    | zero => rfl
    | succ m => unfold gcdL; rw [if_pos this]
  | succ n ih =>
    intro a b m ha hbb hbt hb hm
    obtain ⟨m, rfl⟩ : ∃ k, m = k + 1 := ⟨m - 1, by omega⟩
    unfold gcdL
    by_cases h : b = []
    · rw [if_pos h, if_pos h]
    · rw [if_neg h, if_neg h]
      have hd := pdivmod_is ha hbb (by rw [hbt]; exact h)
      have := hd.deg
      rw [hbt] at this
      exact ih _ _ _ hbb hd.rb hd.rt (by omega) (by omega)
structure IsGcd (a b g : List Nat) : Prop where
  bytes : bytesL g
  tr : trim g = g
  left : dvd g a
  right : dvd g b
  most : ∀ d, dvd d a → dvd d b → dvd d g
  len : g.length ≤ max a.length b.length
theorem gcdL_is (n : Nat) : ∀ (a b : List Nat), bytesL a → bytesL b → trim a = a → trim b = b → b.length ≤ n → IsGcd a b (gcdL a b n) := by
  induction n with
  | zero =>
    intro a b ha hb hat _ hl
    have : b = [] := List.eq_nil_of_length_eq_zero (by omega)
    subst this
    exact ⟨ha, hat, dvd_refl ha, dvd_nil _, fun d h _ => h, Nat.le_max_left _ _⟩
  | succ n ih =>
    intro a b ha hb hat hbt hl
    unfold gcdL
    by_cases h : b = []
    · rw [if_pos h]; subst h
      exact ⟨ha, hat, dvd_refl ha, dvd_nil _, fun d h _ => h, Nat.le_max_left _ _⟩
    · rw [if_neg h]
      have hd := pdivmod_is ha hb (by rw [hbt]; exact h)
      have hdeg := hd.deg
      rw [hbt] at hdeg
      have hg := ih b (pdivmod a b).2 hb hd.rb hbt hd.rt (by omega)
      refine ⟨hg.bytes, hg.tr, hd.dvd_whole ha hg.left hg.right, hg.left, fun d h1 h2 => hg.most d h2 (hd.dvd_rest ha h1 h2), ?_⟩
      have := hg.len
      omega
def gcd2 (a b : List Nat) : List Nat := gcdL a b b.length
theorem gcd2_nil (a : List Nat) : gcd2 a [] = a := rfl
theorem gcd2_step {a b : List Nat} (ha : bytesL a) (hb : bytesL b) (hbt : trim b = b) (h : b ≠ []) : gcd2 a b = gcd2 b (pdivmod a b).2 := by
  have hd := pdivmod_is ha hb (by rw [hbt]; exact h)
  have hdeg := hd.deg
  rw [hbt] at hdeg
  unfold gcd2
  obtain ⟨m, hm⟩ : ∃ m, b.length = m + 1 := ⟨b.length - 1, by omega⟩
  rw [hm]
  show (if b = [] then a else gcdL b (pdivmod a b).2 m) = _
  rw [if_neg h]
  exact gcdL_more _ _ _ _ hb hd.rb hd.rt (Nat.le_refl _) (by omega)
theorem gcd2_is {a b : List Nat} (ha : bytesL a) (hb : bytesL b) (hat : trim a = a) (hbt : trim b = b) : IsGcd a b (gcd2 a b) := gcdL_is _ a b ha hb hat hbt (Nat.le_refl _)
/-- Of many. -/
def gcds (l : List (List Nat)) : List Nat := l.foldl (fun out b => gcd2 out (trim b)) []
theorem gcds_snoc (l : List (List Nat)) (a : List Nat) : gcds (l ++ [a]) = gcd2 (gcds l) (trim a) := by unfold gcds; rw [List.foldl_append]; rfl
theorem dvd_trim {d a : List Nat} : dvd d (trim a) ↔ dvd d a := by
  constructor <;> rintro ⟨q, hq, h⟩
  · exact ⟨q, hq, fun W hW => by rw [← ev_trim, h W hW]⟩
  · exact ⟨q, hq, fun W hW => by rw [ev_trim, h W hW]⟩
theorem dvd_trans {a b c : List Nat} (h1 : dvd a b) (h2 : dvd b c) : dvd a c := by
  obtain ⟨q, hq, h⟩ := h2
  obtain ⟨s, hs, h3⟩ := dvd_mul h1 hq
  exact ⟨s, hs, fun W hW => by rw [h W hW, h3 W hW]⟩
theorem gcds_take (l : List (List Nat)) (hb : ∀ a ∈ l, bytesL a) (m : Nat) (hm : ∀ a ∈ l, a.length ≤ m) : ∀ k, k ≤ l.length →
    bytesL (gcds (l.take k)) ∧ trim (gcds (l.take k)) = gcds (l.take k) ∧ (gcds (l.take k)).length ≤ m ∧ (∀ a ∈ l.take k, dvd (gcds (l.take k)) a) ∧ (∀ d, (∀ a ∈ l.take k, dvd d a) → dvd d (gcds (l.take k))) := by
  intro k
  induction k with
  | zero =>
    intro _
    exact ⟨fun x hx => by simp [gcds] at hx, rfl, Nat.zero_le _, fun a ha => by simp at ha, fun d _ => dvd_nil d⟩
  | succ k ih =>
    intro hk
    obtain ⟨h1, h2, h3, h4, h5⟩ := ih (by omega)
    have hmem : l.getD k [] ∈ l := by rw [List.getD_eq_getElem?_getD, List.getElem?_eq_getElem (by omega)]; exact List.getElem_mem _
    rw [take_snocR l k (by omega), gcds_snoc]
    have hl := hm _ hmem
    have hbb := hb _ hmem
    generalize l.getD k [] = b at *
    generalize gcds (l.take k) = g at *
    have hg := gcd2_is h1 (trim_bytes hbb) h2 (trim_trim b)
    have hgl := hg.len
    have htl := trim_length_le b
    refine ⟨hg.bytes, hg.tr, by omega, ?_, ?_⟩
    · intro a ha
      rcases List.mem_append.1 ha with h | h
      · exact dvd_trans hg.left (h4 a h)
      · simp only [List.mem_singleton] at h; subst h
        exact dvd_trim.1 hg.right
    · intro d hd
      exact hg.most d (h5 d fun a ha => hd a (List.mem_append_left _ ha)) (dvd_trim.2 (hd b (by simp)))
/-- Its first factor made 1. -/
def pmonic (a : List Nat) : List Nat := if a = [] then [] else ptwo a [ginv (a.getD 0 0)]
theorem ev_scale (W : Nat → Nat) (hW : wts W) {g : List Nat} (hg : bytesL g) (c : Nat) (hc : c < 256) : ev W (ptwo g [c]) = gmul c (ev W g) := by
  rw [ev_ptwo_sh W hW _ hg]
  have : ∀ k, sh W [c] k = gmul c (W k) := fun k => by
    show gmul c (W (0 + k)) ^^^ 0 = _
    rw [Nat.zero_add, Nat.xor_zero]
  rw [ev_congr g fun k _ => this k, ev_mul c hc]
theorem one_bytes {c : Nat} (hc : c < 256) : bytesL [c] := fun y hy => by simp only [List.mem_singleton] at hy; omega
theorem dvd_scale_left {g p : List Nat} (hg : bytesL g) {c : Nat} (hc : c < 256) (h0 : c ≠ 0) (h : dvd g p) : dvd (ptwo g [c]) p := by
  obtain ⟨s, hs, e⟩ := h
  refine ⟨ptwo s [ginv c], ptwo_bytes hs (one_bytes (ginv_lt _)), fun W hW => ?_⟩
  rw [ev_scale _ (sh_wts _ _) hs _ (ginv_lt _), e W hW]
  have : ∀ k, sh W (ptwo g [c]) k = gmul c (sh W g k) := fun k => ev_scale _ (fun m => hW _) hg c hc
  rw [ev_congr s fun k _ => this k, ev_mul c hc, ← gmul_assoc, gmul_comm (ginv c), gmul_ginv c h0, one_gmul _ (ev_lt _ _)]
theorem dvd_scale_right {d g : List Nat} (hg : bytesL g) {c : Nat} (hc : c < 256) (h : dvd d g) : dvd d (ptwo g [c]) := by
  obtain ⟨s, hs, e⟩ := h
  refine ⟨ptwo s [c], ptwo_bytes hs (one_bytes hc), fun W hW => ?_⟩
  rw [ev_scale _ (sh_wts _ _) hs _ hc, ev_scale W hW hg c hc, e W hW]
theorem ptwo_head (A B : List Nat) (hA : A.getD 0 0 ≠ 0) (hB : B.getD 0 0 ≠ 0) : (ptwo A B).getD 0 0 = gmul (A.getD 0 0) (B.getD 0 0) := by
  have hA0 : 0 < A.length := by cases A with | nil => exact absurd rfl hA | cons => simp
  have hB0 : 0 < B.length := by cases B with | nil => exact absurd rfl hB | cons => simp
  unfold ptwo
  rw [trim_nz A hA, trim_nz B hB, if_neg (by intro h; rcases h with h | h; · rw [h] at hA0; simp at hA0
                                             · rw [h] at hB0; simp at hB0)]
  rw [getD_convTo _ _ _ _ (by rw [List.length_replicate]; omega), getD_zeros, Nat.zero_xor]
  obtain ⟨m, hm⟩ : ∃ m, A.length = m + 1 := ⟨A.length - 1, by omega⟩
  rw [hm, XS_first, XS_zero (fun i => cvt (fun i => A.getD i 0) (fun i => B.getD i 0) 0 (i + 1)) m (fun i _ => by unfold cvt; rw [if_neg (by omega)]), Nat.xor_zero]
  unfold cvt
  rw [if_pos (Nat.le_refl _)]
theorem pmonic_is {g : List Nat} (hg : bytesL g) (ht : trim g = g) (h0 : g ≠ []) : bytesL (pmonic g) ∧ trim (pmonic g) = pmonic g ∧ pmonic g ≠ [] ∧ (pmonic g).getD 0 0 = 1 ∧ (pmonic g).length = g.length ∧
    (∀ p, dvd g p → dvd (pmonic g) p) ∧ (∀ d, dvd d g → dvd d (pmonic g)) := by
  have hh : g.getD 0 0 ≠ 0 := by have := trim_head g (by rw [ht]; exact h0); rwa [ht] at this
  have hi := ginv_lt (g.getD 0 0)
  have hi0 := ginv_ne (g.getD 0 0)
  have hlin : trim [ginv (g.getD 0 0)] = [ginv (g.getD 0 0)] := by unfold trim; rw [if_neg hi0]
  have hlen := ptwo_len g [ginv (g.getD 0 0)] (by rw [ht]; exact h0) (by rw [hlin]; simp)
  rw [ht, hlin] at hlen
  have hhead := ptwo_head g [ginv (g.getD 0 0)] hh hi0
  have hg1 : gmul (g.getD 0 0) (ginv (g.getD 0 0)) = 1 := gmul_ginv _ hh
  have hpos : 0 < g.length := List.length_pos_iff.2 h0
  unfold pmonic
  rw [if_neg h0]
  simp only [List.length_singleton] at hlen
  refine ⟨ptwo_bytes hg (one_bytes hi), ptwo_trim _ _, fun e => by have := congrArg List.length e; simp only [List.length_nil] at this; omega, by rw [hhead]; exact hg1, by omega, fun p h => dvd_scale_left hg hi hi0 h, fun d h => dvd_scale_right hg hi h⟩
/-- Nothing but 0 is a multiple of 0. -/
theorem dvd_zero {p : List Nat} (hp : bytesL p) (h : dvd [] p) : trim p = [] := by
  obtain ⟨s, hs, e⟩ := h
  have : ∀ i, co p i = co [] i := fun i => by
    rw [co_ev hp, e _ (delta_wts i)]
    show ev (fun _ => 0) s = _
    rw [ev_zero, co_ge [] i (Nat.zero_le _)]
  exact (trim_ext this).trans rfl
theorem dvd_ptwo {q b : List Nat} (hq : bytesL q) : dvd b (ptwo q b) := ⟨q, hq, fun W hW => ev_ptwo_sh W hW b hq⟩
end Tri
