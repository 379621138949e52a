/-
  The document's polynomials (the reference): back to bytes, alike or not, sums.
  The document's own products (the reference) are those of the tables. Conditions: factors are bytes.
  The document's polynomials (the reference): products.
  Values of polynomials in plain Lean: of sums, products and shifts. No program in sight.
  The document's polynomials (the reference): values and derivatives.
  The factors of sums, products and derivatives in plain Lean: the program's are the document's. No program in sight.
  Weighted sums of factors, values of derivatives, and the polynomial of some roots, in plain Lean. No program in sight.
  Codes: what is told of one in memory; a new one in the program.
-/
import Derived.Test.YtgckhekikcdaiaaPak3
import Derived.Test.YtgckhekikcdaiaaPak2
namespace Tri
def raddL (a b : List Nat) : List Nat := (List.range (max a.length b.length)).map fun i => a.getD i 0 ^^^ b.getD i 0
def radd (a b : List Nat) : List Nat := cutR (raddL a b)
theorem cutR_bytes {l : List Nat} (h : bytesL l) : bytesL (cutR l) := fun x hx => h x (cutR_mem l x hx)
theorem rev_bytes {l : List Nat} (h : bytesL l) : bytesL l.reverse := fun x hx => h x (List.mem_reverse.1 hx)
theorem bytesL_getD {l : List Nat} (h : bytesL l) (k : Nat) : l.getD k 0 < 256 := by
  by_cases hk : k < l.length
  · rw [List.getD_eq_getElem?_getD, List.getElem?_eq_getElem hk]; exact h _ (List.getElem_mem hk)
  · rw [List.getD_eq_getElem?_getD, List.getElem?_eq_none (by omega)]; exact (by decide : (0 : Nat) < 256)
theorem raddL_bytes {a b : List Nat} (ha : bytesL a) (hb : bytesL b) : bytesL (raddL a b) := by
  intro x hx
  unfold raddL at hx
  obtain ⟨i, _, rfl⟩ := List.mem_map.1 hx
  exact xor_lt (bytesL_getD ha i) (bytesL_getD hb i)
theorem radd_bytes {a b : List Nat} (ha : bytesL a) (hb : bytesL b) : bytesL (radd a b) := cutR_bytes (raddL_bytes ha hb)
theorem raddL_length (a b : List Nat) : (raddL a b).length = max a.length b.length := by unfold raddL; simp
theorem radd_length (a b : List Nat) : (radd a b).length ≤ max a.length b.length := by
  have := cutR_length_le (raddL a b)
  rw [raddL_length] at this
  exact this
theorem raddL_take (a b : List Nat) (k : Nat) (h : k < max a.length b.length) : (raddL a b).take (k + 1) = (raddL a b).take k ++ [a.getD k 0 ^^^ b.getD k 0] := by
  rw [List.take_succ_eq_append_getElem (by rw [raddL_length]; exact h)]
  congr 2
  unfold raddL
  simp
end Tri
namespace Go.Proofs.Ytgckhekikcdaiaa
open Go.RowKit Tri

end Go.Proofs.Ytgckhekikcdaiaa

namespace Go.Proofs.Ytgckhekikcdaiaa
open Go.RowKit Tri

theorem bit_int (b k : Nat) : (((b : Int) / 2 ^ k).tmod 2 == 1) = decide ((b >>> k) % 2 = 1) := by
  have h : ((b : Int) / 2 ^ k) = ((b / 2 ^ k : Nat) : Int) := by simp
  rw [h, Nat.shiftRight_eq_div_pow]
  generalize b / 2 ^ k = m
  rw [Int.tmod_eq_emod_of_nonneg (by omega)]
  by_cases e : m % 2 = 1
  · rw [decide_eq_true e]; simp; omega
  · rw [decide_eq_false e]; simp; omega
theorem shl_lt (a k n : Nat) (ha : a < 2 ^ n) (B : Nat) (h : n + k ≤ B) : a <<< k < 2 ^ B := by
  rw [Nat.shiftLeft_eq]
  calc a * 2 ^ k < 2 ^ n * 2 ^ k := Nat.mul_lt_mul_of_pos_right ha (Nat.two_pow_pos k)
    _ = 2 ^ (n + k) := (Nat.pow_add 2 n k).symm
    _ ≤ 2 ^ B := Nat.pow_le_pow_right (by omega) h
theorem xor_shl (q a k n : Nat) (hq : q < 2 ^ 62) (ha : a < 2 ^ n) (hk : n + k ≤ 62) :
    bits .xor .i64 (q : Int) (wrap64 ((a : Int) * 2 ^ k)) = ((q ^^^ (a <<< k) : Nat) : Int) := by
  have h := shl_lt a k n ha 62 hk
  have e : wrap64 ((a : Int) * 2 ^ k) = ((a <<< k : Nat) : Int) := by
    rw [Nat.shiftLeft_eq]
    rw [Nat.shiftLeft_eq] at h
    have e2 : ((a * 2 ^ k : Nat) : Int) = (a : Int) * 2 ^ k := by simp
    rw [← e2]
    generalize a * 2 ^ k = m at *
    unfold wrap64
    omega
  rw [e, i64_xor_nat _ _ hq h]

set_option maxHeartbeats 400000 in
theorem ref_Mul (a b : Nat) (ha : a < 256) (hb : b < 256) (w : World) :
    Calls Try.prog 43 #[.int .i64 a, .int .i64 b] w fun e w' => e = .returned (.int .i64 (gmul a b)) ∧ w = w' := by
  have hfin : Hid (rred 7 (rsum a b 8 0) = gmul a b) := rmul_eq a b ha hb
  go_enter Try.func43, Try.ntmps43
  go_wp2
  go_loop [5, 6] (fun p i => ∃ k : Nat, ∃ q : Nat, k ≤ 8 ∧ i = .int .i64 k ∧ p = .int .i64 q ∧ q < 32768 ∧ rsum a b (8 - k) q = rsum a b 8 0) (fun _ i => 8 - (intOf i).toNat)
  case atStart => exact ⟨0, 0, by omega, rfl, rfl, by omega, rfl⟩
  case round =>
    obtain ⟨k, q, hk, rfl, rfl, hq, hr⟩ := hrel
    have HR := hid hr
    clear hr
    by_cases hlt : k < 8
    · have hx := xor_shl q a k 8 (by omega) (by omega) (by omega)
      have hl : a <<< k < 2 ^ 15 := shl_lt a k 8 ha 15 (by omega)
      have hs : Hid (rsum a b (8 - k) q = rsum a b (8 - (k + 1)) (if (b >>> k) % 2 = 1 then q ^^^ (a <<< k) else q)) := by
        show rsum a b (8 - k) q = _
        rw [show 8 - k = (8 - (k + 1)) + 1 from by omega]
        simp only [rsum]
        rw [show 7 - (8 - (k + 1)) = k from by omega]
      have hb' := bit_int b k
      have hxl : q ^^^ (a <<< k) < 32768 := Nat.xor_lt_two_pow (n := 15) hq hl
      generalize q ^^^ (a <<< k) = q' at *
      by_cases hbit : (b >>> k) % 2 = 1
      · rw [decide_eq_true hbit] at hb'
        have Hb := hid hbit
        clear hbit hl
        go_wp2
        go_round
        case rel => exact ⟨k + 1, q', by omega, by go_num, rfl, hxl, by rw [← HR.out, hs.out, if_pos Hb.out]⟩
        case measure => simp [intOf]; omega
      · rw [decide_eq_false hbit] at hb'
        have Hb := hid hbit
        clear hbit hl
        go_wp2
        go_round
        case rel => exact ⟨k + 1, q, by omega, by go_num, rfl, hq, by rw [← HR.out, hs.out, if_neg Hb.out]⟩
        case measure => simp [intOf]; omega
    · obtain rfl : k = 8 := by omega
      have hq0 : Hid (q = rsum a b 8 0) := (show rsum a b 0 q = rsum a b 8 0 from HR.out)
      clear HR hlt hk
      go_wp2
      go_loop [5, 7] (fun p i => ∃ k : Nat, ∃ q : Nat, k ≤ 7 ∧ i = .int .i64 (k + 7 : Nat) ∧ p = .int .i64 q ∧ q < 32768 ∧ rred k q = gmul a b) (fun _ i => (intOf i).toNat)
      case atStart => exact ⟨7, q, by omega, rfl, rfl, hq, by rw [hq0.out]; exact hfin.out⟩
      case round =>
        clear hq0 hfin hq
        obtain ⟨k, q, hk, rfl, rfl, hq, hr⟩ := hrel
        have HR := hid hr
        clear hr
        by_cases hpos : 0 < k
        · obtain ⟨j, rfl⟩ : ∃ j, k = j + 1 := ⟨k - 1, by omega⟩
          have hx : bits .xor .i64 (q : Int) (wrap64 (285 * 2 ^ j)) = ((q ^^^ (285 <<< j) : Nat) : Int) := xor_shl q 285 j 9 (by omega) (by omega) (by omega)
          have hl : 285 <<< j < 2 ^ 15 := shl_lt 285 j 9 (by omega) 15 (by omega)
          have hs : Hid (rred (j + 1) q = rred j (if (q >>> (j + 8)) % 2 = 1 then q ^^^ (285 <<< j) else q)) := rfl
          have hb' := bit_int q (j + 8)
          have hxl : q ^^^ (285 <<< j) < 32768 := Nat.xor_lt_two_pow (n := 15) hq hl
          have hj : ((j + 1 + 7 : Nat) : Int) = (j : Int) + 8 := by omega
          have ht : ((j : Int) + 8).toNat = j + 8 := by omega
          have ht2 : ((j : Int) + 8 - 8).toNat = j := by omega
          rw [hj]
          clear hj
          generalize q ^^^ (285 <<< j) = q' at *
          by_cases hbit : (q >>> (j + 8)) % 2 = 1
          · rw [decide_eq_true hbit] at hb'
            have Hb := hid hbit
            clear hbit hl
            go_wp2
            go_round
            case rel => exact ⟨j, q', by omega, by go_num, rfl, hxl, by rw [← HR.out, hs.out, if_pos Hb.out]⟩
            case measure => simp [intOf]; omega
          · rw [decide_eq_false hbit] at hb'
            have Hb := hid hbit
            clear hbit hl
            go_wp2
            go_round
            case rel => exact ⟨j, q, by omega, by go_num, rfl, hq, by rw [← HR.out, hs.out, if_neg Hb.out]⟩
            case measure => simp [intOf]; omega
        · obtain rfl : k = 0 := by omega
          have hq0 : Hid (q = gmul a b) := HR.out
          clear HR hpos
          go_wp2
          go_ret
          exact ⟨by rw [← hq0.out]; rfl, rfl⟩
end Go.Proofs.Ytgckhekikcdaiaa

namespace Tri
def rmulL (a b : List Nat) : List Nat := convTo (List.replicate (a.length + b.length + 1) 0) a b a.length
def rmulP (a b : List Nat) : List Nat := cutR (rmulL a b)
theorem rmulL_length (a b : List Nat) : (rmulL a b).length = a.length + b.length + 1 := by
  unfold rmulL; rw [convTo_length, List.length_replicate]
theorem rmulP_bytes (a b : List Nat) : bytesL (rmulP a b) :=
  cutR_bytes (convTo_bytes (fun x hx => by rw [List.mem_replicate] at hx; omega) _ _ _)
theorem rmulP_length (a b : List Nat) : (rmulP a b).length ≤ a.length + b.length + 1 := by
  have := cutR_length_le (rmulL a b)
  rw [rmulL_length] at this
  exact this
end Tri
namespace Go.Proofs.Ytgckhekikcdaiaa
open Go.RowKit Tri

def bufI (w : World) (b : Nat) (l : List Nat) : Prop := cellsI w (some ⟨b, 0, none⟩) l ∧ ∀ i, i < l.length → w.frozen? ⟨b, i, none⟩ = false
theorem bufI.drew {w : World} {b : Nat} {l : List Nat} (h : bufI w b l) : bufI w.drew b l := h
theorem bufI.at {w : World} {b : Nat} {l : List Nat} (h : bufI w b l) (i : Nat) (hi : i < l.length) : w.cell? ⟨b, i, none⟩ = some (.int .i64 (l.getD i 0 : Nat)) := by
  obtain ⟨a, o, e, hc⟩ := h.1 i hi
  simp only [Option.some.injEq, Addr.mk.injEq] at e
  obtain ⟨rfl, rfl, _⟩ := e
  rwa [Nat.zero_add] at hc
theorem cellsI.set {w : World} {b o : Nat} {l : List Nat} (h : cellsI w (some ⟨b, o, none⟩) l) (i x : Nat) (hi : i < l.length) :
    cellsI (w.setCell ⟨b, o + i, none⟩ (.int .i64 (x : Nat))) (some ⟨b, o, none⟩) (l.set i x) := by
  intro j hj
  rw [List.length_set] at hj
  obtain ⟨a', o', e, hc⟩ := h j hj
  simp only [Option.some.injEq, Addr.mk.injEq] at e
  obtain ⟨rfl, rfl, _⟩ := e
  refine ⟨_, _, rfl, ?_⟩
  by_cases e : i = j
  · subst e
    rw [World.cell?_setCell_same _ _ _ hc]
    simp [hi]
  · rw [World.cell?_setCell_other _ _ _ _ (by intro e'; simp [e] at e'), hc]
    simp [List.getD_eq_getElem?_getD, List.getElem?_set, e]
theorem bufI.set {w : World} {b : Nat} {l : List Nat} (h : bufI w b l) (i x : Nat) (hi : i < l.length) : bufI (w.setCell ⟨b, i, none⟩ (.int .i64 (x : Nat))) b (l.set i x) := by
  refine ⟨by have := h.1.set i x hi; rwa [Nat.zero_add] at this, fun j hj => ?_⟩
  rw [World.frozen?_setCell]
  exact h.2 j (by simpa using hj)
theorem bufI.made (w : World) (n : Nat) (t : TypeId) : bufI (w.alloc (.cells (madeCells #[Value.int .i64 0] n) t)) w.heap.size (List.replicate n 0) := by
  refine ⟨cellsI.new w _ _ _ ?_, fun i hi => ?_⟩
  · apply List.ext_getElem (by simp [madeCells])
    intro i h1 h2
    simp [madeCells, Nat.mod_one]
  · rw [frozen?_alloc_cells]
    unfold World.frozen?
    simp
def refV (ob n : Nat) (va vb : Value) (pa pb : Addr) (i k o x y : Nat) (j : Nat) (v : Value) (_w : World) : Prop := match j with
  | 0 | 4 => v = .slice (some ⟨ob, 0, none⟩) n n
  | 1 | 5 | 11 => v = .int .i64 (i : Nat)
  | 2 | 6 | 15 => v = .int .i64 (k : Nat)
  | 3 | 7 => v = .int .i64 ((i : Int) + (k : Int))
  | 8 | 20 => v = .pointer (some ⟨ob, i + k, none⟩)
  | 9 => v = .int .i64 (o : Nat)
  | 10 => v = va
  | 12 => v = .pointer (some pa)
  | 13 => v = .int .i64 (x : Nat)
  | 14 => v = vb
  | 16 => v = .pointer (some pb)
  | 17 => v = .int .i64 (y : Nat)
  | 18 => v = .int .i64 (gmul x y : Nat)
  | 19 => v = .int .i64 (o ^^^ gmul x y : Nat)
  | _ => True
theorem refV_st (ob n : Nat) (va vb : Value) (pa pb : Addr) (i k o x y : Nat) (j : Nat) (v : Value) (w w' : World) (_hb : Below w.heap.size w w') (h : refV ob n va vb pa pb i k o x y j v w) : refV ob n va vb pa pb i k o x y j v w' := h

end Go.Proofs.Ytgckhekikcdaiaa

namespace Tri
/-- Powers. -/
def gp (x : Nat) : Nat → Nat
  | 0 => 1
  | k + 1 => gmul (gp x k) x
theorem gp_lt (x k : Nat) : gp x k < 256 := by
  cases k with
  | zero => exact (by decide : (1 : Nat) < 256)
  | succ k => exact gmul_lt _ _
theorem bytesL.tail {a : Nat} {l : List Nat} (h : bytesL (a :: l)) : bytesL l := fun x hx => h x (List.mem_cons_of_mem _ hx)
theorem bytesL.head {a : Nat} {l : List Nat} (h : bytesL (a :: l)) : a < 256 := h a (by simp)
theorem bytesL.take {l : List Nat} (h : bytesL l) (k : Nat) : bytesL (l.take k) := fun x hx => h x (List.mem_of_mem_take hx)
theorem bytesL.getD {l : List Nat} (h : bytesL l) (k : Nat) : l.getD k 0 < 256 := by
  by_cases hk : k < l.length
  · rw [List.getD_eq_getElem?_getD, List.getElem?_eq_getElem hk]; exact h _ (List.getElem_mem hk)
  · rw [List.getD_eq_getElem?_getD, List.getElem?_eq_none (by omega)]; exact (by decide : (0 : Nat) < 256)
theorem bytesL.zeros (n : Nat) : bytesL (List.replicate n 0) := fun x hx => by rw [List.mem_replicate] at hx; omega
theorem pevalFrom_bytes (x : Nat) {l : List Nat} (h : bytesL l) : ∀ s, s < 256 → pevalFrom x s l < 256 := by
  induction l with
  | nil => intro s hs; exact hs
  | cons a l ih => intro s hs; exact ih h.tail _ (xor_lt (gmul_lt _ _) h.head)
theorem peval_lt (x : Nat) {l : List Nat} (h : bytesL l) : peval x l < 256 := pevalFrom_bytes x h 0 (by decide)
theorem pevalFrom_eq (x : Nat) {l : List Nat} (h : bytesL l) : ∀ s, s < 256 → pevalFrom x s l = gmul s (gp x l.length) ^^^ peval x l := by
  induction l with
  | nil => intro s hs; show s = gmul s 1 ^^^ 0; rw [gmul_one s hs, Nat.xor_zero]
  | cons a l ih =>
    intro s hs
    have h0 : peval x (a :: l) = gmul a (gp x l.length) ^^^ peval x l := by
      show pevalFrom x (gmul 0 x ^^^ a) l = _
      rw [zero_gmul, Nat.zero_xor]
      exact ih h.tail a h.head
    rw [h0]
    show pevalFrom x (gmul s x ^^^ a) l = gmul s (gmul (gp x l.length) x) ^^^ _
    rw [ih h.tail _ (xor_lt (gmul_lt _ _) h.head), xor_gmul _ _ _ (gp_lt _ _) (gmul_lt _ _) h.head, gmul_assoc, gmul_comm x, Nat.xor_assoc]
theorem peval_cons (x a : Nat) {l : List Nat} (h : bytesL (a :: l)) : peval x (a :: l) = gmul a (gp x l.length) ^^^ peval x l := by
  show pevalFrom x (gmul 0 x ^^^ a) l = _
  rw [zero_gmul, Nat.zero_xor]
  exact pevalFrom_eq x h.tail a h.head
theorem pevalFrom_app (x : Nat) (l m : List Nat) : ∀ s, pevalFrom x s (l ++ m) = pevalFrom x (pevalFrom x s l) m := by
  induction l with
  | nil => intro s; rfl
  | cons a l ih => intro s; exact ih _
theorem peval_snoc (x a : Nat) (l : List Nat) : peval x (l ++ [a]) = gmul (peval x l) x ^^^ a := pevalFrom_app x l [a] 0
theorem peval_zeros (x k : Nat) : peval x (List.replicate k 0) = 0 := by
  induction k with
  | zero => rfl
  | succ k ih => rw [List.replicate_succ, peval_cons x 0 (by rw [← List.replicate_succ]; exact bytesL.zeros _), ih, zero_gmul]; rfl
theorem peval_shift (x k : Nat) {l : List Nat} (h : bytesL l) : peval x (l ++ List.replicate k 0) = gmul (peval x l) (gp x k) := by
  unfold peval
  rw [pevalFrom_app, pevalFrom_eq x (bytesL.zeros k) _ (pevalFrom_bytes x h 0 (by decide)), peval_zeros, List.length_replicate, Nat.xor_zero]
theorem peval_trim (x : Nat) (l : List Nat) : peval x (trim l) = peval x l := by
  induction l with
  | nil => rfl
  | cons a l ih =>
    by_cases e : a = 0
    · subst e
      show peval x (trim l) = pevalFrom x (gmul 0 x ^^^ 0) l
      rw [zero_gmul, ih]; rfl
    · simp only [trim, if_neg e]
theorem xor4 (a b c d : Nat) : (a ^^^ b) ^^^ (c ^^^ d) = (a ^^^ c) ^^^ (b ^^^ d) := by
  rw [Nat.xor_assoc, Nat.xor_assoc, ← Nat.xor_assoc b, Nat.xor_comm b c, Nat.xor_assoc c]
theorem peval_acc (x : Nat) (L : List Nat) (h : bytesL L) (v : Nat) (hv : v < 256) : ∀ j, j < L.length → peval x (acc L j v) = peval x L ^^^ gmul v (gp x (L.length - 1 - j)) := by
  induction L with
  | nil => intro j hj; simp at hj
  | cons a L ih =>
    intro j hj
    cases j with
    | zero =>
      have hb : bytesL ((a ^^^ v) :: L) := by
        intro y hy
        rcases List.mem_cons.1 hy with rfl | hy
        · exact xor_lt h.head hv
        · exact h.tail y hy
      show peval x ((a ^^^ v) :: L) = _
      rw [peval_cons x _ hb, peval_cons x _ h, xor_gmul _ _ _ (gp_lt _ _) h.head hv]
      simp only [List.length_cons, Nat.add_sub_cancel, Nat.sub_zero]
      rw [Nat.xor_assoc, Nat.xor_assoc, Nat.xor_comm (gmul v _)]
    | succ j =>
      simp only [List.length_cons] at hj
      have e : acc (a :: L) (j + 1) v = a :: acc L j v := by simp [acc]
      have hb : bytesL (a :: acc L j v) := by rw [← e]; exact acc_bytes h hv
      rw [e, peval_cons x _ hb, peval_cons x _ h, ih h.tail j (by omega), acc_length, Nat.xor_assoc]
      congr 4
      simp only [List.length_cons]
      omega
theorem take_getD (l : List Nat) (k : Nat) (h : k < l.length) : l.take (k + 1) = l.take k ++ [l.getD k 0] := by
  rw [List.take_succ_eq_append_getElem h]
  simp [h]
theorem peval_rowTo (x : Nat) (L : List Nat) (h : bytesL L) (i y : Nat) (hy : y < 256) (b : List Nat) (hb : bytesL b) : ∀ k, k ≤ b.length → i + k ≤ L.length →
    peval x (rowTo L i y b k) = peval x L ^^^ gmul y (gmul (peval x (b.take k)) (gp x (L.length - i - k))) := by
  intro k
  induction k with
  | zero => intro _ _; show peval x L = peval x L ^^^ gmul y (gmul 0 _); rw [zero_gmul, gmul_zero, Nat.xor_zero]
  | succ k ih =>
    intro hk hi
    have hm : ∃ m, L.length - i - (k + 1) = m ∧ L.length - i - k = m + 1 ∧ L.length - 1 - (i + k) = m := ⟨L.length - i - (k + 1), rfl, by omega, by omega⟩
    obtain ⟨m, e1, e2, e3⟩ := hm
    show peval x (acc (rowTo L i y b k) (i + k) (gmul y (b.getD k 0))) = _
    rw [peval_acc x _ (rowTo_bytes h _ _ _ _) _ (gmul_lt _ _) _ (by rw [rowTo_length]; omega), rowTo_length, ih (by omega) (by omega), e1, e2, e3, take_getD b k (by omega), peval_snoc]
    have h1 := peval_lt x (hb.take k)
    have h2 := hb.getD k
    show _ ^^^ gmul y (gmul _ (gmul (gp x m) x)) ^^^ _ = _
    rw [xor_gmul _ _ _ (gp_lt _ _) (gmul_lt _ _) h2, gmul_xor _ _ _ hy (gmul_lt _ _) (gmul_lt _ _), Nat.xor_assoc, gmul_comm (gp x m) x, gmul_assoc (peval x (b.take k)) x, gmul_assoc y (b.getD k 0)]
theorem peval_convTo (x : Nat) (L : List Nat) (h : bytesL L) (a b : List Nat) (ha : bytesL a) (hb : bytesL b) : ∀ i, i ≤ a.length → i + b.length ≤ L.length + 1 →
    peval x (convTo L a b i) = peval x L ^^^ gmul (peval x (a.take i)) (gmul (peval x b) (gp x (L.length + 1 - i - b.length))) := by
  intro i
  induction i with
  | zero => intro _ _; show peval x L = peval x L ^^^ gmul 0 _; rw [zero_gmul, Nat.xor_zero]
  | succ i ih =>
    intro hi hn
    have hm : ∃ m, L.length + 1 - (i + 1) - b.length = m ∧ L.length + 1 - i - b.length = m + 1 ∧ L.length - i - b.length = m := ⟨L.length - i - b.length, by omega, by omega, rfl⟩
    obtain ⟨m, e1, e2, e3⟩ := hm
    show peval x (rowTo (convTo L a b i) i (a.getD i 0) b b.length) = _
    rw [peval_rowTo x _ (convTo_bytes h _ _ _) _ _ (ha.getD i) b hb _ (Nat.le_refl _) (by rw [convTo_length]; omega), convTo_length, ih (by omega) (by omega), e1, e2, e3, take_getD a i (by omega), peval_snoc, List.take_length]
    have h1 := peval_lt x (ha.take i)
    show _ ^^^ gmul _ (gmul _ (gmul (gp x m) x)) ^^^ _ = _
    rw [xor_gmul _ _ _ (gmul_lt _ _) (gmul_lt _ _) (ha.getD i), Nat.xor_assoc, gmul_assoc (peval x (a.take i)) x, gmul_left_comm x, gmul_comm (gp x m) x]
theorem peval_ptwo (x : Nat) {a b : List Nat} (ha : bytesL a) (hb : bytesL b) : peval x (ptwo a b) = gmul (peval x a) (peval x b) := by
  unfold ptwo
  by_cases h : trim a = [] ∨ trim b = []
  · rw [if_pos h]
    rcases h with h | h
    · rw [← peval_trim x a, h]; exact (zero_gmul _).symm
    · rw [← peval_trim x b, h]; exact (gmul_zero _).symm
  · rw [if_neg h]
    have h1 : 0 < (trim a).length := List.length_pos_iff.2 fun e => h (.inl e)
    have h2 : 0 < (trim b).length := List.length_pos_iff.2 fun e => h (.inr e)
    rw [peval_convTo x _ (bytesL.zeros _) _ _ (trim_bytes ha) (trim_bytes hb) _ (Nat.le_refl _) (by rw [List.length_replicate]; omega), List.length_replicate, peval_zeros, Nat.zero_xor, List.take_length, peval_trim, peval_trim,
      show (trim a).length + (trim b).length - 1 + 1 - (trim a).length - (trim b).length = 0 from by omega]
    show gmul _ (gmul _ 1) = _
    rw [gmul_one _ (peval_lt x hb)]
theorem peval_rowAdd (x : Nat) (L : List Nat) (h : bytesL L) (j : Nat) (a : List Nat) (ha : bytesL a) : ∀ k, k ≤ a.length → j + k ≤ L.length →
    peval x (rowAdd L j a k) = peval x L ^^^ gmul (peval x (a.take k)) (gp x (L.length - j - k)) := by
  intro k
  induction k with
  | zero => intro _ _; show peval x L = peval x L ^^^ gmul 0 _; rw [zero_gmul, Nat.xor_zero]
  | succ k ih =>
    intro hk hi
    have hm : ∃ m, L.length - j - (k + 1) = m ∧ L.length - j - k = m + 1 ∧ L.length - 1 - (j + k) = m := ⟨L.length - j - (k + 1), rfl, by omega, by omega⟩
    obtain ⟨m, e1, e2, e3⟩ := hm
    show peval x (acc (rowAdd L j a k) (j + k) (a.getD k 0)) = _
    rw [peval_acc x _ (rowAdd_bytes h _ ha _) _ (ha.getD k) _ (by rw [rowAdd_length]; omega), rowAdd_length, ih (by omega) (by omega), e1, e2, e3, take_getD a k (by omega), peval_snoc]
    show _ ^^^ gmul _ (gmul (gp x m) x) ^^^ _ = _
    rw [xor_gmul _ _ _ (gp_lt _ _) (gmul_lt _ _) (ha.getD k), Nat.xor_assoc, gmul_comm (gp x m) x, gmul_assoc]
theorem peval_addAll (x n : Nat) (l : List (List Nat)) (hb : ∀ a ∈ l, bytesL a) (hn : ∀ a ∈ l, a.length ≤ n) : ∀ k, k ≤ l.length → peval x (addAll n (l.take k)) = (l.take k).foldl (fun s a => s ^^^ peval x a) 0 := by
  intro k
  induction k with
  | zero => intro _; exact peval_zeros x n
  | succ k ih =>
    intro hk
    have hm : l.getD k [] ∈ l := by rw [List.getD_eq_getElem?_getD, List.getElem?_eq_getElem (by omega)]; exact List.getElem_mem _
    obtain ⟨h1, h2⟩ := addAll_take n l hb k (by omega)
    have h3 := hn _ hm
    rw [take_snocR l k (by omega), addAll_snoc, peval_rowAdd x _ h2 _ _ (hb _ hm) _ (Nat.le_refl _) (by rw [h1]; omega), ih (by omega), h1, List.foldl_append, List.take_length,
      show n - (n - (l.getD k []).length) - (l.getD k []).length = 0 from by omega]
    show _ ^^^ gmul _ 1 = _
    rw [gmul_one _ (peval_lt x (hb _ hm))]
    rfl
theorem peval_padd (x : Nat) (l : List (List Nat)) (hb : ∀ a ∈ l, bytesL a) : peval x (padd l) = l.foldl (fun s a => s ^^^ peval x a) 0 := by
  have h := peval_addAll x (longest l) l hb (fun a ha => longest_ge l a ha) l.length (Nat.le_refl _)
  rw [List.take_length] at h
  unfold padd
  rw [peval_trim, h]
theorem gp_gexp (x k : Nat) (h0 : x ≠ 0) (hx : x < 256) : gp x k = gexp (glog x * k) := by
  induction k with
  | zero => exact gexp_zero.symm
  | succ k ih =>
    show gmul (gp x k) x = _
    rw [ih]
    conv => lhs; rw [← gexp_glog x h0 hx]
    rw [glog_gexp, Nat.mod_eq_of_lt (glog_lt x), gmul_gexp]
    rfl
end Tri

namespace Tri
/-- A sum over the numbers below n. -/
def XS (f : Nat → Nat) : Nat → Nat
  | 0 => 0
  | k + 1 => XS f k ^^^ f k
theorem XS_lt (f : Nat → Nat) (h : ∀ i, f i < 256) (n : Nat) : XS f n < 256 := by
  induction n with
  | zero => exact (by decide : (0 : Nat) < 256)
  | succ n ih => exact xor_lt ih (h n)
def reval (l : List Nat) (x : Nat) : Nat := XS (fun i => gmul (l.getD i 0) (gp x i)) l.length
def rderL (l : List Nat) : List Nat := (List.range (l.length - 1)).map fun i => if (i + 1) % 2 = 1 then l.getD (i + 1) 0 else 0
def rder (l : List Nat) : List Nat := cutR (rderL l)
theorem rderL_length (l : List Nat) : (rderL l).length = l.length - 1 := by unfold rderL; simp
theorem rderL_take (l : List Nat) (k : Nat) (h : k < l.length - 1) : (rderL l).take (k + 1) = (rderL l).take k ++ [if (k + 1) % 2 = 1 then l.getD (k + 1) 0 else 0] := by
  rw [List.take_succ_eq_append_getElem (by rw [rderL_length]; exact h)]
  congr 2
  unfold rderL
  simp
theorem rder_bytes {l : List Nat} (h : bytesL l) : bytesL (rder l) := by
  refine cutR_bytes ?_
  intro x hx
  unfold rderL at hx
  obtain ⟨i, _, rfl⟩ := List.mem_map.1 hx
  split
  · exact bytesL_getD h _
  · decide
theorem rder_length (l : List Nat) : (rder l).length ≤ l.length := by
  have := cutR_length_le (rderL l)
  rw [rderL_length] at this
  unfold rder; omega
end Tri
namespace Go.Proofs.Ytgckhekikcdaiaa
open Go.RowKit Tri

set_option maxHeartbeats 1000000 in
theorem ref5_Eval (p : Option Addr) (n c : Nat) (l : List Nat) (x : Nat) (w : World) (hn : n = l.length) (hp : cellsI w p l) (hb : bytesL l) (hx : x < 256) (hl : l.length ≤ 100000) :
    Calls Try.prog 21 #[.slice p n c, .int .i64 x] w fun e w' => e = .returned (.int .i64 (reval l x : Nat)) ∧ w = w' := by
  subst hn
  have HP := hid hp
  have HB := hid hb
  clear hp hb
  have HR : Hid (reval l x = XS (fun i => gmul (l.getD i 0) (gp x i)) l.length) := rfl
  have HXL : Hid (∀ k, XS (fun i => gmul (l.getD i 0) (gp x i)) k < 256) := fun k => XS_lt _ (fun i => gmul_lt _ _) k
  have HXS : Hid (∀ k, XS (fun i => gmul (l.getD i 0) (gp x i)) (k + 1) = XS (fun i => gmul (l.getD i 0) (gp x i)) k ^^^ gmul (l.getD k 0) (gp x k)) := fun k => rfl
  have HF0 : Hid (XS (fun i => gmul (l.getD i 0) (gp x i)) 0 = 0) := rfl
  generalize XS (fun i => gmul (l.getD i 0) (gp x i)) = F at *
  generalize reval l x = R at *
  go_enter Try.func21, Try.ntmps21
  go_wp2_with ((with_reducible refine wpList_unguard ?_ ?_); (focus rfl))
  go_loop [5, 6, 7] (fun s p i => ∃ k : Nat, k ≤ l.length ∧ i = .int .i64 k ∧ s = .int .i64 (F k : Nat) ∧ p = .int .i64 (gp x k : Nat)) (fun _ _ i => l.length - (intOf i).toNat)
  case atStart => exact ⟨0, Nat.zero_le _, rfl, by rw [HF0.out]; rfl, rfl⟩
  case round =>
    obtain ⟨k, hk, rfl, rfl, rfl⟩ := hrel
    by_cases hlt : k < l.length
    · obtain ⟨a, o, rfl, hc⟩ := HP.out k hlt
      have hy : l.getD k 0 < 256 := HB.out _ (getD_mem l k hlt)
      have hg := gp_lt x k
      have HG : Hid (gp x (k + 1) = gmul (gp x k) x) := rfl
      have HF := hid (HXS.out k)
      have hf := HXL.out k
      generalize l.getD k 0 = y at *
      generalize gp x k = g at *
      generalize F k = s at *
      have hm := gmul_lt y g
      have hxor := i64_xor_nat s (gmul y g) (by omega) (by omega)
      go_wp2_with ((with_reducible refine wpList_unguard ?_ ?_); (focus rfl))
      refine Calls.mono (ref_Mul y g hy hg _) ?_; rintro e w' ⟨rfl, rfl⟩
      generalize gmul y g = yg at *
      go_wp2_with ((with_reducible refine wpList_unguard ?_ ?_); (focus rfl))
      refine Calls.mono (ref_Mul g x hg hx _) ?_; rintro e w' ⟨rfl, rfl⟩
      go_wp2_with ((with_reducible refine wpList_unguard ?_ ?_); (focus rfl))
      go_round
      case rel => exact ⟨k + 1, by omega, by go_num, by rw [HF.out], by rw [HG.out]⟩
      case measure => simp [intOf]; omega
    · obtain rfl : k = l.length := by omega
      rw [← HR.out]
      go_wp2
      go_ret
      exact ⟨rfl, rfl⟩
end Go.Proofs.Ytgckhekikcdaiaa

namespace Tri
theorem XS_congr {f g : Nat → Nat} (n : Nat) (h : ∀ i, i < n → f i = g i) : XS f n = XS g n := by
  induction n with
  | zero => rfl
  | succ n ih => simp only [XS]; rw [ih fun i hi => h i (by omega), h n (by omega)]
theorem XS_zero (f : Nat → Nat) (n : Nat) (h : ∀ i, i < n → f i = 0) : XS f n = 0 := by
  induction n with
  | zero => rfl
  | succ n ih => simp only [XS]; rw [ih fun i hi => h i (by omega), h n (by omega)]; rfl
theorem XS_first (f : Nat → Nat) (n : Nat) : XS f (n + 1) = f 0 ^^^ XS (fun i => f (i + 1)) n := by
  induction n with
  | zero => simp [XS]
  | succ n ih => rw [XS, ih, XS, Nat.xor_assoc]
theorem XS_rev (f : Nat → Nat) (n : Nat) : XS f n = XS (fun i => f (n - 1 - i)) n := by
  induction n with
  | zero => rfl
  | succ n ih =>
    rw [XS_first (fun i => f (n + 1 - 1 - i)), XS, ih, Nat.xor_comm]
    congr 1
    exact XS_congr n fun i hi => by rw [show n - 1 - i = n + 1 - 1 - (i + 1) from by omega]
theorem co_getD (l : List Nat) (i : Nat) (h : i < l.length) : co l i = l.getD (l.length - 1 - i) 0 := by
  unfold co
  rw [List.getD_eq_getElem?_getD, List.getElem?_reverse h, ← List.getD_eq_getElem?_getD]
theorem co_rev (l : List Nat) (i : Nat) : co l.reverse i = l.getD i 0 := by unfold co; rw [List.reverse_reverse]
theorem getD_ge (l : List Nat) (i : Nat) (h : l.length ≤ i) : l.getD i 0 = 0 := by
  rw [List.getD_eq_getElem?_getD, List.getElem?_eq_none h]; rfl
theorem cutR_getD (l : List Nat) (i : Nat) : (cutR l).getD i 0 = l.getD i 0 := by
  have := co_trim l.reverse i
  rw [co_rev] at this
  exact this
theorem rof_getD (l : List Nat) (i : Nat) : (rof l).getD i 0 = co l i := by
  unfold rof; rw [cutR_getD]; rfl
theorem rof_eq (l : List Nat) : rof l = (trim l).reverse := by unfold rof cutR; rw [List.reverse_reverse]
theorem rbytes_eq (l : List Nat) : rbytes l = trim l.reverse := by unfold rbytes cutR; rw [List.reverse_reverse]
theorem rbytes_rof (l : List Nat) : rbytes (rof l) = trim l := by rw [rbytes_eq, rof_eq, List.reverse_reverse, trim_trim]
theorem rof_bytes {l : List Nat} (h : bytesL l) : bytesL (rof l) := by rw [rof_eq]; exact rev_bytes (trim_bytes h)
theorem rof_length (l : List Nat) : (rof l).length = (trim l).length := by rw [rof_eq, List.length_reverse]
/-- What stands for the same factors is the same. -/
theorem trim_of_getD {l m : List Nat} (h : ∀ i, co l i = m.getD i 0) : trim l = rbytes m := by
  rw [rbytes_eq]; exact trim_ext fun i => by rw [h, co_rev]
theorem trim_nz (l : List Nat) (h : l.getD 0 0 ≠ 0) : trim l = l := by
  cases l with
  | nil => exact absurd rfl h
  | cons a l => unfold trim; rw [if_neg (by simpa using h)]

/- values -/
theorem peval_XS (x : Nat) {l : List Nat} (h : bytesL l) : peval x l = XS (fun i => gmul (co l i) (gp x i)) l.length := by
  induction l with
  | nil => rfl
  | cons a l ih =>
    rw [peval_cons x a h, ih h.tail, List.length_cons, XS, co_top, Nat.xor_comm]
    congr 1
    exact XS_congr _ fun i hi => by rw [co_cons_lt a l i hi]
theorem reval_rof (x : Nat) {l : List Nat} (h : bytesL l) : reval (rof l) x = peval x l := by
  unfold reval
  rw [← peval_trim, peval_XS x (trim_bytes h), rof_length]
  exact XS_congr _ fun i _ => by rw [rof_getD, co_trim]

/- derivatives -/
theorem derTo_getD (L : List Nat) (n : Nat) : ∀ k, k ≤ L.length → ∀ j, (derTo L n k).getD j 0 = if j < k ∧ (n - 1 - j) % 2 = 0 then 0 else L.getD j 0 := by
  intro k
  induction k with
  | zero => intro _ j; rw [if_neg (by omega)]; rfl
  | succ k ih =>
    intro hk j
    unfold derTo
    by_cases he : (n - 1 - k) % 2 = 0
    · rw [if_pos he]
      by_cases hj : j = k
      · subst hj
        rw [if_pos ⟨by omega, he⟩, List.getD_eq_getElem?_getD, List.getElem?_set_self (by rw [derTo_length]; omega)]
        rfl
      · rw [List.getD_eq_getElem?_getD, List.getElem?_set_ne (by omega), ← List.getD_eq_getElem?_getD, ih (by omega)]
        by_cases h : j < k
        · by_cases h2 : (n - 1 - j) % 2 = 0
          · rw [if_pos ⟨h, h2⟩, if_pos ⟨by omega, h2⟩]
          · rw [if_neg (fun e => h2 e.2), if_neg (fun e => h2 e.2)]
        · rw [if_neg (fun e => h e.1), if_neg (by omega)]
    · rw [if_neg he, ih (by omega)]
      by_cases hj : j = k
      · subst hj
        rw [if_neg (by omega), if_neg (fun e => he e.2)]
      · by_cases h : j < k
        · by_cases h2 : (n - 1 - j) % 2 = 0
          · rw [if_pos ⟨h, h2⟩, if_pos ⟨by omega, h2⟩]
          · rw [if_neg (fun e => h2 e.2), if_neg (fun e => h2 e.2)]
        · rw [if_neg (fun e => h e.1), if_neg (by omega)]
theorem rderL_getD (l : List Nat) (i : Nat) : (rderL l).getD i 0 = if (i + 1) % 2 = 1 then l.getD (i + 1) 0 else 0 := by
  by_cases h : i < l.length - 1
  · unfold rderL
    rw [List.getD_eq_getElem?_getD, List.getElem?_map, List.getElem?_range h]
    rfl
  · rw [getD_ge _ _ (by rw [rderL_length]; omega), getD_ge l _ (by omega)]
    split <;> rfl
theorem pder_rder (l : List Nat) : pder l = rbytes (rder (rof l)) := by
  have h2 : rbytes (rder (rof l)) = rbytes (rderL (rof l)) := by
    rw [rbytes_eq, rbytes_eq]
    exact trim_ext fun i => by rw [co_rev, co_rev]; exact cutR_getD _ _
  rw [h2]
  unfold pder
  by_cases hl : l = []
  · subst hl; rfl
  · rw [if_neg hl]
    have h0 : 0 < l.length := List.length_pos_iff.2 hl
    refine trim_of_getD fun i => ?_
    rw [rderL_getD, rof_getD]
    have hD : (derTo (l.take (l.length - 1)) l.length (l.length - 1)).length = l.length - 1 := by rw [derTo_length, List.length_take]; omega
    by_cases hi : i < l.length - 1
    · rw [co_getD _ _ (by rw [hD]; exact hi), hD, derTo_getD _ _ _ (by rw [List.length_take]; omega), co_getD l (i + 1) (by omega), show l.length - 1 - (l.length - 1 - 1 - i) = i + 1 from by omega, show l.length - 1 - 1 - i = l.length - 1 - (i + 1) from by omega]
      by_cases he : (i + 1) % 2 = 1
      · rw [if_neg (by omega), if_pos he]
        simp only [List.getD_eq_getElem?_getD, List.getElem?_take]
        rw [if_pos (by omega)]
      · rw [if_pos ⟨by omega, by omega⟩, if_neg he]
    · rw [co_ge _ _ (by rw [hD]; omega), co_ge l (i + 1) (by omega)]
      split <;> rfl

/- sums -/
theorem getD_acc (L : List Nat) (j v : Nat) (h : j < L.length) (i : Nat) : (acc L j v).getD i 0 = L.getD i 0 ^^^ (if i = j then v else 0) := by
  unfold acc
  by_cases e : i = j
  · subst e
    rw [if_pos rfl, List.getD_eq_getElem?_getD, List.getElem?_set_self h]
    rfl
  · rw [if_neg e, Nat.xor_zero, List.getD_eq_getElem?_getD, List.getElem?_set_ne (fun h => e h.symm), ← List.getD_eq_getElem?_getD]
theorem getD_rowAdd (L : List Nat) (j : Nat) (a : List Nat) : ∀ k, j + k ≤ L.length → ∀ i, (rowAdd L j a k).getD i 0 = L.getD i 0 ^^^ (if j ≤ i ∧ i < j + k then a.getD (i - j) 0 else 0) := by
  intro k
  induction k with
  | zero => intro _ i; rw [if_neg (by omega), Nat.xor_zero]; rfl
  | succ k ih =>
    intro hk i
    show (acc (rowAdd L j a k) (j + k) (a.getD k 0)).getD i 0 = _
    rw [getD_acc _ _ _ (by rw [rowAdd_length]; omega), ih (by omega), Nat.xor_assoc]
    congr 1
    by_cases e : i = j + k
    · subst e
      rw [if_neg (by omega), if_pos rfl, if_pos (by omega), Nat.zero_xor, show j + k - j = k from by omega]
    · rw [if_neg e, Nat.xor_zero]
      by_cases h : j ≤ i ∧ i < j + k
      · rw [if_pos h, if_pos (by omega)]
      · rw [if_neg h, if_neg (by omega)]
theorem co_rowAdd (L a : List Nat) (h : a.length ≤ L.length) (i : Nat) : co (rowAdd L (L.length - a.length) a a.length) i = co L i ^^^ co a i := by
  by_cases hi : i < L.length
  · rw [co_getD _ _ (by rw [rowAdd_length]; exact hi), rowAdd_length, getD_rowAdd _ _ _ _ (by omega), ← co_getD L i hi]
    congr 1
    by_cases ha : i < a.length
    · rw [if_pos (by omega), co_getD a i ha]
      congr 1
      omega
    · rw [if_neg (by omega), co_ge a i (by omega)]
  · rw [co_ge _ _ (by rw [rowAdd_length]; omega), co_ge L i (by omega), co_ge a i (by omega)]
    rfl
theorem co_addAll (n : Nat) (l : List (List Nat)) (hb : ∀ a ∈ l, bytesL a) (hn : ∀ a ∈ l, a.length ≤ n) (i : Nat) : ∀ k, k ≤ l.length → co (addAll n (l.take k)) i = (l.take k).foldl (fun s a => s ^^^ co a i) 0 := by
  intro k
  induction k with
  | zero =>
    intro _
    have := co_zeros n [] i
    rw [List.append_nil] at this
    exact this
  | succ k ih =>
    intro hk
    have hm : l.getD k [] ∈ l := by rw [List.getD_eq_getElem?_getD, List.getElem?_eq_getElem (by omega)]; exact List.getElem_mem _
    obtain ⟨h1, _⟩ := addAll_take n l hb k (by omega)
    have h3 := hn _ hm
    rw [take_snocR l k (by omega), addAll_snoc, List.foldl_append]
    have h4 := co_rowAdd (addAll n (l.take k)) (l.getD k []) (by rw [h1]; exact h3) i
    rw [h1] at h4
    rw [h4, ih (by omega)]
    rfl
theorem radd_getD (a b : List Nat) (i : Nat) : (radd a b).getD i 0 = a.getD i 0 ^^^ b.getD i 0 := by
  unfold radd
  rw [cutR_getD]
  by_cases h : i < max a.length b.length
  · unfold raddL
    rw [List.getD_eq_getElem?_getD, List.getElem?_map, List.getElem?_range h]
    rfl
  · rw [getD_ge _ _ (by rw [raddL_length]; omega), getD_ge a i (by omega), getD_ge b i (by omega)]
    rfl
/-- The document's sum of many. -/
def rsumL (l : List (List Nat)) : List Nat := l.foldl (fun s a => radd s (rof a)) []
theorem rsumL_snoc (l : List (List Nat)) (a : List Nat) : rsumL (l ++ [a]) = radd (rsumL l) (rof a) := by unfold rsumL; rw [List.foldl_append]; rfl
theorem rsumL_getD (i : Nat) (l : List (List Nat)) : (rsumL l).getD i 0 = l.foldl (fun s a => s ^^^ co a i) 0 := by
  have key : ∀ (l : List (List Nat)) (s : List Nat) (t : Nat), s.getD i 0 = t → (l.foldl (fun s a => radd s (rof a)) s).getD i 0 = l.foldl (fun s a => s ^^^ co a i) t := by
    intro l
    induction l with
    | nil => intro s t h; exact h
    | cons a l ih => intro s t h; exact ih _ _ (by rw [radd_getD, h, rof_getD])
  exact key l [] 0 rfl
theorem padd_rsum (l : List (List Nat)) (hb : ∀ a ∈ l, bytesL a) : padd l = rbytes (rsumL l) := by
  unfold padd
  refine trim_of_getD fun i => ?_
  have h := co_addAll (longest l) l hb (fun a ha => longest_ge l a ha) i l.length (Nat.le_refl _)
  rw [List.take_length] at h
  rw [h, rsumL_getD]

/- products -/
theorem getD_rowTo (L : List Nat) (i y : Nat) (b : List Nat) : ∀ k, i + k ≤ L.length → ∀ j, (rowTo L i y b k).getD j 0 = L.getD j 0 ^^^ (if i ≤ j ∧ j < i + k then gmul y (b.getD (j - i) 0) else 0) := by
  intro k
  induction k with
  | zero => intro _ j; rw [if_neg (by omega), Nat.xor_zero]; rfl
  | succ k ih =>
    intro hk j
    show (acc (rowTo L i y b k) (i + k) (gmul y (b.getD k 0))).getD j 0 = _
    rw [getD_acc _ _ _ (by rw [rowTo_length]; omega), ih (by omega), Nat.xor_assoc]
    congr 1
    by_cases e : j = i + k
    · subst e
      rw [if_neg (by omega), if_pos rfl, if_pos (by omega), Nat.zero_xor, show i + k - i = k from by omega]
    · rw [if_neg e, Nat.xor_zero]
      by_cases h : i ≤ j ∧ j < i + k
      · rw [if_pos h, if_pos (by omega)]
      · rw [if_neg h, if_neg (by omega)]
/-- A term of a product's factor. -/
def cvt (f g : Nat → Nat) (j i : Nat) : Nat := if i ≤ j then gmul (f i) (g (j - i)) else 0
theorem getD_convTo (L a b : List Nat) : ∀ m, m + b.length ≤ L.length + 1 → ∀ j, (convTo L a b m).getD j 0 = L.getD j 0 ^^^ XS (cvt (fun i => a.getD i 0) (fun i => b.getD i 0) j) m := by
  intro m
  induction m with
  | zero => intro _ j; exact (Nat.xor_zero _).symm
  | succ m ih =>
    intro hm j
    show (rowTo (convTo L a b m) m (a.getD m 0) b b.length).getD j 0 = _
    rw [getD_rowTo _ _ _ _ _ (by rw [convTo_length]; omega), ih (by omega), XS, Nat.xor_assoc]
    congr 2
    unfold cvt
    by_cases h : m ≤ j
    · rw [if_pos h]
      by_cases h2 : j < m + b.length
      · rw [if_pos ⟨h, h2⟩]
      · rw [if_neg (by omega)]
        show 0 = gmul _ (b.getD (j - m) 0)
        rw [getD_ge b (j - m) (by omega), gmul_zero]
    · rw [if_neg (by omega), if_neg h]
theorem getD_zeros (n i : Nat) : (List.replicate n 0).getD i 0 = 0 := by
  rw [List.getD_eq_getElem?_getD, List.getElem?_replicate]; split <;> rfl
/-- The terms, told by the highest place first, are those told by the powers. -/
theorem conv_rev (A B : List Nat) (j : Nat) (hB : 0 < B.length) (hj : j < A.length + B.length - 1) :
    XS (cvt (fun i => A.getD i 0) (fun i => B.getD i 0) (A.length + B.length - 1 - 1 - j)) A.length = XS (cvt (co A) (co B) j) A.length := by
  rw [XS_rev]
  refine XS_congr _ fun i hi => ?_
  unfold cvt
  by_cases h : i ≤ j
  · rw [if_pos h]
    by_cases h2 : j - i < B.length
    · rw [if_pos (by omega), co_getD A i hi, co_getD B _ h2]
      congr 2
      omega
    · rw [if_neg (by omega), co_ge B _ (by omega), gmul_zero]
  · rw [if_neg h]
    split
    · show gmul _ (B.getD (A.length + B.length - 1 - 1 - j - (A.length - 1 - i)) 0) = 0
      rw [getD_ge B _ (by omega), gmul_zero]
    · rfl
theorem rmulL_getD (a b : List Nat) (j : Nat) : (rmulL a b).getD j 0 = XS (cvt (fun i => a.getD i 0) (fun i => b.getD i 0) j) a.length := by
  unfold rmulL
  rw [getD_convTo _ _ _ _ (by rw [List.length_replicate]; omega), getD_zeros, Nat.zero_xor]
theorem rmulP_getD (a b : List Nat) (j : Nat) : (rmulP a b).getD j 0 = XS (cvt (fun i => a.getD i 0) (fun i => b.getD i 0) j) a.length := by
  unfold rmulP; rw [cutR_getD, rmulL_getD]
/-- The product of two that aren't 0, by its factors; its first isn't 0. -/
theorem co_conv (A B : List Nat) (hA : 0 < A.length) (hB : 0 < B.length) (j : Nat) : co (convTo (List.replicate (A.length + B.length - 1) 0) A B A.length) j = XS (cvt (co A) (co B) j) A.length := by
  have hlen : (convTo (List.replicate (A.length + B.length - 1) 0) A B A.length).length = A.length + B.length - 1 := by rw [convTo_length, List.length_replicate]
  by_cases hj : j < A.length + B.length - 1
  · rw [co_getD _ _ (by rw [hlen]; exact hj), hlen, getD_convTo _ _ _ _ (by rw [List.length_replicate]; omega), getD_zeros, Nat.zero_xor, conv_rev A B j hB hj]
  · rw [co_ge _ _ (by rw [hlen]; omega), XS_zero]
    intro i hi
    unfold cvt
    split
    · rw [co_ge B _ (by omega), gmul_zero]
    · rfl
theorem conv_head (A B : List Nat) (hA : A.getD 0 0 ≠ 0) (hB : B.getD 0 0 ≠ 0) : (convTo (List.replicate (A.length + B.length - 1) 0) A B A.length).getD 0 0 ≠ 0 := by
  have hA0 : 0 < A.length := by cases A with | nil => exact absurd rfl hA | cons => simp
  have hB0 : 0 < B.length := by cases B with | nil => exact absurd rfl hB | cons => simp
  rw [getD_convTo _ _ _ _ (by rw [List.length_replicate]; omega), getD_zeros, Nat.zero_xor]
  obtain ⟨m, hm⟩ : ∃ m, A.length = m + 1 := ⟨A.length - 1, by omega⟩
  rw [hm, XS_first, XS_zero (fun i => cvt (fun i => A.getD i 0) (fun i => B.getD i 0) 0 (i + 1)) m (fun i _ => by unfold cvt; rw [if_neg (by omega)]), Nat.xor_zero]
  unfold cvt
  rw [if_pos (Nat.le_refl _)]
  exact gmul_ne hA hB
theorem ptwo_trim (a b : List Nat) : trim (ptwo a b) = ptwo a b := by
  unfold ptwo
  by_cases h : trim a = [] ∨ trim b = []
  · rw [if_pos h]; rfl
  · rw [if_neg h]
    exact trim_nz _ (conv_head _ _ (trim_head a fun e => h (.inl e)) (trim_head b fun e => h (.inr e)))
theorem co_ptwo (a b : List Nat) (j : Nat) : co (ptwo a b) j = XS (cvt (co a) (co b) j) (trim a).length := by
  have hc : ∀ n, XS (cvt (co a) (co b) j) n = XS (cvt (co (trim a)) (co (trim b)) j) n := fun n => XS_congr n fun i _ => by unfold cvt; rw [co_trim, co_trim]
  rw [hc]
  unfold ptwo
  by_cases h : trim a = [] ∨ trim b = []
  · rw [if_pos h]
    show 0 = _
    rw [XS_zero]
    intro i _
    unfold cvt
    rcases h with h | h
    · rw [h]; split
      · rw [co_ge [] _ (Nat.zero_le _), zero_gmul]
      · rfl
    · rw [h]; split
      · rw [co_ge [] _ (Nat.zero_le _), gmul_zero]
      · rfl
  · rw [if_neg h]
    exact co_conv _ _ (List.length_pos_iff.2 fun e => h (.inl e)) (List.length_pos_iff.2 fun e => h (.inr e)) j
theorem ptwo_rmul (a b : List Nat) (ha : trim a = a) : rmulP a.reverse (rof b) = (ptwo a b).reverse := by
  have h : trim (ptwo a b) = rbytes (rmulP a.reverse (rof b)) := by
    refine trim_of_getD fun i => ?_
    rw [co_ptwo, rmulP_getD, ha, List.length_reverse]
    exact XS_congr _ fun i _ => by
      unfold cvt
      split
      · show _ = gmul _ ((rof b).getD _ 0); rw [rof_getD]; rfl
      · rfl
  rw [ptwo_trim] at h
  rw [h]
  unfold rbytes
  rw [List.reverse_reverse]
  unfold rmulP cutR
  rw [List.reverse_reverse, trim_trim]
/-- The document's product of many. -/
def rprodL (l : List (List Nat)) : List Nat := l.foldl (fun s a => rmulP s (rof a)) [1]
theorem rprodL_snoc (l : List (List Nat)) (a : List Nat) : rprodL (l ++ [a]) = rmulP (rprodL l) (rof a) := by unfold rprodL; rw [List.foldl_append]; rfl
theorem rprodL_eq (l : List (List Nat)) : rprodL l = (pmul l).reverse ∧ trim (pmul l) = pmul l := by
  have key : ∀ (l : List (List Nat)) (s p : List Nat), s = p.reverse → trim p = p → l.foldl (fun s a => rmulP s (rof a)) s = (l.foldl ptwo p).reverse ∧ trim (l.foldl ptwo p) = l.foldl ptwo p := by
    intro l
    induction l with
    | nil => intro s p h1 h2; exact ⟨h1, h2⟩
    | cons a l ih => intro s p h1 h2; exact ih _ _ (by rw [h1]; exact ptwo_rmul p a h2) (ptwo_trim p a)
  exact key l [1] [1] rfl rfl
theorem pmul_rprod (l : List (List Nat)) : pmul l = rbytes (rprodL l) := by
  obtain ⟨h1, h2⟩ := rprodL_eq l
  rw [rbytes_eq, h1, List.reverse_reverse, h2]
end Tri

namespace Tri
/-- The factors' sum, each taken so often as its power's weight says. -/
def ev (W : Nat → Nat) : List Nat → Nat
  | [] => 0
  | a :: l => gmul a (W l.length) ^^^ ev W l
theorem ev_lt (W : Nat → Nat) (l : List Nat) : ev W l < 256 := by
  induction l with
  | nil => exact (by decide : (0 : Nat) < 256)
  | cons a l ih => exact xor_lt (gmul_lt _ _) ih
theorem ev_trim (W : Nat → Nat) (l : List Nat) : ev W (trim l) = ev W l := by
  induction l with
  | nil => rfl
  | cons a l ih =>
    by_cases e : a = 0
    · subst e
      show ev W (trim l) = gmul 0 _ ^^^ ev W l
      rw [zero_gmul, Nat.zero_xor, ih]
    · simp only [trim, if_neg e]
theorem ev_zeros (W : Nat → Nat) (n : Nat) : ev W (List.replicate n 0) = 0 := by
  induction n with
  | zero => rfl
  | succ n ih => show gmul 0 _ ^^^ ev W (List.replicate n 0) = 0; rw [ih, zero_gmul]; rfl
theorem ev_zero (l : List Nat) : ev (fun _ => 0) l = 0 := by
  induction l with
  | nil => rfl
  | cons a l ih => show gmul a 0 ^^^ ev _ l = 0; rw [ih, gmul_zero]; rfl
theorem ev_snoc (W : Nat → Nat) (l : List Nat) (c : Nat) : ev W (l ++ [c]) = ev (fun m => W (m + 1)) l ^^^ gmul c (W 0) := by
  induction l with
  | nil => show gmul c (W 0) ^^^ 0 = 0 ^^^ gmul c (W 0); rw [Nat.xor_zero, Nat.zero_xor]
  | cons a l ih =>
    show gmul a (W (l ++ [c]).length) ^^^ ev W (l ++ [c]) = gmul a (W (l.length + 1)) ^^^ ev _ l ^^^ _
    rw [ih, List.length_append, List.length_singleton, Nat.xor_assoc]
theorem ev_congr {W V : Nat → Nat} (l : List Nat) (h : ∀ i, i < l.length → W i = V i) : ev W l = ev V l := by
  induction l with
  | nil => rfl
  | cons a l ih =>
    show gmul a (W l.length) ^^^ ev W l = gmul a (V l.length) ^^^ ev V l
    rw [h _ (by simp), ih fun i hi => h i (by rw [List.length_cons]; omega)]
theorem ev_add {W V : Nat → Nat} (hW : ∀ i, W i < 256) (hV : ∀ i, V i < 256) {l : List Nat} (hl : bytesL l) : ev (fun i => W i ^^^ V i) l = ev W l ^^^ ev V l := by
  induction l with
  | nil => exact (Nat.xor_self 0).symm
  | cons a l ih =>
    show gmul a (W l.length ^^^ V l.length) ^^^ ev _ l = (gmul a (W l.length) ^^^ ev W l) ^^^ (gmul a (V l.length) ^^^ ev V l)
    rw [gmul_xor _ _ _ hl.head (hW _) (hV _), ih hl.tail, xor4]
theorem ev_mul {W : Nat → Nat} (c : Nat) (hc : c < 256) {l : List Nat} : ev (fun i => gmul c (W i)) l = gmul c (ev W l) := by
  induction l with
  | nil => exact (gmul_zero c).symm
  | cons a l ih =>
    show gmul a (gmul c (W l.length)) ^^^ ev _ l = gmul c (gmul a (W l.length) ^^^ ev W l)
    rw [gmul_xor _ _ _ hc (gmul_lt _ _) (ev_lt _ _), ih, gmul_left_comm]
theorem ev_acc (W : Nat → Nat) (hW : ∀ i, W i < 256) (L : List Nat) (h : bytesL L) (v : Nat) (hv : v < 256) : ∀ j, j < L.length → ev W (acc L j v) = ev W L ^^^ gmul v (W (L.length - 1 - j)) := by
  induction L with
  | nil => intro j hj; simp at hj
  | cons a L ih =>
    intro j hj
    cases j with
    | zero =>
      show gmul (a ^^^ v) (W L.length) ^^^ ev W L = gmul a (W L.length) ^^^ ev W L ^^^ gmul v (W (L.length + 1 - 1 - 0))
      rw [xor_gmul _ _ _ (hW _) h.head hv, Nat.add_sub_cancel, Nat.sub_zero, Nat.xor_assoc, Nat.xor_assoc, Nat.xor_comm (gmul v _)]
    | succ j =>
      simp only [List.length_cons] at hj
      have e : acc (a :: L) (j + 1) v = a :: acc L j v := by simp [acc]
      rw [e]
      show gmul a (W (acc L j v).length) ^^^ ev W (acc L j v) = gmul a (W L.length) ^^^ ev W L ^^^ gmul v (W (L.length + 1 - 1 - (j + 1)))
      rw [ih h.tail j (by omega), acc_length, Nat.xor_assoc, show L.length + 1 - 1 - (j + 1) = L.length - 1 - j from by omega]
theorem ev_rowTo (W : Nat → Nat) (hW : ∀ i, W i < 256) (L : List Nat) (h : bytesL L) (i y : Nat) (hy : y < 256) (b : List Nat) : ∀ k, k ≤ b.length → i + k ≤ L.length →
    ev W (rowTo L i y b k) = ev W L ^^^ gmul y (ev (fun m => W (m + (L.length - i - k))) (b.take k)) := by
  intro k
  induction k with
  | zero => intro _ _; show ev W L = ev W L ^^^ gmul y 0; rw [gmul_zero, Nat.xor_zero]
  | succ k ih =>
    intro hk hi
    obtain ⟨m, e1, e2, e3⟩ : ∃ m, L.length - i - (k + 1) = m ∧ L.length - i - k = m + 1 ∧ L.length - 1 - (i + k) = m := ⟨L.length - i - (k + 1), rfl, by omega, by omega⟩
    show ev W (acc (rowTo L i y b k) (i + k) (gmul y (b.getD k 0))) = _
    rw [ev_acc W hW _ (rowTo_bytes h _ _ _ _) _ (gmul_lt _ _) _ (by rw [rowTo_length]; omega), rowTo_length, ih (by omega) (by omega), e1, e2, e3, take_getD b k (by omega), ev_snoc,
      gmul_xor _ _ _ hy (ev_lt _ _) (gmul_lt _ _), Nat.xor_assoc, gmul_assoc, Nat.zero_add]
    congr 3
    exact ev_congr _ fun j _ => by rw [show j + 1 + m = j + (m + 1) from by omega]
theorem ev_convTo (W : Nat → Nat) (hW : ∀ i, W i < 256) (L : List Nat) (h : bytesL L) (a b : List Nat) (ha : bytesL a) : ∀ i, i ≤ a.length → i + b.length ≤ L.length + 1 →
    ev W (convTo L a b i) = ev W L ^^^ ev (fun p => ev (fun m => W (m + (p + (L.length + 1 - i - b.length)))) b) (a.take i) := by
  intro i
  induction i with
  | zero => intro _ _; exact (Nat.xor_zero _).symm
  | succ i ih =>
    intro hi hn
    obtain ⟨m, e1, e2, e3⟩ : ∃ m, L.length + 1 - (i + 1) - b.length = m ∧ L.length + 1 - i - b.length = m + 1 ∧ L.length - i - b.length = m := ⟨L.length - i - b.length, by omega, by omega, rfl⟩
    show ev W (rowTo (convTo L a b i) i (a.getD i 0) b b.length) = _
    rw [ev_rowTo W hW _ (convTo_bytes h _ _ _) _ _ (ha.getD i) b _ (Nat.le_refl _) (by rw [convTo_length]; omega), convTo_length, ih (by omega) (by omega), e1, e2, e3, take_getD a i (by omega), ev_snoc, List.take_length, Nat.xor_assoc, Nat.zero_add]
    congr 2
    exact ev_congr _ fun j _ => ev_congr _ fun k _ => by rw [show j + 1 + m = j + (m + 1) from by omega]
theorem ev_ptwo (W : Nat → Nat) (hW : ∀ i, W i < 256) {a b : List Nat} (ha : bytesL a) : ev W (ptwo a b) = ev (fun p => ev (fun m => W (m + p)) b) a := by
  have e2 : ev (fun p => ev (fun m => W (m + p)) b) a = ev (fun p => ev (fun m => W (m + p)) (trim b)) (trim a) := by
    rw [ev_trim]
    exact ev_congr _ fun i _ => (ev_trim _ _).symm
  rw [e2]
  unfold ptwo
  by_cases h : trim a = [] ∨ trim b = []
  · rw [if_pos h]
    rcases h with h | h
    · rw [h]; rfl
    · rw [h]; exact (ev_zero _).symm
  · rw [if_neg h]
    have h1 : 0 < (trim a).length := List.length_pos_iff.2 fun e => h (.inl e)
    have h2 : 0 < (trim b).length := List.length_pos_iff.2 fun e => h (.inr e)
    rw [ev_convTo W hW _ (bytesL.zeros _) _ _ (trim_bytes ha) _ (Nat.le_refl _) (by rw [List.length_replicate]; omega), List.length_replicate, ev_zeros, Nat.zero_xor, List.take_length,
      show (trim a).length + (trim b).length - 1 + 1 - (trim a).length - (trim b).length = 0 from by omega]
    rfl
theorem ev_XS (W : Nat → Nat) (l : List Nat) : ev W l = XS (fun i => gmul (co l i) (W i)) l.length := by
  induction l with
  | nil => rfl
  | cons a l ih =>
    show gmul a (W l.length) ^^^ ev W l = XS _ (l.length + 1)
    rw [ih, XS, co_top, Nat.xor_comm]
    congr 1
    exact XS_congr _ fun i hi => by rw [co_cons_lt a l i hi]
theorem peval_ev (x : Nat) {l : List Nat} (h : bytesL l) : peval x l = ev (gp x) l := by rw [peval_XS x h, ev_XS]
theorem XS_more (f : Nat → Nat) (n : Nat) : ∀ m, n ≤ m → (∀ i, n ≤ i → f i = 0) → XS f m = XS f n := by
  intro m
  induction m with
  | zero => intro h _; rw [show n = 0 from by omega]
  | succ m ih =>
    intro h hz
    by_cases e : n = m + 1
    · rw [e]
    · rw [XS, ih (by omega) hz, hz m (by omega), Nat.xor_zero]
theorem ev_XS_more (W : Nat → Nat) (l : List Nat) (n : Nat) (h : l.length ≤ n) : ev W l = XS (fun i => gmul (co l i) (W i)) n := by
  rw [ev_XS, XS_more _ _ _ h]
  intro i hi
  rw [co_ge l i hi, zero_gmul]

/-- The weights of the derivative's value. -/
def dp (x i : Nat) : Nat := if i % 2 = 1 then gp x (i - 1) else 0
theorem dp_lt (x i : Nat) : dp x i < 256 := by unfold dp; split <;> first | exact gp_lt _ _ | decide
theorem dp_succ (x i : Nat) : dp x (i + 1) = gmul x (dp x i) ^^^ gp x i := by
  unfold dp
  by_cases h : i % 2 = 1
  · rw [if_pos h, if_neg (by omega)]
    obtain ⟨j, rfl⟩ : ∃ j, i = j + 1 := ⟨i - 1, by omega⟩
    show 0 = gmul x (gp x j) ^^^ gmul (gp x j) x
    rw [gmul_comm, Nat.xor_self]
  · rw [if_neg h, if_pos (by omega), gmul_zero, Nat.zero_xor, Nat.add_sub_cancel]
theorem co_rbytes (m : List Nat) (i : Nat) : co (rbytes m) i = m.getD i 0 := by rw [rbytes_eq, co_trim, co_rev]
theorem co_pder (l : List Nat) (i : Nat) : co (pder l) i = if (i + 1) % 2 = 1 then co l (i + 1) else 0 := by
  rw [pder_rder, co_rbytes]
  unfold rder
  rw [cutR_getD, rderL_getD, rof_getD]
theorem pder_length_le (l : List Nat) : (pder l).length ≤ l.length := by
  rw [pder_rder, rbytes_eq]
  have h1 := trim_length_le (rder (rof l)).reverse
  have h2 := rder_length (rof l)
  have h3 := rof_length l
  have h4 := trim_length_le l
  rw [List.length_reverse] at h1
  omega
theorem pder_bytes' {l : List Nat} (h : bytesL l) : bytesL (pder l) := by
  rw [pder_rder, rbytes_eq]; exact trim_bytes (rev_bytes (rder_bytes (rof_bytes h)))
theorem peval_pder (x : Nat) {l : List Nat} (h : bytesL l) : peval x (pder l) = ev (dp x) l := by
  rw [peval_ev x (pder_bytes' h), ev_XS_more _ (pder l) l.length (pder_length_le l), ev_XS_more (dp x) l (l.length + 1) (Nat.le_succ _), XS_first]
  have h0 : gmul (co l 0) (dp x 0) = 0 := gmul_zero _
  rw [h0, Nat.zero_xor]
  refine XS_congr _ fun i _ => ?_
  rw [co_pder]
  unfold dp
  by_cases e : (i + 1) % 2 = 1
  · rw [if_pos e, if_pos e, Nat.add_sub_cancel]
  · rw [if_neg e, if_neg e, zero_gmul, gmul_zero]

/- roots -/
theorem lin_bytes {b : Nat} (hb : b < 256) : bytesL [1, b] := by
  intro y hy
  simp only [List.mem_cons, List.not_mem_nil, or_false] at hy
  rcases hy with rfl | rfl
  · omega
  · exact hb
theorem peval_lin (x b : Nat) (hx : x < 256) : peval x [1, b] = x ^^^ b := by
  show gmul (gmul 0 x ^^^ 1) x ^^^ b = _
  rw [zero_gmul, Nat.zero_xor, one_gmul x hx]
theorem dval_lin (x b : Nat) {s : List Nat} (hx : x < 256) (hb : b < 256) (hs : bytesL s) : ev (dp x) (ptwo s [1, b]) = gmul (x ^^^ b) (ev (dp x) s) ^^^ ev (gp x) s := by
  rw [ev_ptwo (dp x) (dp_lt x) hs]
  have h : ∀ p, ev (fun m => dp x (m + p)) [1, b] = gmul (x ^^^ b) (dp x p) ^^^ gp x p := by
    intro p
    show gmul 1 (dp x (1 + p)) ^^^ (gmul b (dp x (0 + p)) ^^^ 0) = _
    rw [Nat.xor_zero, Nat.zero_add, Nat.add_comm 1 p, one_gmul _ (dp_lt _ _), dp_succ, xor_gmul _ _ _ (dp_lt _ _) hx hb, Nat.xor_assoc, Nat.xor_assoc, Nat.xor_comm (gp x p)]
  rw [ev_congr s (fun p _ => h p), ev_add (W := fun p => gmul (x ^^^ b) (dp x p)) (V := gp x) (fun _ => gmul_lt _ _) (gp_lt x) hs, ev_mul _ (xor_lt hx hb)]
theorem xor_ne {x b : Nat} (h : x ≠ b) : x ^^^ b ≠ 0 := fun e => h (by
  have h2 := congrArg (fun y => y ^^^ b) e
  simp only [Nat.xor_assoc, Nat.xor_self, Nat.xor_zero, Nat.zero_xor] at h2
  exact h2)
/-- All that is asked of the polynomial of some roots. -/
theorem proots_is (x : Nat) (hx : x < 256) (l : List Nat) (hl : bytesL l) : bytesL (proots l) ∧ trim (proots l) = proots l ∧ (proots l).length = l.length + 1 ∧
    (peval x (proots l) = 0 ↔ 0 < l.count x) ∧ (2 ≤ l.count x → peval x (pder (proots l)) = 0) ∧ (l.count x = 1 → peval x (pder (proots l)) ≠ 0) := by
  have key : ∀ k, k ≤ l.length → ∀ r, r = proots (l.take k) → bytesL r ∧ trim r = r ∧ r.length = k + 1 ∧
      (peval x r = 0 ↔ 0 < (l.take k).count x) ∧ (2 ≤ (l.take k).count x → ev (dp x) r = 0) ∧ ((l.take k).count x = 1 → ev (dp x) r ≠ 0) := by
    intro k
    induction k with
    | zero =>
      intro _ r hr
      subst hr
      refine ⟨fun y hy => ?_, rfl, rfl, ?_, fun h => ?_, fun h => ?_⟩
      · have : y ∈ [1] := hy
        simp at this; omega
      · show pevalFrom x 0 [1] = 0 ↔ _
        have : pevalFrom x 0 [1] = 1 := by show gmul 0 x ^^^ 1 = 1; rw [zero_gmul]; rfl
        rw [this]; simp
      · simp at h
      · simp at h
    | succ k ih =>
      intro hk r hr
      have hs : proots (l.take (k + 1)) = ptwo (proots (l.take k)) [1, l.getD k 0] := by
        unfold proots
        rw [take_getD l k (by omega), List.map_append, List.map_singleton, pmul_snoc]
      have hb : l.getD k 0 < 256 := bytesL_getD hl k
      have hc : (l.take (k + 1)).count x = (l.take k).count x + if l.getD k 0 = x then 1 else 0 := by
        rw [take_getD l k (by omega), List.count_append, List.count_singleton]
        congr 1
        by_cases e : l.getD k 0 = x
        · simp [e]
        · simp [e]
      obtain ⟨h1, h2, h3, h4, h5, h6⟩ := ih (by omega) _ rfl
      rw [hs] at hr
      subst hr
      generalize proots (l.take k) = s at *
      generalize l.getD k 0 = b at *
      generalize (l.take k).count x = t at *
      have hv := peval_ptwo x h1 (lin_bytes hb)
      rw [peval_lin x b hx] at hv
      have hd := dval_lin x b hx hb h1
      rw [← peval_ev x h1] at hd
      refine ⟨ptwo_bytes h1 (lin_bytes hb), ptwo_trim _ _, ?_, ?_⟩
      · have hlin : trim [1, b] = [1, b] := by simp [trim]
        unfold ptwo
        rw [h2, hlin, if_neg (by intro h; rcases h with h | h; · rw [h] at h3; simp at h3
                                 · simp at h), convTo_length, List.length_replicate, h3]
        simp
      · rw [hv, hd, hc]
        by_cases e : b = x
        · rw [if_pos e, e, Nat.xor_self, gmul_zero, zero_gmul, Nat.zero_xor]
          refine ⟨⟨fun _ => by omega, fun _ => rfl⟩, fun h => h4.2 (by omega), fun h h0 => ?_⟩
          have := h4.1 h0
          omega
        · have hu := xor_ne (x := x) (b := b) (fun h => e h.symm)
          rw [if_neg e, Nat.add_zero]
          refine ⟨?_, fun h => ?_, fun h => ?_⟩
          · rw [gmul_eq_zero]
            constructor
            · intro h; rcases h with h | h
              · exact h4.1 h
              · exact absurd h hu
            · intro h; exact .inl (h4.2 h)
          · rw [h5 h, h4.2 (by omega), gmul_zero]; rfl
          · rw [h4.2 (by omega), Nat.xor_zero]
            exact gmul_ne hu (h6 h)
  have := key l.length (Nat.le_refl _) _ rfl
  rw [List.take_length] at this
  obtain ⟨h1, h2, h3, h4, h5, h6⟩ := this
  rw [peval_pder x h1]
  exact ⟨h1, h2, h3, h4, h5, h6⟩
end Tri

namespace Tri
/-- The powers of x that a code's words are 0 at. -/
def powers (p : Nat) : List Nat := (List.range p).map gexp
/-- The polynomial that divides a code's words. -/
def rgen (p : Nat) : List Nat := proots (powers p)
theorem powers_length (p : Nat) : (powers p).length = p := by unfold powers; simp
theorem powers_bytes (p : Nat) : bytesL (powers p) := by
  intro x hx
  unfold powers at hx
  obtain ⟨i, _, rfl⟩ := List.mem_map.1 hx
  exact gexp_lt i
theorem powers_take (p k : Nat) (h : k < p) : (powers p).take (k + 1) = (powers p).take k ++ [gexp k] := by
  rw [List.take_succ_eq_append_getElem (by rw [powers_length]; exact h)]
  congr 2
  unfold powers
  simp
theorem rgen_is (p : Nat) : bytesL (rgen p) ∧ trim (rgen p) = rgen p ∧ (rgen p).length = p + 1 := by
  obtain ⟨h1, h2, h3, _⟩ := proots_is 0 (by decide) (powers p) (powers_bytes p)
  rw [powers_length] at h3
  exact ⟨h1, h2, h3⟩
end Tri
namespace Go.Proofs.Ytgckhekikcdaiaa
open Go.RowKit Tri

/-- A code in memory. -/
def isR (w : World) (c f n k : Nat) : Prop :=
  ∃ pg cg, w.heap[c]? = some (.cells #[.pointer (some ⟨f, 0, none⟩), .int .i64 (n : Nat), .int .i64 (k : Nat), .slice pg (rgen (n - k)).length cg] 69) ∧ (rgen (n - k)).length ≤ cg ∧ cellsB w pg (rgen (n - k)) ∧ isF w f
theorem isR.below {w w' : World} {c f n k : Nat} (h : isR w c f n k) (hb : Below w.heap.size w w') : isR w' c f n k := by
  obtain ⟨pg, cg, h1, h2, h3, h4⟩ := h
  exact ⟨pg, cg, by rw [hb.block c (Array.getElem?_eq_some_iff.1 h1).1]; exact h1, h2, h3.below hb, h4.below hb h4.lt⟩
theorem isR.field {w : World} {c f n k : Nat} (h : isR w c f n k) : w.cell? ⟨c, 0, none⟩ = some (.pointer (some ⟨f, 0, none⟩)) := by
  obtain ⟨pg, cg, h1, _⟩ := h
  rw [cell_of_row w c 0 _ _ _ h1]; rfl
theorem isR.n {w : World} {c f n k : Nat} (h : isR w c f n k) : w.cell? ⟨c, 1, none⟩ = some (.int .i64 (n : Nat)) := by
  obtain ⟨pg, cg, h1, _⟩ := h
  rw [cell_of_row w c 1 _ _ _ h1]; rfl
theorem isR.k {w : World} {c f n k : Nat} (h : isR w c f n k) : w.cell? ⟨c, 2, none⟩ = some (.int .i64 (k : Nat)) := by
  obtain ⟨pg, cg, h1, _⟩ := h
  rw [cell_of_row w c 2 _ _ _ h1]; rfl
theorem isR.fld {w : World} {c f n k : Nat} (h : isR w c f n k) : isF w f := by
  obtain ⟨pg, cg, _, _, _, h4⟩ := h
  exact h4
theorem isR.gen {w : World} {c f n k : Nat} (h : isR w c f n k) : ∃ pg cg, w.cell? ⟨c, 3, none⟩ = some (.slice pg (rgen (n - k)).length cg) ∧ (rgen (n - k)).length ≤ cg ∧ cellsB w pg (rgen (n - k)) := by
  obtain ⟨pg, cg, h1, h2, h3, _⟩ := h
  refine ⟨pg, cg, ?_, h2, h3⟩
  rw [cell_of_row w c 3 _ _ _ h1]; rfl
theorem Keeps.nw {w0 w w' : World} {b : Nat} (h : Keeps w0 b w) (h' : Below w.heap.size w w') : Keeps w0 b w' :=
  ⟨h.1.trans (h'.mono h.1.size), h.2.below h' h.2.lt⟩

set_option maxHeartbeats 1000000 in
set_option maxRecDepth 100000 in
theorem rs_New_bad (f : Nat) (n k : Int) (w : World) (hn : -9223372036854775808 ≤ n ∧ n < 9223372036854775808) (hk : -9223372036854775808 ≤ k ∧ k < 9223372036854775808) (h : ¬ (1 ≤ k ∧ k < n ∧ n ≤ 255 ∧ n - k ≤ 64)) :
    Calls Try.prog 11 #[.pointer (some ⟨f, 0, none⟩), .int .i64 n, .int .i64 k] w fun e w' => e = .returned (.tuple #[.pointer none, .int .i64 1]) ∧ w = w' := by
  (go_enter Try.func11, Try.ntmps11; try simp only [List.append])
  by_cases h1 : k < 1
  · have ht : decide (k < 1) = true := decide_eq_true h1
    clear h
    go_wp2_with ((with_reducible refine wpList_unguard ?_ ?_); (focus rfl))
    refine bodyPost_ret (v := .tuple #[.pointer none, .int .i64 1]) (by simp [results, Try.results11, go_sem]) rfl ⟨rfl, rfl⟩
  · have ht : decide (k < 1) = false := decide_eq_false h1
    by_cases h2 : n ≤ k
    · have ht2 : decide (n ≤ k) = true := decide_eq_true h2
      clear h
      go_wp2_with ((with_reducible refine wpList_unguard ?_ ?_); (focus rfl))
      refine bodyPost_ret (v := .tuple #[.pointer none, .int .i64 1]) (by simp [results, Try.results11, go_sem]) rfl ⟨rfl, rfl⟩
    · have ht2 : decide (n ≤ k) = false := decide_eq_false h2
      by_cases h3 : 255 < n
      · have ht3 : decide (255 < n) = true := decide_eq_true h3
        clear h
        go_wp2_with ((with_reducible refine wpList_unguard ?_ ?_); (focus rfl))
        refine bodyPost_ret (v := .tuple #[.pointer none, .int .i64 1]) (by simp [results, Try.results11, go_sem]) rfl ⟨rfl, rfl⟩
      · have ht3 : decide (255 < n) = false := decide_eq_false h3
        have hw : IntKind.i64.wrap (n - k) = n - k := by rw [IntKind.wrap_i64]; omega
        have ht4 : decide (64 < n - k) = true := decide_eq_true (by omega)
        clear h
        go_wp2_with ((with_reducible refine wpList_unguard ?_ ?_); (focus rfl))
        refine bodyPost_ret (v := .tuple #[.pointer none, .int .i64 1]) (by simp [results, Try.results11, go_sem]) rfl ⟨rfl, rfl⟩
set_option maxHeartbeats 2000000 in
set_option maxRecDepth 100000 in
theorem rs_New (f n k : Nat) (w : World) (hF : isF w f) (h1 : 1 ≤ k) (h2 : k < n) (h3 : n ≤ 255) (h4 : n - k ≤ 64) :
    Calls Try.prog 11 #[.pointer (some ⟨f, 0, none⟩), .int .i64 n, .int .i64 k] w fun e w' => ∃ c, e = .returned (.tuple #[.pointer (some ⟨c, 0, none⟩), .int .i64 0]) ∧ isR w' c f n k ∧ Below w.heap.size w w' := by
  have HF := hid hF
  clear hF
  obtain ⟨i0, hi, hz0, hz1, hz2⟩ := info_parts Try.infoB
  obtain ⟨p, hp⟩ : ∃ p, n - k = p := ⟨_, rfl⟩
  have hnk : (n : Int) - (k : Int) = (p : Int) := by omega
  have hw : IntKind.i64.wrap (p : Int) = (p : Int) := by rw [IntKind.wrap_i64]; omega
  have ht1 : decide ((k : Int) < 1) = false := decide_eq_false (by omega)
  have ht2 : decide ((n : Int) ≤ (k : Int)) = false := decide_eq_false (by omega)
  have ht2n : decide (n ≤ k) = false := decide_eq_false (by omega)
  have hnle : ¬ n ≤ k := by omega
  have ht3 : decide (255 < (n : Int)) = false := decide_eq_false (by omega)
  have ht4 : decide (64 < (p : Int)) = false := decide_eq_false (by omega)
  have HP := hid hp
  have hp64 : p ≤ 64 := by omega
  have HPT : Hid (∀ j, j < p → (powers p).take (j + 1) = (powers p).take j ++ [gexp j]) := fun j hj => powers_take p j hj
  have HPl := hid (powers_length p)
  have HPB := hid (powers_bytes p)
  have HPR : Hid (rgen p = proots (powers p)) := rfl
  generalize powers p = S at *
  clear hp
  (go_enter Try.func11, Try.ntmps11; try simp only [List.append])
  go_wp2_with ((with_reducible refine wpList_unguard ?_ ?_); (focus rfl))
  go_loopw [8, 34] (fun s i wr => ∃ j : Nat, j ≤ p ∧ i = .int .i64 j ∧ ownsB wr w.heap.size s (S.take j) ∧ Keeps w f wr) (fun _ i _ => p - (intOf i).toNat)
  case atStart => exact ⟨0, Nat.zero_le _, rfl, World.ownsRow_nil _ _ _ _, Below.refl _ _, HF.out⟩
  case round =>
    obtain ⟨j, hj, rfl, hO, hK⟩ := hrel
    have HO := hid hO
    have K := hid hK
    clear hO hK
    by_cases hlt : j < p
    · have HS := hid (HPT.out j hlt)
      have hgl := gexp_lt j
      have hkl : (S.take j).length ≤ 1000000 := by rw [List.length_take]; omega
      have hge : gexpZ (j : Int) = gexp j := gexpZ_nat j
      generalize hs2 : S.take (j + 1) = S2 at *
      have HS2 := hid hs2
      clear hs2
      generalize S.take j = S1 at *
      go_wp2_with ((with_reducible refine wpList_unguard ?_ ?_); (focus rfl))
      refine Calls.mono (gf_Exp f (j : Int) wr K.out.2) ?_; rintro e w' ⟨rfl, rfl⟩
      rw [hge]
      clear hge
      generalize gexp j = y at *
      go_wp2_with (at_builtin; refine wpList_push rfl _ _ 22 rfl w.heap.size 5 i0 .u8 1 Try.underlying22 hi hz0 hz1 hz2 (by decide) _ S1 y HO.out rfl _ rfl rfl hkl K.out.1.size ?_)
      intro v' w' hown' hbel
      have hO' : Hid (ownsB w' w.heap.size v' S2) := by show ownsB _ _ _ _; rw [HS.out]; exact hown'
      have K' : Hid (Keeps w f w') := ⟨K.out.1.trans hbel, HF.out.below (K.out.1.trans hbel) HF.out.lt⟩
      clear hown' hbel
      go_wp2_with ((with_reducible refine wpList_unguard ?_ ?_); (focus rfl))
      go_roundw
      case rel => exact ⟨j + 1, by omega, by go_num, by rw [HS2.out]; exact hO'.out, K'.out⟩
      case measure => simp [intOf]; omega
    · have hT : Hid (S.take j = S) := by show _ = _; exact List.take_of_length_le (by rw [HPl.out]; omega)
      rw [hT.out] at HO
      obtain ⟨p', c', rfl, hcb⟩ := HO.out.cells
      have HC := hid hcb
      clear hcb
      go_wp2_with ((with_reducible refine wpList_unguard ?_ ?_); (focus rfl))
      refine Calls.mono (poly_Roots f p' _ c' S wr K.out.2 rfl HC.out HPB.out (by rw [HPl.out]; omega)) ?_
      rintro e w2 ⟨q2, d2, rfl, hle2, hq2, hbel⟩
      have K2 := hid (K.out.nw hbel)
      rw [← HPR.out] at hle2 hq2 ⊢
      have HQ2 := hid hq2
      clear hq2 hbel
      have hR : Hid (isR (w2.alloc (.cells #[.pointer (some ⟨f, 0, none⟩), .int .i64 (n : Nat), .int .i64 (k : Nat), .slice q2 (rgen p).length d2] 69)) w2.heap.size f n k) := by
        refine ⟨q2, d2, ?_, ?_, ?_, K2.out.2.alloc _⟩
        · rw [HP.out]; exact heap_alloc_new w2 _
        · rw [HP.out]; exact hle2
        · rw [HP.out]; exact HQ2.out.alloc _
      have hB := hid (K2.out.1.alloc K2.out.1.size (.cells #[.pointer (some ⟨f, 0, none⟩), .int .i64 (n : Nat), .int .i64 (k : Nat), .slice q2 (rgen p).length d2] 69))
      generalize rgen p = G at *
      go_wp2_with ((with_reducible refine wpList_unguard ?_ ?_); (focus rfl))
      refine bodyPost_ret (v := .tuple #[.pointer (some ⟨w2.heap.size, 0, none⟩), .int .i64 0]) (by simp [results, Try.results11, go_sem]) rfl ⟨_, rfl, hR.out, hB.out⟩
end Go.Proofs.Ytgckhekikcdaiaa
