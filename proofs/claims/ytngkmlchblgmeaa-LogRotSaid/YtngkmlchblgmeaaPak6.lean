/-
  Plain: unlike records have unlike pages; a page in which one byte is turned is none's.
  Plain: a record's page is read back; unlike records have unlike pages; what a turned page is.
  A device: Erase.
  What stays of a device's bytes and locks (plain).
  What 'make' lays: rows of bytes, of bools and of ints, all nought.
  flash.New.
  Plain: what is left of a record's page that was programmed on a blank one and torn is that page, or none's.
  Versions as values, in the program.
  The document's example of records holds in the program.
  '==' of two records by value.
  The reference of chapter 14: Right.
  A device: Program.
-/
import Derived.Test.YtngkmlchblgmeaaPak5
import Derived.Test.YtngkmlchblgmeaaPak2
import Derived.BigRegion
import Derived.Test.YtngkmlchblgmeaaPak1
import Derived.Laws.MakeOwn
import Derived.Test.YtngkmlchblgmeaaShelf
import Derived.Laws.BitsAllLaws
namespace Go.Proofs.Ytngkmlchblgmeaa
open Go.RowKit Tri

theorem one_turn : ∀ i, i < 12 → ∀ t, t < 256 → t ≠ 0 → csts (8 * (12 - i)) t ≠ 1 := by decide +kernel
theorem creg_zeros (n : Nat) (r : Nat) (hr : r < 2 ^ 32) : creg r (List.replicate n 0) = csts (8 * n) r := by
  induction n generalizing r with
  | zero => rfl
  | succ n ih =>
    have h1 : cbyte r 0 = csts 8 r := by rw [cbyte_eq r 0 (by omega), Nat.xor_zero]
    show creg (cbyte r 0) (List.replicate n 0) = _
    rw [h1, ih _ (csts_lt 8 r hr), ← csts_add]
    congr 1
    omega
theorem creg_err (i t : Nat) (hi : i < 12) (ht : t < 256) : creg 0 (List.replicate i 0 ++ t :: List.replicate (11 - i) 0) = csts (8 * (12 - i)) t := by
  rw [creg_append, creg_zeros i 0 (by omega)]
  have h0 : ∀ n, csts n 0 = 0 := by
    intro n
    induction n with
    | zero => rfl
    | succ n ih => show csts n (cst 0) = 0; exact ih
  rw [h0]
  show creg (cbyte 0 t) (List.replicate (11 - i) 0) = _
  rw [cbyte_eq 0 t ht, Nat.zero_xor, creg_zeros _ _ (csts_lt 8 t (by omega)), ← csts_add]
  congr 1
  omega
/-- One byte turned. -/
def turn1 (l : List Nat) (i t : Nat) : List Nat := l.set i (l.getD i 0 ^^^ t)
theorem turn1_zip (l : List Nat) (i t : Nat) (hl : l.length = 12) (hi : i < 12) : turn1 l i t = List.zipWith (· ^^^ ·) l (List.replicate i 0 ++ t :: List.replicate (11 - i) 0) := by
  apply List.ext_getElem
  · unfold turn1; simp; omega
  · intro j h1 h2
    have hj : j < 12 := by unfold turn1 at h1; simp at h1; omega
    simp only [turn1, List.getElem_set, List.getElem_zipWith]
    by_cases h : i = j
    · subst h
      simp [hi, hl]
    · rw [if_neg h]
      rcases Nat.lt_or_ge j i with h3 | h3
      · rw [List.getElem_append_left (by simpa using h3)]; simp
      · rw [List.getElem_append_right (by simpa using h3)]
        rw [List.getElem_cons]
        simp only [List.length_replicate]
        rw [dif_neg (by omega)]
        simp
theorem csum_turn1 (l : List Nat) (i t : Nat) (hb : ∀ y ∈ l, y < 256) (hl : l.length = 12) (hi : i < 12) (ht : t < 256) (h0 : t ≠ 0) : csum l ^^^ csum (turn1 l i t) ≠ 0 ∧ csum l ^^^ csum (turn1 l i t) ≠ 1 := by
  have he : ∀ y ∈ (List.replicate i 0 ++ t :: List.replicate (11 - i) 0), y < 256 := by
    intro y hy
    simp only [List.mem_append, List.mem_cons, List.mem_replicate] at hy
    omega
  have hz := creg_zip l (List.replicate i 0 ++ t :: List.replicate (11 - i) 0) hb he (by simp; omega) 4294967295 0
  rw [← turn1_zip l i t hl hi, Nat.xor_zero, creg_err i t hi ht] at hz
  have hm : ∀ y ∈ turn1 l i t, y < 256 := by
    intro y hy
    unfold turn1 at hy
    rcases List.mem_or_eq_of_mem_set hy with h | h
    · exact hb y h
    · subst h
      refine Nat.xor_lt_two_pow (n := 8) ?_ ht
      rw [List.getD_eq_getElem?_getD, List.getElem?_eq_getElem (by omega)]
      exact hb _ (List.getElem_mem _)
  have e1 : csum l = 4294967295 ^^^ creg 4294967295 l := by unfold csum; rw [not_xor _ (creg_lt l hb _ (by omega))]
  have e2 : csum (turn1 l i t) = 4294967295 ^^^ creg 4294967295 (turn1 l i t) := by unfold csum; rw [not_xor _ (creg_lt _ hm _ (by omega))]
  have e3 : csum l ^^^ csum (turn1 l i t) = csts (8 * (12 - i)) t := by
    rw [e1, e2, hz]
    apply Nat.eq_of_testBit_eq
    intro j
    simp only [Nat.testBit_xor]
    cases Nat.testBit 4294967295 j <;> cases (creg 4294967295 l).testBit j <;> cases (csts (8 * (12 - i)) t).testBit j <;> rfl
  rw [e3]
  exact ⟨fun h => h0 (csts_zero (by omega) h), one_turn i hi t ht h0⟩
theorem recSum_turn1 (l : List Nat) (i t : Nat) (hb : ∀ y ∈ l, y < 256) (hl : l.length = 12) (hi : i < 12) (ht : t < 256) (h0 : t ≠ 0) : recSum (turn1 l i t) ≠ recSum l := by
  intro h
  obtain ⟨h1, h2⟩ := csum_turn1 l i t hb hl hi ht h0
  have hc : ∀ m : List Nat, csum m ≤ 4294967295 := fun m => by unfold csum; omega
  have c1 := hc l
  have c2 := hc (turn1 l i t)
  unfold recSum at h
  generalize csum (turn1 l i t) = b at *
  generalize csum l = a at *
  by_cases e : a = b
  · subst e; simp at h1
  · rcases (show a = 4294967294 ∧ b = 4294967295 ∨ a = 4294967295 ∧ b = 4294967294 by omega) with ⟨rfl, rfl⟩ | ⟨rfl, rfl⟩
    · exact h2 (by decide)
    · exact h2 (by decide)
theorem putB4_inj' {x y : Nat} (hx : x < 2 ^ 32) (hy : y < 2 ^ 32) (h : putB 4 x = putB 4 y) : x = y := by
  simp [putB, List.range_succ] at h
  omega
theorem recSum_lt (l : List Nat) : recSum l < 2 ^ 32 := by unfold recSum; omega
/-- A turned page is none's. -/
theorem turn_none (k s n v k' s' n' v' i t : Nat) (hi : i < 16) (ht : t < 256) (h0 : t ≠ 0) : recP k' s' n' v' ≠ turn1 (recP k s n v) i t := by
  intro h
  have hL := recL_len k s n v
  have hL' := recL_len k' s' n' v'
  have hb := recL_lt k s n v
  unfold recP at h
  generalize recL k' s' n' v' = M at *
  generalize recL k s n v = L at *
  by_cases h12 : i < 12
  · have e : turn1 (L ++ putB 4 (recSum L)) i t = turn1 L i t ++ putB 4 (recSum L) := by
      unfold turn1
      rw [List.set_append_left _ _ (by omega)]
      congr 2
      rw [List.getD_eq_getElem?_getD, List.getD_eq_getElem?_getD, List.getElem?_append_left (by omega)]
    rw [e] at h
    have hlen : M.length = (turn1 L i t).length := by unfold turn1; simp; omega
    obtain ⟨e1, e2⟩ := List.append_inj h hlen
    subst e1
    exact recSum_turn1 L i t hb hL h12 ht h0 (putB4_inj' (recSum_lt _) (recSum_lt _) e2)
  · have e : turn1 (L ++ putB 4 (recSum L)) i t = L ++ (putB 4 (recSum L)).set (i - L.length) ((L ++ putB 4 (recSum L)).getD i 0 ^^^ t) := by
      unfold turn1
      rw [List.set_append_right _ _ (by omega)]
    rw [e] at h
    obtain ⟨e1, e2⟩ := List.append_inj h (by omega)
    subst e1
    have hi4 : i - M.length < (putB 4 (recSum M)).length := by rw [putB_length]; omega
    have e3 : (M ++ putB 4 (recSum M)).getD i 0 = (putB 4 (recSum M)).getD (i - M.length) 0 := by
      rw [List.getD_eq_getElem?_getD, List.getD_eq_getElem?_getD, List.getElem?_append_right (by omega)]
    rw [e3] at e2
    have e4 := congrArg (fun q => q.getD (i - M.length) 0) e2
    simp only [List.getD_eq_getElem?_getD, List.getElem?_set_self hi4] at e4
    rw [List.getElem?_eq_getElem hi4] at e4
    simp only [Option.getD_some] at e4
    have e5 := congrArg (fun q => (putB 4 (recSum M))[i - M.length] ^^^ q) e4
    simp only [← Nat.xor_assoc, Nat.xor_self, Nat.zero_xor] at e5
    exact h0 e5.symm
end Go.Proofs.Ytngkmlchblgmeaa

namespace Go.Proofs.Ytngkmlchblgmeaa
open Go.RowKit Tri

theorem recP_eq (k s n v : Nat) : recP k s n v = [k % 256, s % 256, n / 256 % 256, n % 256, v / 1099511627776 % 256, v / 4294967296 % 256, v / 16777216 % 256, v / 65536 % 256, v / 256 % 256, v % 256] ++ (putB 2 0 ++ putB 4 (recSum (recL k s n v))) := by
  unfold recP
  rw [show recL k s n v = [k % 256, s % 256, n / 256 % 256, n % 256, v / 1099511627776 % 256, v / 4294967296 % 256, v / 16777216 % 256, v / 65536 % 256, v / 256 % 256, v % 256] ++ putB 2 0 from by simp [recL, putB, List.range_succ], List.append_assoc]
theorem pg_recP (k s n v : Nat) (hk : k ≤ 127) (hs : s ≤ 3) (hn : n ≤ 65535) (hv : v ≤ 281474976710655) :
    pgK (recP k s n v) = k ∧ pgS (recP k s n v) = s ∧ pgN (recP k s n v) = n ∧ pgV (recP k s n v) = v := by
  rw [recP_eq]
  generalize putB 2 0 ++ putB 4 (recSum (recL k s n v)) = R
  refine ⟨?_, ?_, ?_, ?_⟩
  · simp [pgK, numB]; omega
  · simp [pgS, numB]; omega
  · simp [pgN, numB]; omega
  · simp [pgV, numB]; omega
theorem getOk_recP (k s n v : Nat) (hk : k ≤ 127) (hs : s ≤ 3) (hn : n ≤ 65535) (hv : v ≤ 281474976710655) : getOk (recP k s n v) = true := by
  obtain ⟨h1, h2, h3, h4⟩ := pg_recP k s n v hk hs hn hv
  unfold getOk
  rw [h1, h2, h3, h4, recOk_iff.2 ⟨hk, hs, hn, hv⟩]
  simp
theorem recP_inj {k s n v k' s' n' v' : Nat} (hk : k ≤ 127) (hs : s ≤ 3) (hn : n ≤ 65535) (hv : v ≤ 281474976710655) (hk' : k' ≤ 127) (hs' : s' ≤ 3) (hn' : n' ≤ 65535) (hv' : v' ≤ 281474976710655)
    (h : recP k s n v = recP k' s' n' v') : k = k' ∧ s = s' ∧ n = n' ∧ v = v' := by
  obtain ⟨h1, h2, h3, h4⟩ := pg_recP k s n v hk hs hn hv
  obtain ⟨g1, g2, g3, g4⟩ := pg_recP k' s' n' v' hk' hs' hn' hv'
  rw [h] at h1 h2 h3 h4
  exact ⟨h1.symm.trans g1, h2.symm.trans g2, h3.symm.trans g3, h4.symm.trans g4⟩
theorem getOk_turn (k s n v i t : Nat) (hi : i < 16) (ht : t < 256) (h0 : t ≠ 0) : getOk (turn1 (recP k s n v) i t) = false := by
  unfold getOk
  rw [decide_eq_false (turn_none k s n v _ _ _ _ i t hi ht h0), Bool.and_false]
theorem turn1_zero (l : List Nat) (i : Nat) : turn1 l i 0 = l := by
  unfold turn1
  rw [Nat.xor_zero]
  by_cases h : i < l.length
  · rw [List.getD_eq_getElem?_getD, List.getElem?_eq_getElem h]; simp
  · rw [List.set_eq_of_length_le (by omega)]
end Go.Proofs.Ytngkmlchblgmeaa

namespace Tri
open Go Go.RowKit
theorem partN_done (s : FS) (k : Nat) : partN s k = (s.done k : Nat) := by
  unfold partN FS.done
  split
  · have := Int.emod_nonneg s.k (b := (k + 1 : Int)) (by omega)
    omega
  · rfl
theorem partS_b (s : FS) : (partS s).b = s.b := by unfold partS; repeat (first | rfl | split)
theorem partS_lk (s : FS) : (partS s).lk = s.lk := by unfold partS; repeat (first | rfl | split)
theorem partS_wr (s : FS) : (partS s).wr = s.wr := by unfold partS; repeat (first | rfl | split)
theorem partS_m (s : FS) : (partS s).m = s.m := by unfold partS; repeat (first | rfl | split)
theorem partS_k (s : FS) : (partS s).k = s.k := by unfold partS; repeat (first | rfl | split)
theorem partS_set (s : FS) (b : List Nat) (wr : List Int) : { partS { s with wr := wr } with b := b } = { partS s with b := b, wr := wr } := by
  unfold partS
  simp only
  repeat (first | rfl | split)
theorem partS_dn (s : FS) (h : s.dn = false) : (partS s).dn = decide (s.lf = 0) := by
  unfold partS
  split
  · rename_i h0; rw [decide_eq_true h0]
  · rename_i h0
    split <;> (rw [decide_eq_false h0]; exact h)
end Tri
namespace Go.Proofs.Ytngkmlchblgmeaa
open Go.RowKit Tri

theorem dev_wrong_nil (w : World) (at_ k : Int) :
    Calls Try.prog 106 #[.pointer none, .int .i64 at_, .int .i64 k] w fun e w' => e = .returned (.int .i64 1) ∧ w = w' := by
  (go_enter Try.func106, Try.ntmps106; try simp only [List.append])
  go_wp2_with ((with_reducible refine wpList_unguard ?_ ?_); (focus rfl))
  go_ret
  exact ⟨rfl, rfl⟩
set_option maxHeartbeats 8000000 in
set_option maxRecDepth 100000 in
theorem dev_Erase_ok (i : DI) (n : Nat) (s : FS) (w : World) (c : Nat) (h : DevP w i n s) (hd : s.dn = false) (hc : c < n) (hl : s.lk.getD c false = false) :
    Calls Try.prog 75 #[.pointer (some ⟨i.D, 0, none⟩), .int .i64 c] w fun e w' =>
      e = .returned (.int .i64 ((if s.lf = 0 then 5 else 0 : Nat) : Int)) ∧ DevP w' i n { partS s with b := s.wroteB (fun _ _ => 255) (fun _ x => x ||| s.m) (64 * c) 64, wr := s.wr.set c (wrap64 (s.wr.getD c 0 + 1)) } ∧ Out i.lo i.hi w w' := by
  have hn : n ≤ 512 := h.fs.2.2.2.1
  have hcb := h.cb
  have hcl := h.cl
  have hcw := h.cw
  have hok := hid h.ok
  have hW := hid (dev_wrong i n s w (64 * c : Nat) 64 h (by omega) (by omega))
  rw [hd, show wrongE n false ((64 * c : Nat) : Int) 64 = 0 from wrongE_of ⟨rfl, by omega, by omega, by omega⟩, show ((64 * c : Nat) : Int) = (c : Int) * 64 from by omega] at hW
  have c3 := h.c3
  have c4 := h.c4
  have c5 := h.c5
  have cl := h.lAt c hc
  rw [hl] at cl
  have cw := h.wAt c hc
  have fw := h.wFree c hc
  obtain ⟨x, hx⟩ : ∃ x, s.wr.getD c 0 = x := ⟨_, rfl⟩
  rw [hx] at cw
  have H1 := hid (h.setW c (wrap64 (x + 1)) hc)
  have O1 : Hid (Out i.lo i.hi w (w.setCell ⟨i.W, c, none⟩ (.int .i64 (wrap64 (x + 1))))) := by
    have h5 := h.ok
    unfold DI.ok at h5
    exact (Out.refl _ _ w).set _ _ (by show i.lo ≤ i.W; omega) (by show i.W < i.hi; omega)
  obtain ⟨w1, hw1⟩ : ∃ u, w.setCell ⟨i.W, c, none⟩ (.int .i64 (wrap64 (x + 1))) = u := ⟨_, rfl⟩
  rw [hw1] at H1 O1
  have hP := hid (dev_part i n { s with wr := s.wr.set c (wrap64 (x + 1)) } w1 64 H1.out (by omega))
  have hlf : (partS { s with wr := s.wr.set c (wrap64 (x + 1)) }).dn = decide (s.lf = 0) := partS_dn _ hd
  have hdone : Hid (s.done 64 ≤ 64) := s.done_le 64
  rw [partN_done, show ({ s with wr := s.wr.set c (wrap64 (x + 1)) } : FS).done 64 = s.done 64 from rfl, show ({ s with wr := s.wr.set c (wrap64 (x + 1)) } : FS).lf = s.lf from rfl] at hP
  have hb0 : (partS { s with wr := s.wr.set c (wrap64 (x + 1)) }).b = s.b := partS_b _
  have hm0 : (partS { s with wr := s.wr.set c (wrap64 (x + 1)) }).m = s.m := partS_m _
  have hbl : s.b.length = 64 * n := h.fs.1
  have hmlt := h.fs.2.2.2.2.1
  have hEnd : Hid (∀ b, { partS { s with wr := s.wr.set c (wrap64 (x + 1)) } with b := b } = { partS s with b := b, wr := s.wr.set c (wrap64 (x + 1)) }) := fun b => partS_set s b _
  have hWB : Hid (s.wroteB (fun _ _ => 255) (fun _ x => x ||| s.m) (64 * c) 64 = if s.lf = 0 ∧ s.done 64 < 64 then (fillB (fun _ _ => 255) (64 * c) (s.done 64) s.b).set (64 * c + s.done 64) (s.b.getD (64 * c + s.done 64) 0 ||| s.m) else fillB (fun _ _ => 255) (64 * c) (s.done 64) s.b) := rfl
  have HLT : Hid (∀ j, s.b.getD j 0 < 256) := fun j => h.bLt j
  rw [hx]
  have hD : Hid (decide (s.lf ≠ 0) = !decide (s.lf = 0)) := by by_cases hz : s.lf = 0 <;> simp [hz, Hid]
  rw [hD.out] at hP
  clear h hD
  obtain ⟨m, hm⟩ : ∃ m, s.done 64 = m := ⟨_, rfl⟩
  rw [hm] at hP hdone hWB
  obtain ⟨z, hz⟩ : ∃ z, decide (s.lf = 0) = z := ⟨_, rfl⟩
  rw [hz] at hP hlf
  obtain ⟨s2, hs2⟩ : ∃ s2, partS { s with wr := s.wr.set c (wrap64 (x + 1)) } = s2 := ⟨_, rfl⟩
  rw [hs2] at hP hlf hb0 hm0 hEnd
  have hmle := hdone.out
  have q1 : decide ((c : Int) < 0) = false := decide_eq_false (by omega)
  have q2 : decide ((512 : Int) ≤ c) = false := decide_eq_false (by omega)
  have hz0 : ¬ (i.cb = c * 64) := by omega
  have hWS : Hid (wrap64 (x + 1) = wrap64 (x + 1)) := rfl
  have HB0 := hid hb0
  have HM0 := hid hm0
  have HLF := hid hlf
  have HZ := hid hz
  clear hb0 hm0 hlf hz hs2 hm hx hl hd
  generalize s.wr.set c (wrap64 (x + 1)) = wr1 at *
  obtain ⟨R, hR⟩ : ∃ R, (if s.lf = 0 then 5 else 0 : Nat) = R := ⟨_, rfl⟩
  rw [hR]
  have HR := hid hR
  clear hR
  (go_enter Try.func75, Try.ntmps75; try simp only [List.append])
  go_wp2_with ((with_reducible refine wpList_unguard ?_ ?_); (focus rfl))
  refine Calls.mono hW.out ?_; rintro e w0 ⟨rfl, rfl⟩
  go_wp2_with ((with_reducible refine wpList_unguard ?_ ?_); (focus rfl))
  refine Calls.mono hP.out ?_; rintro e w2 ⟨rfl, hD2, hO2⟩
  have HD2 := hid hD2
  have HO2 := hid (O1.out.trans hO2)
  clear hD2 hO2 O1 H1 hP hW hw1 c3 c4 c5 cl cw fw
  go_wp2_with ((with_reducible refine wpList_unguard ?_ ?_); (focus rfl))
  go_loopw [57, 10] (fun v _ wr => ∃ k : Nat, k ≤ m ∧ v = .int .i64 k ∧ DevP wr i n { s2 with b := fillB (fun _ _ => 255) (c * 64) k s.b } ∧ Out i.lo i.hi w wr) (fun v _ _ => m - (intOf v).toNat)
  case atStart =>
    refine ⟨0, Nat.zero_le _, rfl, ?_, HO2.out⟩
    rw [fillB_zero, ← HB0.out]
    exact HD2.out
  case round =>
    obtain ⟨k, hk, rfl, hD3, hO3⟩ := hrel
    have HD3 := hid hD3
    have HO3 := hid hO3
    clear hO3
    by_cases hlt : k < m
    · have hkb : c * 64 + k < 64 * n := by omega
      have cb := hD3.bAt _ hkb
      have fb := hD3.bFree _ hkb
      have HN := hid (hD3.setB (c * 64 + k) 255 hkb (by omega))
      have hstep := fillB_step (fun _ _ => 255) (c * 64) k s.b (by omega)
      try simp only at hstep
      simp only at HN
      rw [hstep] at HN
      have HNO : Hid (Out i.lo i.hi w (wr.setCell ⟨i.B, c * 64 + k, none⟩ (.int .u8 (255 : Nat)))) := by
        have h5 := hok.out
        unfold DI.ok at h5
        exact HO3.out.set _ _ (by show i.lo ≤ i.B; omega) (by show i.B < i.hi; omega)
      clear hD3 hstep HD3 HO3 HD2 HO2
      go_wp2
      go_roundw
      case rel => exact ⟨k + 1, by omega, by go_num, HN.out, HNO.out⟩
      case measure => simp [intOf]; omega
    · obtain rfl : k = m := by omega
      have hT : ∀ b, Hid (toldE { s2 with b := b } = R) := by
        intro b
        show (if s2.dn then 5 else 0) = _
        rw [HLF.out, ← HZ.out, ← HR.out]
        by_cases h0 : s.lf = 0 <;> simp [h0]
      have hbk : (64 * c) = c * 64 := by omega
      by_cases hto : z = true ∧ k < 64
      · obtain ⟨rfl, h64⟩ := hto
        have hkb : c * 64 + k < 64 * n := by omega
        have cb := hD3.bAt _ hkb
        have fb := hD3.bFree _ hkb
        have c1 := hD3.c1
        simp only at cb c1
        rw [fillB_at _ _ _ _ _ (by omega), if_neg (by omega)] at cb
        have hlf : s.lf = 0 := of_decide_eq_true HZ.out
        have hxl := HLT.out (c * 64 + k)
        obtain ⟨y, hy⟩ : ∃ y, s.b.getD (c * 64 + k) 0 = y := ⟨_, rfl⟩
        rw [HM0.out] at c1
        have hor := u8_or_nat y s.m (by omega) hmlt
        have HN := hid (hD3.setB (c * 64 + k) (y ||| s.m) hkb (or_lt (by omega) hmlt))
        have HNO : Hid (Out i.lo i.hi w (wr.setCell ⟨i.B, c * 64 + k, none⟩ (.int .u8 ((y ||| s.m : Nat) : Int)))) := by
          have h5 := hok.out
          unfold DI.ok at h5
          exact HO3.out.set _ _ (by show i.lo ≤ i.B; omega) (by show i.B < i.hi; omega)
        have hF : Hid ((if s.lf = 0 ∧ k < 64 then (fillB (fun _ _ => 255) (64 * c) k s.b).set (64 * c + k) (s.b.getD (64 * c + k) 0 ||| s.m) else fillB (fun _ _ => 255) (64 * c) k s.b) = (fillB (fun _ _ => 255) (c * 64) k s.b).set (c * 64 + k) (y ||| s.m)) := by
          show _ = _
          rw [if_pos ⟨hlf, h64⟩, hbk, hy]
        rw [hy] at cb
        have q5 : decide ((k : Int) < 64) = true := decide_eq_true (by omega)
        clear hD3 HD3 HO3 HD2 HO2 hxl hy hlf
        go_wp2_with ((with_reducible refine wpList_unguard ?_ ?_); (focus rfl))
        go_region
        go_wp2_with ((with_reducible refine wpList_unguard ?_ ?_); (focus rfl))
        refine Calls.mono (dev_told i n _ _ HN.out.drew) ?_; rintro e w5 ⟨rfl, rfl⟩
        go_wp2_with ((with_reducible refine wpList_unguard ?_ ?_); (focus rfl))
        go_ret
        refine ⟨?_, ?_, HNO.out.drew⟩
        · exact congrArg (fun (r : Nat) => Ending.returned (Value.int .i64 (r : Int))) (hT _).out
        · rw [hWB.out, hF.out, ← hEnd.out]
          exact HN.out.drew
      · have hF : Hid ((if s.lf = 0 ∧ k < 64 then (fillB (fun _ _ => 255) (64 * c) k s.b).set (64 * c + k) (s.b.getD (64 * c + k) 0 ||| s.m) else fillB (fun _ _ => 255) (64 * c) k s.b) = fillB (fun _ _ => 255) (c * 64) k s.b) := by
          show _ = _
          rw [if_neg (fun h => hto ⟨by rw [← HZ.out]; exact decide_eq_true h.1, h.2⟩), hbk]
        clear hD3 HD2 HO2
        cases z with
        | false =>
          clear hto
          go_wp2_with ((with_reducible refine wpList_unguard ?_ ?_); (focus rfl))
          refine Calls.mono (dev_told i n _ _ HD3.out) ?_; rintro e w5 ⟨rfl, rfl⟩
          go_wp2_with ((with_reducible refine wpList_unguard ?_ ?_); (focus rfl))
          go_ret
          refine ⟨?_, ?_, HO3.out⟩
          · exact congrArg (fun (r : Nat) => Ending.returned (Value.int .i64 (r : Int))) (hT _).out
          · rw [hWB.out, hF.out, ← hEnd.out]
            exact HD3.out
        | true =>
          have q5 : decide ((k : Int) < 64) = false := decide_eq_false (by simp only [true_and] at hto; omega)
          clear hto
          go_wp2_with ((with_reducible refine wpList_unguard ?_ ?_); (focus rfl))
          refine Calls.mono (dev_told i n _ _ HD3.out) ?_; rintro e w5 ⟨rfl, rfl⟩
          go_wp2_with ((with_reducible refine wpList_unguard ?_ ?_); (focus rfl))
          go_ret
          refine ⟨?_, ?_, HO3.out⟩
          · exact congrArg (fun (r : Nat) => Ending.returned (Value.int .i64 (r : Int))) (hT _).out
          · rw [hWB.out, hF.out, ← hEnd.out]
            exact HD3.out
set_option maxHeartbeats 2000000 in
theorem dev_Erase_no (i : DI) (n : Nat) (s : FS) (w : World) (c : Int) (h : DevP w i n s) (hc : -9223372036854775808 ≤ c ∧ c ≤ 9223372036854775807) (hd : s.dn = true ∨ ¬ (0 ≤ c ∧ c < n)) :
    Calls Try.prog 75 #[.pointer (some ⟨i.D, 0, none⟩), .int .i64 c] w fun e w' => e = .returned (.int .i64 ((if s.dn then 5 else 2 : Nat) : Int)) ∧ w = w' := by
  have hn : n ≤ 512 := h.fs.2.2.2.1
  have key : ∀ at_ k : Int, (at_ < 0 ∨ 64 * n < at_ + k ∨ s.dn = true) → wrongE n s.dn at_ k = if s.dn then 5 else 2 := by
    intro at_ k hk
    unfold wrongE
    by_cases hd : s.dn = true
    · rw [hd]; rfl
    · rw [if_neg hd, if_neg hd, if_neg]
      rcases hk with h1 | h1 | h1
      · omega
      · omega
      · exact absurd h1 hd
  have hE2 : ((if s.dn then 5 else 2 : Nat) : Int) ≠ 0 := by split <;> decide
  have q9 : (((if s.dn then 5 else 2 : Nat) : Int) != 0) = true := by simpa using hE2
  clear hE2
  by_cases hs : 0 ≤ c ∧ c < 512
  · have hW := hid (dev_wrong i n s w (c * 64) 64 h (by omega) (by omega))
    rw [key (c * 64) 64 (by rcases hd with h | h; exact .inr (.inr h); omega)] at hW
    have q1 : decide (c < 0) = false := decide_eq_false (by omega)
    have q2 : decide (512 ≤ c) = false := decide_eq_false (by omega)
    generalize (if s.dn then 5 else 2 : Nat) = E at *
    clear key h
    (go_enter Try.func75, Try.ntmps75; try simp only [List.append])
    go_wp2_with ((with_reducible refine wpList_unguard ?_ ?_); (focus rfl))
    refine Calls.mono hW.out ?_; rintro e w0 ⟨rfl, rfl⟩
    go_wp2_with ((with_reducible refine wpList_unguard ?_ ?_); (focus rfl))
    go_ret
    exact ⟨rfl, rfl⟩
  · have hW := hid (dev_wrong i n s w (-1) 64 h (by omega) (by omega))
    rw [key (-1) 64 (by omega)] at hW
    generalize (if s.dn then 5 else 2 : Nat) = E at *
    clear key h
    rcases Int.lt_or_le c 0 with h0 | h0
    · have q1 : decide (c < 0) = true := decide_eq_true (by omega)
      (go_enter Try.func75, Try.ntmps75; try simp only [List.append])
      go_wp2_with ((with_reducible refine wpList_unguard ?_ ?_); (focus rfl))
      refine Calls.mono hW.out ?_; rintro e w0 ⟨rfl, rfl⟩
      go_wp2_with ((with_reducible refine wpList_unguard ?_ ?_); (focus rfl))
      go_ret
      exact ⟨rfl, rfl⟩
    · have q1 : decide (c < 0) = false := decide_eq_false (by omega)
      have q2 : decide (512 ≤ c) = true := decide_eq_true (by omega)
      (go_enter Try.func75, Try.ntmps75; try simp only [List.append])
      go_wp2_with ((with_reducible refine wpList_unguard ?_ ?_); (focus rfl))
      refine Calls.mono hW.out ?_; rintro e w0 ⟨rfl, rfl⟩
      go_wp2_with ((with_reducible refine wpList_unguard ?_ ?_); (focus rfl))
      go_ret
      exact ⟨rfl, rfl⟩
set_option maxHeartbeats 2000000 in
theorem dev_Erase_lock (i : DI) (n : Nat) (s : FS) (w : World) (c : Nat) (h : DevP w i n s) (hd : s.dn = false) (hc : c < n) (hl : s.lk.getD c false = true) :
    Calls Try.prog 75 #[.pointer (some ⟨i.D, 0, none⟩), .int .i64 c] w fun e w' => e = .returned (.int .i64 4) ∧ w = w' := by
  have hn : n ≤ 512 := h.fs.2.2.2.1
  have hcl := h.cl
  have hW := hid (dev_wrong i n s w (64 * c : Nat) 64 h (by omega) (by omega))
  rw [hd, show wrongE n false ((64 * c : Nat) : Int) 64 = 0 from wrongE_of ⟨rfl, by omega, by omega, by omega⟩, show ((64 * c : Nat) : Int) = (c : Int) * 64 from by omega] at hW
  have c4 := h.c4
  have cl := h.lAt c hc
  rw [hl] at cl
  have q1 : decide ((c : Int) < 0) = false := decide_eq_false (by omega)
  have q2 : decide ((512 : Int) ≤ c) = false := decide_eq_false (by omega)
  clear h hl
  (go_enter Try.func75, Try.ntmps75; try simp only [List.append])
  go_wp2_with ((with_reducible refine wpList_unguard ?_ ?_); (focus rfl))
  refine Calls.mono hW.out ?_; rintro e w0 ⟨rfl, rfl⟩
  go_wp2_with ((with_reducible refine wpList_unguard ?_ ?_); (focus rfl))
  go_ret
  exact ⟨rfl, rfl⟩
/-- Erase. -/
theorem dev_Erase (i : DI) (n : Nat) (s : FS) (w : World) (c : Int) (h : DevP w i n s) (hc : -9223372036854775808 ≤ c ∧ c ≤ 9223372036854775807) :
    Calls Try.prog 75 #[.pointer (some ⟨i.D, 0, none⟩), .int .i64 c] w fun e w' =>
      e = .returned (.int .i64 (s.eraseE n c : Nat)) ∧ DevP w' i n (s.erase n c) ∧ Out i.lo i.hi w w' := by
  by_cases hx : s.dn = true ∨ ¬ (0 ≤ c ∧ c < n)
  · refine (dev_Erase_no i n s w c h hc hx).mono ?_
    rintro e w' ⟨rfl, rfl⟩
    have hS : s.erase n c = s := by
      unfold FS.erase
      rw [if_neg]
      rintro ⟨h1, h2, _⟩
      rcases hx with h3 | h3
      · rw [h1] at h3; cases h3
      · exact h3 h2
    have hE : s.eraseE n c = if s.dn then 5 else 2 := by
      unfold FS.eraseE
      split
      · rfl
      · rename_i h0; rw [if_neg (by rcases hx with h3 | h3; exact absurd h3 h0; exact h3)]
    rw [hS, hE]
    exact ⟨rfl, h, Out.refl _ _ _⟩
  · have hd : s.dn = false := by
      cases hdn : s.dn
      · rfl
      · exact absurd (.inl hdn) hx
    have hr : 0 ≤ c ∧ c < n := Classical.byContradiction fun h0 => hx (.inr h0)
    obtain ⟨j, rfl⟩ : ∃ j : Nat, c = j := ⟨c.toNat, by omega⟩
    have hj : j < n := by omega
    cases hl : s.lk.getD j false with
    | true =>
      refine (dev_Erase_lock i n s w j h hd hj hl).mono ?_
      rintro e w' ⟨rfl, rfl⟩
      have hS : s.erase n j = s := by
        unfold FS.erase FS.lkd
        rw [if_neg]
        rintro ⟨_, _, h3⟩
        rw [Int.toNat_natCast, hl] at h3
        cases h3
      have hE : s.eraseE n j = 4 := by
        unfold FS.eraseE FS.lkd
        rw [if_neg (by rw [hd]; decide), if_pos hr, Int.toNat_natCast, hl]
        rfl
      rw [hS, hE]
      exact ⟨rfl, h, Out.refl _ _ _⟩
    | false =>
      refine (dev_Erase_ok i n s w j h hd hj hl).mono ?_
      rintro e w' ⟨rfl, hD, hO⟩
      have hS : s.erase n j = { partS s with b := s.wroteB (fun _ _ => 255) (fun _ x => x ||| s.m) (64 * j) 64, wr := s.wr.set j (wrap64 (s.wr.getD j 0 + 1)) } := by
        unfold FS.erase FS.lkd
        rw [if_pos ⟨hd, hr, by rw [Int.toNat_natCast]; exact hl⟩, Int.toNat_natCast]
      have hE : s.eraseE n j = if s.lf = 0 then 5 else 0 := by
        unfold FS.eraseE FS.lkd
        rw [if_neg (by rw [hd]; decide), if_pos hr, Int.toNat_natCast, hl]
        rfl
      rw [hS, hE]
      exact ⟨rfl, hD, hO⟩
theorem dev_Erase_nil (w : World) (c : Int) (hc : -9223372036854775808 ≤ c ∧ c ≤ 9223372036854775807) :
    Calls Try.prog 75 #[.pointer none, .int .i64 c] w fun e w' => e = .returned (.int .i64 1) ∧ w = w' := by
  have hW := fun at_ => hid (dev_wrong_nil w at_ 64)
  by_cases hs : 0 ≤ c ∧ c < 512
  · have q1 : decide (c < 0) = false := decide_eq_false (by omega)
    have q2 : decide (512 ≤ c) = false := decide_eq_false (by omega)
    (go_enter Try.func75, Try.ntmps75; try simp only [List.append])
    go_wp2_with ((with_reducible refine wpList_unguard ?_ ?_); (focus rfl))
    refine Calls.mono (hW _).out ?_; rintro e w0 ⟨rfl, rfl⟩
    go_wp2_with ((with_reducible refine wpList_unguard ?_ ?_); (focus rfl))
    go_ret
    exact ⟨rfl, rfl⟩
  · rcases Int.lt_or_le c 0 with h0 | h0
    · have q1 : decide (c < 0) = true := decide_eq_true (by omega)
      (go_enter Try.func75, Try.ntmps75; try simp only [List.append])
      go_wp2_with ((with_reducible refine wpList_unguard ?_ ?_); (focus rfl))
      refine Calls.mono (hW _).out ?_; rintro e w0 ⟨rfl, rfl⟩
      go_wp2_with ((with_reducible refine wpList_unguard ?_ ?_); (focus rfl))
      go_ret
      exact ⟨rfl, rfl⟩
    · have q1 : decide (c < 0) = false := decide_eq_false (by omega)
      have q2 : decide (512 ≤ c) = true := decide_eq_true (by omega)
      (go_enter Try.func75, Try.ntmps75; try simp only [List.append])
      go_wp2_with ((with_reducible refine wpList_unguard ?_ ?_); (focus rfl))
      refine Calls.mono (hW _).out ?_; rintro e w0 ⟨rfl, rfl⟩
      go_wp2_with ((with_reducible refine wpList_unguard ?_ ?_); (focus rfl))
      go_ret
      exact ⟨rfl, rfl⟩
end Go.Proofs.Ytngkmlchblgmeaa

namespace Tri
open Go Go.RowKit
theorem part_ext {b b' : List Nat} (p m : Nat) (hl : b'.length = b.length) (h : ∀ j, p ≤ j → j < p + m → b'.getD j 0 = b.getD j 0) : (b'.drop p).take m = (b.drop p).take m := by
  apply List.ext_getElem?
  intro q
  rw [List.getElem?_take, List.getElem?_take]
  by_cases hq : q < m
  · rw [if_pos hq, if_pos hq, List.getElem?_drop, List.getElem?_drop]
    have := h (p + q) (by omega) (by omega)
    rw [List.getD_eq_getElem?_getD, List.getD_eq_getElem?_getD] at this
    by_cases hb : p + q < b.length
    · rw [List.getElem?_eq_getElem hb, List.getElem?_eq_getElem (by omega)] at this ⊢
      exact congrArg some this
    · rw [List.getElem?_eq_none (by omega), List.getElem?_eq_none (by omega)]
  · rw [if_neg hq, if_neg hq]
theorem erase_lk (s : FS) (n : Nat) (c : Int) : (s.erase n c).lk = s.lk := by
  unfold FS.erase
  split
  · exact partS_lk s
  · rfl
theorem prog_lk (s : FS) (n : Nat) (a : Int) (p : List Nat) : (s.prog n a p).lk = s.lk := by
  unfold FS.prog
  split
  · exact partS_lk s
  · rfl
theorem erase_len (s : FS) (n : Nat) (c : Int) : (s.erase n c).b.length = s.b.length := by
  unfold FS.erase
  split
  · exact wroteB_length s (fun _ _ => 255) (fun _ x => x ||| s.m) (64 * c.toNat) 64
  · rfl
theorem prog_len (s : FS) (n : Nat) (a : Int) (p : List Nat) : (s.prog n a p).b.length = s.b.length := by
  unfold FS.prog
  split
  · exact wroteB_length s (fun j x => x &&& p.getD j 0) (fun j x => x &&& (p.getD j 0 ||| s.m)) a.toNat 16
  · rfl
/-- An erase changes its sector alone. -/
theorem erase_at (s : FS) (n : Nat) (c : Int) (j : Nat) (hj : j < s.b.length) (h : ¬ (0 ≤ c ∧ 64 * c.toNat ≤ j ∧ j < 64 * c.toNat + 64)) : (s.erase n c).b.getD j 0 = s.b.getD j 0 := by
  unfold FS.erase
  split
  · rename_i hc
    have hdl := s.done_le 64
    show (s.wroteB (fun _ _ => 255) (fun _ x => x ||| s.m) (64 * c.toNat) 64).getD j 0 = _
    rw [wroteB_at _ _ _ _ _ _ hj, if_neg (by omega), if_neg (by omega)]
  · rfl
/-- A program changes its page alone. -/
theorem prog_at (s : FS) (n : Nat) (a : Int) (p : List Nat) (j : Nat) (hj : j < s.b.length) (h : ¬ (0 ≤ a ∧ a.toNat ≤ j ∧ j < a.toNat + 16)) : (s.prog n a p).b.getD j 0 = s.b.getD j 0 := by
  unfold FS.prog
  split
  · rename_i hc
    have hdl := s.done_le 16
    show (s.wroteB (fun j x => x &&& p.getD j 0) (fun j x => x &&& (p.getD j 0 ||| s.m)) a.toNat 16).getD j 0 = _
    rw [wroteB_at _ _ _ _ _ _ hj, if_neg (by omega), if_neg (by omega)]
  · rfl
/-- A locked sector stays. -/
theorem erase_locked (s : FS) (n : Nat) (a : Int) (c : Nat) (hb : s.b.length = 64 * n) (hc : c < n) (hl : s.lk.getD c false = true) : (s.erase n a).dumpB n c = s.dumpB n c := by
  by_cases hac : a = c
  · subst hac
    have : s.erase n c = s := by
      unfold FS.erase FS.lkd
      rw [if_neg]
      rintro ⟨_, _, h⟩
      rw [Int.toNat_natCast, hl] at h
      cases h
    rw [this]
  · unfold FS.dumpB
    rw [if_pos (by omega), if_pos (by omega)]
    exact part_ext _ _ (erase_len s n a) fun j h1 h2 => erase_at s n a j (by omega) (by omega)
theorem prog_locked (s : FS) (n : Nat) (a : Int) (p : List Nat) (c : Nat) (hb : s.b.length = 64 * n) (hc : c < n) (hl : s.lk.getD c false = true) : (s.prog n a p).dumpB n c = s.dumpB n c := by
  by_cases hac : 0 ≤ a ∧ a / 64 = c
  · have : s.prog n a p = s := by
      unfold FS.prog FS.lkd
      rw [if_neg]
      rintro ⟨_, _, _, h⟩
      rw [hac.2, Int.toNat_natCast, hl] at h
      cases h
    rw [this]
  · by_cases hm : a % 16 = 0
    · unfold FS.dumpB
      rw [if_pos (by omega), if_pos (by omega)]
      exact part_ext _ _ (prog_len s n a p) fun j h1 h2 => prog_at s n a p j (by omega) (by omega)
    · have : s.prog n a p = s := by
        unfold FS.prog
        rw [if_neg]
        rintro ⟨_, ⟨h, _⟩, _⟩
        exact hm h
      rw [this]
theorem read_b (s : FS) (n : Nat) (a k : Int) : (s.read n a k).b = s.b ∧ (s.read n a k).lk = s.lk := by unfold FS.read; split <;> exact ⟨rfl, rfl⟩
theorem dump_same {s s' : FS} (h : s'.b = s.b) (n : Nat) (c : Int) : s'.dumpB n c = s.dumpB n c := by unfold FS.dumpB; rw [h]
/-- The sectors, one behind the other. -/
theorem take_dump (s : FS) (n k : Nat) (hk : k < n) : s.b.take (64 * k) ++ s.dumpB n (k : Int) = s.b.take (64 * (k + 1)) := by
  unfold FS.dumpB
  rw [if_pos (by omega), Int.toNat_natCast, show 64 * (k + 1) = 64 * k + 64 from by omega, List.take_add]
end Tri

namespace Go.Proofs.Ytngkmlchblgmeaa
open Go.RowKit

theorem info_of {P : Program} {t : TypeId} {z : Value} {s b : Nat} (h : (P.info? t).map (fun i => (i.zero, i.size, i.bytes)) = some (some z, s, b)) : ∃ i, P.info? t = some i ∧ i.zero = some z ∧ i.size = s ∧ i.bytes = b := by
  obtain ⟨i, hi, h2⟩ := Option.map_eq_some_iff.1 h
  simp only [Prod.mk.injEq] at h2
  exact ⟨i, hi, h2.1, h2.2.1, h2.2.2⟩
theorem made_one (z : Value) (hz : z.cells = #[z]) (n : Nat) : madeCells z.cells n = Array.replicate n z := by
  rw [hz]
  apply Array.ext
  · rw [size_madeCells, Array.size_replicate]
  · intro j h1 h2
    simp only [madeCells, Array.getElem_map, Array.getElem_range, Array.getElem_replicate]
    have : j % (#[z] : Array Value).size = 0 := by show j % 1 = 0; omega
    rw [this]
    rfl
theorem run_mk1 {P : Program} (t e : TypeId) (z : Value) (b : Nat) (ht : P.underlying t = some (.slice e)) (hi : (P.info? e).map (fun i => (i.zero, i.size, i.bytes)) = some (some z, 1, b)) (hz : z.cells = #[z])
    (n c : Nat) (hnc : n ≤ c) (hb : b * c ≤ 281474976710656) (h63 : c ≤ 9223372036854775807) (w : World) :
    (Instr.makeSlice t (.int .i64 (n : Int)) (.int .i64 (c : Int))).run P w = .ok (.slice (some ⟨w.heap.size, 0, none⟩) n c) (w.alloc (.cells (Array.replicate c z) e)) := by
  obtain ⟨i, h0, h1, h2, h3⟩ := info_of hi
  have hb' : (i.bytes : Int) * (c : Int) ≤ 281474976710656 := by
    have h : ((i.bytes * c : Nat) : Int) ≤ 281474976710656 := by rw [h3]; omega
    rwa [Int.natCast_mul] at h
  have hr := run_make (P := P) w t e i z ht h0 h1 .i64 .i64 n c (by omega) (by omega) hb' (by omega)
  simp only [Int.toNat_natCast] at hr
  rw [hr, h2, Nat.mul_one, made_one z hz]
theorem Try.mkB (n c : Nat) (hnc : n ≤ c) (hc : c ≤ 100000000) (w : World) :
    (Instr.makeSlice 111 (.int .i64 (n : Int)) (.int .i64 (c : Int))).run Try.prog w = .ok (.slice (some ⟨w.heap.size, 0, none⟩) n c) (w.alloc (.cells (Array.replicate c (.int .u8 0)) 5)) :=
  run_mk1 _ _ (.int .u8 0) 1 Try.underlying111 (by kernel_rfl) rfl n c hnc (by omega) (by omega) w
theorem Try.mkI (n c : Nat) (hnc : n ≤ c) (hc : c ≤ 100000000) (w : World) :
    (Instr.makeSlice 84 (.int .i64 (n : Int)) (.int .i64 (c : Int))).run Try.prog w = .ok (.slice (some ⟨w.heap.size, 0, none⟩) n c) (w.alloc (.cells (Array.replicate c (.int .i64 0)) 3)) :=
  run_mk1 _ _ (.int .i64 0) 8 Try.underlying84 (by kernel_rfl) rfl n c hnc (by omega) (by omega) w
theorem Try.mkL (n c : Nat) (hnc : n ≤ c) (hc : c ≤ 100000000) (w : World) :
    (Instr.makeSlice 114 (.int .i64 (n : Int)) (.int .i64 (c : Int))).run Try.prog w = .ok (.slice (some ⟨w.heap.size, 0, none⟩) n c) (w.alloc (.cells (Array.replicate c (.bool false)) 4)) :=
  run_mk1 _ _ (.bool false) 1 Try.underlying114 (by kernel_rfl) rfl n c hnc (by omega) (by omega) w
end Go.Proofs.Ytngkmlchblgmeaa

namespace Go.Proofs.Ytngkmlchblgmeaa
open Go.RowKit Tri

def newS (n : Nat) : FS := ⟨0, 0, -1, List.replicate (64 * n) 255, List.replicate n false, List.replicate n 0, false, 0⟩
def repS (n x : Nat) : ByteArray := ofB (List.replicate n x)
theorem rep_of (x : Nat) (n : Nat) : (⟨(Lib.repeatL (⟨#[UInt8.ofNat x]⟩ : ByteArray).data.toList n).toArray⟩ : ByteArray) = repS n x := by
  have : ∀ n, Lib.repeatL [UInt8.ofNat x] n = (List.replicate n x).map UInt8.ofNat := by
    intro n
    induction n with
    | zero => rfl
    | succ n ih => rw [List.replicate_succ, List.map_cons, ← ih]; rfl
  unfold repS ofB
  rw [← this]
theorem strRep (x n : Nat) (w : World) (hn : n ≤ 100000) :
    Calls Try.prog 74 #[.string ⟨#[UInt8.ofNat x]⟩, .int .i64 n] w fun e w' => e = .returned (.string (repS n x)) ∧ Below w.heap.size w w' := by
  refine (Try.strings_Repeat ⟨#[UInt8.ofNat x]⟩ n w (by omega) ?_).mono fun e w' h => ⟨?_, h.2⟩
  · show 1 * n ≤ _; omega
  · rw [h.1, rep_of]
theorem rowP.alloc {w : World} {B : Nat} {t : TypeId} {cs : List Value} (h : rowP w B t cs) (o : Obj) : rowP (w.alloc o) B t cs := h.below ((Below.refl w.heap.size w).alloc (Nat.le_refl _) o) h.lt
theorem rowP.newL (w : World) (t : TypeId) (cs : Array Value) (l : List Value) (hl : cs.toList = l) : rowP (w.alloc (.cells cs t)) w.heap.size t l := hl ▸ rowP.new w t cs
theorem rowP.bytes (w : World) (t : TypeId) (s : ByteArray) : rowP (Lib.bytesWorld w t s) w.heap.size t ((sb s).map fun x => Value.int .u8 (x : Nat)) := by
  refine ⟨List.replicate (grownCap w s.size 0 t - s.size) (.int .u8 0), ((Lib.bytesCells w t s).size, (Lib.bytesCells w t s).size + 1), (Lib.bytesWorld_at_new w t s).trans ?_, .inr ?_⟩
  · congr 2
    unfold Lib.bytesCells sb
    apply Array.ext'
    simp [Function.comp_def]
  · rw [List.length_map, sb_length]
    simp [Lib.bytesCells]
theorem devNew (n : Nat) (w w1 : World) (h1 : 1 ≤ n) (h5 : n ≤ 512) (hb : Below w.heap.size w w1) (swap : Bool) :
    let w2 := Lib.bytesWorld w1 5 (repS (64 * n) 255)
    let oL := Obj.cells (Array.replicate n (Value.bool false)) 4
    let oW := Obj.cells (Array.replicate n (Value.int .i64 0)) 3
    let L := if swap then w2.heap.size + 1 else w2.heap.size
    let W := if swap then w2.heap.size else w2.heap.size + 1
    let w5 := (((w2.alloc (if swap then oW else oL)).alloc (if swap then oL else oW)).alloc (.cells #[.int .i64 0, .int .u8 0, .int .i64 (-1), .slice (some ⟨w1.heap.size, 0, none⟩) (64 * n) (grownCap w1 (64 * n) 0 5), .slice (some ⟨L, 0, none⟩) n n, .slice (some ⟨W, 0, none⟩) n n, .bool false, .int .i64 0] 116)).drew
    DevP w5 ⟨w.heap.size, w5.heap.size, w2.heap.size + 1 + 1, w1.heap.size, L, W, grownCap w1 (64 * n) 0 5, n, n⟩ n (newS n) ∧ Below w.heap.size w w5 := by
  intro w2 oL oW L W w5
  have hsz : w2.heap.size = w1.heap.size + 1 := Lib.bytesWorld_size _ _ _
  have hr : rowP w2 w1.heap.size 5 ((List.replicate (64 * n) 255).map fun (x : Nat) => Value.int .u8 (x : Nat)) := by
    have h := rowP.bytes w1 5 (repS (64 * n) 255)
    rwa [show sb (repS (64 * n) 255) = List.replicate (64 * n) 255 from sb_ofB _ (by intro x hx; rw [List.mem_replicate] at hx; omega)] at h
  have hb2 : Below w.heap.size w w2 := hb.trans ((bytes_below w1 5 (repS (64 * n) 255)).mono hb.size)
  have hws := hb2.size
  have hws1 := hb.size
  have h5s : w5.heap.size = w2.heap.size + 3 := by show ((((w2.alloc _).alloc _).alloc _).drew).heap.size = _; simp
  have hbw : Below w.heap.size w w5 := (((hb2.alloc hb2.size _).alloc (by simp; omega) _).alloc (by simp; omega) _).drew
  have hok : (newS n).ok n := ⟨by simp [newS], by simp [newS], by simp [newS], h5, by simp [newS], by intro y hy; simp only [newS, List.mem_replicate] at hy; omega, by simp [newS]⟩
  have hcb : 64 * n ≤ grownCap w1 (64 * n) 0 5 := grownCap_ge _ _ _ _
  have hlr : ((Array.replicate n (Value.bool false)).toList) = (newS n).lk.map Value.bool := by simp [newS]
  have hwr : ((Array.replicate n (Value.int .i64 0)).toList) = (newS n).wr.map fun x => Value.int .i64 x := by simp [newS]
  refine ⟨⟨?_, (((hr.alloc _).alloc _).alloc _).drew, ?_, ?_, ?_, Nat.le_refl _, hok, hcb, Nat.le_refl _, Nat.le_refl _⟩, hbw⟩
  · have := rowP.new ((w2.alloc (if swap then oW else oL)).alloc (if swap then oL else oW)) 116 #[.int .i64 0, .int .u8 0, .int .i64 (-1), .slice (some ⟨w1.heap.size, 0, none⟩) (64 * n) (grownCap w1 (64 * n) 0 5), .slice (some ⟨L, 0, none⟩) n n, .slice (some ⟨W, 0, none⟩) n n, .bool false, .int .i64 0]
    have e : ((w2.alloc (if swap then oW else oL)).alloc (if swap then oL else oW)).heap.size = w2.heap.size + 1 + 1 := by simp
    rw [e] at this
    exact this.drew
  · cases swap
    · exact (((rowP.newL w2 _ _ _ hlr).alloc _).alloc _).drew
    · have := rowP.newL (w2.alloc oW) 4 _ _ hlr
      rw [show (w2.alloc oW).heap.size = w2.heap.size + 1 from by simp] at this
      exact (this.alloc _).drew
  · cases swap
    · have := rowP.newL (w2.alloc oL) 3 _ _ hwr
      rw [show (w2.alloc oL).heap.size = w2.heap.size + 1 from by simp] at this
      exact (this.alloc _).drew
    · exact (((rowP.newL w2 _ _ _ hwr).alloc _).alloc _).drew
  · cases swap <;> (unfold DI.ok; simp only [L, W, Bool.false_eq_true, if_true, if_false, reduceIte]; omega)
set_option maxHeartbeats 4000000 in
set_option maxRecDepth 100000 in
theorem dev_New (n : Nat) (w : World) (h1 : 1 ≤ n) (h5 : n ≤ 512) :
    Calls Try.prog 48 #[.int .i64 n] w fun e w' => ∃ i : DI, e = .returned (.tuple #[.pointer (some ⟨i.D, 0, none⟩), .int .i64 0]) ∧ i.lo = w.heap.size ∧ i.hi = w'.heap.size ∧ DevP w' i n (newS n) ∧ Below w.heap.size w w' := by
  have hd1 : decide ((n : Int) < 1) = false := decide_eq_false (by omega)
  have hd2 : decide ((512 : Int) < n) = false := decide_eq_false (by omega)
  have hd2' : decide ((n : Int) > 512) = false := decide_eq_false (by omega)
  have hcv := fun (w : World) (s : ByteArray) => Lib.run_convert_string_bytes (P := Try.prog) w 9 111 5 s Try.underlying9 Try.underlying111 Try.underlying5
  have hwr : wrap64 ((n : Int) * 64) = ((64 * n : Nat) : Int) := by unfold wrap64; omega
  (go_enter Try.func48, Try.ntmps48; try simp only [List.append])
  go_wp2_with ((with_reducible refine wpList_unguard ?_ ?_); (focus rfl))
  rw [show (n : Int) * 64 = ((64 * n : Nat) : Int) from by omega]
  refine Calls.mono (strRep 255 (64 * n) w (by omega)) ?_; rintro e w1 ⟨rfl, hb⟩
  have hsz : (repS (64 * n) 255).size = 64 * n := by unfold repS; rw [ofB_size]; simp
  have D0 := hid (devNew n w w1 h1 h5 hb false)
  have D1 := hid (devNew n w w1 h1 h5 hb true)
  go_wp2_with ((with_reducible refine wpList_unguard ?_ ?_); (focus rfl))
  generalize hW : Lib.bytesWorld w1 5 (repS (64 * n) 255) = w2 at *
  have mk1 := Try.mkL n n (Nat.le_refl _) (by omega)
  have mk2 := Try.mkI n n (Nat.le_refl _) (by omega)
  clear hW
  go_region
  all_goals
    go_wp2_with ((with_reducible refine wpList_unguard ?_ ?_); (focus rfl))
    go_ret2
    first
      | exact ⟨_, rfl, rfl, rfl, D0.out.1, D0.out.2⟩
      | exact ⟨_, rfl, rfl, rfl, D1.out.1, D1.out.2⟩
/-- Of a wrong number of sectors there is none. -/
theorem dev_New_no (n : Int) (w : World) (h : n < 1 ∨ 512 < n) :
    Calls Try.prog 48 #[.int .i64 n] w fun e w' => e = .returned (.tuple #[.pointer none, .int .i64 1]) ∧ w = w' := by
  rcases Int.lt_or_le n 1 with h1 | h1
  · have hd1 : decide (n < 1) = true := decide_eq_true (by omega)
    (go_enter Try.func48, Try.ntmps48; try simp only [List.append])
    go_wp2_with ((with_reducible refine wpList_unguard ?_ ?_); (focus rfl))
    go_ret2
    exact ⟨rfl, rfl⟩
  · have hd1 : decide (n < 1) = false := decide_eq_false (by omega)
    have hd2 : decide (512 < n) = true := decide_eq_true (by omega)
    (go_enter Try.func48, Try.ntmps48; try simp only [List.append])
    go_wp2_with ((with_reducible refine wpList_unguard ?_ ?_); (focus rfl))
    go_ret2
    exact ⟨rfl, rfl⟩
end Go.Proofs.Ytngkmlchblgmeaa

namespace Tri
open Go Go.RowKit
/-- A page that was begun on a blank one: so many bytes are done, and one by the mask. -/
def tornL (P : List Nat) (d m : Nat) : List Nat := P.mapIdx fun j x => if j < d then x else if j = d then x ||| m else 255
theorem tornL_len (P : List Nat) (d m : Nat) : (tornL P d m).length = P.length := by unfold tornL; rw [List.length_mapIdx]
theorem tornL_at (P : List Nat) (d m j : Nat) (hj : j < P.length) : (tornL P d m)[j]? = some (if j < d then P.getD j 0 else if j = d then P.getD j 0 ||| m else 255) := by
  unfold tornL
  rw [List.getElem?_mapIdx, List.getElem?_eq_getElem hj, List.getD_eq_getElem?_getD, List.getElem?_eq_getElem hj]
  rfl
theorem and255 {x : Nat} (h : x < 256) : 255 &&& x = x := by
  rw [Nat.and_comm]
  exact (Nat.and_two_pow_sub_one_eq_mod x 8).trans (Nat.mod_eq_of_lt h)
/-- What is read of a page that was torn. -/
theorem torn_read (s : FS) (n c : Nat) (P : List Nat) (hb : s.b.length = 64 * n) (hc : c < 64 * n) (hc16 : c % 16 = 0) (hP : P.length = 16) (hPb : ∀ x ∈ P, x < 256) (hm : s.m < 256) (hl : s.lf = 0) (hd : s.dn = false) (hk : s.lkd ((c : Int) / 64) = false)
    (hbl : ∀ j, j < 16 → s.b.getD (c + j) 0 = 255) : (((s.prog n c P).b.drop c).take 16) = tornL P (s.done 16) s.m := by
  have hq : s.prog n c P = { partS s with b := s.wroteB (fun j x => x &&& P.getD j 0) (fun j x => x &&& (P.getD j 0 ||| s.m)) c 16 } := by
    unfold FS.prog
    rw [if_pos ⟨hd, ⟨by omega, hP⟩, ⟨by omega, by omega⟩, hk⟩, Int.toNat_natCast]
  have hlen := wroteB_length s (fun j x => x &&& P.getD j 0) (fun j x => x &&& (P.getD j 0 ||| s.m)) c 16
  rw [hq]
  show ((s.wroteB (fun j x => x &&& P.getD j 0) (fun j x => x &&& (P.getD j 0 ||| s.m)) c 16).drop c).take 16 = _
  apply List.ext_getElem?
  intro j
  by_cases hj : j < 16
  · rw [List.getElem?_take, if_pos hj, List.getElem?_drop, tornL_at _ _ _ _ (by omega)]
    have h1 := wroteB_at s (fun j x => x &&& P.getD j 0) (fun j x => x &&& (P.getD j 0 ||| s.m)) c 16 (c + j) (by omega)
    rw [hbl j hj, Nat.add_sub_cancel_left] at h1
    have hPj : P.getD j 0 < 256 := by
      rw [List.getD_eq_getElem?_getD, List.getElem?_eq_getElem (by omega)]
      exact hPb _ (List.getElem_mem _)
    rw [List.getD_eq_getElem?_getD, List.getElem?_eq_getElem (by omega)] at h1
    rw [List.getElem?_eq_getElem (by omega)]
    simp only [Option.getD_some] at h1
    rw [h1]
    congr 1
    by_cases h2 : j < s.done 16
    · rw [if_pos (by omega), if_pos h2, and255 hPj]
    · rw [if_neg (by omega), if_neg h2]
      by_cases h3 : j = s.done 16
      · rw [if_pos ⟨hl, by omega, by omega⟩, if_pos h3, and255 (or_lt hPj hm)]
      · rw [if_neg (by omega), if_neg h3]
  · rw [List.getElem?_take, if_neg hj, List.getElem?_eq_none (by rw [tornL_len]; omega)]
end Tri
namespace Go.Proofs.Ytngkmlchblgmeaa
open Go.RowKit Tri

theorem recP_len (k s n v : Nat) : (recP k s n v).length = 16 := by unfold recP; rw [List.length_append, recL_len, putB_length]
theorem recP_lt (k s n v : Nat) : ∀ y ∈ recP k s n v, y < 256 := by
  intro y hy
  unfold recP at hy
  rcases List.mem_append.1 hy with h | h
  · exact recL_lt k s n v y h
  · exact putB_lt 4 _ y h
theorem recP_take (k s n v : Nat) : (recP k s n v).take 12 = recL k s n v := by
  unfold recP
  rw [List.take_append_of_le_length (by rw [recL_len]; omega), List.take_of_length_le (by rw [recL_len]; omega)]
theorem recP_drop (k s n v : Nat) : (recP k s n v).drop 12 = putB 4 (recSum (recL k s n v)) := by
  unfold recP
  rw [List.drop_append_of_le_length (by rw [recL_len]; omega), List.drop_of_length_le (by rw [recL_len]; omega), List.nil_append]
theorem putB4_full {x : Nat} (hx : x ≤ 4294967294) : putB 4 x ≠ [255, 255, 255, 255] := by
  intro h
  have h1 : putB 4 x = [x / 16777216 % 256, x / 65536 % 256, x / 256 % 256, x % 256] := by simp [putB, List.range_succ]
  rw [h1] at h
  simp only [List.cons.injEq, and_true] at h
  omega
/-- THE PLAIN LAW. -/
theorem torn_none (k s n v d m : Nat) (hd : d ≤ 16) (hne : tornL (recP k s n v) d m ≠ recP k s n v) : getOk (tornL (recP k s n v) d m) = false := by
  cases hg : getOk (tornL (recP k s n v) d m) with
  | false => rfl
  | true =>
    exfalso
    unfold getOk at hg
    rw [Bool.and_eq_true] at hg
    have he := of_decide_eq_true hg.2
    obtain ⟨k', s', n', v', hx⟩ : ∃ k' s' n' v', recP k' s' n' v' = tornL (recP k s n v) d m := ⟨_, _, _, _, he⟩
    clear hg he
    have hl := recP_len k s n v
    rcases Nat.lt_or_ge d 12 with h12 | h12
    · have h1 : (tornL (recP k s n v) d m).drop 12 = [255, 255, 255, 255] := by
        have ha : ∀ j, 12 ≤ j → j < 16 → (tornL (recP k s n v) d m)[j]? = some 255 := by
          intro j h1 h2
          rw [tornL_at _ _ _ _ (by omega), if_neg (by omega), if_neg (by omega)]
        apply List.ext_getElem?
        intro j
        rw [List.getElem?_drop]
        match j with
        | 0 => exact ha 12 (by omega) (by omega)
        | 1 => exact ha 13 (by omega) (by omega)
        | 2 => exact ha 14 (by omega) (by omega)
        | 3 => exact ha 15 (by omega) (by omega)
        | j + 4 => rw [List.getElem?_eq_none (by rw [tornL_len]; omega)]; rfl
      rw [← hx, recP_drop] at h1
      exact putB4_full (by unfold recSum; omega) h1
    · have h1 : (tornL (recP k s n v) d m).take 12 = (recP k s n v).take 12 := by
        apply List.ext_getElem?
        intro j
        rw [List.getElem?_take, List.getElem?_take]
        by_cases hj : j < 12
        · rw [if_pos hj, if_pos hj, tornL_at _ _ _ _ (by omega), if_pos (by omega), List.getD_eq_getElem?_getD, List.getElem?_eq_getElem (by omega)]
          rfl
        · rw [if_neg hj, if_neg hj]
      rw [← hx, recP_take, recP_take] at h1
      apply hne
      rw [← hx]
      unfold recP
      rw [h1]
end Go.Proofs.Ytngkmlchblgmeaa

namespace Tri
/-- A version's value. -/
def numV (a b c : Nat) : Nat := (a * 65536 + b) * 65536 + c
end Tri
namespace Go.Proofs.Ytngkmlchblgmeaa
open Go.RowKit Tri

theorem or_shl16 (a x : Nat) (hx : x < 65536) (ha : a < 4294967296) : bits .or .i64 (wrap64 ((a : Int) * 2 ^ 16)) (x : Int) = ((a * 65536 + x : Nat) : Int) := by
  have h1 : wrap64 ((a : Int) * 2 ^ 16) = ((a <<< 16 : Nat) : Int) := by
    rw [Nat.shiftLeft_eq]
    have e2 : ((a * 2 ^ 16 : Nat) : Int) = (a : Int) * 2 ^ 16 := by simp
    rw [← e2]
    have : a * 2 ^ 16 < 2 ^ 62 := by omega
    generalize a * 2 ^ 16 = m at *
    unfold wrap64
    omega
  rw [h1]
  have h2 : a <<< 16 ||| x = a * 65536 + x := by
    rw [← Nat.shiftLeft_add_eq_or_of_lt (i := 16) (by omega), Nat.shiftLeft_eq]
  have h3 : a <<< 16 < 2 ^ 62 := by rw [Nat.shiftLeft_eq]; omega
  show IntKind.i64.wrap ((BitVec.ofInt 64 ((a <<< 16 : Nat) : Int) ||| BitVec.ofInt 64 (x : Int)).toNat : Int) = _
  rw [BitVec.toNat_or, ofInt_u64 _ (by omega), ofInt_u64 x (by omega), h2, IntKind.wrap_i64]
  omega
def vOk (x : Int) : Bool := decide (0 ≤ x ∧ x ≤ 65535)
theorem vOk_iff {x : Int} : vOk x = true ↔ 0 ≤ x ∧ x ≤ 65535 := by unfold vOk; simp
def verOk (a b c : Int) : Bool := vOk a && (vOk b && vOk c)
def verN (a b c : Int) : Nat := if verOk a b c then numV a.toNat b.toNat c.toNat else 0
end Go.Proofs.Ytngkmlchblgmeaa

namespace Go.Proofs.Ytngkmlchblgmeaa
open Go.RowKit Tri

def exR : ByteArray := ⟨#[1, 2, 0, 3, 0, 0, 0, 0, 0, 4, 0, 0, 134, 152, 167, 216]⟩
end Go.Proofs.Ytngkmlchblgmeaa

namespace Go.Proofs.Ytngkmlchblgmeaa
open Go.RowKit

def recEq (a b c d a' b' c' d' : Int) : Bool := decide (a = a' ∧ b = b' ∧ c = c' ∧ d = d')
set_option maxRecDepth 100000 in
theorem eql_rec (a b c d a' b' c' d' : Int) (w : World) :
    (binOp .eql 37 (.agg #[.int .i64 a, .int .i64 b, .int .i64 c, .int .i64 d]) (.agg #[.int .i64 a', .int .i64 b', .int .i64 c', .int .i64 d'])).run Try.prog w = .ok (.bool (recEq a b c d a' b' c' d')) w := by
  unfold recEq
  by_cases h1 : a = a' <;> by_cases h2 : b = b' <;> by_cases h3 : c = c' <;> by_cases h4 : d = d' <;> simp [go_sem, h1, h2, h3, h4]
end Go.Proofs.Ytngkmlchblgmeaa

namespace Go.Proofs.Ytngkmlchblgmeaa
open Go.RowKit Tri

set_option maxHeartbeats 4000000 in
set_option maxRecDepth 100000 in
theorem ref14_Right (k s n v : Int) (w : World) :
    Calls Try.prog 56 #[.agg #[.int .i64 k, .int .i64 s, .int .i64 n, .int .i64 v]] w fun e w' => e = .returned (.bool (recOk k s n v)) ∧ Below w.heap.size w w' := by
  have hb0 : Below w.heap.size w (w.alloc (.cells #[.int .i64 k, .int .i64 s, .int .i64 n, .int .i64 v] 69)) := (Below.refl _ _).alloc (Nat.le_refl _) _
  have hT : ∀ u, w.alloc (.cells #[.int .i64 k, .int .i64 s, .int .i64 n, .int .i64 v] 69) = u → u.cell? ⟨w.heap.size, 0, none⟩ = some (.int .i64 k) ∧ u.cell? ⟨w.heap.size, 1, none⟩ = some (.int .i64 s) ∧ u.cell? ⟨w.heap.size, 2, none⟩ = some (.int .i64 n) ∧ u.cell? ⟨w.heap.size, 3, none⟩ = some (.int .i64 v) := by
    rintro u rfl
    exact ⟨by simp [go_sem], by simp [go_sem], by simp [go_sem], by simp [go_sem]⟩
  obtain ⟨w1, hw1⟩ : ∃ u, w.alloc (.cells #[.int .i64 k, .int .i64 s, .int .i64 n, .int .i64 v] 69) = u := ⟨_, rfl⟩
  obtain ⟨hk1, hs1, hn1, hv1⟩ := hT w1 hw1
  have hr : Hid (recOk k s n v = (decide (0 ≤ k ∧ k < 128) && (decide (0 ≤ s ∧ s < 4) && (decide (0 ≤ n ∧ n < 65536) && decide (0 ≤ v ∧ v < 281474976710656))))) := by
    show _ = _
    unfold recOk
    congr 1
    · exact decide_eq_decide.2 (by omega)
    · congr 1
      · exact decide_eq_decide.2 (by omega)
      · congr 1
        · exact decide_eq_decide.2 (by omega)
        · exact decide_eq_decide.2 (by omega)
  obtain ⟨R, hR⟩ : ∃ R, recOk k s n v = R := ⟨_, rfl⟩
  rw [hR] at hr ⊢
  clear hR hT
  rw [hw1] at hb0
  have HB := hid hb0
  clear hb0
  (go_enter Try.func56, Try.ntmps56; try simp only [List.append])
  go_wp2_with ((with_reducible refine wpList_unguard ?_ ?_); (focus rfl))
  all_goals
    go_ret
    refine ⟨?_, HB.out⟩
    refine congrArg (fun b => Ending.returned (Value.bool b)) ?_
    rw [hr.out, Bool.eq_iff_iff]
    simp
    try omega
end Go.Proofs.Ytngkmlchblgmeaa

namespace Go.Proofs.Ytngkmlchblgmeaa
open Go.RowKit Tri

set_option maxHeartbeats 16000000 in
set_option maxRecDepth 100000 in
theorem dev_Program_ok (i : DI) (n : Nat) (s : FS) (w : World) (c : Nat) (p : ByteArray) (h : DevP w i n s) (hd : s.dn = false) (hc : c < 64 * n) (hc16 : c % 16 = 0) (hp : p.size = 16) (hl : s.lk.getD (c / 64) false = false) :
    Calls Try.prog 79 #[.pointer (some ⟨i.D, 0, none⟩), .int .i64 c, .string p] w fun e w' =>
      e = .returned (.int .i64 ((if s.lf = 0 then 5 else 0 : Nat) : Int)) ∧ DevP w' i n { partS s with b := s.wroteB (fun j x => x &&& (sb p).getD j 0) (fun j x => x &&& ((sb p).getD j 0 ||| s.m)) c 16 } ∧ Out i.lo i.hi w w' := by
  have hn : n ≤ 512 := h.fs.2.2.2.1
  have hcb := h.cb
  have hcl := h.cl
  have hok := hid h.ok
  have hW := hid (dev_wrong i n s w c 16 h (by omega) (by omega))
  rw [hd, show wrongE n false (c : Int) 16 = 0 from wrongE_of ⟨rfl, by omega, by omega, by omega⟩] at hW
  have c3 := h.c3
  have c4 := h.c4
  have c6 := h.c6
  rw [hd] at c6
  have cl := h.lAt (c / 64) (by omega)
  rw [hl] at cl
  have hP := hid (dev_part i n s w 16 h (by omega))
  have hlf : (partS s).dn = decide (s.lf = 0) := partS_dn _ hd
  have hdone : Hid (s.done 16 ≤ 16) := s.done_le 16
  rw [partN_done] at hP
  have hb0 : (partS s).b = s.b := partS_b _
  have hm0 : (partS s).m = s.m := partS_m _
  have hbl : s.b.length = 64 * n := h.fs.1
  have hmlt := h.fs.2.2.2.2.1
  have hWB : Hid (s.wroteB (fun j x => x &&& (sb p).getD j 0) (fun j x => x &&& ((sb p).getD j 0 ||| s.m)) c 16 = if s.lf = 0 ∧ s.done 16 < 16 then (fillB (fun j x => x &&& (sb p).getD j 0) c (s.done 16) s.b).set (c + s.done 16) (s.b.getD (c + s.done 16) 0 &&& ((sb p).getD (s.done 16) 0 ||| s.m)) else fillB (fun j x => x &&& (sb p).getD j 0) c (s.done 16) s.b) := rfl
  have HLT : Hid (∀ j, s.b.getD j 0 < 256) := fun j => h.bLt j
  have hD : Hid (decide (s.lf ≠ 0) = !decide (s.lf = 0)) := by by_cases hz : s.lf = 0 <;> simp [hz, Hid]
  rw [hD.out] at hP
  clear h hD
  obtain ⟨m, hm⟩ : ∃ m, s.done 16 = m := ⟨_, rfl⟩
  rw [hm] at hP hdone hWB
  obtain ⟨z, hz⟩ : ∃ z, decide (s.lf = 0) = z := ⟨_, rfl⟩
  rw [hz] at hP hlf
  obtain ⟨s2, hs2⟩ : ∃ s2, partS s = s2 := ⟨_, rfl⟩
  rw [hs2] at hP hlf hb0 hm0 ⊢
  have hmle := hdone.out
  have hr : Int.tmod (c : Int) 16 = 0 := by rw [Int.tmod_eq_emod_of_nonneg (by omega)]; omega
  have hz0 : ¬ (i.cb = c) := by omega
  have hps : Hid (p.size = 16) := hp
  have hp2 : (p.size : Int) = 16 := by omega
  have HB0 := hid hb0
  have HM0 := hid hm0
  have HLF := hid hlf
  have HZ := hid hz
  clear hb0 hm0 hlf hz hs2 hm hl hd
  obtain ⟨R, hR⟩ : ∃ R, (if s.lf = 0 then 5 else 0 : Nat) = R := ⟨_, rfl⟩
  rw [hR]
  have HR := hid hR
  clear hR
  (go_enter Try.func79, Try.ntmps79; try simp only [List.append])
  go_wp2_with ((with_reducible refine wpList_unguard ?_ ?_); (focus rfl))
  refine Calls.mono hW.out ?_; rintro e w0 ⟨rfl, rfl⟩
  go_wp2_with ((with_reducible refine wpList_unguard ?_ ?_); (focus rfl))
  refine Calls.mono hP.out ?_; rintro e w2 ⟨rfl, hD2, hO2⟩
  have HD2 := hid hD2
  have HO2 := hid hO2
  clear hD2 hO2 hP hW c3 c4 cl c6
  go_wp2_with ((with_reducible refine wpList_unguard ?_ ?_); (focus rfl))
  go_loopw [59, 11] (fun v _ wr => ∃ k : Nat, k ≤ m ∧ v = .int .i64 k ∧ DevP wr i n { s2 with b := fillB (fun j x => x &&& (sb p).getD j 0) c k s.b } ∧ Out i.lo i.hi w wr) (fun v _ _ => m - (intOf v).toNat)
  case atStart =>
    refine ⟨0, Nat.zero_le _, rfl, ?_, HO2.out⟩
    rw [fillB_zero, ← HB0.out]
    exact HD2.out
  case round =>
    obtain ⟨k, hk, rfl, hD3, hO3⟩ := hrel
    have HD3 := hid hD3
    have HO3 := hid hO3
    clear hO3
    by_cases hlt : k < m
    · have hkb : c + k < 64 * n := by omega
      have cb := hD3.bAt _ hkb
      try simp only at cb
      rw [fillB_at _ _ _ _ _ (by omega), if_neg (by omega)] at cb
      have fb := hD3.bFree _ hkb
      have hkp : k < p.size := by omega
      have hsp := str_byte p k hkp
      have hlp : (sb p).getD k 0 < 256 := sb_lt p _ (getD_mem _ k (by rw [sb_length]; exact hkp))
      have hlb := HLT.out (c + k)
      have hstep := fillB_step (fun j x => x &&& (sb p).getD j 0) c k s.b (by omega)
      try simp only at hstep
      have HN := hid (hD3.setB (c + k) (s.b.getD (c + k) 0 &&& (sb p).getD k 0) hkb (and_lt _ _ hlb))
      try simp only at HN
      rw [hstep] at HN
      have HNO : Hid (Out i.lo i.hi w (wr.setCell ⟨i.B, c + k, none⟩ (.int .u8 ((s.b.getD (c + k) 0 &&& (sb p).getD k 0 : Nat) : Int)))) := by
        have h5 := hok.out
        unfold DI.ok at h5
        exact HO3.out.set _ _ (by show i.lo ≤ i.B; omega) (by show i.B < i.hi; omega)
      have hand := u8_and_nat (s.b.getD (c + k) 0) ((sb p).getD k 0) hlb hlp
      clear hD3 hstep HD3 HO3 HD2 HO2
      generalize (sb p).getD k 0 = y at *
      generalize s.b.getD (c + k) 0 = x at *
      go_wp2
      go_region
      go_wp2
      go_roundw
      case rel => exact ⟨k + 1, by omega, by go_num, HN.out.drew, HNO.out.drew⟩
      case measure => simp [intOf]; omega
    · obtain rfl : k = m := by omega
      have hT : ∀ b, Hid (toldE { s2 with b := b } = R) := by
        intro b
        show (if s2.dn then 5 else 0) = _
        rw [HLF.out, ← HZ.out, ← HR.out]
        by_cases h0 : s.lf = 0 <;> simp [h0]
      by_cases hto : z = true ∧ k < 16
      · obtain ⟨rfl, h64⟩ := hto
        have hkb : c + k < 64 * n := by omega
        have cb := hD3.bAt _ hkb
        have fb := hD3.bFree _ hkb
        have c1 := hD3.c1
        try simp only at cb c1
        rw [fillB_at _ _ _ _ _ (by omega), if_neg (by omega)] at cb
        have hlf : s.lf = 0 := of_decide_eq_true HZ.out
        have hlb := HLT.out (c + k)
        have hkp : k < p.size := by omega
        have hsp := str_byte p k hkp
        have hlp : (sb p).getD k 0 < 256 := sb_lt p _ (getD_mem _ k (by rw [sb_length]; exact hkp))
        rw [HM0.out] at c1
        have hor := u8_or_nat ((sb p).getD k 0) s.m hlp hmlt
        have hand := u8_and_nat (s.b.getD (c + k) 0) ((sb p).getD k 0 ||| s.m) hlb (or_lt hlp hmlt)
        have HN := hid (hD3.setB (c + k) (s.b.getD (c + k) 0 &&& ((sb p).getD k 0 ||| s.m)) hkb (and_lt _ _ hlb))
        have HNO : Hid (Out i.lo i.hi w (wr.setCell ⟨i.B, c + k, none⟩ (.int .u8 ((s.b.getD (c + k) 0 &&& ((sb p).getD k 0 ||| s.m) : Nat) : Int)))) := by
          have h5 := hok.out
          unfold DI.ok at h5
          exact HO3.out.set _ _ (by show i.lo ≤ i.B; omega) (by show i.B < i.hi; omega)
        have hF : Hid ((if s.lf = 0 ∧ k < 16 then (fillB (fun j x => x &&& (sb p).getD j 0) c k s.b).set (c + k) (s.b.getD (c + k) 0 &&& ((sb p).getD k 0 ||| s.m)) else fillB (fun j x => x &&& (sb p).getD j 0) c k s.b) = (fillB (fun j x => x &&& (sb p).getD j 0) c k s.b).set (c + k) (s.b.getD (c + k) 0 &&& ((sb p).getD k 0 ||| s.m))) := by
          show _ = _
          rw [if_pos ⟨hlf, h64⟩]
        have q5 : decide ((k : Int) < 16) = true := decide_eq_true (by omega)
        clear hD3 HD3 HO3 HD2 HO2 hlf
        generalize (sb p).getD k 0 = y at *
        generalize s.b.getD (c + k) 0 = x at *
        go_wp2_with ((with_reducible refine wpList_unguard ?_ ?_); (focus rfl))
        go_region
        go_wp2_with ((with_reducible refine wpList_unguard ?_ ?_); (focus rfl))
        refine Calls.mono (dev_told i n _ _ HN.out.drew) ?_; rintro e w5 ⟨rfl, rfl⟩
        go_wp2_with ((with_reducible refine wpList_unguard ?_ ?_); (focus rfl))
        go_ret
        refine ⟨?_, ?_, HNO.out.drew⟩
        · exact congrArg (fun (r : Nat) => Ending.returned (Value.int .i64 (r : Int))) (hT _).out
        · rw [hWB.out, hF.out]
          exact HN.out.drew
      · have hF : Hid ((if s.lf = 0 ∧ k < 16 then (fillB (fun j x => x &&& (sb p).getD j 0) c k s.b).set (c + k) (s.b.getD (c + k) 0 &&& ((sb p).getD k 0 ||| s.m)) else fillB (fun j x => x &&& (sb p).getD j 0) c k s.b) = fillB (fun j x => x &&& (sb p).getD j 0) c k s.b) := by
          show _ = _
          rw [if_neg (fun h => hto ⟨by rw [← HZ.out]; exact decide_eq_true h.1, h.2⟩)]
        clear hD3 HD2 HO2
        cases z with
        | false =>
          clear hto
          go_wp2_with ((with_reducible refine wpList_unguard ?_ ?_); (focus rfl))
          refine Calls.mono (dev_told i n _ _ HD3.out) ?_; rintro e w5 ⟨rfl, rfl⟩
          go_wp2_with ((with_reducible refine wpList_unguard ?_ ?_); (focus rfl))
          go_ret
          refine ⟨?_, ?_, HO3.out⟩
          · exact congrArg (fun (r : Nat) => Ending.returned (Value.int .i64 (r : Int))) (hT _).out
          · rw [hWB.out, hF.out]
            exact HD3.out
        | true =>
          have q5 : decide ((k : Int) < 16) = false := decide_eq_false (by simp only [true_and] at hto; omega)
          clear hto
          go_wp2_with ((with_reducible refine wpList_unguard ?_ ?_); (focus rfl))
          refine Calls.mono (dev_told i n _ _ HD3.out) ?_; rintro e w5 ⟨rfl, rfl⟩
          go_wp2_with ((with_reducible refine wpList_unguard ?_ ?_); (focus rfl))
          go_ret
          refine ⟨?_, ?_, HO3.out⟩
          · exact congrArg (fun (r : Nat) => Ending.returned (Value.int .i64 (r : Int))) (hT _).out
          · rw [hWB.out, hF.out]
            exact HD3.out
end Go.Proofs.Ytngkmlchblgmeaa
