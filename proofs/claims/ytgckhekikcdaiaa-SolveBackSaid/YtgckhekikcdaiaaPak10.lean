/-
  Quotient and rest in the program. Conditions: polynomials of at most 100000 bytes.
  Quotient and rest in plain Lean: what is divided is the quotient times the divisor, and the rest, whose degree is less. No program in sight.
  The shift of a polynomial in the program. Conditions: polynomials of at most 1000000 bytes.
  slices.Concat of rows that are not empty; parity, and data with parity, in the program.
-/
import Derived.Test.YtgckhekikcdaiaaPak3
import Derived.Test.YtgckhekikcdaiaaPak6
import Derived.Test.YtgckhekikcdaiaaPak5
import Derived.Test.YtgckhekikcdaiaaPak7
import Derived.Test.YtgckhekikcdaiaaPak4
namespace Tri
/-- The quotient's factor at the place i, told of the rest so far. -/
def divC (B R : List Nat) (i : Nat) : Nat := gmul (R.getD i 0) (ginv (B.getD 0 0))
def divTo (B Q A : List Nat) : Nat → List Nat × List Nat
  | 0 => (Q, A)
  | i + 1 => ((divTo B Q A i).1.set i (divC B (divTo B Q A i).2 i), rowTo (divTo B Q A i).2 i (divC B (divTo B Q A i).2 i) B B.length)
/-- Quotient and rest of two without noughts ahead, the second not empty. -/
def divAB (A B : List Nat) : List Nat × List Nat :=
  if A.length < B.length then ([], A) else
  let r := divTo B (List.replicate (A.length - B.length + 1) 0) A (A.length - B.length + 1)
  (r.1, trim r.2)
def pdivmod (a b : List Nat) : List Nat × List Nat := divAB (trim a) (trim b)
theorem divTo_length (B Q A : List Nat) (i : Nat) : (divTo B Q A i).1.length = Q.length ∧ (divTo B Q A i).2.length = A.length := by
  induction i with
  | zero => exact ⟨rfl, rfl⟩
  | succ i ih => exact ⟨by show (List.set _ _ _).length = _; rw [List.length_set, ih.1], by show (rowTo _ _ _ _ _).length = _; rw [rowTo_length, ih.2]⟩
theorem divTo_bytes {B Q A : List Nat} (hQ : bytesL Q) (hA : bytesL A) (i : Nat) : bytesL (divTo B Q A i).1 ∧ bytesL (divTo B Q A i).2 := by
  induction i with
  | zero => exact ⟨hQ, hA⟩
  | succ i ih =>
    refine ⟨?_, rowTo_bytes ih.2 _ _ _ _⟩
    intro y hy
    rcases List.mem_or_eq_of_mem_set hy with h | h
    · exact ih.1 y h
    · rw [h]; exact gmul_lt _ _
end Tri
namespace Go.Proofs.Ytgckhekikcdaiaa
open Go.RowKit Tri

theorem bufB.other {w : World} {b c i : Nat} {v : Value} {l : List Nat} (h : bufB w b l) (hne : b ≠ c) : bufB (w.setCell ⟨c, i, none⟩ v) b l := by
  refine ⟨fun j hj => ?_, fun j hj => ?_⟩
  · refine ⟨_, _, rfl, ?_⟩
    have := h.at j hj
    rw [Nat.zero_add, World.cell?_setCell_other _ _ _ _ (by intro e; simp only [Addr.mk.injEq] at e; omega)]
    exact this
  · rw [World.frozen?_setCell]; exact h.2 j hj
theorem Keeps.nx {w0 w w' : World} {b : Nat} (h : Keeps w0 b w) (h' : Below w.heap.size w w') : Keeps w0 b w' :=
  ⟨h.1.trans (h'.mono h.1.size), h.2.below h' h.2.lt⟩
/-- What a division hands back. -/
def RetD (w : World) (q r : List Nat) (e : Ending) (w' : World) : Prop :=
  ∃ p c p' c', e = .returned (.tuple #[.slice p q.length c, .slice p' r.length c', .bool true]) ∧ q.length ≤ c ∧ r.length ≤ c' ∧ cellsB w' p q ∧ cellsB w' p' r ∧ Below w.heap.size w w'
def divV1 (f rb qb nq : Nat) (vr vb : Value) (pb : Addr) (Qs : List Nat) (i o b0 : Nat) (j : Nat) (v : Value) (w : World) : Prop := match j with
  | 0 => v = .slice (some ⟨qb, 0, none⟩) nq nq
  | 1 | 4 => v = .int .i64 (i : Nat)
  | 2 => v = .pointer (some ⟨f, 0, none⟩)
  | 3 => v = vr
  | 5 => v = .pointer (some ⟨rb, i, none⟩)
  | 6 => v = .int .u8 (o : Nat)
  | 7 => v = vb
  | 8 => v = .pointer (some pb)
  | 9 => v = .int .u8 (b0 : Nat)
  | 10 | 11 => v = .tuple #[.int .u8 (gmul o (ginv b0) : Nat), .bool true]
  | 12 => v = .int .u8 (gmul o (ginv b0) : Nat)
  | 13 => v = .bool true
  | 14 => v = .pointer (some ⟨qb, i, none⟩)
  | 15 => bufB w qb Qs
  | _ => True
/-- What may change: nothing below, and what has been written stays. -/
def divR (base qb : Nat) (Qs : List Nat) (w w' : World) : Prop := (base ≤ w.heap.size → Below base w w') ∧ w.heap.size ≤ w'.heap.size ∧ (bufB w qb Qs → bufB w' qb Qs)
theorem divR.refl (base qb : Nat) (Qs : List Nat) (w : World) : divR base qb Qs w w := ⟨fun h => (Below.refl _ _).mono h, Nat.le_refl _, id⟩
theorem divR.trans {base qb : Nat} {Qs : List Nat} (a b c : World) (h1 : divR base qb Qs a b) (h2 : divR base qb Qs b c) : divR base qb Qs a c :=
  ⟨fun h => (h1.1 h).trans (h2.1 (Nat.le_trans h h1.2.1)), Nat.le_trans h1.2.1 h2.2.1, fun h => h2.2.2 (h1.2.2 h)⟩
theorem divV1_st (f rb qb nq : Nat) (vr vb : Value) (pb : Addr) (Qs : List Nat) (base i o b0 : Nat) (j : Nat) (v : Value) (w w' : World) (hb : divR base qb Qs w w') (h : divV1 f rb qb nq vr vb pb Qs i o b0 j v w) : divV1 f rb qb nq vr vb pb Qs i o b0 j v w' := by
  unfold divV1 at *
  split at h <;> first | exact h | exact hb.2.2 h
def divV2 (f rb qb nq : Nat) (vr : Value) (i k o x y : Nat) (j : Nat) (v : Value) (w : World) : Prop := match j with
  | 0 | 5 => v = vr
  | 1 | 6 | 13 => v = .int .i64 (i : Nat)
  | 2 | 7 => v = .int .i64 (k : Nat)
  | 3 | 8 => v = .int .i64 ((i : Int) + (k : Int))
  | 4 | 11 => v = .pointer (some ⟨f, 0, none⟩)
  | 9 | 21 => v = .pointer (some ⟨rb, i + k, none⟩)
  | 10 => v = .int .u8 (o : Nat)
  | 12 => v = .slice (some ⟨qb, 0, none⟩) nq nq
  | 14 => v = .pointer (some ⟨qb, i, none⟩)
  | 15 => v = .int .u8 (x : Nat)
  | 16 => v = .int .u8 (y : Nat)
  | 17 => PairB v w x y
  | 18 => v = .int .u8 (gmul x y : Nat)
  | 19 => PairB v w o (gmul x y)
  | 20 => v = .int .u8 (o ^^^ gmul x y : Nat)
  | _ => True
theorem divV2_st (f rb qb nq : Nat) (vr : Value) (i k o x y : Nat) (j : Nat) (v : Value) (w w' : World) (hb : Below w.heap.size w w') (h : divV2 f rb qb nq vr i k o x y j v w) : divV2 f rb qb nq vr i k o x y j v w' := by
  unfold divV2 at *
  split at h <;> first | exact h | exact h.below hb

set_option maxHeartbeats 4000000 in
set_option maxRecDepth 100000 in
theorem poly_DivMod (f : Nat) (p q : Option Addr) (n c m d : Nat) (a b : List Nat) (w : World) (hF : isF w f) (hn : n = a.length) (hnc : n ≤ c) (hp : cellsB w p a) (hm : m = b.length) (hmd : m ≤ d) (hq : cellsB w q b)
    (hba : bytesL a) (hbb : bytesL b) (hla : a.length ≤ 100000) (hlb : b.length ≤ 100000) (h0 : trim b ≠ []) :
    Calls Try.prog 37 #[.pointer (some ⟨f, 0, none⟩), .slice p n c, .slice q m d] w (RetD w (pdivmod a b).1 (pdivmod a b).2) := by
  subst hn hm
  have HF := hid hF
  have HP := hid hp
  have HQ := hid hq
  clear hF hp hq
  go_enter Try.func37, Try.ntmps37
  go_wp2_with ((with_reducible refine wpList_unguard ?_ ?_); (focus rfl))
  refine Calls.mono (poly_Trim q _ d b w rfl hmd HQ.out (by omega)) ?_; rintro e w1 ⟨vb, rfl, hO, hB⟩
  have HB1 := hid hB
  obtain ⟨pb, cb, rfl, hB2⟩ := hO.cells
  have hta := trim_length_le a
  have htb := trim_length_le b
  have hxa := hid (trim_bytes hba)
  have hxb := hid (trim_bytes hbb)
  have hhead := hid (trim_head b h0)
  have hbl : (trim b).length ≠ 0 := fun e => h0 (List.eq_nil_of_length_eq_zero e)
  have hres : Hid (pdivmod a b = divAB (trim a) (trim b)) := rfl
  have HBB := hid hB2
  have K1 : Hid (Keeps w1 f w1) := ⟨Below.refl _ _, HF.out.below HB1.out HF.out.lt⟩
  have HP1 := hid (HP.out.below HB1.out)
  clear hB hO hB2 hba hbb h0 HP HQ HF
  generalize pdivmod a b = PD at *
  generalize trim b = B at *
  have hb0 : ((B.length : Int) == 0) = false := by rw [beq_eq_false_iff_ne]; omega
  go_wp2_with ((with_reducible refine wpList_unguard ?_ ?_); (focus rfl))
  refine Calls.mono (poly_Trim p _ c a w1 rfl hnc HP1.out (by omega)) ?_; rintro e w2 ⟨va, rfl, hO, hB⟩
  have K2 := hid (K1.out.nx hB)
  have HO2 := hid hO
  clear hO hB HP1
  generalize trim a = XA at *
  by_cases hlt0 : XA.length < B.length
  · have he : Hid (PD = ([], XA)) := by show _ = _; rw [hres.out]; unfold divAB; rw [if_pos hlt0]
    obtain ⟨pa, ca, rfl, hA1⟩ := HO2.out.cells
    have hle : XA.length ≤ ca := by
      rcases HO2.out.buf with ⟨h1, h2⟩ | ⟨g, cap, h1, h2, h3, _⟩
      · rw [h2]; exact Nat.zero_le _
      · simp only [Value.slice.injEq] at h1; omega
    have HA := hid hA1
    have HLE := hid hle
    have hdl : decide ((XA.length : Int) < (B.length : Int)) = true := decide_eq_true (by omega)
    clear hA1 hle
    go_wp2_with ((with_reducible refine wpList_unguard ?_ ?_); (focus rfl))
    refine bodyPost_ret (v := .tuple #[.slice none 0 0, .slice pa XA.length ca, .bool true]) (by simp [results, Try.results37, go_sem]) rfl ?_
    rw [he.out]
    exact ⟨none, 0, pa, ca, rfl, Nat.le_refl _, HLE.out, cellsB.nil _ _, HA.out, HB1.out.trans (K2.out.1.mono HB1.out.size)⟩
  · rcases HO2.out.buf with ⟨_, h2⟩ | ⟨rb, cap, rfl, hrb, hrc, hbuf⟩
    · exfalso; have h3 := congrArg List.length h2; simp only [List.length_nil] at h3; omega
    have hdl : decide ((XA.length : Int) < (B.length : Int)) = false := decide_eq_false (by omega)
    have he : Hid (PD = ((divTo B (List.replicate (XA.length - B.length + 1) 0) XA (XA.length - B.length + 1)).1, trim (divTo B (List.replicate (XA.length - B.length + 1) 0) XA (XA.length - B.length + 1)).2)) := by
      show _ = _; rw [hres.out]; unfold divAB; rw [if_neg hlt0]
    obtain ⟨N, hN⟩ : ∃ N, XA.length - B.length + 1 = N := ⟨_, rfl⟩
    have hNI : (XA.length : Int) - (B.length : Int) + 1 = (N : Int) := by omega
    have hw1 : IntKind.i64.wrap ((XA.length : Int) - (B.length : Int)) = (XA.length : Int) - (B.length : Int) := by rw [IntKind.wrap_i64]; omega
    have hw2 : IntKind.i64.wrap (N : Int) = (N : Int) := by rw [IntKind.wrap_i64]; omega
    have hmk := run_make_row' (P := Try.prog) 22 5 (.int .u8 0) 1 Try.underlying22 Try.infoB rfl .i64 .i64 N (by omega) (by omega)
    rw [hN] at he
    have HN := hid (show N + B.length = XA.length + 1 from by omega)
    have HMQ := hid (bufB.made w2 N 5)
    have HMR := hid (hbuf.alloc (madeCells #[.int .u8 0] N) 5)
    have hrlt : rb < w2.heap.size := by
      obtain ⟨a', o', e', hc'⟩ := hbuf.1 0 (by omega)
      simp only [Option.some.injEq, Addr.mk.injEq] at e'
      obtain ⟨rfl, rfl, _⟩ := e'
      exact block_lt_of_cell hc'
    have hw12 : w1.heap.size ≤ w2.heap.size := K2.out.1.size
    have K3 := hid (K2.out.alloc (.cells (madeCells #[.int .u8 0] N) 5))
    have HRB : Hid (w1.heap.size ≤ rb) := hrb
    clear hres hN hbuf HO2
    go_wp2_with ((with_reducible refine wpList_unguard ?_ ?_); (focus rfl))
    generalize w2.alloc (.cells (madeCells #[.int .u8 0] N) 5) = w3 at *
    obtain ⟨qb, hqb⟩ : ∃ qb, w2.heap.size = qb := ⟨_, rfl⟩
    rw [hqb] at HMQ hrlt hw12 ⊢
    have HQB : Hid (w1.heap.size ≤ qb) := hw12
    have HNE : Hid (rb ≠ qb) := by show _ ≠ _; omega
    clear hmk hqb hNI hrlt hw12 hw1 hw2 K2 hrb
    have hN200 : N ≤ 100001 := by have := HN.out; omega
    have HQ0 := hid (show bytesL (List.replicate N 0) from by intro y hy; rw [List.mem_replicate] at hy; omega)
    have HQ0l := hid (show (List.replicate N 0).length = N from List.length_replicate)
    generalize List.replicate N 0 = Q0 at *
    go_loopw [40] (fun i wr => ∃ k : Nat, k ≤ N ∧ i = .int .i64 k ∧ Keeps w1 f wr ∧ bufB wr rb (divTo B Q0 XA k).2 ∧ bufB wr qb (divTo B Q0 XA k).1) (fun i _ => N - (intOf i).toNat)
    case atStart => exact ⟨0, Nat.zero_le _, rfl, K3.out, HMR.out, HMQ.out⟩
    case round =>
      clear K3 HMR HMQ
      obtain ⟨i, hi, rfl, hK, hMR, hMQ⟩ := hrel
      have K4 := hid hK
      have HMR := hid hMR
      have HMQ := hid hMQ
      clear hK hMR hMQ
      by_cases hlt : i < N
      · have hlR := (divTo_length B Q0 XA i).2
        have hlQ := (divTo_length B Q0 XA i).1
        rw [HQ0l.out] at hlQ
        have hbR := (divTo_bytes (B := B) HQ0.out hxa.out i).2
        have HD1 : Hid ((divTo B Q0 XA (i + 1)).1 = (divTo B Q0 XA i).1.set i (divC B (divTo B Q0 XA i).2 i)) := rfl
        have HD2 : Hid ((divTo B Q0 XA (i + 1)).2 = rowTo (divTo B Q0 XA i).2 i (divC B (divTo B Q0 XA i).2 i) B B.length) := rfl
        have HC : Hid (divC B (divTo B Q0 XA i).2 i = gmul ((divTo B Q0 XA i).2.getD i 0) (ginv (B.getD 0 0))) := rfl
        generalize hR : (divTo B Q0 XA i).2 = R at *
        generalize hQ : (divTo B Q0 XA i).1 = Q at *
        generalize hR1 : (divTo B Q0 XA (i + 1)).2 = R1 at *
        generalize hQ1 : (divTo B Q0 XA (i + 1)).1 = Q1 at *
        have HR1 := hid hR1
        have HQ1 := hid hQ1
        clear hR hQ hR1 hQ1
        have hiR : i < R.length := by rw [hlR]; have := HN.out; omega
        have ho : R.getD i 0 < 256 := hbR _ (getD_mem R i hiR)
        have HO : Hid (∀ w', bufB w' rb R → w'.cell? ⟨rb, i, none⟩ = some (.int .u8 (R.getD i 0 : Nat))) := fun w' h => h.at _ hiR
        have HFQ : Hid (∀ w', bufB w' qb Q → w'.cell? ⟨qb, i, none⟩ = some (.int .u8 (Q.getD i 0 : Nat)) ∧ w'.frozen? ⟨qb, i, none⟩ = false) := fun w' h => ⟨h.at _ (by rw [hlQ]; exact hlt), h.2 _ (by rw [hlQ]; exact hlt)⟩
        obtain ⟨b', o', rfl, hcb0⟩ := HBB.out 0 (by omega)
        have HCB : Hid (∀ w', Keeps w1 f w' → w'.cell? ⟨b', o', none⟩ = some (.int .u8 (B.getD 0 0 : Nat))) := fun w' h => by
          rw [Nat.add_zero] at hcb0
          rw [h.1.cell (p := ⟨b', o', none⟩) (block_lt_of_cell hcb0)]; exact hcb0
        have hb1 : B.getD 0 0 < 256 := hxb.out _ (getD_mem B 0 (by omega))
        have hb2 : 0 < B.getD 0 0 := Nat.pos_of_ne_zero hhead.out
        have HLR := hid hlR
        have HLQ := hid hlQ
        have HBR := hid hbR
        have hgl := gmul_lt (R.getD i 0) (ginv (B.getD 0 0))
        have hiA : i < XA.length := by have := HN.out; omega
        clear hcb0 hlR hlQ hbR hiR
        generalize hoo : R.getD i 0 = o at *
        generalize hbb0 : B.getD 0 0 = b0 at *
        generalize hqq : Q.getD i 0 = qo at *
        clear hoo hbb0 hqq
        go_wp2_with ((with_reducible refine wpList_unguard ?_ ?_); (focus rfl))
        have HRR : Hid (∀ w, divR w1.heap.size qb (Q.set i (gmul o (ginv b0))) w w) := fun w => divR.refl _ _ _ _
        have HFQ2 : Hid (∀ w', (bufB w' qb Q ∨ bufB w' qb (Q.set i (gmul o (ginv b0)))) → (∃ z : Nat, w'.cell? ⟨qb, i, none⟩ = some (.int .u8 z)) ∧ w'.frozen? ⟨qb, i, none⟩ = false) := fun w' h => by
          rcases h with h | h
          · exact ⟨⟨_, h.at i (by rw [HLQ.out]; exact hlt)⟩, h.2 i (by rw [HLQ.out]; exact hlt)⟩
          · exact ⟨⟨_, h.at i (by rw [List.length_set, HLQ.out]; exact hlt)⟩, h.2 i (by rw [List.length_set, HLQ.out]; exact hlt)⟩
        refine region_gen _ _ (fun w' => Keeps w1 f w' ∧ bufB w' rb R ∧ (bufB w' qb Q ∨ bufB w' qb (Q.set i (gmul o (ginv b0))))) (divR w1.heap.size qb (Q.set i (gmul o (ginv b0)))) HRR.out divR.trans (divV1 f rb qb N (.slice (some ⟨rb, 0, none⟩) XA.length cap) (.slice (some ⟨b', o', none⟩) B.length cb) ⟨b', o', none⟩ (Q.set i (gmul o (ginv b0))) i o b0) (by kernel_rfl) (by kernel_rfl) (by kernel_rfl) ⟨by decide, rfl⟩ ⟨K4.out.drew, HMR.out.drew, .inl HMQ.out.drew⟩ (divV1_st f rb qb N _ _ _ _ _ i o b0) ?_ ?_
        · clear K4 HMR HMQ
          refine ⟨fun A w3 hC hu hd K hK => ?_, ?_⟩
          · exact op_tmp 10 _ rfl (hu 10 rfl) (hK _ _ rfl hC (HRR.out _))
          refine ⟨fun A w3 hC hu hd K hK => ?_, ?_⟩
          · exact op_tmp 11 _ rfl (hu 11 rfl) (hK _ _ rfl hC (HRR.out _))
          refine ⟨fun A w3 hC hu hd K hK => ?_, ?_⟩
          · exact op_tmp 0 _ rfl (hu 0 rfl) (hK _ _ rfl hC (HRR.out _))
          refine ⟨fun A w3 hC hu hd K hK => ?_, ?_⟩
          · exact op_tmp 9 _ rfl (hu 9 rfl) (hK _ _ rfl hC (HRR.out _))
          refine ⟨fun A w3 hC hu hd K hK => ?_, ?_⟩
          · exact op_tmp 11 _ rfl (hu 11 rfl) (hK _ _ rfl hC (HRR.out _))
          refine ⟨fun A w3 hC hu hd K hK => ?_, ?_⟩
          · have h1 : A.tmps[47]?.getD undef = Value.slice (some ⟨rb, 0, none⟩) XA.length cap := by have this : A.tmps.getD 47 undef = Value.slice (some ⟨rb, 0, none⟩) XA.length cap := hd ⟨3, .data⟩ (by simp) rfl _ _ rfl rfl; simpa using this
            have h2 : A.tmps[48]?.getD undef = Value.int .i64 (i : Nat) := by have this : A.tmps.getD 48 undef = Value.int .i64 (i : Nat) := hd ⟨4, .data⟩ (by simp) rfl _ _ rfl rfl; simpa using this
            clear hu hd
            go_simp
            exact hK _ _ rfl hC (HRR.out _)
          refine ⟨fun A w3 hC hu hd K hK => ?_, ?_⟩
          · have h1 : A.tmps[49]?.getD undef = Value.pointer (some ⟨rb, i, none⟩) := by have this : A.tmps.getD 49 undef = Value.pointer (some ⟨rb, i, none⟩) := hd ⟨5, .data⟩ (by simp) rfl _ _ rfl rfl; simpa using this
            have hl := HO.out _ hC.2.1
            clear hu hd
            go_simp
            exact hK _ _ rfl hC (HRR.out _)
          refine ⟨fun A w3 hC hu hd K hK => ?_, ?_⟩
          · exact op_tmp 2 _ rfl (hu 2 rfl) (hK _ _ rfl hC (HRR.out _))
          refine ⟨fun A w3 hC hu hd K hK => ?_, ?_⟩
          · have h1 : A.tmps[51]?.getD undef = Value.slice (some ⟨b', o', none⟩) B.length cb := by have this : A.tmps.getD 51 undef = Value.slice (some ⟨b', o', none⟩) B.length cb := hd ⟨7, .data⟩ (by simp) rfl _ _ rfl rfl; simpa using this
            have hB0 : 0 < B.length := by omega
            clear hu hd
            go_simp
            exact hK _ _ rfl hC (HRR.out _)
          refine ⟨fun A w3 hC hu hd K hK => ?_, ?_⟩
          · have h1 : A.tmps[52]?.getD undef = Value.pointer (some ⟨b', o', none⟩) := by have this : A.tmps.getD 52 undef = Value.pointer (some ⟨b', o', none⟩) := hd ⟨8, .data⟩ (by simp) rfl _ _ rfl rfl; simpa using this
            have hl := HCB.out _ hC.1
            clear hu hd
            go_simp
            exact hK _ _ rfl hC (HRR.out _)
          refine ⟨fun A w3 hC hu hd K hK => ?_, ?_⟩
          · have h1 : A.tmps[46]?.getD undef = Value.pointer (some ⟨f, 0, none⟩) := by have this : A.tmps.getD 46 undef = Value.pointer (some ⟨f, 0, none⟩) := hd ⟨2, .data⟩ (by simp) rfl _ _ rfl rfl; simpa using this
            have h2 : A.tmps[50]?.getD undef = Value.int .u8 (o : Nat) := by have this : A.tmps.getD 50 undef = Value.int .u8 (o : Nat) := hd ⟨6, .data⟩ (by simp) rfl _ _ rfl rfl; simpa using this
            have h3 : A.tmps[53]?.getD undef = Value.int .u8 (b0 : Nat) := by have this : A.tmps.getD 53 undef = Value.int .u8 (b0 : Nat) := hd ⟨9, .data⟩ (by simp) rfl _ _ rfl rfl; simpa using this
            clear hu hd
            go_simp
            refine Calls.mono (gf_Div f o b0 _ hC.1.2 ho hb1 hb2) ?_
            rintro e w5 ⟨rfl, rfl⟩
            exact hK _ _ rfl ⟨hC.1.alloc _, hC.2.1.alloc _ _, hC.2.2.imp (fun h => h.alloc _ _) (fun h => h.alloc _ _)⟩ ⟨fun h => ((Below.refl _ _).mono h).alloc h _, by simp, fun h => h.alloc _ _⟩
          refine ⟨fun A w3 hC hu hd K hK => ?_, ?_⟩
          · have h1 : A.tmps[54]?.getD undef = Value.tuple #[.int .u8 (gmul o (ginv b0) : Nat), .bool true] := by have this : A.tmps.getD 54 undef = Value.tuple #[.int .u8 (gmul o (ginv b0) : Nat), .bool true] := hd ⟨10, .data⟩ (by simp) rfl _ _ rfl rfl; simpa using this
            clear hu hd
            go_simp
            exact hK _ _ rfl hC (HRR.out _)
          refine ⟨fun A w3 hC hu hd K hK => ?_, ?_⟩
          · have h1 : A.tmps[43]?.getD undef = Value.tuple #[.int .u8 (gmul o (ginv b0) : Nat), .bool true] := by have this : A.tmps.getD 43 undef = Value.tuple #[.int .u8 (gmul o (ginv b0) : Nat), .bool true] := hd ⟨11, .data⟩ (by simp) rfl _ _ rfl rfl; simpa using this
            clear hu hd
            go_simp
            exact hK _ _ rfl hC (HRR.out _)
          refine ⟨fun A w3 hC hu hd K hK => ?_, ?_⟩
          · have h1 : A.tmps[43]?.getD undef = Value.tuple #[.int .u8 (gmul o (ginv b0) : Nat), .bool true] := by have this : A.tmps.getD 43 undef = Value.tuple #[.int .u8 (gmul o (ginv b0) : Nat), .bool true] := hd ⟨11, .data⟩ (by simp) rfl _ _ rfl rfl; simpa using this
            clear hu hd
            go_simp
            exact hK _ _ rfl hC (HRR.out _)
          refine ⟨fun A w3 hC hu hd K hK => ?_, ?_⟩
          · have h1 : A.tmps[44]?.getD undef = Value.slice (some ⟨qb, 0, none⟩) N N := by have this : A.tmps.getD 44 undef = Value.slice (some ⟨qb, 0, none⟩) N N := hd ⟨0, .data⟩ (by simp) rfl _ _ rfl rfl; simpa using this
            have h2 : A.tmps[45]?.getD undef = Value.int .i64 (i : Nat) := by have this : A.tmps.getD 45 undef = Value.int .i64 (i : Nat) := hd ⟨1, .data⟩ (by simp) rfl _ _ rfl rfl; simpa using this
            clear hu hd
            go_simp
            exact hK _ _ rfl hC (HRR.out _)
          refine ⟨fun A w3 hC hu hd K hK => ?_, ?_⟩
          · have h1 : A.tmps[55]?.getD undef = Value.int .u8 (gmul o (ginv b0) : Nat) := by have this : A.tmps.getD 55 undef = Value.int .u8 (gmul o (ginv b0) : Nat) := hd ⟨12, .data⟩ (by simp) rfl _ _ rfl rfl; simpa using this
            have h2 : A.tmps[57]?.getD undef = Value.pointer (some ⟨qb, i, none⟩) := by have this : A.tmps.getD 57 undef = Value.pointer (some ⟨qb, i, none⟩) := hd ⟨14, .data⟩ (by simp) rfl _ _ rfl rfl; simpa using this
            obtain ⟨⟨z, hz1⟩, hz2⟩ := HFQ2.out _ hC.2.2
            have HC' := hid hC
            have HK := hid hK
            clear hu hd hC hK
            go_simp
            have hbel : Below w1.heap.size w1 (w3.setCell ⟨qb, i, none⟩ (.int .u8 (gmul o (ginv b0) : Nat))) := HC'.out.1.1.setCell HQB.out _
            have hbq : bufB (w3.setCell ⟨qb, i, none⟩ (.int .u8 (gmul o (ginv b0) : Nat))) qb (Q.set i (gmul o (ginv b0))) := by
              rcases HC'.out.2.2 with h | h
              · exact h.set i _ (by rw [HLQ.out]; exact hlt)
              · have := h.set i (gmul o (ginv b0)) (by rw [List.length_set, HLQ.out]; exact hlt)
                rwa [List.set_set] at this
            exact HK.out undef _ hbq ⟨⟨hbel, K1.out.2.below hbel K1.out.2.lt⟩, HC'.out.2.1.other HNE.out, .inr hbq⟩ ⟨fun h => ((Below.refl _ _).mono h).setCell HQB.out _, by simp, fun _ => hbq⟩
          trivial
        · intro vs w5 hC hR hv hw
          have h55 : vs 55 = .int .u8 (gmul o (ginv b0) : Nat) := hv 12 _ 55 rfl rfl
          have h43 : vs 43 = .tuple #[.int .u8 (gmul o (ginv b0) : Nat), .bool true] := hv 11 _ 43 rfl rfl
          obtain ⟨_, hw15⟩ := hw 15 _ rfl rfl
          have K5 := hid hC.1
          have HMR5 := hid hC.2.1
          have HMQ5 : Hid (bufB w5 qb (Q.set i (gmul o (ginv b0)))) := hw15
          clear hv hw hC hR hw15 HFQ HO HCB HFQ2 HRR
          simp only [wrote_cons, wrote_none, wrote_nil]
          rw [← HC.out] at HMQ5 hgl
          rw [← HD1.out] at HMQ5
          have HQx : Hid (Q1.getD i 0 = divC B R i ∧ i < Q1.length) := by
            show _ ∧ _
            rw [HD1.out, List.length_set, HLQ.out]
            refine ⟨?_, hlt⟩
            rw [List.getD_eq_getElem?_getD, List.getElem?_set_self (by rw [HLQ.out]; exact hlt)]
            rfl
          clear HC HD1
          generalize divC B R i = x at *
          generalize (gmul o (ginv b0)) = xx at *
          go_wp2_with ((with_reducible refine wpList_unguard ?_ ?_); (focus rfl))
          go_loopw [60] (fun i' wr => ∃ k : Nat, k ≤ B.length ∧ i' = .int .i64 k ∧ Keeps w1 f wr ∧ bufB wr rb (rowTo R i x B k) ∧ bufB wr qb Q1) (fun i' _ => B.length - (intOf i').toNat)
          case atStart => exact ⟨0, Nat.zero_le _, rfl, K5.out, HMR5.out, HMQ5.out⟩
          case round =>
            clear HMR5 HMQ5 K5
            obtain ⟨k, hk, rfl, hK, hMR, hMQ⟩ := hrel
            have K5 := hid hK
            have HMR := hid hMR
            have HMQ := hid hMQ
            clear hK hMR hMQ
            by_cases hkt : k < B.length
            · obtain ⟨b2, q', e2, hc0⟩ := HBB.out k hkt
              simp only [Option.some.injEq, Addr.mk.injEq] at e2
              obtain ⟨rfl, rfl, _⟩ := e2
              have hcb : wr.cell? ⟨b', o' + k, none⟩ = some (.int .u8 (B.getD k 0 : Nat)) := by
                rw [K5.out.1.cell (p := ⟨b', o' + k, none⟩) (block_lt_of_cell hc0)]; exact hc0
              have hy : B.getD k 0 < 256 := hxb.out _ (getD_mem B k hkt)
              have HCS2 : Hid (rowTo R i x B (k + 1) = acc (rowTo R i x B k) (i + k) (gmul x (B.getD k 0))) := rfl
              have hL2 : Hid ((rowTo R i x B k).length = XA.length) := by show _ = _; rw [rowTo_length]; exact HLR.out
              have hB2 := hid (rowTo_bytes HBR.out i x B k)
              clear hc0
              generalize B.getD k 0 = y at *
              generalize rowTo R i x B k = L at *
              have hik : i + k < XA.length := by have := HN.out; omega
              have ho2 : L.getD (i + k) 0 < 256 := hB2.out _ (getD_mem L _ (by rw [hL2.out]; exact hik))
              have HO : Hid (∀ w', bufB w' rb L → w'.cell? ⟨rb, i + k, none⟩ = some (.int .u8 (L.getD (i + k) 0 : Nat)) ∧ w'.frozen? ⟨rb, i + k, none⟩ = false) := fun w' h => ⟨h.at _ (by rw [hL2.out]; exact hik), h.2 _ (by rw [hL2.out]; exact hik)⟩
              have HOQ : Hid (∀ w', bufB w' qb Q1 → w'.cell? ⟨qb, i, none⟩ = some (.int .u8 (x : Nat))) := fun w' h => by have := h.at i HQx.out.2; rwa [HQx.out.1] at this
              have HSet : Hid (acc L (i + k) (gmul x y) = L.set (i + k) (L.getD (i + k) 0 ^^^ gmul x y)) := rfl
              generalize L.getD (i + k) 0 = o2 at *
              have hwr : IntKind.i64.wrap ((i : Int) + (k : Int)) = (i : Int) + (k : Int) := by rw [IntKind.wrap_i64]; omega
              have hix : 0 ≤ (i : Int) + (k : Int) ∧ (i : Int) + (k : Int) < (XA.length : Int) := by omega
              have htn : ((i : Int) + (k : Int)).toNat = i + k := by omega
              have HWR := hid hwr
              have HIX := hid hix
              have HTN := hid htn
              clear hwr hix htn
              go_wp2_with ((with_reducible refine wpList_unguard ?_ ?_); (focus rfl))
              refine region_store (m := 22) _ _ (fun w' => Keeps w1 f w' ∧ bufB w' rb L ∧ bufB w' qb Q1) (divV2 f rb qb N (.slice (some ⟨rb, 0, none⟩) XA.length cap) i k o2 x y) (by kernel_rfl) (by kernel_rfl) (by kernel_rfl) rfl rfl (by kernel_rfl) ⟨by decide, rfl⟩ ⟨K5.out.drew, HMR.out.drew, HMQ.out.drew⟩ (divV2_st f rb qb N _ i k o2 x y) ?_ ?_
              · clear K5 HMR HMQ
                obtain ⟨nA, hnA⟩ : ∃ nA, XA.length = nA := ⟨_, rfl⟩
                have HNA := hid hnA
                rw [hnA] at HIX ⊢
                clear hnA
                refine ⟨fun A w3 hC hu hd K hK => ?_, ?_⟩
                · exact op_tmp 9 _ rfl (hu 9 rfl) (hK _ _ rfl hC (Below.refl _ _))
                refine ⟨fun A w3 hC hu hd K hK => ?_, ?_⟩
                · exact op_tmp 11 _ rfl (hu 11 rfl) (hK _ _ rfl hC (Below.refl _ _))
                refine ⟨fun A w3 hC hu hd K hK => ?_, ?_⟩
                · exact op_tmp 12 _ rfl (hu 12 rfl) (hK _ _ rfl hC (Below.refl _ _))
                refine ⟨fun A w3 hC hu hd K hK => ?_, ?_⟩
                · have h1 : A.tmps[66]?.getD undef = Value.int .i64 (i : Nat) := by have this : A.tmps.getD 66 undef = Value.int .i64 (i : Nat) := hd ⟨1, .data⟩ (by simp) rfl _ _ rfl rfl; simpa using this
                  have h2 : A.tmps[67]?.getD undef = Value.int .i64 (k : Nat) := by have this : A.tmps.getD 67 undef = Value.int .i64 (k : Nat) := hd ⟨2, .data⟩ (by simp) rfl _ _ rfl rfl; simpa using this
                  clear hu hd
                  go_simp
                  rw [HWR.out]
                  exact hK _ _ rfl hC (Below.refl _ _)
                refine ⟨fun A w3 hC hu hd K hK => ?_, ?_⟩
                · exact op_tmp 0 _ rfl (hu 0 rfl) (hK _ _ rfl hC (Below.refl _ _))
                refine ⟨fun A w3 hC hu hd K hK => ?_, ?_⟩
                · exact op_tmp 9 _ rfl (hu 9 rfl) (hK _ _ rfl hC (Below.refl _ _))
                refine ⟨fun A w3 hC hu hd K hK => ?_, ?_⟩
                · exact op_tmp 11 _ rfl (hu 11 rfl) (hK _ _ rfl hC (Below.refl _ _))
                refine ⟨fun A w3 hC hu hd K hK => ?_, ?_⟩
                · exact op_tmp 12 _ rfl (hu 12 rfl) (hK _ _ rfl hC (Below.refl _ _))
                refine ⟨fun A w3 hC hu hd K hK => ?_, ?_⟩
                · have h1 : A.tmps[71]?.getD undef = Value.int .i64 (i : Nat) := by have this : A.tmps.getD 71 undef = Value.int .i64 (i : Nat) := hd ⟨6, .data⟩ (by simp) rfl _ _ rfl rfl; simpa using this
                  have h2 : A.tmps[72]?.getD undef = Value.int .i64 (k : Nat) := by have this : A.tmps.getD 72 undef = Value.int .i64 (k : Nat) := hd ⟨7, .data⟩ (by simp) rfl _ _ rfl rfl; simpa using this
                  clear hu hd
                  go_simp
                  rw [HWR.out]
                  exact hK _ _ rfl hC (Below.refl _ _)
                refine ⟨fun A w3 hC hu hd K hK => ?_, ?_⟩
                · have h1 : A.tmps[70]?.getD undef = Value.slice (some ⟨rb, 0, none⟩) nA cap := by have this : A.tmps.getD 70 undef = Value.slice (some ⟨rb, 0, none⟩) nA cap := hd ⟨5, .data⟩ (by simp) rfl _ _ rfl rfl; simpa using this
                  have h2 : A.tmps[73]?.getD undef = Value.int .i64 ((i : Int) + (k : Int)) := by have this : A.tmps.getD 73 undef = Value.int .i64 ((i : Int) + (k : Int)) := hd ⟨8, .data⟩ (by simp) rfl _ _ rfl rfl; simpa using this
                  clear hu hd
                  go_simp
                  rw [if_pos HIX.out, HTN.out]
                  go_simp
                  exact hK _ _ rfl hC (Below.refl _ _)
                refine ⟨fun A w3 hC hu hd K hK => ?_, ?_⟩
                · have h1 : A.tmps[74]?.getD undef = Value.pointer (some ⟨rb, i + k, none⟩) := by have this : A.tmps.getD 74 undef = Value.pointer (some ⟨rb, i + k, none⟩) := hd ⟨9, .data⟩ (by simp) rfl _ _ rfl rfl; simpa using this
                  have hl := (HO.out _ hC.2.1).1
                  clear hu hd
                  go_simp
                  exact hK _ _ rfl hC (Below.refl _ _)
                refine ⟨fun A w3 hC hu hd K hK => ?_, ?_⟩
                · exact op_tmp 0 _ rfl (hu 0 rfl) (hK _ _ rfl hC (Below.refl _ _))
                refine ⟨fun A w3 hC hu hd K hK => ?_, ?_⟩
                · exact op_tmp 10 _ rfl (hu 10 rfl) (hK _ _ rfl hC (Below.refl _ _))
                refine ⟨fun A w3 hC hu hd K hK => ?_, ?_⟩
                · exact op_tmp 11 _ rfl (hu 11 rfl) (hK _ _ rfl hC (Below.refl _ _))
                refine ⟨fun A w3 hC hu hd K hK => ?_, ?_⟩
                · have h1 : A.tmps[77]?.getD undef = Value.slice (some ⟨qb, 0, none⟩) N N := by have this : A.tmps.getD 77 undef = Value.slice (some ⟨qb, 0, none⟩) N N := hd ⟨12, .data⟩ (by simp) rfl _ _ rfl rfl; simpa using this
                  have h2 : A.tmps[78]?.getD undef = Value.int .i64 (i : Nat) := by have this : A.tmps.getD 78 undef = Value.int .i64 (i : Nat) := hd ⟨13, .data⟩ (by simp) rfl _ _ rfl rfl; simpa using this
                  clear hu hd
                  go_simp
                  exact hK _ _ rfl hC (Below.refl _ _)
                refine ⟨fun A w3 hC hu hd K hK => ?_, ?_⟩
                · have h1 : A.tmps[79]?.getD undef = Value.pointer (some ⟨qb, i, none⟩) := by have this : A.tmps.getD 79 undef = Value.pointer (some ⟨qb, i, none⟩) := hd ⟨14, .data⟩ (by simp) rfl _ _ rfl rfl; simpa using this
                  have hl := HOQ.out _ hC.2.2
                  clear hu hd
                  go_simp
                  exact hK _ _ rfl hC (Below.refl _ _)
                refine ⟨fun A w3 hC hu hd K hK => ?_, ?_⟩
                · exact op_tmp 13 _ rfl (hu 13 rfl) (hK _ _ rfl hC (Below.refl _ _))
                refine ⟨fun A w3 hC hu hd K hK => ?_, ?_⟩
                · have h1 : A.tmps[80]?.getD undef = Value.int .u8 (x : Nat) := by have this : A.tmps.getD 80 undef = Value.int .u8 (x : Nat) := hd ⟨15, .data⟩ (by simp) rfl _ _ rfl rfl; simpa using this
                  have h2 : A.tmps[81]?.getD undef = Value.int .u8 (y : Nat) := by have this : A.tmps.getD 81 undef = Value.int .u8 (y : Nat) := hd ⟨16, .data⟩ (by simp) rfl _ _ rfl rfl; simpa using this
                  clear hu hd
                  go_simp
                  exact hK _ _ (PairB.new w3 _ _ _) ⟨hC.1.alloc _, hC.2.1.alloc _ _, hC.2.2.alloc _ _⟩ ((Below.refl _ _).alloc (Nat.le_refl _) _)
                refine ⟨fun A w3 hC hu hd K hK => ?_, ?_⟩
                · have h1 : A.tmps[76]?.getD undef = Value.pointer (some ⟨f, 0, none⟩) := by have this : A.tmps.getD 76 undef = Value.pointer (some ⟨f, 0, none⟩) := hd ⟨11, .data⟩ (by simp) rfl _ _ rfl rfl; simpa using this
                  obtain ⟨n, h0, hc2⟩ : PairB (A.tmps.getD 82 undef) w3 x y := hd ⟨17, .data⟩ (by simp) rfl _ _ rfl rfl; have h2 : A.tmps[82]?.getD undef = .slice (some ⟨n, 0, none⟩) 2 2 := by simpa using h0
                  clear hu hd h0
                  go_simp
                  refine Calls.mono (gf_Mul f _ _ _ [x, y] _ hC.1.2 rfl hc2 (by simp [hgl, hy]) (by simp)) ?_
                  rintro e w4 ⟨rfl, rfl⟩
                  rw [gprod_two x y hy]
                  exact hK _ _ rfl hC (Below.refl _ _)
                refine ⟨fun A w3 hC hu hd K hK => ?_, ?_⟩
                · have h1 : A.tmps[75]?.getD undef = Value.int .u8 (o2 : Nat) := by have this : A.tmps.getD 75 undef = Value.int .u8 (o2 : Nat) := hd ⟨10, .data⟩ (by simp) rfl _ _ rfl rfl; simpa using this
                  have h2 : A.tmps[83]?.getD undef = Value.int .u8 (gmul x y : Nat) := by have this : A.tmps.getD 83 undef = Value.int .u8 (gmul x y : Nat) := hd ⟨18, .data⟩ (by simp) rfl _ _ rfl rfl; simpa using this
                  clear hu hd
                  go_simp
                  exact hK _ _ (PairB.new w3 _ _ _) ⟨hC.1.alloc _, hC.2.1.alloc _ _, hC.2.2.alloc _ _⟩ ((Below.refl _ _).alloc (Nat.le_refl _) _)
                refine ⟨fun A w3 hC hu hd K hK => ?_, ?_⟩
                · have h1 : A.tmps[69]?.getD undef = Value.pointer (some ⟨f, 0, none⟩) := by have this : A.tmps.getD 69 undef = Value.pointer (some ⟨f, 0, none⟩) := hd ⟨4, .data⟩ (by simp) rfl _ _ rfl rfl; simpa using this
                  obtain ⟨n, h0, hc2⟩ : PairB (A.tmps.getD 84 undef) w3 o2 (gmul x y) := hd ⟨19, .data⟩ (by simp) rfl _ _ rfl rfl; have h2 : A.tmps[84]?.getD undef = .slice (some ⟨n, 0, none⟩) 2 2 := by simpa using h0
                  clear hu hd h0
                  go_simp
                  refine Calls.mono (gf_Add f _ _ _ [o2, gmul x y] _ rfl hc2 (by simp [ho2, gmul_lt]) (by simp)) ?_
                  rintro e w4 ⟨rfl, rfl⟩
                  rw [gsum_two o2 (gmul x y)]
                  exact hK _ _ rfl hC (Below.refl _ _)
                refine ⟨fun A w3 hC hu hd K hK => ?_, ?_⟩
                · have h1 : A.tmps[65]?.getD undef = Value.slice (some ⟨rb, 0, none⟩) nA cap := by have this : A.tmps.getD 65 undef = Value.slice (some ⟨rb, 0, none⟩) nA cap := hd ⟨0, .data⟩ (by simp) rfl _ _ rfl rfl; simpa using this
                  have h2 : A.tmps[68]?.getD undef = Value.int .i64 ((i : Int) + (k : Int)) := by have this : A.tmps.getD 68 undef = Value.int .i64 ((i : Int) + (k : Int)) := hd ⟨3, .data⟩ (by simp) rfl _ _ rfl rfl; simpa using this
                  clear hu hd
                  go_simp
                  rw [if_pos HIX.out, HTN.out]
                  go_simp
                  exact hK _ _ rfl hC (Below.refl _ _)
                trivial
              · intro vs w4 hC hbl hv
                have h85 : vs 85 = .int .u8 (o2 ^^^ gmul x y : Nat) := hv 20 _ 85 (by decide) rfl rfl
                have h86 : vs 86 = .pointer (some ⟨rb, i + k, none⟩) := hv 21 _ 86 (by decide) rfl rfl
                clear hv hbl
                have hl := HO.out _ hC.2.1
                have HC := hid hC
                clear hC
                simp only [List.take_succ_cons, List.take_zero, wrote_cons, wrote_nil]
                go_simp
                have hbel : Below w1.heap.size w1 (w4.setCell ⟨rb, i + k, none⟩ (.int .u8 (o2 ^^^ gmul x y : Nat))) := HC.out.1.1.setCell HRB.out _
                have K6 : Hid (Keeps w1 f (w4.setCell ⟨rb, i + k, none⟩ (.int .u8 (o2 ^^^ gmul x y : Nat)))) := ⟨hbel, K1.out.2.below hbel K1.out.2.lt⟩
                have HMR6 := hid (HC.out.2.1.set (i + k) (o2 ^^^ gmul x y) (by rw [hL2.out]; exact hik))
                have HMQ6 := hid (HC.out.2.2.other (c := rb) (i := i + k) (v := .int .u8 (o2 ^^^ gmul x y : Nat)) HNE.out.symm)
                rw [← HSet.out, ← HCS2.out] at HMR6
                clear hbel hl HC h85 h86
                generalize w4.setCell ⟨rb, i + k, none⟩ (.int .u8 (o2 ^^^ gmul x y : Nat)) = w5 at *
                generalize (o2 ^^^ gmul x y) = v at *
                go_wp2_with ((with_reducible refine wpList_unguard ?_ ?_); (focus rfl))
                go_roundw
                case rel => exact ⟨k + 1, by omega, by go_num, K6.out, HMR6.out, HMQ6.out⟩
                case measure => simp [intOf]; omega
            · obtain rfl : k = B.length := by omega
              have HMR6 : Hid (bufB wr rb R1) := by show bufB _ _ _; rw [HD2.out]; exact HMR.out
              clear HMR HD2
              go_wp2_with ((with_reducible refine wpList_unguard ?_ ?_); (focus rfl))
              go_roundw
              case rel => exact ⟨i + 1, by omega, by go_num, K5.out, by rw [HR1.out]; exact HMR6.out, by rw [HQ1.out]; exact HMQ.out⟩
              case measure => simp [intOf]; omega
      · obtain rfl : i = N := by omega
        have hlR := (divTo_length B Q0 XA i).2
        have hlQ := (divTo_length B Q0 XA i).1
        rw [HQ0l.out] at hlQ
        generalize (divTo B Q0 XA i).1 = Q at *
        generalize (divTo B Q0 XA i).2 = R at *
        have HLR := hid hlR
        have HLQ := hid hlQ
        clear hlR hlQ
        go_wp2_with ((with_reducible refine wpList_unguard ?_ ?_); (focus rfl))
        refine Calls.mono (poly_Trim (some ⟨rb, 0, none⟩) _ cap R wr HLR.out.symm hrc HMR.out.1 (by rw [HLR.out]; omega)) ?_
        rintro e w6 ⟨v6, rfl, hO, hB⟩
        have K6 := hid (K4.out.nx hB)
        have HQ6 := hid ((HMQ.out.below hB).1)
        obtain ⟨p6, c6, rfl, hc6⟩ := hO.cells
        have hle : (trim R).length ≤ c6 := by
          rcases hO.buf with ⟨h1, h2⟩ | ⟨g, cap, h1, h2, h3, _⟩
          · rw [h2]; exact Nat.zero_le _
          · simp only [Value.slice.injEq] at h1; omega
        have HC6 := hid hc6
        have HLE := hid hle
        clear hO hB hc6 hle
        go_wp2_with ((with_reducible refine wpList_unguard ?_ ?_); (focus rfl))
        refine bodyPost_ret (v := .tuple #[.slice (some ⟨qb, 0, none⟩) i i, .slice p6 (trim R).length c6, .bool true]) (by simp [results, Try.results37, go_sem]) rfl ?_
        rw [he.out]
        exact ⟨_, i, p6, c6, by rw [HLQ.out], by rw [HLQ.out]; exact Nat.le_refl _, HLE.out, HQ6.out, HC6.out, HB1.out.trans (K6.out.1.mono HB1.out.size)⟩
end Go.Proofs.Ytgckhekikcdaiaa

namespace Tri
theorem divTo_succ (B Q A : List Nat) (k : Nat) : divTo B Q A (k + 1) = ((divTo B Q A k).1.set k (divC B (divTo B Q A k).2 k), rowTo (divTo B Q A k).2 k (divC B (divTo B Q A k).2 k) B B.length) := rfl
theorem getD_set_ne (l : List Nat) (i j v : Nat) (h : i ≠ j) : (l.set j v).getD i 0 = l.getD i 0 := by
  rw [List.getD_eq_getElem?_getD, List.getElem?_set_ne (fun e => h e.symm), ← List.getD_eq_getElem?_getD]
theorem getD_set_eq (l : List Nat) (i v : Nat) (h : i < l.length) : (l.set i v).getD i 0 = v := by
  rw [List.getD_eq_getElem?_getD, List.getElem?_set_self h]; rfl
theorem divTo_rest (B Q A : List Nat) (hq : Q.length + B.length = A.length + 1) : ∀ k, k ≤ Q.length → ∀ j, (divTo B Q A k).2.getD j 0 = A.getD j 0 ^^^ XS (cvt (fun i => (divTo B Q A k).1.getD i 0) (fun i => B.getD i 0) j) k := by
  intro k
  induction k with
  | zero => intro _ j; exact (Nat.xor_zero _).symm
  | succ k ih =>
    intro hk j
    obtain ⟨h1, h2⟩ := divTo_length B Q A k
    rw [divTo_succ]
    show (rowTo _ k _ B B.length).getD j 0 = _
    rw [getD_rowTo _ _ _ _ _ (by rw [h2]; omega), ih (by omega), XS, Nat.xor_assoc]
    have e1 : XS (cvt (fun i => (divTo B Q A k).1.getD i 0) (fun i => B.getD i 0) j) k = XS (cvt (fun i => ((divTo B Q A k).1.set k (divC B (divTo B Q A k).2 k)).getD i 0) (fun i => B.getD i 0) j) k :=
      XS_congr k fun i hi => by unfold cvt; simp only []; rw [getD_set_ne _ _ _ _ (by omega)]
    rw [e1]
    congr 2
    unfold cvt
    simp only []
    rw [getD_set_eq _ _ _ (by rw [h1]; omega)]
    by_cases h : k ≤ j
    · rw [if_pos h]
      by_cases h2 : j < k + B.length
      · rw [if_pos ⟨h, h2⟩]
      · rw [if_neg (by omega), getD_ge B (j - k) (by omega), gmul_zero]
    · rw [if_neg (by omega), if_neg h]
theorem gmul_div_cancel (r b : Nat) (hr : r < 256) (hb : b ≠ 0) : gmul (gmul r (ginv b)) b = r := by
  rw [gmul_assoc, gmul_comm (ginv b), gmul_ginv b hb, gmul_one r hr]
theorem divTo_zero (B Q A : List Nat) (hq : Q.length + B.length = A.length + 1) (hB : B.getD 0 0 ≠ 0) (hQb : bytesL Q) (hA : bytesL A) : ∀ k, k ≤ Q.length → ∀ j, j < k → (divTo B Q A k).2.getD j 0 = 0 := by
  have hB0 : 0 < B.length := by cases B with | nil => exact absurd rfl hB | cons => simp
  intro k
  induction k with
  | zero => intro _ j hj; omega
  | succ k ih =>
    intro hk j hj
    obtain ⟨h1, h2⟩ := divTo_length B Q A k
    rw [divTo_succ]
    show (rowTo _ k _ B B.length).getD j 0 = _
    rw [getD_rowTo _ _ _ _ _ (by rw [h2]; omega)]
    by_cases e : j = k
    · subst e
      rw [if_pos ⟨Nat.le_refl _, by omega⟩, Nat.sub_self]
      unfold divC
      rw [gmul_div_cancel _ _ (bytesL_getD (divTo_bytes hQb hA j).2 j) hB, Nat.xor_self]
    · rw [if_neg (by omega), Nat.xor_zero]
      exact ih (by omega) j (by omega)
theorem divTo_head (B Q A : List Nat) (hQ : 0 < Q.length) : ∀ k, (divTo B Q A (k + 1)).1.getD 0 0 = gmul (A.getD 0 0) (ginv (B.getD 0 0)) := by
  intro k
  induction k with
  | zero =>
    rw [divTo_succ]
    show (Q.set 0 _).getD 0 0 = _
    rw [getD_set_eq _ _ _ hQ]; rfl
  | succ k ih =>
    rw [divTo_succ]
    show (List.set _ (k + 1) _).getD 0 0 = _
    rw [getD_set_ne _ _ _ _ (by omega), ih]
theorem trim_short (R : List Nat) : ∀ n, n ≤ R.length → (∀ j, j < n → R.getD j 0 = 0) → (trim R).length ≤ R.length - n := by
  induction R with
  | nil => intro n _ _; exact Nat.zero_le _
  | cons a l ih =>
    intro n hn h
    cases n with
    | zero => exact trim_length_le _
    | succ n =>
      have h0 : a = 0 := h 0 (by omega)
      subst h0
      show (trim l).length ≤ _
      have := ih n (by simpa using hn) (fun j hj => h (j + 1) (by omega))
      simp only [List.length_cons]
      omega
/-- All that is wanted of a division. -/
structure IsDiv (a b q r : List Nat) : Prop where
  back : ∀ i, co a i = XS (cvt (co q) (co b) i) q.length ^^^ co r i
  qt : trim q = q
  rt : trim r = r
  deg : r.length < (trim b).length
  qb : bytesL q
  rb : bytesL r
  ql : q.length ≤ a.length
theorem pdivmod_is {a b : List Nat} (ha : bytesL a) (hb : bytesL b) (h0 : trim b ≠ []) : IsDiv a b (pdivmod a b).1 (pdivmod a b).2 := by
  have hcb : ∀ i n (q : List Nat), XS (cvt (co q) (co b) i) n = XS (cvt (co q) (co (trim b)) i) n := fun i n q => XS_congr n fun j _ => by unfold cvt; rw [co_trim]
  have hla := trim_length_le a
  unfold pdivmod divAB
  have hB := trim_head b h0
  have hbB := trim_bytes hb
  have hbA := trim_bytes ha
  have hBl : 0 < (trim b).length := List.length_pos_iff.2 h0
  by_cases hs : (trim a).length < (trim b).length
  · rw [if_pos hs]
    refine ⟨fun i => ?_, rfl, trim_trim a, hs, fun x hx => by simp at hx, hbA, Nat.zero_le _⟩
    show _ = 0 ^^^ co (trim a) i
    rw [Nat.zero_xor, co_trim]
  · rw [if_neg hs]
    simp only []
    have hAh : (trim a).getD 0 0 ≠ 0 := trim_head a (fun e => by rw [e] at hs; simp only [List.length_nil] at hs; omega)
    obtain ⟨N, hN⟩ : ∃ N, (trim a).length - (trim b).length = N := ⟨_, rfl⟩
    have hNl : (N + 1) + (trim b).length = (trim a).length + 1 := by omega
    rw [hN]
    have hAco : ∀ i, co a i = co (trim a) i := fun i => (co_trim a i).symm
    generalize trim a = A at *
    generalize hBe : trim b = B at *
    have hQ0 : (List.replicate (N + 1) 0).length = N + 1 := List.length_replicate
    have hz := bytesL.zeros (N + 1)
    generalize List.replicate (N + 1) 0 = Q0 at *
    obtain ⟨h1, h2⟩ := divTo_length B Q0 A (N + 1)
    have hrest := divTo_rest B Q0 A (by rw [hQ0]; exact hNl) (N + 1) (by omega)
    have hzero := divTo_zero B Q0 A (by rw [hQ0]; exact hNl) hB hz hbA (N + 1) (by omega)
    have hhead := divTo_head B Q0 A (by omega) N
    obtain ⟨hb1, hb2⟩ := divTo_bytes (B := B) hz hbA (N + 1)
    generalize (divTo B Q0 A (N + 1)).1 = Q at *
    generalize (divTo B Q0 A (N + 1)).2 = R at *
    rw [hQ0] at h1
    have hqt : trim Q = Q := trim_nz Q (by rw [hhead]; exact gmul_ne hAh (ginv_ne _))
    have hsh := trim_short R (N + 1) (by omega) hzero
    refine ⟨fun i => ?_, hqt, trim_trim R, by rw [hBe]; omega, hb1, trim_bytes hb2, by omega⟩
    rw [hcb, co_trim, hAco]
    by_cases hi : i < A.length
    · have h3 := hrest (A.length - 1 - i)
      rw [← h1] at h3
      have h4 := conv_rev Q B i (by omega) (by omega)
      rw [show Q.length + B.length - 1 - 1 - i = A.length - 1 - i from by omega] at h4
      rw [h4] at h3
      rw [co_getD A i hi, co_getD R i (by omega), h2, h3, Nat.xor_comm, Nat.xor_assoc, Nat.xor_self, Nat.xor_zero]
    · rw [co_ge A i (by omega), co_ge R i (by omega), XS_zero]
      · rfl
      intro j hj
      unfold cvt
      split
      · rw [co_ge B _ (by omega), gmul_zero]
      · rfl
end Tri

namespace Tri
def shiftN (k : Int) : Nat := (min (max k 0) 1000).toNat
def pshift (l : List Nat) (k : Int) : List Nat := if trim l = [] then [] else trim l ++ List.replicate (shiftN k) 0
theorem shiftN_le (k : Int) : shiftN k ≤ 1000 := by unfold shiftN; omega
end Tri
namespace Go.Proofs.Ytgckhekikcdaiaa
open Go.RowKit Tri

set_option maxHeartbeats 1000000 in
set_option maxRecDepth 100000 in
theorem poly_Shift (p : Option Addr) (n c : Nat) (l : List Nat) (k : Int) (w : World) (hn : n = l.length) (hc : n ≤ c) (hp : cellsB w p l) (hl : l.length ≤ 1000000) :
    Calls Try.prog 38 #[.slice p n c, .int .i64 k] w (RetB w (pshift l k)) := by
  subst hn
  have HP := hid hp
  clear hp
  have ht := trim_length_le l
  obtain ⟨i0, hi, hz0, hz1, hz2⟩ := info_parts Try.infoB
  go_enter Try.func38, Try.ntmps38
  go_wp2_with fail
  refine Calls.mono (poly_Trim p _ c l w rfl hc HP.out hl) ?_; rintro e w1 ⟨v, rfl, hO, hB⟩
  have HB := hid hB
  have HO := hid hO
  have hps : Hid (trim l ≠ [] → pshift l k = trim l ++ List.replicate (shiftN k) 0) := fun h => by unfold pshift; rw [if_neg h]
  have hps0 : Hid (trim l = [] → pshift l k = []) := fun h => by unfold pshift; rw [if_pos h]
  have hk := shiftN_le k
  have hkk : Hid ((shiftN k : Int) = min (max k 0) 1000) := by show _ = _; unfold shiftN; omega
  clear hB hO
  generalize trim l = T at *
  generalize pshift l k = R at *
  generalize shiftN k = K at *
  rcases HO.out.buf with ⟨rfl, ht0⟩ | ⟨g, cap, rfl, hg, hle, _⟩
  · have HR : Hid (R = []) := hps0.out ht0
    clear hps hps0 ht0
    go_wp2_with ((with_reducible refine wpList_unguard ?_ ?_); (focus rfl))
    go_ret
    exact ⟨_, rfl, by rw [HR.out]; exact World.ownsRow_nil _ _ _ _, HB.out⟩
  · by_cases h0 : T.length = 0
    · have HR : Hid (R = []) := hps0.out (List.eq_nil_of_length_eq_zero h0)
      rw [h0]
      go_wp2_with ((with_reducible refine wpList_unguard ?_ ?_); (focus rfl))
      go_ret
      exact ⟨_, rfl, by rw [HR.out]; exact World.ownsRow_nil _ _ _ _, HB.out⟩
    · have HR : Hid (R = T ++ List.replicate K 0) := hps.out (fun e => h0 (by rw [e]; rfl))
      have hz : ((T.length : Int) == 0) = false := by rw [beq_eq_false_iff_ne]; omega
      have hown : w1.ownsRow w.heap.size 5 1 (.slice (some ⟨g, 0, none⟩) T.length cap) T.length (T.map fun x => Value.int .u8 (x : Nat)) := HO.out
      clear hps hps0
      have hT : T.length ≤ 1000000 := by omega
      have hO2 : Hid (∀ v' w', w'.ownsRow w.heap.size 5 1 v' (T.length + K) ((T.map fun x => Value.int .u8 (x : Nat)) ++ List.replicate K (.int .u8 0)) → ownsB w' w.heap.size v' R) := by
        show ∀ v' w', _
        intro v' w' hown'
        rw [HR.out]
        unfold ownsB
        rw [List.map_append, List.map_replicate, List.length_append, List.length_replicate]
        exact hown'
      have hB2 : Hid (∀ w', w1.grownBy w' (Value.slice (some ⟨g, 0, none⟩) T.length cap).ownBlock → Below w.heap.size w w') := by
        show ∀ w', _
        intro w' hgrow
        exact HB.out.grown hgrow HB.out.size (by intro k hk; simp only [Value.ownBlock, Option.some.injEq] at hk; omega)
      clear HO HR
      have hX : Hid ((if 1000 < (if k < 0 then 0 else k) then 1000 else if k < 0 then 0 else k) = (K : Int)) := by
        have := hkk.out
        show _ = _
        by_cases h : k < 0
        · rw [if_pos h]; simp; omega
        · rw [if_neg h]; split <;> omega
      go_wp2_with (at_builtin; refine wpList_append_zeros rfl _ _ 22 3 rfl w.heap.size 5 i0 (.int .u8 0) .i64 Try.underlying22 Try.underlying3 hi hz0 hz1 hz2 rfl rfl (.slice (some ⟨g, 0, none⟩) T.length cap) T.length _ rfl hown (fun e => by cases e) K (congrArg (Value.int .i64) hX.out) (by omega) HB.out.size ?_)
      all_goals
        intro v' w' hown' hgrow
        have hO' := hid (hO2.out _ _ hown')
        have hB' := hid (hB2.out _ hgrow)
        clear hown' hgrow hown hX
        go_wp2_with ((with_reducible refine wpList_unguard ?_ ?_); (focus rfl))
        go_ret
        exact ⟨v', rfl, hO'.out, hB'.out⟩
end Go.Proofs.Ytgckhekikcdaiaa

namespace Tri
theorem lens_flatten (l : List (List Nat)) : l.flatten.length = lens l := by
  unfold lens; rw [List.length_flatten]
theorem flatten_snoc (l : List (List Nat)) (a : List Nat) : (l ++ [a]).flatten = l.flatten ++ a := by simp
/-- The rest that makes the parity. -/
def parR (data : List Nat) (p : Nat) : List Nat := (pdivmod (pshift data p) (rgen p)).2
def par (data : List Nat) (p : Nat) : List Nat := List.replicate (p - (parR data p).length) 0 ++ parR data p
def enc (data : List Nat) (p : Nat) : List Nat := data ++ par data p
theorem pshift_b {l : List Nat} (h : bytesL l) (k : Int) : bytesL (pshift l k) := by
  unfold pshift
  split
  · intro x hx; simp at hx
  · intro x hx
    rcases List.mem_append.1 hx with h1 | h1
    · exact trim_bytes h x h1
    · exact bytesL.zeros _ x h1
theorem pshift_l (l : List Nat) (k : Int) : (pshift l k).length ≤ l.length + 1000 := by
  have := trim_length_le l
  have := shiftN_le k
  unfold pshift
  split
  · simp
  · rw [List.length_append, List.length_replicate]; omega
theorem par_is {data : List Nat} (h : bytesL data) (p : Nat) : IsDiv (pshift data p) (rgen p) (pdivmod (pshift data p) (rgen p)).1 (parR data p) := by
  obtain ⟨h1, h2, h3⟩ := rgen_is p
  exact pdivmod_is (pshift_b h _) h1 (fun e => by rw [h2] at e; rw [e] at h3; simp at h3)
theorem parR_length {data : List Nat} (h : bytesL data) (p : Nat) : (parR data p).length ≤ p := by
  have h1 := (par_is h p).deg
  obtain ⟨_, h2, h3⟩ := rgen_is p
  rw [h2, h3] at h1
  omega
theorem par_length {data : List Nat} (h : bytesL data) (p : Nat) : (par data p).length = p := by
  have := parR_length h p
  unfold par
  rw [List.length_append, List.length_replicate]
  omega
theorem par_bytes {data : List Nat} (h : bytesL data) (p : Nat) : bytesL (par data p) := by
  intro x hx
  rcases List.mem_append.1 hx with h1 | h1
  · exact bytesL.zeros _ x h1
  · exact (par_is h p).rb x h1
theorem enc_length {data : List Nat} (h : bytesL data) (p : Nat) : (enc data p).length = data.length + p := by unfold enc; rw [List.length_append, par_length h]
theorem enc_bytes {data : List Nat} (h : bytesL data) (p : Nat) : bytesL (enc data p) := by
  intro x hx
  rcases List.mem_append.1 hx with h1 | h1
  · exact h x h1
  · exact par_bytes h p x h1
end Tri
namespace Go.Proofs.Ytgckhekikcdaiaa
open Go.RowKit Tri

set_option maxHeartbeats 1000000 in
set_option maxRecDepth 100000 in
theorem sl_Concat (p : Option Addr) (n c : Nat) (l : List (List Nat)) (w : World) (hn : n = l.length) (hp : cellsR w p l) (hne : ∀ a ∈ l, a ≠ []) (hz : lens l ≤ 100000) (hl : l.length ≤ 100000) :
    Calls Try.prog 36 #[.slice p n c] w (RetB w l.flatten) := by
  subst hn
  have HP := hid hp
  have HN := hid hne
  have hmem : Hid (∀ k, k < l.length → l.getD k [] ∈ l) := fun k hk => by rw [List.getD_eq_getElem?_getD, List.getElem?_eq_getElem hk]; exact List.getElem_mem _
  have HLS : Hid (∀ k, k < l.length → lens (l.take (k + 1)) = lens (l.take k) + (l.getD k []).length) := fun k hk => by rw [take_snocR l k hk, lens_snoc]
  have HLT : Hid (∀ k, lens (l.take k) ≤ lens l) := lens_take_le l
  have HFS : Hid (∀ k, k < l.length → (l.take (k + 1)).flatten = (l.take k).flatten ++ l.getD k []) := fun k hk => by rw [take_snocR l k hk, flatten_snoc]
  have HFL : Hid (∀ k, (l.take k).flatten.length ≤ 100000) := fun k => by have h1 := lens_flatten (l.take k); have h2 := lens_take_le l k; omega
  clear hp hne
  (go_enter Try.func36, Try.ntmps36; try simp only [List.append])
  go_wp2_with ((with_reducible refine wpList_unguard ?_ ?_); (focus rfl))
  go_loop [3, 11] (fun s i => ∃ k : Nat, k ≤ l.length ∧ i = .int .i64 k ∧ s = .int .i64 (lens (l.take k) : Nat)) (fun _ i => l.length - (intOf i).toNat)
  case atStart => exact ⟨0, Nat.zero_le _, rfl, rfl⟩
  case round =>
    obtain ⟨k, hk, rfl, rfl⟩ := hrel
    by_cases hlt : k < l.length
    · obtain ⟨a, o, q', c', rfl, hc, _, _⟩ := HP.out k hlt
      have HS := hid (HLS.out k hlt)
      have h1 := HLT.out (k + 1)
      rw [HS.out] at h1
      generalize hs2 : lens (l.take (k + 1)) = s2 at *
      have HS2 := hid hs2
      clear hs2
      generalize l.getD k [] = y at *
      generalize lens (l.take k) = s1 at *
      have hw : IntKind.i64.wrap ((s1 : Int) + (y.length : Int)) = ((s1 + y.length : Nat) : Int) := by rw [IntKind.wrap_i64]; omega
      obtain ⟨t, ht⟩ : ∃ t, s1 + y.length = t := ⟨_, rfl⟩
      rw [ht] at hw h1
      have HT := hid ht
      clear ht
      go_wp2_with ((with_reducible refine wpList_unguard ?_ ?_); (focus rfl))
      go_round
      case rel => exact ⟨k + 1, by omega, by go_num, by rw [HS2.out, HS.out, HT.out]⟩
      case measure => simp [intOf]; omega
    · have hT : Hid (l.take k = l) := by show _ = _; exact List.take_of_length_le (by omega)
      rw [hT.out]
      generalize lens l = Z at *
      go_wp2_with ((with_reducible refine wpList_unguard ?_ ?_); (focus rfl))
      refine Calls.mono (sl_Grow Z w (by omega)) ?_
      rintro e w1 ⟨v, rfl, hO, hB⟩
      have HO1 := hid hO
      have HB1 := hid hB
      clear hO hB hT
      go_wp2_with ((with_reducible refine wpList_unguard ?_ ?_); (focus rfl))
      go_loopw [6, 27] (fun s i wr => ∃ k : Nat, k ≤ l.length ∧ i = .int .i64 k ∧ ownsB wr w.heap.size s (l.take k).flatten ∧ Below w.heap.size w wr) (fun _ i _ => l.length - (intOf i).toNat)
      case atStart => exact ⟨0, Nat.zero_le _, rfl, HO1.out, HB1.out⟩
      case round =>
        clear HO1 HB1
        obtain ⟨k, hk, rfl, hO, hB⟩ := hrel
        have HO := hid hO
        have HB := hid hB
        clear hO hB
        by_cases hlt : k < l.length
        · obtain ⟨a, o, q', c', rfl, hc0, hcc, hq'⟩ := HP.out k hlt
          have hc : wr.cell? ⟨a, o + k, none⟩ = some (.slice q' (l.getD k []).length c') := by
            rw [HB.out.cell (p := ⟨a, o + k, none⟩) (block_lt_of_cell hc0)]; exact hc0
          have HQ' := hid (hq'.below HB.out)
          have HYN := hid (HN.out _ (hmem.out k hlt))
          have hyl : (l.getD k []).length ≤ 1000000 := by
            have h1 := HLS.out k hlt
            have h2 := HLT.out (k + 1)
            omega
          have HF := hid (HFS.out k hlt)
          have hfl : (l.take k).flatten.length ≤ 1000000 := by have := HFL.out k; omega
          clear hc0 hq'
          generalize hf2 : (l.take (k + 1)).flatten = F2 at *
          have HF2 := hid hf2
          clear hf2
          generalize l.getD k [] = y at *
          generalize (l.take k).flatten = F at *
          go_wp2_with (at_builtin; refine wpList_pushB rfl _ _ rfl w.heap.size _ F y q' c' HO.out HQ'.out HYN.out rfl _ rfl rfl hfl hyl HB.out.size ?_)
          intro v' w' hown' hbel
          have hO' : Hid (ownsB w' w.heap.size v' F2) := by show ownsB _ _ _ _; rw [HF.out]; exact hown'
          have hB' := hid (HB.out.trans hbel)
          clear hown' hbel
          go_wp2_with ((with_reducible refine wpList_unguard ?_ ?_); (focus rfl))
          go_roundw
          case rel => exact ⟨k + 1, by omega, by go_num, by rw [HF2.out]; exact hO'.out, hB'.out⟩
          case measure => simp [intOf]; omega
        · have hT : Hid (l.take k = l) := by show _ = _; exact List.take_of_length_le (by omega)
          rw [hT.out] at HO
          generalize l.flatten = F at *
          go_wp2_with ((with_reducible refine wpList_unguard ?_ ?_); (focus rfl))
          go_ret
          exact ⟨_, rfl, HO.out, HB.out⟩
end Go.Proofs.Ytgckhekikcdaiaa
