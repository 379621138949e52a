/-
  The product of two polynomials in the program.
  Conditions: polynomials of at most 100000 bytes.
-/
import Derived.Test.YtlipedigmokgbaaBuf
namespace Tri
/-- One place added to. -/
def acc (L : List Nat) (j v : Nat) : List Nat := L.set j (L.getD j 0 ^^^ v)
/-- The multiples of b by x, from place i on, added for the first k. -/
def rowTo (L : List Nat) (i x : Nat) (b : List Nat) : Nat → List Nat
  | 0 => L
  | k + 1 => acc (rowTo L i x b k) (i + k) (gmul x (b.getD k 0))
def convTo (L a b : List Nat) : Nat → List Nat
  | 0 => L
  | i + 1 => rowTo (convTo L a b i) i (a.getD i 0) b b.length
def ptwo (a b : List Nat) : List Nat :=
  if trim a = [] ∨ trim b = [] then [] else convTo (List.replicate ((trim a).length + (trim b).length - 1) 0) (trim a) (trim b) (trim a).length
theorem acc_length (L : List Nat) (j v : Nat) : (acc L j v).length = L.length := by simp [acc]
theorem rowTo_length (L : List Nat) (i x : Nat) (b : List Nat) (k : Nat) : (rowTo L i x b k).length = L.length := by
  induction k with
  | zero => rfl
  | succ k ih => rw [rowTo, acc_length, ih]
theorem convTo_length (L a b : List Nat) (i : Nat) : (convTo L a b i).length = L.length := by
  induction i with
  | zero => rfl
  | succ i ih => rw [convTo, rowTo_length, ih]
theorem acc_bytes {L : List Nat} (h : bytesL L) {j v : Nat} (hv : v < 256) : bytesL (acc L j v) := by
  intro y hy
  by_cases hj : j < L.length
  · rcases List.mem_or_eq_of_mem_set hy with h1 | h1
    · exact h y h1
    · rw [h1]; exact xor_lt (h _ (by rw [List.getD_eq_getElem?_getD, List.getElem?_eq_getElem hj]; exact List.getElem_mem hj)) hv
  · unfold acc at hy
    rw [List.set_eq_of_length_le (by omega)] at hy
    exact h y hy
theorem rowTo_bytes {L : List Nat} (h : bytesL L) (i x : Nat) (b : List Nat) (k : Nat) : bytesL (rowTo L i x b k) := by
  induction k with
  | zero => exact h
  | succ k ih => exact acc_bytes ih (gmul_lt _ _)
theorem convTo_bytes {L : List Nat} (h : bytesL L) (a b : List Nat) (i : Nat) : bytesL (convTo L a b i) := by
  induction i with
  | zero => exact h
  | succ i ih => exact rowTo_bytes ih _ _ _ _
end Tri
namespace Go.Proofs.Ytlipedigmokgbaa
open Go.RowKit Tri

/-- A new row of two bytes. -/
def PairB (v : Value) (w : World) (x y : Nat) : Prop := ∃ s, v = .slice (some ⟨s, 0, none⟩) 2 2 ∧ cellsB w (some ⟨s, 0, none⟩) [x, y]
theorem PairB.below {v : Value} {w w' : World} {x y : Nat} (h : PairB v w x y) (hb : Below w.heap.size w w') : PairB v w' x y := by
  obtain ⟨n, e, hc⟩ := h
  exact ⟨n, e, hc.below hb⟩
theorem PairB.new (w : World) (x y : Nat) (t : TypeId) : PairB (.slice (some ⟨w.heap.size, 0, none⟩) 2 2) (w.alloc (.cells #[.int .u8 (x : Nat), .int .u8 (y : Nat)] t)) x y :=
  ⟨_, rfl, cellsB.new w [x, y] _ t rfl⟩
def twoV (f ob n i k o x y : Nat) (j : Nat) (v : Value) (w : World) : Prop := match j with
  | 0 | 5 => v = .slice (some ⟨ob, 0, none⟩) n n
  | 1 | 6 => v = .int .i64 (i : Nat)
  | 2 | 7 => v = .int .i64 (k : Nat)
  | 3 | 8 => v = .int .i64 ((i : Int) + (k : Int))
  | 4 | 11 => v = .pointer (some ⟨f, 0, none⟩)
  | 9 | 18 => v = .pointer (some ⟨ob, i + k, none⟩)
  | 10 => v = .int .u8 (o : Nat)
  | 12 => v = .int .u8 (x : Nat) | 13 => v = .int .u8 (y : Nat)
  | 14 => PairB v w x y
  | 15 => v = .int .u8 (gmul x y : Nat)
  | 16 => PairB v w o (gmul x y)
  | 17 => v = .int .u8 (o ^^^ gmul x y : Nat)
  | _ => True
theorem twoV_st (f ob n i k o x y : Nat) (j : Nat) (v : Value) (w w' : World) (hb : Below w.heap.size w w') (h : twoV f ob n i k o x y j v w) : twoV f ob n i k o x y j v w' := by
  unfold twoV at *
  split at h <;> first | exact h | exact h.below hb
theorem Try.infoB' : (Try.prog.info? 5).map (fun i => (i.zero, i.size, i.bytes)) = some (some (.int .u8 0), 1, 1) := by kernel_rfl

/-- What a call hands back: bytes, in a row of their own from its start on. -/
def RetO (w : World) (l : List Nat) (e : Ending) (w' : World) : Prop := ∃ p c, e = .returned (.slice p l.length c) ∧ l.length ≤ c ∧ cellsB w' p l ∧ Below w.heap.size w w' ∧ (p = none ∨ ∃ b, p = some ⟨b, 0, none⟩)
theorem RetO.ret {w w' : World} {l : List Nat} {e : Ending} (h : RetO w l e w') : RetC w l e w' := by
  obtain ⟨p, c, h1, h2, h3, h4, _⟩ := h
  exact ⟨p, c, h1, h2, h3, h4⟩

set_option maxHeartbeats 4000000 in
set_option maxRecDepth 100000 in
theorem poly_twoO (f : Nat) (p q : Option Addr) (n c m d : Nat) (a b : List Nat) (w : World) (hF : isF w f) (hn : n = a.length) (hnc : n ≤ c) (hp : cellsB w p a) (hm : m = b.length) (hmd : m ≤ d) (hq : cellsB w q b)
    (hba : bytesL a) (hbb : bytesL b) (hla : a.length ≤ 100000) (hlb : b.length ≤ 100000) :
    Calls Try.prog 55 #[.pointer (some ⟨f, 0, none⟩), .slice p n c, .slice q m d] w (RetO w (ptwo a b)) := by
  subst hn hm
  have HF := hid hF
  have HP := hid hp
  have HQ := hid hq
  clear hF hp hq
  go_enter Try.func55, Try.ntmps55
  go_wp2_with ((with_reducible refine wpList_unguard ?_ ?_); (focus rfl))
  refine Calls.mono (poly_Trim p _ c a w rfl hnc HP.out (by omega)) ?_; rintro e w1 ⟨va, rfl, hO, hB⟩
  have HB1 := hid hB
  obtain ⟨pa, ca, rfl, hA1⟩ := hO.cells
  clear hB hO
  go_wp2_with ((with_reducible refine wpList_unguard ?_ ?_); (focus rfl))
  refine Calls.mono (poly_Trim q _ d b w1 rfl hmd (HQ.out.below HB1.out) (by omega)) ?_; rintro e w2 ⟨vb, rfl, hO, hB⟩
  obtain ⟨pb, cb, rfl, hB2⟩ := hO.cells
  have HA := hid (hA1.below hB)
  have HBB := hid hB2
  have K0 : Keeps w f w2 := ⟨HB1.out.trans (hB.mono HB1.out.size), HF.out.below (HB1.out.trans (hB.mono HB1.out.size)) HF.out.lt⟩
  have K := hid K0
  clear hB hO hA1 hB2 K0 HP HQ HB1 HF
  have hta := trim_length_le a
  have htb := trim_length_le b
  have hxa := hid (trim_bytes hba)
  have hxb := hid (trim_bytes hbb)
  have hres : Hid (ptwo a b = if trim a = [] ∨ trim b = [] then [] else convTo (List.replicate ((trim a).length + (trim b).length - 1) 0) (trim a) (trim b) (trim a).length) := rfl
  clear hba hbb
  generalize trim a = A at *
  generalize trim b = B at *
  by_cases hA0 : A.length = 0
  · have he : Hid (ptwo a b = []) := by show _ = _; rw [hres.out, if_pos (.inl (List.eq_nil_of_length_eq_zero hA0))]
    rw [hA0]
    clear hres hA0
    go_wp2_with ((with_reducible refine wpList_unguard ?_ ?_); (focus rfl))
    go_ret
    exact ⟨none, 0, by rw [he.out]; rfl, by rw [he.out]; exact Nat.le_refl _, by rw [he.out]; exact cellsB.nil _ _, K.out.1, .inl rfl⟩
  by_cases hB0 : B.length = 0
  · have he : Hid (ptwo a b = []) := by show _ = _; rw [hres.out, if_pos (.inr (List.eq_nil_of_length_eq_zero hB0))]
    have ha0 : ((A.length : Int) == 0) = false := by simpa using hA0
    rw [hB0]
    clear hres hB0 hA0
    go_wp2_with ((with_reducible refine wpList_unguard ?_ ?_); (focus rfl))
    go_ret
    exact ⟨none, 0, by rw [he.out]; rfl, by rw [he.out]; exact Nat.le_refl _, by rw [he.out]; exact cellsB.nil _ _, K.out.1, .inl rfl⟩
  have he : Hid (ptwo a b = convTo (List.replicate (A.length + B.length - 1) 0) A B A.length) := by
    show _ = _; rw [hres.out, if_neg]; intro h; rcases h with h | h
    · exact hA0 (by rw [h]; rfl)
    · exact hB0 (by rw [h]; rfl)
  have ha0 : ((A.length : Int) == 0) = false := by simpa using hA0
  have hb0 : ((B.length : Int) == 0) = false := by simpa using hB0
  obtain ⟨N, hN⟩ : ∃ N, A.length + B.length - 1 = N := ⟨_, rfl⟩
  have hNI : (A.length : Int) + (B.length : Int) - 1 = (N : Int) := by omega
  have hmk := run_make_row' (P := Try.prog) 28 5 (.int .u8 0) 1 Try.underlying28 Try.infoB rfl .i64 .i64 N (by omega) (by omega)
  rw [hN] at he
  have HN := hid hN
  have HM := hid (bufB.made w2 N 5)
  have K2 : Hid (Keeps w2 f w2) := ⟨Below.refl _ _, K.out.2⟩
  have K3 := hid (K2.out.alloc (.cells (madeCells #[.int .u8 0] N) 5))
  clear hres hA0 hB0 hN
  go_wp2_with ((with_reducible refine wpList_unguard ?_ ?_); (focus rfl))
  generalize w2.alloc (.cells (madeCells #[.int .u8 0] N) 5) = w3 at *
  obtain ⟨ob, hob⟩ : ∃ ob, w2.heap.size = ob := ⟨_, rfl⟩
  have HOB := hid hob
  rw [hob] at HM ⊢
  clear hmk hob hNI
  have hbL : bytesL (List.replicate N 0) := by intro y hy; rw [List.mem_replicate] at hy; omega
  have HBL := hid hbL
  clear hbL
  have hL0 : (List.replicate N 0).length = N := List.length_replicate
  generalize List.replicate N 0 = L0 at *
  have HL0 := hid hL0
  clear hL0
  go_loopw [33] (fun i wr => ∃ k : Nat, k ≤ A.length ∧ i = .int .i64 k ∧ Keeps w2 f wr ∧ bufB wr ob (convTo L0 A B k)) (fun i _ => A.length - (intOf i).toNat)
  case atStart => exact ⟨0, Nat.zero_le _, rfl, K3.out, HM.out⟩
  case round =>
    clear K3 HM
    obtain ⟨i, hi, rfl, hK, hM⟩ := hrel
    have K4 := hid hK
    have HM := hid hM
    clear hK hM
    by_cases hlt : i < A.length
    · obtain ⟨a', o', rfl, hc0⟩ := HA.out i hlt
      have hc : wr.cell? ⟨a', o' + i, none⟩ = some (.int .u8 (A.getD i 0 : Nat)) := by
        rw [K4.out.1.cell (p := ⟨a', o' + i, none⟩) (block_lt_of_cell hc0)]; exact hc0
      have hx : A.getD i 0 < 256 := hxa.out _ (getD_mem A i hlt)
      have HCS : Hid (convTo L0 A B (i + 1) = rowTo (convTo L0 A B i) i (A.getD i 0) B B.length) := rfl
      have hL1 : Hid ((convTo L0 A B i).length = N) := by show _ = _; rw [convTo_length]; exact HL0.out
      have hB1 := hid (convTo_bytes HBL.out A B i)
      clear hc0
      generalize A.getD i 0 = x at *
      generalize convTo L0 A B i = L1 at *
      go_wp2_with ((with_reducible refine wpList_unguard ?_ ?_); (focus rfl))
      go_loopw [40] (fun i' wr => ∃ k : Nat, k ≤ B.length ∧ i' = .int .i64 k ∧ Keeps w2 f wr ∧ bufB wr ob (rowTo L1 i x B k)) (fun i' _ => B.length - (intOf i').toNat)
      case atStart => exact ⟨0, Nat.zero_le _, rfl, K4.out, HM.out⟩
      case round =>
        clear HM
        obtain ⟨k, hk, rfl, hK, hM⟩ := hrel
        have K5 := hid hK
        have HM := hid hM
        clear hK hM
        by_cases hkt : k < B.length
        · obtain ⟨b', q', rfl, hc0⟩ := HBB.out k hkt
          have hcb : wr.cell? ⟨b', q' + k, none⟩ = some (.int .u8 (B.getD k 0 : Nat)) := by
            rw [K5.out.1.cell (p := ⟨b', q' + k, none⟩) (block_lt_of_cell hc0)]; exact hc0
          have hy : B.getD k 0 < 256 := hxb.out _ (getD_mem B k hkt)
          have HCS2 : Hid (rowTo L1 i x B (k + 1) = acc (rowTo L1 i x B k) (i + k) (gmul x (B.getD k 0))) := rfl
          have hL2 : Hid ((rowTo L1 i x B k).length = N) := by show _ = _; rw [rowTo_length]; exact hL1.out
          have hB2 := hid (rowTo_bytes hB1.out i x B k)
          clear hc0
          generalize B.getD k 0 = y at *
          generalize rowTo L1 i x B k = L at *
          have hik : i + k < N := by have := HN.out; omega
          have hNle : N ≤ 200000 := by have := HN.out; omega
          have ho : L.getD (i + k) 0 < 256 := hB2.out _ (getD_mem L _ (by rw [hL2.out]; exact hik))
          have HO : Hid (∀ w', bufB w' ob L → w'.cell? ⟨ob, i + k, none⟩ = some (.int .u8 (L.getD (i + k) 0 : Nat)) ∧ w'.frozen? ⟨ob, i + k, none⟩ = false) := fun w' h => ⟨h.at _ (by rw [hL2.out]; exact hik), h.2 _ (by rw [hL2.out]; exact hik)⟩
          have HSet : Hid (acc L (i + k) (gmul x y) = L.set (i + k) (L.getD (i + k) 0 ^^^ gmul x y)) := rfl
          generalize L.getD (i + k) 0 = o at *
          have hwr : IntKind.i64.wrap ((i : Int) + (k : Int)) = (i : Int) + (k : Int) := by rw [IntKind.wrap_i64]; omega
          have hix : 0 ≤ (i : Int) + (k : Int) ∧ (i : Int) + (k : Int) < (N : Int) := by omega
          have htn : ((i : Int) + (k : Int)).toNat = i + k := by omega
          have HWR := hid hwr
          have HIX := hid hix
          have HTN := hid htn
          clear hwr hix htn
          go_wp2_with ((with_reducible refine wpList_unguard ?_ ?_); (focus rfl))
          refine region_store (m := 19) _ _ (fun w' => Keeps w2 f w' ∧ bufB w' ob L) (twoV f ob N i k o x y) (by kernel_rfl) (by kernel_rfl) (by kernel_rfl) rfl rfl (by kernel_rfl) ⟨by decide, rfl⟩ ⟨K5.out.drew, HM.out.drew⟩ (twoV_st f ob N i k o x y) ?_ ?_
          · clear K5 HM
            refine ⟨fun A w3 hC hu hd K hK => ?_, ?_⟩
            · exact op_tmp 7 _ rfl (hu 7 rfl) (hK _ _ rfl hC (Below.refl _ _))
            refine ⟨fun A w3 hC hu hd K hK => ?_, ?_⟩
            · exact op_tmp 8 _ rfl (hu 8 rfl) (hK _ _ rfl hC (Below.refl _ _))
            refine ⟨fun A w3 hC hu hd K hK => ?_, ?_⟩
            · exact op_tmp 10 _ rfl (hu 10 rfl) (hK _ _ rfl hC (Below.refl _ _))
            refine ⟨fun A w3 hC hu hd K hK => ?_, ?_⟩
            · have h1 : A.tmps[46]?.getD undef = Value.int .i64 (i : Nat) := by have this : A.tmps.getD 46 undef = Value.int .i64 (i : Nat) := hd ⟨1, .data⟩ (by simp) rfl _ _ rfl rfl; simpa using this
              have h2 : A.tmps[47]?.getD undef = Value.int .i64 (k : Nat) := by have this : A.tmps.getD 47 undef = Value.int .i64 (k : Nat) := hd ⟨2, .data⟩ (by simp) rfl _ _ rfl rfl; simpa using this
              clear hu hd
              go_simp
              rw [HWR.out]
              exact hK _ _ rfl hC (Below.refl _ _)
            refine ⟨fun A w3 hC hu hd K hK => ?_, ?_⟩
            · exact op_tmp 0 _ rfl (hu 0 rfl) (hK _ _ rfl hC (Below.refl _ _))
            refine ⟨fun A w3 hC hu hd K hK => ?_, ?_⟩
            · exact op_tmp 7 _ rfl (hu 7 rfl) (hK _ _ rfl hC (Below.refl _ _))
            refine ⟨fun A w3 hC hu hd K hK => ?_, ?_⟩
            · exact op_tmp 8 _ rfl (hu 8 rfl) (hK _ _ rfl hC (Below.refl _ _))
            refine ⟨fun A w3 hC hu hd K hK => ?_, ?_⟩
            · exact op_tmp 10 _ rfl (hu 10 rfl) (hK _ _ rfl hC (Below.refl _ _))
            refine ⟨fun A w3 hC hu hd K hK => ?_, ?_⟩
            · have h1 : A.tmps[51]?.getD undef = Value.int .i64 (i : Nat) := by have this : A.tmps.getD 51 undef = Value.int .i64 (i : Nat) := hd ⟨6, .data⟩ (by simp) rfl _ _ rfl rfl; simpa using this
              have h2 : A.tmps[52]?.getD undef = Value.int .i64 (k : Nat) := by have this : A.tmps.getD 52 undef = Value.int .i64 (k : Nat) := hd ⟨7, .data⟩ (by simp) rfl _ _ rfl rfl; simpa using this
              clear hu hd
              go_simp
              rw [HWR.out]
              exact hK _ _ rfl hC (Below.refl _ _)
            refine ⟨fun A w3 hC hu hd K hK => ?_, ?_⟩
            · have h1 : A.tmps[50]?.getD undef = Value.slice (some ⟨ob, 0, none⟩) N N := by have this : A.tmps.getD 50 undef = Value.slice (some ⟨ob, 0, none⟩) N N := hd ⟨5, .data⟩ (by simp) rfl _ _ rfl rfl; simpa using this
              have h2 : A.tmps[53]?.getD undef = Value.int .i64 ((i : Int) + (k : Int)) := by have this : A.tmps.getD 53 undef = Value.int .i64 ((i : Int) + (k : Int)) := hd ⟨8, .data⟩ (by simp) rfl _ _ rfl rfl; simpa using this
              clear hu hd
              go_simp
              rw [if_pos HIX.out, HTN.out]
              go_simp
              exact hK _ _ rfl hC (Below.refl _ _)
            refine ⟨fun A w3 hC hu hd K hK => ?_, ?_⟩
            · have h1 : A.tmps[54]?.getD undef = Value.pointer (some ⟨ob, i + k, none⟩) := by have this : A.tmps.getD 54 undef = Value.pointer (some ⟨ob, i + k, none⟩) := hd ⟨9, .data⟩ (by simp) rfl _ _ rfl rfl; simpa using this
              have hl := (HO.out _ hC.2).1
              clear hu hd
              go_simp
              exact hK _ _ rfl hC (Below.refl _ _)
            refine ⟨fun A w3 hC hu hd K hK => ?_, ?_⟩
            · exact op_tmp 0 _ rfl (hu 0 rfl) (hK _ _ rfl hC (Below.refl _ _))
            refine ⟨fun A w3 hC hu hd K hK => ?_, ?_⟩
            · exact op_tmp 9 _ rfl (hu 9 rfl) (hK _ _ rfl hC (Below.refl _ _))
            refine ⟨fun A w3 hC hu hd K hK => ?_, ?_⟩
            · exact op_tmp 11 _ rfl (hu 11 rfl) (hK _ _ rfl hC (Below.refl _ _))
            refine ⟨fun A w3 hC hu hd K hK => ?_, ?_⟩
            · have h1 : A.tmps[57]?.getD undef = Value.int .u8 (x : Nat) := by have this : A.tmps.getD 57 undef = Value.int .u8 (x : Nat) := hd ⟨12, .data⟩ (by simp) rfl _ _ rfl rfl; simpa using this
              have h2 : A.tmps[58]?.getD undef = Value.int .u8 (y : Nat) := by have this : A.tmps.getD 58 undef = Value.int .u8 (y : Nat) := hd ⟨13, .data⟩ (by simp) rfl _ _ rfl rfl; simpa using this
              clear hu hd
              go_simp
              exact hK _ _ (PairB.new w3 _ _ _) ⟨hC.1.alloc _, hC.2.alloc _ _⟩ ((Below.refl _ _).alloc (Nat.le_refl _) _)
            refine ⟨fun A w3 hC hu hd K hK => ?_, ?_⟩
            · have h1 : A.tmps[56]?.getD undef = Value.pointer (some ⟨f, 0, none⟩) := by have this : A.tmps.getD 56 undef = Value.pointer (some ⟨f, 0, none⟩) := hd ⟨11, .data⟩ (by simp) rfl _ _ rfl rfl; simpa using this
              obtain ⟨n, h0, hc2⟩ : PairB (A.tmps.getD 59 undef) w3 x y := hd ⟨14, .data⟩ (by simp) rfl _ _ rfl rfl; have h2 : A.tmps[59]?.getD undef = .slice (some ⟨n, 0, none⟩) 2 2 := by simpa using h0
              clear hu hd h0
              go_simp
              refine Calls.mono (gf_Mul f _ _ _ [x, y] _ hC.1.2 rfl hc2 (by simp [hx, hy]) (by simp)) ?_
              rintro e w4 ⟨rfl, rfl⟩
              rw [gprod_two x y hy]
              exact hK _ _ rfl hC (Below.refl _ _)
            refine ⟨fun A w3 hC hu hd K hK => ?_, ?_⟩
            · have h1 : A.tmps[55]?.getD undef = Value.int .u8 (o : Nat) := by have this : A.tmps.getD 55 undef = Value.int .u8 (o : Nat) := hd ⟨10, .data⟩ (by simp) rfl _ _ rfl rfl; simpa using this
              have h2 : A.tmps[60]?.getD undef = Value.int .u8 (gmul x y : Nat) := by have this : A.tmps.getD 60 undef = Value.int .u8 (gmul x y : Nat) := hd ⟨15, .data⟩ (by simp) rfl _ _ rfl rfl; simpa using this
              clear hu hd
              go_simp
              exact hK _ _ (PairB.new w3 _ _ _) ⟨hC.1.alloc _, hC.2.alloc _ _⟩ ((Below.refl _ _).alloc (Nat.le_refl _) _)
            refine ⟨fun A w3 hC hu hd K hK => ?_, ?_⟩
            · have h1 : A.tmps[49]?.getD undef = Value.pointer (some ⟨f, 0, none⟩) := by have this : A.tmps.getD 49 undef = Value.pointer (some ⟨f, 0, none⟩) := hd ⟨4, .data⟩ (by simp) rfl _ _ rfl rfl; simpa using this
              obtain ⟨n, h0, hc2⟩ : PairB (A.tmps.getD 61 undef) w3 o (gmul x y) := hd ⟨16, .data⟩ (by simp) rfl _ _ rfl rfl; have h2 : A.tmps[61]?.getD undef = .slice (some ⟨n, 0, none⟩) 2 2 := by simpa using h0
              clear hu hd h0
              go_simp
              refine Calls.mono (gf_Add f _ _ _ [o, gmul x y] _ rfl hc2 (by simp [ho, gmul_lt]) (by simp)) ?_
              rintro e w4 ⟨rfl, rfl⟩
              rw [gsum_two o (gmul x y)]
              exact hK _ _ rfl hC (Below.refl _ _)
            refine ⟨fun A w3 hC hu hd K hK => ?_, ?_⟩
            · have h1 : A.tmps[45]?.getD undef = Value.slice (some ⟨ob, 0, none⟩) N N := by have this : A.tmps.getD 45 undef = Value.slice (some ⟨ob, 0, none⟩) N N := hd ⟨0, .data⟩ (by simp) rfl _ _ rfl rfl; simpa using this
              have h2 : A.tmps[48]?.getD undef = Value.int .i64 ((i : Int) + (k : Int)) := by have this : A.tmps.getD 48 undef = Value.int .i64 ((i : Int) + (k : Int)) := hd ⟨3, .data⟩ (by simp) rfl _ _ rfl rfl; simpa using this
              clear hu hd
              go_simp
              rw [if_pos HIX.out, HTN.out]
              go_simp
              exact hK _ _ rfl hC (Below.refl _ _)
            trivial
          · intro vs w4 hC hbl hv
            have h62 : vs 62 = .int .u8 (o ^^^ gmul x y : Nat) := hv 17 _ 62 (by decide) rfl rfl
            have h63 : vs 63 = .pointer (some ⟨ob, i + k, none⟩) := hv 18 _ 63 (by decide) rfl rfl
            clear hv hbl
            have hl := HO.out _ hC.2
            have HC := hid hC
            clear hC
            simp only [List.take_succ_cons, List.take_zero, wrote_cons, wrote_nil]
            go_simp
            have hbel : Below w2.heap.size w2 (w4.setCell ⟨ob, i + k, none⟩ (.int .u8 (o ^^^ gmul x y : Nat))) := HC.out.1.1.setCell (by show w2.heap.size ≤ ob; rw [HOB.out]; exact Nat.le_refl _) _
            have HK6 : Hid (Keeps w2 f (w4.setCell ⟨ob, i + k, none⟩ (.int .u8 (o ^^^ gmul x y : Nat)))) := ⟨hbel, K2.out.2.below hbel K2.out.2.lt⟩
            have HM6 := hid (HC.out.2.set (i + k) (o ^^^ gmul x y) (by rw [hL2.out]; exact hik))
            rw [← HSet.out, ← HCS2.out] at HM6
            clear hbel hl HC h62 h63
            generalize w4.setCell ⟨ob, i + k, none⟩ (.int .u8 (o ^^^ gmul x y : Nat)) = w5 at *
            generalize (o ^^^ gmul x y) = v at *
            go_wp2_with ((with_reducible refine wpList_unguard ?_ ?_); (focus rfl))
            go_roundw
            case rel => exact ⟨k + 1, by omega, by go_num, HK6.out, HM6.out⟩
            case measure => simp [intOf]; omega
        · obtain rfl : k = B.length := by omega
          have HM6 : Hid (bufB wr ob (convTo L0 A B (i + 1))) := by show bufB _ _ _; rw [HCS.out]; exact HM.out
          clear HM HCS
          go_wp2_with ((with_reducible refine wpList_unguard ?_ ?_); (focus rfl))
          go_roundw
          case rel => exact ⟨i + 1, by omega, by go_num, K5.out, HM6.out⟩
          case measure => simp [intOf]; omega
    · obtain rfl : i = A.length := by omega
      have hlen : Hid ((convTo L0 A B A.length).length = N) := by show _ = _; rw [convTo_length]; exact HL0.out
      go_wp2_with ((with_reducible refine wpList_unguard ?_ ?_); (focus rfl))
      go_ret
      exact ⟨some ⟨ob, 0, none⟩, N, by rw [he.out, hlen.out]; rfl, by rw [he.out, hlen.out]; exact Nat.le_refl _, by rw [he.out]; exact HM.out.1, K.out.1.trans (K4.out.1.mono K.out.1.size), .inr ⟨_, rfl⟩⟩
theorem poly_two (f : Nat) (p q : Option Addr) (n c m d : Nat) (a b : List Nat) (w : World) (hF : isF w f) (hn : n = a.length) (hnc : n ≤ c) (hp : cellsB w p a) (hm : m = b.length) (hmd : m ≤ d) (hq : cellsB w q b)
    (hba : bytesL a) (hbb : bytesL b) (hla : a.length ≤ 100000) (hlb : b.length ≤ 100000) :
    Calls Try.prog 55 #[.pointer (some ⟨f, 0, none⟩), .slice p n c, .slice q m d] w (RetC w (ptwo a b)) :=
  (poly_twoO f p q n c m d a b w hF hn hnc hp hm hmd hq hba hbb hla hlb).mono fun _ _ h => h.ret
end Go.Proofs.Ytlipedigmokgbaa
