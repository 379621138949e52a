/-
  The document's polynomials (the reference): products.
-/
import Derived.Test.YtlipedigmokgbaaRef5b
import Derived.Test.YtlipedigmokgbaaRefM
namespace Tri
def rmulL (a b : List Nat) : List Nat := convTo (List.replicate (a.length + b.length + 1) 0) a b a.length
def rmulP (a b : List Nat) : List Nat := cutR (rmulL a b)
theorem rmulL_length (a b : List Nat) : (rmulL a b).length = a.length + b.length + 1 := by
  unfold rmulL; rw [convTo_length, List.length_replicate]
theorem rmulP_bytes (a b : List Nat) : bytesL (rmulP a b) :=
  cutR_bytes (convTo_bytes (fun x hx => by rw [List.mem_replicate] at hx; omega) _ _ _)
theorem rmulP_length (a b : List Nat) : (rmulP a b).length ≤ a.length + b.length + 1 := by
  have := cutR_length_le (rmulL a b)
  rw [rmulL_length] at this
  exact this
end Tri
namespace Go.Proofs.Ytlipedigmokgbaa
open Go.RowKit Tri

def bufI (w : World) (b : Nat) (l : List Nat) : Prop := cellsI w (some ⟨b, 0, none⟩) l ∧ ∀ i, i < l.length → w.frozen? ⟨b, i, none⟩ = false
theorem bufI.drew {w : World} {b : Nat} {l : List Nat} (h : bufI w b l) : bufI w.drew b l := h
theorem bufI.at {w : World} {b : Nat} {l : List Nat} (h : bufI w b l) (i : Nat) (hi : i < l.length) : w.cell? ⟨b, i, none⟩ = some (.int .i64 (l.getD i 0 : Nat)) := by
  obtain ⟨a, o, e, hc⟩ := h.1 i hi
  simp only [Option.some.injEq, Addr.mk.injEq] at e
  obtain ⟨rfl, rfl, _⟩ := e
  rwa [Nat.zero_add] at hc
theorem cellsI.set {w : World} {b o : Nat} {l : List Nat} (h : cellsI w (some ⟨b, o, none⟩) l) (i x : Nat) (hi : i < l.length) :
    cellsI (w.setCell ⟨b, o + i, none⟩ (.int .i64 (x : Nat))) (some ⟨b, o, none⟩) (l.set i x) := by
  intro j hj
  rw [List.length_set] at hj
  obtain ⟨a', o', e, hc⟩ := h j hj
  simp only [Option.some.injEq, Addr.mk.injEq] at e
  obtain ⟨rfl, rfl, _⟩ := e
  refine ⟨_, _, rfl, ?_⟩
  by_cases e : i = j
  · subst e
    rw [World.cell?_setCell_same _ _ _ hc]
    simp [hi]
  · rw [World.cell?_setCell_other _ _ _ _ (by intro e'; simp [e] at e'), hc]
    simp [List.getD_eq_getElem?_getD, List.getElem?_set, e]
theorem bufI.set {w : World} {b : Nat} {l : List Nat} (h : bufI w b l) (i x : Nat) (hi : i < l.length) : bufI (w.setCell ⟨b, i, none⟩ (.int .i64 (x : Nat))) b (l.set i x) := by
  refine ⟨by have := h.1.set i x hi; rwa [Nat.zero_add] at this, fun j hj => ?_⟩
  rw [World.frozen?_setCell]
  exact h.2 j (by simpa using hj)
theorem bufI.made (w : World) (n : Nat) (t : TypeId) : bufI (w.alloc (.cells (madeCells #[Value.int .i64 0] n) t)) w.heap.size (List.replicate n 0) := by
  refine ⟨cellsI.new w _ _ _ ?_, fun i hi => ?_⟩
  · apply List.ext_getElem (by simp [madeCells])
    intro i h1 h2
    simp [madeCells, Nat.mod_one]
  · rw [frozen?_alloc_cells]
    unfold World.frozen?
    simp
def refV (ob n : Nat) (va vb : Value) (pa pb : Addr) (i k o x y : Nat) (j : Nat) (v : Value) (_w : World) : Prop := match j with
  | 0 | 4 => v = .slice (some ⟨ob, 0, none⟩) n n
  | 1 | 5 | 11 => v = .int .i64 (i : Nat)
  | 2 | 6 | 15 => v = .int .i64 (k : Nat)
  | 3 | 7 => v = .int .i64 ((i : Int) + (k : Int))
  | 8 | 20 => v = .pointer (some ⟨ob, i + k, none⟩)
  | 9 => v = .int .i64 (o : Nat)
  | 10 => v = va
  | 12 => v = .pointer (some pa)
  | 13 => v = .int .i64 (x : Nat)
  | 14 => v = vb
  | 16 => v = .pointer (some pb)
  | 17 => v = .int .i64 (y : Nat)
  | 18 => v = .int .i64 (gmul x y : Nat)
  | 19 => v = .int .i64 (o ^^^ gmul x y : Nat)
  | _ => True
theorem refV_st (ob n : Nat) (va vb : Value) (pa pb : Addr) (i k o x y : Nat) (j : Nat) (v : Value) (w w' : World) (_hb : Below w.heap.size w w') (h : refV ob n va vb pa pb i k o x y j v w) : refV ob n va vb pa pb i k o x y j v w' := h

set_option maxHeartbeats 4000000 in
set_option maxRecDepth 100000 in
theorem ref5_Mul (p q : Option Addr) (n c m d : Nat) (XA B : List Nat) (w : World) (hn : n = XA.length) (hp : cellsI w p XA) (hm : m = B.length) (hq : cellsI w q B)
    (hba : bytesL XA) (hbb : bytesL B) (hla : XA.length ≤ 50000) (hlb : B.length ≤ 50000) :
    Calls Try.prog 21 #[.slice p n c, .slice q m d] w (RetI w (rmulP XA B)) := by
  subst hn hm
  have HA := hid hp
  have HBB := hid hq
  have hxa := hid hba
  have hxb := hid hbb
  clear hp hq hba hbb
  have HR : Hid (rmulP XA B = cutR (rmulL XA B)) := rfl
  have he : Hid (rmulL XA B = convTo (List.replicate (XA.length + B.length + 1) 0) XA B XA.length) := rfl
  go_enter Try.func21, Try.ntmps21
  obtain ⟨N, hN⟩ : ∃ N, XA.length + B.length + 1 = N := ⟨_, rfl⟩
  have hNI : (XA.length : Int) + (B.length : Int) + 1 = (N : Int) := by omega
  have hmk := run_make_row' (P := Try.prog) 27 3 (.int .i64 0) 8 Try.underlying27 Try.infoI rfl .i64 .i64 N (by omega) (by omega)
  rw [hN] at he
  have HN := hid hN
  have HM := hid (bufI.made w N 3)
  have K3 : Hid (Below w.heap.size w (w.alloc (.cells (madeCells #[.int .i64 0] N) 3))) := (Below.refl _ _).alloc (Nat.le_refl _) _
  clear hN
  go_wp2_with ((with_reducible refine wpList_unguard ?_ ?_); (focus rfl))
  generalize w.alloc (.cells (madeCells #[.int .i64 0] N) 3) = w3 at *
  obtain ⟨ob, hob⟩ : ∃ ob, w.heap.size = ob := ⟨_, rfl⟩
  have HOB := hid hob
  rw [hob] at HM ⊢
  clear hmk hob hNI
  have hbL : bytesL (List.replicate N 0) := by intro y hy; rw [List.mem_replicate] at hy; omega
  have HBL := hid hbL
  clear hbL
  have hL0 : (List.replicate N 0).length = N := List.length_replicate
  generalize List.replicate N 0 = L0 at *
  have HL0 := hid hL0
  clear hL0
  go_loopw [6] (fun i wr => ∃ k : Nat, k ≤ XA.length ∧ i = .int .i64 k ∧ Below w.heap.size w wr ∧ bufI wr ob (convTo L0 XA B k)) (fun i _ => XA.length - (intOf i).toNat)
  case atStart => exact ⟨0, Nat.zero_le _, rfl, K3.out, HM.out⟩
  case round =>
    clear K3 HM
    obtain ⟨i, hi, rfl, hK, hM⟩ := hrel
    have K4 := hid hK
    have HM := hid hM
    clear hK hM
    by_cases hlt : i < XA.length
    · obtain ⟨a', o', rfl, hc0⟩ := HA.out i hlt
      have hx : XA.getD i 0 < 256 := hxa.out _ (getD_mem XA i hlt)
      have HCS : Hid (convTo L0 XA B (i + 1) = rowTo (convTo L0 XA B i) i (XA.getD i 0) B B.length) := rfl
      have hL1 : Hid ((convTo L0 XA B i).length = N) := by show _ = _; rw [convTo_length]; exact HL0.out
      have hB1 := hid (convTo_bytes HBL.out XA B i)
      have HCA : Hid (∀ w', Below w.heap.size w w' → w'.cell? ⟨a', o' + i, none⟩ = some (.int .i64 (XA.getD i 0 : Nat))) := fun w' hb => by
        rw [hb.cell (p := ⟨a', o' + i, none⟩) (block_lt_of_cell hc0)]; exact hc0
      clear hc0
      generalize XA.getD i 0 = x at *
      generalize convTo L0 XA B i = L1 at *
      go_wp2_with ((with_reducible refine wpList_unguard ?_ ?_); (focus rfl))
      go_loopw [7] (fun i' wr => ∃ k : Nat, k ≤ B.length ∧ i' = .int .i64 k ∧ Below w.heap.size w wr ∧ bufI wr ob (rowTo L1 i x B k)) (fun i' _ => B.length - (intOf i').toNat)
      case atStart => exact ⟨0, Nat.zero_le _, rfl, K4.out, HM.out⟩
      case round =>
        clear HM
        obtain ⟨k, hk, rfl, hK, hM⟩ := hrel
        have K5 := hid hK
        have HM := hid hM
        clear hK hM
        by_cases hkt : k < B.length
        · obtain ⟨b', q', rfl, hc0⟩ := HBB.out k hkt
          have hy : B.getD k 0 < 256 := hxb.out _ (getD_mem B k hkt)
          have HCB : Hid (∀ w', Below w.heap.size w w' → w'.cell? ⟨b', q' + k, none⟩ = some (.int .i64 (B.getD k 0 : Nat))) := fun w' hb => by
            rw [hb.cell (p := ⟨b', q' + k, none⟩) (block_lt_of_cell hc0)]; exact hc0
          have HCS2 : Hid (rowTo L1 i x B (k + 1) = acc (rowTo L1 i x B k) (i + k) (gmul x (B.getD k 0))) := rfl
          have hL2 : Hid ((rowTo L1 i x B k).length = N) := by show _ = _; rw [rowTo_length]; exact hL1.out
          have hB2 := hid (rowTo_bytes hB1.out i x B k)
          clear hc0
          generalize B.getD k 0 = y at *
          generalize rowTo L1 i x B k = L at *
          have hik : i + k < N := by have := HN.out; omega
          have hNle : N ≤ 200000 := by have := HN.out; omega
          have ho : L.getD (i + k) 0 < 256 := hB2.out _ (getD_mem L _ (by rw [hL2.out]; exact hik))
          have HO : Hid (∀ w', bufI w' ob L → w'.cell? ⟨ob, i + k, none⟩ = some (.int .i64 (L.getD (i + k) 0 : Nat)) ∧ w'.frozen? ⟨ob, i + k, none⟩ = false) := fun w' h => ⟨h.at _ (by rw [hL2.out]; exact hik), h.2 _ (by rw [hL2.out]; exact hik)⟩
          have HSet : Hid (acc L (i + k) (gmul x y) = L.set (i + k) (L.getD (i + k) 0 ^^^ gmul x y)) := rfl
          generalize L.getD (i + k) 0 = o at *
          have hgl := gmul_lt x y
          have HXor := hid (i64_xor_nat o (gmul x y) (by omega) (by omega))
          clear hgl
          have hwr : IntKind.i64.wrap ((i : Int) + (k : Int)) = (i : Int) + (k : Int) := by rw [IntKind.wrap_i64]; omega
          have hix : 0 ≤ (i : Int) + (k : Int) ∧ (i : Int) + (k : Int) < (N : Int) := by omega
          have htn : ((i : Int) + (k : Int)).toNat = i + k := by omega
          have HWR := hid hwr
          have HIX := hid hix
          have HTN := hid htn
          clear hwr hix htn
          go_wp2_with ((with_reducible refine wpList_unguard ?_ ?_); (focus rfl))
          refine region_store (m := 21) _ _ (fun w' => Below w.heap.size w w' ∧ bufI w' ob L) (refV ob N (.slice (some ⟨a', o', none⟩) XA.length c) (.slice (some ⟨b', q', none⟩) B.length d) ⟨a', o' + i, none⟩ ⟨b', q' + k, none⟩ i k o x y) (by kernel_rfl) (by kernel_rfl) (by kernel_rfl) rfl rfl (by kernel_rfl) ⟨by decide, rfl⟩ ⟨K5.out.drew, HM.out.drew⟩ (refV_st ob N _ _ _ _ i k o x y) ?_ ?_
          · clear K5 HM
            refine ⟨fun A w3 hC hu hd K hK => ?_, ?_⟩
            · exact op_tmp 5 _ rfl (hu 5 rfl) (hK _ _ rfl hC (Below.refl _ _))
            refine ⟨fun A w3 hC hu hd K hK => ?_, ?_⟩
            · exact op_tmp 6 _ rfl (hu 6 rfl) (hK _ _ rfl hC (Below.refl _ _))
            refine ⟨fun A w3 hC hu hd K hK => ?_, ?_⟩
            · exact op_tmp 7 _ rfl (hu 7 rfl) (hK _ _ rfl hC (Below.refl _ _))
            refine ⟨fun A w3 hC hu hd K hK => ?_, ?_⟩
            · have h1 : A.tmps[28]?.getD undef = Value.int .i64 (i : Nat) := by have this : A.tmps.getD 28 undef = Value.int .i64 (i : Nat) := hd ⟨1, .data⟩ (by simp) rfl _ _ rfl rfl; simpa using this
              have h2 : A.tmps[29]?.getD undef = Value.int .i64 (k : Nat) := by have this : A.tmps.getD 29 undef = Value.int .i64 (k : Nat) := hd ⟨2, .data⟩ (by simp) rfl _ _ rfl rfl; simpa using this
              clear hu hd
              go_simp
              rw [HWR.out]
              exact hK _ _ rfl hC (Below.refl _ _)
            refine ⟨fun A w3 hC hu hd K hK => ?_, ?_⟩
            · exact op_tmp 5 _ rfl (hu 5 rfl) (hK _ _ rfl hC (Below.refl _ _))
            refine ⟨fun A w3 hC hu hd K hK => ?_, ?_⟩
            · exact op_tmp 6 _ rfl (hu 6 rfl) (hK _ _ rfl hC (Below.refl _ _))
            refine ⟨fun A w3 hC hu hd K hK => ?_, ?_⟩
            · exact op_tmp 7 _ rfl (hu 7 rfl) (hK _ _ rfl hC (Below.refl _ _))
            refine ⟨fun A w3 hC hu hd K hK => ?_, ?_⟩
            · have h1 : A.tmps[32]?.getD undef = Value.int .i64 (i : Nat) := by have this : A.tmps.getD 32 undef = Value.int .i64 (i : Nat) := hd ⟨5, .data⟩ (by simp) rfl _ _ rfl rfl; simpa using this
              have h2 : A.tmps[33]?.getD undef = Value.int .i64 (k : Nat) := by have this : A.tmps.getD 33 undef = Value.int .i64 (k : Nat) := hd ⟨6, .data⟩ (by simp) rfl _ _ rfl rfl; simpa using this
              clear hu hd
              go_simp
              rw [HWR.out]
              exact hK _ _ rfl hC (Below.refl _ _)
            refine ⟨fun A w3 hC hu hd K hK => ?_, ?_⟩
            · have h1 : A.tmps[31]?.getD undef = Value.slice (some ⟨ob, 0, none⟩) N N := by have this : A.tmps.getD 31 undef = Value.slice (some ⟨ob, 0, none⟩) N N := hd ⟨4, .data⟩ (by simp) rfl _ _ rfl rfl; simpa using this
              have h2 : A.tmps[34]?.getD undef = Value.int .i64 ((i : Int) + (k : Int)) := by have this : A.tmps.getD 34 undef = Value.int .i64 ((i : Int) + (k : Int)) := hd ⟨7, .data⟩ (by simp) rfl _ _ rfl rfl; simpa using this
              clear hu hd
              go_simp
              rw [if_pos HIX.out, HTN.out]
              go_simp
              exact hK _ _ rfl hC (Below.refl _ _)
            refine ⟨fun A w3 hC hu hd K hK => ?_, ?_⟩
            · have h1 : A.tmps[35]?.getD undef = Value.pointer (some ⟨ob, i + k, none⟩) := by have this : A.tmps.getD 35 undef = Value.pointer (some ⟨ob, i + k, none⟩) := hd ⟨8, .data⟩ (by simp) rfl _ _ rfl rfl; simpa using this
              have hl := (HO.out _ hC.2).1
              clear hu hd
              go_simp
              exact hK _ _ rfl hC (Below.refl _ _)
            refine ⟨fun A w3 hC hu hd K hK => ?_, ?_⟩
            · exact op_tmp 0 _ rfl (hu 0 rfl) (hK _ _ rfl hC (Below.refl _ _))
            refine ⟨fun A w3 hC hu hd K hK => ?_, ?_⟩
            · exact op_tmp 6 _ rfl (hu 6 rfl) (hK _ _ rfl hC (Below.refl _ _))
            refine ⟨fun A w3 hC hu hd K hK => ?_, ?_⟩
            · have h1 : A.tmps[37]?.getD undef = Value.slice (some ⟨a', o', none⟩) XA.length c := by have this : A.tmps.getD 37 undef = Value.slice (some ⟨a', o', none⟩) XA.length c := hd ⟨10, .data⟩ (by simp) rfl _ _ rfl rfl; simpa using this
              have h2 : A.tmps[38]?.getD undef = Value.int .i64 (i : Nat) := by have this : A.tmps.getD 38 undef = Value.int .i64 (i : Nat) := hd ⟨11, .data⟩ (by simp) rfl _ _ rfl rfl; simpa using this
              clear hu hd
              go_simp
              exact hK _ _ rfl hC (Below.refl _ _)
            refine ⟨fun A w3 hC hu hd K hK => ?_, ?_⟩
            · have h1 : A.tmps[39]?.getD undef = Value.pointer (some ⟨a', o' + i, none⟩) := by have this : A.tmps.getD 39 undef = Value.pointer (some ⟨a', o' + i, none⟩) := hd ⟨12, .data⟩ (by simp) rfl _ _ rfl rfl; simpa using this
              have hl := HCA.out _ hC.1
              clear hu hd
              go_simp
              exact hK _ _ rfl hC (Below.refl _ _)
            refine ⟨fun A w3 hC hu hd K hK => ?_, ?_⟩
            · exact op_tmp 1 _ rfl (hu 1 rfl) (hK _ _ rfl hC (Below.refl _ _))
            refine ⟨fun A w3 hC hu hd K hK => ?_, ?_⟩
            · exact op_tmp 7 _ rfl (hu 7 rfl) (hK _ _ rfl hC (Below.refl _ _))
            refine ⟨fun A w3 hC hu hd K hK => ?_, ?_⟩
            · have h1 : A.tmps[41]?.getD undef = Value.slice (some ⟨b', q', none⟩) B.length d := by have this : A.tmps.getD 41 undef = Value.slice (some ⟨b', q', none⟩) B.length d := hd ⟨14, .data⟩ (by simp) rfl _ _ rfl rfl; simpa using this
              have h2 : A.tmps[42]?.getD undef = Value.int .i64 (k : Nat) := by have this : A.tmps.getD 42 undef = Value.int .i64 (k : Nat) := hd ⟨15, .data⟩ (by simp) rfl _ _ rfl rfl; simpa using this
              clear hu hd
              go_simp
              exact hK _ _ rfl hC (Below.refl _ _)
            refine ⟨fun A w3 hC hu hd K hK => ?_, ?_⟩
            · have h1 : A.tmps[43]?.getD undef = Value.pointer (some ⟨b', q' + k, none⟩) := by have this : A.tmps.getD 43 undef = Value.pointer (some ⟨b', q' + k, none⟩) := hd ⟨16, .data⟩ (by simp) rfl _ _ rfl rfl; simpa using this
              have hl := HCB.out _ hC.1
              clear hu hd
              go_simp
              exact hK _ _ rfl hC (Below.refl _ _)
            refine ⟨fun A w3 hC hu hd K hK => ?_, ?_⟩
            · have h1 : A.tmps[40]?.getD undef = Value.int .i64 (x : Nat) := by have this : A.tmps.getD 40 undef = Value.int .i64 (x : Nat) := hd ⟨13, .data⟩ (by simp) rfl _ _ rfl rfl; simpa using this
              have h2 : A.tmps[44]?.getD undef = Value.int .i64 (y : Nat) := by have this : A.tmps.getD 44 undef = Value.int .i64 (y : Nat) := hd ⟨17, .data⟩ (by simp) rfl _ _ rfl rfl; simpa using this
              clear hu hd
              go_simp
              refine Calls.mono (ref_Mul x y hx hy _) ?_
              rintro e w4 ⟨rfl, rfl⟩
              exact hK _ _ rfl hC (Below.refl _ _)
            refine ⟨fun A w3 hC hu hd K hK => ?_, ?_⟩
            · have h1 : A.tmps[36]?.getD undef = Value.int .i64 (o : Nat) := by have this : A.tmps.getD 36 undef = Value.int .i64 (o : Nat) := hd ⟨9, .data⟩ (by simp) rfl _ _ rfl rfl; simpa using this
              have h2 : A.tmps[45]?.getD undef = Value.int .i64 (gmul x y : Nat) := by have this : A.tmps.getD 45 undef = Value.int .i64 (gmul x y : Nat) := hd ⟨18, .data⟩ (by simp) rfl _ _ rfl rfl; simpa using this
              clear hu hd
              go_simp
              rw [HXor.out]
              exact hK _ _ rfl hC (Below.refl _ _)
            refine ⟨fun A w3 hC hu hd K hK => ?_, ?_⟩
            · have h1 : A.tmps[27]?.getD undef = Value.slice (some ⟨ob, 0, none⟩) N N := by have this : A.tmps.getD 27 undef = Value.slice (some ⟨ob, 0, none⟩) N N := hd ⟨0, .data⟩ (by simp) rfl _ _ rfl rfl; simpa using this
              have h2 : A.tmps[30]?.getD undef = Value.int .i64 ((i : Int) + (k : Int)) := by have this : A.tmps.getD 30 undef = Value.int .i64 ((i : Int) + (k : Int)) := hd ⟨3, .data⟩ (by simp) rfl _ _ rfl rfl; simpa using this
              clear hu hd
              go_simp
              rw [if_pos HIX.out, HTN.out]
              go_simp
              exact hK _ _ rfl hC (Below.refl _ _)
            trivial
          · intro vs w4 hC hbl hv
            have h46 : vs 46 = .int .i64 (o ^^^ gmul x y : Nat) := hv 19 _ 46 (by decide) rfl rfl
            have h47 : vs 47 = .pointer (some ⟨ob, i + k, none⟩) := hv 20 _ 47 (by decide) rfl rfl
            clear hv hbl
            have hl := HO.out _ hC.2
            have HC := hid hC
            clear hC
            simp only [List.take_succ_cons, List.take_zero, wrote_cons, wrote_nil]
            go_simp
            have HK6 : Hid (Below w.heap.size w (w4.setCell ⟨ob, i + k, none⟩ (.int .i64 (o ^^^ gmul x y : Nat)))) := HC.out.1.setCell (by show w.heap.size ≤ ob; rw [HOB.out]; exact Nat.le_refl _) _
            have HM6 := hid (HC.out.2.set (i + k) (o ^^^ gmul x y) (by rw [hL2.out]; exact hik))
            rw [← HSet.out, ← HCS2.out] at HM6
            clear hl HC h46 h47
            generalize w4.setCell ⟨ob, i + k, none⟩ (.int .i64 (o ^^^ gmul x y : Nat)) = w5 at *
            generalize (o ^^^ gmul x y) = v at *
            go_wp2_with ((with_reducible refine wpList_unguard ?_ ?_); (focus rfl))
            go_roundw
            case rel => exact ⟨k + 1, by omega, by go_num, HK6.out, HM6.out⟩
            case measure => simp [intOf]; omega
        · obtain rfl : k = B.length := by omega
          have HM6 : Hid (bufI wr ob (convTo L0 XA B (i + 1))) := by show bufI _ _ _; rw [HCS.out]; exact HM.out
          clear HM HCS
          go_wp2_with ((with_reducible refine wpList_unguard ?_ ?_); (focus rfl))
          go_roundw
          case rel => exact ⟨i + 1, by omega, by go_num, K5.out, HM6.out⟩
          case measure => simp [intOf]; omega
    · obtain rfl : i = XA.length := by omega
      have hlen : Hid ((rmulL XA B).length = N) := by show _ = _; rw [he.out, convTo_length]; exact HL0.out
      have HC : Hid (cellsI wr (some ⟨ob, 0, none⟩) (rmulL XA B)) := by show cellsI _ _ _; rw [he.out]; exact HM.out.1
      have hNle : N ≤ 200000 := by have := HN.out; omega
      have hle2 := cutR_length_le (rmulL XA B)
      rw [← HR.out, hlen.out] at hle2
      have HC2 := hid HC.out.cut
      rw [← HR.out] at HC2
      clear HM he
      generalize rmulL XA B = M at *
      go_wp2_with ((with_reducible refine wpList_unguard ?_ ?_); (focus rfl))
      refine Calls.mono (ref5_Cut _ _ N M wr hlen.out.symm (Nat.le_refl _) HC.out (by rw [hlen.out]; omega)) ?_; rintro e w' ⟨rfl, rfl⟩
      rw [← HR.out]
      generalize rmulP XA B = R at *
      go_wp2_with ((with_reducible refine wpList_unguard ?_ ?_); (focus rfl))
      go_ret
      exact ⟨_, N, rfl, hle2, HC2.out, K4.out⟩
end Go.Proofs.Ytlipedigmokgbaa
