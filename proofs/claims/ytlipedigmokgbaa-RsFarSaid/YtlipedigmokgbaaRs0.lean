/-
  Codes: what is told of one in memory; a new one in the program.
-/
import Derived.Test.YtlipedigmokgbaaPush
import Derived.Test.YtlipedigmokgbaaPolyR
namespace Tri
/-- The powers of x that a code's words are 0 at. -/
def powers (p : Nat) : List Nat := (List.range p).map gexp
/-- The polynomial that divides a code's words. -/
def rgen (p : Nat) : List Nat := proots (powers p)
theorem powers_length (p : Nat) : (powers p).length = p := by unfold powers; simp
theorem powers_bytes (p : Nat) : bytesL (powers p) := by
  intro x hx
  unfold powers at hx
  obtain ⟨i, _, rfl⟩ := List.mem_map.1 hx
  exact gexp_lt i
theorem powers_take (p k : Nat) (h : k < p) : (powers p).take (k + 1) = (powers p).take k ++ [gexp k] := by
  rw [List.take_succ_eq_append_getElem (by rw [powers_length]; exact h)]
  congr 2
  unfold powers
  simp
theorem rgen_is (p : Nat) : bytesL (rgen p) ∧ trim (rgen p) = rgen p ∧ (rgen p).length = p + 1 := by
  obtain ⟨h1, h2, h3, _⟩ := proots_is 0 (by decide) (powers p) (powers_bytes p)
  rw [powers_length] at h3
  exact ⟨h1, h2, h3⟩
end Tri
namespace Go.Proofs.Ytlipedigmokgbaa
open Go.RowKit Tri

/-- A code in memory. -/
def isR (w : World) (c f n k : Nat) : Prop :=
  ∃ pg cg, w.heap[c]? = some (.cells #[.pointer (some ⟨f, 0, none⟩), .int .i64 (n : Nat), .int .i64 (k : Nat), .slice pg (rgen (n - k)).length cg] 86) ∧ (rgen (n - k)).length ≤ cg ∧ cellsB w pg (rgen (n - k)) ∧ isF w f
theorem isR.below {w w' : World} {c f n k : Nat} (h : isR w c f n k) (hb : Below w.heap.size w w') : isR w' c f n k := by
  obtain ⟨pg, cg, h1, h2, h3, h4⟩ := h
  exact ⟨pg, cg, by rw [hb.block c (Array.getElem?_eq_some_iff.1 h1).1]; exact h1, h2, h3.below hb, h4.below hb h4.lt⟩
theorem isR.field {w : World} {c f n k : Nat} (h : isR w c f n k) : w.cell? ⟨c, 0, none⟩ = some (.pointer (some ⟨f, 0, none⟩)) := by
  obtain ⟨pg, cg, h1, _⟩ := h
  rw [cell_of_row w c 0 _ _ _ h1]; rfl
theorem isR.n {w : World} {c f n k : Nat} (h : isR w c f n k) : w.cell? ⟨c, 1, none⟩ = some (.int .i64 (n : Nat)) := by
  obtain ⟨pg, cg, h1, _⟩ := h
  rw [cell_of_row w c 1 _ _ _ h1]; rfl
theorem isR.k {w : World} {c f n k : Nat} (h : isR w c f n k) : w.cell? ⟨c, 2, none⟩ = some (.int .i64 (k : Nat)) := by
  obtain ⟨pg, cg, h1, _⟩ := h
  rw [cell_of_row w c 2 _ _ _ h1]; rfl
theorem isR.fld {w : World} {c f n k : Nat} (h : isR w c f n k) : isF w f := by
  obtain ⟨pg, cg, _, _, _, h4⟩ := h
  exact h4
theorem isR.gen {w : World} {c f n k : Nat} (h : isR w c f n k) : ∃ pg cg, w.cell? ⟨c, 3, none⟩ = some (.slice pg (rgen (n - k)).length cg) ∧ (rgen (n - k)).length ≤ cg ∧ cellsB w pg (rgen (n - k)) := by
  obtain ⟨pg, cg, h1, h2, h3, _⟩ := h
  refine ⟨pg, cg, ?_, h2, h3⟩
  rw [cell_of_row w c 3 _ _ _ h1]; rfl
theorem Keeps.nw {w0 w w' : World} {b : Nat} (h : Keeps w0 b w) (h' : Below w.heap.size w w') : Keeps w0 b w' :=
  ⟨h.1.trans (h'.mono h.1.size), h.2.below h' h.2.lt⟩

set_option maxHeartbeats 1000000 in
set_option maxRecDepth 100000 in
theorem rs_New_bad (f : Nat) (n k : Int) (w : World) (hn : -9223372036854775808 ≤ n ∧ n < 9223372036854775808) (hk : -9223372036854775808 ≤ k ∧ k < 9223372036854775808) (h : ¬ (1 ≤ k ∧ k < n ∧ n ≤ 255 ∧ n - k ≤ 64)) :
    Calls Try.prog 40 #[.pointer (some ⟨f, 0, none⟩), .int .i64 n, .int .i64 k] w fun e w' => e = .returned (.tuple #[.pointer none, .int .i64 1]) ∧ w = w' := by
  (go_enter Try.func40, Try.ntmps40; try simp only [List.append])
  by_cases h1 : k < 1
  · have ht : decide (k < 1) = true := decide_eq_true h1
    clear h
    go_wp2_with ((with_reducible refine wpList_unguard ?_ ?_); (focus rfl))
    refine bodyPost_ret (v := .tuple #[.pointer none, .int .i64 1]) (by simp [results, Try.results40, go_sem]) rfl ⟨rfl, rfl⟩
  · have ht : decide (k < 1) = false := decide_eq_false h1
    by_cases h2 : n ≤ k
    · have ht2 : decide (n ≤ k) = true := decide_eq_true h2
      clear h
      go_wp2_with ((with_reducible refine wpList_unguard ?_ ?_); (focus rfl))
      refine bodyPost_ret (v := .tuple #[.pointer none, .int .i64 1]) (by simp [results, Try.results40, go_sem]) rfl ⟨rfl, rfl⟩
    · have ht2 : decide (n ≤ k) = false := decide_eq_false h2
      by_cases h3 : 255 < n
      · have ht3 : decide (255 < n) = true := decide_eq_true h3
        clear h
        go_wp2_with ((with_reducible refine wpList_unguard ?_ ?_); (focus rfl))
        refine bodyPost_ret (v := .tuple #[.pointer none, .int .i64 1]) (by simp [results, Try.results40, go_sem]) rfl ⟨rfl, rfl⟩
      · have ht3 : decide (255 < n) = false := decide_eq_false h3
        have hw : IntKind.i64.wrap (n - k) = n - k := by rw [IntKind.wrap_i64]; omega
        have ht4 : decide (64 < n - k) = true := decide_eq_true (by omega)
        clear h
        go_wp2_with ((with_reducible refine wpList_unguard ?_ ?_); (focus rfl))
        refine bodyPost_ret (v := .tuple #[.pointer none, .int .i64 1]) (by simp [results, Try.results40, go_sem]) rfl ⟨rfl, rfl⟩
set_option maxHeartbeats 2000000 in
set_option maxRecDepth 100000 in
theorem rs_New (f n k : Nat) (w : World) (hF : isF w f) (h1 : 1 ≤ k) (h2 : k < n) (h3 : n ≤ 255) (h4 : n - k ≤ 64) :
    Calls Try.prog 40 #[.pointer (some ⟨f, 0, none⟩), .int .i64 n, .int .i64 k] w fun e w' => ∃ c, e = .returned (.tuple #[.pointer (some ⟨c, 0, none⟩), .int .i64 0]) ∧ isR w' c f n k ∧ Below w.heap.size w w' := by
  have HF := hid hF
  clear hF
  obtain ⟨i0, hi, hz0, hz1, hz2⟩ := info_parts Try.infoB
  obtain ⟨p, hp⟩ : ∃ p, n - k = p := ⟨_, rfl⟩
  have hnk : (n : Int) - (k : Int) = (p : Int) := by omega
  have hw : IntKind.i64.wrap (p : Int) = (p : Int) := by rw [IntKind.wrap_i64]; omega
  have ht1 : decide ((k : Int) < 1) = false := decide_eq_false (by omega)
  have ht2 : decide ((n : Int) ≤ (k : Int)) = false := decide_eq_false (by omega)
  have ht2n : decide (n ≤ k) = false := decide_eq_false (by omega)
  have hnle : ¬ n ≤ k := by omega
  have ht3 : decide (255 < (n : Int)) = false := decide_eq_false (by omega)
  have ht4 : decide (64 < (p : Int)) = false := decide_eq_false (by omega)
  have HP := hid hp
  have hp64 : p ≤ 64 := by omega
  have HPT : Hid (∀ j, j < p → (powers p).take (j + 1) = (powers p).take j ++ [gexp j]) := fun j hj => powers_take p j hj
  have HPl := hid (powers_length p)
  have HPB := hid (powers_bytes p)
  have HPR : Hid (rgen p = proots (powers p)) := rfl
  generalize powers p = S at *
  clear hp
  (go_enter Try.func40, Try.ntmps40; try simp only [List.append])
  go_wp2_with ((with_reducible refine wpList_unguard ?_ ?_); (focus rfl))
  go_loopw [8, 34] (fun s i wr => ∃ j : Nat, j ≤ p ∧ i = .int .i64 j ∧ ownsB wr w.heap.size s (S.take j) ∧ Keeps w f wr) (fun _ i _ => p - (intOf i).toNat)
  case atStart => exact ⟨0, Nat.zero_le _, rfl, World.ownsRow_nil _ _ _ _, Below.refl _ _, HF.out⟩
  case round =>
    obtain ⟨j, hj, rfl, hO, hK⟩ := hrel
    have HO := hid hO
    have K := hid hK
    clear hO hK
    by_cases hlt : j < p
    · have HS := hid (HPT.out j hlt)
      have hgl := gexp_lt j
      have hkl : (S.take j).length ≤ 1000000 := by rw [List.length_take]; omega
      have hge : gexpZ (j : Int) = gexp j := gexpZ_nat j
      generalize hs2 : S.take (j + 1) = S2 at *
      have HS2 := hid hs2
      clear hs2
      generalize S.take j = S1 at *
      go_wp2_with ((with_reducible refine wpList_unguard ?_ ?_); (focus rfl))
      refine Calls.mono (gf_Exp f (j : Int) wr K.out.2) ?_; rintro e w' ⟨rfl, rfl⟩
      rw [hge]
      clear hge
      generalize gexp j = y at *
      go_wp2_with (at_builtin; refine wpList_push rfl _ _ 28 rfl w.heap.size 5 i0 .u8 1 Try.underlying28 hi hz0 hz1 hz2 (by decide) _ S1 y HO.out rfl _ rfl rfl hkl K.out.1.size ?_)
      intro v' w' hown' hbel
      have hO' : Hid (ownsB w' w.heap.size v' S2) := by show ownsB _ _ _ _; rw [HS.out]; exact hown'
      have K' : Hid (Keeps w f w') := ⟨K.out.1.trans hbel, HF.out.below (K.out.1.trans hbel) HF.out.lt⟩
      clear hown' hbel
      go_wp2_with ((with_reducible refine wpList_unguard ?_ ?_); (focus rfl))
      go_roundw
      case rel => exact ⟨j + 1, by omega, by go_num, by rw [HS2.out]; exact hO'.out, K'.out⟩
      case measure => simp [intOf]; omega
    · have hT : Hid (S.take j = S) := by show _ = _; exact List.take_of_length_le (by rw [HPl.out]; omega)
      rw [hT.out] at HO
      obtain ⟨p', c', rfl, hcb⟩ := HO.out.cells
      have HC := hid hcb
      clear hcb
      go_wp2_with ((with_reducible refine wpList_unguard ?_ ?_); (focus rfl))
      refine Calls.mono (poly_Roots f p' _ c' S wr K.out.2 rfl HC.out HPB.out (by rw [HPl.out]; omega)) ?_
      rintro e w2 ⟨q2, d2, rfl, hle2, hq2, hbel⟩
      have K2 := hid (K.out.nw hbel)
      rw [← HPR.out] at hle2 hq2 ⊢
      have HQ2 := hid hq2
      clear hq2 hbel
      have hR : Hid (isR (w2.alloc (.cells #[.pointer (some ⟨f, 0, none⟩), .int .i64 (n : Nat), .int .i64 (k : Nat), .slice q2 (rgen p).length d2] 86)) w2.heap.size f n k) := by
        refine ⟨q2, d2, ?_, ?_, ?_, K2.out.2.alloc _⟩
        · rw [HP.out]; exact heap_alloc_new w2 _
        · rw [HP.out]; exact hle2
        · rw [HP.out]; exact HQ2.out.alloc _
      have hB := hid (K2.out.1.alloc K2.out.1.size (.cells #[.pointer (some ⟨f, 0, none⟩), .int .i64 (n : Nat), .int .i64 (k : Nat), .slice q2 (rgen p).length d2] 86))
      generalize rgen p = G at *
      go_wp2_with ((with_reducible refine wpList_unguard ?_ ?_); (focus rfl))
      refine bodyPost_ret (v := .tuple #[.pointer (some ⟨w2.heap.size, 0, none⟩), .int .i64 0]) (by simp [results, Try.results40, go_sem]) rfl ⟨_, rfl, hR.out, hB.out⟩
end Go.Proofs.Ytlipedigmokgbaa
