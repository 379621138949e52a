/-
  Polynomials in the program: degrees and values.
  Conditions: the field that is there is the block that gf.New makes; polynomials of at most 1000000 bytes.
-/
import Derived.Test.YtlipedigmokgbaaSl
import Derived.Test.YtlipedigmokgbaaGf2
namespace Go.Proofs.Ytlipedigmokgbaa
open Go.RowKit Tri

set_option maxHeartbeats 400000 in
theorem poly_Degree (p : Option Addr) (n c : Nat) (l : List Nat) (w : World) (hn : n = l.length) (hc : n ≤ c) (hp : cellsB w p l) (hl : l.length ≤ 1000000) :
    Calls Try.prog 28 #[.slice p n c] w fun e w' => e = .returned (.int .i64 (((trim l).length : Int) - 1)) ∧ Below w.heap.size w w' := by
  subst hn
  have HP := hid hp
  clear hp
  have ht := trim_length_le l
  go_enter Try.func28, Try.ntmps28
  go_wp2_with fail
  refine Calls.mono (poly_Trim p _ c l w rfl hc HP.out hl) ?_; rintro e w1 ⟨v, rfl, hO, hB⟩
  have HB := hid hB
  obtain ⟨p', c', rfl, _⟩ := hO.cells
  clear hB hO

  go_wp2
  go_ret
  exact ⟨rfl, HB.out⟩
theorem pevalFrom_snoc (x s a : Nat) (l : List Nat) : pevalFrom x s (l ++ [a]) = gmul (pevalFrom x s l) x ^^^ a := by
  induction l generalizing s with
  | nil => rfl
  | cons b l ih => simp only [List.cons_append, pevalFrom]; exact ih _
theorem pevalFrom_lt (x : Nat) (l : List Nat) (h : bytesL l) (s : Nat) (hs : s < 256) : pevalFrom x s l < 256 := by
  induction l generalizing s with
  | nil => exact hs
  | cons a l ih => exact ih (fun y hy => h y (by simp [hy])) _ (xor_lt (gmul_lt _ _) (h a (by simp)))
set_option maxHeartbeats 1000000 in
theorem poly_Eval (b : Nat) (p : Option Addr) (n c : Nat) (l : List Nat) (x : Nat) (w : World) (hF : isF w b) (hn : n = l.length) (hp : cellsB w p l) (hb : bytesL l) (hx : x < 256) (hl : l.length ≤ 1000000) :
    Calls Try.prog 26 #[.pointer (some ⟨b, 0, none⟩), .slice p n c, .int .u8 x] w fun e w' => e = .returned (.int .u8 (peval x l)) ∧ Keeps w b w' := by
  subst hn
  have HP := hid hp
  have HB := hid hb
  have HF := hid hF
  clear hp hb hF
  go_enter Try.func26, Try.ntmps26
  go_wp2
  go_loopw [7, 12] (fun s i wr => ∃ k : Nat, k ≤ l.length ∧ i = .int .i64 k ∧ s = .int .u8 (pevalFrom x 0 (l.take k)) ∧ Keeps w b wr) (fun _ i _ => l.length - (intOf i).toNat)
  case atStart => exact ⟨0, Nat.zero_le _, rfl, rfl, Below.refl _ _, HF.out⟩
  case round =>
    obtain ⟨k, hk, rfl, rfl, hK⟩ := hrel
    have K := hid hK
    clear hK
    have hs : pevalFrom x 0 (l.take k) < 256 := pevalFrom_lt x _ (fun y hy => HB.out y (List.mem_of_mem_take hy)) 0 (by omega)
    by_cases hlt : k < l.length
    · obtain ⟨a, o, rfl, hc0⟩ := HP.out k hlt
      have hc : wr.cell? ⟨a, o + k, none⟩ = some (.int .u8 (l.getD k 0 : Nat)) := by
        rw [K.out.1.cell (p := ⟨a, o + k, none⟩) (block_lt_of_cell hc0)]; exact hc0
      have hy : l.getD k 0 < 256 := HB.out _ (getD_mem l k hlt)
      have hts : Hid (pevalFrom x 0 (l.take (k + 1)) = gmul (pevalFrom x 0 (l.take k)) x ^^^ l.getD k 0) := by
        show _ = _; rw [take_snocN l k hlt, pevalFrom_snoc]
      clear hc0
      generalize l.getD k 0 = y at *
      generalize pevalFrom x 0 (l.take k) = s at *
      go_wp2_with ((with_reducible refine wpList_unguard ?_ ?_); (focus rfl))
      (refine Calls.mono (gf_Mul2K _ _ _ s x _ _ _ K.out ?_ ?_ ?_ ?_ ?_ _) ?_; (focus (first | rfl | (simp; done))); (rfl); (rfl); (focus (first | assumption | (exact gmul_lt _ _) | (exact ginv_lt _) | (exact gexp_lt _) | (exact gexpZ_lt _) | omega | (exact xor_lt (by first | assumption | (exact gmul_lt _ _) | omega) (by first | assumption | (exact gmul_lt _ _) | omega)))); (focus (first | assumption | (exact gmul_lt _ _) | (exact ginv_lt _) | (exact gexp_lt _) | (exact gexpZ_lt _) | omega | (exact xor_lt (by first | assumption | (exact gmul_lt _ _) | omega) (by first | assumption | (exact gmul_lt _ _) | omega)))); (clear K); rintro e w' ⟨rfl, K0⟩; have K := hid K0; clear K0)
      go_wp2_with ((with_reducible refine wpList_unguard ?_ ?_); (focus rfl))
      (refine Calls.mono (gf_Add2K _ _ _ (gmul s x) y _ _ _ K.out ?_ ?_ ?_ ?_ ?_ _) ?_; (focus (first | rfl | (simp; done))); (rfl); (rfl); (focus (first | assumption | (exact gmul_lt _ _) | (exact ginv_lt _) | (exact gexp_lt _) | (exact gexpZ_lt _) | omega | (exact xor_lt (by first | assumption | (exact gmul_lt _ _) | omega) (by first | assumption | (exact gmul_lt _ _) | omega)))); (focus (first | assumption | (exact gmul_lt _ _) | (exact ginv_lt _) | (exact gexp_lt _) | (exact gexpZ_lt _) | omega | (exact xor_lt (by first | assumption | (exact gmul_lt _ _) | omega) (by first | assumption | (exact gmul_lt _ _) | omega)))); (clear K); rintro e w' ⟨rfl, K0⟩; have K := hid K0; clear K0)
      go_wp2_with ((with_reducible refine wpList_unguard ?_ ?_); (focus rfl))
      go_roundw
      case rel => exact ⟨k + 1, by omega, by go_num, by rw [hts.out], K.out⟩
      case measure => simp [intOf]; omega
    · have hpe : Hid (peval x l = pevalFrom x 0 (l.take k)) := by show _ = _; rw [List.take_of_length_le (by omega)]; rfl
      generalize pevalFrom x 0 (l.take k) = s at *
      go_wp2
      go_ret
      exact ⟨by rw [hpe.out]; rfl, K.out⟩
end Go.Proofs.Ytlipedigmokgbaa
