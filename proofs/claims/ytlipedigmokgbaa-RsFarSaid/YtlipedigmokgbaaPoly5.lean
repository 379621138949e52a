/-
  The derivative in the program.
  Conditions: polynomials of at most 100000 bytes.
-/
import Derived.Test.YtlipedigmokgbaaPoly4
namespace Tri
def derTo (L : List Nat) (n : Nat) : Nat → List Nat
  | 0 => L
  | k + 1 => if (n - 1 - k) % 2 = 0 then (derTo L n k).set k 0 else derTo L n k
def pder (a : List Nat) : List Nat := if a = [] then [] else trim (derTo (a.take (a.length - 1)) a.length (a.length - 1))
theorem derTo_length (L : List Nat) (n k : Nat) : (derTo L n k).length = L.length := by
  induction k with
  | zero => rfl
  | succ k ih =>
    unfold derTo
    split
    · rw [List.length_set, ih]
    · exact ih
end Tri
namespace Go.Proofs.Ytlipedigmokgbaa
open Go.RowKit Tri

theorem ownsB.buf {w : World} {base : Nat} {v : Value} {l : List Nat} (h : ownsB w base v l) :
    (v = .slice none 0 0 ∧ l = []) ∨ ∃ g cap, v = .slice (some ⟨g, 0, none⟩) l.length cap ∧ base ≤ g ∧ l.length ≤ cap ∧ bufB w g l := by
  have h' := h
  obtain ⟨_, h0⟩ := h
  rcases h0 with ⟨h1, h2⟩ | ⟨g, cap, cur, h1, h2, h3, h4, h5, h6, h7⟩
  · exact .inl ⟨h1, List.eq_nil_of_length_eq_zero h2⟩
  · refine .inr ⟨g, cap, h1, h2, h4, ?_, fun i hi => ?_⟩
    · obtain ⟨p, c, e, hc⟩ := h'.cells
      rw [h1] at e
      simp only [Value.slice.injEq] at e
      rw [e.1]
      exact hc
    · unfold World.frozen?
      rw [h3]
      simp

set_option maxHeartbeats 2000000 in
set_option maxRecDepth 100000 in
theorem poly_Derive (f : Nat) (p : Option Addr) (n c : Nat) (a : List Nat) (w : World) (hF : isF w f) (hn : n = a.length) (hnc : n ≤ c) (hp : cellsB w p a) (hl : a.length ≤ 100000) :
    Calls Try.prog 27 #[.pointer (some ⟨f, 0, none⟩), .slice p n c] w (RetB w (pder a)) := by
  subst hn
  have HP := hid hp
  have HF := hid hF
  clear hp hF
  by_cases h0 : a.length = 0
  · have he : Hid (pder a = []) := by show _ = _; unfold pder; rw [if_pos (List.eq_nil_of_length_eq_zero h0)]
    rw [h0]
    clear h0
    go_enter Try.func27, Try.ntmps27
    go_wp2_with ((with_reducible refine wpList_unguard ?_ ?_); (focus rfl))
    go_ret
    exact ⟨_, rfl, by rw [he.out]; exact World.ownsRow_nil _ _ _ _, Below.refl _ _⟩
  · have ha0 : ((a.length : Int) == 0) = false := by simpa using h0
    obtain ⟨pa, po, rfl, _⟩ := HP.out 0 (by omega)
    obtain ⟨M, hM⟩ : ∃ M, a.length - 1 = M := ⟨_, rfl⟩
    have hMI : (a.length : Int) - 1 = (M : Int) := by omega
    have hMl : M ≤ c := by omega
    have HM' : Hid (a.length = M + 1) := (show a.length = M + 1 by omega)
    have hct : Hid (cellsB w (some ⟨pa, po, none⟩) (a.take M)) := by
      intro i hi
      rw [List.length_take] at hi
      obtain ⟨a', o', e, hc⟩ := HP.out i (by omega)
      refine ⟨a', o', e, ?_⟩
      rw [hc]
      simp only [List.getD_eq_getElem?_getD, List.getElem?_take]
      rw [if_pos (by omega)]
    have hlt : Hid ((a.take M).length = M) := by show _ = _; rw [List.length_take]; omega
    have he : Hid (pder a = trim (derTo (a.take M) (M + 1) M)) := by
      show _ = _; unfold pder; rw [if_neg (by intro e; rw [e] at h0; exact h0 rfl), hM, HM'.out]
    have HD : Hid (∀ k, derTo (a.take M) (M + 1) (k + 1) = if (M - k) % 2 = 0 then (derTo (a.take M) (M + 1) k).set k 0 else derTo (a.take M) (M + 1) k) := fun k => by
      show derTo _ _ (k + 1) = _
      rw [derTo, show M + 1 - 1 - k = M - k from by omega]
    have HDl : Hid (∀ k, (derTo (a.take M) (M + 1) k).length = M) := fun k => by rw [derTo_length]; exact hlt.out
    have HD0 : Hid (derTo (a.take M) (M + 1) 0 = a.take M) := rfl
    clear h0 hM
    generalize a.take M = t at *
    go_enter Try.func27, Try.ntmps27
    go_wp2_with ((with_reducible refine wpList_unguard ?_ ?_); (focus rfl))
    refine Calls.mono (sl_Clone_some pa po _ _ t w hlt.out.symm hct.out (by rw [hlt.out]; omega)) ?_; rintro e w1 ⟨v, rfl, hO, hB⟩
    have hB' := hid hB
    have hbuf := ownsB.buf hO
    rw [hlt.out] at hbuf
    clear hO hB
    have K1 : Hid (Below w.heap.size w w1) := hB'.out
    rcases hbuf with ⟨rfl, ht⟩ | ⟨g, cap, rfl, hg, hcap, hbf⟩
    · have hM0 : M = 0 := by have := hlt.out; rw [ht] at this; exact this.symm
      subst hM0
      rw [HD0.out] at he
      clear HD HDl HD0
      go_wp2_with ((with_reducible refine wpList_unguard ?_ ?_); (focus rfl))
      go_loop [22] (fun i => i = .int .i64 0) (fun i => (0 : Nat))
      case atStart => rfl
      case round =>
        subst hrel
        go_wp2_with ((with_reducible refine wpList_unguard ?_ ?_); (focus rfl))
        refine Calls.mono (poly_Trim none 0 0 t w1 (by rw [hlt.out]) (Nat.le_refl _) (by rw [ht]; exact cellsB.nil _ _) (by rw [hlt.out]; omega)) ?_; rintro e w5 ⟨v, rfl, hO, hB⟩
        rw [← he.out] at hO
        have HO := hid (World.ownsRow.mono hO K1.out.size)
        have HB' := hid (K1.out.trans (hB.mono K1.out.size))
        clear hO hB
        go_wp2_with ((with_reducible refine wpList_unguard ?_ ?_); (focus rfl))
        go_ret
        exact ⟨v, rfl, HO.out, HB'.out⟩
    · have HM1 := hid hbf
      have HG := hid hg
      clear hbf hg
      go_wp2_with ((with_reducible refine wpList_unguard ?_ ?_); (focus rfl))
      go_loopw [22] (fun i wr => ∃ k : Nat, k ≤ M ∧ i = .int .i64 k ∧ Below w.heap.size w wr ∧ bufB wr g (derTo t (M + 1) k)) (fun i _ => M - (intOf i).toNat)
      case atStart => exact ⟨0, Nat.zero_le _, rfl, K1.out, by rw [HD0.out]; exact HM1.out⟩
      case round =>
        clear HM1
        obtain ⟨k, hk, rfl, hK, hM⟩ := hrel
        have K5 := hid hK
        have HM := hid hM
        clear hK hM
        by_cases hkt : k < M
        · have HS := hid (HD.out k)
          have hL2 := hid (HDl.out k)
          have hMk : (M : Int) - (k : Int) = ((M - k : Nat) : Int) := by omega
          have hcell := HM.out.at k (by rw [hL2.out]; exact hkt)
          have hfr := HM.out.2 k (by rw [hL2.out]; exact hkt)
          generalize hs2 : derTo t (M + 1) (k + 1) = S2 at *
          have HS2 := hid hs2
          clear hs2
          by_cases hpar : (M - k) % 2 = 0
          · have hb : (((M - k : Nat) : Int) % 2 == 0) = true := by
              rw [beq_iff_eq]; omega
            rw [if_pos hpar] at HS
            clear hpar
            generalize M - k = mk at *
            have hbel := hid (K5.out.setCell (p := ⟨g, k, none⟩) HG.out (.int .u8 0))
            have HM7 := hid (HM.out.set k 0 (by rw [hL2.out]; exact hkt))
            rw [← HS.out] at HM7
            go_wp2_with ((with_reducible refine wpList_unguard ?_ ?_); (focus rfl))
            go_roundw
            case rel => exact ⟨k + 1, by omega, by go_num, hbel.out, by rw [HS2.out]; exact HM7.out⟩
            case measure => simp [intOf]; omega
          · have hb : (((M - k : Nat) : Int) % 2 == 0) = false := by
              rw [beq_eq_false_iff_ne]; omega
            rw [if_neg hpar] at HS
            clear hpar
            generalize M - k = mk at *
            rw [← HS.out] at HM
            go_wp2_with ((with_reducible refine wpList_unguard ?_ ?_); (focus rfl))
            go_roundw
            case rel => exact ⟨k + 1, by omega, by go_num, K5.out, by rw [HS2.out]; exact HM.out⟩
            case measure => simp [intOf]; omega
        · obtain rfl : k = M := by omega
          have HL := hid (HDl.out k)
          generalize derTo t (k + 1) k = S at *
          go_wp2_with ((with_reducible refine wpList_unguard ?_ ?_); (focus rfl))
          refine Calls.mono (poly_Trim _ k _ S _ HL.out.symm hcap HM.out.1 (by rw [HL.out]; omega)) ?_; rintro e w5 ⟨v, rfl, hO, hB⟩
          rw [← he.out] at hO
          have HO := hid (World.ownsRow.mono hO K5.out.size)
          have HB' := hid (K5.out.trans (hB.mono K5.out.size))
          clear hO hB
          go_wp2_with ((with_reducible refine wpList_unguard ?_ ?_); (focus rfl))
          go_ret
          exact ⟨v, rfl, HO.out, HB'.out⟩
end Go.Proofs.Ytlipedigmokgbaa
