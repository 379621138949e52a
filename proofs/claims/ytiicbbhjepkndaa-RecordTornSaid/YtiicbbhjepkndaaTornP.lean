/-
  Plain: what is left of a record's page that was programmed on a blank one and torn is that page, or none's.
-/
import Derived.Test.YtiicbbhjepkndaaUnlQ
import Derived.Test.YtiicbbhjepkndaaDevK
import Derived.Test.YtiicbbhjepkndaaDev4
namespace Tri
open Go Go.RowKit
/-- A page that was begun on a blank one: so many bytes are done, and one by the mask. -/
def tornL (P : List Nat) (d m : Nat) : List Nat := P.mapIdx fun j x => if j < d then x else if j = d then x ||| m else 255
theorem tornL_len (P : List Nat) (d m : Nat) : (tornL P d m).length = P.length := by unfold tornL; rw [List.length_mapIdx]
theorem tornL_at (P : List Nat) (d m j : Nat) (hj : j < P.length) : (tornL P d m)[j]? = some (if j < d then P.getD j 0 else if j = d then P.getD j 0 ||| m else 255) := by
  unfold tornL
  rw [List.getElem?_mapIdx, List.getElem?_eq_getElem hj, List.getD_eq_getElem?_getD, List.getElem?_eq_getElem hj]
  rfl
theorem and255 {x : Nat} (h : x < 256) : 255 &&& x = x := by
  rw [Nat.and_comm]
  exact (Nat.and_two_pow_sub_one_eq_mod x 8).trans (Nat.mod_eq_of_lt h)
/-- What is read of a page that was torn. -/
theorem torn_read (s : FS) (n c : Nat) (P : List Nat) (hb : s.b.length = 64 * n) (hc : c < 64 * n) (hc16 : c % 16 = 0) (hP : P.length = 16) (hPb : ∀ x ∈ P, x < 256) (hm : s.m < 256) (hl : s.lf = 0) (hd : s.dn = false) (hk : s.lkd ((c : Int) / 64) = false)
    (hbl : ∀ j, j < 16 → s.b.getD (c + j) 0 = 255) : (((s.prog n c P).b.drop c).take 16) = tornL P (s.done 16) s.m := by
  have hq : s.prog n c P = { partS s with b := s.wroteB (fun j x => x &&& P.getD j 0) (fun j x => x &&& (P.getD j 0 ||| s.m)) c 16 } := by
    unfold FS.prog
    rw [if_pos ⟨hd, ⟨by omega, hP⟩, ⟨by omega, by omega⟩, hk⟩, Int.toNat_natCast]
  have hlen := wroteB_length s (fun j x => x &&& P.getD j 0) (fun j x => x &&& (P.getD j 0 ||| s.m)) c 16
  rw [hq]
  show ((s.wroteB (fun j x => x &&& P.getD j 0) (fun j x => x &&& (P.getD j 0 ||| s.m)) c 16).drop c).take 16 = _
  apply List.ext_getElem?
  intro j
  by_cases hj : j < 16
  · rw [List.getElem?_take, if_pos hj, List.getElem?_drop, tornL_at _ _ _ _ (by omega)]
    have h1 := wroteB_at s (fun j x => x &&& P.getD j 0) (fun j x => x &&& (P.getD j 0 ||| s.m)) c 16 (c + j) (by omega)
    rw [hbl j hj, Nat.add_sub_cancel_left] at h1
    have hPj : P.getD j 0 < 256 := by
      rw [List.getD_eq_getElem?_getD, List.getElem?_eq_getElem (by omega)]
      exact hPb _ (List.getElem_mem _)
    rw [List.getD_eq_getElem?_getD, List.getElem?_eq_getElem (by omega)] at h1
    rw [List.getElem?_eq_getElem (by omega)]
    simp only [Option.getD_some] at h1
    rw [h1]
    congr 1
    by_cases h2 : j < s.done 16
    · rw [if_pos (by omega), if_pos h2, and255 hPj]
    · rw [if_neg (by omega), if_neg h2]
      by_cases h3 : j = s.done 16
      · rw [if_pos ⟨hl, by omega, by omega⟩, if_pos h3, and255 (or_lt hPj hm)]
      · rw [if_neg (by omega), if_neg h3]
  · rw [List.getElem?_take, if_neg hj, List.getElem?_eq_none (by rw [tornL_len]; omega)]
end Tri
namespace Go.Proofs.Ytiicbbhjepkndaa
open Go.RowKit Tri

theorem recP_len (k s n v : Nat) : (recP k s n v).length = 16 := by unfold recP; rw [List.length_append, recL_len, putB_length]
theorem recP_lt (k s n v : Nat) : ∀ y ∈ recP k s n v, y < 256 := by
  intro y hy
  unfold recP at hy
  rcases List.mem_append.1 hy with h | h
  · exact recL_lt k s n v y h
  · exact putB_lt 4 _ y h
theorem recP_take (k s n v : Nat) : (recP k s n v).take 12 = recL k s n v := by
  unfold recP
  rw [List.take_append_of_le_length (by rw [recL_len]; omega), List.take_of_length_le (by rw [recL_len]; omega)]
theorem recP_drop (k s n v : Nat) : (recP k s n v).drop 12 = putB 4 (recSum (recL k s n v)) := by
  unfold recP
  rw [List.drop_append_of_le_length (by rw [recL_len]; omega), List.drop_of_length_le (by rw [recL_len]; omega), List.nil_append]
theorem putB4_full {x : Nat} (hx : x ≤ 4294967294) : putB 4 x ≠ [255, 255, 255, 255] := by
  intro h
  have h1 : putB 4 x = [x / 16777216 % 256, x / 65536 % 256, x / 256 % 256, x % 256] := by simp [putB, List.range_succ]
  rw [h1] at h
  simp only [List.cons.injEq, and_true] at h
  omega
/-- THE PLAIN LAW. -/
theorem torn_none (k s n v d m : Nat) (hd : d ≤ 16) (hne : tornL (recP k s n v) d m ≠ recP k s n v) : getOk (tornL (recP k s n v) d m) = false := by
  cases hg : getOk (tornL (recP k s n v) d m) with
  | false => rfl
  | true =>
    exfalso
    unfold getOk at hg
    rw [Bool.and_eq_true] at hg
    have he := of_decide_eq_true hg.2
    obtain ⟨k', s', n', v', hx⟩ : ∃ k' s' n' v', recP k' s' n' v' = tornL (recP k s n v) d m := ⟨_, _, _, _, he⟩
    clear hg he
    have hl := recP_len k s n v
    rcases Nat.lt_or_ge d 12 with h12 | h12
    · have h1 : (tornL (recP k s n v) d m).drop 12 = [255, 255, 255, 255] := by
        have ha : ∀ j, 12 ≤ j → j < 16 → (tornL (recP k s n v) d m)[j]? = some 255 := by
          intro j h1 h2
          rw [tornL_at _ _ _ _ (by omega), if_neg (by omega), if_neg (by omega)]
        apply List.ext_getElem?
        intro j
        rw [List.getElem?_drop]
        match j with
        | 0 => exact ha 12 (by omega) (by omega)
        | 1 => exact ha 13 (by omega) (by omega)
        | 2 => exact ha 14 (by omega) (by omega)
        | 3 => exact ha 15 (by omega) (by omega)
        | j + 4 => rw [List.getElem?_eq_none (by rw [tornL_len]; omega)]; rfl
      rw [← hx, recP_drop] at h1
      exact putB4_full (by unfold recSum; omega) h1
    · have h1 : (tornL (recP k s n v) d m).take 12 = (recP k s n v).take 12 := by
        apply List.ext_getElem?
        intro j
        rw [List.getElem?_take, List.getElem?_take]
        by_cases hj : j < 12
        · rw [if_pos hj, if_pos hj, tornL_at _ _ _ _ (by omega), if_pos (by omega), List.getD_eq_getElem?_getD, List.getElem?_eq_getElem (by omega)]
          rfl
        · rw [if_neg hj, if_neg hj]
      rw [← hx, recP_take, recP_take] at h1
      apply hne
      rw [← hx]
      unfold recP
      rw [h1]
end Go.Proofs.Ytiicbbhjepkndaa
