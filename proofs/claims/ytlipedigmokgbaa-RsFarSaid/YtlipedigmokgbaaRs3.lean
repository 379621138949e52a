/-
  slices.Concat of rows that are not empty; parity, and data with parity, in the program.
-/
import Derived.Test.YtlipedigmokgbaaRs2
import Derived.Test.YtlipedigmokgbaaDivP
import Derived.Test.YtlipedigmokgbaaShift2
namespace Tri
theorem lens_flatten (l : List (List Nat)) : l.flatten.length = lens l := by
  unfold lens; rw [List.length_flatten]
theorem flatten_snoc (l : List (List Nat)) (a : List Nat) : (l ++ [a]).flatten = l.flatten ++ a := by simp
/-- The rest that makes the parity. -/
def parR (data : List Nat) (p : Nat) : List Nat := (pdivmod (pshift data p) (rgen p)).2
def par (data : List Nat) (p : Nat) : List Nat := List.replicate (p - (parR data p).length) 0 ++ parR data p
def enc (data : List Nat) (p : Nat) : List Nat := data ++ par data p
theorem pshift_b {l : List Nat} (h : bytesL l) (k : Int) : bytesL (pshift l k) := by
  unfold pshift
  split
  · intro x hx; simp at hx
  · intro x hx
    rcases List.mem_append.1 hx with h1 | h1
    · exact trim_bytes h x h1
    · exact bytesL.zeros _ x h1
theorem pshift_l (l : List Nat) (k : Int) : (pshift l k).length ≤ l.length + 1000 := by
  have := trim_length_le l
  have := shiftN_le k
  unfold pshift
  split
  · simp
  · rw [List.length_append, List.length_replicate]; omega
theorem par_is {data : List Nat} (h : bytesL data) (p : Nat) : IsDiv (pshift data p) (rgen p) (pdivmod (pshift data p) (rgen p)).1 (parR data p) := by
  obtain ⟨h1, h2, h3⟩ := rgen_is p
  exact pdivmod_is (pshift_b h _) h1 (fun e => by rw [h2] at e; rw [e] at h3; simp at h3)
theorem parR_length {data : List Nat} (h : bytesL data) (p : Nat) : (parR data p).length ≤ p := by
  have h1 := (par_is h p).deg
  obtain ⟨_, h2, h3⟩ := rgen_is p
  rw [h2, h3] at h1
  omega
theorem par_length {data : List Nat} (h : bytesL data) (p : Nat) : (par data p).length = p := by
  have := parR_length h p
  unfold par
  rw [List.length_append, List.length_replicate]
  omega
theorem par_bytes {data : List Nat} (h : bytesL data) (p : Nat) : bytesL (par data p) := by
  intro x hx
  rcases List.mem_append.1 hx with h1 | h1
  · exact bytesL.zeros _ x h1
  · exact (par_is h p).rb x h1
theorem enc_length {data : List Nat} (h : bytesL data) (p : Nat) : (enc data p).length = data.length + p := by unfold enc; rw [List.length_append, par_length h]
theorem enc_bytes {data : List Nat} (h : bytesL data) (p : Nat) : bytesL (enc data p) := by
  intro x hx
  rcases List.mem_append.1 hx with h1 | h1
  · exact h x h1
  · exact par_bytes h p x h1
end Tri
namespace Go.Proofs.Ytlipedigmokgbaa
open Go.RowKit Tri

set_option maxHeartbeats 1000000 in
set_option maxRecDepth 100000 in
theorem sl_Concat (p : Option Addr) (n c : Nat) (l : List (List Nat)) (w : World) (hn : n = l.length) (hp : cellsR w p l) (hne : ∀ a ∈ l, a ≠ []) (hz : lens l ≤ 100000) (hl : l.length ≤ 100000) :
    Calls Try.prog 65 #[.slice p n c] w (RetB w l.flatten) := by
  subst hn
  have HP := hid hp
  have HN := hid hne
  have hmem : Hid (∀ k, k < l.length → l.getD k [] ∈ l) := fun k hk => by rw [List.getD_eq_getElem?_getD, List.getElem?_eq_getElem hk]; exact List.getElem_mem _
  have HLS : Hid (∀ k, k < l.length → lens (l.take (k + 1)) = lens (l.take k) + (l.getD k []).length) := fun k hk => by rw [take_snocR l k hk, lens_snoc]
  have HLT : Hid (∀ k, lens (l.take k) ≤ lens l) := lens_take_le l
  have HFS : Hid (∀ k, k < l.length → (l.take (k + 1)).flatten = (l.take k).flatten ++ l.getD k []) := fun k hk => by rw [take_snocR l k hk, flatten_snoc]
  have HFL : Hid (∀ k, (l.take k).flatten.length ≤ 100000) := fun k => by have h1 := lens_flatten (l.take k); have h2 := lens_take_le l k; omega
  clear hp hne
  (go_enter Try.func65, Try.ntmps65; try simp only [List.append])
  go_wp2_with ((with_reducible refine wpList_unguard ?_ ?_); (focus rfl))
  go_loop [3, 11] (fun s i => ∃ k : Nat, k ≤ l.length ∧ i = .int .i64 k ∧ s = .int .i64 (lens (l.take k) : Nat)) (fun _ i => l.length - (intOf i).toNat)
  case atStart => exact ⟨0, Nat.zero_le _, rfl, rfl⟩
  case round =>
    obtain ⟨k, hk, rfl, rfl⟩ := hrel
    by_cases hlt : k < l.length
    · obtain ⟨a, o, q', c', rfl, hc, _, _⟩ := HP.out k hlt
      have HS := hid (HLS.out k hlt)
      have h1 := HLT.out (k + 1)
      rw [HS.out] at h1
      generalize hs2 : lens (l.take (k + 1)) = s2 at *
      have HS2 := hid hs2
      clear hs2
      generalize l.getD k [] = y at *
      generalize lens (l.take k) = s1 at *
      have hw : IntKind.i64.wrap ((s1 : Int) + (y.length : Int)) = ((s1 + y.length : Nat) : Int) := by rw [IntKind.wrap_i64]; omega
      obtain ⟨t, ht⟩ : ∃ t, s1 + y.length = t := ⟨_, rfl⟩
      rw [ht] at hw h1
      have HT := hid ht
      clear ht
      go_wp2_with ((with_reducible refine wpList_unguard ?_ ?_); (focus rfl))
      go_round
      case rel => exact ⟨k + 1, by omega, by go_num, by rw [HS2.out, HS.out, HT.out]⟩
      case measure => simp [intOf]; omega
    · have hT : Hid (l.take k = l) := by show _ = _; exact List.take_of_length_le (by omega)
      rw [hT.out]
      generalize lens l = Z at *
      go_wp2_with ((with_reducible refine wpList_unguard ?_ ?_); (focus rfl))
      refine Calls.mono (sl_Grow Z w (by omega)) ?_
      rintro e w1 ⟨v, rfl, hO, hB⟩
      have HO1 := hid hO
      have HB1 := hid hB
      clear hO hB hT
      go_wp2_with ((with_reducible refine wpList_unguard ?_ ?_); (focus rfl))
      go_loopw [6, 27] (fun s i wr => ∃ k : Nat, k ≤ l.length ∧ i = .int .i64 k ∧ ownsB wr w.heap.size s (l.take k).flatten ∧ Below w.heap.size w wr) (fun _ i _ => l.length - (intOf i).toNat)
      case atStart => exact ⟨0, Nat.zero_le _, rfl, HO1.out, HB1.out⟩
      case round =>
        clear HO1 HB1
        obtain ⟨k, hk, rfl, hO, hB⟩ := hrel
        have HO := hid hO
        have HB := hid hB
        clear hO hB
        by_cases hlt : k < l.length
        · obtain ⟨a, o, q', c', rfl, hc0, hcc, hq'⟩ := HP.out k hlt
          have hc : wr.cell? ⟨a, o + k, none⟩ = some (.slice q' (l.getD k []).length c') := by
            rw [HB.out.cell (p := ⟨a, o + k, none⟩) (block_lt_of_cell hc0)]; exact hc0
          have HQ' := hid (hq'.below HB.out)
          have HYN := hid (HN.out _ (hmem.out k hlt))
          have hyl : (l.getD k []).length ≤ 1000000 := by
            have h1 := HLS.out k hlt
            have h2 := HLT.out (k + 1)
            omega
          have HF := hid (HFS.out k hlt)
          have hfl : (l.take k).flatten.length ≤ 1000000 := by have := HFL.out k; omega
          clear hc0 hq'
          generalize hf2 : (l.take (k + 1)).flatten = F2 at *
          have HF2 := hid hf2
          clear hf2
          generalize l.getD k [] = y at *
          generalize (l.take k).flatten = F at *
          go_wp2_with (at_builtin; refine wpList_pushB rfl _ _ rfl w.heap.size _ F y q' c' HO.out HQ'.out HYN.out rfl _ rfl rfl hfl hyl HB.out.size ?_)
          intro v' w' hown' hbel
          have hO' : Hid (ownsB w' w.heap.size v' F2) := by show ownsB _ _ _ _; rw [HF.out]; exact hown'
          have hB' := hid (HB.out.trans hbel)
          clear hown' hbel
          go_wp2_with ((with_reducible refine wpList_unguard ?_ ?_); (focus rfl))
          go_roundw
          case rel => exact ⟨k + 1, by omega, by go_num, by rw [HF2.out]; exact hO'.out, hB'.out⟩
          case measure => simp [intOf]; omega
        · have hT : Hid (l.take k = l) := by show _ = _; exact List.take_of_length_le (by omega)
          rw [hT.out] at HO
          generalize l.flatten = F at *
          go_wp2_with ((with_reducible refine wpList_unguard ?_ ?_); (focus rfl))
          go_ret
          exact ⟨_, rfl, HO.out, HB.out⟩
end Go.Proofs.Ytlipedigmokgbaa
