/-
  The sum of polynomials in the program.
  Conditions: at most 100000 polynomials of at most 100000 bytes.
-/
import Derived.Test.YtlipedigmokgbaaPoly3
import Derived.Deep.Onto
namespace Tri
/-- The bytes of a added, from place j on, the first k. -/
def rowAdd (L : List Nat) (j : Nat) (a : List Nat) : Nat → List Nat
  | 0 => L
  | k + 1 => acc (rowAdd L j a k) (j + k) (a.getD k 0)
def longest (l : List (List Nat)) : Nat := l.foldl (fun n a => max n a.length) 0
def addAll (n : Nat) (l : List (List Nat)) : List Nat := l.foldl (fun L a => rowAdd L (n - a.length) a a.length) (List.replicate n 0)
def padd (l : List (List Nat)) : List Nat := trim (addAll (longest l) l)
theorem longest_snoc (l : List (List Nat)) (a : List Nat) : longest (l ++ [a]) = max (longest l) a.length := by simp [longest]
theorem longest_foldl (l : List (List Nat)) : ∀ n : Nat, n ≤ l.foldl (fun n a => max n a.length) n ∧ ∀ a ∈ l, a.length ≤ l.foldl (fun n a => max n a.length) n := by
  induction l with
  | nil => intro n; exact ⟨Nat.le_refl _, by simp⟩
  | cons b l ih =>
    intro n
    simp only [List.foldl_cons]
    obtain ⟨h1, h2⟩ := ih (max n b.length)
    refine ⟨by omega, fun a ha => ?_⟩
    rcases List.mem_cons.1 ha with rfl | h
    · omega
    · exact h2 a h
theorem longest_ge (l : List (List Nat)) (a : List Nat) (h : a ∈ l) : a.length ≤ longest l := (longest_foldl l 0).2 a h
theorem longest_le (l : List (List Nat)) (m : Nat) (h : ∀ a ∈ l, a.length ≤ m) : longest l ≤ m := by
  unfold longest
  have key : ∀ (l : List (List Nat)) (n : Nat), n ≤ m → (∀ a ∈ l, a.length ≤ m) → l.foldl (fun n a => max n a.length) n ≤ m := by
    intro l
    induction l with
    | nil => intro n hn _; exact hn
    | cons b l ih => intro n hn h; rw [List.foldl_cons]; exact ih _ (by have := h b (by simp); show max n b.length ≤ m; omega) (fun a ha => h a (by simp [ha]))
  exact key l 0 (Nat.zero_le _) h
theorem rowAdd_length (L : List Nat) (j : Nat) (a : List Nat) (k : Nat) : (rowAdd L j a k).length = L.length := by
  induction k with
  | zero => rfl
  | succ k ih => rw [rowAdd, acc_length, ih]
theorem rowAdd_bytes {L : List Nat} (h : bytesL L) (j : Nat) {a : List Nat} (ha : bytesL a) (k : Nat) : bytesL (rowAdd L j a k) := by
  induction k with
  | zero => exact h
  | succ k ih =>
    refine acc_bytes ih ?_
    by_cases hk : k < a.length
    · exact ha _ (by rw [List.getD_eq_getElem?_getD, List.getElem?_eq_getElem hk]; exact List.getElem_mem hk)
    · rw [List.getD_eq_getElem?_getD, List.getElem?_eq_none (by omega)]; simp
theorem addAll_snoc (n : Nat) (l : List (List Nat)) (a : List Nat) : addAll n (l ++ [a]) = rowAdd (addAll n l) (n - a.length) a a.length := by simp [addAll]
theorem addAll_take (n : Nat) (l : List (List Nat)) (hb : ∀ a ∈ l, bytesL a) (k : Nat) (hk : k ≤ l.length) : (addAll n (l.take k)).length = n ∧ bytesL (addAll n (l.take k)) := by
  induction k with
  | zero => exact ⟨by simp [addAll], by intro y hy; simp [addAll] at hy; omega⟩
  | succ k ih =>
    obtain ⟨h1, h2⟩ := ih (by omega)
    have hm : l.getD k [] ∈ l := by rw [List.getD_eq_getElem?_getD, List.getElem?_eq_getElem (by omega)]; exact List.getElem_mem _
    rw [take_snocR l k (by omega), addAll_snoc]
    exact ⟨by rw [rowAdd_length, h1], rowAdd_bytes h2 _ (hb _ hm) _⟩
end Tri
namespace Go.Proofs.Ytlipedigmokgbaa
open Go.RowKit Tri

set_option maxHeartbeats 2000000 in
set_option maxRecDepth 100000 in
theorem poly_Add (f : Nat) (p : Option Addr) (n c : Nat) (l : List (List Nat)) (w : World) (hF : isF w f) (hn : n = l.length) (hp : cellsR w p l) (hb : ∀ a ∈ l, bytesL a) (hl : l.length ≤ 100000) (hz : ∀ a ∈ l, a.length ≤ 100000) :
    Calls Try.prog 23 #[.pointer (some ⟨f, 0, none⟩), .slice p n c] w (RetB w (padd l)) := by
  subst hn
  have HP := hid hp
  have HB := hid hb
  have HZ := hid hz
  have HF := hid hF
  clear hp hb hz hF
  have hmem : ∀ k, k < l.length → l.getD k [] ∈ l := fun k hk => by rw [List.getD_eq_getElem?_getD, List.getElem?_eq_getElem hk]; exact List.getElem_mem _
  have HMem := hid hmem
  clear hmem
  have hnl : longest l ≤ 100000 := longest_le l _ HZ.out
  go_enter Try.func23, Try.ntmps23
  go_wp2_with ((with_reducible refine wpList_unguard ?_ ?_); (focus rfl))
  go_loop [5, 18] (fun s i => ∃ k : Nat, k ≤ l.length ∧ i = .int .i64 k ∧ s = .int .i64 (longest (l.take k) : Nat)) (fun _ i => l.length - (intOf i).toNat)
  case atStart => exact ⟨0, Nat.zero_le _, rfl, rfl⟩
  case round =>
    obtain ⟨k, hk, rfl, rfl⟩ := hrel
    by_cases hlt : k < l.length
    · obtain ⟨a, o, q', c', rfl, hc, _, _⟩ := HP.out k hlt
      have HS : Hid (longest (l.take (k + 1)) = max (longest (l.take k)) (l.getD k []).length) := by show _ = _; rw [take_snocR l k hlt, longest_snoc]
      have hlen := HZ.out _ (HMem.out k hlt)
      have hlk : longest (l.take k) ≤ 100000 := longest_le _ _ fun a ha => HZ.out a (List.mem_of_mem_take ha)
      generalize l.getD k [] = y at *
      generalize longest (l.take k) = m at *
      go_wp2_with ((with_reducible refine wpList_unguard ?_ ?_); (focus rfl))
      refine ⟨⟨k + 1, by omega, by go_num, ?_⟩, by simp [intOf]; omega⟩
      rw [HS.out]
      congr 1
      split <;> omega
    · have hlo : Hid (longest (l.take k) = longest l) := by show _ = _; rw [List.take_of_length_le (by omega)]
      rw [hlo.out]
      have hmk := run_make_row' (P := Try.prog) 28 5 (.int .u8 0) 1 Try.underlying28 Try.infoB rfl .i64 .i64 (longest l) (by omega) (by omega)
      have HM := hid (bufB.made w (longest l) 5)
      have K2 : Hid (Keeps w f w) := ⟨Below.refl _ _, HF.out⟩
      have K3 := hid (K2.out.alloc (.cells (madeCells #[.int .u8 0] (longest l)) 5))
      have hge : Hid (∀ k, k < l.length → (l.getD k []).length ≤ longest l) := fun k hk => longest_ge l _ (HMem.out k hk)
      have HA : Hid (∀ k, k ≤ l.length → (addAll (longest l) (l.take k)).length = longest l ∧ bytesL (addAll (longest l) (l.take k))) := addAll_take _ l HB.out
      have HA0 : Hid (addAll (longest l) (l.take 0) = List.replicate (longest l) 0) := rfl
      have HAS : Hid (∀ k, k < l.length → addAll (longest l) (l.take (k + 1)) = rowAdd (addAll (longest l) (l.take k)) (longest l - (l.getD k []).length) (l.getD k []) (l.getD k []).length) := fun k hk => by rw [take_snocR l k hk, addAll_snoc]
      have HP' : Hid (padd l = trim (addAll (longest l) l)) := rfl
      clear hlo
      generalize longest l = N at *
      go_wp2_with ((with_reducible refine wpList_unguard ?_ ?_); (focus rfl))
      generalize w.alloc (.cells (madeCells #[.int .u8 0] N) 5) = w3 at *
      obtain ⟨ob, hob⟩ : ∃ ob, w.heap.size = ob := ⟨_, rfl⟩
      have HOB := hid hob
      rw [hob] at HM ⊢
      clear hmk hob
      go_loopw [31] (fun i wr => ∃ k : Nat, k ≤ l.length ∧ i = .int .i64 k ∧ Keeps w f wr ∧ bufB wr ob (addAll N (l.take k))) (fun i _ => l.length - (intOf i).toNat)
      case atStart => exact ⟨0, Nat.zero_le _, rfl, K3.out, by rw [HA0.out]; exact HM.out⟩
      case round =>
        clear K3 HM HA0
        obtain ⟨i, hi, rfl, hK, hM⟩ := hrel
        have K4 := hid hK
        have HM := hid hM
        clear hK hM
        by_cases hlt : i < l.length
        · obtain ⟨a, o, q', c', rfl, hc0, _, hq'⟩ := HP.out i hlt
          have hc : wr.cell? ⟨a, o + i, none⟩ = some (.slice q' (l.getD i []).length c') := by
            rw [K4.out.1.cell (p := ⟨a, o + i, none⟩) (block_lt_of_cell hc0)]; exact hc0
          have hyl := hge.out i hlt
          have hyb : Hid (bytesL (l.getD i [])) := HB.out _ (HMem.out i hlt)
          have HCS := hid (HAS.out i hlt)
          have hL1 : Hid ((addAll N (l.take i)).length = N) := (HA.out i (by omega)).1
          have hB1 : Hid (bytesL (addAll N (l.take i))) := (HA.out i (by omega)).2
          have HQ := hid hq'
          clear hc0 hq'
          generalize hs1 : addAll N (l.take (i + 1)) = S1 at *
          have HS1 := hid hs1
          clear hs1
          generalize l.getD i [] = y at *
          generalize addAll N (l.take i) = L1 at *
          go_wp2_with ((with_reducible refine wpList_unguard ?_ ?_); (focus rfl))
          go_loopw [37] (fun i' wr => ∃ k : Nat, k ≤ y.length ∧ i' = .int .i64 k ∧ Keeps w f wr ∧ bufB wr ob (rowAdd L1 (N - y.length) y k)) (fun i' _ => y.length - (intOf i').toNat)
          case atStart => exact ⟨0, Nat.zero_le _, rfl, K4.out, HM.out⟩
          case round =>
            clear HM
            obtain ⟨k, hk, rfl, hK, hM⟩ := hrel
            have K5 := hid hK
            have HM := hid hM
            clear hK hM
            by_cases hkt : k < y.length
            · obtain ⟨b', q'', rfl, hc0⟩ := HQ.out k hkt
              have hcb : wr.cell? ⟨b', q'' + k, none⟩ = some (.int .u8 (y.getD k 0 : Nat)) := by
                rw [K5.out.1.cell (p := ⟨b', q'' + k, none⟩) (block_lt_of_cell hc0)]; exact hc0
              have hy : y.getD k 0 < 256 := hyb.out _ (getD_mem y k hkt)
              have HCS2 : Hid (rowAdd L1 (N - y.length) y (k + 1) = (rowAdd L1 (N - y.length) y k).set (N - y.length + k) ((rowAdd L1 (N - y.length) y k).getD (N - y.length + k) 0 ^^^ y.getD k 0)) := rfl
              have hL2 : Hid ((rowAdd L1 (N - y.length) y k).length = N) := by show _ = _; rw [rowAdd_length]; exact hL1.out
              have hB2 := hid (rowAdd_bytes hB1.out (N - y.length) hyb.out k)
              clear hc0
              generalize hs2 : rowAdd L1 (N - y.length) y (k + 1) = S2 at *
              have HS2 := hid hs2
              clear hs2
              generalize y.getD k 0 = x at *
              generalize rowAdd L1 (N - y.length) y k = L at *
              obtain ⟨j, hj⟩ : ∃ j, N - y.length + k = j := ⟨_, rfl⟩
              have hjN : j < N := by omega
              have hjI : (N : Int) - (y.length : Int) + (k : Int) = (j : Int) := by omega
              rw [hj] at HCS2
              clear hj
              have ho : L.getD j 0 < 256 := hB2.out _ (getD_mem L _ (by rw [hL2.out]; exact hjN))
              have hcell := HM.out.at j (by rw [hL2.out]; exact hjN)
              have hfr := HM.out.2 j (by rw [hL2.out]; exact hjN)
              generalize L.getD j 0 = o at *
              go_wp2_with ((with_reducible refine wpList_unguard ?_ ?_); (focus rfl))
              refine Calls.mono (gf_Add f _ _ _ [o, x] _ rfl (cellsB.new wr [o, x] _ 5 rfl) (by simp [ho, hy]) (by simp)) ?_
              rintro e w4 ⟨rfl, rfl⟩
              rw [gsum_two o x]
              have K6 := hid (K5.out.alloc (.cells #[.int .u8 (o : Nat), .int .u8 (x : Nat)] 5))
              have HM6 := hid (HM.out.alloc #[.int .u8 (o : Nat), .int .u8 (x : Nat)] 5)
              have hcell := HM6.out.at j (by rw [hL2.out]; exact hjN)
              have hfr := HM6.out.2 j (by rw [hL2.out]; exact hjN)
              clear HM K5
              generalize wr.alloc (.cells #[.int .u8 (o : Nat), .int .u8 (x : Nat)] 5) = w6 at *
              have hbel : Below w.heap.size w (w6.setCell ⟨ob, j, none⟩ (.int .u8 (o ^^^ x : Nat))) := K6.out.1.setCell (by show w.heap.size ≤ ob; rw [HOB.out]; exact Nat.le_refl _) _
              have K7 : Hid (Keeps w f (w6.setCell ⟨ob, j, none⟩ (.int .u8 (o ^^^ x : Nat)))) := ⟨hbel, HF.out.below hbel HF.out.lt⟩
              have HM7 := hid (HM6.out.set j (o ^^^ x) (by rw [hL2.out]; exact hjN))
              rw [← HCS2.out] at HM7
              clear hbel K6 HM6
              generalize (o ^^^ x) = v at *
              go_wp2_with ((with_reducible refine wpList_unguard ?_ ?_); (focus rfl))
              generalize w6.setCell ⟨ob, j, none⟩ (.int .u8 (v : Nat)) = w7 at *
              go_roundw
              case rel => exact ⟨k + 1, by omega, by go_num, K7.out, by rw [HS2.out]; exact HM7.out⟩
              case measure => simp [intOf]; omega
            · obtain rfl : k = y.length := by omega
              rw [← HCS.out] at HM
              go_wp2_with ((with_reducible refine wpList_unguard ?_ ?_); (focus rfl))
              go_roundw
              case rel => exact ⟨i + 1, by omega, by go_num, K5.out, by rw [HS1.out]; exact HM.out⟩
              case measure => simp [intOf]; omega
        · obtain rfl : i = l.length := by omega
          have hA := HA.out l.length (Nat.le_refl _)
          rw [List.take_length] at HM hA
          have hAN := hA.1
          clear hA
          have HL := hid hAN
          clear hAN
          generalize addAll N l = S at *
          go_wp2_with ((with_reducible refine wpList_unguard ?_ ?_); (focus rfl))
          refine Calls.mono (poly_Trim _ N _ S _ HL.out.symm (Nat.le_refl _) HM.out.1 (by rw [HL.out]; omega)) ?_; rintro e w5 ⟨v, rfl, hO, hB⟩
          rw [← HP'.out] at hO
          have HO := hid (World.ownsRow.mono hO K4.out.1.size)
          have HB' := hid (K4.out.1.trans (hB.mono K4.out.1.size))
          clear hO hB
          go_wp2_with ((with_reducible refine wpList_unguard ?_ ?_); (focus rfl))
          go_ret
          exact ⟨v, rfl, HO.out, HB'.out⟩
end Go.Proofs.Ytlipedigmokgbaa
