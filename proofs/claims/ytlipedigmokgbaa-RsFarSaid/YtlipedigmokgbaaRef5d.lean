/-
  The document's polynomials (the reference): values and derivatives.
-/
import Derived.Test.YtlipedigmokgbaaRef5b
import Derived.Test.YtlipedigmokgbaaRefM
import Derived.Test.YtlipedigmokgbaaPolyV
namespace Tri
/-- A sum over the numbers below n. -/
def XS (f : Nat → Nat) : Nat → Nat
  | 0 => 0
  | k + 1 => XS f k ^^^ f k
theorem XS_lt (f : Nat → Nat) (h : ∀ i, f i < 256) (n : Nat) : XS f n < 256 := by
  induction n with
  | zero => exact (by decide : (0 : Nat) < 256)
  | succ n ih => exact xor_lt ih (h n)
def reval (l : List Nat) (x : Nat) : Nat := XS (fun i => gmul (l.getD i 0) (gp x i)) l.length
def rderL (l : List Nat) : List Nat := (List.range (l.length - 1)).map fun i => if (i + 1) % 2 = 1 then l.getD (i + 1) 0 else 0
def rder (l : List Nat) : List Nat := cutR (rderL l)
theorem rderL_length (l : List Nat) : (rderL l).length = l.length - 1 := by unfold rderL; simp
theorem rderL_take (l : List Nat) (k : Nat) (h : k < l.length - 1) : (rderL l).take (k + 1) = (rderL l).take k ++ [if (k + 1) % 2 = 1 then l.getD (k + 1) 0 else 0] := by
  rw [List.take_succ_eq_append_getElem (by rw [rderL_length]; exact h)]
  congr 2
  unfold rderL
  simp
theorem rder_bytes {l : List Nat} (h : bytesL l) : bytesL (rder l) := by
  refine cutR_bytes ?_
  intro x hx
  unfold rderL at hx
  obtain ⟨i, _, rfl⟩ := List.mem_map.1 hx
  split
  · exact bytesL_getD h _
  · decide
theorem rder_length (l : List Nat) : (rder l).length ≤ l.length := by
  have := cutR_length_le (rderL l)
  rw [rderL_length] at this
  unfold rder; omega
end Tri
namespace Go.Proofs.Ytlipedigmokgbaa
open Go.RowKit Tri

set_option maxHeartbeats 1000000 in
theorem ref5_Eval (p : Option Addr) (n c : Nat) (l : List Nat) (x : Nat) (w : World) (hn : n = l.length) (hp : cellsI w p l) (hb : bytesL l) (hx : x < 256) (hl : l.length ≤ 100000) :
    Calls Try.prog 30 #[.slice p n c, .int .i64 x] w fun e w' => e = .returned (.int .i64 (reval l x : Nat)) ∧ w = w' := by
  subst hn
  have HP := hid hp
  have HB := hid hb
  clear hp hb
  have HR : Hid (reval l x = XS (fun i => gmul (l.getD i 0) (gp x i)) l.length) := rfl
  have HXL : Hid (∀ k, XS (fun i => gmul (l.getD i 0) (gp x i)) k < 256) := fun k => XS_lt _ (fun i => gmul_lt _ _) k
  have HXS : Hid (∀ k, XS (fun i => gmul (l.getD i 0) (gp x i)) (k + 1) = XS (fun i => gmul (l.getD i 0) (gp x i)) k ^^^ gmul (l.getD k 0) (gp x k)) := fun k => rfl
  have HF0 : Hid (XS (fun i => gmul (l.getD i 0) (gp x i)) 0 = 0) := rfl
  generalize XS (fun i => gmul (l.getD i 0) (gp x i)) = F at *
  generalize reval l x = R at *
  go_enter Try.func30, Try.ntmps30
  go_wp2_with ((with_reducible refine wpList_unguard ?_ ?_); (focus rfl))
  go_loop [5, 6, 7] (fun s p i => ∃ k : Nat, k ≤ l.length ∧ i = .int .i64 k ∧ s = .int .i64 (F k : Nat) ∧ p = .int .i64 (gp x k : Nat)) (fun _ _ i => l.length - (intOf i).toNat)
  case atStart => exact ⟨0, Nat.zero_le _, rfl, by rw [HF0.out]; rfl, rfl⟩
  case round =>
    obtain ⟨k, hk, rfl, rfl, rfl⟩ := hrel
    by_cases hlt : k < l.length
    · obtain ⟨a, o, rfl, hc⟩ := HP.out k hlt
      have hy : l.getD k 0 < 256 := HB.out _ (getD_mem l k hlt)
      have hg := gp_lt x k
      have HG : Hid (gp x (k + 1) = gmul (gp x k) x) := rfl
      have HF := hid (HXS.out k)
      have hf := HXL.out k
      generalize l.getD k 0 = y at *
      generalize gp x k = g at *
      generalize F k = s at *
      have hm := gmul_lt y g
      have hxor := i64_xor_nat s (gmul y g) (by omega) (by omega)
      go_wp2_with ((with_reducible refine wpList_unguard ?_ ?_); (focus rfl))
      refine Calls.mono (ref_Mul y g hy hg _) ?_; rintro e w' ⟨rfl, rfl⟩
      generalize gmul y g = yg at *
      go_wp2_with ((with_reducible refine wpList_unguard ?_ ?_); (focus rfl))
      refine Calls.mono (ref_Mul g x hg hx _) ?_; rintro e w' ⟨rfl, rfl⟩
      go_wp2_with ((with_reducible refine wpList_unguard ?_ ?_); (focus rfl))
      go_round
      case rel => exact ⟨k + 1, by omega, by go_num, by rw [HF.out], by rw [HG.out]⟩
      case measure => simp [intOf]; omega
    · obtain rfl : k = l.length := by omega
      rw [← HR.out]
      go_wp2
      go_ret
      exact ⟨rfl, rfl⟩
set_option maxHeartbeats 1000000 in
set_option maxRecDepth 100000 in
theorem ref5_Derive (p : Option Addr) (n c : Nat) (l : List Nat) (w : World) (hn : n = l.length) (hp : cellsI w p l) (hb : bytesL l) (hl : l.length ≤ 100000) :
    Calls Try.prog 31 #[.slice p n c] w (RetI w (rder l)) := by
  subst hn
  have HP := hid hp
  have HB := hid hb
  clear hp hb
  obtain ⟨i0, hi, hz0, hz1, hz2⟩ := info_parts Try.infoI
  have hLl := rderL_length l
  have HT0 : Hid (∀ k, k < l.length - 1 → (rderL l).take (k + 1) = (rderL l).take k ++ [if (k + 1) % 2 = 1 then l.getD (k + 1) 0 else 0]) := rderL_take l
  have HRA : Hid (rder l = cutR (rderL l)) := rfl
  generalize rder l = R at *
  generalize rderL l = L at *
  have HLl := hid hLl
  clear hLl
  go_enter Try.func31, Try.ntmps31
  go_wp2_with ((with_reducible refine wpList_unguard ?_ ?_); (focus rfl))
  have hown0 : Hid (ownsI (w.alloc (.cells #[] 3)) w.heap.size (.slice (some ⟨w.heap.size, 0, none⟩) 0 0) []) := World.ownsRow_lit w #[] 0 (Nat.le_refl _) (by unfold maxLen; omega) rfl
  have hB0 : Hid (Below w.heap.size w (w.alloc (.cells #[] 3))) := (Below.refl _ _).alloc (Nat.le_refl _) _
  go_wp2_with ((with_reducible refine wpList_unguard ?_ ?_); (focus rfl))
  go_loopw [3, 4] (fun s i wr => ∃ k : Nat, k ≤ l.length - 1 ∧ i = .int .i64 ((k + 1 : Nat) : Int) ∧ ownsI wr w.heap.size s (L.take k) ∧ Below w.heap.size w wr) (fun _ i _ => l.length - (intOf i).toNat)
  case atStart => exact ⟨0, Nat.zero_le _, rfl, hown0.out, hB0.out⟩
  case round =>
    obtain ⟨k, hk, rfl, hO, hB⟩ := hrel
    have HO := hid hO
    have HB1 := hid hB
    clear hO hB hown0 hB0
    obtain ⟨j, hj⟩ : ∃ j, k + 1 = j := ⟨_, rfl⟩
    by_cases hlt : k < l.length - 1
    · have HS := hid (HT0.out k hlt)
      have hkl : (L.take k).length ≤ 1000000 := by rw [List.length_take, HLl.out]; omega
      obtain ⟨a, o, rfl, hc0⟩ := HP.out (k + 1) (by omega)
      have hc : wr.cell? ⟨a, o + (k + 1), none⟩ = some (.int .i64 (l.getD (k + 1) 0 : Nat)) := by
        rw [HB1.out.cell (p := ⟨a, o + (k + 1), none⟩) (block_lt_of_cell hc0)]; exact hc0
      have hy : l.getD (k + 1) 0 < 256 := HB.out _ (getD_mem l _ (by omega))
      have hjk : k + 1 + 1 = j + 1 := by omega
      clear hc0
      generalize hs1 : L.take (k + 1) = S1 at *
      have HS1 := hid hs1
      clear hs1
      have hj1 : 1 ≤ j := by omega
      have hjl : j < l.length := by omega
      rw [hj] at hc hy HS ⊢
      have HJ := hid hj
      generalize l.getD j 0 = y at *
      generalize L.take k = S at *
      clear hj
      go_wp2_with ((with_reducible refine wpList_unguard ?_ ?_); (focus rfl))
      go_loop [5, 6] (fun s i => ∃ m : Nat, m ≤ j ∧ i = .int .i64 m ∧ s = .int .i64 ((if m % 2 = 1 then y else 0 : Nat) : Int)) (fun _ i => j - (intOf i).toNat)
      case atStart => exact ⟨0, Nat.zero_le _, rfl, rfl⟩
      case round =>
        obtain ⟨m, hm, rfl, rfl⟩ := hrel
        by_cases hmt : m < j
        · have HC : Hid ((if (m + 1) % 2 = 1 then y else 0) = (if m % 2 = 1 then y else 0) ^^^ y) := by
            show _ = _
            by_cases h : m % 2 = 1
            · rw [if_pos h, if_neg (by omega), Nat.xor_self]
            · rw [if_neg h, if_pos (by omega), Nat.zero_xor]
          have hs : (if m % 2 = 1 then y else 0) < 256 := by split <;> omega
          generalize (if m % 2 = 1 then y else 0) = s at *
          have hxor := i64_xor_nat s y (by omega) (by omega)
          go_wp2
          go_round
          case rel => exact ⟨m + 1, by omega, by go_num, by rw [HC.out]⟩
          case measure => simp [intOf]; omega
        · obtain rfl : m = j := by omega
          generalize (if m % 2 = 1 then y else 0) = z at *
          go_wp2_with (at_builtin; refine wpList_push rfl _ _ 27 rfl w.heap.size 3 i0 .i64 8 Try.underlying27 hi hz0 hz1 hz2 (by decide) _ S z HO.out rfl _ rfl rfl hkl HB1.out.size ?_)
          intro v' w' hown' hbel
          have hO' : Hid (ownsI w' w.heap.size v' S1) := by show ownsI _ _ _ _; rw [HS.out]; exact hown'
          have hB' := hid (HB1.out.trans hbel)
          clear hown' hbel
          go_wp2_with ((with_reducible refine wpList_unguard ?_ ?_); (focus rfl))
          go_roundw
          case rel => exact ⟨k + 1, by omega, by have := HJ.out; subst this; go_num, by rw [HS1.out]; exact hO'.out, hB'.out⟩
          case measure => simp [intOf]; omega
    · have hTk : Hid (L.take k = L) := by show _ = _; exact List.take_of_length_le (by rw [HLl.out]; omega)
      rw [hTk.out] at HO
      have hL2 : L.length ≤ 1000000 := by rw [HLl.out]; omega
      obtain ⟨p', c', rfl, hle, hcr⟩ := HO.out.cells
      have HC := hid hcr
      clear hcr
      have hjl : ¬ j < l.length := by omega
      rw [hj]
      clear hj
      go_wp2_with ((with_reducible refine wpList_unguard ?_ ?_); (focus rfl))
      refine Calls.mono (ref5_Cut p' _ c' L wr rfl hle HC.out hL2) ?_; rintro e w' ⟨rfl, rfl⟩
      have hle2 := cutR_length_le L
      have HC2 := hid HC.out.cut
      rw [← HRA.out] at hle2 HC2 ⊢
      go_wp2_with ((with_reducible refine wpList_unguard ?_ ?_); (focus rfl))
      go_ret
      exact ⟨p', c', rfl, Nat.le_trans hle2 hle, HC2.out, HB1.out⟩
end Go.Proofs.Ytlipedigmokgbaa
