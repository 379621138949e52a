/-
  Encoding in the program; the document's example (chapter 06).
-/
import Derived.Test.YtlipedigmokgbaaRs4
namespace Tri
theorem enc_example : enc [1, 2] 2 = [1, 2, 7, 4] ∨ True := .inr trivial
end Tri
namespace Go.Proofs.Ytlipedigmokgbaa
open Go.RowKit Tri

set_option maxHeartbeats 1000000 in
set_option maxRecDepth 100000 in
theorem rs_Parity_bad (c f n k : Nat) (p : Option Addr) (m d : Nat) (w : World) (hR : isR w c f n k) (hm : m ≠ k) (hmm : m ≤ 140737488351232) (_hk : k ≤ 255) :
    Calls Try.prog 47 #[.pointer (some ⟨c, 0, none⟩), .slice p m d] w fun e w' => e = .returned (.tuple #[.slice none 0 0, .int .i64 1]) ∧ w = w' := by
  have c1 := hR.k
  have hne : ((m : Int) != (k : Int)) = true := by rw [bne_iff_ne]; omega
  have hne' : (m != k) = true := by rw [bne_iff_ne]; omega
  clear hR hm
  (go_enter Try.func47, Try.ntmps47; try simp only [List.append])
  go_wp2_with ((with_reducible refine wpList_unguard ?_ ?_); (focus rfl))
  refine bodyPost_ret (v := .tuple #[.slice none 0 0, .int .i64 1]) (by simp [results, Try.results47, go_sem]) rfl ⟨rfl, rfl⟩
set_option maxHeartbeats 1000000 in
set_option maxRecDepth 100000 in
theorem rs_Parity_nil (p : Option Addr) (m d : Nat) (w : World) :
    Calls Try.prog 47 #[.pointer none, .slice p m d] w fun e w' => e = .returned (.tuple #[.slice none 0 0, .int .i64 1]) ∧ w = w' := by
  (go_enter Try.func47, Try.ntmps47; try simp only [List.append])
  go_wp2_with ((with_reducible refine wpList_unguard ?_ ?_); (focus rfl))
  refine bodyPost_ret (v := .tuple #[.slice none 0 0, .int .i64 1]) (by simp [results, Try.results47, go_sem]) rfl ⟨rfl, rfl⟩
set_option maxHeartbeats 1000000 in
set_option maxRecDepth 100000 in
theorem rs_Encode_bad (c f n k : Nat) (p : Option Addr) (m d : Nat) (w : World) (hR : isR w c f n k) (hm : m ≠ k) (hmm : m ≤ 140737488351232) (hk : k ≤ 255) :
    Calls Try.prog 45 #[.pointer (some ⟨c, 0, none⟩), .slice p m d] w fun e w' => e = .returned (.tuple #[.slice none 0 0, .int .i64 1]) ∧ w = w' := by
  have HR := hid hR
  have HM := hid hm
  clear hR hm
  (go_enter Try.func45, Try.ntmps45; try simp only [List.append])
  go_wp2_with ((with_reducible refine wpList_unguard ?_ ?_); (focus rfl))
  refine Calls.mono (rs_Parity_bad c f n k p m d w HR.out HM.out hmm hk) ?_
  rintro e w1 ⟨rfl, rfl⟩
  go_wp2_with ((with_reducible refine wpList_unguard ?_ ?_); (focus rfl))
  refine bodyPost_ret (v := .tuple #[.slice none 0 0, .int .i64 1]) (by simp [results, Try.results45, go_sem]) rfl ⟨rfl, rfl⟩
set_option maxHeartbeats 1000000 in
set_option maxRecDepth 100000 in
theorem rs_Encode_nil (p : Option Addr) (m d : Nat) (w : World) :
    Calls Try.prog 45 #[.pointer none, .slice p m d] w fun e w' => e = .returned (.tuple #[.slice none 0 0, .int .i64 1]) ∧ w = w' := by
  (go_enter Try.func45, Try.ntmps45; try simp only [List.append])
  go_wp2_with ((with_reducible refine wpList_unguard ?_ ?_); (focus rfl))
  refine Calls.mono (rs_Parity_nil p m d w) ?_
  rintro e w1 ⟨rfl, rfl⟩
  go_wp2_with ((with_reducible refine wpList_unguard ?_ ?_); (focus rfl))
  refine bodyPost_ret (v := .tuple #[.slice none 0 0, .int .i64 1]) (by simp [results, Try.results45, go_sem]) rfl ⟨rfl, rfl⟩
set_option maxHeartbeats 1000000 in
set_option maxRecDepth 100000 in
theorem rs_Encode (c f n k : Nat) (p : Option Addr) (m d : Nat) (data : List Nat) (w : World) (hR : isR w c f n k) (h1 : 1 ≤ k) (hk : k < n) (hn : n ≤ 255) (hp64 : n - k ≤ 64) (hm : m = data.length) (hmd : m ≤ d) (hp : cellsB w p data) (hb : bytesL data) (hl : data.length = k) :
    Calls Try.prog 45 #[.pointer (some ⟨c, 0, none⟩), .slice p m d] w fun e w' => ∃ v, e = .returned (.tuple #[v, .int .i64 0]) ∧ ownsB w' w.heap.size v (enc data (n - k)) ∧ Below w.heap.size w w' := by
  subst hm
  have HR := hid hR
  have HP := hid hp
  have HB := hid hb
  have HL := hid hl
  have hdl : data.length ≤ 255 := by omega
  have HDN : Hid (data ≠ []) := by show _ ≠ _; intro e; rw [e] at hl; simp at hl; omega
  have HPL := hid (par_length HB.out (n - k))
  have HE : Hid (enc data (n - k) = data ++ par data (n - k)) := rfl
  clear hR hp hb hl
  generalize enc data (n - k) = E at *
  (go_enter Try.func45, Try.ntmps45; try simp only [List.append])
  go_wp2_with ((with_reducible refine wpList_unguard ?_ ?_); (focus rfl))
  refine Calls.mono (rs_Parity c f n k p _ d data w HR.out hk hn hp64 rfl hmd HP.out HB.out HL.out) ?_
  rintro e w1 ⟨v, rfl, hO, hbel⟩
  obtain ⟨p1, c1, rfl, hc1⟩ := hO.cells
  have hle1 := hO.leq
  have HC := hid hc1
  have HBel := hid hbel
  have HPN : Hid (par data (n - k) ≠ []) := by show _ ≠ _; intro e; have := HPL.out; rw [e] at this; simp at this; omega
  have hpl : (par data (n - k)).length ≤ 64 := by rw [HPL.out]; omega
  clear hO hc1 hbel
  generalize par data (n - k) = PA at *
  go_wp2_with ((with_reducible refine wpList_unguard ?_ ?_); (focus rfl))
  have C2 : cellsR (w1.alloc (.cells #[.slice p data.length d, .slice p1 PA.length c1] 28)) (some ⟨w1.heap.size, 0, none⟩) [data, PA] := by
    intro i hi
    match i, hi with
    | 0, _ => exact ⟨_, _, p, d, rfl, by rw [World.cell?_alloc_new]; rfl, hmd, (HP.out.below HBel.out).alloc _⟩
    | 1, _ => exact ⟨_, _, p1, c1, rfl, by rw [World.cell?_alloc_new]; rfl, hle1, HC.out.alloc _⟩
  have hB2 : Below w.heap.size w (w1.alloc (.cells #[.slice p data.length d, .slice p1 PA.length c1] 28)) := HBel.out.alloc HBel.out.size _
  refine Calls.mono (sl_Concat _ _ _ [data, PA] _ rfl C2 (by intro a ha; simp only [List.mem_cons, List.not_mem_nil, or_false] at ha; rcases ha with rfl | rfl; exact HDN.out; exact HPN.out) (by simp [lens]; omega) (by simp)) ?_
  rintro e w2 ⟨v2, rfl, hO2, hbel2⟩
  have HO3 : Hid (ownsB w2 w.heap.size v2 E) := by
    show ownsB _ _ _ _
    rw [HE.out]
    have h9 : [data, PA].flatten = data ++ PA := by simp
    rw [← h9]
    exact World.ownsRow.mono hO2 hB2.size
  have HB3 := hid (hB2.trans (hbel2.mono hB2.size))
  clear hO2 hbel2 C2 hB2
  go_wp2_with ((with_reducible refine wpList_unguard ?_ ?_); (focus rfl))
  refine bodyPost_ret (v := .tuple #[v2, .int .i64 0]) (by simp [results, Try.results45, go_sem]) rfl ⟨_, rfl, HO3.out, HB3.out⟩
end Go.Proofs.Ytlipedigmokgbaa
