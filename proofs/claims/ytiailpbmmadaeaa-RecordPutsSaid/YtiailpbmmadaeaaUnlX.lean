/-
  RecordUnlike, walked.
-/
import Derived.Test.YtiailpbmmadaeaaUnlW
import Derived.Test.YtiailpbmmadaeaaEqR
namespace Go.Proofs.Ytiailpbmmadaeaa
open Go.RowKit Tri

/-- The statement's three arguments, each in a block. -/
def P3 (w0 : World) (A : Nat) (k s n v k' s' n' v' : Int) (i t : Nat) (w : World) : Prop :=
  Below w0.heap.size w0 w ∧ R4 w A k s n v ∧ R4 w (A + 1) k' s' n' v' ∧ w.heap[A + 2]? = some (.cells #[.int .u8 (i : Nat), .int .u8 (t : Nat)] 41)
theorem P3.below {w0 w w' : World} {A : Nat} {k s n v k' s' n' v' : Int} {i t : Nat} (h : P3 w0 A k s n v k' s' n' v' i t w) (hb : Below w.heap.size w w') : P3 w0 A k s n v k' s' n' v' i t w' :=
  ⟨h.1.trans (hb.mono h.1.size), h.2.1.below hb, h.2.2.1.below hb, by rw [hb.block _ (Array.getElem?_eq_some_iff.1 h.2.2.2).1]; exact h.2.2.2⟩
theorem P3.new (w : World) (k s n v k' s' n' v' : Int) (i t : Nat) : P3 w w.heap.size k s n v k' s' n' v' i t (((w.alloc (.cells #[.int .i64 k, .int .i64 s, .int .i64 n, .int .i64 v] 40)).alloc (.cells #[.int .i64 k', .int .i64 s', .int .i64 n', .int .i64 v'] 40)).alloc (.cells #[.int .u8 (i : Nat), .int .u8 (t : Nat)] 41)) := by
  have b1 : Below w.heap.size w (w.alloc (.cells #[.int .i64 k, .int .i64 s, .int .i64 n, .int .i64 v] 40)) := (Below.refl _ _).alloc (Nat.le_refl _) _
  have h1 : R4 (w.alloc (.cells #[.int .i64 k, .int .i64 s, .int .i64 n, .int .i64 v] 40)) w.heap.size k s n v := heap_alloc_new w _
  have e1 : (w.alloc (.cells #[.int .i64 k, .int .i64 s, .int .i64 n, .int .i64 v] 40)).heap.size = w.heap.size + 1 := by simp
  generalize w.alloc (.cells #[.int .i64 k, .int .i64 s, .int .i64 n, .int .i64 v] 40) = w1 at *
  have b2 : Below w1.heap.size w1 (w1.alloc (.cells #[.int .i64 k', .int .i64 s', .int .i64 n', .int .i64 v'] 40)) := (Below.refl _ _).alloc (Nat.le_refl _) _
  have h2 : R4 (w1.alloc (.cells #[.int .i64 k', .int .i64 s', .int .i64 n', .int .i64 v'] 40)) w1.heap.size k' s' n' v' := heap_alloc_new w1 _
  have e2 : (w1.alloc (.cells #[.int .i64 k', .int .i64 s', .int .i64 n', .int .i64 v'] 40)).heap.size = w1.heap.size + 1 := by simp
  generalize w1.alloc (.cells #[.int .i64 k', .int .i64 s', .int .i64 n', .int .i64 v'] 40) = w2 at *
  have b3 : Below w2.heap.size w2 (w2.alloc (.cells #[.int .u8 (i : Nat), .int .u8 (t : Nat)] 41)) := (Below.refl _ _).alloc (Nat.le_refl _) _
  have h3 := heap_alloc_new w2 (.cells #[.int .u8 (i : Nat), .int .u8 (t : Nat)] 41)
  rw [e1] at h2
  rw [e2, e1] at h3
  exact ⟨(b1.trans (b2.mono b1.size)).trans (b3.mono (b1.trans (b2.mono b1.size)).size), (h1.below b2).below b3, h2.below b3, h3⟩
theorem R4.set {w : World} {B : Nat} {a b c d : Int} (h : R4 w B a b c d) (p : Addr) (v : Value) (hp : B ≠ p.block) : R4 (w.setCell p v) B a b c d := by
  unfold R4; rw [heap_setCell_other w p B v hp]; exact h
theorem P3.set {w0 w : World} {A : Nat} {k s n v k' s' n' v' : Int} {i t : Nat} (h : P3 w0 A k s n v k' s' n' v' i t w) (p : Addr) (u : Value) (hp : A + 2 < p.block) (h0 : w0.heap.size ≤ A) : P3 w0 A k s n v k' s' n' v' i t (w.setCell p u) :=
  ⟨h.1.setCell (by omega) u, h.2.1.set p u (by omega), h.2.2.1.set p u (by omega), by rw [heap_setCell_other w p (A + 2) u (by omega)]; exact h.2.2.2⟩
theorem P3.drew {w0 w : World} {A : Nat} {k s n v k' s' n' v' : Int} {i t : Nat} (h : P3 w0 A k s n v k' s' n' v' i t w) : P3 w0 A k s n v k' s' n' v' i t w.drew := h.below (Below.refl _ _).drew
set_option maxHeartbeats 4000000 in
set_option maxRecDepth 100000 in
theorem unlike_ok (k s n v k' s' n' v' i t : Nat) (w : World) (hi : i < 256) (ht : t < 256) (h1 : recOk (k : Int) s n v = true) (h2 : recOk (k' : Int) s' n' v' = true) :
    Calls Try.prog 5 #[.agg #[.int .i64 k, .int .i64 s, .int .i64 n, .int .i64 v], .agg #[.int .i64 k', .int .i64 s', .int .i64 n', .int .i64 v'], .agg #[.int .u8 i, .int .u8 t]] w fun e w' => e = .returned (.bool true) ∧ Below w.heap.size w w' := by
  have hr := recOk_iff.1 h1
  have hr' := recOk_iff.1 h2
  clear h1 h2
  have K0 := hid (P3.new w k s n v k' s' n' v' i t)
  (go_enter Try.func5, Try.ntmps5; try simp only [List.append])
  go_wp2_with ((with_reducible refine wpList_unguard ?_ ?_); (focus rfl))
  generalize ((w.alloc (.cells #[.int .i64 k, .int .i64 s, .int .i64 n, .int .i64 v] 40)).alloc (.cells #[.int .i64 k', .int .i64 s', .int .i64 n', .int .i64 v'] 40)).alloc (.cells #[.int .u8 (i : Nat), .int .u8 (t : Nat)] 41) = w1 at *
  refine Calls.mono (law14_awake w1) ?_; rintro e w2 ⟨rfl, hb⟩; have K2 := hid (K0.out.below hb); clear hb K0
  go_wp2_with ((with_reducible refine wpList_unguard ?_ ?_); (focus rfl))
  refine Calls.mono (crc_NewK w2 w2 (Below.refl _ _)) ?_; rintro e w3 ⟨b, rfl, hKC⟩; have K3 := hid (K2.out.below hKC.1); have C3 := hid hKC.2; clear hKC K2
  have a0 := K3.out.2.1.c0; have a1 := K3.out.2.1.c1; have a2 := K3.out.2.1.c2; have a3 := K3.out.2.1.c3
  go_wp2_with ((with_reducible refine wpList_unguard ?_ ?_); (focus rfl))
  clear a0 a1 a2 a3
  refine Calls.mono (rec_Put w3 b k s n v w3 ⟨Below.refl _ _, C3.out⟩ hr.1 hr.2.1 hr.2.2.1 hr.2.2.2) ?_; rintro e w4 ⟨rfl, hKC⟩; have K4 := hid (K3.out.below hKC.1); have C4 := hid hKC.2; clear hKC K3 C3
  have a0 := K4.out.2.2.1.c0; have a1 := K4.out.2.2.1.c1; have a2 := K4.out.2.2.1.c2; have a3 := K4.out.2.2.1.c3
  go_wp2_with ((with_reducible refine wpList_unguard ?_ ?_); (focus rfl))
  clear a0 a1 a2 a3
  refine Calls.mono (rec_Put w4 b k' s' n' v' w4 ⟨Below.refl _ _, C4.out⟩ hr'.1 hr'.2.1 hr'.2.2.1 hr'.2.2.2) ?_; rintro e w5 ⟨rfl, hKC⟩; have K5 := hid (K4.out.below hKC.1); have C5 := hid hKC.2; clear hKC K4 C4
  have hcv := fun (w : World) (s : ByteArray) => Lib.run_convert_string_bytes (P := Try.prog) w 9 34 5 s Try.underlying9 Try.underlying34 Try.underlying5
  go_wp2_with ((with_reducible refine wpList_unguard ?_ ?_); (focus rfl))
  have hPl : ∀ y ∈ recP k s n v, y < 256 := by
    intro y hy
    unfold recP at hy
    rcases List.mem_append.1 hy with h | h
    · exact recL_lt _ _ _ _ y h
    · exact putB_lt _ _ y h
  have hPL : (recP k s n v).length = 16 := by unfold recP; rw [List.length_append, recL_len, putB_length]
  have hz : (ofB (recP k s n v)).size = 16 := by rw [ofB_size, hPL]
  have hj : i % 16 < 16 := Nat.mod_lt _ (by omega)
  have K6 := hid (K5.out.below (bytes_below w5 5 (ofB (recP k s n v))))
  have C6 := hid (C5.out.below (bytes_below w5 5 (ofB (recP k s n v))) C5.out.lt)
  have hcells := bytes_cells w5 5 (ofB (recP k s n v))
  rw [sb_ofB _ hPl] at hcells
  have hfree := bytes_free w5 5 (ofB (recP k s n v)) (i % 16) (by omega)
  obtain ⟨ga, go, ge, hgc⟩ := hcells (i % 16) (by omega)
  simp only [Option.some.injEq, Addr.mk.injEq, and_true] at ge
  obtain ⟨rfl, rfl⟩ := ge
  rw [Nat.zero_add] at hgc
  have hx : (recP k s n v).getD (i % 16) 0 < 256 := hPl _ (getD_mem _ _ (by omega))
  have HCells := hid hcells
  have HPl := hid hPl
  clear hcells hPl
  have t0 : (Lib.bytesWorld w5 5 (ofB (recP k s n v))).cell? ⟨w.heap.size + 2, 0, none⟩ = some (.int .u8 i) := cell_of_row _ _ 0 _ _ _ K6.out.2.2.2
  have t1 : (Lib.bytesWorld w5 5 (ofB (recP k s n v))).cell? ⟨w.heap.size + 2, 1, none⟩ = some (.int .u8 t) := cell_of_row _ _ 1 _ _ _ K6.out.2.2.2
  rw [hz]
  generalize Lib.bytesWorld w5 5 (ofB (recP k s n v)) = w6 at *
  generalize hx0 : (recP k s n v).getD (i % 16) 0 = x at *
  have HX := hid hx0
  clear hx0
  have hm : ((i : Int) % 16) = ((i % 16 : Nat) : Int) := by omega
  have hjj : ((i % 16 : Nat) : Int) < 16 := by omega
  generalize i % 16 = j at *
  have hlt5 : w.heap.size + 2 < w5.heap.size := (Array.getElem?_eq_some_iff.1 K5.out.2.2.2).1
  have hb5 : b < w5.heap.size := C5.out.lt
  have hxt := xor_byte x t hx ht
  go_region
  clear t0 t1 hgc hfree
  have hC7 : Hid (cellsB (w6.setCell ⟨w5.heap.size, j, none⟩ (.int .u8 (x ^^^ t : Nat))).drew (some ⟨w5.heap.size, 0, none⟩) ((recP k s n v).set j (x ^^^ t))) := by
    have := HCells.out.set j (x ^^^ t) (by omega)
    rw [Nat.zero_add] at this
    exact this.below (Below.refl _ _).drew
  have K7 := hid ((K6.out.set ⟨w5.heap.size, j, none⟩ (.int .u8 (x ^^^ t : Nat)) hlt5 (Nat.le_refl _)).drew)
  have C7 := hid ((C6.out.setCell ⟨w5.heap.size, j, none⟩ (.int .u8 (x ^^^ t : Nat)) (by show b ≠ w5.heap.size; omega)).drew)
  have hTurn : Hid ((recP k s n v).set j (x ^^^ t) = turn1 (recP k s n v) j t) := by show _ = _; unfold turn1; rw [HX.out]
  have hTl : ((recP k s n v).set j (x ^^^ t)).length = 16 := by rw [List.length_set, hPL]
  have hTb : Hid (∀ y ∈ (recP k s n v).set j (x ^^^ t), y < 256) := by
    intro y hy
    rcases List.mem_or_eq_of_mem_set hy with h | h
    · exact HPl.out y h
    · subst h; exact Nat.xor_lt_two_pow (n := 8) hx ht
  generalize hZZ : (recP k s n v).set j (x ^^^ t) = Z at *
  have HZZ := hid hZZ
  clear hZZ
  generalize (w6.setCell ⟨w5.heap.size, j, none⟩ (.int .u8 (x ^^^ t : Nat))).drew = w7 at *
  generalize w5.heap.size = bs at *
  have hconv := conv_str hC7.out 16 (grownCap w5 16 0 5) hTl.symm
  clear K6 C6 HCells hcv
  go_wp2_with ((with_reducible refine wpList_unguard ?_ ?_); (focus rfl))
  refine Calls.mono (rec_Get w7 b (ofB Z) w7 ⟨Below.refl _ _, C7.out⟩ (by rw [ofB_size, hTl]; omega) (by rw [ofB_size, hTl]; omega)) ?_
  rintro e w8 ⟨hge, hKC⟩
  have K8 := hid (K7.out.below hKC.1)
  clear hKC K7 C7 hC7
  rw [sb_ofB _ hTb.out] at hge
  unfold getRet at hge
  have hPl' : ∀ y ∈ recP k' s' n' v', y < 256 := by
    intro y hy
    unfold recP at hy
    rcases List.mem_append.1 hy with h | h
    · exact recL_lt _ _ _ _ y h
    · exact putB_lt _ _ y h
  have HEQ : Hid (((ofB (recP k s n v)).toList == (ofB (recP k' s' n' v')).toList) = recEq k s n v k' s' n' v') := by
    show _ = _
    rw [str_beq, sb_ofB _ HPl.out, sb_ofB _ hPl']
    unfold recEq
    refine decide_eq_decide.2 ⟨fun h => ?_, fun h => ?_⟩
    · have := recP_inj hr.1 hr.2.1 hr.2.2.1 hr.2.2.2 hr'.1 hr'.2.1 hr'.2.2.1 hr'.2.2.2 h
      omega
    · have e1 : k = k' := by omega
      have e2 : s = s' := by omega
      have e3 : n = n' := by omega
      have e4 : v = v' := by omega
      rw [e1, e2, e3, e4]
  have hq := fun (w : World) => eql_rec k s n v k' s' n' v' w
  have hq0 := fun (w : World) => eql_rec k s n v k s n v w
  have hrr : recEq k s n v k s n v = true := by unfold recEq; simp
  rw [hrr] at hq0
  clear hrr hPl'
  have hBw : w.heap.size + 1 + 1 < w8.heap.size := (Array.getElem?_eq_some_iff.1 K8.out.2.2.2).1
  by_cases h0 : t = 0
  · subst h0
    have hZP : Z = recP k s n v := hTurn.out.trans (turn1_zero _ _)
    obtain ⟨p1, p2, p3, p4⟩ := pg_recP k s n v hr.1 hr.2.1 hr.2.2.1 hr.2.2.2
    rw [hZP, if_pos (getOk_recP k s n v hr.1 hr.2.1 hr.2.2.1 hr.2.2.2), p1, p2, p3, p4] at hge
    subst hge
    have K9 := hid (K8.out.below ((Below.refl _ _).alloc (Nat.le_refl _) (.cells #[.int .i64 k, .int .i64 s, .int .i64 n, .int .i64 v] 40)))
    have a0 := K9.out.2.1.c0; have a1 := K9.out.2.1.c1; have a2 := K9.out.2.1.c2; have a3 := K9.out.2.1.c3
    have b0 := K9.out.2.2.1.c0; have b1 := K9.out.2.2.1.c1; have b2 := K9.out.2.2.1.c2; have b3 := K9.out.2.2.1.c3
    have t0 : (w8.alloc (.cells #[.int .i64 k, .int .i64 s, .int .i64 n, .int .i64 v] 40)).cell? ⟨w.heap.size + 1 + 1, 1, none⟩ = some (.int .u8 0) := cell_of_row _ _ 1 _ _ _ K9.out.2.2.2
    have hcmp := HEQ.out
    clear HZZ hTb hxt hZP p1 p2 p3 p4 HPl HX HEQ hx hz hPL hm hjj hconv hTurn hr hr' hTl
    generalize ofB (recP k s n v) = P1 at *
    generalize ofB (recP k' s' n' v') = P2 at *
    generalize recEq k s n v k' s' n' v' = β at *
    have hββ : (β == β) = true := by cases β <;> rfl
    go_wp2_with ((with_reducible refine wpList_unguard ?_ ?_); (focus rfl))
    go_ret
    exact ⟨rfl, K9.out.1⟩
  · have hG := getOk_turn k s n v j t hj ht h0
    rw [← hTurn.out] at hG
    rw [hG] at hge
    simp only [Bool.false_eq_true, if_false] at hge
    subst hge
    have K9 := hid (K8.out.below ((Below.refl _ _).alloc (Nat.le_refl _) (.cells #[.int .i64 0, .int .i64 0, .int .i64 0, .int .i64 0] 40)))
    have a0 := K9.out.2.1.c0; have a1 := K9.out.2.1.c1; have a2 := K9.out.2.1.c2; have a3 := K9.out.2.1.c3
    have b0 := K9.out.2.2.1.c0; have b1 := K9.out.2.2.1.c1; have b2 := K9.out.2.2.1.c2; have b3 := K9.out.2.2.1.c3
    have t0 : (w8.alloc (.cells #[.int .i64 0, .int .i64 0, .int .i64 0, .int .i64 0] 40)).cell? ⟨w.heap.size + 1 + 1, 1, none⟩ = some (.int .u8 t) := cell_of_row _ _ 1 _ _ _ K9.out.2.2.2
    have hcmp := HEQ.out
    have htz : ((t : Int) == 0) = false := by rw [beq_eq_false_iff_ne]; omega
    clear HZZ hTb hxt HPl HX HEQ hx hz hPL hm hjj hconv hTurn hr hr' hTl hG
    generalize ofB (recP k s n v) = P1 at *
    generalize ofB (recP k' s' n' v') = P2 at *
    generalize recEq k s n v k' s' n' v' = β at *
    have hββ : (β == β) = true := by cases β <;> rfl
    go_wp2_with ((with_reducible refine wpList_unguard ?_ ?_); (focus rfl))
    go_ret
    exact ⟨rfl, K9.out.1⟩
end Go.Proofs.Ytiailpbmmadaeaa
