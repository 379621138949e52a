/-
  The document's example of records holds in the program; RecordVersions, walked.
-/
import Derived.Test.YtiailpbmmadaeaaRec3
namespace Go.Proofs.Ytiailpbmmadaeaa
open Go.RowKit Tri

def exR : ByteArray := ⟨#[1, 2, 0, 3, 0, 0, 0, 0, 0, 4, 0, 0, 134, 152, 167, 216]⟩
set_option maxHeartbeats 1000000 in
set_option maxRecDepth 100000 in
theorem law14_awake (w : World) : Calls Try.prog 10 #[] w fun e w' => e = .returned (.bool true) ∧ Below w.heap.size w w' := by
  have e1 : verN 1 2 3 = 4295098371 := by decide +kernel
  have e2 : verOk 1 2 3 = true := by decide +kernel
  have e3 : ofB (recP 1 2 3 4) = exR := by
    have : recP 1 2 3 4 = [1, 2, 0, 3, 0, 0, 0, 0, 0, 4, 0, 0, 134, 152, 167, 216] := by decide +kernel
    rw [this]; rfl
  (go_enter Try.func10, Try.ntmps10; try simp only [List.append])
  go_wp2_with ((with_reducible refine wpList_unguard ?_ ?_); (focus rfl))
  refine Calls.mono (rec_Number 1 2 3 w) ?_; rintro e w1 ⟨rfl, hb⟩; have HB := hid hb; clear hb
  rw [e1, e2]
  go_wp2_with ((with_reducible refine wpList_unguard ?_ ?_); (focus rfl))
  refine Calls.mono (crc_NewK w w1 HB.out) ?_; rintro e w2 ⟨b, rfl, K0⟩; have K := hid K0; clear K0
  go_wp2_with ((with_reducible refine wpList_unguard ?_ ?_); (focus rfl))
  refine Calls.mono (rec_Put w b 1 2 3 4 w2 K.out (by omega) (by omega) (by omega) (by omega)) ?_; (clear K); rintro e w3 ⟨rfl, K0⟩; have K := hid K0; clear K0
  rw [e3]
  go_wp2_with ((with_reducible refine wpList_unguard ?_ ?_); (focus rfl))
  go_ret
  refine ⟨?_, K.out.1⟩
  have e4 : ((exR.extract 0 10).toList == [1, 2, 0, 3, 0, 0, 0, 0, 0, 4]) = true := by decide +kernel
  show Ending.returned (Value.bool ((exR.extract 0 10).toList == [1, 2, 0, 3, 0, 0, 0, 0, 0, 4])) = _
  rw [e4]
def vRight (k : Nat) (a b c : Int) : Bool := match k with
  | 0 => true
  | 1 => vOk a
  | 2 => vOk a && vOk b
  | _ => verOk a b c
theorem verN_lt (a b c : Int) : verN a b c < 281474976710656 := by
  unfold verN
  split
  · rename_i h
    unfold verOk at h
    simp only [Bool.and_eq_true, vOk_iff] at h
    unfold numV
    omega
  · omega
theorem verOk_range {a b c : Int} (h : verOk a b c = true) : 0 ≤ a ∧ a ≤ 65535 ∧ 0 ≤ b ∧ b ≤ 65535 ∧ 0 ≤ c ∧ c ≤ 65535 := by
  unfold verOk at h
  simp only [Bool.and_eq_true, vOk_iff] at h
  omega
theorem verN_back (n : Nat) (h : n < 281474976710656) : verN (n / 4294967296 : Nat) (n / 65536 % 65536 : Nat) (n % 65536 : Nat) = n ∧ verOk (n / 4294967296 : Nat) (n / 65536 % 65536 : Nat) (n % 65536 : Nat) = true := by
  have ho : verOk (n / 4294967296 : Nat) (n / 65536 % 65536 : Nat) (n % 65536 : Nat) = true := by
    unfold verOk
    simp only [Bool.and_eq_true, vOk_iff]
    omega
  refine ⟨?_, ho⟩
  unfold verN
  rw [ho]
  unfold numV
  simp only [if_true, Int.toNat_natCast]
  omega
/-- A block that holds a version. -/
def V3 (w : World) (B : Nat) (a b c : Int) : Prop := w.heap[B]? = some (.cells #[.int .i64 a, .int .i64 b, .int .i64 c] 23)
theorem V3.lt {w : World} {B : Nat} {a b c : Int} (h : V3 w B a b c) : B < w.heap.size := (Array.getElem?_eq_some_iff.1 h).1
theorem V3.below {w w' : World} {B : Nat} {a b c : Int} (h : V3 w B a b c) (hb : Below w.heap.size w w') : V3 w' B a b c := by
  unfold V3; rw [hb.block B h.lt]; exact h
theorem V3.c0 {w : World} {B : Nat} {a b c : Int} (h : V3 w B a b c) : w.cell? ⟨B, 0, none⟩ = some (.int .i64 a) := cell_of_row _ _ 0 _ _ _ h
theorem V3.c1 {w : World} {B : Nat} {a b c : Int} (h : V3 w B a b c) : w.cell? ⟨B, 1, none⟩ = some (.int .i64 b) := cell_of_row _ _ 1 _ _ _ h
theorem V3.c2 {w : World} {B : Nat} {a b c : Int} (h : V3 w B a b c) : w.cell? ⟨B, 2, none⟩ = some (.int .i64 c) := cell_of_row _ _ 2 _ _ _ h
def KV (w0 : World) (B C : Nat) (a b c x y z : Int) (w : World) : Prop := Below w0.heap.size w0 w ∧ V3 w B a b c ∧ V3 w C x y z
theorem KV.below {w0 : World} {B C : Nat} {a b c x y z : Int} {w w' : World} (K : KV w0 B C a b c x y z w) (hb : Below w.heap.size w w') : KV w0 B C a b c x y z w' :=
  ⟨K.1.trans (hb.mono K.1.size), K.2.1.below hb, K.2.2.below hb⟩
theorem KV.alloc {w0 : World} {B C : Nat} {a b c x y z : Int} {w : World} (K : KV w0 B C a b c x y z w) (o : Obj) : KV w0 B C a b c x y z (w.alloc o) := K.below ((Below.refl _ _).alloc (Nat.le_refl _) o)
theorem KV.new (w : World) (a b c x y z : Int) : KV w w.heap.size (w.heap.size + 1) a b c x y z ((w.alloc (.cells #[.int .i64 a, .int .i64 b, .int .i64 c] 23)).alloc (.cells #[.int .i64 x, .int .i64 y, .int .i64 z] 23)) := by
  have h0 : V3 (w.alloc (.cells #[.int .i64 a, .int .i64 b, .int .i64 c] 23)) w.heap.size a b c := heap_alloc_new w _
  have hs : (w.alloc (.cells #[.int .i64 a, .int .i64 b, .int .i64 c] 23)).heap.size = w.heap.size + 1 := by simp
  have h1 := heap_alloc_new (w.alloc (.cells #[.int .i64 a, .int .i64 b, .int .i64 c] 23)) (.cells #[.int .i64 x, .int .i64 y, .int .i64 z] 23)
  rw [hs] at h1
  refine ⟨?_, h0.below ((Below.refl _ _).alloc (Nat.le_refl _) _), h1⟩
  have hb := (Below.refl w.heap.size w).alloc (Nat.le_refl _) (.cells #[.int .i64 a, .int .i64 b, .int .i64 c] 23)
  exact hb.alloc hb.size _
set_option maxHeartbeats 4000000 in
set_option maxRecDepth 100000 in
theorem recordVersions.main (a b c x y z n : Int) (w : World) :
    Calls Try.prog 3 #[.agg #[.int .i64 a, .int .i64 b, .int .i64 c], .agg #[.int .i64 x, .int .i64 y, .int .i64 z], .int .i64 n] w fun e w' => e = .returned (.bool true) ∧ Below w.heap.size w w' := by
  (go_enter Try.func3, Try.ntmps3; try simp only [List.append])
  go_wp2_with ((with_reducible refine wpList_unguard ?_ ?_); (focus rfl))
  have K0 := hid (KV.new w a b c x y z)
  generalize (w.alloc (.cells #[.int .i64 a, .int .i64 b, .int .i64 c] 23)).alloc (.cells #[.int .i64 x, .int .i64 y, .int .i64 z] 23) = w1 at *
  obtain ⟨B, hB⟩ : ∃ B, w.heap.size = B := ⟨_, rfl⟩
  obtain ⟨C, hC⟩ : ∃ C, w.heap.size + 1 = C := ⟨_, rfl⟩
  rw [hC] at K0 ⊢
  rw [hB] at K0 ⊢
  clear hB hC
  refine Calls.mono (law14_awake w1) ?_; rintro e w2 ⟨rfl, hb⟩; have K2 := hid (K0.out.below hb); clear hb K0
  have f0 := K2.out.2.1.c0; have f1 := K2.out.2.1.c1; have f2 := K2.out.2.1.c2; have g0 := K2.out.2.2.c0; have g1 := K2.out.2.2.c1; have g2 := K2.out.2.2.c2
  go_wp2_with ((with_reducible refine wpList_unguard ?_ ?_); (focus rfl))
  clear f0 f1 f2 g0 g1 g2
  refine Calls.mono (rec_Number a b c w2) ?_; rintro e w3 ⟨rfl, hb⟩; have K3 := hid (K2.out.below hb); clear hb K2
  have hpl := verN_lt a b c
  obtain ⟨p, hp⟩ : ∃ p, verN a b c = p := ⟨_, rfl⟩
  obtain ⟨ok, hok⟩ : ∃ ok, verOk a b c = ok := ⟨_, rfl⟩
  have HP := hid hp
  have HOK := hid hok
  rw [hp] at hpl ⊢
  rw [hok]
  clear hp hok
  have f0 := K3.out.2.1.c0; have f1 := K3.out.2.1.c1; have f2 := K3.out.2.1.c2; have g0 := K3.out.2.2.c0; have g1 := K3.out.2.2.c1; have g2 := K3.out.2.2.c2
  go_wp2_with ((with_reducible refine wpList_unguard ?_ ?_); (focus rfl))
  clear f0 f1 f2 g0 g1 g2
  refine Calls.mono (rec_Number x y z w3) ?_; rintro e w4 ⟨rfl, hb⟩; have K4 := hid (K3.out.below hb); clear hb K3
  have hql := verN_lt x y z
  obtain ⟨q, hq⟩ : ∃ q, verN x y z = q := ⟨_, rfl⟩
  obtain ⟨is, his⟩ : ∃ is, verOk x y z = is := ⟨_, rfl⟩
  have HQ := hid hq
  have HIS := hid his
  rw [hq] at hql ⊢
  rw [his]
  clear hq his
  go_wp2_with ((with_reducible refine wpList_unguard ?_ ?_); (focus rfl))
  refine Calls.mono (rec_Version p w4 hpl) ?_; rintro e w5 ⟨rfl, hb⟩; have K5 := hid (K4.out.below hb); clear hb K4
  obtain ⟨r0, hr0⟩ : ∃ r : Nat, p / 4294967296 = r := ⟨_, rfl⟩
  obtain ⟨r1, hr1⟩ : ∃ r : Nat, p / 65536 % 65536 = r := ⟨_, rfl⟩
  obtain ⟨r2, hr2⟩ : ∃ r : Nat, p % 65536 = r := ⟨_, rfl⟩
  have HR := hid (And.intro hr0 (And.intro hr1 hr2))
  rw [hr0, hr1, hr2]
  clear hr0 hr1 hr2
  go_wp2_with ((with_reducible refine wpList_unguard ?_ ?_); (focus rfl))
  have K6 := hid (K5.out.alloc (.cells #[.int .i64 r0, .int .i64 r1, .int .i64 r2] 23))
  have hR3 : Hid (V3 (w5.alloc (.cells #[.int .i64 r0, .int .i64 r1, .int .i64 r2] 23)) w5.heap.size r0 r1 r2) := heap_alloc_new w5 _
  generalize w5.alloc (.cells #[.int .i64 r0, .int .i64 r1, .int .i64 r2] 23) = w6 at *
  generalize w5.heap.size = D at *
  have f0 := K6.out.2.1.c0; have f1 := K6.out.2.1.c1; have f2 := K6.out.2.1.c2; have g0 := K6.out.2.2.c0; have g1 := K6.out.2.2.c1; have g2 := K6.out.2.2.c2
  go_loopw [13, 37] (fun r i wr => (i = .int .i64 0 ∧ r = .bool true ∨ i = .int .i64 1 ∧ r = .bool (vOk a) ∨ i = .int .i64 2 ∧ r = .bool (vOk a && vOk b) ∨ i = .int .i64 3 ∧ r = .bool (verOk a b c)) ∧ wr = w6) (fun _ i _ => 3 - (intOf i).toNat)
  case atStart => exact ⟨Or.inl ⟨rfl, rfl⟩, rfl⟩
  case round =>
    obtain ⟨hc, rfl⟩ := hrel
    rcases hc with hc | hc | hc | hc
    · obtain ⟨rfl, rfl⟩ := hc
      by_cases h1 : 0 ≤ a
      · have ht1 : decide (0 ≤ a) = true := decide_eq_true h1
        by_cases h2 : a < 65536
        · have ht2 : decide (a < 65536) = true := decide_eq_true h2
          have hx : vOk a = true := vOk_iff.2 ⟨h1, by omega⟩
          have hN : Hid (vOk a = true) := hx
          go_wp2_with ((with_reducible refine wpList_unguard ?_ ?_); (focus rfl))
          go_roundw
          case rel =>
            have HN : Value.bool true = Value.bool (vOk a) := by rw [hN.out]
            first | exact ⟨Or.inr (Or.inl ⟨rfl, HN⟩), trivial⟩ | exact ⟨Or.inr (Or.inl ⟨rfl, rfl⟩), trivial⟩ | exact ⟨Or.inr (Or.inl ⟨rfl, by rw [hx]; rfl⟩), trivial⟩
          case measure => simp [intOf]
        · have ht2 : decide (a < 65536) = false := decide_eq_false h2
          have hx : vOk a = false := by unfold vOk; exact decide_eq_false (by omega)
          have hN : Hid (vOk a = false) := hx
          go_wp2_with ((with_reducible refine wpList_unguard ?_ ?_); (focus rfl))
          go_roundw
          case rel =>
            have HN : Value.bool false = Value.bool (vOk a) := by rw [hN.out]
            first | exact ⟨Or.inr (Or.inl ⟨rfl, HN⟩), trivial⟩ | exact ⟨Or.inr (Or.inl ⟨rfl, rfl⟩), trivial⟩ | exact ⟨Or.inr (Or.inl ⟨rfl, by rw [hx]; rfl⟩), trivial⟩
          case measure => simp [intOf]
      · have ht1 : decide (0 ≤ a) = false := decide_eq_false h1
        have hx : vOk a = false := by unfold vOk; exact decide_eq_false (by omega)
        have hN : Hid (vOk a = false) := hx
        go_wp2_with ((with_reducible refine wpList_unguard ?_ ?_); (focus rfl))
        go_roundw
        case rel =>
          have HN : Value.bool false = Value.bool (vOk a) := by rw [hN.out]
          first | exact ⟨Or.inr (Or.inl ⟨rfl, HN⟩), trivial⟩ | exact ⟨Or.inr (Or.inl ⟨rfl, rfl⟩), trivial⟩ | exact ⟨Or.inr (Or.inl ⟨rfl, by rw [hx]; rfl⟩), trivial⟩
        case measure => simp [intOf]
    · obtain ⟨rfl, rfl⟩ := hc
      rcases Bool.eq_false_or_eq_true (vOk a) with hP | hP
      rotate_left
      · rw [hP]
        have hN : Hid ((vOk a && vOk b) = false) := by rw [hP]; rfl
        go_wp2_with ((with_reducible refine wpList_unguard ?_ ?_); (focus rfl))
        go_roundw
        case rel =>
          have HN : Value.bool false = Value.bool ((vOk a && vOk b)) := by rw [hN.out]
          first | exact ⟨Or.inr (Or.inr (Or.inl ⟨rfl, HN⟩)), trivial⟩ | exact ⟨Or.inr (Or.inr (Or.inl ⟨rfl, rfl⟩)), trivial⟩ | exact ⟨Or.inr (Or.inr (Or.inl ⟨rfl, by rw [hx]; rfl⟩)), trivial⟩
        case measure => simp [intOf]
      rw [hP]
      by_cases h1 : 0 ≤ b
      · have ht1 : decide (0 ≤ b) = true := decide_eq_true h1
        by_cases h2 : b < 65536
        · have ht2 : decide (b < 65536) = true := decide_eq_true h2
          have hx : vOk b = true := vOk_iff.2 ⟨h1, by omega⟩
          have hN : Hid ((vOk a && vOk b) = true) := by rw [hP, hx]; rfl
          go_wp2_with ((with_reducible refine wpList_unguard ?_ ?_); (focus rfl))
          go_roundw
          case rel =>
            have HN : Value.bool true = Value.bool ((vOk a && vOk b)) := by rw [hN.out]
            first | exact ⟨Or.inr (Or.inr (Or.inl ⟨rfl, HN⟩)), trivial⟩ | exact ⟨Or.inr (Or.inr (Or.inl ⟨rfl, rfl⟩)), trivial⟩ | exact ⟨Or.inr (Or.inr (Or.inl ⟨rfl, by rw [hx]; rfl⟩)), trivial⟩
          case measure => simp [intOf]
        · have ht2 : decide (b < 65536) = false := decide_eq_false h2
          have hx : vOk b = false := by unfold vOk; exact decide_eq_false (by omega)
          have hN : Hid ((vOk a && vOk b) = false) := by rw [hP, hx]; rfl
          go_wp2_with ((with_reducible refine wpList_unguard ?_ ?_); (focus rfl))
          go_roundw
          case rel =>
            have HN : Value.bool false = Value.bool ((vOk a && vOk b)) := by rw [hN.out]
            first | exact ⟨Or.inr (Or.inr (Or.inl ⟨rfl, HN⟩)), trivial⟩ | exact ⟨Or.inr (Or.inr (Or.inl ⟨rfl, rfl⟩)), trivial⟩ | exact ⟨Or.inr (Or.inr (Or.inl ⟨rfl, by rw [hx]; rfl⟩)), trivial⟩
          case measure => simp [intOf]
      · have ht1 : decide (0 ≤ b) = false := decide_eq_false h1
        have hx : vOk b = false := by unfold vOk; exact decide_eq_false (by omega)
        have hN : Hid ((vOk a && vOk b) = false) := by rw [hP, hx]; rfl
        go_wp2_with ((with_reducible refine wpList_unguard ?_ ?_); (focus rfl))
        go_roundw
        case rel =>
          have HN : Value.bool false = Value.bool ((vOk a && vOk b)) := by rw [hN.out]
          first | exact ⟨Or.inr (Or.inr (Or.inl ⟨rfl, HN⟩)), trivial⟩ | exact ⟨Or.inr (Or.inr (Or.inl ⟨rfl, rfl⟩)), trivial⟩ | exact ⟨Or.inr (Or.inr (Or.inl ⟨rfl, by rw [hx]; rfl⟩)), trivial⟩
        case measure => simp [intOf]
    · obtain ⟨rfl, rfl⟩ := hc
      rcases Bool.eq_false_or_eq_true ((vOk a && vOk b)) with hP | hP
      rotate_left
      · rw [hP]
        have hN : Hid (verOk a b c = false) := by unfold verOk; rw [← Bool.and_assoc, hP]; rfl
        go_wp2_with ((with_reducible refine wpList_unguard ?_ ?_); (focus rfl))
        go_roundw
        case rel =>
          have HN : Value.bool false = Value.bool (verOk a b c) := by rw [hN.out]
          first | exact ⟨Or.inr (Or.inr (Or.inr ⟨rfl, HN⟩)), trivial⟩ | exact ⟨Or.inr (Or.inr (Or.inr ⟨rfl, rfl⟩)), trivial⟩ | exact ⟨Or.inr (Or.inr (Or.inr ⟨rfl, by rw [hx]; rfl⟩)), trivial⟩
        case measure => simp [intOf]
      rw [hP]
      by_cases h1 : 0 ≤ c
      · have ht1 : decide (0 ≤ c) = true := decide_eq_true h1
        by_cases h2 : c < 65536
        · have ht2 : decide (c < 65536) = true := decide_eq_true h2
          have hx : vOk c = true := vOk_iff.2 ⟨h1, by omega⟩
          have hN : Hid (verOk a b c = true) := by unfold verOk; rw [← Bool.and_assoc, hP, hx]; rfl
          go_wp2_with ((with_reducible refine wpList_unguard ?_ ?_); (focus rfl))
          go_roundw
          case rel =>
            have HN : Value.bool true = Value.bool (verOk a b c) := by rw [hN.out]
            first | exact ⟨Or.inr (Or.inr (Or.inr ⟨rfl, HN⟩)), trivial⟩ | exact ⟨Or.inr (Or.inr (Or.inr ⟨rfl, rfl⟩)), trivial⟩ | exact ⟨Or.inr (Or.inr (Or.inr ⟨rfl, by rw [hx]; rfl⟩)), trivial⟩
          case measure => simp [intOf]
        · have ht2 : decide (c < 65536) = false := decide_eq_false h2
          have hx : vOk c = false := by unfold vOk; exact decide_eq_false (by omega)
          have hN : Hid (verOk a b c = false) := by unfold verOk; rw [← Bool.and_assoc, hP, hx]; rfl
          go_wp2_with ((with_reducible refine wpList_unguard ?_ ?_); (focus rfl))
          go_roundw
          case rel =>
            have HN : Value.bool false = Value.bool (verOk a b c) := by rw [hN.out]
            first | exact ⟨Or.inr (Or.inr (Or.inr ⟨rfl, HN⟩)), trivial⟩ | exact ⟨Or.inr (Or.inr (Or.inr ⟨rfl, rfl⟩)), trivial⟩ | exact ⟨Or.inr (Or.inr (Or.inr ⟨rfl, by rw [hx]; rfl⟩)), trivial⟩
          case measure => simp [intOf]
      · have ht1 : decide (0 ≤ c) = false := decide_eq_false h1
        have hx : vOk c = false := by unfold vOk; exact decide_eq_false (by omega)
        have hN : Hid (verOk a b c = false) := by unfold verOk; rw [← Bool.and_assoc, hP, hx]; rfl
        go_wp2_with ((with_reducible refine wpList_unguard ?_ ?_); (focus rfl))
        go_roundw
        case rel =>
          have HN : Value.bool false = Value.bool (verOk a b c) := by rw [hN.out]
          first | exact ⟨Or.inr (Or.inr (Or.inr ⟨rfl, HN⟩)), trivial⟩ | exact ⟨Or.inr (Or.inr (Or.inr ⟨rfl, rfl⟩)), trivial⟩ | exact ⟨Or.inr (Or.inr (Or.inr ⟨rfl, by rw [hx]; rfl⟩)), trivial⟩
        case measure => simp [intOf]
    · obtain ⟨rfl, rfl⟩ := hc
      rw [HOK.out]
      cases ok
      · have hp0 : p = 0 := by rw [← HP.out]; unfold verN; rw [HOK.out]; rfl
        subst hp0
        go_wp2_with ((with_reducible refine wpList_unguard ?_ ?_); (focus rfl))
        clear f0 f1 f2 g0 g1 g2
        by_cases hn : 0 ≤ n ∧ n ≤ 281474976710655
        · obtain ⟨N, rfl⟩ : ∃ N : Nat, n = N := ⟨n.toNat, by omega⟩
          have hN : N < 281474976710656 := by omega
          refine Calls.mono (rec_Version N wr hN) ?_; rintro e w7 ⟨rfl, hb⟩; have K7 := hid (K6.out.below hb); clear hb
          have hbk := verN_back N hN
          generalize ((N / 4294967296 : Nat) : Int) = m0 at *
          generalize ((N / 65536 % 65536 : Nat) : Int) = m1 at *
          generalize ((N % 65536 : Nat) : Int) = m2 at *
          go_wp2_with ((with_reducible refine wpList_unguard ?_ ?_); (focus rfl))
          have KA := hid (K7.out.alloc (.cells #[.int .i64 m0, .int .i64 m1, .int .i64 m2] 23))
          have hM : Hid (V3 (w7.alloc (.cells #[.int .i64 m0, .int .i64 m1, .int .i64 m2] 23)) w7.heap.size m0 m1 m2) := heap_alloc_new w7 _
          generalize w7.alloc (.cells #[.int .i64 m0, .int .i64 m1, .int .i64 m2] 23) = w8 at *
          generalize w7.heap.size = E at *
          refine Calls.mono (rec_Number m0 m1 m2 w8) ?_; rintro e w9 ⟨rfl, hb⟩; have KE := hid (KA.out.below hb); have hM9 := hid (hM.out.below hb); clear hb hM KA
          rw [hbk.1, hbk.2]
          clear hbk
          have ht2 : decide ((N : Int) < 281474976710656) = true := decide_eq_true (by omega)
          have ht1 : decide (0 ≤ (N : Int)) = true := decide_eq_true (by omega)
          have hnn : ((N : Int) != N) = false := by simp
          generalize hNI : (N : Int) = NI at *
          clear hNI hN hn
          have f0 := KE.out.2.1.c0; have f1 := KE.out.2.1.c1; have f2 := KE.out.2.1.c2; have g0 := KE.out.2.2.c0; have g1 := KE.out.2.2.c1; have g2 := KE.out.2.2.c2
          go_wp2_with ((with_reducible refine wpList_unguard ?_ ?_); (focus rfl))
          all_goals (go_ret; exact ⟨rfl, KE.out.1⟩)
        · refine Calls.mono (rec_Version_bad n wr hn) ?_; rintro e w7 ⟨rfl, hb⟩; have K7 := hid (K6.out.below hb); clear hb
          go_wp2_with ((with_reducible refine wpList_unguard ?_ ?_); (focus rfl))
          have KA := hid (K7.out.alloc (.cells #[.int .i64 0, .int .i64 0, .int .i64 0] 23))
          have hM : Hid (V3 (w7.alloc (.cells #[.int .i64 0, .int .i64 0, .int .i64 0] 23)) w7.heap.size 0 0 0) := heap_alloc_new w7 _
          generalize w7.alloc (.cells #[.int .i64 0, .int .i64 0, .int .i64 0] 23) = w8 at *
          generalize w7.heap.size = E at *
          refine Calls.mono (rec_Number 0 0 0 w8) ?_; rintro e w9 ⟨rfl, hb⟩; have KE := hid (KA.out.below hb); have hM9 := hid (hM.out.below hb); clear hb hM KA
          have heq0 : ∀ w, (Op.equalIn 10000 23 (.agg #[.int .i64 0, .int .i64 0, .int .i64 0]) (.agg #[.int .i64 0, .int .i64 0, .int .i64 0])).run Try.prog w = .ok true w := fun w => by rw [run_eq_3 23 Try.underlying23]; simp
          have hm0 := hM9.out.c0; have hm1' := hM9.out.c1; have hm2' := hM9.out.c2
          have f0 := KE.out.2.1.c0; have f1 := KE.out.2.1.c1; have f2 := KE.out.2.1.c2; have g0 := KE.out.2.2.c0; have g1 := KE.out.2.2.c1; have g2 := KE.out.2.2.c2
          by_cases hn0 : 0 ≤ n
          · have ht1 : decide (0 ≤ n) = true := decide_eq_true hn0
            have ht2 : decide (n < 281474976710656) = false := decide_eq_false (by omega)
            go_wp2_with ((with_reducible refine wpList_unguard ?_ ?_); (focus rfl))
            all_goals (go_ret; exact ⟨rfl, KE.out.1⟩)
          · have ht1 : decide (0 ≤ n) = false := decide_eq_false hn0
            go_wp2_with ((with_reducible refine wpList_unguard ?_ ?_); (focus rfl))
            all_goals (go_ret; exact ⟨rfl, KE.out.1⟩)
      · have HPV : Hid (p = numV a.toNat b.toNat c.toNat) := by show _ = _; rw [← HP.out]; unfold verN; rw [HOK.out]; rfl
        have har := verOk_range HOK.out
        have hrr : Hid ((r0 : Int) = a ∧ (r1 : Int) = b ∧ (r2 : Int) = c) := by
          have h1 := HPV.out
          have h2 := HR.out
          unfold numV at h1
          show _ ∧ _
          omega
        have hR4 : Hid (V3 wr D a b c) := by have h := hR3.out; rw [hrr.out.1, hrr.out.2.1, hrr.out.2.2] at h; exact h
        rw [hrr.out.1, hrr.out.2.1, hrr.out.2.2]
        clear hR3 hrr
        have heq : ∀ w, (Op.equalIn 10000 23 (.agg #[.int .i64 a, .int .i64 b, .int .i64 c]) (.agg #[.int .i64 a, .int .i64 b, .int .i64 c])).run Try.prog w = .ok true w := fun w => by rw [run_eq_3 23 Try.underlying23]; simp
        have hd0 := hR4.out.c0; have hd1 := hR4.out.c1; have hd2 := hR4.out.c2
        have hw1 : wrap64 (a * 65536) = a * 65536 := by unfold wrap64; omega
        have hw2 : wrap64 (a * 65536 + b) = a * 65536 + b := by unfold wrap64; omega
        have hw3 : wrap64 ((a * 65536 + b) * 65536) = (a * 65536 + b) * 65536 := by unfold wrap64; omega
        have hw4 : wrap64 ((a * 65536 + b) * 65536 + c) = (a * 65536 + b) * 65536 + c := by unfold wrap64; omega
        have hw5 : ((p : Int) != (a * 65536 + b) * 65536 + c) = false := by have h : (p : Int) = (a * 65536 + b) * 65536 + c := (by rw [HPV.out]; unfold numV; omega); rw [h]; simp
        go_wp2_with ((with_reducible refine wpList_unguard ?_ ?_); (focus rfl))
        clear hw5 hw1 hw2 hw3 hw4 hd0 hd1 hd2 heq
        clear f0 f1 f2 g0 g1 g2
        by_cases hn : 0 ≤ n ∧ n ≤ 281474976710655
        · obtain ⟨N, rfl⟩ : ∃ N : Nat, n = N := ⟨n.toNat, by omega⟩
          have hN : N < 281474976710656 := by omega
          refine Calls.mono (rec_Version N wr hN) ?_; rintro e w7 ⟨rfl, hb⟩; have K7 := hid (K6.out.below hb); clear hb
          have hbk := verN_back N hN
          generalize ((N / 4294967296 : Nat) : Int) = m0 at *
          generalize ((N / 65536 % 65536 : Nat) : Int) = m1 at *
          generalize ((N % 65536 : Nat) : Int) = m2 at *
          go_wp2_with ((with_reducible refine wpList_unguard ?_ ?_); (focus rfl))
          have KA := hid (K7.out.alloc (.cells #[.int .i64 m0, .int .i64 m1, .int .i64 m2] 23))
          have hM : Hid (V3 (w7.alloc (.cells #[.int .i64 m0, .int .i64 m1, .int .i64 m2] 23)) w7.heap.size m0 m1 m2) := heap_alloc_new w7 _
          generalize w7.alloc (.cells #[.int .i64 m0, .int .i64 m1, .int .i64 m2] 23) = w8 at *
          generalize w7.heap.size = E at *
          refine Calls.mono (rec_Number m0 m1 m2 w8) ?_; rintro e w9 ⟨rfl, hb⟩; have KE := hid (KA.out.below hb); have hM9 := hid (hM.out.below hb); clear hb hM KA
          rw [hbk.1, hbk.2]
          clear hbk
          have ht2 : decide ((N : Int) < 281474976710656) = true := decide_eq_true (by omega)
          have ht1 : decide (0 ≤ (N : Int)) = true := decide_eq_true (by omega)
          have hnn : ((N : Int) != N) = false := by simp
          generalize hNI : (N : Int) = NI at *
          clear hNI hN hn
          have f0 := KE.out.2.1.c0; have f1 := KE.out.2.1.c1; have f2 := KE.out.2.1.c2; have g0 := KE.out.2.2.c0; have g1 := KE.out.2.2.c1; have g2 := KE.out.2.2.c2
          cases is
          · go_wp2_with ((with_reducible refine wpList_unguard ?_ ?_); (focus rfl))
            all_goals (go_ret; exact ⟨rfl, KE.out.1⟩)
          · have HPQ : Hid (p = numV a.toNat b.toNat c.toNat ∧ q = numV x.toNat y.toNat z.toNat) := ⟨HPV.out, by rw [← HQ.out]; unfold verN; rw [HIS.out]; rfl⟩
            have hxr := verOk_range HIS.out
            go_wp2_with ((with_reducible refine wpList_unguard ?_ ?_); (focus rfl))
            all_goals
              go_ret
              refine ⟨?_, KE.out.1⟩
              have h1 := HPQ.out.1
              have h2 := HPQ.out.2
              unfold numV at h1 h2
              first
              | (simp; done)
              | (simp; omega)
        · refine Calls.mono (rec_Version_bad n wr hn) ?_; rintro e w7 ⟨rfl, hb⟩; have K7 := hid (K6.out.below hb); clear hb
          go_wp2_with ((with_reducible refine wpList_unguard ?_ ?_); (focus rfl))
          have KA := hid (K7.out.alloc (.cells #[.int .i64 0, .int .i64 0, .int .i64 0] 23))
          have hM : Hid (V3 (w7.alloc (.cells #[.int .i64 0, .int .i64 0, .int .i64 0] 23)) w7.heap.size 0 0 0) := heap_alloc_new w7 _
          generalize w7.alloc (.cells #[.int .i64 0, .int .i64 0, .int .i64 0] 23) = w8 at *
          generalize w7.heap.size = E at *
          refine Calls.mono (rec_Number 0 0 0 w8) ?_; rintro e w9 ⟨rfl, hb⟩; have KE := hid (KA.out.below hb); have hM9 := hid (hM.out.below hb); clear hb hM KA
          have heq0 : ∀ w, (Op.equalIn 10000 23 (.agg #[.int .i64 0, .int .i64 0, .int .i64 0]) (.agg #[.int .i64 0, .int .i64 0, .int .i64 0])).run Try.prog w = .ok true w := fun w => by rw [run_eq_3 23 Try.underlying23]; simp
          have hm0 := hM9.out.c0; have hm1' := hM9.out.c1; have hm2' := hM9.out.c2
          have f0 := KE.out.2.1.c0; have f1 := KE.out.2.1.c1; have f2 := KE.out.2.1.c2; have g0 := KE.out.2.2.c0; have g1 := KE.out.2.2.c1; have g2 := KE.out.2.2.c2
          by_cases hn0 : 0 ≤ n
          · have ht1 : decide (0 ≤ n) = true := decide_eq_true hn0
            have ht2 : decide (n < 281474976710656) = false := decide_eq_false (by omega)
            cases is
            · go_wp2_with ((with_reducible refine wpList_unguard ?_ ?_); (focus rfl))
              all_goals (go_ret; exact ⟨rfl, KE.out.1⟩)
            · have HPQ : Hid (p = numV a.toNat b.toNat c.toNat ∧ q = numV x.toNat y.toNat z.toNat) := ⟨HPV.out, by rw [← HQ.out]; unfold verN; rw [HIS.out]; rfl⟩
              have hxr := verOk_range HIS.out
              go_wp2_with ((with_reducible refine wpList_unguard ?_ ?_); (focus rfl))
              all_goals
                go_ret
                refine ⟨?_, KE.out.1⟩
                have h1 := HPQ.out.1
                have h2 := HPQ.out.2
                unfold numV at h1 h2
                first
                | (simp; done)
                | (simp; omega)
          · have ht1 : decide (0 ≤ n) = false := decide_eq_false hn0
            cases is
            · go_wp2_with ((with_reducible refine wpList_unguard ?_ ?_); (focus rfl))
              all_goals (go_ret; exact ⟨rfl, KE.out.1⟩)
            · have HPQ : Hid (p = numV a.toNat b.toNat c.toNat ∧ q = numV x.toNat y.toNat z.toNat) := ⟨HPV.out, by rw [← HQ.out]; unfold verN; rw [HIS.out]; rfl⟩
              have hxr := verOk_range HIS.out
              go_wp2_with ((with_reducible refine wpList_unguard ?_ ?_); (focus rfl))
              all_goals
                go_ret
                refine ⟨?_, KE.out.1⟩
                have h1 := HPQ.out.1
                have h2 := HPQ.out.2
                unfold numV at h1 h2
                first
                | (simp; done)
                | (simp; omega)
end Go.Proofs.Ytiailpbmmadaeaa
