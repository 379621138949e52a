/-
  CrcTurns, walked: the program's part.
-/
import Derived.Test.YtbghfhkhnmmcdaaCrc4
namespace Go.Proofs.Ytbghfhkhnmmcdaa
open Go.RowKit Tri

theorem str_byte (s : ByteArray) (k : Nat) (h : k < s.size) : ((s[k]'h).toNat : Int) = ((sb s).getD k 0 : Nat) := by
  rw [sb_getD s k h]
  congr 2
  rw [List.getD_eq_getElem?_getD, List.getElem?_eq_getElem (by simpa using h)]
  rfl

/-- A new list of one text. -/
def OneS (v : Value) (w : World) (s : ByteArray) : Prop := ∃ n, v = .slice (some ⟨n, 0, none⟩) 1 1 ∧ cellsS w (some ⟨n, 0, none⟩) [s]
theorem OneS.below {v : Value} {w w' : World} {s : ByteArray} (h : OneS v w s) (hb : Below w.heap.size w w') : OneS v w' s := by
  obtain ⟨n, e, hc⟩ := h
  exact ⟨n, e, hc.below hb⟩
theorem OneS.new (w : World) (s : ByteArray) (t : TypeId) : OneS (.slice (some ⟨w.heap.size, 0, none⟩) 1 1) (w.alloc (.cells #[.string s] t)) s :=
  ⟨_, rfl, cellsS.new w [s] _ t rfl⟩
def turnsV (f bs cap : Nat) (a b c : ByteArray) (D : List Nat) (i : Nat) (v : Value) (w : World) : Prop := match i with
  | 0 | 4 | 9 | 14 => v = .pointer (some ⟨f, 0, none⟩)
  | 1 => v = .string a | 5 => v = .string b | 10 => v = .string c | 15 => v = .slice (some ⟨bs, 0, none⟩) a.size cap
  | 16 => v = .string (ofB D)
  | 2 => OneS v w a | 6 => OneS v w b | 11 => OneS v w c | 17 => OneS v w (ofB D)
  | 3 => v = .int .i64 (csum (lb [a])) | 7 => v = .int .i64 (csum (lb [b])) | 12 => v = .int .i64 (csum (lb [c])) | 18 => v = .int .i64 (csum (lb [ofB D]))
  | 8 => v = .int .i64 (csum (lb [a]) ^^^ csum (lb [b]) : Nat) | 13 => v = .int .i64 ((csum (lb [a]) ^^^ csum (lb [b])) ^^^ csum (lb [c]) : Nat)
  | 19 => v = .int .i64 0
  | 20 | 21 => v = .bool true
  | _ => True
theorem turnsV_st (f bs cap : Nat) (a b c : ByteArray) (D : List Nat) (i : Nat) (v : Value) (w w' : World) (hb : Below w.heap.size w w') (h : turnsV f bs cap a b c D i v w) : turnsV f bs cap a b c D i v w' := by
  unfold turnsV at *
  split at h <;> first | exact h | exact h.below hb

set_option maxHeartbeats 1000000 in
set_option maxRecDepth 100000 in
theorem turns_main (a b c : ByteArray) (w : World) (hn : a.size ≤ 1000) (h1 : b.size = a.size) (h2 : c.size = a.size) :
    Calls Try.prog 3 #[.string a, .string b, .string c] w fun e w' => e = .returned (.bool true) ∧ Below w.heap.size w w' := by
  have H1 := hid h1
  have H2 := hid h2
  have hb1 : ((b.size : Int) != a.size) = false := by simp [h1]
  have hc1 : ((c.size : Int) != a.size) = false := by simp [h2]
  clear h1 h2
  have hcv := fun (w : World) (s : ByteArray) => Lib.run_convert_string_bytes (P := Try.prog) w 9 23 5 s Try.underlying9 Try.underlying23 Try.underlying5
  (go_enter Try.func3, Try.ntmps3; try simp only [List.append])
  go_wp2_with ((with_reducible refine wpList_unguard ?_ ?_); (focus rfl))
  (refine Calls.mono (law02_awake _) ?_; rintro e w1 ⟨rfl, hbA⟩; have HBA := hid hbA; clear hbA)
  go_wp2_with ((with_reducible refine wpList_unguard ?_ ?_); (focus rfl))
  have hB1 := hid (HBA.out.trans ((bytes_below w1 5 a).mono HBA.out.size))
  have hcells := hid (bytes_cells w1 5 a)
  have hfree := hid (bytes_free w1 5 a)
  have hbs := hid HBA.out.size
  generalize Lib.bytesWorld w1 5 a = W1 at *
  generalize grownCap w1 a.size 0 5 = cap at *
  generalize w1.heap.size = bs at *
  go_loopw [33] (fun i wr => ∃ k : Nat, k ≤ a.size ∧ i = .int .i64 k ∧ Below w.heap.size w wr ∧ cellsB wr (some ⟨bs, 0, none⟩) (turned (sb a) (sb b) (sb c) k) ∧ ∀ j, j < a.size → wr.frozen? ⟨bs, j, none⟩ = false) (fun i _ => a.size - (intOf i).toNat)
  case atStart => exact ⟨0, Nat.zero_le _, rfl, hB1.out, by rw [show turned (sb a) (sb b) (sb c) 0 = sb a from by simp [turned]]; exact hcells.out, hfree.out⟩
  case round =>
    clear hB1 hcells hfree
    obtain ⟨k, hk, rfl, hB, hD, hF⟩ := hrel
    have HB := hid hB
    have HD := hid hD
    have HF := hid hF
    clear hB hD hF
    by_cases hlt : k < a.size
    · have hbk : k < b.size := by have := H1.out; omega
      have hck : k < c.size := by have := H2.out; omega
      have lab : (sb b).length = (sb a).length := by rw [sb_length, sb_length]; exact H1.out
      have lac : (sb c).length = (sb a).length := by rw [sb_length, sb_length]; exact H2.out
      obtain ⟨a', o', e', hcell0⟩ := HD.out k (by rw [turned_length _ _ _ _ lab lac, sb_length]; exact hlt)
      simp only [Option.some.injEq, Addr.mk.injEq] at e'
      obtain ⟨rfl, rfl, _⟩ := e'
      rw [turned_at _ _ _ _ lab lac (by rw [sb_length]; exact hlt), Nat.zero_add] at hcell0
      have hfr := HF.out k hlt
      have hsb := str_byte b k hbk
      have hsc := str_byte c k hck
      have la : (sb a).getD k 0 < 256 := sb_lt a _ (getD_mem _ k (by rw [sb_length]; exact hlt))
      have lb' : (sb b).getD k 0 < 256 := sb_lt b _ (getD_mem _ k (by rw [sb_length]; exact hbk))
      have lc' : (sb c).getD k 0 < 256 := sb_lt c _ (getD_mem _ k (by rw [sb_length]; exact hck))
      have hset : Hid (cellsB (wr.setCell ⟨bs, k, none⟩ (.int .u8 ((sb a).getD k 0 ^^^ ((sb b).getD k 0 ^^^ (sb c).getD k 0) : Nat))) (some ⟨bs, 0, none⟩) (turned (sb a) (sb b) (sb c) (k + 1))) := by
        have := HD.out.set k ((sb a).getD k 0 ^^^ ((sb b).getD k 0 ^^^ (sb c).getD k 0)) (by rw [turned_length _ _ _ _ lab lac, sb_length]; exact hlt)
        rw [turned_succ _ _ _ _ lab lac (by rw [sb_length]; exact hlt), Nat.zero_add] at this
        exact this
      clear lab lac hcv
      generalize (sb a).getD k 0 = x at *
      generalize (sb b).getD k 0 = y at *
      generalize (sb c).getD k 0 = z at *
      have hx1 := xor_byte y z lb' lc'
      have hx2 := xor_byte x (y ^^^ z) la (xor_lt lb' lc')
      go_wp2
      go_region
      go_wp2
      go_roundw
      case rel => exact ⟨k + 1, by omega, by go_num, by have hh := HB.out; have hbb := hbs.out; go_grown, hset.out, fun j hj => by have := HF.out j hj; simpa using this⟩
      case measure => simp [intOf]; omega
    · obtain rfl : k = a.size := by omega
      clear hcv
      go_wp2_with ((with_reducible refine wpList_unguard ?_ ?_); (focus rfl))
      go_call crc_New _ as e w' ⟨rfl, rfl⟩
      have hF := hid (isC.new wr)
      have hD := hid (HD.out.alloc (.cells crcC 63))
      have hB := hid (HB.out.alloc HB.out.size (.cells crcC 63))
      clear HD HB
      generalize wr.alloc (.cells crcC 63) = w2 at *
      generalize wr.heap.size = f at *
      go_wp2_with ((with_reducible refine wpList_unguard ?_ ?_); (focus rfl))
      have hL : (turned (sb a) (sb b) (sb c) a.size).length = a.size := by
        rw [turned_length _ _ _ _ (by rw [sb_length, sb_length]; exact H1.out) (by rw [sb_length, sb_length]; exact H2.out), sb_length]
      have hS : ∀ l, csum (lb l) < 2 ^ 62 := fun l => Nat.lt_of_lt_of_le (csum_lt _ (lb_lt _)) (by omega)
      have hplain : ((csum (lb [a]) ^^^ csum (lb [b])) ^^^ csum (lb [c])) ^^^ csum (lb [ofB (turned (sb a) (sb b) (sb c) a.size)]) = 0 := by
        have e : ∀ s, lb [s] = sb s := fun s => by simp [lb]
        rw [e, e, e, e, sb_ofB _ (turned_lt _ _ _ (sb_lt a) (sb_lt b) (sb_lt c) _)]
        refine turns_plain _ _ _ (sb_lt a) (sb_lt b) (sb_lt c) (by rw [sb_length, sb_length]; exact H1.out) (by rw [sb_length, sb_length]; exact H2.out) _ ?_
        rw [← sb_length a]
        exact turned_all _ _ _ (by rw [sb_length, sb_length]; exact H1.out) (by rw [sb_length, sb_length]; exact H2.out)
      refine region_any _ _ (fun w' => KeepsC w f w' ∧ cellsB w' (some ⟨bs, 0, none⟩) (turned (sb a) (sb b) (sb c) a.size)) (turnsV f bs cap a b c (turned (sb a) (sb b) (sb c) a.size)) (by kernel_rfl) (by kernel_rfl) (by kernel_rfl) ⟨by decide, rfl⟩ ⟨⟨hB.out.drew, hF.out⟩, hD.out⟩ (turnsV_st f bs cap a b c _) ?_ ?_
      · have HC := True.intro
        refine ⟨fun A w3 hC hu hd K hK => ?_, ?_⟩
        · exact op_tmp 9 _ rfl (hu 9 rfl) (hK _ _ rfl hC (Below.refl _ _))
        refine ⟨fun A w3 hC hu hd K hK => ?_, ?_⟩
        · exact op_tmp 0 _ rfl (hu 0 rfl) (hK _ _ rfl hC (Below.refl _ _))
        refine ⟨fun A w3 hC hu hd K hK => ?_, ?_⟩
        · have h1 : A.tmps[52]?.getD undef = Value.string (a) := by have this : A.tmps.getD 52 undef = Value.string (a) := hd ⟨1, .data⟩ (by simp) rfl _ _ rfl rfl; simpa using this
          clear hu hd
          go_simp
          exact hK _ _ (OneS.new w3 _ _) ⟨hC.1.alloc _, hC.2.alloc _⟩ ((Below.refl _ _).alloc (Nat.le_refl _) _)
        refine ⟨fun A w3 hC hu hd K hK => ?_, ?_⟩
        · have h1 : A.tmps[51]?.getD undef = Value.pointer (some ⟨f, 0, none⟩) := by have this : A.tmps.getD 51 undef = Value.pointer (some ⟨f, 0, none⟩) := hd ⟨0, .data⟩ (by simp) rfl _ _ rfl rfl; simpa using this
          obtain ⟨n, h0, hc⟩ : OneS (A.tmps.getD 53 undef) w3 a := hd ⟨2, .data⟩ (by simp) rfl _ _ rfl rfl; have h2 : A.tmps[53]?.getD undef = .slice (some ⟨n, 0, none⟩) 1 1 := by simpa using h0
          clear hu hd h0
          go_simp
          refine Calls.mono (crc_Sum f _ _ _ [a] _ hC.1.2 rfl hc (by simp) (by simp; omega)) ?_
          rintro e w4 ⟨rfl, hb⟩
          exact hK _ _ rfl ⟨hC.1.below hb, hC.2.below hb⟩ hb
        refine ⟨fun A w3 hC hu hd K hK => ?_, ?_⟩
        · exact op_tmp 9 _ rfl (hu 9 rfl) (hK _ _ rfl hC (Below.refl _ _))
        refine ⟨fun A w3 hC hu hd K hK => ?_, ?_⟩
        · exact op_tmp 1 _ rfl (hu 1 rfl) (hK _ _ rfl hC (Below.refl _ _))
        refine ⟨fun A w3 hC hu hd K hK => ?_, ?_⟩
        · have h1 : A.tmps[56]?.getD undef = Value.string (b) := by have this : A.tmps.getD 56 undef = Value.string (b) := hd ⟨5, .data⟩ (by simp) rfl _ _ rfl rfl; simpa using this
          clear hu hd
          go_simp
          exact hK _ _ (OneS.new w3 _ _) ⟨hC.1.alloc _, hC.2.alloc _⟩ ((Below.refl _ _).alloc (Nat.le_refl _) _)
        refine ⟨fun A w3 hC hu hd K hK => ?_, ?_⟩
        · have h1 : A.tmps[55]?.getD undef = Value.pointer (some ⟨f, 0, none⟩) := by have this : A.tmps.getD 55 undef = Value.pointer (some ⟨f, 0, none⟩) := hd ⟨4, .data⟩ (by simp) rfl _ _ rfl rfl; simpa using this
          obtain ⟨n, h0, hc⟩ : OneS (A.tmps.getD 57 undef) w3 b := hd ⟨6, .data⟩ (by simp) rfl _ _ rfl rfl; have h2 : A.tmps[57]?.getD undef = .slice (some ⟨n, 0, none⟩) 1 1 := by simpa using h0
          clear hu hd h0
          go_simp
          refine Calls.mono (crc_Sum f _ _ _ [b] _ hC.1.2 rfl hc (by simp) (by simp; have := H1.out; omega)) ?_
          rintro e w4 ⟨rfl, hb⟩
          exact hK _ _ rfl ⟨hC.1.below hb, hC.2.below hb⟩ hb
        refine ⟨fun A w3 hC hu hd K hK => ?_, ?_⟩
        · have h1 : A.tmps[54]?.getD undef = Value.int .i64 (csum (lb [a]) : Nat) := by have this : A.tmps.getD 54 undef = Value.int .i64 (csum (lb [a]) : Nat) := hd ⟨3, .data⟩ (by simp) rfl _ _ rfl rfl; simpa using this
          have h2 : A.tmps[58]?.getD undef = Value.int .i64 (csum (lb [b]) : Nat) := by have this : A.tmps.getD 58 undef = Value.int .i64 (csum (lb [b]) : Nat) := hd ⟨7, .data⟩ (by simp) rfl _ _ rfl rfl; simpa using this
          have hx := i64_xor_nat (csum (lb [a])) (csum (lb [b])) (by first | exact hS _ | exact Nat.xor_lt_two_pow (hS _) (hS _) | exact Nat.xor_lt_two_pow (Nat.xor_lt_two_pow (hS _) (hS _)) (hS _)) (hS _)
          clear hu hd
          go_simp
          exact hK _ _ rfl hC (Below.refl _ _)
        refine ⟨fun A w3 hC hu hd K hK => ?_, ?_⟩
        · exact op_tmp 9 _ rfl (hu 9 rfl) (hK _ _ rfl hC (Below.refl _ _))
        refine ⟨fun A w3 hC hu hd K hK => ?_, ?_⟩
        · exact op_tmp 2 _ rfl (hu 2 rfl) (hK _ _ rfl hC (Below.refl _ _))
        refine ⟨fun A w3 hC hu hd K hK => ?_, ?_⟩
        · have h1 : A.tmps[61]?.getD undef = Value.string (c) := by have this : A.tmps.getD 61 undef = Value.string (c) := hd ⟨10, .data⟩ (by simp) rfl _ _ rfl rfl; simpa using this
          clear hu hd
          go_simp
          exact hK _ _ (OneS.new w3 _ _) ⟨hC.1.alloc _, hC.2.alloc _⟩ ((Below.refl _ _).alloc (Nat.le_refl _) _)
        refine ⟨fun A w3 hC hu hd K hK => ?_, ?_⟩
        · have h1 : A.tmps[60]?.getD undef = Value.pointer (some ⟨f, 0, none⟩) := by have this : A.tmps.getD 60 undef = Value.pointer (some ⟨f, 0, none⟩) := hd ⟨9, .data⟩ (by simp) rfl _ _ rfl rfl; simpa using this
          obtain ⟨n, h0, hc⟩ : OneS (A.tmps.getD 62 undef) w3 c := hd ⟨11, .data⟩ (by simp) rfl _ _ rfl rfl; have h2 : A.tmps[62]?.getD undef = .slice (some ⟨n, 0, none⟩) 1 1 := by simpa using h0
          clear hu hd h0
          go_simp
          refine Calls.mono (crc_Sum f _ _ _ [c] _ hC.1.2 rfl hc (by simp) (by simp; have := H2.out; omega)) ?_
          rintro e w4 ⟨rfl, hb⟩
          exact hK _ _ rfl ⟨hC.1.below hb, hC.2.below hb⟩ hb
        refine ⟨fun A w3 hC hu hd K hK => ?_, ?_⟩
        · have h1 : A.tmps[59]?.getD undef = Value.int .i64 (csum (lb [a]) ^^^ csum (lb [b]) : Nat) := by have this : A.tmps.getD 59 undef = Value.int .i64 (csum (lb [a]) ^^^ csum (lb [b]) : Nat) := hd ⟨8, .data⟩ (by simp) rfl _ _ rfl rfl; simpa using this
          have h2 : A.tmps[63]?.getD undef = Value.int .i64 (csum (lb [c]) : Nat) := by have this : A.tmps.getD 63 undef = Value.int .i64 (csum (lb [c]) : Nat) := hd ⟨12, .data⟩ (by simp) rfl _ _ rfl rfl; simpa using this
          have hx := i64_xor_nat (csum (lb [a]) ^^^ csum (lb [b])) (csum (lb [c])) (by first | exact hS _ | exact Nat.xor_lt_two_pow (hS _) (hS _) | exact Nat.xor_lt_two_pow (Nat.xor_lt_two_pow (hS _) (hS _)) (hS _)) (hS _)
          clear hu hd
          go_simp
          exact hK _ _ rfl hC (Below.refl _ _)
        refine ⟨fun A w3 hC hu hd K hK => ?_, ?_⟩
        · exact op_tmp 9 _ rfl (hu 9 rfl) (hK _ _ rfl hC (Below.refl _ _))
        refine ⟨fun A w3 hC hu hd K hK => ?_, ?_⟩
        · exact op_tmp 7 _ rfl (hu 7 rfl) (hK _ _ rfl hC (Below.refl _ _))
        refine ⟨fun A w3 hC hu hd K hK => ?_, ?_⟩
        · have h1 : A.tmps[66]?.getD undef = Value.slice (some ⟨bs, 0, none⟩) a.size cap := by have this : A.tmps.getD 66 undef = Value.slice (some ⟨bs, 0, none⟩) a.size cap := hd ⟨15, .data⟩ (by simp) rfl _ _ rfl rfl; simpa using this
          have hcs := conv_str hC.2 a.size cap hL.symm
          clear hu hd
          go_simp
          exact hK _ _ rfl hC (Below.refl _ _)
        refine ⟨fun A w3 hC hu hd K hK => ?_, ?_⟩
        · have h1 : A.tmps[67]?.getD undef = Value.string ((ofB (turned (sb a) (sb b) (sb c) a.size))) := by have this : A.tmps.getD 67 undef = Value.string ((ofB (turned (sb a) (sb b) (sb c) a.size))) := hd ⟨16, .data⟩ (by simp) rfl _ _ rfl rfl; simpa using this
          clear hu hd
          go_simp
          exact hK _ _ (OneS.new w3 _ _) ⟨hC.1.alloc _, hC.2.alloc _⟩ ((Below.refl _ _).alloc (Nat.le_refl _) _)
        refine ⟨fun A w3 hC hu hd K hK => ?_, ?_⟩
        · have h1 : A.tmps[65]?.getD undef = Value.pointer (some ⟨f, 0, none⟩) := by have this : A.tmps.getD 65 undef = Value.pointer (some ⟨f, 0, none⟩) := hd ⟨14, .data⟩ (by simp) rfl _ _ rfl rfl; simpa using this
          obtain ⟨n, h0, hc⟩ : OneS (A.tmps.getD 68 undef) w3 (ofB (turned (sb a) (sb b) (sb c) a.size)) := hd ⟨17, .data⟩ (by simp) rfl _ _ rfl rfl; have h2 : A.tmps[68]?.getD undef = .slice (some ⟨n, 0, none⟩) 1 1 := by simpa using h0
          clear hu hd h0
          go_simp
          refine Calls.mono (crc_Sum f _ _ _ [(ofB (turned (sb a) (sb b) (sb c) a.size))] _ hC.1.2 rfl hc (by simp) (by simp; rw [ofB_size, hL]; omega)) ?_
          rintro e w4 ⟨rfl, hb⟩
          exact hK _ _ rfl ⟨hC.1.below hb, hC.2.below hb⟩ hb
        refine ⟨fun A w3 hC hu hd K hK => ?_, ?_⟩
        · have h1 : A.tmps[64]?.getD undef = Value.int .i64 ((csum (lb [a]) ^^^ csum (lb [b])) ^^^ csum (lb [c]) : Nat) := by have this : A.tmps.getD 64 undef = Value.int .i64 ((csum (lb [a]) ^^^ csum (lb [b])) ^^^ csum (lb [c]) : Nat) := hd ⟨13, .data⟩ (by simp) rfl _ _ rfl rfl; simpa using this
          have h2 : A.tmps[69]?.getD undef = Value.int .i64 (csum (lb [ofB (turned (sb a) (sb b) (sb c) a.size)]) : Nat) := by have this : A.tmps.getD 69 undef = Value.int .i64 (csum (lb [ofB (turned (sb a) (sb b) (sb c) a.size)]) : Nat) := hd ⟨18, .data⟩ (by simp) rfl _ _ rfl rfl; simpa using this
          have hx := i64_xor_nat ((csum (lb [a]) ^^^ csum (lb [b])) ^^^ csum (lb [c])) (csum (lb [ofB (turned (sb a) (sb b) (sb c) a.size)])) (Nat.xor_lt_two_pow (Nat.xor_lt_two_pow (hS _) (hS _)) (hS _)) (hS _)
          rw [hplain] at hx
          clear hu hd
          go_simp
          exact hK _ _ rfl hC (Below.refl _ _)
        refine ⟨fun A w3 hC hu hd K hK => ?_, ?_⟩
        · have h1 : A.tmps[70]?.getD undef = Value.int .i64 0 := by have this : A.tmps.getD 70 undef = Value.int .i64 0 := hd ⟨19, .data⟩ (by simp) rfl _ _ rfl rfl; simpa using this
          clear hu hd
          go_simp
          exact hK _ _ rfl hC (Below.refl _ _)
        refine ⟨fun A w3 hC hu hd K hK => ?_, ?_⟩
        · have h1 : A.tmps[71]?.getD undef = Value.bool true := by have this : A.tmps.getD 71 undef = Value.bool true := hd ⟨20, .data⟩ (by simp) rfl _ _ rfl rfl; simpa using this
          clear hu hd
          go_simp
          exact hK _ _ rfl hC (Below.refl _ _)
        trivial
      · intro A w3 hC _ hdef _ hu hv
        have h6 : A.tmps[6]?.getD undef = .bool true := by have this : A.tmps.getD 6 undef = .bool true := hv 21 _ 6 rfl rfl; simpa using this
        have hd' : A.defers = [] := hdef
        clear hu hv hdef
        go_wp2
        refine bodyPost_ret (v := .bool true) (by simp [results, Try.results3, go_sem, h6]) hd' ⟨rfl, hC.1.1⟩

set_option maxHeartbeats 400000 in
theorem turns_short (a b c : ByteArray) (w : World) (h : 1000 < a.size ∨ (a.size ≤ 1000 ∧ (b.size ≠ a.size ∨ (b.size = a.size ∧ c.size ≠ a.size)))) :
    Calls Try.prog 3 #[.string a, .string b, .string c] w fun e w' => e = .returned (.bool true) ∧ Below w.heap.size w w' := by
  rcases h with h | ⟨h, h1 | ⟨h1, h2⟩⟩
  · have hd : decide (1000 < (a.size : Int)) = true := by simp; omega
    (go_enter Try.func3, Try.ntmps3; try simp only [List.append])
    go_wp2_with ((with_reducible refine wpList_unguard ?_ ?_); (focus rfl))
    (refine Calls.mono (law02_awake _) ?_; rintro e w1 ⟨rfl, hbA⟩; have HBA := hid hbA; clear hbA)
    go_wp2_with ((with_reducible refine wpList_unguard ?_ ?_); (focus rfl))
    go_ret
    exact ⟨rfl, HBA.out⟩
  · have hd : decide (1000 < (a.size : Int)) = false := by simp; omega
    have hb1 : ((b.size : Int) != a.size) = true := by simp; omega
    clear h1
    (go_enter Try.func3, Try.ntmps3; try simp only [List.append])
    go_wp2_with ((with_reducible refine wpList_unguard ?_ ?_); (focus rfl))
    (refine Calls.mono (law02_awake _) ?_; rintro e w1 ⟨rfl, hbA⟩; have HBA := hid hbA; clear hbA)
    go_wp2_with ((with_reducible refine wpList_unguard ?_ ?_); (focus rfl))
    go_ret
    exact ⟨rfl, HBA.out⟩
  · have hd : decide (1000 < (a.size : Int)) = false := by simp; omega
    have hb1 : ((b.size : Int) != a.size) = false := by simp; omega
    have hc1 : ((c.size : Int) != a.size) = true := by simp; omega
    clear h1 h2
    (go_enter Try.func3, Try.ntmps3; try simp only [List.append])
    go_wp2_with ((with_reducible refine wpList_unguard ?_ ?_); (focus rfl))
    (refine Calls.mono (law02_awake _) ?_; rintro e w1 ⟨rfl, hbA⟩; have HBA := hid hbA; clear hbA)
    go_wp2_with ((with_reducible refine wpList_unguard ?_ ?_); (focus rfl))
    go_ret
    exact ⟨rfl, HBA.out⟩
theorem crcTurns.walk (a0 : ByteArray) (a1 : ByteArray) (a2 : ByteArray) (w : World) (w0 : a0.size ≤ maxLen) (w1 : a1.size ≤ maxLen) (w2 : a2.size ≤ maxLen) :
    Calls Try.prog 3 #[.string a0, .string a1, .string a2] w fun e w' => e = .returned (.bool true) ∧ Below w.heap.size w w' := by
  unfold maxLen at *
  by_cases h : a0.size ≤ 1000 ∧ a1.size = a0.size ∧ a2.size = a0.size
  · exact turns_main a0 a1 a2 w h.1 h.2.1 h.2.2
  · exact turns_short a0 a1 a2 w (by omega)
end Go.Proofs.Ytbghfhkhnmmcdaa
