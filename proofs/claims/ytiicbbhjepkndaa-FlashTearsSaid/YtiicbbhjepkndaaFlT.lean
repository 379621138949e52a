/-
  FlashTears, walked.
-/
import Derived.Test.YtiicbbhjepkndaaFlU
import Derived.Test.YtiicbbhjepkndaaDevA
import Derived.Test.YtiicbbhjepkndaaDevK
import Derived.Test.YtiicbbhjepkndaaQreg
import Derived.Lib.OthersKept
import Derived.Laws.BitsAllLaws
namespace Tri
open Go Go.RowKit
theorem andNot_zero {x y : Nat} (hy : y < 256) (h : ∀ i, x.testBit i = true → y.testBit i = true) : x &&& (255 - y) = 0 := by
  apply Nat.eq_of_testBit_eq
  intro i
  rw [Nat.testBit_and, show 255 - y = 2 ^ 8 - (y + 1) from by omega, Nat.testBit_two_pow_sub_succ (by omega), Nat.zero_testBit]
  cases hx : x.testBit i with
  | false => rfl
  | true => rw [h i hx]; simp
/-- What is left of an erase that was torn. -/
theorem erase_bit (s : FS) (n : Nat) (c : Nat) (j : Nat) (hl : s.lf = 0) (hj : j < s.b.length) (hm : s.m < 256) (hb : s.b.getD j 0 < 256) : (s.erase n c).b.getD j 0 < 256 ∧ s.b.getD j 0 &&& (255 - (s.erase n c).b.getD j 0) = 0 := by
  have same : s.b.getD j 0 &&& (255 - s.b.getD j 0) = 0 := andNot_zero hb (fun i h => h)
  unfold FS.erase
  split
  · show (s.wroteB (fun _ _ => 255) (fun _ x => x ||| s.m) (64 * (c : Int).toNat) 64).getD j 0 < 256 ∧ _ &&& (255 - (s.wroteB (fun _ _ => 255) (fun _ x => x ||| s.m) (64 * (c : Int).toNat) 64).getD j 0) = 0
    rw [wroteB_at _ _ _ _ _ _ hj]
    split
    · exact ⟨by omega, by simp⟩
    · split
      · exact ⟨or_lt hb hm, andNot_zero (or_lt hb hm) (fun i h => by rw [Nat.testBit_or, h, Bool.true_or])⟩
      · exact ⟨hb, same⟩
  · exact ⟨hb, same⟩
/-- What is left of a program. -/
theorem prog_bit (s : FS) (n : Nat) (a : Nat) (p : List Nat) (j : Nat) (hj : j < s.b.length) (hb : s.b.getD j 0 < 256) : (s.prog n a p).b.getD j 0 < 256 ∧ (s.prog n a p).b.getD j 0 &&& (255 - s.b.getD j 0) = 0 := by
  have same : s.b.getD j 0 &&& (255 - s.b.getD j 0) = 0 := andNot_zero hb (fun i h => h)
  unfold FS.prog
  split
  · show (s.wroteB (fun j x => x &&& p.getD j 0) (fun j x => x &&& (p.getD j 0 ||| s.m)) (a : Int).toNat 16).getD j 0 < 256 ∧ (s.wroteB (fun j x => x &&& p.getD j 0) (fun j x => x &&& (p.getD j 0 ||| s.m)) (a : Int).toNat 16).getD j 0 &&& _ = 0
    rw [wroteB_at _ _ _ _ _ _ hj]
    split
    · exact ⟨and_lt _ _ hb, andNot_zero hb (fun i h => by rw [Nat.testBit_and, Bool.and_eq_true] at h; exact h.1)⟩
    · split
      · exact ⟨and_lt _ _ hb, andNot_zero hb (fun i h => by rw [Nat.testBit_and, Bool.and_eq_true] at h; exact h.1)⟩
      · exact ⟨hb, same⟩
  · exact ⟨hb, same⟩
theorem torn_eE (s : FS) (hd : s.dn = false) (hl : s.lf = 0) (hk : s.lk = List.replicate 3 false) : s.eraseE 3 1 = 5 ∧ (s.erase 3 1).dn = true := by
  have hlk : s.lkd 1 = false := by unfold FS.lkd; rw [hk]; rfl
  refine ⟨?_, ?_⟩
  · unfold FS.eraseE
    rw [hd, if_neg (by decide), if_pos (by decide), hlk, if_neg (by decide), if_pos hl]
  · unfold FS.erase
    rw [if_pos ⟨hd, by decide, hlk⟩]
    show (partS s).dn = true
    rw [partS_dn s hd, hl]
    rfl
theorem torn_pE (s : FS) (p : List Nat) (hp : p.length = 16) (hd : s.dn = false) (hl : s.lf = 0) (hk : s.lk = List.replicate 3 false) : s.progE 3 80 p = 5 ∧ (s.prog 3 80 p).dn = true := by
  have hlk : s.lkd (80 / 64) = false := by unfold FS.lkd; rw [hk]; rfl
  refine ⟨?_, ?_⟩
  · unfold FS.progE
    rw [hd, if_neg (by decide), if_neg (by rw [hp]; decide), if_pos (by decide), hlk, if_neg (by decide), if_pos hl]
  · unfold FS.prog
    rw [if_pos ⟨hd, ⟨by decide, hp⟩, by decide, hlk⟩]
    show (partS s).dn = true
    rw [partS_dn s hd, hl]
    rfl
theorem erase_dump (s : FS) (n c d : Nat) (hb : s.b.length = 64 * n) (hc : c ≠ d) (hdn : d < n) : (s.erase n c).dumpB n d = s.dumpB n d := by
  unfold FS.dumpB
  rw [if_pos (by omega), if_pos (by omega)]
  exact part_ext _ _ (erase_len s n c) fun j h1 h2 => erase_at s n c j (by omega) (by omega)
theorem prog_dump (s : FS) (n a d : Nat) (p : List Nat) (hb : s.b.length = 64 * n) (hc : a / 64 ≠ d) (ha : a % 16 = 0) (hdn : d < n) : (s.prog n a p).dumpB n d = s.dumpB n d := by
  unfold FS.dumpB
  rw [if_pos (by omega), if_pos (by omega)]
  exact part_ext _ _ (prog_len s n a p) fun j h1 h2 => prog_at s n a p j (by omega) (by omega)
theorem width_pos (s : ByteArray) (pos : Nat) (h : pos < s.size) : 1 ≤ (Utf8.decode s pos).2 := by
  by_cases ha : (s[pos]'h).toNat < 128
  · rw [decode_ascii s pos h ha]
    exact Nat.le_refl _
  · exact (decode_high s pos h (by omega)).2
theorem dump_at (s : FS) (n c j : Nat) (hc : c < n) (hj : j < 64) : (s.dumpB n c).getD j 0 = s.b.getD (64 * c + j) 0 := by
  unfold FS.dumpB
  rw [if_pos (by omega), Int.toNat_natCast, List.getD_eq_getElem?_getD, List.getElem?_take, if_pos hj, List.getElem?_drop, List.getD_eq_getElem?_getD]
theorem dump_len (s : FS) (n c : Nat) (hc : c < n) (hb : s.b.length = 64 * n) : (s.dumpB n c).length = 64 := by
  unfold FS.dumpB
  rw [if_pos (by omega), Int.toNat_natCast, List.length_take, List.length_drop]
  omega
end Tri
namespace Go.Proofs.Ytiicbbhjepkndaa
open Go.RowKit Tri

set_option maxHeartbeats 16000000 in
set_option maxRecDepth 100000 in
theorem flashTears.walk (a0 : ByteArray) (a1 : Bool) (tk2 : Int) (tm2 : Nat) (w : World) (w0 : a0.size ≤ maxLen) (w2 : Tri.i64ok tk2 ∧ tm2 < 256) :
    Calls Try.prog 3 #[.string a0, .bool a1, .agg #[.int .i64 tk2, .int .u8 (tm2 : Nat)]] w fun e w' => e = .returned (.bool true) ∧ Below w.heap.size w w' := by
  obtain ⟨htk, htm⟩ := w2
  have hbT := (Below.refl w.heap.size w).alloc (Nat.le_refl _) (.cells #[.int .i64 tk2, .int .u8 (tm2 : Nat)] 23)
  have hT0 := rowP.new w 23 #[.int .i64 tk2, .int .u8 (tm2 : Nat)]
  have HB0 := hid hbT
  have HT0 := hid hT0
  clear hbT hT0
  have hcv := fun (w : World) => Lib.run_convert_string_bytes (P := Try.prog) w 9 30 5 a0 Try.underlying9 Try.underlying30 Try.underlying5
  (go_enter Try.func3, Try.ntmps3; try simp only [List.append])
  go_wp2_with ((with_reducible refine wpList_unguard ?_ ?_); (focus rfl))
  generalize w.alloc (.cells #[.int .i64 tk2, .int .u8 (tm2 : Nat)] 23) = w1 at *
  refine Calls.mono (law08_awake w1) ?_; rintro e w3 ⟨rfl, hb⟩
  have HT3 := hid (HT0.out.below hb HT0.out.lt)
  have HB3 := hid (HB0.out.trans (hb.mono HB0.out.size))
  clear hb HT0 HB0
  go_wp2_with ((with_reducible refine wpList_unguard ?_ ?_); (focus rfl))
  refine Calls.mono (dev_New 3 w3 (by omega) (by omega)) ?_; rintro e w4 ⟨i, rfl, hlo, hhi, hD, hb⟩
  have HD4 := hid hD
  have HT4 := hid (HT3.out.below hb HT3.out.lt)
  have HB4 := hid (HB3.out.trans (hb.mono HB3.out.size))
  have hwz : w.heap.size ≤ i.lo := by rw [hlo]; exact HB3.out.size
  have hwt : w.heap.size < i.lo := by rw [hlo]; exact HT3.out.lt
  clear hb hD HT3 HB3 hlo
  rcases Nat.lt_or_ge 1000 a0.size with hbig | hbig
  · have q1 : decide ((1000 : Int) < a0.size) = true := decide_eq_true (by omega)
    clear hcv
    go_wp2_with ((with_reducible refine wpList_unguard ?_ ?_); (focus rfl))
    go_ret
    exact ⟨rfl, HB4.out⟩
  · have q1 : decide ((1000 : Int) < a0.size) = false := decide_eq_false (by omega)
    obtain ⟨m, hm⟩ : ∃ m, min a0.size 192 = m := ⟨_, rfl⟩
    have hm1 : m ≤ a0.size := by omega
    have hm2 : m ≤ 192 := by omega
    have hmI : min (a0.size : Int) 192 = (m : Int) := by omega
    have hbb := bytes_below w4 5 a0
    have hcc := bytes_cells w4 5 a0
    have HD5 := hid (HD4.out.below hbb)
    have HT5 := hid (HT4.out.below hbb HT4.out.lt)
    have HB5 := hid (HB4.out.trans (hbb.mono HB4.out.size))
    have h4i := HD4.out.hi
    have hge := grownCap_ge w4 a0.size 0 5
    have hcc2 : cellsB (Lib.bytesWorld w4 5 a0) (some ⟨w4.heap.size, 0, none⟩) ((sb a0).take m) := by
      intro j hj
      rw [List.length_take, sb_length] at hj
      obtain ⟨a, o, e, hc⟩ := hcc j (by rw [sb_length]; omega)
      refine ⟨a, o, e, ?_⟩
      rw [hc, List.getD_eq_getElem?_getD, List.getD_eq_getElem?_getD, List.getElem?_take, if_pos (by omega)]
    have hlm : ((sb a0).take m).length = m := by rw [List.length_take, sb_length]; omega
    clear hbb hcc HD4 HT4 HB4
    go_wp2_with ((with_reducible refine wpList_unguard ?_ ?_); (focus rfl))
    have hRot := dev_Rot i 3 (newS 3) (Lib.bytesWorld w4 5 a0) 0 (some ⟨w4.heap.size, 0, none⟩) m (grownCap w4 a0.size 0 5) ((sb a0).take m) HD5.out (by omega) hlm.symm (by rw [hlm]; omega) hcc2 (fun x hx => sb_lt a0 x (List.mem_of_mem_take hx)) (by intro a o s h; simp only [Option.some.injEq, Addr.mk.injEq] at h; omega)
    refine Calls.mono hRot ?_; rintro e w6 ⟨rfl, hD6, hO6⟩
    have hlk : ((newS 3).rot 3 0 ((sb a0).take m)).lk = List.replicate 3 false := by unfold FS.rot; split <;> rfl
    have hdn : ((newS 3).rot 3 0 ((sb a0).take m)).dn = false := by unfold FS.rot; split <;> rfl
    have HD6 := hid hD6
    have HT6 := hid (HT5.out.out hO6 (.inl hwt))
    have HB6 := hid (Out.belowB hO6 HB5.out hwz)
    clear hRot hD6 hO6 HD5 HT5 HB5 hcc2 hcv hlm hge hmI
    generalize (newS 3).rot 3 0 ((sb a0).take m) = s1 at *
    generalize (FS.rotE 3 0 ((sb a0).take m) : Nat) = e1 at *
    have HLK := hid hlk
    have HDN := hid hdn
    clear hlk hdn
    go_wp2_with ((with_reducible refine wpList_unguard ?_ ?_); (focus rfl))
    refine Calls.mono (dev_Dump i 3 s1 w6 0 HD6.out) ?_; rintro e w7 ⟨rfl, rfl⟩
    obtain ⟨D0, hD0⟩ : ∃ D0, s1.dumpB 3 0 = D0 := ⟨_, rfl⟩
    rw [hD0]
    go_wp2_with ((with_reducible refine wpList_unguard ?_ ?_); (focus rfl))
    refine Calls.mono (dev_Dump i 3 s1 w6 1 HD6.out) ?_; rintro e w7 ⟨rfl, rfl⟩
    obtain ⟨D1, hD1⟩ : ∃ D1, s1.dumpB 3 1 = D1 := ⟨_, rfl⟩
    rw [hD1]
    go_wp2_with ((with_reducible refine wpList_unguard ?_ ?_); (focus rfl))
    refine Calls.mono (dev_Dump i 3 s1 w6 2 HD6.out) ?_; rintro e w7 ⟨rfl, rfl⟩
    obtain ⟨D2, hD2⟩ : ∃ D2, s1.dumpB 3 2 = D2 := ⟨_, rfl⟩
    rw [hD2]
    have HDD := hid (And.intro hD0 (And.intro hD1 hD2))
    clear hD0 hD1 hD2
    have hbA := (Below.refl w6.heap.size w6).alloc (Nat.le_refl _) (.cells #[.string (ofB D0), .string (ofB D1), .string (ofB D2)] 32)
    have hA0 := rowP.new w6 32 #[.string (ofB D0), .string (ofB D1), .string (ofB D2)]
    have HD7 := hid (HD6.out.below hbA)
    have HT7 := hid (HT6.out.below hbA HT6.out.lt)
    have HB7 := hid (HB6.out.trans (hbA.mono HB6.out.size))
    have HA7 := hid hA0
    have h6i := HD6.out.hi
    have tt0 := HT7.out.cell 0 _ rfl
    have tt1 := HT7.out.cell 1 _ rfl
    have hs67 : (w6.alloc (.cells #[.string (ofB D0), .string (ofB D1), .string (ofB D2)] 32)).heap.size = w6.heap.size + 1 := by simp
    clear hbA hA0 HD6 HT6 HB6
    go_wp2_with ((with_reducible refine wpList_unguard ?_ ?_); (focus rfl))
    refine Calls.mono (dev_Fuse i 3 s1 _ tk2 tm2 0 HD7.out htm (by omega)) ?_; rintro e w9 ⟨rfl, hD9, hO9⟩
    have HD9 := hid hD9
    have hhi7 : i.hi ≤ w6.heap.size := h6i
    have HT9 := hid (HT7.out.out hO9 (.inl hwt))
    have HA9 := hid (HA7.out.out hO9 (.inr h6i))
    have HB9 := hid (Out.belowB hO9 HB7.out hwz)
    have hlf : (fuseS s1 tk2 tm2 0).lf = 0 := by show max 0 (-1 : Int) = 0; omega
    have hmm : (fuseS s1 tk2 tm2 0).m < 256 := htm
    have hlk2 : (fuseS s1 tk2 tm2 0).lk = List.replicate 3 false := HLK.out
    have hdn2 : (fuseS s1 tk2 tm2 0).dn = false := HDN.out
    have hbl : (fuseS s1 tk2 tm2 0).b.length = 64 * 3 := HD9.out.fs.1
    have HLT : Hid (∀ j, (fuseS s1 tk2 tm2 0).b.getD j 0 < 256) := fun j => HD9.out.bLt j
    have HDD2 : Hid ((fuseS s1 tk2 tm2 0).b = s1.b) := rfl
    clear hD9 hO9 HD7 HT7 HA7 HB7
    have HDD : Hid ((fuseS s1 tk2 tm2 0).dumpB 3 0 = D0 ∧ (fuseS s1 tk2 tm2 0).dumpB 3 1 = D1 ∧ (fuseS s1 tk2 tm2 0).dumpB 3 2 = D2) := HDD
    generalize (fuseS s1 tk2 tm2 0) = s2 at *
    cases a1 with
    | true =>
        have HEE := hid (torn_eE s2 hdn2 hlf hlk2)
        go_wp2_with ((with_reducible refine wpList_unguard ?_ ?_); (focus rfl))
        refine Calls.mono (dev_Erase i 3 s2 _ 1 HD9.out (by omega)) ?_; rintro e w8 ⟨rfl, hD8, hO8⟩
        rw [HEE.out.1]
        have HE2 := hid hD8.fs
        have HD8 := hid hD8
        have HT8 := hid (HT9.out.out hO8 (.inl hwt))
        have HA8 := hid (HA9.out.out hO8 (.inr h6i))
        have HB8 := hid (Out.belowB hO8 HB9.out hwz)
        have hDD := HDD.out
        obtain ⟨D3, hD3⟩ : ∃ D3, (s2.erase 3 1).dumpB 3 1 = D3 := ⟨_, rfl⟩
        have HD3 := hid hD3
        have HX0 : Hid ((s2.erase 3 1).dumpB 3 0 = D0) := (erase_dump s2 3 1 0 hbl (by omega) (by omega)).trans hDD.1
        have HX2 : Hid ((s2.erase 3 1).dumpB 3 2 = D2) := (erase_dump s2 3 1 2 hbl (by omega) (by omega)).trans hDD.2.2
        have hl3 : D3.length = 64 := by rw [← hD3]; exact dump_len _ 3 1 (by omega) HE2.out.1
        have hl1 : D1.length = 64 := by rw [← hDD.2.1]; exact dump_len _ 3 1 (by omega) hbl
        have HBIT : Hid (∀ j, j < 64 → D3.getD j 0 < 256 ∧ D1.getD j 0 < 256 ∧ D1.getD j 0 &&& (255 - D3.getD j 0) = 0) := by
          intro j hj
          have h1 : D1.getD j 0 = s2.b.getD (64 + j) 0 := by rw [← hDD.2.1]; exact dump_at s2 3 1 j (by omega) hj
          have h3 : D3.getD j 0 = ((s2.erase 3 1)).b.getD (64 + j) 0 := by rw [← hD3]; exact dump_at _ 3 1 j (by omega) hj
          have hb := HLT.out (64 + j)
          rw [h1, h3]
          have := erase_bit s2 3 1 (64 + j) hlf (by omega) hmm hb
          exact ⟨this.1, hb, this.2⟩
        have hDNt := HEE.out.2
        clear hD8 hO8 HT9 HA9 HB9 HD9 hD3 hDD HE2
        generalize ((s2.erase 3 1)) = s3 at *
        have aa0 := HA8.out.cell 0 _ rfl
        have aa1 := HA8.out.cell 1 _ rfl
        have aa2 := HA8.out.cell 2 _ rfl
        clear tt0 tt1
        go_wp2_with ((with_reducible refine wpList_unguard ?_ ?_); (focus rfl))
        (refine wp_region_quietC (fun w' => Below (w8).heap.size w8 w') (by kernel_rfl) (by kernel_rfl) ((Below.refl _ _).drew) ?_; (repeat (first | go_big_quiet_skip | (go_big_quiet_want; first | (go_big_quiet_op; go_big_quiet_on) | (apply Exists.intro; refine And.intro (fun wq hq => ?_) ?_; (focus ((have a0' := (hq.cell (block_lt_of_cell aa0)).trans aa0; have a1' := (hq.cell (block_lt_of_cell aa1)).trans aa1; have a2' := (hq.cell (block_lt_of_cell aa2)).trans aa2); (try go_simp); first | done | rfl | (first | (go_at_call 22; refine Calls.mono (dev_Down i 3 s3 _ (HD8.out.below hq)) ?_; rintro e w6 ⟨rfl, rfl⟩; exact ⟨by rw [hDNt], hq⟩) | (go_at_call 17; refine Calls.mono (dev_Dump i 3 s3 _ _ (HD8.out.below hq)) ?_; rintro e w6 ⟨rfl, rfl⟩; exact ⟨by first | rw [HX0.out] | rw [HX2.out], hq⟩)))); go_simp; go_big_quiet_on)))); refine quietC_nil _ rfl ?_; intro wE hE)
        have HDE := hid (HD8.out.below hE)
        have HAE := hid (HA8.out.below hE HA8.out.lt)
        have HBE := hid (HB8.out.trans (hE.mono HB8.out.size))
        clear hE HD8 HA8 HB8 HT8 aa0 aa1 aa2 HX0 HX2 hDNt
        go_wp2_with ((with_reducible refine wpList_unguard ?_ ?_); (focus rfl))
        refine Calls.mono (dev_Dump i 3 s3 wE 1 HDE.out) ?_; rintro e w5 ⟨rfl, rfl⟩
        rw [HD3.out]
        have hsz3 : (ofB D3).size = 64 := by rw [ofB_size]; exact hl3
        have hsz1 : (ofB D1).size = 64 := by rw [ofB_size]; exact hl1
        go_wp2_with ((with_reducible refine wpList_unguard ?_ ?_); (focus rfl))
        go_loopw [] (fun wr => ∃ pos : Nat, wr.heap[wE.heap.size]? = some (.stringIter (ofB D3) pos) ∧ Below wE.heap.size wE wr) (fun wr => 64 - wr.iterPos wE.heap.size)
        case atStart =>
          refine ⟨0, ?_, (Below.refl _ _).alloc (Nat.le_refl _) _⟩
          exact World.iter_heap wE (ofB D3) 0
        case round =>
          obtain ⟨pos, hit, hbw⟩ := hrel
          by_cases hp : pos < (ofB D3).size
          · have hnx : ∀ ty, (Instr.next (.pointer (some ⟨wE.heap.size, 0, none⟩)) true ty).run Try.prog wr = _ := fun ty => Lib.run_next_any_at wr wE.heap.size (ofB D3) pos ty hit hp
            have hwd := width_pos (ofB D3) pos hp
            have hit2 := Lib.iterAt_heap wr wE.heap.size (ofB D3) pos (pos + (Utf8.decode (ofB D3) pos).2) hit
            have hbw2 := Lib.below_iterAt hbw (k := wE.heap.size) (Nat.le_refl _) (ofB D3) (pos + (Utf8.decode (ofB D3) pos).2)
            have hpm : wr.iterPos wE.heap.size = pos := by simp only [World.iterPos, hit]
            have hpm2 : (wr.iterAt wE.heap.size (ofB D3) (pos + (Utf8.decode (ofB D3) pos).2)).iterPos wE.heap.size = pos + (Utf8.decode (ofB D3) pos).2 := by simp only [World.iterPos, hit2]
            have HPM := hid hpm
            have HPM2 := hid hpm2
            have HIT2 := hid hit2
            have HBW2 := hid hbw2
            clear hpm hpm2 hit2
            have aa1 := (HAE.out.below hbw2 HAE.out.lt).cell 1 _ rfl
            have hpD : pos < 64 := by omega
            have hp1 : pos < (ofB D1).size := by omega
            obtain ⟨hb3, hb1, hbit⟩ := HBIT.out pos hpD
            have hs3 := str_byte (ofB D3) pos hp
            have hs1 := str_byte (ofB D1) pos hp1
            rw [sb_ofB D3 (by intro x hx; obtain ⟨j, hj, rfl⟩ := List.mem_iff_getElem.1 hx; have := (HBIT.out j (by omega)).1; rwa [List.getD_eq_getElem?_getD, List.getElem?_eq_getElem hj] at this)] at hs3
            rw [sb_ofB D1 (by intro x hx; obtain ⟨j, hj, rfl⟩ := List.mem_iff_getElem.1 hx; have := (HBIT.out j (by omega)).2.1; rwa [List.getD_eq_getElem?_getD, List.getElem?_eq_getElem hj] at this)] at hs1
            obtain ⟨x, hx⟩ : ∃ x, D1.getD pos 0 = x := ⟨_, rfl⟩
            obtain ⟨y, hy⟩ : ∃ y, D3.getD pos 0 = y := ⟨_, rfl⟩
            rw [hx] at hs1 hb1 hbit
            rw [hy] at hs3 hb3 hbit
            clear hx hy hbw hbw2
            have hab := u8_andNot_nat x y hb1 hb3
            rw [hbit] at hab
            go_wp2_with ((with_reducible refine wpList_unguard ?_ ?_); (focus rfl))
            generalize wr.iterAt wE.heap.size (ofB D3) (pos + (Utf8.decode (ofB D3) pos).2) = w2 at *
            go_region
            go_wp2_with ((with_reducible refine wpList_unguard ?_ ?_); (focus rfl))
            go_roundw
            case rel => exact ⟨pos + (Utf8.decode (ofB D3) pos).2, HIT2.out, HBW2.out.drew⟩
            case measure =>
              show 64 - w2.iterPos wE.heap.size < 64 - wr.iterPos wE.heap.size
              rw [HPM.out, HPM2.out]
              omega
          · have hnx : ∀ ty, (Instr.next (.pointer (some ⟨wE.heap.size, 0, none⟩)) true ty).run Try.prog wr = _ := fun ty => Lib.run_next_end_at wr wE.heap.size (ofB D3) pos ty hit hp
            have HBW := hid hbw
            clear hbw hit
            go_wp2_with ((with_reducible refine wpList_unguard ?_ ?_); (focus rfl))
            go_ret
            exact ⟨rfl, HBE.out.trans (HBW.out.mono HBE.out.size)⟩
    | false =>
        have HEE := hid (torn_pE s2 (List.replicate 16 53) (by simp) hdn2 hlf hlk2)
        go_wp2_with ((with_reducible refine wpList_unguard ?_ ?_); (focus rfl))
        refine Calls.mono (strRep 53 16 w9 (by omega)) ?_; rintro e wA ⟨rfl, hbA⟩
        have HTA := hid (HT9.out.below hbA HT9.out.lt)
        have HAA := hid (HA9.out.below hbA HA9.out.lt)
        have HBA := hid (HB9.out.trans (hbA.mono HB9.out.size))
        have HDA := hid (HD9.out.below hbA)
        clear hbA HT9 HA9 HB9 HD9
        have HT9 := HTA
        have HA9 := HAA
        have HB9 := HBA
        have HD9 := HDA
        clear HTA HAA HBA HDA
        go_wp2_with ((with_reducible refine wpList_unguard ?_ ?_); (focus rfl))
        have hPr := dev_Program i 3 s2 wA 80 (repS 16 53) HD9.out (by omega)
        rw [sb_repS _ _ (by omega), HEE.out.1] at hPr
        refine Calls.mono hPr ?_; rintro e w8 ⟨rfl, hD8, hO8⟩
        clear hPr
        have HE2 := hid hD8.fs
        have HD8 := hid hD8
        have HT8 := hid (HT9.out.out hO8 (.inl hwt))
        have HA8 := hid (HA9.out.out hO8 (.inr h6i))
        have HB8 := hid (Out.belowB hO8 HB9.out hwz)
        have hDD := HDD.out
        obtain ⟨D3, hD3⟩ : ∃ D3, (s2.prog 3 80 (List.replicate 16 53)).dumpB 3 1 = D3 := ⟨_, rfl⟩
        have HD3 := hid hD3
        have HX0 : Hid ((s2.prog 3 80 (List.replicate 16 53)).dumpB 3 0 = D0) := (prog_dump s2 3 80 0 _ hbl (by omega) (by omega) (by omega)).trans hDD.1
        have HX2 : Hid ((s2.prog 3 80 (List.replicate 16 53)).dumpB 3 2 = D2) := (prog_dump s2 3 80 2 _ hbl (by omega) (by omega) (by omega)).trans hDD.2.2
        have hl3 : D3.length = 64 := by rw [← hD3]; exact dump_len _ 3 1 (by omega) HE2.out.1
        have hl1 : D1.length = 64 := by rw [← hDD.2.1]; exact dump_len _ 3 1 (by omega) hbl
        have HBIT : Hid (∀ j, j < 64 → D3.getD j 0 < 256 ∧ D1.getD j 0 < 256 ∧ D3.getD j 0 &&& (255 - D1.getD j 0) = 0 ∧ (j < 16 ∨ 32 ≤ j → D3.getD j 0 = D1.getD j 0)) := by
          intro j hj
          have h1 : D1.getD j 0 = s2.b.getD (64 + j) 0 := by rw [← hDD.2.1]; exact dump_at s2 3 1 j (by omega) hj
          have h3 : D3.getD j 0 = ((s2.prog 3 80 (List.replicate 16 53))).b.getD (64 + j) 0 := by rw [← hD3]; exact dump_at _ 3 1 j (by omega) hj
          have hb := HLT.out (64 + j)
          rw [h1, h3]
          have := prog_bit s2 3 80 (List.replicate 16 53) (64 + j) (by omega) hb
          exact ⟨this.1, hb, this.2, fun hj2 => prog_at s2 3 80 _ (64 + j) (by omega) (by omega)⟩
        have hDNt := HEE.out.2
        clear hD8 hO8 HT9 HA9 HB9 HD9 hD3 hDD HE2
        generalize ((s2.prog 3 80 (List.replicate 16 53))) = s3 at *
        have aa0 := HA8.out.cell 0 _ rfl
        have aa1 := HA8.out.cell 1 _ rfl
        have aa2 := HA8.out.cell 2 _ rfl
        clear tt0 tt1
        go_wp2_with ((with_reducible refine wpList_unguard ?_ ?_); (focus rfl))
        (refine wp_region_quietC (fun w' => Below (w8).heap.size w8 w') (by kernel_rfl) (by kernel_rfl) ((Below.refl _ _).drew) ?_; (repeat (first | go_big_quiet_skip | (go_big_quiet_want; first | (go_big_quiet_op; go_big_quiet_on) | (apply Exists.intro; refine And.intro (fun wq hq => ?_) ?_; (focus ((have a0' := (hq.cell (block_lt_of_cell aa0)).trans aa0; have a1' := (hq.cell (block_lt_of_cell aa1)).trans aa1; have a2' := (hq.cell (block_lt_of_cell aa2)).trans aa2); (try go_simp); first | done | rfl | (first | (go_at_call 22; refine Calls.mono (dev_Down i 3 s3 _ (HD8.out.below hq)) ?_; rintro e w6 ⟨rfl, rfl⟩; exact ⟨by rw [hDNt], hq⟩) | (go_at_call 17; refine Calls.mono (dev_Dump i 3 s3 _ _ (HD8.out.below hq)) ?_; rintro e w6 ⟨rfl, rfl⟩; exact ⟨by first | rw [HX0.out] | rw [HX2.out], hq⟩)))); go_simp; go_big_quiet_on)))); refine quietC_nil _ rfl ?_; intro wE hE)
        have HDE := hid (HD8.out.below hE)
        have HAE := hid (HA8.out.below hE HA8.out.lt)
        have HBE := hid (HB8.out.trans (hE.mono HB8.out.size))
        clear hE HD8 HA8 HB8 HT8 aa0 aa1 aa2 HX0 HX2 hDNt
        go_wp2_with ((with_reducible refine wpList_unguard ?_ ?_); (focus rfl))
        refine Calls.mono (dev_Dump i 3 s3 wE 1 HDE.out) ?_; rintro e w5 ⟨rfl, rfl⟩
        rw [HD3.out]
        have hsz3 : (ofB D3).size = 64 := by rw [ofB_size]; exact hl3
        have hsz1 : (ofB D1).size = 64 := by rw [ofB_size]; exact hl1
        go_wp2_with ((with_reducible refine wpList_unguard ?_ ?_); (focus rfl))
        go_loopw [] (fun wr => ∃ pos : Nat, wr.heap[wE.heap.size]? = some (.stringIter (ofB D3) pos) ∧ Below wE.heap.size wE wr) (fun wr => 64 - wr.iterPos wE.heap.size)
        case atStart =>
          refine ⟨0, ?_, (Below.refl _ _).alloc (Nat.le_refl _) _⟩
          exact World.iter_heap wE (ofB D3) 0
        case round =>
          obtain ⟨pos, hit, hbw⟩ := hrel
          by_cases hp : pos < (ofB D3).size
          · have hnx : ∀ ty, (Instr.next (.pointer (some ⟨wE.heap.size, 0, none⟩)) true ty).run Try.prog wr = _ := fun ty => Lib.run_next_any_at wr wE.heap.size (ofB D3) pos ty hit hp
            have hwd := width_pos (ofB D3) pos hp
            have hit2 := Lib.iterAt_heap wr wE.heap.size (ofB D3) pos (pos + (Utf8.decode (ofB D3) pos).2) hit
            have hbw2 := Lib.below_iterAt hbw (k := wE.heap.size) (Nat.le_refl _) (ofB D3) (pos + (Utf8.decode (ofB D3) pos).2)
            have hpm : wr.iterPos wE.heap.size = pos := by simp only [World.iterPos, hit]
            have hpm2 : (wr.iterAt wE.heap.size (ofB D3) (pos + (Utf8.decode (ofB D3) pos).2)).iterPos wE.heap.size = pos + (Utf8.decode (ofB D3) pos).2 := by simp only [World.iterPos, hit2]
            have HPM := hid hpm
            have HPM2 := hid hpm2
            have HIT2 := hid hit2
            have HBW2 := hid hbw2
            clear hpm hpm2 hit2
            have aa1 := (HAE.out.below hbw2 HAE.out.lt).cell 1 _ rfl
            have hpD : pos < 64 := by omega
            have hp1 : pos < (ofB D1).size := by omega
            obtain ⟨hb3, hb1, hbit⟩ := HBIT.out pos hpD
            have hs3 := str_byte (ofB D3) pos hp
            have hs1 := str_byte (ofB D1) pos hp1
            rw [sb_ofB D3 (by intro x hx; obtain ⟨j, hj, rfl⟩ := List.mem_iff_getElem.1 hx; have := (HBIT.out j (by omega)).1; rwa [List.getD_eq_getElem?_getD, List.getElem?_eq_getElem hj] at this)] at hs3
            rw [sb_ofB D1 (by intro x hx; obtain ⟨j, hj, rfl⟩ := List.mem_iff_getElem.1 hx; have := (HBIT.out j (by omega)).2.1; rwa [List.getD_eq_getElem?_getD, List.getElem?_eq_getElem hj] at this)] at hs1
            obtain ⟨x, hx⟩ : ∃ x, D1.getD pos 0 = x := ⟨_, rfl⟩
            obtain ⟨y, hy⟩ : ∃ y, D3.getD pos 0 = y := ⟨_, rfl⟩
            rw [hx] at hs1 hb1 hbit
            rw [hy] at hs3 hb3 hbit
            clear hx hy hbw hbw2
            have hab := u8_andNot_nat y x hb3 hb1
            rw [hbit.1] at hab
            have hbi := hbit.2
            clear hbit
            rcases Nat.lt_or_ge pos 16 with h16 | h16
            · have hyx := hbi (.inl h16)
              subst hyx
              have q6 : decide ((pos : Int) < 16) = true := decide_eq_true (by omega)
              clear hbi
              go_wp2_with ((with_reducible refine wpList_unguard ?_ ?_); (focus rfl))
              generalize wr.iterAt wE.heap.size (ofB D3) (pos + (Utf8.decode (ofB D3) pos).2) = w2 at *
              go_region
              go_wp2_with ((with_reducible refine wpList_unguard ?_ ?_); (focus rfl))
              go_roundw
              case rel => exact ⟨pos + (Utf8.decode (ofB D3) pos).2, HIT2.out, HBW2.out.drew⟩
              case measure =>
                show 64 - w2.iterPos wE.heap.size < 64 - wr.iterPos wE.heap.size
                rw [HPM.out, HPM2.out]
                omega
            · have q6 : decide ((pos : Int) < 16) = false := decide_eq_false (by omega)
              rcases Nat.lt_or_ge pos 32 with h32 | h32
              · have q7 : decide ((32 : Int) ≤ pos) = false := decide_eq_false (by omega)
                clear hbi
                go_wp2_with ((with_reducible refine wpList_unguard ?_ ?_); (focus rfl))
                generalize wr.iterAt wE.heap.size (ofB D3) (pos + (Utf8.decode (ofB D3) pos).2) = w2 at *
                go_region
                go_wp2_with ((with_reducible refine wpList_unguard ?_ ?_); (focus rfl))
                go_roundw
                case rel => exact ⟨pos + (Utf8.decode (ofB D3) pos).2, HIT2.out, HBW2.out.drew⟩
                case measure =>
                  show 64 - w2.iterPos wE.heap.size < 64 - wr.iterPos wE.heap.size
                  rw [HPM.out, HPM2.out]
                  omega
              · have hyx := hbi (.inr h32)
                subst hyx
                have q7 : decide ((32 : Int) ≤ pos) = true := decide_eq_true (by omega)
                clear hbi
                go_wp2_with ((with_reducible refine wpList_unguard ?_ ?_); (focus rfl))
                generalize wr.iterAt wE.heap.size (ofB D3) (pos + (Utf8.decode (ofB D3) pos).2) = w2 at *
                go_region
                go_wp2_with ((with_reducible refine wpList_unguard ?_ ?_); (focus rfl))
                go_roundw
                case rel => exact ⟨pos + (Utf8.decode (ofB D3) pos).2, HIT2.out, HBW2.out.drew⟩
                case measure =>
                  show 64 - w2.iterPos wE.heap.size < 64 - wr.iterPos wE.heap.size
                  rw [HPM.out, HPM2.out]
                  omega
          · have hnx : ∀ ty, (Instr.next (.pointer (some ⟨wE.heap.size, 0, none⟩)) true ty).run Try.prog wr = _ := fun ty => Lib.run_next_end_at wr wE.heap.size (ofB D3) pos ty hit hp
            have HBW := hid hbw
            clear hbw hit
            go_wp2_with ((with_reducible refine wpList_unguard ?_ ?_); (focus rfl))
            go_ret
            exact ⟨rfl, HBE.out.trans (HBW.out.mono HBE.out.size)⟩
end Go.Proofs.Ytiicbbhjepkndaa
