/-
  A device: Program, where it does nothing; and all of it.
-/
import Derived.Test.YtiicbbhjepkndaaDev7
namespace Go.Proofs.Ytiicbbhjepkndaa
open Go.RowKit Tri

theorem dev_Program_nil (w : World) (c : Int) (p : ByteArray) :
    Calls Try.prog 20 #[.pointer none, .int .i64 c, .string p] w fun e w' => e = .returned (.int .i64 1) ∧ w = w' := by
  (go_enter Try.func20, Try.ntmps20; try simp only [List.append])
  go_wp2_with ((with_reducible refine wpList_unguard ?_ ?_); (focus rfl))
  go_ret
  exact ⟨rfl, rfl⟩
set_option maxHeartbeats 2000000 in
theorem dev_Program_dn (i : DI) (n : Nat) (s : FS) (w : World) (c : Int) (p : ByteArray) (h : DevP w i n s) (hd : s.dn = true) :
    Calls Try.prog 20 #[.pointer (some ⟨i.D, 0, none⟩), .int .i64 c, .string p] w fun e w' => e = .returned (.int .i64 5) ∧ w = w' := by
  have c6 := h.c6
  rw [hd] at c6
  clear h
  (go_enter Try.func20, Try.ntmps20; try simp only [List.append])
  go_wp2_with ((with_reducible refine wpList_unguard ?_ ?_); (focus rfl))
  go_ret
  exact ⟨rfl, rfl⟩
theorem tmod_zero (c : Int) : (Int.tmod c 16 = 0) ↔ c % 16 = 0 := by
  rw [← Int.dvd_iff_tmod_eq_zero, ← Int.dvd_iff_emod_eq_zero]
set_option maxHeartbeats 2000000 in
theorem dev_Program_al (i : DI) (n : Nat) (s : FS) (w : World) (c : Int) (p : ByteArray) (h : DevP w i n s) (hd : s.dn = false) (hc : c % 16 ≠ 0 ∨ p.size ≠ 16) :
    Calls Try.prog 20 #[.pointer (some ⟨i.D, 0, none⟩), .int .i64 c, .string p] w fun e w' => e = .returned (.int .i64 3) ∧ w = w' := by
  have c6 := h.c6
  rw [hd] at c6
  clear h
  by_cases h0 : c % 16 = 0
  · have q1 : Int.tmod c 16 = 0 := (tmod_zero c).2 h0
    have q2 : ((p.size : Int) != 16) = true := by rw [bne_iff_ne]; omega
    (go_enter Try.func20, Try.ntmps20; try simp only [List.append])
    go_wp2_with ((with_reducible refine wpList_unguard ?_ ?_); (focus rfl))
    go_ret
    exact ⟨rfl, rfl⟩
  · have q1 : (Int.tmod c 16 != 0) = true := by rw [bne_iff_ne]; exact fun h => h0 ((tmod_zero c).1 h)
    (go_enter Try.func20, Try.ntmps20; try simp only [List.append])
    go_wp2_with ((with_reducible refine wpList_unguard ?_ ?_); (focus rfl))
    go_ret
    exact ⟨rfl, rfl⟩
set_option maxHeartbeats 2000000 in
theorem dev_Program_far (i : DI) (n : Nat) (s : FS) (w : World) (c : Int) (p : ByteArray) (h : DevP w i n s) (hd : s.dn = false) (hc : -9223372036854775808 ≤ c ∧ c ≤ 9223372036854775807) (hc16 : c % 16 = 0) (hp : p.size = 16) (hr : ¬ (0 ≤ c ∧ c < 64 * n)) :
    Calls Try.prog 20 #[.pointer (some ⟨i.D, 0, none⟩), .int .i64 c, .string p] w fun e w' => e = .returned (.int .i64 2) ∧ w = w' := by
  have c6 := h.c6
  rw [hd] at c6
  have hW := hid (dev_wrong i n s w c 16 h (by omega) (by omega))
  rw [hd, show wrongE n false c 16 = 2 from by unfold wrongE; rw [if_neg (by decide), if_neg (by omega)]] at hW
  clear h
  have q1 : Int.tmod c 16 = 0 := (tmod_zero c).2 hc16
  have hp2 : (p.size : Int) = 16 := by omega
  (go_enter Try.func20, Try.ntmps20; try simp only [List.append])
  go_wp2_with ((with_reducible refine wpList_unguard ?_ ?_); (focus rfl))
  refine Calls.mono hW.out ?_; rintro e w0 ⟨rfl, rfl⟩
  go_wp2_with ((with_reducible refine wpList_unguard ?_ ?_); (focus rfl))
  go_ret
  exact ⟨rfl, rfl⟩
set_option maxHeartbeats 2000000 in
theorem dev_Program_lock (i : DI) (n : Nat) (s : FS) (w : World) (c : Nat) (p : ByteArray) (h : DevP w i n s) (hd : s.dn = false) (hc : c < 64 * n) (hc16 : c % 16 = 0) (hp : p.size = 16) (hl : s.lk.getD (c / 64) false = true) :
    Calls Try.prog 20 #[.pointer (some ⟨i.D, 0, none⟩), .int .i64 c, .string p] w fun e w' => e = .returned (.int .i64 4) ∧ w = w' := by
  have hn : n ≤ 512 := h.fs.2.2.2.1
  have hcl := h.cl
  have c6 := h.c6
  rw [hd] at c6
  have hW := hid (dev_wrong i n s w c 16 h (by omega) (by omega))
  rw [hd, show wrongE n false (c : Int) 16 = 0 from wrongE_of ⟨rfl, by omega, by omega, by omega⟩] at hW
  have c4 := h.c4
  have cl := h.lAt (c / 64) (by omega)
  rw [hl] at cl
  clear h hl
  have q1 : Int.tmod (c : Int) 16 = 0 := (tmod_zero c).2 (by omega)
  have hp2 : (p.size : Int) = 16 := by omega
  (go_enter Try.func20, Try.ntmps20; try simp only [List.append])
  go_wp2_with ((with_reducible refine wpList_unguard ?_ ?_); (focus rfl))
  refine Calls.mono hW.out ?_; rintro e w0 ⟨rfl, rfl⟩
  go_wp2_with ((with_reducible refine wpList_unguard ?_ ?_); (focus rfl))
  go_ret
  exact ⟨rfl, rfl⟩
/-- Program. -/
theorem dev_Program (i : DI) (n : Nat) (s : FS) (w : World) (c : Int) (p : ByteArray) (h : DevP w i n s) (hc : -9223372036854775808 ≤ c ∧ c ≤ 9223372036854775807) :
    Calls Try.prog 20 #[.pointer (some ⟨i.D, 0, none⟩), .int .i64 c, .string p] w fun e w' =>
      e = .returned (.int .i64 (s.progE n c (sb p) : Nat)) ∧ DevP w' i n (s.prog n c (sb p)) ∧ Out i.lo i.hi w w' := by
  have hpl := sb_length p
  have same : ∀ k : Nat, s.progE n c (sb p) = k → ¬ (s.dn = false ∧ (c % 16 = 0 ∧ (sb p).length = 16) ∧ (0 ≤ c ∧ c < 64 * n) ∧ s.lkd (c / 64) = false) →
      Calls Try.prog 20 #[.pointer (some ⟨i.D, 0, none⟩), .int .i64 c, .string p] w (fun e w' => e = .returned (.int .i64 (k : Nat)) ∧ w = w') →
      Calls Try.prog 20 #[.pointer (some ⟨i.D, 0, none⟩), .int .i64 c, .string p] w fun e w' =>
        e = .returned (.int .i64 (s.progE n c (sb p) : Nat)) ∧ DevP w' i n (s.prog n c (sb p)) ∧ Out i.lo i.hi w w' := by
    intro k hk hn hcall
    refine hcall.mono ?_
    rintro e w' ⟨rfl, rfl⟩
    have hS : s.prog n c (sb p) = s := by unfold FS.prog; rw [if_neg hn]
    rw [hS, hk]
    exact ⟨rfl, h, Out.refl _ _ _⟩
  cases hdn : s.dn with
  | true =>
    refine same 5 ?_ ?_ (dev_Program_dn i n s w c p h hdn)
    · unfold FS.progE; rw [hdn, if_pos rfl]
    · rintro ⟨h1, _⟩; rw [h1] at hdn; cases hdn
  | false =>
    by_cases ha : c % 16 ≠ 0 ∨ p.size ≠ 16
    · refine same 3 ?_ ?_ (dev_Program_al i n s w c p h hdn ha)
      · unfold FS.progE; rw [hdn, if_neg (by decide), if_pos (by rw [hpl]; exact ha)]
      · rintro ⟨_, ⟨h1, h2⟩, _⟩; rw [hpl] at h2; omega
    · have ha1 : c % 16 = 0 := by omega
      have ha2 : p.size = 16 := by omega
      by_cases hr : 0 ≤ c ∧ c < 64 * n
      · obtain ⟨j, rfl⟩ : ∃ j : Nat, c = j := ⟨c.toNat, by omega⟩
        have hjq : ((j : Int) / 64).toNat = j / 64 := by omega
        cases hl : s.lk.getD (j / 64) false with
        | true =>
          refine same 4 ?_ ?_ (dev_Program_lock i n s w j p h hdn (by omega) (by omega) ha2 hl)
          · unfold FS.progE FS.lkd; rw [hdn, if_neg (by decide), if_neg (by rw [hpl]; omega), if_pos hr, hjq, hl]; rfl
          · unfold FS.lkd; rintro ⟨_, _, _, h3⟩; rw [hjq, hl] at h3; cases h3
        | false =>
          refine (dev_Program_ok i n s w j p h hdn (by omega) (by omega) ha2 hl).mono ?_
          rintro e w' ⟨rfl, hD, hO⟩
          have hS : s.prog n j (sb p) = { partS s with b := s.wroteB (fun j x => x &&& (sb p).getD j 0) (fun j x => x &&& ((sb p).getD j 0 ||| s.m)) j 16 } := by
            unfold FS.prog FS.lkd
            rw [if_pos ⟨hdn, ⟨ha1, by rw [hpl]; exact ha2⟩, hr, by rw [hjq]; exact hl⟩, Int.toNat_natCast]
          have hE : s.progE n j (sb p) = if s.lf = 0 then 5 else 0 := by
            unfold FS.progE FS.lkd; rw [hdn, if_neg (by decide), if_neg (by rw [hpl]; omega), if_pos hr, hjq, hl]; rfl
          rw [hS, hE]
          exact ⟨rfl, hD, hO⟩
      · refine same 2 ?_ ?_ (dev_Program_far i n s w c p h hdn hc ha1 ha2 hr)
        · unfold FS.progE; rw [hdn, if_neg (by decide), if_neg (by rw [hpl]; omega), if_neg hr]
        · rintro ⟨_, _, h1, _⟩; exact hr h1
end Go.Proofs.Ytiicbbhjepkndaa
