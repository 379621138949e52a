/-
  Over a field that isn't there.
-/
import Derived.Test.YtlipedigmokgbaaPoly8
namespace Go.Proofs.Ytlipedigmokgbaa
open Go.RowKit Tri


set_option maxHeartbeats 1000000 in
theorem poly_Eval_nil (p : Option Addr) (n c : Nat) (l : List Nat) (x : Nat) (w : World) (hn : n = l.length) (hp : cellsB w p l) (hb : bytesL l) (hx : x < 256) (hl : l.length ≤ 1000000) :
    Calls Try.prog 26 #[.pointer none, .slice p n c, .int .u8 x] w fun e w' => e = .returned (.int .u8 0) ∧ Below w.heap.size w w' := by
  subst hn
  have HP := hid hp
  have HB := hid hb
  clear hp hb
  go_enter Try.func26, Try.ntmps26
  go_wp2_with ((with_reducible refine wpList_unguard ?_ ?_); (focus rfl))
  go_loopw [7, 12] (fun s i wr => ∃ k : Nat, k ≤ l.length ∧ i = .int .i64 k ∧ s = .int .u8 0 ∧ Below w.heap.size w wr) (fun _ i _ => l.length - (intOf i).toNat)
  case atStart => exact ⟨0, Nat.zero_le _, rfl, rfl, Below.refl _ _⟩
  case round =>
    obtain ⟨k, hk, rfl, rfl, hK⟩ := hrel
    have K := hid hK
    clear hK
    by_cases hlt : k < l.length
    · obtain ⟨a, o, rfl, hc0⟩ := HP.out k hlt
      have hc : wr.cell? ⟨a, o + k, none⟩ = some (.int .u8 (l.getD k 0 : Nat)) := by
        rw [K.out.cell (p := ⟨a, o + k, none⟩) (block_lt_of_cell hc0)]; exact hc0
      have hy : l.getD k 0 < 256 := HB.out _ (getD_mem l k hlt)
      clear hc0
      generalize l.getD k 0 = y at *
      go_wp2_with ((with_reducible refine wpList_unguard ?_ ?_); (focus rfl))
      refine Calls.mono (gf_Mul2_nil _ 0 x _ _ wr rfl rfl rfl (by omega) hx _) ?_; rintro e w' ⟨rfl, rfl⟩
      have K2 := hid (K.out.alloc K.out.size (.cells #[.int .u8 0, .int .u8 (x : Nat)] 5))
      clear K
      generalize wr.alloc (.cells #[.int .u8 0, .int .u8 (x : Nat)] 5) = w2 at *
      go_wp2_with ((with_reducible refine wpList_unguard ?_ ?_); (focus rfl))
      refine Calls.mono (gf_Add2_nil _ 0 y _ _ w2 rfl rfl rfl (by omega) hy _) ?_; rintro e w' ⟨rfl, rfl⟩
      have K3 := hid (K2.out.alloc K2.out.size (.cells #[.int .u8 0, .int .u8 (y : Nat)] 5))
      clear K2
      generalize w2.alloc (.cells #[.int .u8 0, .int .u8 (y : Nat)] 5) = w3 at *
      go_wp2_with ((with_reducible refine wpList_unguard ?_ ?_); (focus rfl))
      go_roundw
      case rel => exact ⟨k + 1, by omega, by go_num, rfl, K3.out⟩
      case measure => simp [intOf]; omega
    · go_wp2_with ((with_reducible refine wpList_unguard ?_ ?_); (focus rfl))
      go_ret
      exact ⟨rfl, K.out⟩
set_option maxHeartbeats 1000000 in
set_option maxRecDepth 100000 in
theorem poly_Roots_nil (p : Option Addr) (n c : Nat) (l : List Nat) (w : World) (hn : n = l.length) (hp : cellsB w p l) (hb : bytesL l) (hl : l.length ≤ 10000) :
    Calls Try.prog 25 #[.pointer none, .slice p n c] w fun e w' => e = .returned (.slice none 0 0) ∧ Below w.heap.size w w' := by
  subst hn
  have HP := hid hp
  have HB := hid hb
  clear hp hb
  obtain ⟨i0, hi, hz0, hz1, hz2⟩ := info_parts Try.infoR
  go_enter Try.func25, Try.ntmps25
  go_wp2_with ((with_reducible refine wpList_unguard ?_ ?_); (focus rfl))
  go_loopw [5, 10] (fun s i wr => ∃ k : Nat, k ≤ l.length ∧ i = .int .i64 k ∧ factR wr w.heap.size s (l.take k) ∧ Below w.heap.size w wr) (fun _ i _ => l.length - (intOf i).toNat)
  case atStart => exact ⟨0, Nat.zero_le _, rfl, ⟨[], rfl, World.ownsRow_nil _ _ _ _, by simp⟩, Below.refl _ _⟩
  case round =>
    obtain ⟨k, hk, rfl, hR, hK⟩ := hrel
    have HR := hid hR
    have K := hid hK
    clear hR hK
    by_cases hlt : k < l.length
    · obtain ⟨a, o, rfl, hc0⟩ := HP.out k hlt
      have hc : wr.cell? ⟨a, o + k, none⟩ = some (.int .u8 (l.getD k 0 : Nat)) := by
        rw [K.out.cell (p := ⟨a, o + k, none⟩) (block_lt_of_cell hc0)]; exact hc0
      have HS : Hid (l.take (k + 1) = l.take k ++ [l.getD k 0]) := take_snocN l k hlt
      have hkl : Hid ((l.take k).length = k) := by show _ = _; rw [List.length_take]; omega
      clear hc0
      generalize hs2 : l.take (k + 1) = S2 at *
      have HS2 := hid hs2
      clear hs2
      generalize l.getD k 0 = r at *
      generalize l.take k = S at *
      have hB1 : Below wr.heap.size wr ((wr.alloc (.cells #[.int .u8 1, .int .u8 (r : Nat)] 5)).alloc (.cells #[.slice (some ⟨wr.heap.size, 0, none⟩) 2 2] 28)) :=
        ((Below.refl _ _).alloc (Nat.le_refl _) _).alloc (by simp) _
      have hR2 := HR.out.alloc2 (.cells #[.int .u8 1, .int .u8 (r : Nat)] 5) (.cells #[.slice (some ⟨wr.heap.size, 0, none⟩) 2 2] 28)
      have hR3 := hR2
      obtain ⟨bs, hbl, hown, hbs⟩ := hR2
      rw [hkl.out] at hown hbl
      go_wp2_with (at_builtin; refine wpList_append_own _ rfl _ _ 22 rfl w.heap.size 28 i0 (.slice none 0 0) 1 24 Try.underlying22 hi hz0 hz1 hz2 rfl (by decide) _ k (bs.map fun b => Value.slice (some ⟨b, 0, none⟩) 2 2) rfl ?c0 ⟨wr.heap.size + 1, 0, none⟩ 1 1 [Value.slice (some ⟨wr.heap.size, 0, none⟩) 2 2] rfl ?c1a ?c1 ?c2 ?c3 ?c4 ?c5 ?_)
      case c0 => exact hown
      case c1a => rfl
      case c1 =>
        intro j u hj
        match j with
        | 0 =>
          simp only [List.getElem?_cons_zero, Option.some.injEq] at hj
          subst hj
          have hx := World.cell?_alloc_new (wr.alloc (.cells #[.int .u8 1, .int .u8 (r : Nat)] 5)) #[.slice (some ⟨wr.heap.size, 0, none⟩) 2 2] 28 0
          have hsz : (wr.alloc (.cells #[.int .u8 1, .int .u8 (r : Nat)] 5)).heap.size = wr.heap.size + 1 := by simp
          rw [hsz] at hx
          exact hx
        | j + 1 => simp at hj
      case c2 => intro u hu; simp only [List.mem_singleton] at hu; subst hu; rfl
      case c3 => unfold maxLen; omega
      case c4 => omega
      case c5 => have := K.out.size; simp; omega
      intro v' w' hown' hgrow _
      have hpb : ((wr.alloc (.cells #[.int .u8 1, .int .u8 (r : Nat)] 5)).alloc (.cells #[.slice (some ⟨wr.heap.size, 0, none⟩) 2 2] 28)).heap[wr.heap.size]? = some (.cells #[.int .u8 1, .int .u8 (r : Nat)] 5) := by
        rw [Below.heap_alloc _ _ _ (by simp), (MapKept.heap_alloc wr _).1]
      have HR4 := hid (factR.grow hbl hkl.out hown hbs hpb hown' hgrow)
      rw [← HS.out] at HR4
      have hbel : Below w.heap.size w w' := ((K.out.trans (hB1.mono K.out.size))).grown hgrow (by have := K.out.size; simp; omega) (by
        intro g hg
        obtain ⟨_, h0⟩ := hown
        rcases h0 with ⟨h2, _⟩ | ⟨g', cap, cur, h2, h3, _⟩
        · rw [h2] at hg; simp [Value.ownBlock] at hg
        · rw [h2] at hg; simp only [Value.ownBlock, Option.some.injEq] at hg; omega)
      have K7 := hid hbel
      clear hbel hown' hgrow hpb hown hbs hR3 hB1 hbl
      go_wp2
      go_roundw
      case rel => exact ⟨k + 1, by omega, by go_num, by rw [HS2.out]; exact HR4.out, K7.out⟩
      case measure => simp [intOf]; omega
    · obtain rfl : k = l.length := by omega
      rw [List.take_length] at HR
      obtain ⟨p', c', rfl, hcr⟩ := HR.out.cells
      clear hcr
      go_wp2_with ((with_reducible refine wpList_unguard ?_ ?_); (focus rfl))
      refine Calls.mono (poly_Mul_nil _ _ _ wr) ?_; rintro e w' ⟨rfl, rfl⟩
      go_wp2_with ((with_reducible refine wpList_unguard ?_ ?_); (focus rfl))
      go_ret
      exact ⟨rfl, K.out⟩
end Go.Proofs.Ytlipedigmokgbaa
