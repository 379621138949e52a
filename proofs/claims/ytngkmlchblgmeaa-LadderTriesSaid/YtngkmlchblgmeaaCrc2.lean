/-
  The check sum in the program: Sum, of a list of texts.
  Conditions: the Crc that is there is the block that crc.New makes; lists and texts hold at most 140737488351232 elements.
-/
import Derived.Test.YtngkmlchblgmeaaCrc1
import Derived.Test.YtngkmlchblgmeaaStr
namespace Go.Proofs.Ytngkmlchblgmeaa
open Go.RowKit Tri

theorem xor_u32 (r : Nat) (hr : r < 4294967296) : bits .xor .u32 IntKind.u32.max (r : Int) = ((4294967295 - r : Nat) : Int) := by
  have := Go.u32_xor_nat 4294967295 r (by omega) hr
  rw [← not_xor r hr, ← this]; rfl

set_option maxHeartbeats 1000000 in
set_option maxRecDepth 100000 in
theorem crc_Sum (b : Nat) (p : Option Addr) (c n : Nat) (l : List ByteArray) (w : World) (hC : isC w b) (hn : n = l.length) (hp : cellsS w p l) (hl : l.length ≤ 140737488351232) (hz : ∀ s ∈ l, s.size ≤ 140737488351232) :
    Calls Try.prog 112 #[.pointer (some ⟨b, 0, none⟩), .slice p n c] w fun e w' => e = .returned (.int .i64 (csum (lb l))) ∧ Below w.heap.size w w' := by
  subst hn
  have HP := hid hp
  have HC := hid hC
  have HZ := hid hz
  clear hp hC hz
  have hcv := fun (w : World) (s : ByteArray) => Lib.run_convert_string_bytes (P := Try.prog) w 9 111 5 s Try.underlying9 Try.underlying111 Try.underlying5
  go_enter Try.func112, Try.ntmps112
  go_wp2
  go_loopw [5, 14] (fun r i wr => ∃ k : Nat, k ≤ l.length ∧ i = .int .i64 k ∧ r = .int .u32 (creg 4294967295 (lb (l.take k)) : Nat) ∧ Below w.heap.size w wr) (fun _ i _ => l.length - (intOf i).toNat)
  case atStart => exact ⟨0, Nat.zero_le _, rfl, rfl, Below.refl _ _⟩
  case round =>
    obtain ⟨k, hk, rfl, rfl, hB⟩ := hrel
    have HB := hid hB
    clear hB
    have hR : creg 4294967295 (lb (l.take k)) < 4294967296 := creg_lt _ (lb_lt _) _ (by omega)
    by_cases hlt : k < l.length
    · obtain ⟨a, o, rfl, hc0⟩ := HP.out k hlt
      have hc : wr.cell? ⟨a, o + k, none⟩ = some (.string (l.getD k ByteArray.empty)) := by
        rw [HB.out.cell (p := ⟨a, o + k, none⟩) (block_lt_of_cell hc0)]; exact hc0
      have hsz : (l.getD k ByteArray.empty).size ≤ 140737488351232 := HZ.out _ (by rw [List.getD_eq_getElem?_getD, List.getElem?_eq_getElem hlt]; exact List.getElem_mem hlt)
      have hts : Hid (lb (l.take (k + 1)) = lb (l.take k) ++ sb (l.getD k ByteArray.empty)) := by
        show _ = _; rw [take_snocS l k hlt]; simp [lb]
      clear hc0
      generalize l.getD k ByteArray.empty = s at *
      generalize hRe0 : creg 4294967295 (lb (l.take k)) = R at *
      have hRe := hid hRe0
      clear hRe0
      go_wp2
      have hW := hid (bytes_below wr 5 s)
      have hcell := hid (Lib.bytesWorld_cell wr 5 s)
      generalize Lib.bytesWorld wr 5 s = W1 at *
      generalize grownCap wr s.size 0 5 = cap at *
      have HB2 : Hid (Below w.heap.size w W1) := HB.out.trans (hW.out.mono (by have := HB.out.size; omega))
      generalize hbs : wr.heap.size = bs at *
      clear hbs
      go_loop [5, 21] (fun r i => ∃ j : Nat, j ≤ s.size ∧ i = .int .i64 j ∧ r = .int .u32 (creg R ((sb s).take j) : Nat)) (fun _ i => s.size - (intOf i).toNat)
      case atStart => exact ⟨0, Nat.zero_le _, rfl, rfl⟩
      case round =>
        obtain ⟨j, hj, rfl, rfl⟩ := hrel
        have hRj : creg R ((sb s).take j) < 4294967296 := creg_lt _ (fun x hx => sb_lt s x (List.mem_of_mem_take hx)) _ hR
        have hC1 : Hid (isC W1 b) := HC.out.below HB2.out HC.out.lt
        by_cases hjl : j < s.size
        · have hcj := hcell.out j hjl
          rw [← sb_getD s j hjl] at hcj
          have hx : (sb s).getD j 0 < 256 := sb_lt s _ (getD_mem _ j (by rw [sb_length]; exact hjl))
          have hnx : Hid (creg R ((sb s).take (j + 1)) = cbyte (creg R ((sb s).take j)) ((sb s).getD j 0)) := by
            show _ = _; rw [take_snocN _ _ (by rw [sb_length]; exact hjl), creg_append]; rfl
          generalize (sb s).getD j 0 = x at *
          generalize creg R ((sb s).take j) = Q at *
          go_wp2_with fail
          refine Calls.mono (crc_step b Q x _ hC1.out hRj hx) ?_; rintro e w' ⟨rfl, rfl⟩
          go_wp2
          go_round
          case rel => exact ⟨j + 1, by omega, by go_num, by rw [hnx.out]⟩
          case measure => simp [intOf]; omega
        · have hnx : Hid (creg 4294967295 (lb (l.take (k + 1))) = creg R ((sb s).take j)) := by
            show _ = _
            rw [hts.out, creg_append, hRe.out, List.take_of_length_le (by rw [sb_length]; omega)]
          generalize creg R ((sb s).take j) = Q at *
          go_wp2
          go_roundw
          case rel => exact ⟨k + 1, by omega, by go_num, by rw [hnx.out], HB2.out⟩
          case measure => simp [intOf]; omega
    · have hpe : Hid (csum (lb l) = 4294967295 - creg 4294967295 (lb (l.take k))) := by show _ = _; rw [List.take_of_length_le (by omega)]; rfl
      generalize creg 4294967295 (lb (l.take k)) = R at *
      have hu := xor_u32 R hR
      have hsg : IntKind.u32.signed = false := rfl
      clear hcv
      go_wp2
      go_ret
      exact ⟨by rw [hpe.out]; rfl, HB.out⟩
end Go.Proofs.Ytngkmlchblgmeaa
