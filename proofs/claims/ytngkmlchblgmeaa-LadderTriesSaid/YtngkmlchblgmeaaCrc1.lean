/-
  The check sum in the program: what crc.New lays into memory, and what Sum answers.
  Conditions: the Crc that is there is the block that crc.New makes.
-/
import Derived.Test.YtngkmlchblgmeaaBase
import Derived.Test.YtngkmlchblgmeaaCrc0
namespace Go.Proofs.Ytngkmlchblgmeaa
open Go.RowKit Tri

/-- What crc.New has laid behind n rounds. -/
def crcTab : Nat → Array Value
  | 0 => (List.replicate 256 (Value.int .u32 0)).toArray
  | n + 1 => (crcTab n).setIfInBounds n (.int .u32 (ctab n))
def crcC : Array Value := ((List.range 256).map (fun n => Value.int .u32 (ctab n))).toArray
theorem crcTab_size (n : Nat) : (crcTab n).size = 256 := by
  induction n with
  | zero => decide +kernel
  | succ n ih => simp [crcTab, ih]
theorem crcTab_end : crcTab 256 = crcC := by kernel_rfl
theorem crcC_at (k : Nat) (h : k < 256) : crcC[k]? = some (.int .u32 (ctab k)) := by
  unfold crcC
  rw [List.getElem?_toArray]
  simp [List.getElem?_range h]
/-- A Crc lies in block b. -/
def isC (w : World) (b : Nat) : Prop := w.heap[b]? = some (.cells crcC 152)
theorem isC.lt {w : World} {b : Nat} (h : isC w b) : b < w.heap.size := (Array.getElem?_eq_some_iff.1 h).1
theorem isC.at {w : World} {b : Nat} (h : isC w b) (k : Nat) (hk : k < 256) : w.cell? ⟨b, k, none⟩ = some (.int .u32 (ctab k)) := by
  rw [cell_of_row w b k _ _ _ h, crcC_at k hk]
theorem isC.below {w w' : World} {b B : Nat} (h : isC w b) (hb : Below B w w') (hB : b < B) : isC w' b := by
  unfold isC; rw [hb.block b hB]; exact h
theorem isC.alloc {w : World} {b : Nat} (h : isC w b) (o : Obj) : isC (w.alloc o) b := by
  unfold isC; rw [Below.heap_alloc w o b h.lt]; exact h
theorem isC.drew {w : World} {b : Nat} (h : isC w b) : isC w.drew b := h
theorem isC.new (w : World) : isC (w.alloc (.cells crcC 152)) w.heap.size := heap_alloc_new w _
theorem isC.setCell {w : World} {b : Nat} (h : isC w b) (a : Addr) (v : Value) (ha : b ≠ a.block) : isC (w.setCell a v) b := by
  unfold isC; rw [heap_setCell_other w a b v ha]; exact h

theorem zero_crc (w : World) : (zeroValue 152).run Try.prog w = .ok (.agg (crcTab 0)) w := by kernel_rfl
theorem cst_odd (r : Nat) (h : r % 2 = 1) (hr : r < 2 ^ 32) : bits .xor .u32 ((r : Int) / 2) 3988292384 = (cst r : Nat) := by
  have := Go.u32_xor_nat (r / 2) 3988292384 (by omega) (by omega)
  unfold cst; rw [if_pos h, ← this]; rfl
theorem cst_even (r : Nat) (h : ¬ r % 2 = 1) : (r : Int) / 2 = (cst r : Nat) := by unfold cst; rw [if_neg h]; rfl

set_option maxHeartbeats 1000000 in
set_option maxRecDepth 100000 in
theorem crc_New (w : World) : Calls Try.prog 72 #[] w fun e w' =>
    e = .returned (.pointer (some ⟨w.heap.size, 0, none⟩)) ∧ w.alloc (.cells crcC 152) = w' := by
  have hz := zero_crc
  go_enter Try.func72, Try.ntmps72
  go_wp2
  go_loopw [5] (fun i wr => ∃ k : Nat, k ≤ 256 ∧ i = .int .i64 k ∧ wr = w.alloc (.cells (crcTab k) 152)) (fun i _ => 256 - (intOf i).toNat)
  case atStart => exact ⟨0, Nat.zero_le _, rfl, rfl⟩
  case round =>
    obtain ⟨k, hk, rfl, rfl⟩ := hrel
    clear hz
    have hs := crcTab_size k
    have hsucc : Hid (crcTab (k + 1) = (crcTab k).setIfInBounds k (.int .u32 (ctab k))) := rfl
    have hend : Hid (k = 256 → crcTab k = crcC) := by intro e; rw [e]; exact crcTab_end
    generalize crcTab k = T at *
    by_cases hlt : k < 256
    · obtain ⟨x, hx⟩ : ∃ x, T[k]? = some x := ⟨T[k], Array.getElem?_eq_getElem (by omega)⟩
      clear hs hend
      go_wp2
      go_loop [3, 10] (fun r j => ∃ n : Nat, ∃ q : Nat, n ≤ 8 ∧ j = .int .i64 n ∧ r = .int .u32 q ∧ q < 4294967296 ∧ csts (8 - n) q = ctab k) (fun _ j => 8 - (intOf j).toNat)
      case atStart => exact ⟨0, k, by omega, rfl, rfl, by omega, rfl⟩
      case round =>
        obtain ⟨n, q, hn, rfl, rfl, hq, hc⟩ := hrel
        have HC := hid hc
        clear hc
        by_cases hlt2 : n < 8
        · have hst : Hid (csts (8 - n) q = csts (8 - (n + 1)) (cst q)) := by
            show csts (8 - n) q = _
            rw [show 8 - n = (8 - (n + 1)) + 1 from by omega]; rfl
          have hcl : cst q < 4294967296 := cst_lt q (by omega)
          have hnx : bits .and .u32 (q : Int) 1 = ((q % 2 : Nat) : Int) := by
            have := Go.u32_and_nat q 1 (by omega) (by omega)
            rw [nat_mask1] at this; exact this
          by_cases ho : q % 2 = 1
          · have hox := cst_odd q ho (by omega)
            have hon : ((q % 2 : Nat) : Int) = 1 := by omega
            rw [hon] at hnx
            clear ho hon
            generalize cst q = q' at *
            go_wp2
            go_round
            case rel => exact ⟨n + 1, q', by omega, by go_num, rfl, hcl, by rw [← HC.out, hst.out]⟩
            case measure => simp [intOf]; omega
          · have hox := cst_even q ho
            have hon : ((q % 2 : Nat) : Int) = 0 := by omega
            rw [hon] at hnx
            clear ho hon
            generalize cst q = q' at *
            go_wp2
            go_round
            case rel => exact ⟨n + 1, q', by omega, by go_num, rfl, hcl, by rw [← HC.out, hst.out]⟩
            case measure => simp [intOf]; omega
        · have hq' : Hid (ctab k = q) := by
            have := HC.out
            rw [show 8 - n = 0 from by omega] at this
            exact this.symm
          clear HC
          go_wp2
          go_roundw
          case rel => exact ⟨k + 1, by omega, by go_num, by rw [hsucc.out, hq'.out]⟩
          case measure => simp [intOf]; omega
    · clear hsucc hs
      have he : Hid (T = crcC) := hend.out (by omega)
      clear hend
      go_wp2
      go_ret
      exact ⟨rfl, by rw [he.out]⟩

set_option maxHeartbeats 400000 in
theorem crc_step (b r x : Nat) (w : World) (hC : isC w b) (hr : r < 4294967296) (hx : x < 256) :
    Calls Try.prog 123 #[.pointer (some ⟨b, 0, none⟩), .int .u32 r, .int .u8 x] w fun e w' => e = .returned (.int .u32 (cbyte r x)) ∧ w = w' := by
  have h1 : bits .xor .u8 ((r : Int) % 256) (x : Int) = (((r ^^^ x) % 256 : Nat) : Int) := by
    have := Go.u8_xor_nat (r % 256) x (by omega) hx
    have e : (r % 256) ^^^ x = (r ^^^ x) % 256 := by
      rw [show (256 : Nat) = 2 ^ 8 from rfl, Nat.xor_mod_two_pow, Nat.mod_eq_of_lt (a := x) (by omega)]
    rw [e] at this
    rw [← this]; rfl
  have hlt : (r ^^^ x) % 256 < 256 := Nat.mod_lt _ (by omega)
  have hc := hC.at _ hlt
  have h2 : Hid (bits .xor .u32 ((r : Int) / 256) (ctab ((r ^^^ x) % 256) : Nat) = (cbyte r x : Nat)) := by
    have := Go.u32_xor_nat (r / 256) (ctab ((r ^^^ x) % 256)) (by omega) (csts_lt 8 _ (by omega))
    show _ = _
    unfold cbyte; rw [← this]; rfl
  have h3 := h2.out
  generalize (r ^^^ x) % 256 = k at *
  clear hC h2
  go_enter Try.func123, Try.ntmps123
  go_wp2
  go_ret
  exact ⟨by rfl, rfl⟩
end Go.Proofs.Ytngkmlchblgmeaa
