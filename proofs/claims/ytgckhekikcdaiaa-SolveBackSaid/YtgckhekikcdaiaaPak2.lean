/-
  The field of 256 bytes in the program: sums, inverses, quotients and powers, of a field that is there and of none. Conditions: the field that is there is the block that gf.New makes; a list of bytes holds at most 140737488351232 of them.
  Polynomials in the program: degrees and values. Conditions: the field that is there is the block that gf.New makes; polynomials of at most 1000000 bytes.
  How words are mended, in plain Lean: what the program's solver reckons, polynomials with the lowest power first. No program in sight.
  A statement whose order is open, taken in any order at once: each operation is asked for what it does from any state in which what it waits for has been done, and what was found stays so.
  A row of bytes in its own block that is written in place.
  A block of the heap that is known whole.
-/
import Derived.Test.YtgckhekikcdaiaaPak1
import Derived.Orders
import Derived.Deep.OwnRows
import Derived.RowKit3
import Derived.ProofKit
namespace Go.Proofs.Ytgckhekikcdaiaa
open Go.RowKit Tri



set_option maxHeartbeats 400000 in
theorem gf_Add (b : Nat) (p : Option Addr) (c n : Nat) (l : List Nat) (w : World) (hn : n = l.length) (hp : cellsB w p l) (hb : ∀ x ∈ l, x < 256) (hl : l.length ≤ 140737488351232) :
    Calls Try.prog 51 #[.pointer (some ⟨b, 0, none⟩), .slice p n c] w fun e w' => e = .returned (.int .u8 (gsum l)) ∧ w = w' := by
  subst hn
  have HP := hid hp
  have HB := hid hb
  clear hp hb
  go_enter Try.func51, Try.ntmps51
  go_wp2
  go_loop [5, 10] (fun n i => ∃ k : Nat, k ≤ l.length ∧ i = .int .i64 k ∧ n = .int .u8 (gsum (l.take k) : Nat)) (fun _ i => l.length - (intOf i).toNat)
  case atStart => exact ⟨0, Nat.zero_le _, rfl, by simp [gsum]⟩
  case round =>
    obtain ⟨k, hk, rfl, rfl⟩ := hrel
    have hg : gsum (l.take k) < 256 := gsum_lt _ fun x hx => HB.out x (List.mem_of_mem_take hx)
    by_cases hlt : k < l.length
    · obtain ⟨a, o, rfl, hc⟩ := HP.out k hlt
      have hx : l.getD k 0 < 256 := HB.out _ (getD_mem l k hlt)
      have hts : Hid (gsum (l.take (k + 1)) = gsum (l.take k) ^^^ l.getD k 0) := by
        show _ = _; rw [take_snocN l k hlt, gsum_append]; simp [gsum]
      generalize l.getD k 0 = x at *
      generalize gsum (l.take k) = g at *
      have hxor := xor_byte g x hg hx
      go_wp2
      go_round
      case rel => exact ⟨k + 1, by omega, by go_num, by rw [hts.out]⟩
      case measure => simp [intOf]; omega
    · have hpe : Hid (gsum l = gsum (l.take k)) := by show _ = _; rw [List.take_of_length_le (by omega)]
      generalize gsum (l.take k) = L at *
      go_wp2
      go_ret
      exact ⟨by rw [hpe.out]; rfl, rfl⟩
set_option maxHeartbeats 400000 in
theorem gf_Add_nil (p : Option Addr) (c n : Nat) (l : List Nat) (w : World) (hn : n = l.length) (hp : cellsB w p l) (hb : ∀ x ∈ l, x < 256) (hl : l.length ≤ 140737488351232) :
    Calls Try.prog 51 #[.pointer none, .slice p n c] w fun e w' => e = .returned (.int .u8 0) ∧ w = w' := by
  subst hn
  have HP := hid hp
  have HB := hid hb
  clear hp hb
  go_enter Try.func51, Try.ntmps51
  go_wp2
  go_loop [5, 10] (fun n i => ∃ k : Nat, k ≤ l.length ∧ i = .int .i64 k ∧ n = .int .u8 (gsum (l.take k) : Nat)) (fun _ i => l.length - (intOf i).toNat)
  case atStart => exact ⟨0, Nat.zero_le _, rfl, by simp [gsum]⟩
  case round =>
    obtain ⟨k, hk, rfl, rfl⟩ := hrel
    have hg : gsum (l.take k) < 256 := gsum_lt _ fun x hx => HB.out x (List.mem_of_mem_take hx)
    by_cases hlt : k < l.length
    · obtain ⟨a, o, rfl, hc⟩ := HP.out k hlt
      have hx : l.getD k 0 < 256 := HB.out _ (getD_mem l k hlt)
      have hts : Hid (gsum (l.take (k + 1)) = gsum (l.take k) ^^^ l.getD k 0) := by
        show _ = _; rw [take_snocN l k hlt, gsum_append]; simp [gsum]
      generalize l.getD k 0 = x at *
      generalize gsum (l.take k) = g at *
      have hxor := xor_byte g x hg hx
      go_wp2
      go_round
      case rel => exact ⟨k + 1, by omega, by go_num, by rw [hts.out]⟩
      case measure => simp [intOf]; omega
    · generalize gsum (l.take k) = L at *
      go_wp2
      go_ret
      exact ⟨rfl, rfl⟩
set_option maxHeartbeats 400000 in
theorem gf_Mul_nil (p : Option Addr) (c n : Nat) (l : List Nat) (w : World) (hn : n = l.length) (hp : cellsB w p l) :
    Calls Try.prog 52 #[.pointer none, .slice p n c] w fun e w' => e = .returned (.int .u8 0) ∧ w = w' := by
  subst hn
  have HP := hid hp
  clear hp
  go_enter Try.func52, Try.ntmps52
  go_wp2
  go_loop [5, 12] (fun n i => n = .int .i64 0 ∧ i = .int .i64 0) (fun _ _ => 0)
  case atStart => exact ⟨rfl, rfl⟩
  case round =>
    obtain ⟨rfl, rfl⟩ := hrel
    by_cases hlt : 0 < l.length
    · obtain ⟨a, o, rfl, hc⟩ := HP.out 0 hlt
      have hlt' : (0 : Int) < (l.length : Int) := by omega
      simp only [Nat.add_zero] at hc
      go_wp2_with (go_call gf_Log_nil _ _ as e w' ⟨rfl, rfl⟩)
      go_ret
      exact ⟨rfl, rfl⟩
    · have hlt' : ¬ (0 : Int) < (l.length : Int) := by omega
      go_wp2_with (go_call gf_Exp_nil _ _ as e w' ⟨rfl, rfl⟩)
      go_ret
      exact ⟨rfl, rfl⟩
set_option maxHeartbeats 400000 in
theorem gf_Inv_nil (a : Int) (w : World) : Calls Try.prog 68 #[.pointer none, .int .u8 a] w fun e w' => e = .returned (.tuple #[.int .u8 0, .bool false]) ∧ w = w' := by
  go_enter Try.func68, Try.ntmps68
  go_wp2_with (go_call gf_Log_nil _ _ as e w' ⟨rfl, rfl⟩)
  go_ret2
  exact ⟨rfl, rfl⟩
set_option maxHeartbeats 400000 in
theorem gf_Inv_zero (b : Nat) (w : World) : Calls Try.prog 68 #[.pointer (some ⟨b, 0, none⟩), .int .u8 0] w fun e w' => e = .returned (.tuple #[.int .u8 0, .bool false]) ∧ w = w' := by
  go_enter Try.func68, Try.ntmps68
  go_wp2_with (go_call gf_Log_zero b _ as e w' ⟨rfl, rfl⟩)
  go_ret2
  exact ⟨rfl, rfl⟩
theorem gexpZ_neg (k : Nat) (h : k < 255) : gexpZ (-(k : Int)) = gexp (255 - k) := by
  unfold gexpZ
  by_cases e : k = 0
  · subst e; decide
  · rw [show (-(k : Int) % 255).toNat = 255 - k from by omega]
set_option maxHeartbeats 400000 in
theorem gf_Inv (b k : Nat) (w : World) (hF : isF w b) (hk : k < 256) (h0 : 0 < k) :
    Calls Try.prog 68 #[.pointer (some ⟨b, 0, none⟩), .int .u8 k] w fun e w' => e = .returned (.tuple #[.int .u8 (ginv k), .bool true]) ∧ w = w' := by
  have hg := glog_lt k
  have he : Hid (ginv k = gexpZ (-(glog k : Int))) := by show _ = _; rw [gexpZ_neg _ hg]; rfl
  have HF := hid hF
  clear hF
  go_enter Try.func68, Try.ntmps68
  go_wp2_with fail
  go_call gf_Log b k _ HF.out hk h0 as e w' ⟨rfl, rfl⟩
  generalize glog k = g at *
  go_wp2_with (go_call gf_Exp b _ _ HF.out as e w' ⟨rfl, rfl⟩)
  go_ret2
  exact ⟨by rw [he.out]; rfl, rfl⟩
set_option maxHeartbeats 400000 in
theorem gf_Div_nil (a c : Int) (w : World) : Calls Try.prog 62 #[.pointer none, .int .u8 a, .int .u8 c] w fun e w' => e = .returned (.tuple #[.int .u8 0, .bool false]) ∧ w = w' := by
  go_enter Try.func62, Try.ntmps62
  go_wp2_with (go_call gf_Inv_nil _ _ as e w' ⟨rfl, rfl⟩)
  go_ret2
  exact ⟨rfl, rfl⟩
set_option maxHeartbeats 400000 in
theorem gf_Div_zero (b : Nat) (a : Int) (w : World) : Calls Try.prog 62 #[.pointer (some ⟨b, 0, none⟩), .int .u8 a, .int .u8 0] w fun e w' => e = .returned (.tuple #[.int .u8 0, .bool false]) ∧ w = w' := by
  go_enter Try.func62, Try.ntmps62
  go_wp2_with (go_call gf_Inv_zero b _ as e w' ⟨rfl, rfl⟩)
  go_ret2
  exact ⟨rfl, rfl⟩
/-- Of 2 bytes, which lie in a new array. -/
theorem gf_Mul2 (b s x y : Nat) (vx vy : Int) (w : World) (hF : isF w b) (hs : s = w.heap.size) (ex : vx = (x : Nat)) (ey : vy = (y : Nat)) (hx : x < 256) (hy : y < 256) (t : TypeId) :
    Calls Try.prog 52 #[.pointer (some ⟨b, 0, none⟩), .slice (some ⟨s, 0, none⟩) 2 2] (w.alloc (.cells #[.int .u8 vx, .int .u8 vy] t))
      fun e w' => e = .returned (.int .u8 (gmul x y)) ∧ w.alloc (.cells #[.int .u8 vx, .int .u8 vy] t) = w' := by
  subst hs ex ey
  have := gf_Mul b (some ⟨w.heap.size, 0, none⟩) 2 2 [x, y] (w.alloc (.cells #[.int .u8 (x : Nat), .int .u8 (y : Nat)] t)) (hF.alloc _) rfl (cellsB.new w [x, y] _ t rfl) (by simp [hx, hy]) (by simp)
  rwa [gprod_two x y hy] at this
/-- Of 3 bytes, which lie in a new array. -/
theorem gf_Mul3 (b s x y z : Nat) (vx vy vz : Int) (w : World) (hF : isF w b) (hs : s = w.heap.size) (ex : vx = (x : Nat)) (ey : vy = (y : Nat)) (ez : vz = (z : Nat)) (hx : x < 256) (hy : y < 256) (hz : z < 256) (t : TypeId) :
    Calls Try.prog 52 #[.pointer (some ⟨b, 0, none⟩), .slice (some ⟨s, 0, none⟩) 3 3] (w.alloc (.cells #[.int .u8 vx, .int .u8 vy, .int .u8 vz] t))
      fun e w' => e = .returned (.int .u8 (gmul x (gmul y z))) ∧ w.alloc (.cells #[.int .u8 vx, .int .u8 vy, .int .u8 vz] t) = w' := by
  subst hs ex ey ez
  have := gf_Mul b (some ⟨w.heap.size, 0, none⟩) 3 3 [x, y, z] (w.alloc (.cells #[.int .u8 (x : Nat), .int .u8 (y : Nat), .int .u8 (z : Nat)] t)) (hF.alloc _) rfl (cellsB.new w [x, y, z] _ t rfl) (by simp [hx, hy, hz]) (by simp)
  rwa [gprod_three x y z hz] at this
/-- Of 2 bytes, which lie in a new array. -/
theorem gf_Add2 (b s x y : Nat) (vx vy : Int) (w : World) (hs : s = w.heap.size) (ex : vx = (x : Nat)) (ey : vy = (y : Nat)) (hx : x < 256) (hy : y < 256) (t : TypeId) :
    Calls Try.prog 51 #[.pointer (some ⟨b, 0, none⟩), .slice (some ⟨s, 0, none⟩) 2 2] (w.alloc (.cells #[.int .u8 vx, .int .u8 vy] t))
      fun e w' => e = .returned (.int .u8 (x ^^^ y : Nat)) ∧ w.alloc (.cells #[.int .u8 vx, .int .u8 vy] t) = w' := by
  subst hs ex ey
  have := gf_Add b (some ⟨w.heap.size, 0, none⟩) 2 2 [x, y] (w.alloc (.cells #[.int .u8 (x : Nat), .int .u8 (y : Nat)] t)) rfl (cellsB.new w [x, y] _ t rfl) (by simp [hx, hy]) (by simp)
  rwa [gsum_two x y] at this
/-- Of 3 bytes, which lie in a new array. -/
theorem gf_Add3 (b s x y z : Nat) (vx vy vz : Int) (w : World) (hs : s = w.heap.size) (ex : vx = (x : Nat)) (ey : vy = (y : Nat)) (ez : vz = (z : Nat)) (hx : x < 256) (hy : y < 256) (hz : z < 256) (t : TypeId) :
    Calls Try.prog 51 #[.pointer (some ⟨b, 0, none⟩), .slice (some ⟨s, 0, none⟩) 3 3] (w.alloc (.cells #[.int .u8 vx, .int .u8 vy, .int .u8 vz] t))
      fun e w' => e = .returned (.int .u8 (x ^^^ (y ^^^ z) : Nat)) ∧ w.alloc (.cells #[.int .u8 vx, .int .u8 vy, .int .u8 vz] t) = w' := by
  subst hs ex ey ez
  have := gf_Add b (some ⟨w.heap.size, 0, none⟩) 3 3 [x, y, z] (w.alloc (.cells #[.int .u8 (x : Nat), .int .u8 (y : Nat), .int .u8 (z : Nat)] t)) rfl (cellsB.new w [x, y, z] _ t rfl) (by simp [hx, hy, hz]) (by simp)
  rwa [gsum_three x y z] at this
/-- Of 2 bytes, which lie in a new array. -/
theorem gf_Mul2_nil (s x y : Nat) (vx vy : Int) (w : World) (hs : s = w.heap.size) (ex : vx = (x : Nat)) (ey : vy = (y : Nat)) (hx : x < 256) (hy : y < 256) (t : TypeId) :
    Calls Try.prog 52 #[.pointer none, .slice (some ⟨s, 0, none⟩) 2 2] (w.alloc (.cells #[.int .u8 vx, .int .u8 vy] t))
      fun e w' => e = .returned (.int .u8 (0)) ∧ w.alloc (.cells #[.int .u8 vx, .int .u8 vy] t) = w' := by
  subst hs ex ey
  exact gf_Mul_nil (some ⟨w.heap.size, 0, none⟩) 2 2 [x, y] (w.alloc (.cells #[.int .u8 (x : Nat), .int .u8 (y : Nat)] t)) rfl (cellsB.new w [x, y] _ t rfl)
/-- Of 2 bytes, which lie in a new array. -/
theorem gf_Add2_nil (s x y : Nat) (vx vy : Int) (w : World) (hs : s = w.heap.size) (ex : vx = (x : Nat)) (ey : vy = (y : Nat)) (hx : x < 256) (hy : y < 256) (t : TypeId) :
    Calls Try.prog 51 #[.pointer none, .slice (some ⟨s, 0, none⟩) 2 2] (w.alloc (.cells #[.int .u8 vx, .int .u8 vy] t))
      fun e w' => e = .returned (.int .u8 (0)) ∧ w.alloc (.cells #[.int .u8 vx, .int .u8 vy] t) = w' := by
  subst hs ex ey
  exact gf_Add_nil (some ⟨w.heap.size, 0, none⟩) 2 2 [x, y] (w.alloc (.cells #[.int .u8 (x : Nat), .int .u8 (y : Nat)] t)) rfl (cellsB.new w [x, y] _ t rfl) (by simp [hx, hy]) (by simp)
set_option maxHeartbeats 400000 in
theorem gf_Div (b a k : Nat) (w : World) (hF : isF w b) (ha : a < 256) (hk : k < 256) (h0 : 0 < k) :
    Calls Try.prog 62 #[.pointer (some ⟨b, 0, none⟩), .int .u8 a, .int .u8 k] w
      fun e w' => e = .returned (.tuple #[.int .u8 (gmul a (ginv k)), .bool true]) ∧ w.alloc (.cells #[.int .u8 a, .int .u8 (ginv k)] 5) = w' := by
  have hg := ginv_lt k
  have HF := hid hF
  clear hF
  go_enter Try.func62, Try.ntmps62
  go_wp2_with fail
  go_call gf_Inv b k _ HF.out hk h0 as e w' ⟨rfl, rfl⟩
  go_wp2_with fail
  refine Calls.mono (gf_Mul2 b _ a _ _ _ _ HF.out rfl rfl rfl ha hg _) ?_; rintro e w' ⟨rfl, rfl⟩
  go_wp2
  go_ret2
  exact ⟨rfl, rfl⟩
theorem mul_tmod (g : Nat) (hg : g < 255) (n : Int) : wrap64 ((g : Int) * n.tmod 255) = (g : Int) * n.tmod 255 := by
  have h1 : -254 ≤ n.tmod 255 ∧ n.tmod 255 ≤ 254 := by
    have := Int.tmod_lt_of_pos n (b := 255) (by omega)
    have := Int.lt_tmod_of_pos n (b := 255) (by omega)
    omega
  have h2 : (g : Int) * n.tmod 255 ≤ 254 * 254 := by
    rcases Int.le_total 0 (n.tmod 255) with h | h
    · exact Int.mul_le_mul (by omega) h1.2 h (by omega)
    · exact Int.le_trans (Int.mul_nonpos_of_nonneg_of_nonpos (by omega) h) (by omega)
  have h3 : -(254 * 254) ≤ (g : Int) * n.tmod 255 := by
    rcases Int.le_total 0 (n.tmod 255) with h | h
    · exact Int.le_trans (by omega) (Int.mul_nonneg (by omega) h)
    · have : (g : Int) * (-(n.tmod 255)) ≤ 254 * 254 := Int.mul_le_mul (by omega) (by omega) (by omega) (by omega)
      rw [Int.mul_neg] at this
      omega
  unfold wrap64
  omega
/-- A power. -/
def gpow (a : Nat) (n : Int) : Nat := if n = 0 then 1 else if a = 0 then 0 else gexpZ ((glog a : Int) * n)
theorem gexpZ_congr (m n : Int) (h : m % 255 = n % 255) : gexpZ m = gexpZ n := by unfold gexpZ; rw [h]
theorem mul_tmod_emod (g : Nat) (n : Int) : ((g : Int) * n.tmod 255) % 255 = ((g : Int) * n) % 255 := by
  have h : n = 255 * n.tdiv 255 + n.tmod 255 := (Int.mul_tdiv_add_tmod n 255).symm
  conv => rhs; rw [h, Int.mul_add, ← Int.mul_assoc, Int.mul_comm (g : Int) 255, Int.mul_assoc, Int.add_comm, Int.add_mul_emod_self_left]
/-- What was there is as it was, and a field lies in block b. -/
def Keeps (w0 : World) (b : Nat) (w : World) : Prop := Below w0.heap.size w0 w ∧ isF w b
theorem Keeps.alloc {w0 w : World} {b : Nat} (h : Keeps w0 b w) (o : Obj) : Keeps w0 b (w.alloc o) := ⟨h.1.alloc h.1.size o, h.2.alloc o⟩
theorem Keeps.drew {w0 w : World} {b : Nat} (h : Keeps w0 b w) : Keeps w0 b w.drew := ⟨h.1.drew, h.2⟩
theorem gf_NewK (w0 w : World) (h : Below w0.heap.size w0 w) : Calls Try.prog 12 #[] w fun e w' => ∃ b, e = .returned (.pointer (some ⟨b, 0, none⟩)) ∧ Keeps w0 b w' :=
  (gf_New w).mono fun _ _ ⟨he, hw⟩ => ⟨w.heap.size, he, hw ▸ h.alloc h.size _, hw ▸ isF.new w⟩
theorem gf_Mul2K (w0 : World) (b s x y : Nat) (vx vy : Int) (w : World) (K : Keeps w0 b w) (hs : s = w.heap.size) (ex : vx = (x : Nat)) (ey : vy = (y : Nat)) (hx : x < 256) (hy : y < 256) (t : TypeId) :
    Calls Try.prog 52 #[.pointer (some ⟨b, 0, none⟩), .slice (some ⟨s, 0, none⟩) 2 2] (w.alloc (.cells #[.int .u8 vx, .int .u8 vy] t))
      fun e w' => e = .returned (.int .u8 (gmul x y)) ∧ Keeps w0 b w' :=
  (gf_Mul2 b s x y vx vy w K.2 hs ex ey hx hy t).mono fun _ _ ⟨he, hw⟩ => ⟨he, hw ▸ K.alloc _⟩
theorem gf_Mul3K (w0 : World) (b s x y z : Nat) (vx vy vz : Int) (w : World) (K : Keeps w0 b w) (hs : s = w.heap.size) (ex : vx = (x : Nat)) (ey : vy = (y : Nat)) (ez : vz = (z : Nat)) (hx : x < 256) (hy : y < 256) (hz : z < 256) (t : TypeId) :
    Calls Try.prog 52 #[.pointer (some ⟨b, 0, none⟩), .slice (some ⟨s, 0, none⟩) 3 3] (w.alloc (.cells #[.int .u8 vx, .int .u8 vy, .int .u8 vz] t))
      fun e w' => e = .returned (.int .u8 (gmul x (gmul y z))) ∧ Keeps w0 b w' :=
  (gf_Mul3 b s x y z vx vy vz w K.2 hs ex ey ez hx hy hz t).mono fun _ _ ⟨he, hw⟩ => ⟨he, hw ▸ K.alloc _⟩
theorem gf_Add2K (w0 : World) (b s x y : Nat) (vx vy : Int) (w : World) (K : Keeps w0 b w) (hs : s = w.heap.size) (ex : vx = (x : Nat)) (ey : vy = (y : Nat)) (hx : x < 256) (hy : y < 256) (t : TypeId) :
    Calls Try.prog 51 #[.pointer (some ⟨b, 0, none⟩), .slice (some ⟨s, 0, none⟩) 2 2] (w.alloc (.cells #[.int .u8 vx, .int .u8 vy] t))
      fun e w' => e = .returned (.int .u8 (x ^^^ y : Nat)) ∧ Keeps w0 b w' :=
  (gf_Add2 b s x y vx vy w hs ex ey hx hy t).mono fun _ _ ⟨he, hw⟩ => ⟨he, hw ▸ K.alloc _⟩
theorem gf_Add3K (w0 : World) (b s x y z : Nat) (vx vy vz : Int) (w : World) (K : Keeps w0 b w) (hs : s = w.heap.size) (ex : vx = (x : Nat)) (ey : vy = (y : Nat)) (ez : vz = (z : Nat)) (hx : x < 256) (hy : y < 256) (hz : z < 256) (t : TypeId) :
    Calls Try.prog 51 #[.pointer (some ⟨b, 0, none⟩), .slice (some ⟨s, 0, none⟩) 3 3] (w.alloc (.cells #[.int .u8 vx, .int .u8 vy, .int .u8 vz] t))
      fun e w' => e = .returned (.int .u8 (x ^^^ (y ^^^ z) : Nat)) ∧ Keeps w0 b w' :=
  (gf_Add3 b s x y z vx vy vz w hs ex ey ez hx hy hz t).mono fun _ _ ⟨he, hw⟩ => ⟨he, hw ▸ K.alloc _⟩
theorem gf_DivK (w0 : World) (b a k : Nat) (va vk : Int) (w : World) (K : Keeps w0 b w) (ea : va = a) (ek : vk = k) (ha : a < 256) (hk : k < 256) (h0 : 0 < k) :
    Calls Try.prog 62 #[.pointer (some ⟨b, 0, none⟩), .int .u8 va, .int .u8 vk] w
      fun e w' => e = .returned (.tuple #[.int .u8 (gmul a (ginv k)), .bool true]) ∧ Keeps w0 b w' := by
  subst ea ek
  exact (gf_Div b a k w K.2 ha hk h0).mono fun _ _ ⟨he, hw⟩ => ⟨he, hw ▸ K.alloc _⟩
theorem gf_InvK (w0 : World) (b k : Nat) (vk : Int) (w : World) (K : Keeps w0 b w) (ek : vk = k) (hk : k < 256) (h0 : 0 < k) :
    Calls Try.prog 68 #[.pointer (some ⟨b, 0, none⟩), .int .u8 vk] w fun e w' => e = .returned (.tuple #[.int .u8 (ginv k), .bool true]) ∧ w = w' := by
  subst ek; exact gf_Inv b k w K.2 hk h0
theorem gf_LogK (w0 : World) (b k : Nat) (vk : Int) (w : World) (K : Keeps w0 b w) (ek : vk = k) (hk : k < 256) (h0 : 0 < k) :
    Calls Try.prog 69 #[.pointer (some ⟨b, 0, none⟩), .int .u8 vk] w fun e w' => e = .returned (.tuple #[.int .i64 (glog k), .bool true]) ∧ w = w' := by
  subst ek; exact gf_Log b k w K.2 hk h0
end Go.Proofs.Ytgckhekikcdaiaa

namespace Go.Proofs.Ytgckhekikcdaiaa
open Go.RowKit Tri

set_option maxHeartbeats 400000 in
theorem poly_Degree (p : Option Addr) (n c : Nat) (l : List Nat) (w : World) (hn : n = l.length) (hc : n ≤ c) (hp : cellsB w p l) (hl : l.length ≤ 1000000) :
    Calls Try.prog 24 #[.slice p n c] w fun e w' => e = .returned (.int .i64 (((trim l).length : Int) - 1)) ∧ Below w.heap.size w w' := by
  subst hn
  have HP := hid hp
  clear hp
  have ht := trim_length_le l
  go_enter Try.func24, Try.ntmps24
  go_wp2_with fail
  refine Calls.mono (poly_Trim p _ c l w rfl hc HP.out hl) ?_; rintro e w1 ⟨v, rfl, hO, hB⟩
  have HB := hid hB
  obtain ⟨p', c', rfl, _⟩ := hO.cells
  clear hB hO

  go_wp2
  go_ret
  exact ⟨rfl, HB.out⟩
theorem pevalFrom_snoc (x s a : Nat) (l : List Nat) : pevalFrom x s (l ++ [a]) = gmul (pevalFrom x s l) x ^^^ a := by
  induction l generalizing s with
  | nil => rfl
  | cons b l ih => simp only [List.cons_append, pevalFrom]; exact ih _
theorem pevalFrom_lt (x : Nat) (l : List Nat) (h : bytesL l) (s : Nat) (hs : s < 256) : pevalFrom x s l < 256 := by
  induction l generalizing s with
  | nil => exact hs
  | cons a l ih => exact ih (fun y hy => h y (by simp [hy])) _ (xor_lt (gmul_lt _ _) (h a (by simp)))
set_option maxHeartbeats 1000000 in
theorem poly_Eval (b : Nat) (p : Option Addr) (n c : Nat) (l : List Nat) (x : Nat) (w : World) (hF : isF w b) (hn : n = l.length) (hp : cellsB w p l) (hb : bytesL l) (hx : x < 256) (hl : l.length ≤ 1000000) :
    Calls Try.prog 25 #[.pointer (some ⟨b, 0, none⟩), .slice p n c, .int .u8 x] w fun e w' => e = .returned (.int .u8 (peval x l)) ∧ Keeps w b w' := by
  subst hn
  have HP := hid hp
  have HB := hid hb
  have HF := hid hF
  clear hp hb hF
  go_enter Try.func25, Try.ntmps25
  go_wp2
  go_loopw [7, 12] (fun s i wr => ∃ k : Nat, k ≤ l.length ∧ i = .int .i64 k ∧ s = .int .u8 (pevalFrom x 0 (l.take k)) ∧ Keeps w b wr) (fun _ i _ => l.length - (intOf i).toNat)
  case atStart => exact ⟨0, Nat.zero_le _, rfl, rfl, Below.refl _ _, HF.out⟩
  case round =>
    obtain ⟨k, hk, rfl, rfl, hK⟩ := hrel
    have K := hid hK
    clear hK
    have hs : pevalFrom x 0 (l.take k) < 256 := pevalFrom_lt x _ (fun y hy => HB.out y (List.mem_of_mem_take hy)) 0 (by omega)
    by_cases hlt : k < l.length
    · obtain ⟨a, o, rfl, hc0⟩ := HP.out k hlt
      have hc : wr.cell? ⟨a, o + k, none⟩ = some (.int .u8 (l.getD k 0 : Nat)) := by
        rw [K.out.1.cell (p := ⟨a, o + k, none⟩) (block_lt_of_cell hc0)]; exact hc0
      have hy : l.getD k 0 < 256 := HB.out _ (getD_mem l k hlt)
      have hts : Hid (pevalFrom x 0 (l.take (k + 1)) = gmul (pevalFrom x 0 (l.take k)) x ^^^ l.getD k 0) := by
        show _ = _; rw [take_snocN l k hlt, pevalFrom_snoc]
      clear hc0
      generalize l.getD k 0 = y at *
      generalize pevalFrom x 0 (l.take k) = s at *
      go_wp2_with ((with_reducible refine wpList_unguard ?_ ?_); (focus rfl))
      (refine Calls.mono (gf_Mul2K _ _ _ s x _ _ _ K.out ?_ ?_ ?_ ?_ ?_ _) ?_; (focus (first | rfl | (simp; done))); (rfl); (rfl); (focus (first | assumption | (exact gmul_lt _ _) | (exact ginv_lt _) | (exact gexp_lt _) | (exact gexpZ_lt _) | omega | (exact xor_lt (by first | assumption | (exact gmul_lt _ _) | omega) (by first | assumption | (exact gmul_lt _ _) | omega)))); (focus (first | assumption | (exact gmul_lt _ _) | (exact ginv_lt _) | (exact gexp_lt _) | (exact gexpZ_lt _) | omega | (exact xor_lt (by first | assumption | (exact gmul_lt _ _) | omega) (by first | assumption | (exact gmul_lt _ _) | omega)))); (clear K); rintro e w' ⟨rfl, K0⟩; have K := hid K0; clear K0)
      go_wp2_with ((with_reducible refine wpList_unguard ?_ ?_); (focus rfl))
      (refine Calls.mono (gf_Add2K _ _ _ (gmul s x) y _ _ _ K.out ?_ ?_ ?_ ?_ ?_ _) ?_; (focus (first | rfl | (simp; done))); (rfl); (rfl); (focus (first | assumption | (exact gmul_lt _ _) | (exact ginv_lt _) | (exact gexp_lt _) | (exact gexpZ_lt _) | omega | (exact xor_lt (by first | assumption | (exact gmul_lt _ _) | omega) (by first | assumption | (exact gmul_lt _ _) | omega)))); (focus (first | assumption | (exact gmul_lt _ _) | (exact ginv_lt _) | (exact gexp_lt _) | (exact gexpZ_lt _) | omega | (exact xor_lt (by first | assumption | (exact gmul_lt _ _) | omega) (by first | assumption | (exact gmul_lt _ _) | omega)))); (clear K); rintro e w' ⟨rfl, K0⟩; have K := hid K0; clear K0)
      go_wp2_with ((with_reducible refine wpList_unguard ?_ ?_); (focus rfl))
      go_roundw
      case rel => exact ⟨k + 1, by omega, by go_num, by rw [hts.out], K.out⟩
      case measure => simp [intOf]; omega
    · have hpe : Hid (peval x l = pevalFrom x 0 (l.take k)) := by show _ = _; rw [List.take_of_length_le (by omega)]; rfl
      generalize pevalFrom x 0 (l.take k) = s at *
      go_wp2
      go_ret
      exact ⟨by rw [hpe.out]; rfl, K.out⟩
end Go.Proofs.Ytgckhekikcdaiaa

namespace Tri
open Go Go.RowKit Go.Proofs.Ytgckhekikcdaiaa
/-- The inverse, and 0 of 0. -/
def inv0 (x : Nat) : Nat := if x = 0 then 0 else ginv x
theorem inv0_lt (x : Nat) : inv0 x < 256 := by unfold inv0; split; omega; exact ginv_lt _
/-- The power of x that stands for a place. -/
def plc (n i : Nat) : Nat := gexpZ ((n : Int) - 1 - i)
theorem gexpZ_lt (n : Int) : gexpZ n < 256 := by unfold gexpZ; exact gexp_lt _
theorem plc_lt (n i : Nat) : plc n i < 256 := gexpZ_lt _
/-- A factor; 0 where there is none. -/
def coZ (a : List Nat) (i : Int) : Nat := if 0 ≤ i ∧ i < a.length then a.getD i.toNat 0 else 0
theorem coZ_nat (a : List Nat) (i : Nat) : coZ a i = a.getD i 0 := by
  unfold coZ
  split
  · rw [Int.toNat_natCast]
  · rename_i h
    rw [List.getD_eq_getElem?_getD, List.getElem?_eq_none (by omega)]; rfl
theorem getD_lt {a : List Nat} (h : bytesL a) (i : Nat) : a.getD i 0 < 256 := by
  rw [List.getD_eq_getElem?_getD]
  cases hi : a[i]? with
  | none => decide
  | some x => exact h x (List.mem_of_getElem? hi)
theorem coZ_lt {a : List Nat} (h : bytesL a) (i : Int) : coZ a i < 256 := by unfold coZ; split; exact getD_lt h _; omega
/-- A list whose places are reckoned one by one, so far; noughts behind. -/
def fillF (f : Nat → Nat) (n k : Nat) : List Nat := (List.range k).map f ++ List.replicate (n - k) 0
theorem fillF_zero (f : Nat → Nat) (n : Nat) : fillF f n 0 = List.replicate n 0 := rfl
theorem fillF_full (f : Nat → Nat) (n : Nat) : fillF f n n = (List.range n).map f := by unfold fillF; simp
theorem fillF_len (f : Nat → Nat) {n k : Nat} (h : k ≤ n) : (fillF f n k).length = n := by unfold fillF; simp; omega
theorem fillF_at (f : Nat → Nat) {n k : Nat} (h : k < n) : (fillF f n k).getD k 0 = 0 := by
  unfold fillF
  rw [List.getD_eq_getElem?_getD, List.getElem?_append_right (by simp), List.getElem?_replicate]
  split <;> rfl
theorem fillF_set (f : Nat → Nat) {n k : Nat} (h : k < n) : (fillF f n k).set k (f k) = fillF f n (k + 1) := by
  unfold fillF
  rw [List.set_append_right _ _ (by simp), List.length_map, List.length_range, Nat.sub_self, show n - k = (n - (k + 1)) + 1 from by omega, List.replicate_succ, List.set_cons_zero, List.range_succ, List.map_append, List.append_assoc]
  rfl
theorem map_bytes {f : Nat → Nat} (h : ∀ i, f i < 256) (n : Nat) : bytesL ((List.range n).map f) := by
  intro x hx
  obtain ⟨i, -, rfl⟩ := List.mem_map.1 hx
  exact h i
/-- A polynomial, and another one times a factor and x. -/
def plusF (a b : List Nat) (y : Nat) (i : Nat) : Nat := coZ a i ^^^ gmul y (coZ b ((i : Int) - 1))
def plusL (a b : List Nat) (y : Nat) : List Nat := (List.range (max a.length (b.length + 1))).map (plusF a b y)
theorem plusF_lt {a : List Nat} (ha : bytesL a) (b : List Nat) (y i : Nat) : plusF a b y i < 256 := xor_lt (coZ_lt ha _) (gmul_lt _ _)
theorem plusL_len (a b : List Nat) (y : Nat) : (plusL a b y).length = max a.length (b.length + 1) := by unfold plusL; simp
theorem plusL_bytes {a : List Nat} (ha : bytesL a) (b : List Nat) (y : Nat) : bytesL (plusL a b y) := map_bytes (plusF_lt ha b y) _
def scaledL (a : List Nat) (y : Nat) : List Nat := a.map fun x => gmul x y
theorem scaledL_len (a : List Nat) (y : Nat) : (scaledL a y).length = a.length := List.length_map _
theorem scaledL_bytes (a : List Nat) (y : Nat) : bytesL (scaledL a y) := by
  intro x hx
  obtain ⟨i, -, rfl⟩ := List.mem_map.1 hx
  exact gmul_lt _ _
/-- A value, the lowest power first. -/
def valL (a : List Nat) (x : Nat) : Nat := peval x a.reverse
theorem valL_lt {a : List Nat} (h : bytesL a) (x : Nat) : valL a x < 256 := pevalFrom_lt x _ (fun y hy => h y (List.mem_reverse.1 hy)) 0 (by omega)
/-- The polynomial of the erased places. -/
def eraL (n : Nat) (l : List Nat) : List Nat := l.foldl (fun a i => plusL a a (plc n i)) [1]
theorem eraL_snoc (n : Nat) (l : List Nat) (i : Nat) : eraL n (l ++ [i]) = plusL (eraL n l) (eraL n l) (plc n i) := by unfold eraL; rw [List.foldl_append]; rfl
theorem foldl_inv {α β : Type} (P : β → Prop) (f : β → α → β) (hf : ∀ b a, P b → P (f b a)) : ∀ (l : List α) (b : β), P b → P (l.foldl f b)
  | [], _, h => h
  | a :: l, b, h => foldl_inv P f hf l (f b a) (hf b a h)
theorem eraL_bytes (n : Nat) (l : List Nat) : bytesL (eraL n l) := foldl_inv (P := bytesL) _ (fun b a h => plusL_bytes h b _) l [1] (by intro x hx; simp at hx; omega)
theorem eraL_len (n : Nat) (l : List Nat) : (eraL n l).length = l.length + 1 := by
  have : ∀ (l : List Nat) (a : List Nat), (l.foldl (fun a i => plusL a a (plc n i)) a).length = l.length + a.length := by
    intro l
    induction l with
    | nil => intro a; simp
    | cons i l ih =>
      intro a
      rw [List.foldl_cons, ih, plusL_len, List.length_cons]
      omega
  unfold eraL
  rw [this]; rfl
/-- What the places so far don't explain. -/
def gapF (s loc : List Nat) (r j : Nat) : Nat := gmul (loc.getD j 0) (coZ s ((r : Int) - 1 - j))
def xorS (f : Nat → Nat) : Nat → Nat
  | 0 => 0
  | k + 1 => xorS f k ^^^ f k
theorem xorS_lt {f : Nat → Nat} (h : ∀ i, f i < 256) : ∀ k, xorS f k < 256
  | 0 => by unfold xorS; omega
  | k + 1 => xor_lt (xorS_lt h k) (h k)
def gapL (s loc : List Nat) (r : Nat) : Nat := xorS (gapF s loc r) loc.length
theorem gapF_lt (s loc : List Nat) (r j : Nat) : gapF s loc r j < 256 := gmul_lt _ _
theorem gapL_lt (s loc : List Nat) (r : Nat) : gapL s loc r < 256 := xorS_lt (gapF_lt s loc r) _
/-- A step of the search: how many places, the polynomial, the last one. -/
structure SrS where
  l : Nat
  loc : List Nat
  last : List Nat
def srStep (s : List Nat) (e r : Nat) (x : SrS) : SrS :=
  if gapL s x.loc r = 0 then ⟨x.l, x.loc, 0 :: x.last⟩
  else if 2 * x.l ≤ r + e - 1 then ⟨r + e - x.l, plusL x.loc x.last (gapL s x.loc r), scaledL x.loc (inv0 (gapL s x.loc r))⟩
  else ⟨x.l, plusL x.loc x.last (gapL s x.loc r), 0 :: x.last⟩
/-- After k steps. -/
def srRun (s : List Nat) (e : Nat) (loc : List Nat) : Nat → SrS
  | 0 => ⟨e, loc, loc⟩
  | k + 1 => srStep s e (e + 1 + k) (srRun s e loc k)
theorem srStep_inv {s : List Nat} {e r k : Nat} {x : SrS} (hr : r = e + 1 + k) (h1 : bytesL x.loc) (h2 : bytesL x.last) (h3 : x.loc.length ≤ e + 1 + k) (h4 : x.last.length ≤ e + 1 + k) (h5 : x.l ≤ 2 * e + k) :
    bytesL (srStep s e r x).loc ∧ bytesL (srStep s e r x).last ∧ (srStep s e r x).loc.length ≤ e + 1 + (k + 1) ∧ (srStep s e r x).last.length ≤ e + 1 + (k + 1) ∧ (srStep s e r x).l ≤ 2 * e + (k + 1) := by
  have h0 : bytesL (0 :: x.last) := by
    intro y hy
    rcases List.mem_cons.1 hy with rfl | hy
    · omega
    · exact h2 y hy
  unfold srStep
  split
  · exact ⟨h1, h0, by show x.loc.length ≤ _; omega, by show (0 :: x.last).length ≤ _; rw [List.length_cons]; omega, by show x.l ≤ _; omega⟩
  · split
    · refine ⟨plusL_bytes h1 _ _, scaledL_bytes _ _, ?_, ?_, ?_⟩
      · show (plusL _ _ _).length ≤ _; rw [plusL_len]; omega
      · show (scaledL _ _).length ≤ _; rw [scaledL_len]; omega
      · show r + e - x.l ≤ _; omega
    · refine ⟨plusL_bytes h1 _ _, h0, ?_, ?_, ?_⟩
      · show (plusL _ _ _).length ≤ _; rw [plusL_len]; omega
      · show (0 :: x.last).length ≤ _; rw [List.length_cons]; omega
      · show x.l ≤ _; omega
theorem srRun_inv (s : List Nat) (e : Nat) (loc : List Nat) (h1 : bytesL loc) (h2 : loc.length = e + 1) : ∀ k, bytesL (srRun s e loc k).loc ∧ bytesL (srRun s e loc k).last ∧ (srRun s e loc k).loc.length ≤ e + 1 + k ∧ (srRun s e loc k).last.length ≤ e + 1 + k ∧ (srRun s e loc k).l ≤ 2 * e + k
  | 0 => ⟨h1, h1, by show loc.length ≤ _; omega, by show loc.length ≤ _; omega, by show e ≤ _; omega⟩
  | k + 1 => by
    obtain ⟨a1, a2, a3, a4, a5⟩ := srRun_inv s e loc h1 h2 k
    exact srStep_inv rfl a1 a2 a3 a4 a5
/-- Where the polynomial is 0. -/
def isPl (n : Nat) (loc : List Nat) (i : Nat) : Bool := decide (valL loc (inv0 (plc n i)) = 0)
def plsL (n : Nat) (loc : List Nat) (k : Nat) : List Nat := (List.range k).filter (isPl n loc)
theorem plsL_succ (n : Nat) (loc : List Nat) (k : Nat) : plsL n loc (k + 1) = if isPl n loc k then plsL n loc k ++ [k] else plsL n loc k := by
  unfold plsL
  rw [List.range_succ, List.filter_append]
  cases h : isPl n loc k <;> simp [h]
theorem plsL_len (n : Nat) (loc : List Nat) (k : Nat) : (plsL n loc k).length ≤ k := by
  unfold plsL
  have := List.length_filter_le (isPl n loc) (List.range k)
  simpa using this
theorem plsL_mem {n : Nat} {loc : List Nat} {k i : Nat} (h : i ∈ plsL n loc k) : i < k := List.mem_range.1 (List.mem_filter.1 h).1
/-- The formal derivative. -/
def derF (a : List Nat) (i : Nat) : Nat := if (i + 1) % 2 = 1 then a.getD (i + 1) 0 else 0
def derL (a : List Nat) : List Nat := (List.range (a.length - 1)).map (derF a)
theorem derF_lt {a : List Nat} (h : bytesL a) (i : Nat) : derF a i < 256 := by unfold derF; split; exact getD_lt h _; omega
theorem derL_bytes {a : List Nat} (h : bytesL a) : bytesL (derL a) := map_bytes (derF_lt h) _
theorem derL_len (a : List Nat) : (derL a).length = a.length - 1 := by unfold derL; simp
/-- The product of the values and the places, below the power p. -/
def omF (s loc : List Nat) (i j : Nat) : Nat := gmul (coZ s j) (coZ loc ((i : Int) - j))
def omC (s loc : List Nat) (i : Nat) : Nat := xorS (omF s loc i) (i + 1)
def omL (s loc : List Nat) (p : Nat) : List Nat := (List.range p).map (omC s loc)
theorem omF_lt (s loc : List Nat) (i j : Nat) : omF s loc i j < 256 := gmul_lt _ _
theorem omC_lt (s loc : List Nat) (i : Nat) : omC s loc i < 256 := xorS_lt (omF_lt s loc i) _
theorem omL_bytes (s loc : List Nat) (p : Nat) : bytesL (omL s loc p) := map_bytes (omC_lt s loc) _
theorem omL_len (s loc : List Nat) (p : Nat) : (omL s loc p).length = p := by unfold omL; simp
/-- What a place's byte is turned by; whether it can be. -/
def byOk (n : Nat) (der : List Nat) (i : Nat) : Bool := decide (valL der (inv0 (plc n i)) ≠ 0)
def byV (n : Nat) (om der : List Nat) (i : Nat) : Nat := gmul (plc n i) (if valL der (inv0 (plc n i)) = 0 then 0 else gmul (valL om (inv0 (plc n i))) (ginv (valL der (inv0 (plc n i)))))
theorem byV_lt (n : Nat) (om der : List Nat) (i : Nat) : byV n om der i < 256 := gmul_lt _ _
/-- How many places aren't erased. -/
def unlN (era l : List Nat) : Nat := l.countP fun i => !(era.contains i)
/-- The word's places turned, one by one. -/
def fixL (n : Nat) (om der : List Nat) : List Nat → List Nat → Option (List Nat)
  | out, [] => some out
  | out, i :: l => if byOk n der i then fixL n om der (out.set i (out.getD i 0 ^^^ byV n om der i)) l else none
/-- The word, mended, behind a search. -/
def mendL (n p : Nat) (s era loc word : List Nat) (many : Int) : Option (List Nat) :=
  if ((plsL n loc n).length : Int) ≠ many ∨ p < era.length + 2 * unlN era (plsL n loc n) then none
  else fixL n (omL s loc p) (derL loc) word (plsL n loc n)
end Tri

namespace Go.Proofs.Ytgckhekikcdaiaa
open Go.RowKit

section
variable {P : Program} {ops : Array Oper} {Q : Exit → Act → World → Prop}

def unlisted (L : Array Bool) : Nat := (L.toList.filter (fun b => !b)).length
theorem unlisted_set (L : Array Bool) (i : Nat) (h : L[i]? = some false) : unlisted (L.setIfInBounds i true) + 1 = unlisted L := by
  obtain ⟨l⟩ := L
  simp only [unlisted, List.setIfInBounds_toArray]
  simp only [List.getElem?_toArray] at h
  induction l generalizing i with
  | nil => simp at h
  | cons b l ih =>
    cases i with
    | zero =>
      simp only [List.getElem?_cons_zero, Option.some.injEq] at h
      subst h
      simp
    | succ i =>
      simp only [List.getElem?_cons_succ] at h
      have := ih i h
      cases b <;> simp at this ⊢ <;> omega

theorem ready_nil (hac : ∀ (i : Nat) (o : Oper), ops[i]? = some o → ∀ e : Edge, e ∈ o.after → e.on < i) (L : Array Bool) (hs : L.size = ops.size) (h : Region.ready .any ops L = []) :
    ∀ i, i < ops.size → L[i]? = some true := by
  intro i
  induction i using Nat.strongRecOn with
  | ind i ih =>
    intro hi
    have hL : i < L.size := by omega
    have hm : i ∉ Region.ready .any ops L := by rw [h]; simp
    unfold Region.ready at hm
    rw [List.mem_filter] at hm
    simp only [List.mem_range, hi, true_and] at hm
    have ho : ops[i]? = some ops[i] := Array.getElem?_eq_getElem hi
    rw [ho] at hm
    simp only [Option.map_some, Option.getD_some, Bool.and_eq_true, Bool.not_eq_eq_eq_not, Bool.not_true] at hm
    cases hb : L[i] with
    | true => rw [Array.getElem?_eq_getElem hL, hb]
    | false =>
      exfalso
      apply hm
      refine ⟨by simp [hL, hb], ?_⟩
      rw [Array.all_eq_true_iff_forall_mem]
      intro e he
      have h1 := hac i _ ho e he
      have h2 := ih e.on h1 (by omega)
      have : L.getD e.on false = true := by rw [Array.getD_eq_getD_getElem?, h2]; rfl
      simp [this]

theorem wpAny_inv (hac : ∀ (i : Nat) (o : Oper), ops[i]? = some o → ∀ e : Edge, e ∈ o.after → e.on < i) (I : Array Bool → Act → World → Prop)
    (hstep : ∀ (i : Nat) (o : Oper), ops[i]? = some o → ∀ L a w, L.size = ops.size → I L a w → L[i]? = some false → (∀ e ∈ o.after, Region.binds .any e = true → L[e.on]? = some true) →
      wpOp P ops Q i (fun a' w' => I (L.setIfInBounds i true) a' w') a w)
    (hend : ∀ L a w, (∀ i, i < ops.size → L[i]? = some true) → I L a w → Q .normal a w) :
    ∀ fuel L a w, L.size = ops.size → I L a w → unlisted L ≤ fuel → wpAny P .any ops Q fuel L a w := by
  intro fuel
  induction fuel with
  | zero =>
    intro L a w hs hI hu
    have hall : ∀ i, i < ops.size → L[i]? = some true := by
      intro i hi
      rw [Array.getElem?_eq_getElem (by omega)]
      cases hb : L[i]'(by omega) with
      | true => rfl
      | false =>
        have : unlisted L = 0 := by omega
        have := unlisted_set L i (by rw [Array.getElem?_eq_getElem (by omega), hb])
        omega
    refine ⟨?_, hend L a w hall hI⟩
    unfold Region.ready
    rw [List.filter_eq_nil_iff]
    intro i hi
    simp only [List.mem_range] at hi
    have h1 := hall i hi
    have h2 : L.getD i true = true := by rw [Array.getD_eq_getD_getElem?, h1]; rfl
    rw [h2]; simp
  | succ fuel ih =>
    intro L a w hs hI hu
    refine ⟨fun hr => hend L a w (ready_nil hac L hs hr) hI, ?_⟩
    intro i hi
    unfold Region.ready at hi
    rw [List.mem_filter] at hi
    simp only [List.mem_range] at hi
    obtain ⟨hi1, hi2⟩ := hi
    have ho : ops[i]? = some ops[i] := Array.getElem?_eq_getElem hi1
    rw [ho] at hi2
    simp only [Option.map_some, Option.getD_some, Bool.and_eq_true] at hi2
    obtain ⟨hl, hd⟩ := hi2
    have hlf : L[i]? = some false := by
      rw [Array.getElem?_eq_getElem (by omega)]
      cases hb : L[i]'(by omega) with
      | false => rfl
      | true => simp [hs, hi1, hb] at hl
    refine wpOp_mono (fun a' w' hI' => ih _ a' w' (by simp [hs]) hI' (by have := unlisted_set L i hlf; omega)) (hstep i _ ho L a w hs hI hlf ?_)
    intro e he hb
    rw [Array.all_eq_true_iff_forall_mem] at hd
    have := hd e he
    simp only [hb, Bool.not_true, Bool.false_or] at this
    by_cases hlt : e.on < L.size
    · simp [hlt] at this
      rw [Array.getElem?_eq_getElem hlt, this]
    · simp [hlt] at this

theorem eval_put_same (a : Act) (d : Nat) (v : Value) (h : d < a.tmps.size) : (a.put (some d) v).tmps.getD d undef = v := by
  simp [Act.put, h]
theorem eval_put_other (a : Act) (d s : Nat) (v : Value) (h : d ≠ s) : (a.put (some d) v).tmps.getD s undef = a.tmps.getD s undef := by
  simp [Act.put, Array.getElem?_setIfInBounds, h]

/-- What each operation does, whenever its turn comes: from a state in which C holds, what is not written in this statement is as it was, and what it waits for has its value. -/
def opsOk (P : Program) (ops : Array Oper) (Q : Exit → Act → World → Prop) (a0 : Act) (C : World → Prop) (V : Nat → Value → World → Prop) : Nat → List Oper → Prop
  | _, [] => True
  | i, o :: rest => (∀ (a : Act) (w : World), C w → (∀ s, ops.toList.all (fun (o : Oper) => o.dst != some s) = true → a.tmps.getD s undef = a0.tmps.getD s undef) →
      (∀ e, e ∈ o.after → Region.binds .any e = true → ∀ (oe : Oper) (d : Nat), ops[e.on]? = some oe → oe.dst = some d → V e.on (a.tmps.getD d undef) w) →
      ∀ K : Act → World → Prop, (∀ v w', V i v w' → C w' → Below w.heap.size w w' → K (a.put o.dst v) w') → o.wp P a w K Q) ∧ opsOk P ops Q a0 C V (i + 1) rest

theorem opsOk_at {a0 : Act} {C : World → Prop} {V : Nat → Value → World → Prop} (l : List Oper) : ∀ (k : Nat), opsOk P ops Q a0 C V k l → ∀ i o, l[i]? = some o →
    ∀ (a : Act) (w : World), C w → (∀ s, ops.toList.all (fun (o : Oper) => o.dst != some s) = true → a.tmps.getD s undef = a0.tmps.getD s undef) →
      (∀ e, e ∈ o.after → Region.binds .any e = true → ∀ (oe : Oper) (d : Nat), ops[e.on]? = some oe → oe.dst = some d → V e.on (a.tmps.getD d undef) w) →
      ∀ K : Act → World → Prop, (∀ v w', V (k + i) v w' → C w' → Below w.heap.size w w' → K (a.put o.dst v) w') → o.wp P a w K Q := by
  induction l with
  | nil => intro k _ i o h; simp at h
  | cons x l ih =>
    intro k hk i o h
    cases i with
    | zero =>
      simp only [List.getElem?_cons_zero, Option.some.injEq] at h
      subst h
      exact hk.1
    | succ i =>
      simp only [List.getElem?_cons_succ] at h
      have := ih (k + 1) hk.2 i o h
      rw [show k + 1 + i = k + (i + 1) from by omega] at this
      exact this

theorem dst_inj (l : List Oper) (hnd : (l.filterMap fun (o : Oper) => o.dst).Nodup) : ∀ (i j : Nat) (oi oj : Oper) (d : Nat), l[i]? = some oi → l[j]? = some oj → oi.dst = some d → oj.dst = some d → i = j := by
  induction l with
  | nil => intro i j oi oj d hi; simp at hi
  | cons x l ih =>
    intro i j oi oj d hi hj hdi hdj
    have hnd' : (l.filterMap fun (o : Oper) => o.dst).Nodup := by
      rw [List.filterMap_cons] at hnd
      cases h : x.dst with
      | none => rw [h] at hnd; exact hnd
      | some y => rw [h] at hnd; exact (List.nodup_cons.1 hnd).2
    cases i with
    | zero =>
      cases j with
      | zero => rfl
      | succ j =>
        simp only [List.getElem?_cons_zero, Option.some.injEq] at hi
        simp only [List.getElem?_cons_succ] at hj
        subst hi
        rw [List.filterMap_cons, hdi] at hnd
        have : d ∈ l.filterMap fun (o : Oper) => o.dst := List.mem_filterMap.2 ⟨oj, List.mem_of_getElem? hj, hdj⟩
        exact absurd this (List.nodup_cons.1 hnd).1
    | succ i =>
      cases j with
      | zero =>
        simp only [List.getElem?_cons_zero, Option.some.injEq] at hj
        simp only [List.getElem?_cons_succ] at hi
        subst hj
        rw [List.filterMap_cons, hdj] at hnd
        have : d ∈ l.filterMap fun (o : Oper) => o.dst := List.mem_filterMap.2 ⟨oi, List.mem_of_getElem? hi, hdi⟩
        exact absurd this (List.nodup_cons.1 hnd).1
      | succ j =>
        simp only [List.getElem?_cons_succ] at hi hj
        rw [ih hnd' i j oi oj d hi hj hdi hdj]

theorem op_tmp {o : Oper} {a : Act} {w : World} {K : Act → World → Prop} (s : Nat) (v : Value) (ho : o.op = .move (.tmp s)) (hv : a.tmps.getD s undef = v) (hK : K (a.put o.dst v) w) : o.wp P a w K Q :=
  BigFrame.wp_move (.tmp s) ho (by show K (a.put o.dst (a.tmps.getD s undef)) w; rw [hv]; exact hK)

/-- THE RULE. -/
theorem region_any {id : Nat} (a0 : Act) (w0 : World) (C : World → Prop) (V : Nat → Value → World → Prop) (hm : P.follows .mixedOrders = true)
    (hac : (ops.toList.mapIdx fun i (o : Oper) => o.after.all fun (e : Edge) => decide (e.on < i)).all (fun b => b) = true) (hg : ops.toList.all (fun (o : Oper) => o.guard.isNone) = true)
    (hdst : ((ops.toList.filterMap fun (o : Oper) => o.dst).Nodup ∧ ops.toList.all (fun (o : Oper) => match o.dst with | some d => decide (d < a0.tmps.size) | none => true) = true))
    (hC : C w0.drew) (hst : ∀ i v w w', Below w.heap.size w w' → V i v w → V i v w')
    (hop : opsOk P ops Q a0 C V 0 ops.toList)
    (hend : ∀ a w, C w → Below w0.heap.size w0 w → a.defers = a0.defers → a.tmps.size = a0.tmps.size → (∀ s, ops.toList.all (fun (o : Oper) => o.dst != some s) = true → a.tmps.getD s undef = a0.tmps.getD s undef) →
      (∀ (i : Nat) (o : Oper) (d : Nat), ops[i]? = some o → o.dst = some d → V i (a.tmps.getD d undef) w) → Q .normal a w) :
    (Code.region id ops true).wp P Q a0 w0 := by
  have hac' : ∀ (i : Nat) (o : Oper), ops[i]? = some o → ∀ e : Edge, e ∈ o.after → e.on < i := by
    intro i o hi e he
    rw [List.all_eq_true] at hac
    have := hac (o.after.all fun e => decide (e.on < i)) (by
      rw [List.mem_mapIdx]
      have hlt := (Array.getElem?_eq_some_iff.1 hi).1
      refine ⟨i, by simpa using hlt, ?_⟩
      have := (Array.getElem?_eq_some_iff.1 hi).2
      simp [this])
    rw [Array.all_eq_true_iff_forall_mem] at this
    simpa using this e he
  have hdlt : ∀ o : Oper, o ∈ ops.toList → ∀ d, o.dst = some d → d < a0.tmps.size := by
    intro o ho d hd
    have := List.all_eq_true.1 hdst.2 o ho
    rw [hd] at this
    simpa using this
  have hinj : ∀ (i j : Nat) (oi oj : Oper) (d : Nat), ops[i]? = some oi → ops[j]? = some oj → oi.dst = some d → oj.dst = some d → i = j := by
    intro i j oi oj d hi hj hdi hdj
    rw [← Array.getElem?_toList] at hi hj
    exact dst_inj _ hdst.1 i j oi oj d hi hj hdi hdj
  refine wp_region_any hm ?_
  refine wpAny_inv hac' (fun L a w => C w ∧ Below w0.heap.size w0 w ∧ a.defers = a0.defers ∧ a.tmps.size = a0.tmps.size ∧
      (∀ s, ops.toList.all (fun (o : Oper) => o.dst != some s) = true → a.tmps.getD s undef = a0.tmps.getD s undef) ∧
      (∀ (i : Nat) (o : Oper) (d : Nat), ops[i]? = some o → o.dst = some d → L[i]? = some true → V i (a.tmps.getD d undef) w)) ?_ ?_ _ _ _ _ (by simp) ?_ ?_
  · intro i o ho L a w hs ⟨h1, h2, h3, h4, h5, h6⟩ hi he
    have hom : o ∈ ops.toList := by rw [← Array.getElem?_toList] at ho; exact List.mem_of_getElem? ho
    have hgo : o.guard = none := by have := List.all_eq_true.1 hg o hom; simpa using this
    unfold wpOp
    rw [ho]
    simp only []
    rw [if_pos (by simp [Region.wanted, hgo])]
    refine .inl (opsOk_at ops.toList 0 hop i o (by rw [Array.getElem?_toList]; exact ho) a w h1 h5 ?_ _ ?_)
    · intro e hem hb oe d hoe hd
      exact h6 e.on oe d hoe hd (he e hem hb)
    · intro v w' hv hc hbl
      rw [Nat.zero_add] at hv
      refine ⟨hc, h2.trans (hbl.mono h2.size), ?_, ?_, ?_, ?_⟩
      · rw [← h3]; cases o.dst <;> rfl
      · rw [← h4]; cases o.dst <;> simp [Act.put]
      · intro s hsn
        rw [← h5 s hsn]
        cases hdo : o.dst with
        | none => rfl
        | some d => exact eval_put_other a d s v (fun e => by have := List.all_eq_true.1 hsn o hom; rw [hdo, e] at this; simp at this)
      · intro j oj d hj hdj hLj
        by_cases e : j = i
        · subst e
          rw [ho] at hj
          obtain rfl : o = oj := by simpa using hj
          rw [hdj, eval_put_same a d v (by rw [h4]; exact hdlt o hom d hdj)]
          exact hv
        · have hLj' : L[j]? = some true := by
            rw [Array.getElem?_setIfInBounds, if_neg (fun e' => e e'.symm)] at hLj
            exact hLj
          have := h6 j oj d hj hdj hLj'
          have hval : (a.put o.dst v).tmps.getD d undef = a.tmps.getD d undef := by
            cases hdo : o.dst with
            | none => rfl
            | some d' =>
              refine eval_put_other a d' d v (fun e' => e ?_)
              subst e'
              exact hinj j i oj o d' hj ho hdj hdo
          rw [hval]
          exact hst j _ w w' hbl this
  · intro L a w hall ⟨h1, h2, h3, h4, h5, h6⟩
    refine hend a w h1 h2 h3 h4 h5 fun i o d ho hd => h6 i o d ho hd (hall i (Array.getElem?_eq_some_iff.1 ho).1)
  · refine ⟨hC, (Below.refl _ _).drew, rfl, rfl, fun _ _ => rfl, ?_⟩
    intro i o d ho hd hL
    rw [Array.getElem?_replicate] at hL
    split at hL <;> simp_all
  · unfold unlisted
    simp

/-- THE RULE WHERE ONE OPERATION WAITS FOR ALL OTHERS (a store at a statement's end): it is walked by itself, from what all others have found. -/
theorem region_last {id : Nat} {m : Nat} {om : Oper} (a0 : Act) (w0 : World) (C : World → Prop) (V : Nat → Value → World → Prop) (hm : P.follows .mixedOrders = true)
    (hac : (ops.toList.mapIdx fun i (o : Oper) => o.after.all fun (e : Edge) => decide (e.on < i)).all (fun b => b) = true) (hg : ops.toList.all (fun (o : Oper) => o.guard.isNone) = true)
    (hsz : ops.size = m + 1) (hom : ops[m]? = some om) (hdep : (List.range m).all (fun j => om.after.any fun (e : Edge) => decide (e.on = j) && Region.binds .any e) = true)
    (hdst : (((ops.toList.take m).filterMap fun (o : Oper) => o.dst).Nodup ∧ (ops.toList.take m).all (fun (o : Oper) => match o.dst with | some d => decide (d < a0.tmps.size) | none => true) = true))
    (hC : C w0.drew) (hst : ∀ i v w w', Below w.heap.size w w' → V i v w → V i v w')
    (hop : opsOk P (ops.toList.take m).toArray Q a0 C V 0 (ops.toList.take m))
    (hend : ∀ a w, C w → Below w0.heap.size w0 w → a.defers = a0.defers → a.tmps.size = a0.tmps.size → (∀ s, (ops.toList.take m).all (fun (o : Oper) => o.dst != some s) = true → a.tmps.getD s undef = a0.tmps.getD s undef) →
      (∀ (i : Nat) (o : Oper) (d : Nat), i < m → ops[i]? = some o → o.dst = some d → V i (a.tmps.getD d undef) w) → om.wp P a w (Q .normal) Q) :
    (Code.region id ops true).wp P Q a0 w0 := by
  have hac' : ∀ (i : Nat) (o : Oper), ops[i]? = some o → ∀ e : Edge, e ∈ o.after → e.on < i := by
    intro i o hi e he
    rw [List.all_eq_true] at hac
    have := hac (o.after.all fun e => decide (e.on < i)) (by
      rw [List.mem_mapIdx]
      have hlt := (Array.getElem?_eq_some_iff.1 hi).1
      refine ⟨i, by simpa using hlt, ?_⟩
      have := (Array.getElem?_eq_some_iff.1 hi).2
      simp [this])
    rw [Array.all_eq_true_iff_forall_mem] at this
    simpa using this e he
  have htk : ∀ (i : Nat) (o : Oper), i < m → ops[i]? = some o → (ops.toList.take m)[i]? = some o := by
    intro i o hi ho
    rw [List.getElem?_take, if_pos hi, Array.getElem?_toList]; exact ho
  have hdlt : ∀ o : Oper, o ∈ ops.toList.take m → ∀ d, o.dst = some d → d < a0.tmps.size := by
    intro o ho d hd
    have := List.all_eq_true.1 hdst.2 o ho
    rw [hd] at this
    simpa using this
  refine wp_region_any hm ?_
  refine wpAny_inv hac' (fun L a w => (L[m]? = some true → Q .normal a w ∧ ∀ j, j < m → L[j]? = some true) ∧ (L[m]? = some false → C w ∧ Below w0.heap.size w0 w ∧ a.defers = a0.defers ∧ a.tmps.size = a0.tmps.size ∧
      (∀ s, (ops.toList.take m).all (fun (o : Oper) => o.dst != some s) = true → a.tmps.getD s undef = a0.tmps.getD s undef) ∧
      (∀ (i : Nat) (o : Oper) (d : Nat), i < m → ops[i]? = some o → o.dst = some d → L[i]? = some true → V i (a.tmps.getD d undef) w))) ?_ ?_ _ _ _ _ (by simp) ?_ ?_
  · intro i o ho L a w hs ⟨hT, hF⟩ hi he
    have hoA : o ∈ ops.toList := by rw [← Array.getElem?_toList] at ho; exact List.mem_of_getElem? ho
    have hgo : o.guard = none := by have := List.all_eq_true.1 hg o hoA; simpa using this
    have hLm : m < L.size := by omega
    have him : i < ops.size := (Array.getElem?_eq_some_iff.1 ho).1
    unfold wpOp
    rw [ho]
    simp only []
    rw [if_pos (by simp [Region.wanted, hgo])]
    left
    have hLf : L[m]? = some false := by
      rw [Array.getElem?_eq_getElem hLm]
      cases hb : L[m] with
      | false => rfl
      | true =>
        have h1 := (hT (by rw [Array.getElem?_eq_getElem hLm, hb])).2
        by_cases e : i = m
        · subst e; rw [Array.getElem?_eq_getElem hLm, hb] at hi; exact hi
        · have := h1 i (by omega); rw [this] at hi; cases hi
    obtain ⟨h1, h2, h3, h4, h5, h6⟩ := hF hLf
    by_cases e : i = m
    · subst e
      rw [hom] at ho
      obtain rfl : om = o := by simpa using ho
      have hall : ∀ j, j < i → L[j]? = some true := by
        intro j hj
        have := List.all_eq_true.1 hdep j (by simpa using hj)
        rw [Array.any_eq_true] at this
        obtain ⟨x, hx, hxe⟩ := this
        simp only [Bool.and_eq_true, decide_eq_true_eq] at hxe
        have := he _ (Array.getElem_mem hx) hxe.2
        rwa [hxe.1] at this
      refine Oper.wp_mono (fun a' w' hq => ⟨fun _ => ⟨hq, fun j hj => ?_⟩, fun hf => ?_⟩) (hend a w h1 h2 h3 h4 h5 fun j oj d hj hoj hd => h6 j oj d hj hoj hd (hall j hj))
      · rw [Array.getElem?_setIfInBounds, if_neg (by omega)]; exact hall j hj
      · rw [Array.getElem?_setIfInBounds, if_pos rfl, if_pos hLm] at hf; cases hf
    · have hilt : i < m := by omega
      have hot : o ∈ ops.toList.take m := List.mem_of_getElem? (htk i o hilt ho)
      refine opsOk_at (ops.toList.take m) 0 hop i o (htk i o hilt ho) a w h1 (by simpa using h5) ?_ _ ?_
      · intro ed hem hb oe d hoe hd
        have hlt := hac' i o ho ed hem
        have hoe' : ops[ed.on]? = some oe := by
          rw [List.getElem?_toArray, List.getElem?_take] at hoe
          split at hoe
          · rwa [Array.getElem?_toList] at hoe
          · cases hoe
        exact h6 ed.on oe d (by omega) hoe' hd (he ed hem hb)
      · intro v w' hv hc hbl
        rw [Nat.zero_add] at hv
        refine ⟨fun ht => ?_, fun _ => ⟨hc, h2.trans (hbl.mono h2.size), ?_, ?_, ?_, ?_⟩⟩
        · rw [Array.getElem?_setIfInBounds, if_neg e, hLf] at ht; cases ht
        · rw [← h3]; cases o.dst <;> rfl
        · rw [← h4]; cases o.dst <;> simp [Act.put]
        · intro s hsn
          rw [← h5 s hsn]
          cases hdo : o.dst with
          | none => rfl
          | some d => exact eval_put_other a d s v (fun e => by have := List.all_eq_true.1 hsn o hot; rw [hdo, e] at this; simp at this)
        · intro j oj d hjm hj hdj hLj
          by_cases e : j = i
          · subst e
            rw [ho] at hj
            obtain rfl : o = oj := by simpa using hj
            rw [hdj, eval_put_same a d v (by rw [h4]; exact hdlt o hot d hdj)]
            exact hv
          · have hLj' : L[j]? = some true := by
              rw [Array.getElem?_setIfInBounds, if_neg (fun e' => e e'.symm)] at hLj
              exact hLj
            have := h6 j oj d hjm hj hdj hLj'
            have hval : (a.put o.dst v).tmps.getD d undef = a.tmps.getD d undef := by
              cases hdo : o.dst with
              | none => rfl
              | some d' =>
                refine eval_put_other a d' d v (fun e' => e ?_)
                subst e'
                exact dst_inj _ hdst.1 j i oj o d' (htk j oj hjm hj) (htk i o hilt ho) hdj hdo
            rw [hval]
            exact hst j _ w w' hbl this
  · intro L a w hall ⟨hT, _⟩
    exact (hT (hall m (by omega))).1
  · refine ⟨fun ht => ?_, fun _ => ⟨hC, (Below.refl _ _).drew, rfl, rfl, fun _ _ => rfl, ?_⟩⟩
    · rw [Array.getElem?_replicate] at ht; split at ht <;> simp_all
    · intro i o d _ ho hd hL
      rw [Array.getElem?_replicate] at hL
      split at hL <;> simp_all
  · unfold unlisted
    simp

/-- A frame in which operations have written what vs says. -/
def wrote (vs : Nat → Value) : List Oper → Array Value → Array Value
  | [], t => t
  | o :: l, t => wrote vs l (match o.dst with | some d => t.setIfInBounds d (vs d) | none => t)
theorem wrote_nil (vs : Nat → Value) (t : Array Value) : wrote vs [] t = t := rfl
theorem wrote_cons (vs : Nat → Value) (d : Nat) (op : Op) (ty : TypeId) (pos : String) (af : Array Edge) (g : Option (Nat × Bool)) (l : List Oper) (t : Array Value) :
    wrote vs (⟨some d, op, ty, pos, af, g⟩ :: l) t = wrote vs l (t.setIfInBounds d (vs d)) := rfl
theorem wrote_size (vs : Nat → Value) (l : List Oper) (t : Array Value) : (wrote vs l t).size = t.size := by
  induction l generalizing t with
  | nil => rfl
  | cons o l ih => simp only [wrote]; rw [ih]; cases o.dst <;> simp
theorem wrote_at (vs : Nat → Value) (l : List Oper) (t : Array Value) (s : Nat) (hs : s < t.size) (x : Value)
    (h1 : (∃ o : Oper, o ∈ l ∧ o.dst = some s) → vs s = x) (h2 : (∀ o : Oper, o ∈ l → o.dst ≠ some s) → t.getD s undef = x) : (wrote vs l t).getD s undef = x := by
  induction l generalizing t with
  | nil => exact h2 (by simp)
  | cons o l ih =>
    simp only [wrote]
    refine ih _ (by cases o.dst <;> simp [hs]) (fun ⟨o', ho', hd⟩ => h1 ⟨o', by simp [ho'], hd⟩) ?_
    intro hno
    cases hd : o.dst with
    | none =>
      simp only []
      refine h2 fun o' ho' => ?_
      rcases List.mem_cons.1 ho' with rfl | h
      · rw [hd]; simp
      · exact hno o' h
    | some d =>
      simp only []
      by_cases e : d = s
      · subst e
        have := h1 ⟨o, by simp, hd⟩
        simp [hs, this]
      · have h3 := h2 (fun o' ho' => by
          rcases List.mem_cons.1 ho' with rfl | h
          · rw [hd]; simpa using e
          · exact hno o' h)
        simp only [Array.getD_eq_getD_getElem?] at h3 ⊢
        rw [Array.getElem?_setIfInBounds, if_neg e]
        exact h3

/-- The same rule; the frame behind it is written out. -/
theorem region_store {id : Nat} {m : Nat} {om : Oper} (a0 : Act) (w0 : World) (C : World → Prop) (V : Nat → Value → World → Prop) (hm : P.follows .mixedOrders = true)
    (hac : (ops.toList.mapIdx fun i (o : Oper) => o.after.all fun (e : Edge) => decide (e.on < i)).all (fun b => b) = true) (hg : ops.toList.all (fun (o : Oper) => o.guard.isNone) = true)
    (hsz : ops.size = m + 1) (hom : ops[m]? = some om) (hdep : (List.range m).all (fun j => om.after.any fun (e : Edge) => decide (e.on = j) && Region.binds .any e) = true)
    (hdst : (((ops.toList.take m).filterMap fun (o : Oper) => o.dst).Nodup ∧ (ops.toList.take m).all (fun (o : Oper) => match o.dst with | some d => decide (d < a0.tmps.size) | none => true) = true))
    (hC : C w0.drew) (hst : ∀ i v w w', Below w.heap.size w w' → V i v w → V i v w')
    (hop : opsOk P (ops.toList.take m).toArray Q a0 C V 0 (ops.toList.take m))
    (hend : ∀ (vs : Nat → Value) (w : World), C w → Below w0.heap.size w0 w → (∀ (i : Nat) (o : Oper) (d : Nat), i < m → ops[i]? = some o → o.dst = some d → V i (vs d) w) →
      om.wp P { tmps := wrote vs (ops.toList.take m) a0.tmps, defers := a0.defers } w (Q .normal) Q) :
    (Code.region id ops true).wp P Q a0 w0 := by
  refine region_last a0 w0 C V hm hac hg hsz hom hdep hdst hC hst hop ?_
  intro a w h1 h2 h3 h4 h5 h6
  have ha : a = { tmps := wrote (fun d => a.tmps.getD d undef) (ops.toList.take m) a0.tmps, defers := a0.defers } := by
    obtain ⟨at', ad⟩ := a
    simp only at h3 h4 h5
    subst h3
    have key : at' = wrote (fun d => at'.getD d undef) (ops.toList.take m) a0.tmps := by
      have hgd : ∀ s, s < at'.size → (wrote (fun d => at'.getD d undef) (ops.toList.take m) a0.tmps).getD s undef = at'.getD s undef := by
        intro s hs
        refine wrote_at _ _ _ s (by omega) _ (fun _ => rfl) (fun hno => ?_)
        exact (h5 s (by rw [List.all_eq_true]; intro o ho; simpa using hno o ho)).symm
      apply Array.ext
      · rw [wrote_size]; exact h4
      · intro i hi1 hi2
        have h := hgd i hi1
        rw [Array.getD_eq_getD_getElem?, Array.getD_eq_getD_getElem?, Array.getElem?_eq_getElem hi1, Array.getElem?_eq_getElem hi2] at h
        exact h.symm
    exact congrArg (fun t => Act.mk t a0.defers) key
  rw [ha]
  exact hend _ w h1 h2 h6
end
end Go.Proofs.Ytgckhekikcdaiaa

namespace Go.Proofs.Ytgckhekikcdaiaa
open Go.RowKit Tri

def bufB (w : World) (b : Nat) (l : List Nat) : Prop := cellsB w (some ⟨b, 0, none⟩) l ∧ ∀ i, i < l.length → w.frozen? ⟨b, i, none⟩ = false
theorem bufB.alloc {w : World} {b : Nat} {l : List Nat} (h : bufB w b l) (c : Array Value) (t : TypeId) : bufB (w.alloc (.cells c t)) b l :=
  ⟨h.1.alloc _, fun i hi => by rw [frozen?_alloc_cells]; exact h.2 i hi⟩
theorem bufB.drew {w : World} {b : Nat} {l : List Nat} (h : bufB w b l) : bufB w.drew b l := h
theorem bufB.below {w w' : World} {b : Nat} {l : List Nat} (h : bufB w b l) (hb : Below w.heap.size w w') : bufB w' b l := by
  refine ⟨h.1.below hb, fun i hi => ?_⟩
  obtain ⟨a, o, e, hc⟩ := h.1 i hi
  simp only [Option.some.injEq, Addr.mk.injEq] at e
  obtain ⟨rfl, rfl, _⟩ := e
  rw [Nat.zero_add] at hc
  rw [hb.frozen (p := ⟨b, i, none⟩) (block_lt_of_cell hc)]
  exact h.2 i hi
theorem bufB.at {w : World} {b : Nat} {l : List Nat} (h : bufB w b l) (i : Nat) (hi : i < l.length) : w.cell? ⟨b, i, none⟩ = some (.int .u8 (l.getD i 0 : Nat)) := by
  obtain ⟨a, o, e, hc⟩ := h.1 i hi
  simp only [Option.some.injEq, Addr.mk.injEq] at e
  obtain ⟨rfl, rfl, _⟩ := e
  rwa [Nat.zero_add] at hc
theorem bufB.set {w : World} {b : Nat} {l : List Nat} (h : bufB w b l) (i x : Nat) (hi : i < l.length) : bufB (w.setCell ⟨b, i, none⟩ (.int .u8 (x : Nat))) b (l.set i x) := by
  refine ⟨by have := h.1.set i x hi; rwa [Nat.zero_add] at this, fun j hj => ?_⟩
  rw [World.frozen?_setCell]
  exact h.2 j (by simpa using hj)
theorem bufB.made (w : World) (n : Nat) (t : TypeId) : bufB (w.alloc (.cells (madeCells #[Value.int .u8 0] n) t)) w.heap.size (List.replicate n 0) := by
  refine ⟨cellsB.new w _ _ _ ?_, fun i hi => ?_⟩
  · apply List.ext_getElem (by simp [madeCells])
    intro i h1 h2
    simp [madeCells, Nat.mod_one]
  · rw [frozen?_alloc_cells]
    unfold World.frozen?
    simp

/-- What a call hands back: bytes (in whatever memory). -/
def RetC (w : World) (l : List Nat) (e : Ending) (w' : World) : Prop := ∃ p c, e = .returned (.slice p l.length c) ∧ l.length ≤ c ∧ cellsB w' p l ∧ Below w.heap.size w w'
end Go.Proofs.Ytgckhekikcdaiaa

namespace Go.Proofs.Ytgckhekikcdaiaa
open Go.RowKit

def Blk (w : World) (B : Nat) (t : TypeId) (vs : Array Value) : Prop := w.heap[B]? = some (.cells vs t)
theorem Blk.lt {w : World} {B : Nat} {t : TypeId} {vs : Array Value} (h : Blk w B t vs) : B < w.heap.size := (Array.getElem?_eq_some_iff.1 h).1
theorem Blk.below {w w' : World} {B : Nat} {t : TypeId} {vs : Array Value} (h : Blk w B t vs) (hb : Below w.heap.size w w') : Blk w' B t vs := by
  unfold Blk; rw [hb.block B h.lt]; exact h
theorem Blk.belowN {w w' : World} {B n : Nat} {t : TypeId} {vs : Array Value} (h : Blk w B t vs) (hb : Below n w w') (hn : B < n) : Blk w' B t vs := by
  unfold Blk; rw [hb.block B hn]; exact h
theorem Blk.new (w : World) (t : TypeId) (vs : Array Value) : Blk (w.alloc (.cells vs t)) w.heap.size t vs := heap_alloc_new w _
theorem Blk.cell {w : World} {B : Nat} {t : TypeId} {vs : Array Value} (h : Blk w B t vs) (i : Nat) (v : Value) (hv : vs[i]? = some v) : w.cell? ⟨B, i, none⟩ = some v := by
  unfold World.cell?
  rw [show w.heap[B]? = _ from h]
  simpa using hv
theorem Blk.free {w : World} {B : Nat} {t : TypeId} {vs : Array Value} (h : Blk w B t vs) (i : Nat) : w.frozen? ⟨B, i, none⟩ = false := by
  unfold World.frozen?
  simp only
  rw [show w.heap[B]? = _ from h]
  simp
theorem Blk.set {w : World} {B : Nat} {t : TypeId} {vs : Array Value} (h : Blk w B t vs) (i : Nat) (v : Value) : Blk (w.setCell ⟨B, i, none⟩ v) B t (vs.setIfInBounds i v) := heap_setCell_same w B i _ _ v h
theorem Blk.setOther {w : World} {B : Nat} {t : TypeId} {vs : Array Value} (h : Blk w B t vs) (p : Addr) (v : Value) (hp : B ≠ p.block) : Blk (w.setCell p v) B t vs := by
  unfold Blk; rw [heap_setCell_other w p B v hp]; exact h
theorem Blk.drew {w : World} {B : Nat} {t : TypeId} {vs : Array Value} (h : Blk w B t vs) : Blk w.drew B t vs := h
end Go.Proofs.Ytgckhekikcdaiaa
