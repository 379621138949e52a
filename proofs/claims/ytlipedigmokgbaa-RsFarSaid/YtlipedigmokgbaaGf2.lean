/-
  The field of 256 bytes in the program: sums, inverses, quotients and powers, of a field that is there and of none.
  Conditions: the field that is there is the block that gf.New makes; a list of bytes holds at most 140737488351232 of them.
-/
import Derived.Test.YtlipedigmokgbaaGf1
namespace Go.Proofs.Ytlipedigmokgbaa
open Go.RowKit Tri



set_option maxHeartbeats 400000 in
theorem gf_Add (b : Nat) (p : Option Addr) (c n : Nat) (l : List Nat) (w : World) (hn : n = l.length) (hp : cellsB w p l) (hb : ∀ x ∈ l, x < 256) (hl : l.length ≤ 140737488351232) :
    Calls Try.prog 35 #[.pointer (some ⟨b, 0, none⟩), .slice p n c] w fun e w' => e = .returned (.int .u8 (gsum l)) ∧ w = w' := by
  subst hn
  have HP := hid hp
  have HB := hid hb
  clear hp hb
  go_enter Try.func35, Try.ntmps35
  go_wp2
  go_loop [5, 10] (fun n i => ∃ k : Nat, k ≤ l.length ∧ i = .int .i64 k ∧ n = .int .u8 (gsum (l.take k) : Nat)) (fun _ i => l.length - (intOf i).toNat)
  case atStart => exact ⟨0, Nat.zero_le _, rfl, by simp [gsum]⟩
  case round =>
    obtain ⟨k, hk, rfl, rfl⟩ := hrel
    have hg : gsum (l.take k) < 256 := gsum_lt _ fun x hx => HB.out x (List.mem_of_mem_take hx)
    by_cases hlt : k < l.length
    · obtain ⟨a, o, rfl, hc⟩ := HP.out k hlt
      have hx : l.getD k 0 < 256 := HB.out _ (getD_mem l k hlt)
      have hts : Hid (gsum (l.take (k + 1)) = gsum (l.take k) ^^^ l.getD k 0) := by
        show _ = _; rw [take_snocN l k hlt, gsum_append]; simp [gsum]
      generalize l.getD k 0 = x at *
      generalize gsum (l.take k) = g at *
      have hxor := xor_byte g x hg hx
      go_wp2
      go_round
      case rel => exact ⟨k + 1, by omega, by go_num, by rw [hts.out]⟩
      case measure => simp [intOf]; omega
    · have hpe : Hid (gsum l = gsum (l.take k)) := by show _ = _; rw [List.take_of_length_le (by omega)]
      generalize gsum (l.take k) = L at *
      go_wp2
      go_ret
      exact ⟨by rw [hpe.out]; rfl, rfl⟩
set_option maxHeartbeats 400000 in
theorem gf_Add_nil (p : Option Addr) (c n : Nat) (l : List Nat) (w : World) (hn : n = l.length) (hp : cellsB w p l) (hb : ∀ x ∈ l, x < 256) (hl : l.length ≤ 140737488351232) :
    Calls Try.prog 35 #[.pointer none, .slice p n c] w fun e w' => e = .returned (.int .u8 0) ∧ w = w' := by
  subst hn
  have HP := hid hp
  have HB := hid hb
  clear hp hb
  go_enter Try.func35, Try.ntmps35
  go_wp2
  go_loop [5, 10] (fun n i => ∃ k : Nat, k ≤ l.length ∧ i = .int .i64 k ∧ n = .int .u8 (gsum (l.take k) : Nat)) (fun _ i => l.length - (intOf i).toNat)
  case atStart => exact ⟨0, Nat.zero_le _, rfl, by simp [gsum]⟩
  case round =>
    obtain ⟨k, hk, rfl, rfl⟩ := hrel
    have hg : gsum (l.take k) < 256 := gsum_lt _ fun x hx => HB.out x (List.mem_of_mem_take hx)
    by_cases hlt : k < l.length
    · obtain ⟨a, o, rfl, hc⟩ := HP.out k hlt
      have hx : l.getD k 0 < 256 := HB.out _ (getD_mem l k hlt)
      have hts : Hid (gsum (l.take (k + 1)) = gsum (l.take k) ^^^ l.getD k 0) := by
        show _ = _; rw [take_snocN l k hlt, gsum_append]; simp [gsum]
      generalize l.getD k 0 = x at *
      generalize gsum (l.take k) = g at *
      have hxor := xor_byte g x hg hx
      go_wp2
      go_round
      case rel => exact ⟨k + 1, by omega, by go_num, by rw [hts.out]⟩
      case measure => simp [intOf]; omega
    · generalize gsum (l.take k) = L at *
      go_wp2
      go_ret
      exact ⟨rfl, rfl⟩
set_option maxHeartbeats 400000 in
theorem gf_Mul_nil (p : Option Addr) (c n : Nat) (l : List Nat) (w : World) (hn : n = l.length) (hp : cellsB w p l) :
    Calls Try.prog 34 #[.pointer none, .slice p n c] w fun e w' => e = .returned (.int .u8 0) ∧ w = w' := by
  subst hn
  have HP := hid hp
  clear hp
  go_enter Try.func34, Try.ntmps34
  go_wp2
  go_loop [5, 12] (fun n i => n = .int .i64 0 ∧ i = .int .i64 0) (fun _ _ => 0)
  case atStart => exact ⟨rfl, rfl⟩
  case round =>
    obtain ⟨rfl, rfl⟩ := hrel
    by_cases hlt : 0 < l.length
    · obtain ⟨a, o, rfl, hc⟩ := HP.out 0 hlt
      have hlt' : (0 : Int) < (l.length : Int) := by omega
      simp only [Nat.add_zero] at hc
      go_wp2_with (go_call gf_Log_nil _ _ as e w' ⟨rfl, rfl⟩)
      go_ret
      exact ⟨rfl, rfl⟩
    · have hlt' : ¬ (0 : Int) < (l.length : Int) := by omega
      go_wp2_with (go_call gf_Exp_nil _ _ as e w' ⟨rfl, rfl⟩)
      go_ret
      exact ⟨rfl, rfl⟩
set_option maxHeartbeats 400000 in
theorem gf_Inv_nil (a : Int) (w : World) : Calls Try.prog 70 #[.pointer none, .int .u8 a] w fun e w' => e = .returned (.tuple #[.int .u8 0, .bool false]) ∧ w = w' := by
  go_enter Try.func70, Try.ntmps70
  go_wp2_with (go_call gf_Log_nil _ _ as e w' ⟨rfl, rfl⟩)
  go_ret2
  exact ⟨rfl, rfl⟩
set_option maxHeartbeats 400000 in
theorem gf_Inv_zero (b : Nat) (w : World) : Calls Try.prog 70 #[.pointer (some ⟨b, 0, none⟩), .int .u8 0] w fun e w' => e = .returned (.tuple #[.int .u8 0, .bool false]) ∧ w = w' := by
  go_enter Try.func70, Try.ntmps70
  go_wp2_with (go_call gf_Log_zero b _ as e w' ⟨rfl, rfl⟩)
  go_ret2
  exact ⟨rfl, rfl⟩
theorem gexpZ_neg (k : Nat) (h : k < 255) : gexpZ (-(k : Int)) = gexp (255 - k) := by
  unfold gexpZ
  by_cases e : k = 0
  · subst e; decide
  · rw [show (-(k : Int) % 255).toNat = 255 - k from by omega]
set_option maxHeartbeats 400000 in
theorem gf_Inv (b k : Nat) (w : World) (hF : isF w b) (hk : k < 256) (h0 : 0 < k) :
    Calls Try.prog 70 #[.pointer (some ⟨b, 0, none⟩), .int .u8 k] w fun e w' => e = .returned (.tuple #[.int .u8 (ginv k), .bool true]) ∧ w = w' := by
  have hg := glog_lt k
  have he : Hid (ginv k = gexpZ (-(glog k : Int))) := by show _ = _; rw [gexpZ_neg _ hg]; rfl
  have HF := hid hF
  clear hF
  go_enter Try.func70, Try.ntmps70
  go_wp2_with fail
  go_call gf_Log b k _ HF.out hk h0 as e w' ⟨rfl, rfl⟩
  generalize glog k = g at *
  go_wp2_with (go_call gf_Exp b _ _ HF.out as e w' ⟨rfl, rfl⟩)
  go_ret2
  exact ⟨by rw [he.out]; rfl, rfl⟩
set_option maxHeartbeats 400000 in
theorem gf_Div_nil (a c : Int) (w : World) : Calls Try.prog 59 #[.pointer none, .int .u8 a, .int .u8 c] w fun e w' => e = .returned (.tuple #[.int .u8 0, .bool false]) ∧ w = w' := by
  go_enter Try.func59, Try.ntmps59
  go_wp2_with (go_call gf_Inv_nil _ _ as e w' ⟨rfl, rfl⟩)
  go_ret2
  exact ⟨rfl, rfl⟩
set_option maxHeartbeats 400000 in
theorem gf_Div_zero (b : Nat) (a : Int) (w : World) : Calls Try.prog 59 #[.pointer (some ⟨b, 0, none⟩), .int .u8 a, .int .u8 0] w fun e w' => e = .returned (.tuple #[.int .u8 0, .bool false]) ∧ w = w' := by
  go_enter Try.func59, Try.ntmps59
  go_wp2_with (go_call gf_Inv_zero b _ as e w' ⟨rfl, rfl⟩)
  go_ret2
  exact ⟨rfl, rfl⟩
/-- Of 2 bytes, which lie in a new array. -/
theorem gf_Mul2 (b s x y : Nat) (vx vy : Int) (w : World) (hF : isF w b) (hs : s = w.heap.size) (ex : vx = (x : Nat)) (ey : vy = (y : Nat)) (hx : x < 256) (hy : y < 256) (t : TypeId) :
    Calls Try.prog 34 #[.pointer (some ⟨b, 0, none⟩), .slice (some ⟨s, 0, none⟩) 2 2] (w.alloc (.cells #[.int .u8 vx, .int .u8 vy] t))
      fun e w' => e = .returned (.int .u8 (gmul x y)) ∧ w.alloc (.cells #[.int .u8 vx, .int .u8 vy] t) = w' := by
  subst hs ex ey
  have := gf_Mul b (some ⟨w.heap.size, 0, none⟩) 2 2 [x, y] (w.alloc (.cells #[.int .u8 (x : Nat), .int .u8 (y : Nat)] t)) (hF.alloc _) rfl (cellsB.new w [x, y] _ t rfl) (by simp [hx, hy]) (by simp)
  rwa [gprod_two x y hy] at this
/-- Of 3 bytes, which lie in a new array. -/
theorem gf_Mul3 (b s x y z : Nat) (vx vy vz : Int) (w : World) (hF : isF w b) (hs : s = w.heap.size) (ex : vx = (x : Nat)) (ey : vy = (y : Nat)) (ez : vz = (z : Nat)) (hx : x < 256) (hy : y < 256) (hz : z < 256) (t : TypeId) :
    Calls Try.prog 34 #[.pointer (some ⟨b, 0, none⟩), .slice (some ⟨s, 0, none⟩) 3 3] (w.alloc (.cells #[.int .u8 vx, .int .u8 vy, .int .u8 vz] t))
      fun e w' => e = .returned (.int .u8 (gmul x (gmul y z))) ∧ w.alloc (.cells #[.int .u8 vx, .int .u8 vy, .int .u8 vz] t) = w' := by
  subst hs ex ey ez
  have := gf_Mul b (some ⟨w.heap.size, 0, none⟩) 3 3 [x, y, z] (w.alloc (.cells #[.int .u8 (x : Nat), .int .u8 (y : Nat), .int .u8 (z : Nat)] t)) (hF.alloc _) rfl (cellsB.new w [x, y, z] _ t rfl) (by simp [hx, hy, hz]) (by simp)
  rwa [gprod_three x y z hz] at this
/-- Of 2 bytes, which lie in a new array. -/
theorem gf_Add2 (b s x y : Nat) (vx vy : Int) (w : World) (hs : s = w.heap.size) (ex : vx = (x : Nat)) (ey : vy = (y : Nat)) (hx : x < 256) (hy : y < 256) (t : TypeId) :
    Calls Try.prog 35 #[.pointer (some ⟨b, 0, none⟩), .slice (some ⟨s, 0, none⟩) 2 2] (w.alloc (.cells #[.int .u8 vx, .int .u8 vy] t))
      fun e w' => e = .returned (.int .u8 (x ^^^ y : Nat)) ∧ w.alloc (.cells #[.int .u8 vx, .int .u8 vy] t) = w' := by
  subst hs ex ey
  have := gf_Add b (some ⟨w.heap.size, 0, none⟩) 2 2 [x, y] (w.alloc (.cells #[.int .u8 (x : Nat), .int .u8 (y : Nat)] t)) rfl (cellsB.new w [x, y] _ t rfl) (by simp [hx, hy]) (by simp)
  rwa [gsum_two x y] at this
/-- Of 3 bytes, which lie in a new array. -/
theorem gf_Add3 (b s x y z : Nat) (vx vy vz : Int) (w : World) (hs : s = w.heap.size) (ex : vx = (x : Nat)) (ey : vy = (y : Nat)) (ez : vz = (z : Nat)) (hx : x < 256) (hy : y < 256) (hz : z < 256) (t : TypeId) :
    Calls Try.prog 35 #[.pointer (some ⟨b, 0, none⟩), .slice (some ⟨s, 0, none⟩) 3 3] (w.alloc (.cells #[.int .u8 vx, .int .u8 vy, .int .u8 vz] t))
      fun e w' => e = .returned (.int .u8 (x ^^^ (y ^^^ z) : Nat)) ∧ w.alloc (.cells #[.int .u8 vx, .int .u8 vy, .int .u8 vz] t) = w' := by
  subst hs ex ey ez
  have := gf_Add b (some ⟨w.heap.size, 0, none⟩) 3 3 [x, y, z] (w.alloc (.cells #[.int .u8 (x : Nat), .int .u8 (y : Nat), .int .u8 (z : Nat)] t)) rfl (cellsB.new w [x, y, z] _ t rfl) (by simp [hx, hy, hz]) (by simp)
  rwa [gsum_three x y z] at this
/-- Of 2 bytes, which lie in a new array. -/
theorem gf_Mul2_nil (s x y : Nat) (vx vy : Int) (w : World) (hs : s = w.heap.size) (ex : vx = (x : Nat)) (ey : vy = (y : Nat)) (hx : x < 256) (hy : y < 256) (t : TypeId) :
    Calls Try.prog 34 #[.pointer none, .slice (some ⟨s, 0, none⟩) 2 2] (w.alloc (.cells #[.int .u8 vx, .int .u8 vy] t))
      fun e w' => e = .returned (.int .u8 (0)) ∧ w.alloc (.cells #[.int .u8 vx, .int .u8 vy] t) = w' := by
  subst hs ex ey
  exact gf_Mul_nil (some ⟨w.heap.size, 0, none⟩) 2 2 [x, y] (w.alloc (.cells #[.int .u8 (x : Nat), .int .u8 (y : Nat)] t)) rfl (cellsB.new w [x, y] _ t rfl)
/-- Of 2 bytes, which lie in a new array. -/
theorem gf_Add2_nil (s x y : Nat) (vx vy : Int) (w : World) (hs : s = w.heap.size) (ex : vx = (x : Nat)) (ey : vy = (y : Nat)) (hx : x < 256) (hy : y < 256) (t : TypeId) :
    Calls Try.prog 35 #[.pointer none, .slice (some ⟨s, 0, none⟩) 2 2] (w.alloc (.cells #[.int .u8 vx, .int .u8 vy] t))
      fun e w' => e = .returned (.int .u8 (0)) ∧ w.alloc (.cells #[.int .u8 vx, .int .u8 vy] t) = w' := by
  subst hs ex ey
  exact gf_Add_nil (some ⟨w.heap.size, 0, none⟩) 2 2 [x, y] (w.alloc (.cells #[.int .u8 (x : Nat), .int .u8 (y : Nat)] t)) rfl (cellsB.new w [x, y] _ t rfl) (by simp [hx, hy]) (by simp)
set_option maxHeartbeats 400000 in
theorem gf_Div (b a k : Nat) (w : World) (hF : isF w b) (ha : a < 256) (hk : k < 256) (h0 : 0 < k) :
    Calls Try.prog 59 #[.pointer (some ⟨b, 0, none⟩), .int .u8 a, .int .u8 k] w
      fun e w' => e = .returned (.tuple #[.int .u8 (gmul a (ginv k)), .bool true]) ∧ w.alloc (.cells #[.int .u8 a, .int .u8 (ginv k)] 5) = w' := by
  have hg := ginv_lt k
  have HF := hid hF
  clear hF
  go_enter Try.func59, Try.ntmps59
  go_wp2_with fail
  go_call gf_Inv b k _ HF.out hk h0 as e w' ⟨rfl, rfl⟩
  go_wp2_with fail
  refine Calls.mono (gf_Mul2 b _ a _ _ _ _ HF.out rfl rfl rfl ha hg _) ?_; rintro e w' ⟨rfl, rfl⟩
  go_wp2
  go_ret2
  exact ⟨rfl, rfl⟩
theorem mul_tmod (g : Nat) (hg : g < 255) (n : Int) : wrap64 ((g : Int) * n.tmod 255) = (g : Int) * n.tmod 255 := by
  have h1 : -254 ≤ n.tmod 255 ∧ n.tmod 255 ≤ 254 := by
    have := Int.tmod_lt_of_pos n (b := 255) (by omega)
    have := Int.lt_tmod_of_pos n (b := 255) (by omega)
    omega
  have h2 : (g : Int) * n.tmod 255 ≤ 254 * 254 := by
    rcases Int.le_total 0 (n.tmod 255) with h | h
    · exact Int.mul_le_mul (by omega) h1.2 h (by omega)
    · exact Int.le_trans (Int.mul_nonpos_of_nonneg_of_nonpos (by omega) h) (by omega)
  have h3 : -(254 * 254) ≤ (g : Int) * n.tmod 255 := by
    rcases Int.le_total 0 (n.tmod 255) with h | h
    · exact Int.le_trans (by omega) (Int.mul_nonneg (by omega) h)
    · have : (g : Int) * (-(n.tmod 255)) ≤ 254 * 254 := Int.mul_le_mul (by omega) (by omega) (by omega) (by omega)
      rw [Int.mul_neg] at this
      omega
  unfold wrap64
  omega
/-- A power. -/
def gpow (a : Nat) (n : Int) : Nat := if n = 0 then 1 else if a = 0 then 0 else gexpZ ((glog a : Int) * n)
theorem gexpZ_congr (m n : Int) (h : m % 255 = n % 255) : gexpZ m = gexpZ n := by unfold gexpZ; rw [h]
theorem mul_tmod_emod (g : Nat) (n : Int) : ((g : Int) * n.tmod 255) % 255 = ((g : Int) * n) % 255 := by
  have h : n = 255 * n.tdiv 255 + n.tmod 255 := (Int.mul_tdiv_add_tmod n 255).symm
  conv => rhs; rw [h, Int.mul_add, ← Int.mul_assoc, Int.mul_comm (g : Int) 255, Int.mul_assoc, Int.add_comm, Int.add_mul_emod_self_left]
set_option maxHeartbeats 400000 in
theorem gf_Pow (b a : Nat) (n : Int) (w : World) (hF : isF w b) (ha : a < 256) :
    Calls Try.prog 36 #[.pointer (some ⟨b, 0, none⟩), .int .u8 a, .int .i64 n] w
      fun e w' => e = .returned (.int .u8 (gpow a n)) ∧ w = w' := by
  have HF := hid hF
  clear hF
  by_cases hn : n = 0
  · subst hn
    go_enter Try.func36, Try.ntmps36
    go_wp2_with (go_call gf_Exp b _ _ HF.out as e w' ⟨rfl, rfl⟩)
    go_ret
    exact ⟨by simp [gpow]; rfl, rfl⟩
  · have hn' : (n == 0) = false := by simp [hn]
    by_cases h0 : a = 0
    · subst h0
      have hp : Hid (gpow 0 n = 0) := by show gpow 0 n = 0; simp [gpow, hn]
      clear hn
      go_enter Try.func36, Try.ntmps36
      go_wp2_with (go_call gf_Log_zero b _ as e w' ⟨rfl, rfl⟩)
      go_ret
      exact ⟨by rw [hp.out]; rfl, rfl⟩
    · have hg := glog_lt a
      have hm := mul_tmod (glog a) hg n
      have hp : Hid (gpow a n = gexpZ ((glog a : Int) * n.tmod 255)) := by
        show _ = _
        unfold gpow
        rw [if_neg hn, if_neg h0]
        exact gexpZ_congr _ _ (mul_tmod_emod _ n).symm
      clear hn
      go_enter Try.func36, Try.ntmps36
      go_wp2_with fail
      go_call gf_Log b a _ HF.out ha (by omega) as e w' ⟨rfl, rfl⟩
      go_wp2_with fail
      go_call gf_Exp b _ _ HF.out as e w' ⟨rfl, rfl⟩
      go_wp2
      go_ret
      exact ⟨by rw [hp.out]; rfl, rfl⟩
set_option maxHeartbeats 400000 in
theorem gf_Pow_nil (a : Int) (n : Int) (w : World) :
    Calls Try.prog 36 #[.pointer none, .int .u8 a, .int .i64 n] w
      fun e w' => e = .returned (.int .u8 0) ∧ w = w' := by
  by_cases hn : n = 0
  · subst hn
    go_enter Try.func36, Try.ntmps36
    go_wp2_with (go_call gf_Exp_nil _ _ as e w' ⟨rfl, rfl⟩)
    go_ret
    exact ⟨rfl, rfl⟩
  · have hn' : (n == 0) = false := by simp [hn]
    clear hn
    go_enter Try.func36, Try.ntmps36
    go_wp2_with (go_call gf_Log_nil _ _ as e w' ⟨rfl, rfl⟩)
    go_ret
    exact ⟨rfl, rfl⟩
/-- What was there is as it was, and a field lies in block b. -/
def Keeps (w0 : World) (b : Nat) (w : World) : Prop := Below w0.heap.size w0 w ∧ isF w b
theorem Keeps.alloc {w0 w : World} {b : Nat} (h : Keeps w0 b w) (o : Obj) : Keeps w0 b (w.alloc o) := ⟨h.1.alloc h.1.size o, h.2.alloc o⟩
theorem Keeps.drew {w0 w : World} {b : Nat} (h : Keeps w0 b w) : Keeps w0 b w.drew := ⟨h.1.drew, h.2⟩
theorem gf_NewK (w0 w : World) (h : Below w0.heap.size w0 w) : Calls Try.prog 18 #[] w fun e w' => ∃ b, e = .returned (.pointer (some ⟨b, 0, none⟩)) ∧ Keeps w0 b w' :=
  (gf_New w).mono fun _ _ ⟨he, hw⟩ => ⟨w.heap.size, he, hw ▸ h.alloc h.size _, hw ▸ isF.new w⟩
theorem gf_Mul2K (w0 : World) (b s x y : Nat) (vx vy : Int) (w : World) (K : Keeps w0 b w) (hs : s = w.heap.size) (ex : vx = (x : Nat)) (ey : vy = (y : Nat)) (hx : x < 256) (hy : y < 256) (t : TypeId) :
    Calls Try.prog 34 #[.pointer (some ⟨b, 0, none⟩), .slice (some ⟨s, 0, none⟩) 2 2] (w.alloc (.cells #[.int .u8 vx, .int .u8 vy] t))
      fun e w' => e = .returned (.int .u8 (gmul x y)) ∧ Keeps w0 b w' :=
  (gf_Mul2 b s x y vx vy w K.2 hs ex ey hx hy t).mono fun _ _ ⟨he, hw⟩ => ⟨he, hw ▸ K.alloc _⟩
theorem gf_Mul3K (w0 : World) (b s x y z : Nat) (vx vy vz : Int) (w : World) (K : Keeps w0 b w) (hs : s = w.heap.size) (ex : vx = (x : Nat)) (ey : vy = (y : Nat)) (ez : vz = (z : Nat)) (hx : x < 256) (hy : y < 256) (hz : z < 256) (t : TypeId) :
    Calls Try.prog 34 #[.pointer (some ⟨b, 0, none⟩), .slice (some ⟨s, 0, none⟩) 3 3] (w.alloc (.cells #[.int .u8 vx, .int .u8 vy, .int .u8 vz] t))
      fun e w' => e = .returned (.int .u8 (gmul x (gmul y z))) ∧ Keeps w0 b w' :=
  (gf_Mul3 b s x y z vx vy vz w K.2 hs ex ey ez hx hy hz t).mono fun _ _ ⟨he, hw⟩ => ⟨he, hw ▸ K.alloc _⟩
theorem gf_Add2K (w0 : World) (b s x y : Nat) (vx vy : Int) (w : World) (K : Keeps w0 b w) (hs : s = w.heap.size) (ex : vx = (x : Nat)) (ey : vy = (y : Nat)) (hx : x < 256) (hy : y < 256) (t : TypeId) :
    Calls Try.prog 35 #[.pointer (some ⟨b, 0, none⟩), .slice (some ⟨s, 0, none⟩) 2 2] (w.alloc (.cells #[.int .u8 vx, .int .u8 vy] t))
      fun e w' => e = .returned (.int .u8 (x ^^^ y : Nat)) ∧ Keeps w0 b w' :=
  (gf_Add2 b s x y vx vy w hs ex ey hx hy t).mono fun _ _ ⟨he, hw⟩ => ⟨he, hw ▸ K.alloc _⟩
theorem gf_Add3K (w0 : World) (b s x y z : Nat) (vx vy vz : Int) (w : World) (K : Keeps w0 b w) (hs : s = w.heap.size) (ex : vx = (x : Nat)) (ey : vy = (y : Nat)) (ez : vz = (z : Nat)) (hx : x < 256) (hy : y < 256) (hz : z < 256) (t : TypeId) :
    Calls Try.prog 35 #[.pointer (some ⟨b, 0, none⟩), .slice (some ⟨s, 0, none⟩) 3 3] (w.alloc (.cells #[.int .u8 vx, .int .u8 vy, .int .u8 vz] t))
      fun e w' => e = .returned (.int .u8 (x ^^^ (y ^^^ z) : Nat)) ∧ Keeps w0 b w' :=
  (gf_Add3 b s x y z vx vy vz w hs ex ey ez hx hy hz t).mono fun _ _ ⟨he, hw⟩ => ⟨he, hw ▸ K.alloc _⟩
theorem gf_DivK (w0 : World) (b a k : Nat) (va vk : Int) (w : World) (K : Keeps w0 b w) (ea : va = a) (ek : vk = k) (ha : a < 256) (hk : k < 256) (h0 : 0 < k) :
    Calls Try.prog 59 #[.pointer (some ⟨b, 0, none⟩), .int .u8 va, .int .u8 vk] w
      fun e w' => e = .returned (.tuple #[.int .u8 (gmul a (ginv k)), .bool true]) ∧ Keeps w0 b w' := by
  subst ea ek
  exact (gf_Div b a k w K.2 ha hk h0).mono fun _ _ ⟨he, hw⟩ => ⟨he, hw ▸ K.alloc _⟩
theorem gf_InvK (w0 : World) (b k : Nat) (vk : Int) (w : World) (K : Keeps w0 b w) (ek : vk = k) (hk : k < 256) (h0 : 0 < k) :
    Calls Try.prog 70 #[.pointer (some ⟨b, 0, none⟩), .int .u8 vk] w fun e w' => e = .returned (.tuple #[.int .u8 (ginv k), .bool true]) ∧ w = w' := by
  subst ek; exact gf_Inv b k w K.2 hk h0
theorem gf_LogK (w0 : World) (b k : Nat) (vk : Int) (w : World) (K : Keeps w0 b w) (ek : vk = k) (hk : k < 256) (h0 : 0 < k) :
    Calls Try.prog 60 #[.pointer (some ⟨b, 0, none⟩), .int .u8 vk] w fun e w' => e = .returned (.tuple #[.int .i64 (glog k), .bool true]) ∧ w = w' := by
  subst ek; exact gf_Log b k w K.2 hk h0
theorem gf_PowK (w0 : World) (b a : Nat) (va n : Int) (w : World) (K : Keeps w0 b w) (ea : va = a) (ha : a < 256) :
    Calls Try.prog 36 #[.pointer (some ⟨b, 0, none⟩), .int .u8 va, .int .i64 n] w fun e w' => e = .returned (.int .u8 (gpow a n)) ∧ w = w' := by
  subst ea; exact gf_Pow b a n w K.2 ha
end Go.Proofs.Ytlipedigmokgbaa
