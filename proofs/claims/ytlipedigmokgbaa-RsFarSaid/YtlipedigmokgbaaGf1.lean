/-
  The field of 256 bytes in the program: what gf.New lays into memory, and what the field's methods answer, of a field that is there and of none.
  Conditions: the field that is there is the block that gf.New makes; a list of bytes holds at most 140737488351232 of them.
-/
import Derived.Test.YtlipedigmokgbaaBase
import Derived.Test.YtlipedigmokgbaaGf0
namespace Go.Proofs.Ytlipedigmokgbaa
open Go.RowKit Tri

/-- What gf.New has laid behind n rounds. -/
def fieldTab : Nat → Array Value
  | 0 => (List.replicate 255 (Value.int .u8 0) ++ List.replicate 256 (Value.int .i64 0)).toArray
  | n + 1 => ((fieldTab n).setIfInBounds n (.int .u8 (gexp n))).setIfInBounds (255 + gexp n) (.int .i64 n)
def fieldList : List Value := (List.range 255).map (fun n => Value.int .u8 (gexp n)) ++ (List.range 256).map (fun n => Value.int .i64 (glog n))
def fieldC : Array Value := fieldList.toArray
theorem fieldTab_size (n : Nat) : (fieldTab n).size = 511 := by
  induction n with
  | zero => decide +kernel
  | succ n ih => simp [fieldTab, ih]
theorem fieldTab_end : fieldTab 255 = fieldC := by kernel_rfl
theorem fieldC_exp (k : Nat) (h : k < 255) : fieldC[k]? = some (.int .u8 (gexp k)) := by
  unfold fieldC fieldList
  rw [List.getElem?_toArray, List.getElem?_append_left (by simp; omega)]
  simp [List.getElem?_range h]
theorem fieldC_log (k : Nat) (h : k < 256) : fieldC[255 + k]? = some (.int .i64 (glog k)) := by
  unfold fieldC fieldList
  rw [List.getElem?_toArray, List.getElem?_append_right (by simp)]
  simp [List.getElem?_range h]
/-- A field lies in block b. -/
def isF (w : World) (b : Nat) : Prop := w.heap[b]? = some (.cells fieldC 73)
theorem isF.lt {w : World} {b : Nat} (h : isF w b) : b < w.heap.size := by
  unfold isF at h
  exact (Array.getElem?_eq_some_iff.1 h).1
theorem isF.exp {w : World} {b : Nat} (h : isF w b) (k : Nat) (hk : k < 255) : w.cell? ⟨b, k, none⟩ = some (.int .u8 (gexp k)) := by
  rw [cell_of_row w b k _ _ _ h, fieldC_exp k hk]
theorem isF.log {w : World} {b : Nat} (h : isF w b) (k : Nat) (hk : k < 256) : w.cell? ⟨b, 255 + k, none⟩ = some (.int .i64 (glog k)) := by
  rw [cell_of_row w b _ _ _ _ h, fieldC_log k hk]
theorem isF.below {w w' : World} {b B : Nat} (h : isF w b) (hb : Below B w w') (hB : b < B) : isF w' b := by
  unfold isF; rw [hb.block b hB]; exact h
theorem isF.alloc {w : World} {b : Nat} (h : isF w b) (o : Obj) : isF (w.alloc o) b := by
  unfold isF; rw [Below.heap_alloc w o b h.lt]; exact h
theorem isF.drew {w : World} {b : Nat} (h : isF w b) : isF w.drew b := h
theorem isF.new (w : World) : isF (w.alloc (.cells fieldC 73)) w.heap.size := heap_alloc_new w _
theorem isF.setCell {w : World} {b : Nat} (h : isF w b) (a : Addr) (v : Value) (ha : b ≠ a.block) : isF (w.setCell a v) b := by
  unfold isF; rw [heap_setCell_other w a b v ha]; exact h

/-- The log of a product of bytes that aren't 0. -/
def glogs : List Nat → Nat
  | [] => 0
  | a :: l => glog a + glogs l
/-- A product. -/
def gprod : List Nat → Nat
  | [] => 1
  | a :: l => gmul a (gprod l)
/-- A sum. -/
def gsum : List Nat → Nat
  | [] => 0
  | a :: l => a ^^^ gsum l
theorem gprod_lt (l : List Nat) : gprod l < 256 := by cases l <;> simp [gprod, gmul_lt]
theorem glogs_append (l m : List Nat) : glogs (l ++ m) = glogs l + glogs m := by
  induction l with
  | nil => simp [glogs]
  | cons a l ih => simp [glogs, ih, Nat.add_assoc]
theorem glogs_le (l : List Nat) : glogs l ≤ 254 * l.length := by
  induction l with
  | nil => simp [glogs]
  | cons a l ih => have := glog_lt a; simp only [glogs, List.length_cons]; omega
theorem gprod_exp (l : List Nat) (h : 0 ∉ l) : gprod l = gexp (glogs l) := by
  induction l with
  | nil => simp [gprod, glogs, gexp_zero]
  | cons a l ih =>
    simp only [List.mem_cons, not_or] at h
    simp only [gprod, glogs, ih h.2]
    unfold gmul
    rw [if_neg (by simp [gexp_ne]; omega), glog_gexp, ← gexp_mod, Nat.add_mod_mod, gexp_mod]
theorem gprod_zero (l : List Nat) (h : 0 ∈ l) : gprod l = 0 := by
  induction l with
  | nil => simp at h
  | cons a l ih =>
    simp only [List.mem_cons] at h
    rcases h with h | h
    · subst h; exact zero_gmul _
    · simp only [gprod, ih h, gmul_zero]
theorem gprod_two (a b : Nat) (hb : b < 256) : gprod [a, b] = gmul a b := by simp [gprod, gmul_one b hb]
theorem gprod_three (a b c : Nat) (hc : c < 256) : gprod [a, b, c] = gmul a (gmul b c) := by simp [gprod, gmul_one c hc]
theorem gsum_two (a b : Nat) : gsum [a, b] = a ^^^ b := by simp [gsum]
theorem gsum_three (a b c : Nat) : gsum [a, b, c] = a ^^^ (b ^^^ c) := by simp [gsum]
theorem gsum_append (l m : List Nat) : gsum (l ++ m) = gsum l ^^^ gsum m := by
  induction l with
  | nil => simp [gsum]
  | cons a l ih => simp [gsum, ih, Nat.xor_assoc]
theorem gsum_lt (l : List Nat) (h : ∀ x ∈ l, x < 256) : gsum l < 256 := by
  induction l with
  | nil => simp [gsum]
  | cons a l ih => exact xor_lt (h a (by simp)) (ih fun x hx => h x (by simp [hx]))
/-- A power of x, of any whole number. -/
def gexpZ (n : Int) : Nat := gexp (n % 255).toNat
theorem gexpZ_nat (n : Nat) : gexpZ n = gexp n := by
  unfold gexpZ
  rw [show ((n : Int) % 255).toNat = n % 255 from by omega, gexp_mod]
theorem gexpZ_lt (n : Int) : gexpZ n < 256 := gexp_lt _
theorem tmod_255 (n : Int) : (wrap64 (n.tmod 255 + 255)).tmod 255 = n % 255 := by
  have h1 : n.tmod 255 = if 0 ≤ n then n % 255 else -((-n) % 255) := by
    split
    · exact Int.tmod_eq_emod_of_nonneg (by omega)
    · have : n = -(-n) := by omega
      rw [this, Int.neg_tmod, Int.tmod_eq_emod_of_nonneg (by omega), Int.neg_neg]
  have h2 : wrap64 (n.tmod 255 + 255) = n.tmod 255 + 255 := by
    unfold wrap64; rw [h1]; split <;> omega
  rw [h2, Int.tmod_eq_emod_of_nonneg (by rw [h1]; split <;> omega), h1]
  split <;> omega

theorem zero_field (w : World) : (zeroValue 73).run Try.prog w = .ok (.agg (fieldTab 0)) w := by kernel_rfl
theorem gexp_next (g : Nat) (h : g < 256) :
    ((bits BinOp.and IntKind.u8 (g : Int) 128 != 0) = true → bits BinOp.xor IntKind.u8 ((g : Int) * 2 % 256) 29 = (xt g : Nat)) ∧
    ((bits BinOp.and IntKind.u8 (g : Int) 128 != 0) = false → (g : Int) * 2 % 256 = (xt g : Nat)) := by
  have hh : allB 256 (fun g => ((bits BinOp.and IntKind.u8 (g : Int) 128 != 0) && decide (bits BinOp.xor IntKind.u8 ((g : Int) * 2 % 256) 29 = (xt g : Nat))) ||
     (!(bits BinOp.and IntKind.u8 (g : Int) 128 != 0) && decide ((g : Int) * 2 % 256 = (xt g : Nat)))) = true := by decide +kernel
  have := allB_of hh g h
  constructor <;> intro h1 <;> simp only [h1, Bool.true_and, Bool.not_true, Bool.false_and, Bool.or_false, Bool.not_false, Bool.false_or, decide_eq_true_eq] at this <;> exact this

set_option maxHeartbeats 400000 in
set_option maxRecDepth 100000 in
theorem gf_New (w : World) : Calls Try.prog 18 #[] w fun e w' =>
    e = .returned (.pointer (some ⟨w.heap.size, 0, none⟩)) ∧ w.alloc (.cells fieldC 73) = w' := by
  have hz := zero_field
  go_enter Try.func18, Try.ntmps18
  go_wp2
  go_loopw [2, 5] (fun b i wr => ∃ k : Nat, k ≤ 255 ∧ i = .int .i64 k ∧ b = .int .u8 (gexp k) ∧ wr = w.alloc (.cells (fieldTab k) 73)) (fun _ i _ => 255 - (intOf i).toNat)
  case atStart => exact ⟨0, Nat.zero_le _, rfl, rfl, rfl⟩
  case round =>
    obtain ⟨k, hk, rfl, rfl, rfl⟩ := hrel
    clear hz
    have h1 := gexp_lt k
    have hs := fieldTab_size k
    have hsucc : Hid (fieldTab (k + 1) = ((fieldTab k).setIfInBounds k (.int .u8 (gexp k))).setIfInBounds (255 + gexp k) (.int .i64 k)) := rfl
    have hend : Hid (k = 255 → fieldTab k = fieldC) := by intro e; rw [e]; exact fieldTab_end
    have hnext : Hid (_ ∧ _) := gexp_next (gexp k) h1
    have hgs : Hid (gexp (k + 1) = xt (gexp k)) := gexp_succ k
    generalize fieldTab k = T at *
    by_cases hlt : k < 255
    · obtain ⟨x, hx⟩ : ∃ x, T[k]? = some x := ⟨T[k], Array.getElem?_eq_getElem (by omega)⟩
      obtain ⟨y, hy⟩ : ∃ y, (T.setIfInBounds k (.int .u8 (gexp k)))[255 + gexp k]? = some y := ⟨_, Array.getElem?_eq_getElem (by simp; omega)⟩
      clear hs hend
      generalize gexp k = g at *
      go_wp2
      · have hb : (bits BinOp.and IntKind.u8 (g : Int) 128 != 0) = true := by assumption
        go_roundw
        case rel => exact ⟨k + 1, by omega, by go_num, by rw [hnext.out.1 hb, hgs.out], by rw [hsucc.out]⟩
        case measure => simp [intOf]; omega
      · have hb : (bits BinOp.and IntKind.u8 (g : Int) 128 != 0) = false := by assumption
        go_roundw
        case rel => exact ⟨k + 1, by omega, by go_num, by rw [hnext.out.2 hb, hgs.out], by rw [hsucc.out]⟩
        case measure => simp [intOf]; omega
    · clear hnext hgs hsucc hs
      have he : Hid (T = fieldC) := hend.out (by omega)
      clear hend
      go_wp2
      go_ret
      exact ⟨rfl, by rw [he.out]⟩

set_option maxHeartbeats 400000 in
theorem gf_Exp_nil (n : Int) (w : World) : Calls Try.prog 61 #[.pointer none, .int .i64 n] w fun e w' => e = .returned (.int .u8 0) ∧ w = w' := by
  go_enter Try.func61, Try.ntmps61
  go_wp2
  go_ret
  exact ⟨rfl, rfl⟩
set_option maxHeartbeats 400000 in
theorem gf_Exp (b : Nat) (n : Int) (w : World) (hF : isF w b) :
    Calls Try.prog 61 #[.pointer (some ⟨b, 0, none⟩), .int .i64 n] w fun e w' => e = .returned (.int .u8 (gexpZ n)) ∧ w = w' := by
  obtain ⟨k, hk⟩ : ∃ k : Nat, n % 255 = k := ⟨(n % 255).toNat, by omega⟩
  have hlt : k < 255 := by omega
  have e2 : (wrap64 (n.tmod 255 + 255)).tmod 255 = k := by rw [tmod_255, hk]
  have hc := hF.exp k hlt
  have he : Hid (gexpZ n = gexp k) := by show gexpZ n = gexp k; unfold gexpZ; rw [hk, Int.toNat_natCast]
  clear hk hF
  go_enter Try.func61, Try.ntmps61
  go_wp2
  go_ret
  exact ⟨by rw [he.out]; rfl, rfl⟩
set_option maxHeartbeats 400000 in
theorem gf_Log_nil (a : Int) (w : World) : Calls Try.prog 60 #[.pointer none, .int .u8 a] w fun e w' => e = .returned (.tuple #[.int .i64 0, .bool false]) ∧ w = w' := by
  go_enter Try.func60, Try.ntmps60
  go_wp2
  go_ret2
  exact ⟨rfl, rfl⟩
set_option maxHeartbeats 400000 in
theorem gf_Log_zero (b : Nat) (w : World) : Calls Try.prog 60 #[.pointer (some ⟨b, 0, none⟩), .int .u8 0] w fun e w' => e = .returned (.tuple #[.int .i64 0, .bool false]) ∧ w = w' := by
  go_enter Try.func60, Try.ntmps60
  go_wp2
  go_ret2
  exact ⟨rfl, rfl⟩
set_option maxHeartbeats 400000 in
theorem gf_Log (b : Nat) (k : Nat) (w : World) (hF : isF w b) (hk : k < 256) (h0 : 0 < k) :
    Calls Try.prog 60 #[.pointer (some ⟨b, 0, none⟩), .int .u8 k] w fun e w' => e = .returned (.tuple #[.int .i64 (glog k), .bool true]) ∧ w = w' := by
  have hc := hF.log k hk
  have hz : ((k : Int) == 0) = false := by simp; omega
  clear hF
  go_enter Try.func60, Try.ntmps60
  go_wp2
  go_ret2
  exact ⟨rfl, rfl⟩
set_option maxHeartbeats 400000 in
theorem gf_Mul (b : Nat) (p : Option Addr) (c n : Nat) (l : List Nat) (w : World) (hF : isF w b) (hn : n = l.length) (hp : cellsB w p l) (hb : ∀ x ∈ l, x < 256) (hl : l.length ≤ 140737488351232) :
    Calls Try.prog 34 #[.pointer (some ⟨b, 0, none⟩), .slice p n c] w fun e w' => e = .returned (.int .u8 (gprod l)) ∧ w = w' := by
  subst hn
  have HF := hid hF
  have HP := hid hp
  have HB := hid hb
  clear hF hp hb
  go_enter Try.func34, Try.ntmps34
  go_wp2
  go_loop [5, 12] (fun n i => ∃ k : Nat, k ≤ l.length ∧ i = .int .i64 k ∧ n = .int .i64 (glogs (l.take k) : Nat) ∧ 0 ∉ l.take k) (fun _ i => l.length - (intOf i).toNat)
  case atStart => exact ⟨0, Nat.zero_le _, rfl, by simp [glogs], by simp⟩
  case round =>
    obtain ⟨k, hk, rfl, rfl, h0⟩ := hrel
    have H0 := hid h0
    clear h0
    have hs : glogs (l.take k) ≤ 254 * k := by
      have := glogs_le (l.take k)
      rw [List.length_take] at this
      have : min k l.length ≤ k := Nat.min_le_left _ _
      omega
    by_cases hlt : k < l.length
    · obtain ⟨a, o, rfl, hc⟩ := HP.out k hlt
      have hx : l.getD k 0 < 256 := HB.out _ (getD_mem l k hlt)
      have hts : Hid (l.take (k + 1) = l.take k ++ [l.getD k 0]) := take_snocN l k hlt
      have hmem : Hid (l.getD k 0 ∈ l) := getD_mem l k hlt
      have hgl := glog_lt (l.getD k 0)
      generalize l.getD k 0 = x at *
      generalize hL : glogs (l.take k) = L at *
      have HL := hid hL
      clear hL
      by_cases hz : x = 0
      · subst hz
        have hpz : Hid (gprod l = 0) := gprod_zero l hmem.out
        go_wp2_with (go_call gf_Log_zero b _ as e w' ⟨rfl, rfl⟩)
        go_ret
        exact ⟨by rw [hpz.out]; rfl, rfl⟩
      · go_wp2_with (go_call gf_Log b x _ HF.out hx (by omega) as e w' ⟨rfl, rfl⟩)
        go_round
        case rel => exact ⟨k + 1, by omega, by go_num, by rw [hts.out, glogs_append, HL.out]; simp [glogs], by rw [hts.out]; simp; exact ⟨H0.out, fun h => hz h.symm⟩⟩
        case measure => simp [intOf]; omega
    · have hpe : Hid (gprod l = gexpZ (glogs (l.take k) : Nat)) := by
        show gprod l = _
        rw [gexpZ_nat, List.take_of_length_le (by omega)]
        exact gprod_exp l (by have := H0.out; rwa [List.take_of_length_le (by omega)] at this)
      generalize glogs (l.take k) = L at *
      go_wp2_with (go_call gf_Exp b _ _ HF.out as e w' ⟨rfl, rfl⟩)
      go_ret
      exact ⟨by rw [hpe.out]; rfl, rfl⟩
end Go.Proofs.Ytlipedigmokgbaa
