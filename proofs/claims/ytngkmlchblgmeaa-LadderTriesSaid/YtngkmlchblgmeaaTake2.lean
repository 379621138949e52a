/-
  num.Take in the program: the numbers that stand in a text.
-/
import Derived.Test.YtngkmlchblgmeaaTake1
import Derived.Deep.RegionLaw
namespace Go.Proofs.Ytngkmlchblgmeaa
open Go.RowKit

theorem foldl_add (l : List Nat) (c : Nat) : l.foldl (· + ·) c = c + l.foldl (· + ·) 0 := by
  induction l generalizing c with
  | nil => simp
  | cons x l ih => rw [List.foldl_cons, List.foldl_cons, ih (c + x), ih (0 + x)]; omega
theorem sumN_append (a b : List Nat) : sumN (a ++ b) = sumN a + sumN b := by unfold sumN; rw [List.foldl_append, foldl_add]
theorem sumN_take_le (l : List Nat) (k : Nat) : sumN (l.take k) ≤ sumN l := by
  have h := sumN_append (l.take k) (l.drop k)
  rw [List.take_append_drop] at h
  omega
/-- The number that bytes are, the highest first. -/
def numB (l : List Nat) : Nat := l.foldl (fun n c => n * 256 + c) 0
theorem numB_snoc (l : List Nat) (c : Nat) : numB (l ++ [c]) = numB l * 256 + c := by unfold numB; rw [List.foldl_append]; rfl
theorem numB_lt (l : List Nat) (h : ∀ x ∈ l, x < 256) (j : Nat) (hj : j ≤ l.length) : numB (l.take j) < 256 ^ j := by
  induction j with
  | zero => simp [numB]
  | succ j ih =>
    have h1 := ih (by omega)
    rw [List.take_succ_eq_append_getElem (by omega), numB_snoc, Nat.pow_succ]
    have h2 := h _ (List.getElem_mem (show j < l.length by omega))
    omega
def takeN (S L : List Nat) (k : Nat) : List Nat := (List.range k).map fun j => numB ((S.drop (sumN (L.take j))).take (L.getD j 0))
theorem takeN_length (S L : List Nat) (k : Nat) : (takeN S L k).length = k := by simp [takeN]
theorem takeN_succ (S L : List Nat) (k : Nat) : takeN S L (k + 1) = takeN S L k ++ [numB ((S.drop (sumN (L.take k))).take (L.getD k 0))] := by
  unfold takeN; rw [List.range_succ, List.map_append]; rfl
theorem or_shl8 (a x : Nat) (hx : x < 256) (ha : a < 281474976710656) : bits .or .i64 (wrap64 ((a : Int) * 2 ^ 8)) (x : Int) = ((a * 256 + x : Nat) : Int) := by
  have h1 : wrap64 ((a : Int) * 2 ^ 8) = ((a <<< 8 : Nat) : Int) := by
    rw [Nat.shiftLeft_eq]
    have e2 : ((a * 2 ^ 8 : Nat) : Int) = (a : Int) * 2 ^ 8 := by simp
    rw [← e2]
    have : a * 2 ^ 8 < 2 ^ 62 := by omega
    generalize a * 2 ^ 8 = m at *
    unfold wrap64
    omega
  rw [h1]
  have h2 : a <<< 8 ||| x = a * 256 + x := by
    rw [← Nat.shiftLeft_add_eq_or_of_lt (i := 8) (by omega), Nat.shiftLeft_eq]
  have h3 : a <<< 8 < 2 ^ 62 := by rw [Nat.shiftLeft_eq]; omega
  show IntKind.i64.wrap ((BitVec.ofInt 64 ((a <<< 8 : Nat) : Int) ||| BitVec.ofInt 64 (x : Int)).toNat : Int) = _
  rw [BitVec.toNat_or, ofInt_u64 _ (by omega), ofInt_u64 x (by omega), h2, IntKind.wrap_i64]
  omega

/-- 'append(s, x)' as one operation. -/
theorem wp_push {P : Program} {wr : World} {o : Oper} {a : Act} {K : Act → World → Prop} {Q : Exit → Act → World → Prop} (s x : Operand) (t : TypeId)
    (ho : o.op = .call { callee := .builtin .append, args := #[s, x], argTypes := #[t, t] })
    (base : Nat) (e : TypeId) (i : TypeInfo) (k : IntKind) (bytes : Nat) (ht : P.underlying t = some (.slice e)) (hi : P.info? e = some i) (hz : i.zero = some (.int k 0))
    (hsize : i.size = 1) (hby : i.bytes = bytes) (hb8 : bytes ≤ 8)
    (v : Value) (l : List Nat) (y : Nat) (hown : rowK wr base e k v l) (hs : a.eval s = v)
    (g : Nat) (hx : a.eval x = .slice (some ⟨g, 0, none⟩) 1 1) (hc : wr.cell? ⟨g, 0, none⟩ = some (.int k (y : Nat))) (hlen : l.length ≤ 1000000) (hbase : base ≤ wr.heap.size)
    (h : ∀ v' w', rowK w' base e k v' (l ++ [y]) → Below base wr w' → K (a.put o.dst v') w') : o.wp P a wr K Q := by
  refine wp_append_own wr s x t ho base e i (.int k 0) 1 bytes ht hi hz hsize hby rfl (by decide) v l.length (l.map fun x => Value.int k (x : Nat)) hs hown
    ⟨g, 0, none⟩ 1 1 [Value.int k (y : Nat)] hx rfl ?_ ?_ ?_ ?_ hbase ?_
  · intro j u hj
    match j with
    | 0 =>
      simp only [List.getElem?_cons_zero, Option.some.injEq] at hj
      subst hj
      rw [show (⟨g, 0, none⟩ : Addr).add 0 = ⟨g, 0, none⟩ from by simp [Addr.add]]
      exact hc
    | j + 1 => simp at hj
  · intro u hu; simp only [List.mem_singleton] at hu; subst hu; rfl
  · unfold maxLen; omega
  · calc (l.length + 1) * bytes ≤ (l.length + 1) * 8 := Nat.mul_le_mul_left _ hb8
      _ ≤ _ := by omega
  · intro v' w' h2 h3 _
    refine h v' w' ?_ ?_
    · unfold rowK; rw [List.length_append, List.map_append]; exact h2
    · refine ((Below.refl _ wr).mono hbase).grown h3 hbase ?_
      intro b hb
      rcases hown.2 with ⟨h4, _⟩ | ⟨g', cap, cur, h4, h5, _⟩
      · rw [h4] at hb; simp [Value.ownBlock] at hb
      · rw [h4] at hb; simp only [Value.ownBlock, Option.some.injEq] at hb; omega
theorem step_push {P : Program} {wr : World} {ops : Array Oper} {o : Oper} {a : Act} {K : Act → World → Prop} {Q : Exit → Act → World → Prop} {E : Prop} (hgd : o.guard = none) (s x : Operand) (t : TypeId)
    (ho : o.op = .call { callee := .builtin .append, args := #[s, x], argTypes := #[t, t] })
    (base : Nat) (e : TypeId) (i : TypeInfo) (k : IntKind) (bytes : Nat) (ht : P.underlying t = some (.slice e)) (hi : P.info? e = some i) (hz : i.zero = some (.int k 0))
    (hsize : i.size = 1) (hby : i.bytes = bytes) (hb8 : bytes ≤ 8)
    (v : Value) (l : List Nat) (y : Nat) (hown : rowK wr base e k v l) (hs : a.eval s = v)
    (g : Nat) (hx : a.eval x = .slice (some ⟨g, 0, none⟩) 1 1) (hc : wr.cell? ⟨g, 0, none⟩ = some (.int k (y : Nat))) (hlen : l.length ≤ 1000000) (hbase : base ≤ wr.heap.size)
    (h : ∀ v' w', rowK w' base e k v' (l ++ [y]) → Below base wr w' → K (a.put o.dst v') w') : if Region.wanted o (yielded ops a.tmps) = true then Oper.wp P o a wr K Q else E := by
  have hw : Region.wanted o (yielded ops a.tmps) = true := by simp [Region.wanted, hgd]
  rw [if_pos hw]
  exact wp_push s x t ho base e i k bytes ht hi hz hsize hby hb8 v l y hown hs g hx hc hlen hbase h
theorem ownsI.belowI {w w' : World} {base : Nat} {v : Value} {l : List Nat} (h : ownsI w base v l) (hb : Below w.heap.size w w') : ownsI w' base v l := by
  obtain ⟨h2, h3⟩ := h
  refine ⟨h2, h3.imp id fun ⟨g, cap, cur, h4, h5, h6, h7⟩ => ⟨g, cap, cur, h4, h5, ?_, h7⟩⟩
  rw [hb.block g (Array.getElem?_eq_some_iff.1 h6).1]; exact h6
set_option maxHeartbeats 4000000 in
set_option maxRecDepth 100000 in
theorem num_Take (s : ByteArray) (p : Option Addr) (n c : Nat) (L : List Nat) (w : World) (hn : n = L.length) (hp : cellsI w p L) (hs : sizesL L) (hl : L.length ≤ 1000) (hz : sumN L ≤ s.size) (hsz : s.size ≤ 1000000) :
    Calls Try.prog 116 #[.string s, .slice p n c] w fun e w' => ∃ v, e = .returned (.tuple #[v, .int .i64 0]) ∧ ownsI w' w.heap.size v (takeN (sb s) L L.length) ∧ Below w.heap.size w w' := by
  subst hn
  have HP := hid hp
  have HS := hid hs
  clear hp hs
  obtain ⟨i0, hi, hz0, hz1, hz2⟩ := info_parts Try.infoI
  have hcv := fun (w : World) (s : ByteArray) => Lib.run_convert_string_bytes (P := Try.prog) w 9 111 5 s Try.underlying9 Try.underlying111 Try.underlying5
  have hd : decide ((s.size : Int) < (sumN L : Nat)) = false := decide_eq_false (by omega)
  have hd2 : decide (s.size < sumN L) = false := decide_eq_false (by omega)
  have HZ := hid hz
  clear hz
  (go_enter Try.func116, Try.ntmps116; try simp only [List.append])
  go_wp2_with ((with_reducible refine wpList_unguard ?_ ?_); (focus rfl))
  refine Calls.mono (sl_ContainsFuncI p _ c L w rfl HP.out HS.out (by omega)) ?_; rintro e w' ⟨rfl, rfl⟩
  go_wp2_with ((with_reducible refine wpList_unguard ?_ ?_); (focus rfl))
  refine Calls.mono (num_Size p _ c L w rfl HP.out HS.out (by omega)) ?_; rintro e w' ⟨rfl, rfl⟩
  go_wp2_with ((with_reducible refine wpList_unguard ?_ ?_); (focus rfl))
  clear hd hd2
  have hS0 : Hid (s.size = (sb s).length) := (sb_length s).symm
  have hSb := hid (sb_lt s)
  generalize hSS : sb s = S at *
  have HSS := hid hSS
  clear hSS
  go_loopw [23, 6, 0] (fun i v t wr => ∃ (k : Nat) (T : ByteArray), k ≤ L.length ∧ i = .int .i64 k ∧ t = .string T ∧ sb T = S.drop (sumN (L.take k)) ∧ ownsI wr w.heap.size v (takeN S L k) ∧ Below w.heap.size w wr) (fun i _ _ _ => L.length - (intOf i).toNat)
  case atStart => exact ⟨0, s, Nat.zero_le _, rfl, rfl, by rw [HSS.out]; simp [sumN], World.ownsRow_nil _ _ _ _, Below.refl _ _⟩
  case round =>
    obtain ⟨k, T, hk, rfl, rfl, hT, hO, hB⟩ := hrel
    have HT := hid hT
    have HO := hid hO
    have HB := hid hB
    clear hT hO hB
    by_cases hlt : k < L.length
    · obtain ⟨a, o, rfl, hc0⟩ := HP.out k hlt
      have hc : wr.cell? ⟨a, o + k, none⟩ = some (.int .i64 (L.getD k 0 : Nat)) := by
        rw [HB.out.cell (p := ⟨a, o + k, none⟩) (block_lt_of_cell hc0)]; exact hc0
      have hx := HS.out.at k hlt
      have hsum := sumN_take L k hlt
      have hle := sumN_take_le L (k + 1)
      have hTs : T.size = s.size - sumN (L.take k) := by rw [← sb_length, HT.out, List.length_drop, hS0.out]
      have hTx : L.getD k 0 ≤ T.size := by have := HZ.out; omega
      have hN : Hid (takeN S L (k + 1) = takeN S L k ++ [numB ((S.drop (sumN (L.take k))).take (L.getD k 0))]) := takeN_succ S L k
      have hU : Hid (sb (T.extract 0 (L.getD k 0)) = (S.drop (sumN (L.take k))).take (L.getD k 0)) := by show _ = _; rw [sb_extract, HT.out, Nat.sub_zero, List.drop_zero]
      have hUs : (T.extract 0 (L.getD k 0)).size = L.getD k 0 := by rw [← sb_length, hU.out, List.length_take, ← HT.out, sb_length]; omega
      have hV : Hid (sb (T.extract (L.getD k 0) T.size) = S.drop (sumN (L.take (k + 1)))) := by
        show _ = _
        rw [sb_extract, HT.out, List.drop_drop, hsum, List.take_of_length_le]
        rw [List.length_drop, ← hS0.out]; omega
      have hTb : T.size ≤ 1000000 := by omega
      have hkl : (takeN S L k).length ≤ 1000000 := by rw [takeN_length]; omega
      clear hc0 hsum hle hTs
      generalize hN2 : takeN S L (k + 1) = N2 at *
      have HN2 := hid hN2
      clear hN2
      generalize takeN S L k = N1 at *
      generalize sumN (L.take k) = s1 at *
      generalize L.getD k 0 = x at *
      have hxi : (x : Int) ≤ T.size := by omega
      go_wp2_with ((with_reducible refine wpList_unguard ?_ ?_); (focus rfl))
      have hUb := hid (sb_lt (T.extract 0 x))
      have hW := hid (bytes_below wr 5 (T.extract 0 x))
      have hcell := hid (Lib.bytesWorld_cell wr 5 (T.extract 0 x))
      have HO1 := hid (HO.out.belowI hW.out)
      have HB1 : Hid (Below w.heap.size w (Lib.bytesWorld wr 5 (T.extract 0 x))) := HB.out.trans (hW.out.mono HB.out.size)
      clear HO HB hW hc
      generalize Lib.bytesWorld wr 5 (T.extract 0 x) = W1 at *
      generalize T.extract 0 x = U at *
      generalize grownCap wr x 0 5 = cap at *
      generalize hbs : wr.heap.size = bs at *
      clear hbs
      go_loop [32, 9] (fun i r => ∃ j : Nat, j ≤ x ∧ i = .int .i64 j ∧ r = .int .i64 (numB ((sb U).take j) : Nat)) (fun i _ => x - (intOf i).toNat)
      case atStart => exact ⟨0, Nat.zero_le _, rfl, rfl⟩
      case round =>
        obtain ⟨j, hj, rfl, rfl⟩ := hrel
        have hUl : (sb U).length = x := by rw [sb_length, hUs]
        have hlt' := numB_lt (sb U) hUb.out j (by omega)
        by_cases hjl : j < x
        · have hcj := hcell.out j (by omega)
          rw [← sb_getD U j (by omega)] at hcj
          have hy : (sb U).getD j 0 < 256 := sb_lt U _ (getD_mem _ j (by rw [hUl]; exact hjl))
          have hnx : Hid (numB ((sb U).take (j + 1)) = numB ((sb U).take j) * 256 + (sb U).getD j 0) := by
            show _ = _; rw [take_snocN _ _ (by rw [hUl]; exact hjl), numB_snoc]
          have hq : numB ((sb U).take j) < 281474976710656 := by
            have h6 : 256 ^ j ≤ 256 ^ 6 := Nat.pow_le_pow_right (by omega) (by omega)
            have : 256 ^ 6 = 281474976710656 := by decide
            omega
          clear hlt'
          generalize (sb U).getD j 0 = y at *
          generalize numB ((sb U).take j) = q at *
          have hor0 := or_shl8 q y hy hq
          rw [show wrap64 ((q : Int) * 2 ^ 8) = (q : Int) * 256 from by unfold wrap64; omega] at hor0
          have hor := hid hor0
          clear hor0
          go_wp2_with ((with_reducible refine wpList_unguard ?_ ?_); (focus rfl))
          go_round
          case rel => exact ⟨j + 1, by omega, by go_num, by rw [hnx.out, hor.out]⟩
          case measure => simp [intOf]; omega
        · have hjx : j = x := by omega
          have hN3 : Hid (N2 = N1 ++ [numB ((sb U).take j)]) := by show _ = _; rw [hN.out, hU.out, hjx, List.take_of_length_le (l := (S.drop s1).take x) (by rw [List.length_take]; omega)]
          generalize numB ((sb U).take j) = q at *
          clear hlt' hjl hcell
          go_wp2_with ((with_reducible refine wpList_unguard ?_ ?_); (focus rfl))
          have hr1 : Below W1.heap.size W1 (W1.alloc (.cells #[.int .i64 q] 3)).drew := ((Below.refl _ _).alloc (Nat.le_refl _) _).drew
          have HO2 := hid (HO1.out.belowI hr1)
          have HB2 := hid (HB1.out.trans (hr1.mono HB1.out.size))
          have hc2 : Hid ((W1.alloc (.cells #[.int .i64 q] 3)).drew.cell? ⟨W1.heap.size, 0, none⟩ = some (.int .i64 q)) := by show _ = _; simp [go_sem]
          clear hr1
          go_region_law (refine step_push rfl (.tmp 42) (.tmp 44) 84 rfl w.heap.size 3 i0 .i64 8 Try.underlying84 hi hz0 hz1 hz2 (by decide) _ N1 q HO2.out (by simp [Act.eval, Act.put]) W1.heap.size (by simp [Act.eval, Act.put]) hc2.out hkl HB2.out.size ?_; intro v' w' hown' hbel)
          have hO' : Hid (ownsI w' w.heap.size v' (takeN S L (k + 1))) := by show ownsI _ _ _ _; rw [HN2.out, hN3.out]; exact hown'
          have hB' := hid (HB2.out.trans hbel)
          clear hown' hbel
          go_wp2_with ((with_reducible refine wpList_unguard ?_ ?_); (focus rfl))
          go_roundw
          case rel => exact ⟨k + 1, T.extract x T.size, by omega, by go_num, rfl, by rw [hV.out], hO'.out, hB'.out⟩
          case measure => simp [intOf] <;> omega
    · have hkL : k = L.length := by omega
      subst hkL
      go_wp2_with ((with_reducible refine wpList_unguard ?_ ?_); (focus rfl))
      refine bodyPost_ret (v := .tuple #[_, .int .i64 0]) (by simp [results, Try.results116, go_sem]; rfl) rfl ⟨_, rfl, by rw [HSS.out]; exact HO.out, HB.out⟩
end Go.Proofs.Ytngkmlchblgmeaa
