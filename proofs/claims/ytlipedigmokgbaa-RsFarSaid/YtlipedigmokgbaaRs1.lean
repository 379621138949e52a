/-
  A word's values in the program, and whether it is right.
-/
import Derived.Test.YtlipedigmokgbaaRs0
import Derived.Test.YtlipedigmokgbaaReg3
namespace Tri
/-- A word's values. -/
def synd (word : List Nat) (p : Nat) : List Nat := (powers p).map fun x => peval x word
theorem synd_length (word : List Nat) (p : Nat) : (synd word p).length = p := by unfold synd; rw [List.length_map, powers_length]
theorem synd_bytes {word : List Nat} (h : bytesL word) (p : Nat) : bytesL (synd word p) := by
  intro y hy
  unfold synd at hy
  obtain ⟨x, _, rfl⟩ := List.mem_map.1 hy
  exact peval_lt x h
theorem synd_take (word : List Nat) (p k : Nat) (h : k < p) : (synd word p).take (k + 1) = (synd word p).take k ++ [peval (gexp k) word] := by
  unfold synd
  rw [← List.map_take, ← List.map_take, powers_take p k h, List.map_append]
  rfl
/-- Is a word one of the code? -/
def rightB (word : List Nat) (p : Nat) : Bool := (synd word p).all fun y => decide (y = 0)
end Tri
namespace Go.Proofs.Ytlipedigmokgbaa
open Go.RowKit Tri

theorem firstNz_all (l : List Nat) : decide (firstNz l < l.length) = !(l.all fun y => decide (y = 0)) := by
  induction l with
  | nil => rfl
  | cons a l ih =>
    by_cases e : a = 0
    · subst e
      have h1 : firstNz (0 :: l) = firstNz l + 1 := by simp [firstNz]
      rw [h1, List.length_cons, List.all_cons]
      simp only [decide_true, Bool.true_and]
      rw [← ih]
      by_cases h : firstNz l < l.length
      · rw [decide_eq_true h, decide_eq_true (by omega)]
      · rw [decide_eq_false h, decide_eq_false (by omega)]
    · have h1 : firstNz (a :: l) = 0 := by simp [firstNz, e]
      rw [h1, List.all_cons, decide_eq_false e]
      simp
set_option maxHeartbeats 400000 in
theorem rs_isnt (x : Nat) (w : World) : Calls Try.prog 64 #[.int .u8 x] w fun e w' => e = .returned (.bool ((x : Int) != 0)) ∧ w = w' := by
  go_enter Try.func64, Try.ntmps64
  go_wp2
  go_ret
  exact ⟨rfl, rfl⟩
set_option maxHeartbeats 1000000 in
theorem sl_IndexFuncR (p : Option Addr) (n c : Nat) (l : List Nat) (w : World) (hn : n = l.length) (hp : cellsB w p l) (hl : l.length ≤ 1000000) :
    Calls Try.prog 57 #[.slice p n c, .func (.func 64) #[] #[]] w
      fun e w' => e = .returned (.int .i64 (idxNz l)) ∧ w = w' := by
  subst hn
  have HP := hid hp
  clear hp
  go_enter Try.func57, Try.ntmps57
  go_wp2
  go_loop [8] (fun i => ∃ k : Nat, k ≤ firstNz l ∧ i = .int .i64 k) (fun i => l.length - (intOf i).toNat)
  case atStart => exact ⟨0, Nat.zero_le _, rfl⟩
  case round =>
    obtain ⟨k, hk, rfl⟩ := hrel
    have hf := firstNz_le l
    by_cases hlt : k < l.length
    · obtain ⟨a, o, rfl, hc⟩ := HP.out k hlt
      by_cases hkf : k < firstNz l
      · have hz := firstNz_zero l k hkf
        rw [hz] at hc
        go_wp2_with fail
        refine Calls.mono (rs_isnt 0 w) ?_; rintro e w' ⟨rfl, rfl⟩
        go_wp2
        go_round
        case rel => exact ⟨k + 1, by omega, by go_num⟩
        case measure => simp [intOf]; omega
      · have hke : Hid (firstNz l = k) := (show firstNz l = k by omega)
        have hnz : ((l.getD k 0 : Int) != 0) = true := by have := firstNz_at l (by omega); rw [hke.out] at this; simp only [bne_iff_ne]; omega
        have hres : Hid (idxNz l = (k : Int)) := by show _ = _; unfold idxNz; rw [hke.out, if_pos hlt]
        generalize l.getD k 0 = x at *
        go_wp2_with fail
        refine Calls.mono (rs_isnt x w) ?_; rintro e w' ⟨rfl, rfl⟩
        go_wp2
        go_ret
        exact ⟨by rw [hres.out]; rfl, rfl⟩
    · have hres : Hid (idxNz l = -1) := by show _ = _; unfold idxNz; rw [if_neg (by omega)]
      go_wp2
      go_ret
      exact ⟨by rw [hres.out]; rfl, rfl⟩
/-- 'append(s, x)' as one operation. -/
theorem wp_push {P : Program} {wr : World} {o : Oper} {a : Act} {K : Act → World → Prop} {Q : Exit → Act → World → Prop} (s x : Operand) (t : TypeId)
    (ho : o.op = .call { callee := .builtin .append, args := #[s, x], argTypes := #[t, t] })
    (base : Nat) (e : TypeId) (i : TypeInfo) (k : IntKind) (bytes : Nat) (ht : P.underlying t = some (.slice e)) (hi : P.info? e = some i) (hz : i.zero = some (.int k 0))
    (hsize : i.size = 1) (hby : i.bytes = bytes) (hb8 : bytes ≤ 8)
    (v : Value) (l : List Nat) (y : Nat) (hown : rowK wr base e k v l) (hs : a.eval s = v)
    (g : Nat) (hx : a.eval x = .slice (some ⟨g, 0, none⟩) 1 1) (hc : wr.cell? ⟨g, 0, none⟩ = some (.int k (y : Nat))) (hlen : l.length ≤ 1000000) (hbase : base ≤ wr.heap.size)
    (h : ∀ v' w', rowK w' base e k v' (l ++ [y]) → Below base wr w' → K (a.put o.dst v') w') : o.wp P a wr K Q := by
  refine wp_append_own wr s x t ho base e i (.int k 0) 1 bytes ht hi hz hsize hby rfl (by decide) v l.length (l.map fun x => Value.int k (x : Nat)) hs hown
    ⟨g, 0, none⟩ 1 1 [Value.int k (y : Nat)] hx rfl ?_ ?_ ?_ ?_ hbase ?_
  · intro j u hj
    match j with
    | 0 =>
      simp only [List.getElem?_cons_zero, Option.some.injEq] at hj
      subst hj
      rw [show (⟨g, 0, none⟩ : Addr).add 0 = ⟨g, 0, none⟩ from by simp [Addr.add]]
      exact hc
    | j + 1 => simp at hj
  · intro u hu; simp only [List.mem_singleton] at hu; subst hu; rfl
  · unfold maxLen; omega
  · calc (l.length + 1) * bytes ≤ (l.length + 1) * 8 := Nat.mul_le_mul_left _ hb8
      _ ≤ _ := by omega
  · intro v' w' h2 h3 _
    refine h v' w' ?_ ?_
    · unfold rowK; rw [List.length_append, List.map_append]; exact h2
    · refine ((Below.refl _ wr).mono hbase).grown h3 hbase ?_
      intro b hb
      rcases hown.2 with ⟨h4, _⟩ | ⟨g', cap, cur, h4, h5, _⟩
      · rw [h4] at hb; simp [Value.ownBlock] at hb
      · rw [h4] at hb; simp only [Value.ownBlock, Option.some.injEq] at hb; omega
/-- A new row of one byte. -/
def OneB (v : Value) (w : World) (x : Nat) : Prop := ∃ s, v = .slice (some ⟨s, 0, none⟩) 1 1 ∧ w.cell? ⟨s, 0, none⟩ = some (.int .u8 (x : Nat))
theorem OneB.below {v : Value} {w w' : World} {x : Nat} (h : OneB v w x) (hb : Below w.heap.size w w') : OneB v w' x := by
  obtain ⟨n, e, hc⟩ := h
  exact ⟨n, e, by rw [hb.cell (p := ⟨n, 0, none⟩) (block_lt_of_cell hc)]; exact hc⟩
theorem OneB.new (w : World) (x : Nat) (t : TypeId) : OneB (.slice (some ⟨w.heap.size, 0, none⟩) 1 1) (w.alloc (.cells #[.int .u8 (x : Nat)] t)) x :=
  ⟨_, rfl, by rw [World.cell?_alloc_new]; rfl⟩
def synV (c f i : Nat) (vo vw : Value) (x y : Nat) (j : Nat) (v : Value) (w : World) : Prop := match j with
  | 0 => v = vo
  | 1 | 2 | 6 | 7 => v = .pointer (some ⟨c, 0, none⟩)
  | 3 | 8 => v = .pointer (some ⟨c, 0, none⟩)
  | 4 | 9 => v = .pointer (some ⟨f, 0, none⟩)
  | 5 => v = vw
  | 10 => v = .int .i64 (i : Nat)
  | 11 => v = .int .u8 (x : Nat)
  | 12 => v = .int .u8 (y : Nat)
  | 13 => OneB v w y
  | _ => True
theorem synV_st (c f i : Nat) (vo vw : Value) (x y : Nat) (j : Nat) (v : Value) (w w' : World) (hb : Below w.heap.size w w') (h : synV c f i vo vw x y j v w) : synV c f i vo vw x y j v w' := by
  unfold synV at *
  split at h <;> first | exact h | exact h.below hb
theorem ownsB.belowO {w w' : World} {base : Nat} {v : Value} {l : List Nat} (h : ownsB w base v l) (hb : Below w.heap.size w w') : ownsB w' base v l := by
  obtain ⟨h2, h3⟩ := h
  refine ⟨h2, h3.imp id fun ⟨g, cap, cur, h4, h5, h6, h7⟩ => ⟨g, cap, cur, h4, h5, ?_, h7⟩⟩
  rw [hb.block g (Array.getElem?_eq_some_iff.1 h6).1]; exact h6

set_option maxHeartbeats 4000000 in
set_option maxRecDepth 100000 in
theorem rs_Syndromes (c f n k : Nat) (p : Option Addr) (m d : Nat) (word : List Nat) (w : World) (hR : isR w c f n k) (hk : k < n) (hn : n ≤ 255) (hm : m = word.length) (hp : cellsB w p word) (hb : bytesL word) (hl : word.length = n) :
    Calls Try.prog 41 #[.pointer (some ⟨c, 0, none⟩), .slice p m d] w fun e w' => ∃ v, e = .returned (.tuple #[v, .int .i64 0]) ∧ ownsB w' w.heap.size v (synd word (n - k)) ∧ Below w.heap.size w w' := by
  subst hm
  have HR := hid hR
  have HP := hid hp
  have HB := hid hb
  clear hR hp hb
  obtain ⟨i0, hi, hz0, hz1, hz2⟩ := info_parts Try.infoB
  obtain ⟨q, hq⟩ : ∃ q, n - k = q := ⟨_, rfl⟩
  have hnk : (n : Int) - (k : Int) = (q : Int) := by omega
  have hw : IntKind.i64.wrap (q : Int) = (q : Int) := by rw [IntKind.wrap_i64]; omega
  have HST : Hid (∀ j, j < q → (synd word q).take (j + 1) = (synd word q).take j ++ [peval (gexp j) word]) := fun j hj => synd_take word q j hj
  have HSl := hid (synd_length word q)
  rw [hq]
  generalize synd word q = S at *
  have HQ := hid hq
  have hlw : word.length ≤ 255 := by omega
  have hne : ((word.length : Int) != (n : Int)) = false := by rw [bne_eq_false_iff_eq]; omega
  have HLw := hid hl
  clear hq hl
  have c1 := HR.out.n
  have c2 := HR.out.k
  (go_enter Try.func41, Try.ntmps41; try simp only [List.append])
  go_wp2_with ((with_reducible refine wpList_unguard ?_ ?_); (focus rfl))
  go_region
  clear c1 c2
  go_wp2_with ((with_reducible refine wpList_unguard ?_ ?_); (focus rfl))
  go_loopw [6, 28] (fun s i wr => ∃ j : Nat, j ≤ q ∧ i = .int .i64 j ∧ ownsB wr w.heap.size s (S.take j) ∧ Below w.heap.size w wr) (fun _ i _ => q - (intOf i).toNat)
  case atStart => exact ⟨0, Nat.zero_le _, rfl, World.ownsRow_nil _ _ _ _, (Below.refl _ _).drew⟩
  case round =>
    obtain ⟨j, hj, rfl, hO', hK⟩ := hrel
    obtain ⟨v0, hv0, hO⟩ : ∃ v0, v0 = (_ : Value) ∧ ownsB wr w.heap.size v0 (S.take j) := ⟨_, rfl, hO'⟩
    subst hv0
    clear hO'
    have HO := hid hO
    have K := hid hK
    have HRw := hid (HR.out.below hK)
    clear hO hK
    by_cases hlt : j < q
    · have HS := hid (HST.out j hlt)
      have hgl := gexp_lt j
      have hkl : (S.take j).length ≤ 1000000 := by rw [List.length_take, HSl.out]; omega
      have hge : Hid (gexpZ (j : Int) = gexp j) := gexpZ_nat j
      generalize hs2 : S.take (j + 1) = S2 at *
      have HS2 := hid hs2
      clear hs2
      generalize S.take j = S1 at *
      generalize gexp j = x at *
      have hyl := peval_lt x HB.out
      have HPE : Hid (∀ z, z = peval x word → peval x word = z) := fun z h => h.symm
      obtain ⟨y, hy⟩ : ∃ y, peval x word = y := ⟨_, rfl⟩
      rw [hy] at HS hyl
      have HY := hid hy
      clear hy HPE
      go_wp2_with ((with_reducible refine wpList_unguard ?_ ?_); (focus rfl))
      refine region_tail2 (m := 14) _ _ (fun w' => Below w.heap.size w w' ∧ ownsB w' w.heap.size v0 S1) (synV c f j v0 (.slice p word.length d) x y) (by kernel_rfl) (by kernel_rfl) (by kernel_rfl) rfl rfl rfl (by kernel_rfl) ⟨by decide, rfl⟩ ⟨K.out.drew, HO.out⟩ (synV_st c f j _ _ x y) ?_ ?_
      · clear K HRw
        refine ⟨fun A w3 hC hu hd K hK => ?_, ?_⟩
        · exact op_tmp 6 _ rfl (hu 6 rfl) (hK _ _ rfl hC (Below.refl _ _))
        refine ⟨fun A w3 hC hu hd K hK => ?_, ?_⟩
        · exact op_tmp 0 _ rfl (hu 0 rfl) (hK _ _ rfl hC (Below.refl _ _))
        refine ⟨fun A w3 hC hu hd K hK => ?_, ?_⟩
        · have h1 : A.tmps[32]?.getD undef = Value.pointer (some ⟨c, 0, none⟩) := by have this : A.tmps.getD 32 undef = Value.pointer (some ⟨c, 0, none⟩) := hd ⟨1, .data⟩ (by simp) rfl _ _ rfl rfl; simpa using this
          clear hu hd
          go_simp
          exact hK _ _ rfl hC (Below.refl _ _)
        refine ⟨fun A w3 hC hu hd K hK => ?_, ?_⟩
        · have h1 : A.tmps[33]?.getD undef = Value.pointer (some ⟨c, 0, none⟩) := by have this : A.tmps.getD 33 undef = Value.pointer (some ⟨c, 0, none⟩) := hd ⟨2, .data⟩ (by simp) rfl _ _ rfl rfl; simpa using this
          clear hu hd
          go_simp
          exact hK _ _ rfl hC (Below.refl _ _)
        refine ⟨fun A w3 hC hu hd K hK => ?_, ?_⟩
        · have h1 : A.tmps[34]?.getD undef = Value.pointer (some ⟨c, 0, none⟩) := by have this : A.tmps.getD 34 undef = Value.pointer (some ⟨c, 0, none⟩) := hd ⟨3, .data⟩ (by simp) rfl _ _ rfl rfl; simpa using this
          have hl := (HR.out.below hC.1).field
          clear hu hd
          go_simp
          exact hK _ _ rfl hC (Below.refl _ _)
        refine ⟨fun A w3 hC hu hd K hK => ?_, ?_⟩
        · exact op_tmp 1 _ rfl (hu 1 rfl) (hK _ _ rfl hC (Below.refl _ _))
        refine ⟨fun A w3 hC hu hd K hK => ?_, ?_⟩
        · exact op_tmp 0 _ rfl (hu 0 rfl) (hK _ _ rfl hC (Below.refl _ _))
        refine ⟨fun A w3 hC hu hd K hK => ?_, ?_⟩
        · have h1 : A.tmps[37]?.getD undef = Value.pointer (some ⟨c, 0, none⟩) := by have this : A.tmps.getD 37 undef = Value.pointer (some ⟨c, 0, none⟩) := hd ⟨6, .data⟩ (by simp) rfl _ _ rfl rfl; simpa using this
          clear hu hd
          go_simp
          exact hK _ _ rfl hC (Below.refl _ _)
        refine ⟨fun A w3 hC hu hd K hK => ?_, ?_⟩
        · have h1 : A.tmps[38]?.getD undef = Value.pointer (some ⟨c, 0, none⟩) := by have this : A.tmps.getD 38 undef = Value.pointer (some ⟨c, 0, none⟩) := hd ⟨7, .data⟩ (by simp) rfl _ _ rfl rfl; simpa using this
          clear hu hd
          go_simp
          exact hK _ _ rfl hC (Below.refl _ _)
        refine ⟨fun A w3 hC hu hd K hK => ?_, ?_⟩
        · have h1 : A.tmps[39]?.getD undef = Value.pointer (some ⟨c, 0, none⟩) := by have this : A.tmps.getD 39 undef = Value.pointer (some ⟨c, 0, none⟩) := hd ⟨8, .data⟩ (by simp) rfl _ _ rfl rfl; simpa using this
          have hl := (HR.out.below hC.1).field
          clear hu hd
          go_simp
          exact hK _ _ rfl hC (Below.refl _ _)
        refine ⟨fun A w3 hC hu hd K hK => ?_, ?_⟩
        · exact op_tmp 7 _ rfl (hu 7 rfl) (hK _ _ rfl hC (Below.refl _ _))
        refine ⟨fun A w3 hC hu hd K hK => ?_, ?_⟩
        · have h1 : A.tmps[40]?.getD undef = Value.pointer (some ⟨f, 0, none⟩) := by have this : A.tmps.getD 40 undef = Value.pointer (some ⟨f, 0, none⟩) := hd ⟨9, .data⟩ (by simp) rfl _ _ rfl rfl; simpa using this
          have h2 : A.tmps[41]?.getD undef = Value.int .i64 (j : Nat) := by have this : A.tmps.getD 41 undef = Value.int .i64 (j : Nat) := hd ⟨10, .data⟩ (by simp) rfl _ _ rfl rfl; simpa using this
          clear hu hd
          go_simp
          refine Calls.mono (gf_Exp f (j : Int) _ (HR.out.below hC.1).fld) ?_
          rintro e w5 ⟨rfl, rfl⟩
          rw [hge.out]
          exact hK _ _ rfl hC (Below.refl _ _)
        refine ⟨fun A w3 hC hu hd K hK => ?_, ?_⟩
        · have h1 : A.tmps[35]?.getD undef = Value.pointer (some ⟨f, 0, none⟩) := by have this : A.tmps.getD 35 undef = Value.pointer (some ⟨f, 0, none⟩) := hd ⟨4, .data⟩ (by simp) rfl _ _ rfl rfl; simpa using this
          have h2 : A.tmps[36]?.getD undef = Value.slice p word.length d := by have this : A.tmps.getD 36 undef = Value.slice p word.length d := hd ⟨5, .data⟩ (by simp) rfl _ _ rfl rfl; simpa using this
          have h3 : A.tmps[42]?.getD undef = Value.int .u8 (x : Nat) := by have this : A.tmps.getD 42 undef = Value.int .u8 (x : Nat) := hd ⟨11, .data⟩ (by simp) rfl _ _ rfl rfl; simpa using this
          clear hu hd
          go_simp
          refine Calls.mono (poly_Eval f p _ d word x _ (HR.out.below hC.1).fld rfl (HP.out.below hC.1) HB.out hgl (by omega)) ?_
          rintro e w5 ⟨rfl, hK5⟩
          rw [HY.out]
          exact hK _ _ rfl ⟨hC.1.trans (hK5.1.mono hC.1.size), hC.2.belowO hK5.1⟩ hK5.1
        refine ⟨fun A w3 hC hu hd K hK => ?_, ?_⟩
        · have h1 : A.tmps[43]?.getD undef = Value.int .u8 (y : Nat) := by have this : A.tmps.getD 43 undef = Value.int .u8 (y : Nat) := hd ⟨12, .data⟩ (by simp) rfl _ _ rfl rfl; simpa using this
          clear hu hd
          go_simp
          exact hK _ _ (OneB.new w3 _ _) ⟨hC.1.alloc hC.1.size _, hC.2.belowO ((Below.refl _ _).alloc (Nat.le_refl _) _)⟩ ((Below.refl _ _).alloc (Nat.le_refl _) _)
        trivial
      · intro vs w4 hC hbl hv
        have h31 := hv 0 _ 31 (by decide) rfl rfl
        obtain ⟨g, h44, hcg⟩ : OneB (vs 44) w4 y := hv 13 _ 44 (by decide) rfl rfl
        have h31' : vs 31 = _ := h31
        clear hv hbl h31
        have HC := hid hC
        clear hC
        simp only [List.take_succ_cons, List.take_zero, wrote_cons, wrote_nil]
        refine wp_push _ _ 28 rfl w.heap.size 5 i0 .u8 1 Try.underlying28 hi hz0 hz1 hz2 (by decide) _ S1 y HC.out.2 ?_ g ?_ hcg hkl HC.out.1.size ?_
        · simp [Act.eval, h31']
        · simp [Act.eval, h44]
        · intro v' w' hown' hbel
          have hO' : Hid (ownsB w' w.heap.size v' S2) := by show ownsB _ _ _ _; rw [HS.out]; exact hown'
          have K' := hid (HC.out.1.trans hbel)
          clear hown' hbel HC hcg h44 h31'
          go_simp
          go_wp2_with ((with_reducible refine wpList_unguard ?_ ?_); (focus rfl))
          go_roundw
          case rel => exact ⟨j + 1, by omega, by go_num, by rw [HS2.out]; exact hO'.out, K'.out⟩
          case measure => simp [intOf]; omega
    · have hT : Hid (S.take j = S) := by show _ = _; exact List.take_of_length_le (by rw [HSl.out]; omega)
      rw [hT.out] at HO
      go_wp2_with ((with_reducible refine wpList_unguard ?_ ?_); (focus rfl))
      refine bodyPost_ret (v := .tuple #[v0, .int .i64 0]) (by simp [results, Try.results41, go_sem]) rfl ⟨v0, rfl, HO.out, K.out⟩
end Go.Proofs.Ytlipedigmokgbaa
