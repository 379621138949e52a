/-
  The example of chapter 10.
-/
import Derived.Test.YtiailpbmmadaeaaTag1
import Derived.Test.YtiailpbmmadaeaaRegG
import Derived.Test.YtiailpbmmadaeaaArr
import Derived.Test.YtiailpbmmadaeaaQreg
namespace Go.Proofs.Ytiailpbmmadaeaa
open Go.RowKit Tri

theorem wp_store_B {P : Program} {w : World} {o : Oper} {a : Act} {K : Act → World → Prop} {Q : Exit → Act → World → Prop} (ty : TypeId) (x y : Operand) (ho : o.op = .store ty x y)
    (b : Nat) (T : TypeId) (l m : List Nat) (hx : a.eval x = .pointer (some ⟨b, 0, none⟩)) (hy : a.eval y = .agg (blkB l)) (hB : Blk w b T (blkB m)) (hlm : l.length = m.length)
    (hi : (P.info? ty).map (·.size) = some l.length)
    (h : ∀ w', Blk w' b T (blkB l) → (∀ n0 w0, Below n0 w0 w → n0 ≤ b → Below n0 w0 w') → (∀ B' t' vs', B' ≠ b → Blk w B' t' vs' → Blk w' B' t' vs') → K (a.put o.dst undef) w') :
    o.wp P a w K Q := by
  refine wp_store_mid ty x y ho b 0 (blkB l) hx hy ?_ (by rw [blkB_size]; exact hi) ?_ ?_
  · intro j hj
    rw [blkB_size] at hj
    refine ⟨?_, hB.free _⟩
    rw [hB.cell (0 + j) ((blkB m)[j]'(by rw [blkB_size]; omega)) (by rw [Nat.zero_add]; exact Array.getElem?_eq_getElem _)]; rfl
  · rw [Array.all_eq_true_iff_forall_mem]
    intro v hv
    simp only [blkB, List.mem_toArray, List.mem_map] at hv
    obtain ⟨x, _, rfl⟩ := hv
    rfl
  · refine h _ ?_ (fun n0 w0 hb hn => belowSetCells b hn _ _ hb) (fun B' t' vs' hne hB' => hB'.setCellsOther b hne _ _)
    have h2 := hB.setCells (l.map fun x => Value.int .u8 (x : Nat)) 0
    rw [setL_blkB _ _ _ (by omega)] at h2
    rw [blkB_toList]
    have e : m.take 0 ++ (l ++ m.drop (0 + l.length)) = l := by
      rw [List.take_zero, List.nil_append, Nat.zero_add, List.drop_of_length_le (by omega), List.append_nil]
    rw [e] at h2
    exact h2
theorem openOk_seal (l : List Nat) (hl : l.length = 60) (hb : ∀ x ∈ l, x < 256) : openOk (ofB (sealB l)) = true ∧ padB (sb (ofB (sealB l))) 60 = l := by
  have hlt : ∀ y ∈ sealB l, y < 256 := by
    intro y hy
    unfold sealB at hy
    rcases List.mem_append.1 hy with h | h
    · exact hb y h
    · exact putB_lt _ _ y h
  have hsl : (sealB l).length = 64 := by unfold sealB; rw [List.length_append, putB_length, hl]
  have h4 : ((sealB l).take (64 - 4)) = l := by
    unfold sealB
    rw [List.take_append_of_le_length (by omega), List.take_of_length_le (by omega)]
  constructor
  · unfold openOk openE
    rw [ofB_size, hsl, sb_ofB _ hlt, if_neg (by omega), h4, if_pos rfl]
    rfl
  · symm
    refine pad_ext _ _ hl ?_
    intro j hj
    rw [sb_ofB _ hlt]
    unfold sealB
    rw [List.getD_eq_getElem?_getD, List.getElem?_append_left (by omega), List.getElem?_eq_getElem (by omega)]
    rfl
/-- What the operations of the example's fourth region give. -/
def awV (base g : Nat) (L : List Nat) : Nat → Value → World → Prop
  | 0, v, w => ∃ b, v = .pointer (some ⟨b, 0, none⟩) ∧ isC w b
  | 1, v, w => ∃ b, v = .pointer (some ⟨b, 0, none⟩) ∧ isC w b
  | 2, v, _ => v = .slice (some ⟨g, 0, none⟩) 1 1
  | 3, v, _ => v = .pointer (some ⟨g, 0, none⟩)
  | 4, v, _ => v = .agg (blkB L)
  | 5, v, _ => v = .string (ofB (sealB L))
  | 6, v, _ => v = .tuple #[.agg (blkB L), .bool true]
  | 7, v, _ => v = .tuple #[.agg (blkB L), .bool true]
  | 8, v, _ => v = .agg (blkB L)
  | 9, v, _ => v = .bool true
  | 10, v, w => ∃ b, v = .pointer (some ⟨b, 0, none⟩) ∧ base ≤ b ∧ ∃ m, m.length = 60 ∧ Blk w b 31 (blkB m)
  | 11, v, w => ∃ b, v = .pointer (some ⟨b, 0, none⟩) ∧ base ≤ b ∧ Blk w b 31 (blkB L)
  | 12, v, _ => v = .bool true
  | _, _, _ => True
def awR (L : List Nat) (w w' : World) : Prop :=
  (∀ b t vs, t ≠ 31 → Blk w b t vs → Blk w' b t vs) ∧ (∀ b m, Blk w b 31 (blkB m) → Blk w' b 31 (blkB m) ∨ Blk w' b 31 (blkB L))
theorem awR.trans (L : List Nat) (a b c : World) (h1 : awR L a b) (h2 : awR L b c) : awR L a c := by
  refine ⟨fun B t vs ht h => h2.1 B t vs ht (h1.1 B t vs ht h), fun B m h => ?_⟩
  rcases h1.2 B m h with h | h
  · exact h2.2 B m h
  · rcases h2.2 B L h with h | h <;> exact .inr h
theorem awR.refl (L : List Nat) (w : World) : awR L w w := ⟨fun _ _ _ _ h => h, fun _ _ h => .inl h⟩
theorem awR.below (L : List Nat) {w w' : World} (h : Below w.heap.size w w') : awR L w w' := ⟨fun _ _ _ _ hB => hB.below h, fun _ _ hB => .inl (hB.below h)⟩
theorem awV_st (base g : Nat) (L : List Nat) (hL : L.length = 60) : ∀ i v w w', awR L w w' → awV base g L i v w → awV base g L i v w'
  | 0, _, _, _, h, ⟨b, e, hb⟩ => ⟨b, e, h.1 _ _ _ (by decide) hb⟩
  | 1, _, _, _, h, ⟨b, e, hb⟩ => ⟨b, e, h.1 _ _ _ (by decide) hb⟩
  | 2, _, _, _, _, h => h
  | 3, _, _, _, _, h => h
  | 4, _, _, _, _, h => h
  | 5, _, _, _, _, h => h
  | 6, _, _, _, _, h => h
  | 7, _, _, _, _, h => h
  | 8, _, _, _, _, h => h
  | 9, _, _, _, _, h => h
  | 10, _, _, _, h, ⟨b, e, hb, m, hm, hB⟩ => by
    rcases h.2 _ _ hB with h | h
    · exact ⟨b, e, hb, m, hm, h⟩
    · exact ⟨b, e, hb, L, hL, h⟩
  | 11, _, _, _, h, ⟨b, e, hb, hB⟩ => ⟨b, e, hb, by rcases h.2 _ _ hB with h | h <;> exact h⟩
  | 12, _, _, _, _, h => h
  | _ + 13, _, _, _, _, _ => trivial
set_option maxHeartbeats 4000000 in
set_option maxRecDepth 100000 in
theorem law10_awake (w : World) : Calls Try.prog 13 #[] w fun e w' => e = .returned (.bool true) ∧ Below w.heap.size w w' := by
  have hsp := tag_Split ⟨#[97, 98]⟩ 1 1 w (by rfl) (by decide)
  have hL : padB (sb ⟨#[97, 98]⟩) (1 * 60) = [97, 98] ++ List.replicate 58 0 := by decide
  have hLl : (padB (sb ⟨#[97, 98]⟩) (1 * 60)).length = 60 := padB_length _ _
  have hLb : ∀ x ∈ padB (sb ⟨#[97, 98]⟩) (1 * 60), x < 256 := by rw [hL]; decide
  have h0 : (blkB (padB (sb ⟨#[97, 98]⟩) (1 * 60)))[0]? = some (.int .u8 97) := by rw [hL]; rfl
  have h2 : (blkB (padB (sb ⟨#[97, 98]⟩) (1 * 60)))[2]? = some (.int .u8 0) := by rw [hL]; rfl
  clear hL
  generalize padB (sb ⟨#[97, 98]⟩) (1 * 60) = L at *
  have HS := hid hsp
  have HLb := hid hLb
  clear hsp hLb
  (go_enter Try.func13, Try.ntmps13; try simp only [List.append])
  go_wp2_with fail
  refine Calls.mono HS.out ?_; rintro e w1 ⟨g, rfl, hB, hb⟩
  have HB1 := hid hB
  have Hb1 := hid hb
  have c0 := hB.cell 0 _ h0
  have c2 := hB.cell 2 _ h2
  have hgz := hB.lt
  clear hB hb HS h0 h2
  go_wp2
  clear c0 c2
  refine region_G _ _ (fun _ => 2) (fun w' => Below w1.heap.size w1 w') (awR L) (awR.refl L) (awR.trans L) (awV w1.heap.size g L) (by kernel_rfl) (by kernel_rfl) (by kernel_rfl) ⟨by decide, rfl⟩ ((Below.refl _ _).drew) (awV_st _ g L hLl) ?_ ?_
  · refine ⟨fun A w3 hC hu hd K hK => (if_pos (show Region.wanted _ _ = true from rfl)).mpr ?_, ?_⟩
    · clear hu hd
      go_simp
      refine Calls.mono (crc_NewK w3 w3 (Below.refl _ _)) ?_; rintro e w5 ⟨b, rfl, hk⟩
      exact hK _ _ ⟨b, rfl, hk.2⟩ (hC.trans (hk.1.mono hC.size)) (awR.below L hk.1)
    refine ⟨fun A w3 hC hu hd K hK => (if_pos (show Region.wanted _ _ = true from rfl)).mpr ?_, ?_⟩
    · clear hu hd
      go_simp
      refine Calls.mono (crc_NewK w3 w3 (Below.refl _ _)) ?_; rintro e w5 ⟨b, rfl, hk⟩
      exact hK _ _ ⟨b, rfl, hk.2⟩ (hC.trans (hk.1.mono hC.size)) (awR.below L hk.1)
    refine ⟨fun A w3 hC hu hd K hK => (if_pos (show Region.wanted _ _ = true from rfl)).mpr ?_, ?_⟩
    · exact op_tmp 1 _ rfl (hu 1 rfl) (hK _ _ rfl hC (awR.refl L _))
    refine ⟨fun A w3 hC hu hd K hK => (if_pos (show Region.wanted _ _ = true from rfl)).mpr ?_, ?_⟩
    · have h1 : A.tmps[25]?.getD undef = Value.slice (some ⟨g, 0, none⟩) 1 1 := by have this : A.tmps.getD 25 undef = Value.slice (some ⟨g, 0, none⟩) 1 1 := hd ⟨2, .data⟩ (by simp) rfl _ _ rfl rfl; simpa using this
      clear hu hd
      go_simp
      exact hK _ _ rfl hC (awR.refl L _)
    refine ⟨fun A w3 hC hu hd K hK => (if_pos (show Region.wanted _ _ = true from rfl)).mpr ?_, ?_⟩
    · have h1 : A.tmps.getD 26 undef = .pointer (some ⟨g, 0, none⟩) := hd ⟨3, .data⟩ (by simp) rfl _ _ rfl rfl
      refine wp_load_row 31 (.tmp 26) rfl g h1 31 (blkB L) (0, 0) _ (HB1.out.below hC) Try.underlying31 rfl (by rw [blkB_size, hLl]; kernel_rfl) ?_
      exact hK _ _ rfl hC (awR.refl L _)
    refine ⟨fun A w3 hC hu hd K hK => (if_pos (show Region.wanted _ _ = true from rfl)).mpr ?_, ?_⟩
    · obtain ⟨b, h1', hc1⟩ : ∃ b, A.tmps.getD 24 undef = .pointer (some ⟨b, 0, none⟩) ∧ isC w3 b := hd ⟨1, .data⟩ (by simp) rfl _ _ rfl rfl
      have h1 : A.tmps[24]?.getD undef = .pointer (some ⟨b, 0, none⟩) := by simpa using h1'
      have h2 : A.tmps[27]?.getD undef = Value.agg (blkB L) := by have this : A.tmps.getD 27 undef = Value.agg (blkB L) := hd ⟨4, .data⟩ (by simp) rfl _ _ rfl rfl; simpa using this
      have HC1 := hid hc1
      clear hu hd h1' hc1
      go_simp
      refine Calls.mono (tag_Seal w3 b L w3 ⟨Below.refl _ _, HC1.out⟩ hLl HLb.out) ?_; rintro e w5 ⟨rfl, hk⟩
      exact hK _ _ rfl (hC.trans (hk.1.mono hC.size)) (awR.below L hk.1)
    refine ⟨fun A w3 hC hu hd K hK => (if_pos (show Region.wanted _ _ = true from rfl)).mpr ?_, ?_⟩
    · obtain ⟨b, h1', hc1⟩ : ∃ b, A.tmps.getD 23 undef = .pointer (some ⟨b, 0, none⟩) ∧ isC w3 b := hd ⟨0, .data⟩ (by simp) rfl _ _ rfl rfl
      have h1 : A.tmps[23]?.getD undef = .pointer (some ⟨b, 0, none⟩) := by simpa using h1'
      have h2 : A.tmps[28]?.getD undef = Value.string (ofB (sealB L)) := by have this : A.tmps.getD 28 undef = Value.string (ofB (sealB L)) := hd ⟨5, .data⟩ (by simp) rfl _ _ rfl rfl; simpa using this
      have HC1 := hid hc1
      clear hu hd h1' hc1
      go_simp
      refine Calls.mono (tag_Open w3 b (ofB (sealB L)) w3 ⟨Below.refl _ _, HC1.out⟩ (by rw [ofB_size]; unfold sealB; rw [List.length_append, putB_length, hLl]; omega)) ?_; rintro e w5 ⟨rfl, hk⟩
      rw [(openOk_seal L hLl HLb.out).1, (openOk_seal L hLl HLb.out).2]
      exact hK _ _ rfl (hC.trans (hk.1.mono hC.size)) (awR.below L hk.1)
    refine ⟨fun A w3 hC hu hd K hK => (if_pos (show Region.wanted _ _ = true from rfl)).mpr ?_, ?_⟩
    · exact op_tmp 29 _ rfl (hd ⟨6, .data⟩ (by simp) rfl _ _ rfl rfl) (hK _ _ rfl hC (awR.refl L _))
    refine ⟨fun A w3 hC hu hd K hK => (if_pos (show Region.wanted _ _ = true from rfl)).mpr ?_, ?_⟩
    · have h1 : A.tmps[22]?.getD undef = Value.tuple #[.agg (blkB L), .bool true] := by have this : A.tmps.getD 22 undef = Value.tuple #[.agg (blkB L), .bool true] := hd ⟨7, .data⟩ (by simp) rfl _ _ rfl rfl; simpa using this
      clear hu hd
      go_simp
      exact hK _ _ rfl hC (awR.refl L _)
    refine ⟨fun A w3 hC hu hd K hK => (if_pos (show Region.wanted _ _ = true from rfl)).mpr ?_, ?_⟩
    · have h1 : A.tmps[22]?.getD undef = Value.tuple #[.agg (blkB L), .bool true] := by have this : A.tmps.getD 22 undef = Value.tuple #[.agg (blkB L), .bool true] := hd ⟨7, .data⟩ (by simp) rfl _ _ rfl rfl; simpa using this
      clear hu hd
      go_simp
      exact hK _ _ rfl hC (awR.refl L _)
    refine ⟨fun A w3 hC hu hd K hK => (if_pos (show Region.wanted _ _ = true from rfl)).mpr ?_, ?_⟩
    · clear hu hd
      have hB0 : Blk (w3.alloc (.cells #[.int .u8 0, .int .u8 0, .int .u8 0, .int .u8 0, .int .u8 0, .int .u8 0, .int .u8 0, .int .u8 0, .int .u8 0, .int .u8 0, .int .u8 0, .int .u8 0, .int .u8 0, .int .u8 0, .int .u8 0, .int .u8 0, .int .u8 0, .int .u8 0, .int .u8 0, .int .u8 0, .int .u8 0, .int .u8 0, .int .u8 0, .int .u8 0, .int .u8 0, .int .u8 0, .int .u8 0, .int .u8 0, .int .u8 0, .int .u8 0, .int .u8 0, .int .u8 0, .int .u8 0, .int .u8 0, .int .u8 0, .int .u8 0, .int .u8 0, .int .u8 0, .int .u8 0, .int .u8 0, .int .u8 0, .int .u8 0, .int .u8 0, .int .u8 0, .int .u8 0, .int .u8 0, .int .u8 0, .int .u8 0, .int .u8 0, .int .u8 0, .int .u8 0, .int .u8 0, .int .u8 0, .int .u8 0, .int .u8 0, .int .u8 0, .int .u8 0, .int .u8 0, .int .u8 0, .int .u8 0] 31)) w3.heap.size 31 (blkB (List.replicate 60 0)) := Blk.new w3 31 (blkB (List.replicate 60 0))
      have hK' := hK (.pointer (some ⟨w3.heap.size, 0, none⟩)) (w3.alloc (.cells #[.int .u8 0, .int .u8 0, .int .u8 0, .int .u8 0, .int .u8 0, .int .u8 0, .int .u8 0, .int .u8 0, .int .u8 0, .int .u8 0, .int .u8 0, .int .u8 0, .int .u8 0, .int .u8 0, .int .u8 0, .int .u8 0, .int .u8 0, .int .u8 0, .int .u8 0, .int .u8 0, .int .u8 0, .int .u8 0, .int .u8 0, .int .u8 0, .int .u8 0, .int .u8 0, .int .u8 0, .int .u8 0, .int .u8 0, .int .u8 0, .int .u8 0, .int .u8 0, .int .u8 0, .int .u8 0, .int .u8 0, .int .u8 0, .int .u8 0, .int .u8 0, .int .u8 0, .int .u8 0, .int .u8 0, .int .u8 0, .int .u8 0, .int .u8 0, .int .u8 0, .int .u8 0, .int .u8 0, .int .u8 0, .int .u8 0, .int .u8 0, .int .u8 0, .int .u8 0, .int .u8 0, .int .u8 0, .int .u8 0, .int .u8 0, .int .u8 0, .int .u8 0, .int .u8 0, .int .u8 0] 31)) ⟨_, rfl, hC.size, List.replicate 60 0, by simp, hB0⟩ (hC.alloc hC.size _) (awR.below L ((Below.refl _ _).alloc (Nat.le_refl _) _))
      clear hK
      go_simp
      exact hK'
    refine ⟨fun A w3 hC hu hd K hK => (if_pos (show Region.wanted _ _ = true from rfl)).mpr ?_, ?_⟩
    · obtain ⟨b, h1, hbb, m, hm, hBm⟩ : ∃ b, A.tmps.getD 2 undef = .pointer (some ⟨b, 0, none⟩) ∧ w1.heap.size ≤ b ∧ ∃ m : List Nat, m.length = 60 ∧ Blk w3 b 31 (blkB m) := hd ⟨10, .data⟩ (by simp) rfl _ _ rfl rfl
      have h2 : A.tmps.getD 30 undef = .agg (blkB L) := hd ⟨8, .data⟩ (by simp) rfl _ _ rfl rfl
      refine wp_store_B 31 (.tmp 2) (.tmp 30) rfl b 31 L m h1 h2 hBm (by rw [hLl, hm]) (by rw [hLl]; kernel_rfl) ?_
      intro w5 hB5 hb5 ho5
      refine hK _ _ ⟨b, h1, hbb, hB5⟩ (hb5 _ _ hC hbb) ⟨fun B t vs ht hB => ?_, fun B m' hB => ?_⟩
      · refine ho5 B t vs (fun e => ?_) hB
        subst e
        have e2 := hB.symm.trans hBm
        simp only [Option.some.injEq, Obj.cells.injEq] at e2
        exact ht e2.2.1
      · by_cases e : B = b
        · subst e; exact .inr hB5
        · exact .inl (ho5 B _ _ e hB)
    refine ⟨fun A w3 hC hu hd K hK => (if_pos (show Region.wanted _ _ = true from rfl)).mpr ?_, ?_⟩
    · have h1 : A.tmps[31]?.getD undef = Value.bool true := by have this : A.tmps.getD 31 undef = Value.bool true := hd ⟨9, .data⟩ (by simp) rfl _ _ rfl rfl; simpa using this
      clear hu hd
      go_simp
      exact hK _ _ rfl hC (awR.refl L _)
    trivial
  · intro vs w4 hC hR4 hun hv
    obtain ⟨b, e2, hbb, hB4⟩ := hv 11 _ rfl
    have e3 : vs 3 = .bool true := hv 12 _ rfl
    have e2 : vs 2 = .pointer (some ⟨b, 0, none⟩) := e2
    have HBg := hid (HB1.out.below hC)
    have HB4 := hid hB4
    have Hb4 := hid (Hb1.out.trans (hC.mono Hb1.out.size))
    clear hv hun hR4 hC hB4
    simp only [wrote_cons, wrote_none, wrote_nil, e2, e3]
    have heq : ∀ w, (binOp .eql 31 (.agg (blkB L)) (.agg (blkB L))).run Try.prog w = .ok (.bool true) w := by
      intro w
      have := run_eq_bytes 31 60 Try.underlying31 L L HLb.out HLb.out hLl hLl w
      rw [decide_eq_true rfl] at this
      have e : blkB L = u8s L := rfl
      rw [e]
      simp [binOp, Op.equal, Op.maxDepth, this]
    have hl1 : ∀ w', Below w4.heap.size w4 w' → (loadVar 31 ⟨b, 0, none⟩).run Try.prog w' = .ok (.agg (blkB L)) w' := fun w' h => run_loadVar_row w' b 31 31 (blkB L) (0, 0) _ (HB4.out.below h) Try.underlying31 rfl (by rw [blkB_size, hLl]; kernel_rfl)
    have hl2 : ∀ w', Below w4.heap.size w4 w' → (loadVar 31 ⟨g, 0, none⟩).run Try.prog w' = .ok (.agg (blkB L)) w' := fun w' h => run_loadVar_row w' g 31 31 (blkB L) (0, 0) _ (HBg.out.below h) Try.underlying31 rfl (by rw [blkB_size, hLl]; kernel_rfl)
    have HE1 := hid hl1
    have HE2 := hid hl2
    clear hl1 hl2 e2 e3
    simp only [List.setIfInBounds_toArray, List.set_cons_zero, List.set_cons_succ]
    go_wp2
    (refine wp_region_quietC (fun w' => Below (w4).heap.size w4 w') (by kernel_rfl) (by kernel_rfl) ((Below.refl _ _).drew) ?_; (repeat (first | go_big_quiet_skip | (go_big_quiet_want; first | (go_big_quiet_op; go_big_quiet_on) | ((first | (refine quiet_load_row 31 (.tmp 2) rfl b rfl (blkB L) HE1.out ?_) | (refine quiet_load_row 31 (.tmp 36) rfl g rfl (blkB L) HE2.out ?_)); go_simp; go_big_quiet_on) | (apply Exists.intro; refine And.intro (fun wq hq => ?_) ?_; (focus ((try go_simp); first | done | rfl)); go_simp; go_big_quiet_on)))); refine quietC_nil _ rfl ?_; intro wE hE)
    go_wp2
    go_ret
    exact ⟨rfl, Hb4.out.trans (hE.mono Hb4.out.size)⟩
end Go.Proofs.Ytiailpbmmadaeaa
