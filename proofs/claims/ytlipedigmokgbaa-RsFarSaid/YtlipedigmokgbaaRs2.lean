/-
  slices.Grow and slices.Concat (of rows that are not empty) in the program; append of nothing, and of a row's bytes.
-/
import Derived.Test.YtlipedigmokgbaaRs1c
import Derived.Test.YtlipedigmokgbaaShift
namespace Go.Proofs.Ytlipedigmokgbaa
open Go.RowKit Tri

theorem run_append_empty {P : Program} (w : World) (t ty e : TypeId) (i : TypeInfo) (ht : P.underlying t = some (.slice e)) (hi : P.info? e = some i) (b : Addr) (n cap : Nat) (q : Option Addr) (c : Nat) (hn : n ≤ cap) :
    (Builtin.append_ #[t, t] ty #[.slice (some b) n cap, .slice q 0 c]).run P w = .ok (.slice (some b) n cap) w := by
  cases q with
  | none => simp [Builtin.append_, run_underlying ht, sizeOf, typeInfo, hi, Builtin.lenOf, hn, Builtin.firstCells, storeCells]
  | some a => simp [Builtin.append_, run_underlying ht, sizeOf, typeInfo, hi, Builtin.lenOf, hn, Builtin.firstCells, storeCells, loadCells, loadCellsFrom]
theorem wpList_append_empty {P : Program} {w : World} {ops : Array Oper} {rest : List Oper} {o : Oper} {a : Act} {Q : Exit → Act → World → Prop} (hgd : o.guard = none) (s x : Operand) (t : TypeId)
    (ho : o.op = .call { callee := .builtin .append, args := #[s, x], argTypes := #[t, t] })
    (e : TypeId) (i : TypeInfo) (ht : P.underlying t = some (.slice e)) (hi : P.info? e = some i) (b : Addr) (n cap : Nat) (q : Option Addr) (c : Nat) (hs : a.eval s = .slice (some b) n cap) (hx : a.eval x = .slice q 0 c) (hn : n ≤ cap)
    (h : wpList P ops Q rest (a.put o.dst (.slice (some b) n cap)) w) : wpList P ops Q (o :: rest) a w :=
  wpList_plain hgd fun K hK => by
    unfold Oper.wp execOp
    simp only [ho, resolve, invoke, builtin, Sem.run_bind, Sem.run_pure, Result.andThen_ok, List.map_toArray, List.map_cons, List.map_nil, hs, hx, run_append_empty (P := P) w t o.type e i ht hi b n cap q c hn]
    exact hK _ _ h
/-- Bytes appended to an own row of bytes. -/
theorem wpList_pushB {wr : World} {ops : Array Oper} {rest : List Oper} {o : Oper} {a : Act} {Q : Exit → Act → World → Prop} (hgd : o.guard = none) (s x : Operand)
    (ho : o.op = .call { callee := .builtin .append, args := #[s, x], argTypes := #[28, 28] })
    (base : Nat) (v : Value) (l y : List Nat) (q : Option Addr) (c : Nat) (hown : ownsB wr base v l) (hq : cellsB wr q y) (hy : y ≠ []) (hs : a.eval s = v) (n : Nat) (hn : n = y.length) (hx : a.eval x = .slice q n c) (hlen : l.length ≤ 1000000) (hlen2 : y.length ≤ 1000000) (hbase : base ≤ wr.heap.size)
    (h : ∀ v' w', ownsB w' base v' (l ++ y) → Below base wr w' → wpList Try.prog ops Q rest (a.put o.dst v') w') : wpList Try.prog ops Q (o :: rest) a wr := by
  subst hn
  obtain ⟨i0, hi, hz0, hz1, hz2⟩ := info_parts Try.infoB
  obtain ⟨a0, o0, rfl, _⟩ := hq 0 (List.length_pos_iff.2 hy)
  refine wpList_append_own wr hgd s x 28 ho base 5 i0 (.int .u8 0) 1 1 Try.underlying28 hi hz0 hz1 hz2 rfl (by decide) v l.length (l.map fun x => Value.int .u8 (x : Nat)) hs hown
    ⟨a0, o0, none⟩ y.length c (y.map fun x => Value.int .u8 (x : Nat)) hx (by simp) ?_ ?_ ?_ ?_ hbase ?_
  · intro j u hj
    rw [List.getElem?_map] at hj
    have hlt : j < y.length := by
      by_cases h : j < y.length
      · exact h
      · rw [List.getElem?_eq_none (by omega)] at hj; simp at hj
    obtain ⟨a', o', e, hc⟩ := hq j hlt
    simp only [Option.some.injEq, Addr.mk.injEq] at e
    obtain ⟨rfl, rfl, _⟩ := e
    rw [List.getElem?_eq_getElem hlt] at hj
    simp only [Option.map_some, Option.some.injEq] at hj
    subst hj
    rw [getD_of y j hlt] at hc
    rw [show (⟨a0, o0, none⟩ : Addr).add j = ⟨a0, o0 + j, none⟩ from by simp [Addr.add]]
    exact hc
  · intro u hu; rw [List.mem_map] at hu; obtain ⟨x, _, rfl⟩ := hu; rfl
  · unfold maxLen; omega
  · omega
  · intro v' w' h2 h3 _
    refine h v' w' ?_ ?_
    · unfold ownsB; rw [List.length_append, List.map_append]; exact h2
    · refine ((Below.refl _ wr).mono hbase).grown h3 hbase ?_
      intro b hb
      rcases hown.2 with ⟨h4, _⟩ | ⟨g', cap, cur, h4, h5, _⟩
      · rw [h4] at hb; simp [Value.ownBlock] at hb
      · rw [h4] at hb; simp only [Value.ownBlock, Option.some.injEq] at hb; omega

theorem run_append_zeros_nil {P : Program} (w : World) (t u ty e : TypeId) (i : TypeInfo) (z : Value) (ku : IntKind) (ht : P.underlying t = some (.slice e)) (hu : P.underlying u = some (.int ku)) (hi : P.info? e = some i) (hz : i.zero = some z)
    (hsize : i.size = 1) (hby : i.bytes = 1) (hzs : z.cells = #[z]) (k : Nat) (hk0 : 0 < k) (h63 : k ≤ 70000000000000) :
    ∃ cap cur, (Builtin.append_ #[t, u] ty #[.slice none 0 0, .int .i64 k]).run P w = .ok (.slice (some ⟨w.heap.size, 0, none⟩) k cap) (w.drew.alloc (.cells cur e)) ∧ cap ≤ maxLen ∧ cur.size = cap := by
  have hk : IntKind.i64.wrap (k : Int) = (k : Int) := by rw [IntKind.wrap_i64]; omega
  have hk0' : ¬ ((k : Int) < 0) := by omega
  have hk1 : ¬ (281474976710656 < (k : Int)) := by omega
  have hmax : k ≤ maxLen := by unfold maxLen; omega
  have hge := grownCap_ge w k 0 e
  have hcm : grownCap w k 0 e ≤ maxLen := grownCap_le_maxLen w k 0 e hmax
  have hk00 : k ≠ 0 := by omega
  have hn0 : ¬ (k ≤ 0) := by omega
  have h63' : ¬ (9223372036854775807 < (k : Int)) := by omega
  have h48' : ¬ (281474976710656 < Builtin.nextslicecap k 0) := by rw [nextslicecap_zero hk0]; omega
  refine ⟨grownCap w k 0 e, (List.replicate k z).toArray ++ Builtin.zeroCells #[z] (grownCap w k 0 e - k), ?_, hcm, ?_⟩
  · simp [Builtin.append_, run_underlying ht, run_underlying hu, sizeOf, typeInfo, zeroValue, asInt, asIntOf, hi, hz, hzs, hsize, hby, hk, hk0', hk1, hk00, zeroCells_one, h63', h48', Question.forced, run_firstCells_none, newRow, grownCap]
  · simp only [Array.size_append, List.size_toArray, size_zeroCells, List.length_replicate]
    show k + (grownCap w k 0 e - k) * 1 = _
    omega
theorem wpList_append_zeros_nil {P : Program} {w : World} {ops : Array Oper} {rest : List Oper} {o : Oper} {a : Act} {Q : Exit → Act → World → Prop} (hgd : o.guard = none) (s x : Operand) (t u : TypeId)
    (ho : o.op = .call { callee := .builtin .append, args := #[s, x], argTypes := #[t, u] })
    (e : TypeId) (i : TypeInfo) (z : Value) (ku : IntKind) (ht : P.underlying t = some (.slice e)) (hu : P.underlying u = some (.int ku)) (hi : P.info? e = some i) (hz : i.zero = some z)
    (hsize : i.size = 1) (hby : i.bytes = 1) (hzs : z.cells = #[z]) (hs : a.eval s = .slice none 0 0) (k : Nat) (hx : a.eval x = .int .i64 k) (hk0 : 0 < k) (h63 : k ≤ 70000000000000)
    (h : ∀ cap cur, cap ≤ maxLen → cur.size = cap → k ≤ cap → wpList P ops Q rest (a.put o.dst (.slice (some ⟨w.heap.size, 0, none⟩) k cap)) (w.drew.alloc (.cells cur e))) : wpList P ops Q (o :: rest) a w :=
  wpList_plain hgd fun K hK => by
    obtain ⟨cap, cur, hr, h2, h3⟩ := run_append_zeros_nil (P := P) w t u o.type e i z ku ht hu hi hz hsize hby hzs k hk0 h63
    have hge : k ≤ cap := by
      have hk : IntKind.i64.wrap (k : Int) = (k : Int) := by rw [IntKind.wrap_i64]; omega
      have := grownCap_ge w k 0 e
      have hk0' : ¬ ((k : Int) < 0) := by omega
      have hk1 : ¬ (281474976710656 < (k : Int)) := by omega
      have hk00 : k ≠ 0 := by omega
      have h63' : ¬ (9223372036854775807 < (k : Int)) := by omega
      have h48' : ¬ (281474976710656 < Builtin.nextslicecap k 0) := by rw [nextslicecap_zero hk0]; omega
      have hr2 := hr
      simp [Builtin.append_, run_underlying ht, run_underlying hu, sizeOf, typeInfo, zeroValue, asInt, asIntOf, hi, hz, hzs, hsize, hby, hk, hk0', hk1, hk00, zeroCells_one, h63', h48', Question.forced, run_firstCells_none, newRow, grownCap] at hr2
      have h9 := hr2.1
      unfold grownCap at this
      omega
    unfold Oper.wp execOp
    simp only [ho, resolve, invoke, builtin, Sem.run_bind, Sem.run_pure, Result.andThen_ok, List.map_toArray, List.map_cons, List.map_nil, hs, hx, hr]
    exact hK _ _ (h cap cur h2 h3 hge)

set_option maxHeartbeats 1000000 in
set_option maxRecDepth 100000 in
theorem sl_Grow (n : Nat) (w : World) (hn : n ≤ 1000000) :
    Calls Try.prog 71 #[.slice none 0 0, .int .i64 n] w fun e w' => ∃ v, e = .returned v ∧ ownsB w' w.heap.size v [] ∧ Below w.heap.size w w' := by
  obtain ⟨i0, hi, hz0, hz1, hz2⟩ := info_parts Try.infoB
  have hw : IntKind.i64.wrap (n : Int) = (n : Int) := by rw [IntKind.wrap_i64]; omega
  (go_enter Try.func71, Try.ntmps71; try simp only [List.append])
  by_cases h0 : n = 0
  · subst h0
    go_wp2_with ((with_reducible refine wpList_unguard ?_ ?_); (focus rfl))
    go_ret
    exact ⟨_, rfl, World.ownsRow_nil _ _ _ _, Below.refl _ _⟩
  · have hpos : 0 < n := by omega
    have hd : decide (0 < (n : Int)) = true := decide_eq_true (by omega)
    go_wp2_with (at_builtin; refine wpList_append_zeros_nil rfl _ _ 28 3 rfl 5 i0 (.int .u8 0) .i64 Try.underlying28 Try.underlying3 hi hz0 hz1 hz2 rfl rfl n rfl hpos (by omega) ?_)
    intro cap cur hcm hcs hge
    have hO : Hid (ownsB (w.drew.alloc (.cells cur 5)) w.heap.size (.slice (some ⟨w.heap.size, 0, none⟩) 0 cap) []) :=
      ⟨rfl, .inr ⟨w.heap.size, cap, cur, rfl, Nat.le_refl _, heap_alloc_new w.drew _, Nat.zero_le _, hcm, by rw [hcs, Nat.mul_one], by simp⟩⟩
    have hB : Hid (Below w.heap.size w (w.drew.alloc (.cells cur 5))) := (Below.refl _ _).drew.alloc (Nat.le_refl _) _
    have hcap0 : (0 : Int) ≤ (cap : Int) := by omega
    go_wp2_with ((with_reducible refine wpList_unguard ?_ ?_); (focus rfl))
    go_ret
    exact ⟨_, rfl, hO.out, hB.out⟩
end Go.Proofs.Ytlipedigmokgbaa
