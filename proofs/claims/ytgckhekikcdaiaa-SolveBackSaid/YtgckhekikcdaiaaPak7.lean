/-
  slices.ContainsFunc in the program.
  append of new noughts onto an own row of bytes; the shift of a polynomial in the program. Conditions: polynomials of at most 1000000 bytes.
  slices.Grow and slices.Concat (of rows that are not empty) in the program; append of nothing, and of a row's bytes.
  search of the solver (Berlekamp and Massey, as the program goes on).
  rs.Size and Over of a code that is there; Within; slices.ContainsFunc of ints by solve.by's closure.
  A region that draws its order, whose operations read, and whose calls keep a class of worlds: one walk in the order of the text.
  A region that draws its order: its first operations read (and call what keeps a class of worlds), those behind them each wait for all before: one walk in the order of the text, the last ones as in a region that draws nothing.
-/
import Derived.Test.YtgckhekikcdaiaaPak6
import Derived.Test.YtgckhekikcdaiaaPak2
import Derived.Test.YtgckhekikcdaiaaPak5
import Derived.Deep.QuietTactic
import Derived.BigQuiet
namespace Go.Proofs.Ytgckhekikcdaiaa
open Go.RowKit Tri
set_option maxHeartbeats 400000 in
set_option maxRecDepth 100000 in
theorem sl_ContainsFunc (p : Option Addr) (n c : Nat) (l : List Nat) (w : World) (hn : n = l.length) (hp : cellsB w p l) (hl : l.length ≤ 1000000) :
    Calls Try.prog 40 #[.slice p n c, .func (.func 41) #[] #[]] w
      fun e w' => e = .returned (.bool (!(l.all fun y => decide (y = 0)))) ∧ w = w' := by
  subst hn
  have HPP := hid hp
  have hf : Hid (decide (firstNz l < l.length) = !(l.all fun y => decide (y = 0))) := firstNz_all l
  have hi : Hid (idxNz l = if firstNz l < l.length then (firstNz l : Int) else -1) := rfl
  clear hp
  generalize (!(l.all fun y => decide (y = 0))) = b at *
  go_enter Try.func40, Try.ntmps40
  go_wp2_with ((with_reducible refine wpList_unguard ?_ ?_); (focus rfl))
  refine Calls.mono (sl_IndexFuncR p _ c l w rfl HPP.out hl) ?_; rintro e w' ⟨rfl, rfl⟩
  by_cases h : firstNz l < l.length
  · have hb : b = true := by rw [← hf.out]; exact decide_eq_true h
    rw [hi.out, if_pos h]
    subst hb
    generalize firstNz l = k at *
    go_wp2_with ((with_reducible refine wpList_unguard ?_ ?_); (focus rfl))
    go_ret
    exact ⟨rfl, rfl⟩
  · have hb : b = false := by rw [← hf.out]; exact decide_eq_false h
    rw [hi.out, if_neg h]
    subst hb
    go_wp2_with ((with_reducible refine wpList_unguard ?_ ?_); (focus rfl))
    go_ret
    exact ⟨rfl, rfl⟩


set_option maxHeartbeats 1000000 in
set_option maxRecDepth 100000 in
theorem rs_Syndromes_bad (c f n k : Nat) (p : Option Addr) (m d : Nat) (w : World) (hR : isR w c f n k) (hm : m ≠ n) (_hn : n ≤ 255) (hmm : m ≤ 140737488351232) :
    Calls Try.prog 39 #[.pointer (some ⟨c, 0, none⟩), .slice p m d] w fun e w' => e = .returned (.tuple #[.slice none 0 0, .int .i64 1]) ∧ w = w' := by
  have c1 := hR.n
  have hne : ((m : Int) != (n : Int)) = true := by rw [bne_iff_ne]; omega
  have hne' : (m != n) = true := by rw [bne_iff_ne]; omega
  clear hR hm
  (go_enter Try.func39, Try.ntmps39; try simp only [List.append])
  go_wp2_with ((with_reducible refine wpList_unguard ?_ ?_); (focus rfl))
  refine bodyPost_ret (v := .tuple #[.slice none 0 0, .int .i64 1]) (by simp [results, Try.results39, go_sem]) rfl ⟨rfl, rfl⟩
set_option maxHeartbeats 1000000 in
set_option maxRecDepth 100000 in
theorem rs_Syndromes_nil (p : Option Addr) (m d : Nat) (w : World) :
    Calls Try.prog 39 #[.pointer none, .slice p m d] w fun e w' => e = .returned (.tuple #[.slice none 0 0, .int .i64 1]) ∧ w = w' := by
  (go_enter Try.func39, Try.ntmps39; try simp only [List.append])
  go_wp2_with ((with_reducible refine wpList_unguard ?_ ?_); (focus rfl))
  refine bodyPost_ret (v := .tuple #[.slice none 0 0, .int .i64 1]) (by simp [results, Try.results39, go_sem]) rfl ⟨rfl, rfl⟩
set_option maxHeartbeats 1000000 in
set_option maxRecDepth 100000 in
theorem rs_Right (c f n k : Nat) (p : Option Addr) (m d : Nat) (word : List Nat) (w : World) (hR : isR w c f n k) (hk : k < n) (hn : n ≤ 255) (hm : m = word.length) (hp : cellsB w p word) (hb : bytesL word) (hl : word.length = n) :
    Calls Try.prog 17 #[.pointer (some ⟨c, 0, none⟩), .slice p m d] w fun e w' => e = .returned (.bool (rightB word (n - k))) ∧ Below w.heap.size w w' := by
  subst hm
  have HR := hid hR
  have HP := hid hp
  have HB := hid hb
  have HL := hid hl
  have hsl6 : (synd word (n - k)).length ≤ 1000000 := by have := synd_length word (n - k); omega
  have HRB : Hid (rightB word (n - k) = (synd word (n - k)).all fun y => decide (y = 0)) := rfl
  clear hR hp hb hl
  generalize hrb : rightB word (n - k) = b at *
  have HRb := hid hrb
  clear hrb
  (go_enter Try.func17, Try.ntmps17; try simp only [List.append])
  go_wp2_with ((with_reducible refine wpList_unguard ?_ ?_); (focus rfl))
  refine Calls.mono (rs_Syndromes c f n k p _ d word w HR.out hk hn rfl HP.out HB.out HL.out) ?_
  rintro e w1 ⟨v, rfl, hO, hbel⟩
  obtain ⟨p1, c1, rfl, hc1⟩ := hO.cells
  have HC := hid hc1
  have HBel := hid hbel
  clear hO hc1 hbel
  go_wp2_with ((with_reducible refine wpList_unguard ?_ ?_); (focus rfl))
  refine Calls.mono (sl_ContainsFunc p1 _ c1 (synd word (n - k)) w1 rfl HC.out hsl6) ?_
  rintro e w' ⟨rfl, rfl⟩
  rw [← HRB.out]
  cases b with
  | true =>
    go_wp2_with ((with_reducible refine wpList_unguard ?_ ?_); (focus rfl))
    go_ret
    exact ⟨rfl, HBel.out⟩
  | false =>
    go_wp2_with ((with_reducible refine wpList_unguard ?_ ?_); (focus rfl))
    go_ret
    exact ⟨rfl, HBel.out⟩
set_option maxHeartbeats 1000000 in
set_option maxRecDepth 100000 in
theorem rs_Right_bad (c f n k : Nat) (p : Option Addr) (m d : Nat) (w : World) (hR : isR w c f n k) (hm : m ≠ n) (hn : n ≤ 255) (hmm : m ≤ 140737488351232) :
    Calls Try.prog 17 #[.pointer (some ⟨c, 0, none⟩), .slice p m d] w fun e w' => e = .returned (.bool false) ∧ w = w' := by
  have HR := hid hR
  have HM := hid hm
  clear hR hm
  (go_enter Try.func17, Try.ntmps17; try simp only [List.append])
  go_wp2_with ((with_reducible refine wpList_unguard ?_ ?_); (focus rfl))
  refine Calls.mono (rs_Syndromes_bad c f n k p m d w HR.out HM.out hn hmm) ?_
  rintro e w1 ⟨rfl, rfl⟩
  go_wp2_with ((with_reducible refine wpList_unguard ?_ ?_); (focus rfl))
  go_ret
  exact ⟨rfl, rfl⟩
set_option maxHeartbeats 1000000 in
set_option maxRecDepth 100000 in
theorem rs_Right_nil (p : Option Addr) (m d : Nat) (w : World) :
    Calls Try.prog 17 #[.pointer none, .slice p m d] w fun e w' => e = .returned (.bool false) ∧ w = w' := by
  (go_enter Try.func17, Try.ntmps17; try simp only [List.append])
  go_wp2_with ((with_reducible refine wpList_unguard ?_ ?_); (focus rfl))
  refine Calls.mono (rs_Syndromes_nil p m d w) ?_
  rintro e w1 ⟨rfl, rfl⟩
  go_wp2_with ((with_reducible refine wpList_unguard ?_ ?_); (focus rfl))
  go_ret
  exact ⟨rfl, rfl⟩
end Go.Proofs.Ytgckhekikcdaiaa

namespace Go.Proofs.Ytgckhekikcdaiaa
open Go.RowKit Tri

theorem zeroCells_one (z : Value) (k : Nat) : Builtin.zeroCells #[z] k = (List.replicate k z).toArray := by
  unfold Builtin.zeroCells
  apply Array.ext
  · simp
  · intro i h1 h2; simp [Nat.mod_one]

theorem run_append_zeros {P : Program} (w : World) (base : Nat) (t u ty e : TypeId) (i : TypeInfo) (z : Value) (ku : IntKind) (ht : P.underlying t = some (.slice e)) (hu : P.underlying u = some (.int ku)) (hi : P.info? e = some i) (hz : i.zero = some z)
    (hsize : i.size = 1) (hby : i.bytes = 1) (hzs : z.cells = #[z]) (hz1 : z.oneCell' = true)
    (v : Value) (n : Nat) (xs : List Value) (hown : w.ownsRow base e 1 v n xs) (hv : v ≠ .slice none 0 0) (k : Nat) (h63 : n + k ≤ 70000000000000) (hbase : base ≤ w.heap.size) :
    ∃ v' w', (Builtin.append_ #[t, u] ty #[v, .int .i64 k]).run P w = .ok v' w' ∧ w'.ownsRow base e 1 v' (n + k) (xs ++ List.replicate k z) ∧ w.grownBy w' v.ownBlock := by
  have hk : IntKind.i64.wrap (k : Int) = (k : Int) := by rw [IntKind.wrap_i64]; omega
  have hk0 : ¬ ((k : Int) < 0) := by omega
  have hk1 : ¬ (281474976710656 < (k : Int)) := by omega
  have hlen : (xs ++ List.replicate k z).length = (n + k) * 1 := by rw [List.length_append, hown.1, List.length_replicate]; omega
  have hmax : n + k ≤ maxLen := by unfold maxLen; omega
  rcases hown.2 with ⟨h, _⟩ | ⟨g, cap, cur, rfl, hbg, hg, hnc, hcm, hcs, htake⟩
  · exact absurd h hv
  · have hxl : xs.length = n := by simpa using hown.1
    by_cases hroom : n + k ≤ cap
    · have hst := run_storeCells_at P g n e (List.replicate k z) 0 cur w hg (by rw [List.length_replicate, hcs]; omega) (by intro u hu; rw [List.mem_replicate] at hu; rw [hu.2]; exact hz1)
      simp only [Nat.add_zero] at hst
      refine ⟨_, _, ?_, ⟨hlen, .inr ⟨g, cap, _, rfl, hbg, setRow_heap w g cur (cur.toList.take n ++ List.replicate k z ++ cur.toList.drop (n + k)).toArray e _ hg, hroom, hcm, ?_, ?_⟩⟩, ⟨rfl, rfl, rfl, by simp, fun k' _ hk' => setRow_other w g k' _ (fun e => hk' (by simp [Value.ownBlock, e]))⟩⟩
      · by_cases hk00 : k = 0
        · subst hk00
          simp only [List.replicate_zero] at hst
          have hk' : IntKind.i64.wrap 0 = 0 := by decide
          simp [Builtin.append_, run_underlying ht, run_underlying hu, sizeOf, typeInfo, asInt, asIntOf, hi, hsize, hby, hk', show n ≤ cap from hroom, Addr.add_lit, hst]
        · simp [Builtin.append_, run_underlying ht, run_underlying hu, sizeOf, typeInfo, zeroValue, asInt, asIntOf, hi, hz, hzs, hsize, hby, hk, hk0, hk1, hroom, Addr.add_lit, hst, zeroCells_one, hk00]
      · simp only [List.size_toArray, List.length_append, List.length_take, List.length_drop, Array.length_toList, List.length_replicate]
        omega
      · have h1 : cur.toList.take n = xs := by rw [← htake, Nat.mul_one]
        rw [h1, ← hlen]
        exact List.take_left
    · have holds : ∀ j u, xs[j]? = some u → w.cell? ((⟨g, 0, none⟩ : Addr).add j) = some u := hown.cells (g := g) rfl
      have hge := grownCap_ge w (n + k) cap e
      have hcm : grownCap w (n + k) cap e ≤ maxLen := grownCap_le_maxLen w (n + k) cap e hmax
      have hfo := run_firstCells_some (P := P) w.drew 1 n ⟨g, 0, none⟩ n cap xs hown.1 (by simpa using holds)
      have hk00 : k ≠ 0 := by omega
      have h63' : ¬ (9223372036854775807 < ((n : Int) + (k : Int))) := by omega
      have h48' : ¬ (281474976710656 < Builtin.nextslicecap (n + k) cap) := by
        have := growslice_fits (need := n + k) (old := cap) (bytes := 1) (by omega) (by omega)
        omega
      refine ⟨.slice (some ⟨w.heap.size, 0, none⟩) (n + k) (grownCap w (n + k) cap e), w.drew.alloc (.cells (xs.toArray ++ (List.replicate k z).toArray ++ Builtin.zeroCells #[z] (grownCap w (n + k) cap e - (n + k))) e), ?_,
        ⟨hlen, .inr ⟨w.heap.size, _, _, rfl, hbase, heap_alloc_new w.drew _, hge, hcm, ?_, ?_⟩⟩, ⟨rfl, rfl, rfl, by simp, fun k' hk' _ => heap_alloc_old w.drew _ hk'⟩⟩
      · simp [Builtin.append_, run_underlying ht, run_underlying hu, sizeOf, typeInfo, zeroValue, asInt, asIntOf, hi, hz, hzs, hsize, hby, hk, hk0, hk1, hroom, zeroCells_one, hk00, h63', h48', Question.forced, hfo, newRow, grownCap]
      · simp only [Array.size_append, List.size_toArray, size_zeroCells, List.length_replicate, hxl]
        show n + k + (grownCap w (n + k) cap e - (n + k)) * 1 = _
        omega
      · simp only [Array.toList_append, List.append_assoc]
        rw [← List.append_assoc, ← hlen]
        exact List.take_left

theorem wpList_append_zeros {P : Program} {w : World} {ops : Array Oper} {rest : List Oper} {o : Oper} {a : Act} {Q : Exit → Act → World → Prop} (hgd : o.guard = none) (s x : Operand) (t u : TypeId)
    (ho : o.op = .call { callee := .builtin .append, args := #[s, x], argTypes := #[t, u] })
    (base : Nat) (e : TypeId) (i : TypeInfo) (z : Value) (ku : IntKind) (ht : P.underlying t = some (.slice e)) (hu : P.underlying u = some (.int ku)) (hi : P.info? e = some i) (hz : i.zero = some z)
    (hsize : i.size = 1) (hby : i.bytes = 1) (hzs : z.cells = #[z]) (hz1 : z.oneCell' = true)
    (v : Value) (n : Nat) (xs : List Value) (hs : a.eval s = v) (hown : w.ownsRow base e 1 v n xs) (hv : v ≠ .slice none 0 0) (k : Nat) (hx : a.eval x = .int .i64 k) (h63 : n + k ≤ 70000000000000) (hbase : base ≤ w.heap.size)
    (h : ∀ v' w', w'.ownsRow base e 1 v' (n + k) (xs ++ List.replicate k z) → w.grownBy w' v.ownBlock → wpList P ops Q rest (a.put o.dst v') w') : wpList P ops Q (o :: rest) a w :=
  wpList_plain hgd fun K hK => by
    obtain ⟨v', w', hr, h2, h3⟩ := run_append_zeros (P := P) w base t u o.type e i z ku ht hu hi hz hsize hby hzs hz1 v n xs hown hv k h63 hbase
    unfold Oper.wp execOp
    simp only [ho, resolve, invoke, builtin, Sem.run_bind, Sem.run_pure, Result.andThen_ok, List.map_toArray, List.map_cons, List.map_nil, hs, hx, hr]
    exact hK _ _ (h v' w' h2 h3)
end Go.Proofs.Ytgckhekikcdaiaa

namespace Go.Proofs.Ytgckhekikcdaiaa
open Go.RowKit Tri

theorem run_append_empty {P : Program} (w : World) (t ty e : TypeId) (i : TypeInfo) (ht : P.underlying t = some (.slice e)) (hi : P.info? e = some i) (b : Addr) (n cap : Nat) (q : Option Addr) (c : Nat) (hn : n ≤ cap) :
    (Builtin.append_ #[t, t] ty #[.slice (some b) n cap, .slice q 0 c]).run P w = .ok (.slice (some b) n cap) w := by
  cases q with
  | none => simp [Builtin.append_, run_underlying ht, sizeOf, typeInfo, hi, Builtin.lenOf, hn, Builtin.firstCells, storeCells]
  | some a => simp [Builtin.append_, run_underlying ht, sizeOf, typeInfo, hi, Builtin.lenOf, hn, Builtin.firstCells, storeCells, loadCells, loadCellsFrom]
theorem wpList_append_empty {P : Program} {w : World} {ops : Array Oper} {rest : List Oper} {o : Oper} {a : Act} {Q : Exit → Act → World → Prop} (hgd : o.guard = none) (s x : Operand) (t : TypeId)
    (ho : o.op = .call { callee := .builtin .append, args := #[s, x], argTypes := #[t, t] })
    (e : TypeId) (i : TypeInfo) (ht : P.underlying t = some (.slice e)) (hi : P.info? e = some i) (b : Addr) (n cap : Nat) (q : Option Addr) (c : Nat) (hs : a.eval s = .slice (some b) n cap) (hx : a.eval x = .slice q 0 c) (hn : n ≤ cap)
    (h : wpList P ops Q rest (a.put o.dst (.slice (some b) n cap)) w) : wpList P ops Q (o :: rest) a w :=
  wpList_plain hgd fun K hK => by
    unfold Oper.wp execOp
    simp only [ho, resolve, invoke, builtin, Sem.run_bind, Sem.run_pure, Result.andThen_ok, List.map_toArray, List.map_cons, List.map_nil, hs, hx, run_append_empty (P := P) w t o.type e i ht hi b n cap q c hn]
    exact hK _ _ h
/-- Bytes appended to an own row of bytes. -/
theorem wpList_pushB {wr : World} {ops : Array Oper} {rest : List Oper} {o : Oper} {a : Act} {Q : Exit → Act → World → Prop} (hgd : o.guard = none) (s x : Operand)
    (ho : o.op = .call { callee := .builtin .append, args := #[s, x], argTypes := #[22, 22] })
    (base : Nat) (v : Value) (l y : List Nat) (q : Option Addr) (c : Nat) (hown : ownsB wr base v l) (hq : cellsB wr q y) (hy : y ≠ []) (hs : a.eval s = v) (n : Nat) (hn : n = y.length) (hx : a.eval x = .slice q n c) (hlen : l.length ≤ 1000000) (hlen2 : y.length ≤ 1000000) (hbase : base ≤ wr.heap.size)
    (h : ∀ v' w', ownsB w' base v' (l ++ y) → Below base wr w' → wpList Try.prog ops Q rest (a.put o.dst v') w') : wpList Try.prog ops Q (o :: rest) a wr := by
  subst hn
  obtain ⟨i0, hi, hz0, hz1, hz2⟩ := info_parts Try.infoB
  obtain ⟨a0, o0, rfl, _⟩ := hq 0 (List.length_pos_iff.2 hy)
  refine wpList_append_own wr hgd s x 22 ho base 5 i0 (.int .u8 0) 1 1 Try.underlying22 hi hz0 hz1 hz2 rfl (by decide) v l.length (l.map fun x => Value.int .u8 (x : Nat)) hs hown
    ⟨a0, o0, none⟩ y.length c (y.map fun x => Value.int .u8 (x : Nat)) hx (by simp) ?_ ?_ ?_ ?_ hbase ?_
  · intro j u hj
    rw [List.getElem?_map] at hj
    have hlt : j < y.length := by
      by_cases h : j < y.length
      · exact h
      · rw [List.getElem?_eq_none (by omega)] at hj; simp at hj
    obtain ⟨a', o', e, hc⟩ := hq j hlt
    simp only [Option.some.injEq, Addr.mk.injEq] at e
    obtain ⟨rfl, rfl, _⟩ := e
    rw [List.getElem?_eq_getElem hlt] at hj
    simp only [Option.map_some, Option.some.injEq] at hj
    subst hj
    rw [getD_of y j hlt] at hc
    rw [show (⟨a0, o0, none⟩ : Addr).add j = ⟨a0, o0 + j, none⟩ from by simp [Addr.add]]
    exact hc
  · intro u hu; rw [List.mem_map] at hu; obtain ⟨x, _, rfl⟩ := hu; rfl
  · unfold maxLen; omega
  · omega
  · intro v' w' h2 h3 _
    refine h v' w' ?_ ?_
    · unfold ownsB; rw [List.length_append, List.map_append]; exact h2
    · refine ((Below.refl _ wr).mono hbase).grown h3 hbase ?_
      intro b hb
      rcases hown.2 with ⟨h4, _⟩ | ⟨g', cap, cur, h4, h5, _⟩
      · rw [h4] at hb; simp [Value.ownBlock] at hb
      · rw [h4] at hb; simp only [Value.ownBlock, Option.some.injEq] at hb; omega

theorem run_append_zeros_nil {P : Program} (w : World) (t u ty e : TypeId) (i : TypeInfo) (z : Value) (ku : IntKind) (ht : P.underlying t = some (.slice e)) (hu : P.underlying u = some (.int ku)) (hi : P.info? e = some i) (hz : i.zero = some z)
    (hsize : i.size = 1) (hby : i.bytes = 1) (hzs : z.cells = #[z]) (k : Nat) (hk0 : 0 < k) (h63 : k ≤ 70000000000000) :
    ∃ cap cur, (Builtin.append_ #[t, u] ty #[.slice none 0 0, .int .i64 k]).run P w = .ok (.slice (some ⟨w.heap.size, 0, none⟩) k cap) (w.drew.alloc (.cells cur e)) ∧ cap ≤ maxLen ∧ cur.size = cap := by
  have hk : IntKind.i64.wrap (k : Int) = (k : Int) := by rw [IntKind.wrap_i64]; omega
  have hk0' : ¬ ((k : Int) < 0) := by omega
  have hk1 : ¬ (281474976710656 < (k : Int)) := by omega
  have hmax : k ≤ maxLen := by unfold maxLen; omega
  have hge := grownCap_ge w k 0 e
  have hcm : grownCap w k 0 e ≤ maxLen := grownCap_le_maxLen w k 0 e hmax
  have hk00 : k ≠ 0 := by omega
  have hn0 : ¬ (k ≤ 0) := by omega
  have h63' : ¬ (9223372036854775807 < (k : Int)) := by omega
  have h48' : ¬ (281474976710656 < Builtin.nextslicecap k 0) := by rw [nextslicecap_zero hk0]; omega
  refine ⟨grownCap w k 0 e, (List.replicate k z).toArray ++ Builtin.zeroCells #[z] (grownCap w k 0 e - k), ?_, hcm, ?_⟩
  · simp [Builtin.append_, run_underlying ht, run_underlying hu, sizeOf, typeInfo, zeroValue, asInt, asIntOf, hi, hz, hzs, hsize, hby, hk, hk0', hk1, hk00, zeroCells_one, h63', h48', Question.forced, run_firstCells_none, newRow, grownCap]
  · simp only [Array.size_append, List.size_toArray, size_zeroCells, List.length_replicate]
    show k + (grownCap w k 0 e - k) * 1 = _
    omega
theorem wpList_append_zeros_nil {P : Program} {w : World} {ops : Array Oper} {rest : List Oper} {o : Oper} {a : Act} {Q : Exit → Act → World → Prop} (hgd : o.guard = none) (s x : Operand) (t u : TypeId)
    (ho : o.op = .call { callee := .builtin .append, args := #[s, x], argTypes := #[t, u] })
    (e : TypeId) (i : TypeInfo) (z : Value) (ku : IntKind) (ht : P.underlying t = some (.slice e)) (hu : P.underlying u = some (.int ku)) (hi : P.info? e = some i) (hz : i.zero = some z)
    (hsize : i.size = 1) (hby : i.bytes = 1) (hzs : z.cells = #[z]) (hs : a.eval s = .slice none 0 0) (k : Nat) (hx : a.eval x = .int .i64 k) (hk0 : 0 < k) (h63 : k ≤ 70000000000000)
    (h : ∀ cap cur, cap ≤ maxLen → cur.size = cap → k ≤ cap → wpList P ops Q rest (a.put o.dst (.slice (some ⟨w.heap.size, 0, none⟩) k cap)) (w.drew.alloc (.cells cur e))) : wpList P ops Q (o :: rest) a w :=
  wpList_plain hgd fun K hK => by
    obtain ⟨cap, cur, hr, h2, h3⟩ := run_append_zeros_nil (P := P) w t u o.type e i z ku ht hu hi hz hsize hby hzs k hk0 h63
    have hge : k ≤ cap := by
      have hk : IntKind.i64.wrap (k : Int) = (k : Int) := by rw [IntKind.wrap_i64]; omega
      have := grownCap_ge w k 0 e
      have hk0' : ¬ ((k : Int) < 0) := by omega
      have hk1 : ¬ (281474976710656 < (k : Int)) := by omega
      have hk00 : k ≠ 0 := by omega
      have h63' : ¬ (9223372036854775807 < (k : Int)) := by omega
      have h48' : ¬ (281474976710656 < Builtin.nextslicecap k 0) := by rw [nextslicecap_zero hk0]; omega
      have hr2 := hr
      simp [Builtin.append_, run_underlying ht, run_underlying hu, sizeOf, typeInfo, zeroValue, asInt, asIntOf, hi, hz, hzs, hsize, hby, hk, hk0', hk1, hk00, zeroCells_one, h63', h48', Question.forced, run_firstCells_none, newRow, grownCap] at hr2
      have h9 := hr2.1
      unfold grownCap at this
      omega
    unfold Oper.wp execOp
    simp only [ho, resolve, invoke, builtin, Sem.run_bind, Sem.run_pure, Result.andThen_ok, List.map_toArray, List.map_cons, List.map_nil, hs, hx, hr]
    exact hK _ _ (h cap cur h2 h3 hge)

set_option maxHeartbeats 1000000 in
set_option maxRecDepth 100000 in
theorem sl_Grow (n : Nat) (w : World) (hn : n ≤ 1000000) :
    Calls Try.prog 61 #[.slice none 0 0, .int .i64 n] w fun e w' => ∃ v, e = .returned v ∧ ownsB w' w.heap.size v [] ∧ Below w.heap.size w w' := by
  obtain ⟨i0, hi, hz0, hz1, hz2⟩ := info_parts Try.infoB
  have hw : IntKind.i64.wrap (n : Int) = (n : Int) := by rw [IntKind.wrap_i64]; omega
  (go_enter Try.func61, Try.ntmps61; try simp only [List.append])
  by_cases h0 : n = 0
  · subst h0
    go_wp2_with ((with_reducible refine wpList_unguard ?_ ?_); (focus rfl))
    go_ret
    exact ⟨_, rfl, World.ownsRow_nil _ _ _ _, Below.refl _ _⟩
  · have hpos : 0 < n := by omega
    have hd : decide (0 < (n : Int)) = true := decide_eq_true (by omega)
    go_wp2_with (at_builtin; refine wpList_append_zeros_nil rfl _ _ 22 3 rfl 5 i0 (.int .u8 0) .i64 Try.underlying22 Try.underlying3 hi hz0 hz1 hz2 rfl rfl n rfl hpos (by omega) ?_)
    intro cap cur hcm hcs hge
    have hO : Hid (ownsB (w.drew.alloc (.cells cur 5)) w.heap.size (.slice (some ⟨w.heap.size, 0, none⟩) 0 cap) []) :=
      ⟨rfl, .inr ⟨w.heap.size, cap, cur, rfl, Nat.le_refl _, heap_alloc_new w.drew _, Nat.zero_le _, hcm, by rw [hcs, Nat.mul_one], by simp⟩⟩
    have hB : Hid (Below w.heap.size w (w.drew.alloc (.cells cur 5))) := (Below.refl _ _).drew.alloc (Nat.le_refl _) _
    have hcap0 : (0 : Int) ≤ (cap : Int) := by omega
    go_wp2_with ((with_reducible refine wpList_unguard ?_ ?_); (focus rfl))
    go_ret
    exact ⟨_, rfl, hO.out, hB.out⟩
end Go.Proofs.Ytgckhekikcdaiaa

namespace Go.Proofs.Ytgckhekikcdaiaa
open Go.RowKit Tri

theorem ownsB.off {w : World} {base V : Nat} {v : Value} {l : List Nat} (h : ownsB w base v l) (hl : l ≠ []) (hV : V < base) : ∃ p c, v = .slice p l.length c ∧ l.length ≤ c ∧ cellsB w p l ∧ offV p V := by
  obtain ⟨g, cap, rfl, hg, hc, hb⟩ := h.buf2 hl
  exact ⟨some ⟨g, 0, none⟩, cap, rfl, hc, hb.1, fun a o s e => by simp only [Option.some.injEq, Addr.mk.injEq] at e; omega⟩
/-- How it stands between two rounds of the search. -/
structure SrI (V f n p0 : Nat) (ps : Option Addr) (ns cs : Nat) (pe : Option Addr) (ne ce : Nat) (x : SrS) (vl vq : Value) (w wr : World) : Prop where
  loc : ∃ pl cl, isS wr V f n p0 (.slice ps ns cs) (.slice pe ne ce) (.slice pl x.loc.length cl) ∧ cellsB wr pl x.loc ∧ offV pl V
  last : ∃ pq cq, vq = .slice pq x.last.length cq ∧ x.last.length ≤ cq ∧ cellsB wr pq x.last ∧ offV pq V
  l : vl = .int .i64 (x.l : Nat)
  out : OutV V w wr
theorem srStep_ne {s : List Nat} {e r : Nat} {x : SrS} (h1 : x.loc ≠ []) (h2 : x.last ≠ []) : (srStep s e r x).loc ≠ [] ∧ (srStep s e r x).last ≠ [] := by
  unfold srStep
  split
  · exact ⟨h1, List.cons_ne_nil _ _⟩
  · split
    · refine ⟨plusL_ne _ _ _, ?_⟩
      intro h
      have := congrArg List.length h
      rw [show (⟨r + e - x.l, plusL x.loc x.last (gapL s x.loc r), scaledL x.loc (inv0 (gapL s x.loc r))⟩ : SrS).last = scaledL x.loc (inv0 (gapL s x.loc r)) from rfl, scaledL_len] at this
      exact h1 (List.eq_nil_of_length_eq_zero this)
    · exact ⟨plusL_ne _ _ _, List.cons_ne_nil _ _⟩
theorem srRun_ne (s : List Nat) (e : Nat) (loc : List Nat) (h : loc ≠ []) : ∀ k, (srRun s e loc k).loc ≠ [] ∧ (srRun s e loc k).last ≠ []
  | 0 => ⟨h, h⟩
  | k + 1 => srStep_ne (srRun_ne s e loc h k).1 (srRun_ne s e loc h k).2
set_option maxHeartbeats 8000000 in
set_option maxRecDepth 100000 in
theorem sol_search (V f n p0 : Nat) (ps : Option Addr) (cs : Nat) (s : List Nat) (pe : Option Addr) (ce e : Nat) (pl : Option Addr) (cl : Nat) (loc : List Nat) (w : World) (hS : isS w V f n p0 (.slice ps s.length cs) (.slice pe e ce) (.slice pl loc.length cl)) (hF : isF w f)
    (hs : cellsB w ps s) (hbs : bytesL s) (hls : s.length ≤ 1000) (hsV : offV ps V) (hl : cellsB w pl loc) (hbl : bytesL loc) (hll : loc.length = e + 1) (hlV : offV pl V) (hep : e ≤ p0) (hp64 : p0 ≤ 64) :
    Calls Try.prog 56 #[.pointer (some ⟨V, 0, none⟩)] w fun e' w' => e' = .returned (.int .i64 ((srRun s e loc (p0 - e)).l : Nat)) ∧ OutV V w w' ∧
      ∃ pl' cl', isS w' V f n p0 (.slice ps s.length cs) (.slice pe e ce) (.slice pl' (srRun s e loc (p0 - e)).loc.length cl') ∧ cellsB w' pl' (srRun s e loc (p0 - e)).loc ∧ offV pl' V := by
  have c2 : w.cell? ⟨V, 2, none⟩ = some (.int .i64 p0) := hS.cell 2 _ rfl
  have c4 : w.cell? ⟨V, 4, none⟩ = some (.slice pe e ce) := hS.cell 4 _ rfl
  have c5 : w.cell? ⟨V, 5, none⟩ = some (.slice pl loc.length cl) := hS.cell 5 _ rfl
  have hVw := hS.lt
  have HS := hid hS
  have HF := hid hF
  have HP := hid hs
  have HBS := hid hbs
  have HSV := hid hsV
  have HL := hid hl
  have HBL := hid hbl
  have HLV := hid hlV
  have HfV : Hid (f ≠ V) := isS_F hS hF
  have hne : loc ≠ [] := fun h => by rw [h] at hll; simp at hll
  have HNE := hid hne
  have HCl := hid (sl_CloneAny pl _ cl loc w rfl hl (by omega) (.inl hne))
  have HLL := hid hll
  clear hll
  clear hS hF hs hbs hsV hl hbl hlV hne
  (go_enter Try.func56, Try.ntmps56; try simp only [List.append])
  go_wp2_with ((with_reducible refine wpList_unguard ?_ ?_); (focus rfl))
  refine Calls.mono HCl.out ?_; rintro e' w1 ⟨v, rfl, hO, hB⟩
  have HI0 : Hid (SrI V f n p0 ps s.length cs pe e ce (srRun s e loc 0) (.int .i64 (e : Nat)) v w w1) := ⟨⟨pl, cl, HS.out.below hB, HL.out.below hB, HLV.out⟩, hO.off HNE.out hVw, rfl, OutV.of hB⟩
  clear hO hB HCl c2 c4 c5
  go_wp2_with ((with_reducible refine wpList_unguard ?_ ?_); (focus rfl))
  go_loopw [6, 4, 5] (fun r vl vq wr => ∃ k : Nat, k ≤ p0 - e ∧ r = .int .i64 ((e + 1 + k : Nat) : Int) ∧ SrI V f n p0 ps s.length cs pe e ce (srRun s e loc k) vl vq w wr) (fun r _ _ _ => p0 + 1 - (intOf r).toNat)
  case atStart => exact ⟨0, Nat.zero_le _, by simp, HI0.out⟩
  case round =>
    clear HI0
    obtain ⟨k, hk, rfl, hI⟩ := hrel
    obtain ⟨⟨pa, ca, hSa, hca, hpa⟩, ⟨pq, cq, rfl, hlq, hcq, hpq⟩, rfl, hO⟩ := hI
    have HS := hid hSa
    have HA := hid hca
    have HPA := hid hpa
    have HQ := hid hcq
    have HPQ := hid hpq
    have HO := hid hO
    obtain ⟨i1, i2, i3, i4, i5⟩ := srRun_inv s e loc HBL.out HLL.out k
    obtain ⟨j1, j2⟩ := srRun_ne s e loc HNE.out k
    have HX : Hid (srRun s e loc (k + 1) = srStep s e (e + 1 + k) (srRun s e loc k)) := rfl
    have HSTOP : Hid (k = p0 - e → srRun s e loc (p0 - e) = srRun s e loc k) := fun h => by rw [h]
    generalize srRun s e loc k = x at *
    obtain ⟨xl, xa, xq⟩ := x
    simp only at i1 i2 i3 i4 i5 j1 j2 hlq
    have HI1 := hid i1
    have HI2 := hid i2
    have HJ1 := hid j1
    have HJ2 := hid j2
    have c2 : wr.cell? ⟨V, 2, none⟩ = some (.int .i64 p0) := HS.out.cell 2 _ rfl
    have hVw' := HS.out.lt
    have HFr := hid (HF.out.outV HO.out HfV.out)
    have HPs := hid (HP.out.outV HO.out HSV.out)
    clear hSa hca hpa hcq hpq hO i1 i2 j1 j2
    obtain ⟨R, hR⟩ : ∃ R, e + 1 + k = R := ⟨_, rfl⟩
    rw [hR] at HX ⊢
    by_cases hlt : k < p0 - e
    · have q : decide ((R : Int) ≤ (p0 : Int)) = true := decide_eq_true (by omega)
      have hg := hid (sol_gap V f n p0 ps cs s _ pa ca xa R wr HS.out HFr.out HPs.out HBS.out (by omega) HA.out HI1.out (by omega) (by omega))
      have hgl := gapL_lt s xa R
      have HST : Hid (srStep s e R ⟨xl, xa, xq⟩ = if gapL s xa R = 0 then ⟨xl, xa, 0 :: xq⟩ else if 2 * xl ≤ R + e - 1 then ⟨R + e - xl, plusL xa xq (gapL s xa R), scaledL xa (inv0 (gapL s xa R))⟩ else ⟨xl, plusL xa xq (gapL s xa R), 0 :: xq⟩) := rfl
      generalize gapL s xa R = d at *
      go_wp2_with ((with_reducible refine wpList_unguard ?_ ?_); (focus rfl))
      refine Calls.mono hg.out ?_; rintro e' w2 ⟨rfl, hb⟩
      replace HS := hid (HS.out.below hb)
      replace HA := hid (HA.out.below hb)
      replace HQ := hid (HQ.out.below hb)
      replace HO := hid (HO.out.trans (OutV.of hb))
      replace HFr := hid (HFr.out.blw hb)
      have hV2 := HS.out.lt
      clear hg hb c2
      by_cases hd : d = 0
      · have qd : ((d : Int) == 0) = true := by rw [beq_iff_eq]; omega
        have hA : Below w2.heap.size w2 (w2.alloc (.cells #[.int .u8 0] 5)) := (Below.refl _ _).alloc (Nat.le_refl _) _
        have hown : ownsB (w2.alloc (.cells #[.int .u8 0] 5)) w2.heap.size (.slice (some ⟨w2.heap.size, 0, none⟩) 1 1) [0] := World.ownsRow_lit w2 #[.int .u8 0] 1 (Nat.le_refl _) (by unfold maxLen; omega) rfl
        have hqa := HQ.out.below hA
        go_wp2_with (at_builtin; refine wpList_pushB rfl _ _ rfl w2.heap.size _ [0] xq pq cq hown hqa HJ2.out rfl _ rfl rfl (by simp) (by omega) hA.size ?_)
        intro v' w' hq' hb'
        have hB2 := hid (hA.trans hb')
        obtain ⟨p3, c3, rfl, hc3, hcc, hoff⟩ := ownsB.off hq' (by simp) hV2
        have HN : Hid (SrI V f n p0 ps s.length cs pe e ce (srRun s e loc (k + 1)) (.int .i64 (xl : Nat)) (.slice p3 ([0] ++ xq).length c3) w w') := by
          show SrI _ _ _ _ _ _ _ _ _ _ _ _ _ _ _
          rw [HX.out, HST.out, if_pos hd]
          exact ⟨⟨pa, ca, HS.out.below hB2.out, HA.out.below hB2.out, HPA.out⟩, ⟨p3, c3, rfl, hc3, hcc, hoff⟩, rfl, HO.out.trans (OutV.of hB2.out)⟩
        clear hA hown hqa hq' hb' hc3 hcc hoff
        go_wp2_with ((with_reducible refine wpList_unguard ?_ ?_); (focus rfl))
        go_roundw
        case rel => exact ⟨k + 1, by omega, by rw [← hR]; go_num, HN.out⟩
        case measure => simp [intOf]; omega
      · have qd : ((d : Int) == 0) = false := by rw [beq_eq_false_iff_ne]; omega
        have c5 : w2.cell? ⟨V, 5, none⟩ = some (.slice pa xa.length ca) := HS.out.cell 5 _ rfl
        have hPl := hid (sol_plus V f n p0 _ _ _ pa pq _ ca _ cq xa xq d w2 HS.out HFr.out rfl HA.out HI1.out (by omega) rfl HQ.out HI2.out (by omega) hgl)
        rw [if_neg hd] at HST
        clear hd
        go_wp2_with ((with_reducible refine wpList_unguard ?_ ?_); (focus rfl))
        refine Calls.mono hPl.out ?_; rintro e' w3 ⟨p3, c3, rfl, hc3, hcell3, hb⟩
        replace HS := hid (HS.out.below hb)
        replace HA := hid (HA.out.below hb)
        replace HQ := hid (HQ.out.below hb)
        replace HO := hid (HO.out.trans (OutV.of hb))
        replace HFr := hid (HFr.out.blw hb)
        have hV3 := HS.out.lt
        have HC3 := hid hcell3
        have HP3 := hid (isS_off HS.out hcell3 (plusL_ne xa xq d))
        clear hPl hb hcell3 c5 hV2
        by_cases hl2 : 2 * xl ≤ R + e - 1
        · have q2 : decide (2 * (xl : Int) ≤ (R : Int) + (e : Int) - 1) = true := decide_eq_true (by omega)
          rw [if_pos hl2] at HST
          have hIn := hid (sol_Inv f d w3 HFr.out hgl)
          have hiv := inv0_lt d
          generalize inv0 d = iv at *
          have hSc := hid (sol_scaled V f n p0 _ _ _ pa _ ca xa iv w3 HS.out HFr.out rfl HA.out HI1.out (by omega) HJ1.out hiv)
          have c0 : w3.cell? ⟨V, 0, none⟩ = some (.pointer (some ⟨f, 0, none⟩)) := HS.out.cell 0 _ rfl
          have c5 : w3.cell? ⟨V, 5, none⟩ = some (.slice pa xa.length ca) := HS.out.cell 5 _ rfl
          go_wp2_with ((with_reducible refine wpList_unguard ?_ ?_); (focus rfl))
          refine Calls.mono hIn.out ?_; rintro e' w4 ⟨rfl, rfl⟩
          go_wp2_with ((with_reducible refine wpList_unguard ?_ ?_); (focus rfl))
          refine Calls.mono hSc.out ?_; rintro e' w4 ⟨p4, c4, rfl, hc4, hcell4, hb⟩
          have HS4 := hid (HS.out.below hb)
          have c5d : w4.cell? ⟨V, 5, none⟩ = some (.slice pa xa.length ca) := HS4.out.cell 5 _ rfl
          have f5d : w4.frozen? ⟨V, 5, none⟩ = false := HS4.out.free 5
          have hsne : scaledL xa iv ≠ [] := fun h => HJ1.out (by have := congrArg List.length h; rw [scaledL_len] at this; exact List.eq_nil_of_length_eq_zero this)
          have HP4 := isS_off HS4.out hcell4 hsne
          have HOS : OutV V w4 (w4.setCell ⟨V, 5, none⟩ (.slice p3 (plusL xa xq d).length c3)) := (OutV.of (Below.refl _ _)).set 5 _
          have HN : Hid (SrI V f n p0 ps s.length cs pe e ce (srRun s e loc (k + 1)) (.int .i64 ((R : Int) + (e : Int) - (xl : Int))) (.slice p4 (scaledL xa iv).length c4) w (w4.setCell ⟨V, 5, none⟩ (.slice p3 (plusL xa xq d).length c3))) := by
            show SrI _ _ _ _ _ _ _ _ _ _ _ _ _ _ _
            rw [HX.out, HST.out]
            exact ⟨⟨p3, c3, HS4.out.setLoc _, (HC3.out.below hb).outV HOS HP3.out, HP3.out⟩, ⟨p4, c4, rfl, hc4, hcell4.outV HOS HP4, HP4⟩, congrArg (Value.int .i64) (by show (R : Int) + e - xl = ((R + e - xl : Nat) : Int); omega), (HO.out.trans (OutV.of hb)).trans HOS⟩
          clear hIn hSc c0 c5 hb HS4 hsne HP4 HOS hcell4
          go_wp2_with ((with_reducible refine wpList_unguard ?_ ?_); (focus rfl))
          go_roundw
          case rel => exact ⟨k + 1, by omega, by rw [← hR]; go_num, HN.out⟩
          case measure => simp [intOf]; omega
        · have q2 : decide (2 * (xl : Int) ≤ (R : Int) + (e : Int) - 1) = false := decide_eq_false (by omega)
          rw [if_neg hl2] at HST
          have hA : Below w3.heap.size w3 (w3.alloc (.cells #[.int .u8 0] 5)) := (Below.refl _ _).alloc (Nat.le_refl _) _
          have hown : ownsB (w3.alloc (.cells #[.int .u8 0] 5)) w3.heap.size (.slice (some ⟨w3.heap.size, 0, none⟩) 1 1) [0] := World.ownsRow_lit w3 #[.int .u8 0] 1 (Nat.le_refl _) (by unfold maxLen; omega) rfl
          have hqa := HQ.out.below hA
          go_wp2_with (at_builtin; refine wpList_pushB rfl _ _ rfl w3.heap.size _ [0] xq pq cq hown hqa HJ2.out rfl _ rfl rfl (by simp) (by omega) hA.size ?_)
          intro v' w4 hq' hb'
          have hb := hA.trans hb'
          obtain ⟨p4, c4, rfl, hc4, hcell4, HP4⟩ := ownsB.off hq' (by simp) hV3
          have HS4 := hid (HS.out.below hb)
          have c5d : w4.cell? ⟨V, 5, none⟩ = some (.slice pa xa.length ca) := HS4.out.cell 5 _ rfl
          have f5d : w4.frozen? ⟨V, 5, none⟩ = false := HS4.out.free 5
          have HOS : OutV V w4 (w4.setCell ⟨V, 5, none⟩ (.slice p3 (plusL xa xq d).length c3)) := (OutV.of (Below.refl _ _)).set 5 _
          have HN : Hid (SrI V f n p0 ps s.length cs pe e ce (srRun s e loc (k + 1)) (.int .i64 (xl : Nat)) (.slice p4 ([0] ++ xq).length c4) w (w4.setCell ⟨V, 5, none⟩ (.slice p3 (plusL xa xq d).length c3))) := by
            show SrI _ _ _ _ _ _ _ _ _ _ _ _ _ _ _
            rw [HX.out, HST.out]
            exact ⟨⟨p3, c3, HS4.out.setLoc _, (HC3.out.below hb).outV HOS HP3.out, HP3.out⟩, ⟨p4, c4, rfl, hc4, hcell4.outV HOS HP4, HP4⟩, rfl, (HO.out.trans (OutV.of hb)).trans HOS⟩
          clear hA hown hqa hq' hb' hb HS4 HP4 HOS hcell4 hc4
          go_wp2_with ((with_reducible refine wpList_unguard ?_ ?_); (focus rfl))
          go_roundw
          case rel => exact ⟨k + 1, by omega, by rw [← hR]; go_num, HN.out⟩
          case measure => simp [intOf]; omega
    · have q : decide ((R : Int) ≤ (p0 : Int)) = false := decide_eq_false (by omega)
      have HST0 := hid (HSTOP.out (by omega))
      go_wp2_with ((with_reducible refine wpList_unguard ?_ ?_); (focus rfl))
      go_ret
      rw [HST0.out]
      exact ⟨rfl, HO.out, pa, ⟨ca, HS.out⟩, HA.out, HPA.out⟩
end Go.Proofs.Ytgckhekikcdaiaa

namespace Go.Proofs.Ytgckhekikcdaiaa
open Go.RowKit Tri

set_option maxHeartbeats 2000000 in
set_option maxRecDepth 100000 in
theorem rs_Size (c f n k : Nat) (w : World) (hR : isR w c f n k) :
    Calls Try.prog 14 #[.pointer (some ⟨c, 0, none⟩)] w fun e w' => e = .returned (.tuple #[.int .i64 (n : Nat), .int .i64 (k : Nat)]) ∧ Below w.heap.size w w' := by
  have c1 := hR.n
  have c2 := hR.k
  clear hR
  (go_enter Try.func14, Try.ntmps14; try simp only [List.append])
  go_upto_region 3 with fail
  go_region
  go_wp2_with ((with_reducible refine wpList_unguard ?_ ?_); (focus rfl))
  go_ret2
  exact ⟨rfl, (Below.refl _ _).drew⟩
set_option maxHeartbeats 2000000 in
set_option maxRecDepth 100000 in
theorem rs_Over (c f n k : Nat) (w : World) (hR : isR w c f n k) :
    Calls Try.prog 75 #[.pointer (some ⟨c, 0, none⟩)] w fun e w' => e = .returned (.pointer (some ⟨f, 0, none⟩)) ∧ w = w' := by
  have c0 := hR.field
  clear hR
  (go_enter Try.func75, Try.ntmps75; try simp only [List.append])
  go_wp2_with ((with_reducible refine wpList_unguard ?_ ?_); (focus rfl))
  go_ret
  exact ⟨rfl, rfl⟩
set_option maxHeartbeats 2000000 in
set_option maxRecDepth 100000 in
theorem sol_outside (N n0 : Nat) (x : Int) (w : World) (hN : w.cell? ⟨N, 0, none⟩ = some (.int .i64 (n0 : Nat))) :
    Calls Try.prog 70 #[.int .i64 x, .pointer (some ⟨N, 0, none⟩)] w fun e w' => e = .returned (.bool (decide (x < 0 ∨ (n0 : Int) ≤ x))) ∧ w = w' := by
  by_cases h : x < 0
  · have q : decide (x < 0) = true := decide_eq_true h
    have hr : Hid (decide (x < 0 ∨ (n0 : Int) ≤ x) = true) := decide_eq_true (.inl h)
    clear h
    (go_enter Try.func70, Try.ntmps70; try simp only [List.append])
    go_wp2_with ((with_reducible refine wpList_unguard ?_ ?_); (focus rfl))
    go_ret
    exact ⟨by rw [hr.out]; rfl, rfl⟩
  · have q : decide (x < 0) = false := decide_eq_false h
    obtain ⟨z, hz⟩ : ∃ z, decide ((n0 : Int) ≤ x) = z := ⟨_, rfl⟩
    have hr : Hid (decide (x < 0 ∨ (n0 : Int) ≤ x) = z) := by
      show _ = _
      rw [← hz, Bool.eq_iff_iff, decide_eq_true_eq, decide_eq_true_eq]
      exact ⟨fun h1 => h1.resolve_left h, .inr⟩
    clear h
    (go_enter Try.func70, Try.ntmps70; try simp only [List.append])
    go_wp2_with ((with_reducible refine wpList_unguard ?_ ?_); (focus rfl))
    go_ret
    exact ⟨by rw [hr.out]; rfl, rfl⟩
set_option maxHeartbeats 2000000 in
set_option maxRecDepth 100000 in
theorem sl_IndexFuncO (N n0 : Nat) (p : Option Addr) (n c : Nat) (l : List Int) (w : World) (hn : n = l.length) (hp : cellsZ w p l) (hl : l.length ≤ 1000000) (hN : w.cell? ⟨N, 0, none⟩ = some (.int .i64 (n0 : Nat))) :
    Calls Try.prog 95 #[.slice p n c, .func (.func 70) #[] #[.pointer (some ⟨N, 0, none⟩)]] w
      fun e w' => ixRet (fun i => decide (i < 0 ∨ (n0 : Int) ≤ i)) l e ∧ w = w' := by
  subst hn
  have HP := hid hp
  clear hp
  (go_enter Try.func95, Try.ntmps95; try simp only [List.append])
  go_wp2_with ((with_reducible refine wpList_unguard ?_ ?_); (focus rfl))
  go_loopw [8] (fun v wr => ∃ k : Nat, k ≤ l.length ∧ v = .int .i64 k ∧ wr = w ∧ (l.take k).any (fun i => decide (i < 0 ∨ (n0 : Int) ≤ i)) = false) (fun v _ => l.length - (intOf v).toNat)
  case atStart => exact ⟨0, Nat.zero_le _, rfl, rfl, rfl⟩
  case round =>
    obtain ⟨k, hk, rfl, rfl, ht⟩ := hrel
    have HT := hid ht
    clear ht
    by_cases hlt : k < l.length
    · obtain ⟨b, o, rfl, hc⟩ := HP.out k hlt
      have HX : Hid ((l.take (k + 1)).any (fun i => decide (i < 0 ∨ (n0 : Int) ≤ i)) = ((l.take k).any (fun i => decide (i < 0 ∨ (n0 : Int) ≤ i)) || decide (l.getD k 0 < 0 ∨ (n0 : Int) ≤ l.getD k 0))) := by
        show _ = _
        rw [List.take_succ_eq_append_getElem hlt, List.any_append, List.getD_eq_getElem?_getD, List.getElem?_eq_getElem hlt, Option.getD_some]
        simp
      have HM : Hid (decide (l.getD k 0 < 0 ∨ (n0 : Int) ≤ l.getD k 0) = true → l.any (fun i => decide (i < 0 ∨ (n0 : Int) ≤ i)) = true) := by
        intro h
        rw [List.any_eq_true]
        refine ⟨l[k], List.getElem_mem hlt, ?_⟩
        rw [List.getD_eq_getElem?_getD, List.getElem?_eq_getElem hlt, Option.getD_some] at h
        exact h
      have hCo := sol_outside N n0 (l.getD k 0) wr hN
      generalize l.getD k 0 = x at *
      obtain ⟨z, hz⟩ : ∃ z, decide (x < 0 ∨ (n0 : Int) ≤ x) = z := ⟨_, rfl⟩
      rw [hz] at hCo HX HM
      rw [HT.out] at HX
      clear hz
      go_wp2_with ((with_reducible refine wpList_unguard ?_ ?_); (focus rfl))
      refine Calls.mono hCo ?_; rintro e w2 ⟨rfl, rfl⟩
      clear hCo
      cases z with
      | true =>
        go_wp2_with ((with_reducible refine wpList_unguard ?_ ?_); (focus rfl))
        go_ret
        exact ⟨⟨k, rfl, by rw [HM.out trivial]; exact decide_eq_true (by omega)⟩, rfl⟩
      | false =>
        go_wp2_with ((with_reducible refine wpList_unguard ?_ ?_); (focus rfl))
        go_roundw
        case rel => exact ⟨k + 1, by omega, by go_num, trivial, by rw [HX.out]; rfl⟩
        case measure => simp [intOf]; omega
    · have hk2 : l.take k = l := List.take_of_length_le (by omega)
      have HA : Hid (l.any (fun i => decide (i < 0 ∨ (n0 : Int) ≤ i)) = false) := by have := HT.out; rw [hk2] at this; exact this
      clear hk2
      go_wp2_with ((with_reducible refine wpList_unguard ?_ ?_); (focus rfl))
      go_ret
      exact ⟨⟨-1, rfl, by rw [HA.out]; rfl⟩, rfl⟩
set_option maxHeartbeats 2000000 in
set_option maxRecDepth 100000 in
theorem sl_ContainsFuncO (N n0 : Nat) (p : Option Addr) (n c : Nat) (l : List Int) (w : World) (hn : n = l.length) (hp : cellsZ w p l) (hl : l.length ≤ 1000000) (hN : w.cell? ⟨N, 0, none⟩ = some (.int .i64 (n0 : Nat))) :
    Calls Try.prog 71 #[.slice p n c, .func (.func 70) #[] #[.pointer (some ⟨N, 0, none⟩)]] w
      fun e w' => e = .returned (.bool (l.any fun i => decide (i < 0 ∨ (n0 : Int) ≤ i))) ∧ w = w' := by
  subst hn
  have hI := hid (sl_IndexFuncO N n0 p _ c l w rfl hp hl hN)
  clear hp
  (go_enter Try.func71, Try.ntmps71; try simp only [List.append])
  go_wp2_with ((with_reducible refine wpList_unguard ?_ ?_); (focus rfl))
  refine Calls.mono hI.out ?_; rintro e w' ⟨⟨r, rfl, hr⟩, rfl⟩
  have HR := hid hr
  clear hr hI
  go_wp2_with ((with_reducible refine wpList_unguard ?_ ?_); (focus rfl))
  go_ret
  exact ⟨by rw [← HR.out]; rfl, rfl⟩
set_option maxHeartbeats 1000000 in
theorem sol_Within_nil (a b : Int) (w : World) (hR : Calls Try.prog 14 #[.pointer none] w fun e w' => e = .returned (.tuple #[.int .i64 0, .int .i64 0]) ∧ w = w') :
    Calls Try.prog 32 #[.pointer none, .int .i64 a, .int .i64 b] w fun e w' => e = .returned (.bool false) ∧ w = w' := by
  (go_enter Try.func32, Try.ntmps32; try simp only [List.append])
  go_wp2_with ((with_reducible refine wpList_unguard ?_ ?_); (focus rfl))
  refine Calls.mono hR ?_; rintro e w' ⟨rfl, rfl⟩
  go_wp2_with ((with_reducible refine wpList_unguard ?_ ?_); (focus rfl))
  go_ret
  exact ⟨rfl, rfl⟩
end Go.Proofs.Ytgckhekikcdaiaa

namespace Go.Proofs.Ytgckhekikcdaiaa
open Go.RowKit

theorem wp_region_quietC {P : Program} {id : Nat} {Q : Exit → Act → World → Prop} {a : Act} {w : World} {l : List Oper} (C : World → Prop) (hm : P.follows .mixedOrders = true) (hB : Region.lexB .any l.toArray = true) (hC : C w.drew)
    (h : wpQuiet P l.toArray C (fun a' => ∀ w', C w' → Q .normal a' w') l a) : (Code.region id l.toArray true).wp P Q a w :=
  wp_region_quiet (C := C) hm hB hC (by simpa using h)
theorem quietC_nil {P : Program} {ops : Array Oper} {C : World → Prop} {Q : Act → Prop} {a : Act} (l : List Oper) (hl : l.isEmpty = true) (h : Q a) : wpQuiet P ops C Q l a := by
  cases l with
  | nil => exact h
  | cons => cases hl
/-- An array read whole, in a quiet walk. -/
theorem quiet_load_row {P : Program} {C : World → Prop} {K : Act → Prop} {o : Oper} {a : Act} (ty : TypeId) (x : Operand) (ho : o.op = .load ty x) (g : Nat) (hx : a.eval x = .pointer (some ⟨g, 0, none⟩)) (cs : Array Value)
    (hl : ∀ w, C w → (loadVar ty ⟨g, 0, none⟩).run P w = .ok (.agg cs) w) (hk : K (a.put o.dst (.agg cs))) : o.quiet P a C K :=
  ⟨_, fun w hw => by
    unfold Oper.quietAt execOp
    simp only [ho, hx, Instr.loadAt, Instr.sureAddr, Sem.run_bind, Sem.run_pure, Result.andThen_ok, hl w hw]
    exact ⟨rfl, rfl⟩, hk⟩
end Go.Proofs.Ytgckhekikcdaiaa

namespace Go.Proofs.Ytgckhekikcdaiaa
open Go.RowKit

section
variable {P : Program} {Q : Exit → Act → World → Prop}

def cutL (L : Array Bool) (m : Nat) : Array Bool := (L.toList.take m).toArray
theorem cutL_get (L : Array Bool) (m j : Nat) (h : j < m) : (cutL L m)[j]? = L[j]? := by
  unfold cutL; simp [List.getElem?_take, h]
theorem cutL_getD (L : Array Bool) (m j : Nat) (d : Bool) (h : j < m) : (cutL L m).getD j d = L.getD j d := by
  rw [Array.getD_eq_getD_getElem?, Array.getD_eq_getD_getElem?, cutL_get L m j h]
theorem cutL_set (L : Array Bool) (m i : Nat) : cutL (L.setIfInBounds i true) m = (cutL L m).setIfInBounds i true := by
  unfold cutL
  rw [Array.toList_setIfInBounds, List.setIfInBounds_toArray, List.take_set]
theorem take_get {l : List Oper} {m j : Nat} (h : j < m) : (l.take m).toArray[j]? = l[j]? := by
  simp [List.getElem?_take, h]
theorem yielded_take (l : List Oper) (m : Nat) (t : Array Value) (o : Oper) (hg : ∀ g b, o.guard = some (g, b) → g < m) :
    Region.wanted o (yielded (l.take m).toArray t) = Region.wanted o (yielded l.toArray t) := by
  unfold Region.wanted
  cases hgd : o.guard with
  | none => rfl
  | some gb =>
    obtain ⟨g, b⟩ := gb
    have hlt := hg g b hgd
    have : yielded (l.take m).toArray t g = yielded l.toArray t g := by
      unfold yielded
      rw [take_get hlt]
      simp
    simp only [this]
/-- What is asked of a region's form. -/
def qtailB (l : List Oper) (m : Nat) : Bool :=
  (l.mapIdx fun i (o : Oper) => o.after.all fun (e : Edge) => decide (e.on < i)).all (fun b => b) &&
  ((l.take m).all (fun (o : Oper) => match o.guard with | some (g, _) => decide (g < m) | none => true) &&
  (Region.lexB .any (l.take m).toArray &&
  ((List.range l.length).all (fun i => decide (i < m) || match l[i]? with | some o => (List.range i).all (fun j => o.after.any fun (e : Edge) => decide (e.on = j) && Region.binds .any e) | none => true) && decide (m ≤ l.length))))

theorem wp_region_qtail {id : Nat} {a0 : Act} {w0 : World} {l : List Oper} (m : Nat) (C : World → Prop) (hm : P.follows .mixedOrders = true) (hB : qtailB l m = true) (hC : C w0.drew)
    (h : wpQuiet P (l.take m).toArray C (fun a' => ∀ w', C w' → wpList P l.toArray Q (l.drop m) a' w') (l.take m) a0) : (Code.region id l.toArray true).wp P Q a0 w0 := by
  unfold qtailB at hB
  simp only [Bool.and_eq_true, decide_eq_true_eq] at hB
  obtain ⟨hac, hgd, hlx, htl, hml⟩ := hB
  have hac' : ∀ (i : Nat) (o : Oper), l.toArray[i]? = some o → ∀ e : Edge, e ∈ o.after → e.on < i := by
    intro i o hi e he
    rw [List.all_eq_true] at hac
    have hi' : l[i]? = some o := by simpa using hi
    have := hac (o.after.all fun e => decide (e.on < i)) (by
      rw [List.mem_mapIdx]
      have hlt := (List.getElem?_eq_some_iff.1 hi').1
      refine ⟨i, hlt, ?_⟩
      have := (List.getElem?_eq_some_iff.1 hi').2
      simp [this])
    rw [Array.all_eq_true_iff_forall_mem] at this
    simpa using this e he
  have hgd' : ∀ (i : Nat) (o : Oper), i < m → l[i]? = some o → ∀ g b, o.guard = some (g, b) → g < m := by
    intro i o hi ho g b hg
    rw [List.all_eq_true] at hgd
    have := hgd o (by
      have : (l.take m)[i]? = some o := by rw [List.getElem?_take, if_pos hi]; exact ho
      exact List.mem_of_getElem? this)
    rw [hg] at this
    simpa using this
  have htl' : ∀ (i : Nat) (o : Oper), m ≤ i → l[i]? = some o → ∀ j, j < i → ∃ e ∈ o.after, e.on = j ∧ Region.binds .any e = true := by
    intro i o hi ho j hj
    rw [List.all_eq_true] at htl
    have := htl i (List.mem_range.2 (List.getElem?_eq_some_iff.1 ho).1)
    rw [ho] at this
    simp only [Bool.or_eq_true, decide_eq_true_eq] at this
    have h2 := this.resolve_left (by omega)
    rw [List.all_eq_true] at h2
    have h3 := h2 j (List.mem_range.2 hj)
    rw [Array.any_eq_true] at h3
    obtain ⟨x, hx, hh⟩ := h3
    simp only [Bool.and_eq_true, decide_eq_true_eq] at hh
    exact ⟨_, Array.getElem_mem hx, hh.1, hh.2⟩
  refine wp_region_any hm ?_
  have hq : wpAnyQ P .any (l.take m).toArray C (fun a' => ∀ w', C w' → wpList P l.toArray Q (l.drop m) a' w') m (Array.replicate m false) a0 := by
    unfold Region.lexB at hlx
    rw [Bool.and_eq_true] at hlx
    have h1 : (l.take m).length = m := by rw [List.length_take]; omega
    have := wpAnyQ_lex (P := P) (C := C) (md := .any) hlx.1 (l.take m) 0 (Array.replicate m false) a0 (by simp) (by have := hlx.2; simp only [List.size_toArray, h1] at this; rw [h1]; exact this) h
    rw [h1] at this
    exact this
  refine wpAny_inv hac' (fun L a w => ((∃ j, j < m ∧ L[j]? = some false) ∧ (∀ j, m ≤ j → j < l.length → L[j]? = some false) ∧ C w ∧ ∃ fuel, wpAnyQ P .any (l.take m).toArray C (fun a' => ∀ w', C w' → wpList P l.toArray Q (l.drop m) a' w') fuel (cutL L m) a) ∨
    (∃ i, m ≤ i ∧ i ≤ l.length ∧ (∀ j, j < i → L[j]? = some true) ∧ (∀ j, i ≤ j → j < l.length → L[j]? = some false) ∧ wpList P l.toArray Q (l.drop i) a w)) ?_ ?_ _ _ _ _ (by simp) ?_ ?_
  · intro i o ho L a w hs hI hi he
    have hsz : L.size = l.length := by simpa using hs
    have ho' : l[i]? = some o := by simpa using ho
    have hil : i < l.length := (List.getElem?_eq_some_iff.1 ho').1
    rcases hI with ⟨⟨j0, hj0, hjf⟩, hfar, hCw, fuel, hf⟩ | ⟨i0, him, hin, hT, hF, hW⟩
    · have him : i < m := by
        rcases Nat.lt_or_ge i m with h1 | h1
        · exact h1
        · obtain ⟨e, h2, h3, h4⟩ := htl' i o h1 ho' j0 (by omega)
          have := he e h2 h4
          rw [h3, hjf] at this
          cases this
      have hrd : i ∈ Region.ready .any (l.take m).toArray (cutL L m) := by
        rw [mem_ready]
        refine ⟨?_, o, by rw [take_get him]; exact ho', ?_⟩
        · rw [cutL_getD L m i _ him, Array.getD_eq_getD_getElem?, hi]; rfl
        · intro e h1 h2
          have h3 := hac' i o ho e h1
          rw [cutL_getD L m e.on _ (by omega), Array.getD_eq_getD_getElem?, he e h1 h2]; rfl
      cases fuel with
      | zero => rw [hf.1] at hrd; cases hrd
      | succ fuel =>
        have hqo := hf.2 i hrd
        have hnext : ∀ (a' : Act) (w' : World), C w' → wpAnyQ P .any (l.take m).toArray C (fun a' => ∀ w', C w' → wpList P l.toArray Q (l.drop m) a' w') fuel ((cutL L m).setIfInBounds i true) a' →
            ((∃ j, j < m ∧ (L.setIfInBounds i true)[j]? = some false) ∧ (∀ j, m ≤ j → j < l.length → (L.setIfInBounds i true)[j]? = some false) ∧ C w' ∧ ∃ fuel, wpAnyQ P .any (l.take m).toArray C (fun a' => ∀ w', C w' → wpList P l.toArray Q (l.drop m) a' w') fuel (cutL (L.setIfInBounds i true) m) a') ∨
            (∃ i', m ≤ i' ∧ i' ≤ l.length ∧ (∀ j, j < i' → (L.setIfInBounds i true)[j]? = some true) ∧ (∀ j, i' ≤ j → j < l.length → (L.setIfInBounds i true)[j]? = some false) ∧ wpList P l.toArray Q (l.drop i') a' w') := by
          intro a' w' hC' hq'
          have hfar' : ∀ j, m ≤ j → j < l.length → (L.setIfInBounds i true)[j]? = some false := by
            intro j h1 h2
            rw [Array.getElem?_setIfInBounds_ne (by omega)]
            exact hfar j h1 h2
          by_cases hall : ∃ j, j < m ∧ (L.setIfInBounds i true)[j]? = some false
          · exact .inl ⟨hall, hfar', hC', fuel, by rw [cutL_set]; exact hq'⟩
          · refine .inr ⟨m, Nat.le_refl _, hml, ?_, hfar', ?_⟩
            · intro j hj
              have hjl : j < (L.setIfInBounds i true).size := by simp; omega
              rw [Array.getElem?_eq_getElem hjl]
              cases hb : (L.setIfInBounds i true)[j] with
              | true => rfl
              | false => exact absurd ⟨j, hj, by rw [Array.getElem?_eq_getElem hjl, hb]⟩ hall
            · have hnil : Region.ready .any (l.take m).toArray ((cutL L m).setIfInBounds i true) = [] := by
                rw [List.eq_nil_iff_forall_not_mem]
                intro j hj
                obtain ⟨h1, oj, h2, _⟩ := mem_ready.1 hj
                have hjm : j < m := by
                  have := (Array.getElem?_eq_some_iff.1 h2).1
                  simp only [List.size_toArray, List.length_take] at this
                  omega
                rw [← cutL_set, cutL_getD _ m j _ hjm, Array.getD_eq_getD_getElem?] at h1
                refine hall ⟨j, hjm, ?_⟩
                have hjl : j < (L.setIfInBounds i true).size := by simp; omega
                rw [Array.getElem?_eq_getElem hjl] at h1 ⊢
                simpa using h1
              cases fuel with
              | zero => exact hq'.2 w' hC'
              | succ fuel => exact hq'.1 hnil w' hC'
        unfold qOp at hqo
        rw [take_get him, ho'] at hqo
        simp only [] at hqo
        rw [yielded_take l m a.tmps o (hgd' i o him ho')] at hqo
        unfold wpOp
        rw [ho]
        simp only []
        split
        · rename_i hw
          simp only [hw, if_true] at hqo
          exact .inl (Oper.wp_of_quiet hCw (fun a' w' h1 h2 => hnext a' w' h1 h2) hqo)
        · rename_i hw
          simp only [hw] at hqo
          exact hnext _ _ hCw hqo
    · have hi0 : i = i0 := by
        rcases Nat.lt_trichotomy i i0 with h1 | h1 | h1
        · rw [hT i h1] at hi; cases hi
        · exact h1
        · obtain ⟨e, h2, h3, h4⟩ := htl' i o (by omega) ho' i0 h1
          have := he e h2 h4
          rw [h3, hF i0 (Nat.le_refl _) (by omega)] at this
          cases this
      subst hi0
      have hdr : l.drop i = o :: l.drop (i + 1) := by
        rw [List.drop_eq_getElem_cons hil]
        congr 1
        have := (List.getElem?_eq_some_iff.1 ho').2
        exact this
      rw [hdr] at hW
      have hK : ∀ (a' : Act) (w' : World), wpList P l.toArray Q (l.drop (i + 1)) a' w' →
          ((∃ j, j < m ∧ (L.setIfInBounds i true)[j]? = some false) ∧ (∀ j, m ≤ j → j < l.length → (L.setIfInBounds i true)[j]? = some false) ∧ C w' ∧ ∃ fuel, wpAnyQ P .any (l.take m).toArray C (fun a' => ∀ w', C w' → wpList P l.toArray Q (l.drop m) a' w') fuel (cutL (L.setIfInBounds i true) m) a') ∨
          (∃ i', m ≤ i' ∧ i' ≤ l.length ∧ (∀ j, j < i' → (L.setIfInBounds i true)[j]? = some true) ∧ (∀ j, i' ≤ j → j < l.length → (L.setIfInBounds i true)[j]? = some false) ∧ wpList P l.toArray Q (l.drop i') a' w') := by
        intro a' w' h1
        refine .inr ⟨i + 1, by omega, by omega, ?_, ?_, h1⟩
        · intro j hj
          by_cases hji : j = i
          · subst hji
            rw [Array.getElem?_setIfInBounds_self]
            simp; omega
          · rw [Array.getElem?_setIfInBounds_ne (by omega)]
            exact hT j (by omega)
        · intro j h2 h3
          rw [Array.getElem?_setIfInBounds_ne (by omega)]
          exact hF j (by omega) h3
      unfold wpList at hW
      unfold wpOp
      rw [ho]
      simp only []
      split
      · rename_i hw
        simp only [hw, if_true] at hW
        rcases hW with hW | hW
        · exact .inl (Oper.wp_mono hK hW)
        · exact .inr hW
      · rename_i hw
        simp only [hw] at hW
        exact hK _ _ hW
  · intro L a w hall hI
    rcases hI with ⟨⟨j0, hj0, hjf⟩, _⟩ | ⟨i0, him, hin, hT, hF, hW⟩
    · have := hall j0 (by simp; omega)
      rw [hjf] at this
      cases this
    · have : i0 = l.length := by
        rcases Nat.lt_or_ge i0 l.length with h1 | h1
        · have h2 := hF i0 (Nat.le_refl _) h1
          rw [hall i0 (by simpa using h1)] at h2
          cases h2
        · omega
      subst this
      rw [List.drop_length] at hW
      exact hW
  · have hrep : ∀ j, j < l.length → (Array.replicate l.toArray.size false)[j]? = some false := by
      intro j hj
      rw [Array.getElem?_replicate, if_pos (by simpa using hj)]
    by_cases hm0 : m = 0
    · subst hm0
      refine .inr ⟨0, Nat.le_refl _, Nat.zero_le _, fun j hj => by omega, fun j _ hj => hrep j hj, ?_⟩
      have : wpQuiet P (l.take 0).toArray C (fun a' => ∀ w', C w' → wpList P l.toArray Q (l.drop 0) a' w') [] a0 := h
      exact this _ hC
    · refine .inl ⟨⟨0, by omega, hrep 0 (by omega)⟩, fun j _ hj => hrep j hj, hC, m, ?_⟩
      have : cutL (Array.replicate l.toArray.size false) m = Array.replicate m false := by
        unfold cutL
        rw [Array.toList_replicate, List.take_replicate]
        simp only [List.size_toArray, Nat.min_eq_left hml]
        exact List.toArray_replicate _ _
      rw [this]
      exact hq
  · unfold unlisted
    simp
end
end Go.Proofs.Ytgckhekikcdaiaa
