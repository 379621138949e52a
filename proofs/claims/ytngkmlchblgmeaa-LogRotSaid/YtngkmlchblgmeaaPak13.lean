/-
  Records as the document has them: own rows; triptychlaw15's Plain and wrong, triptychref15's Same.
  The log's own blocks and a row of the document's records stay out of one another's way.
  Turned bytes in one copy of each page (plain); the array that says which copy it is; triptychlaw13's Dump.
  A slice of records that came in: what it weighs, too.
  A slice of turns (triptychlaw15.Turn) that came in.
  The document's own check sum (the reference). Conditions: texts of at most 9000000000 bytes.
  The reference of chapter 01 (Put) and of chapter 14 (Put): a record's page is the document's.
-/
import Derived.Test.YtngkmlchblgmeaaPak12
import Derived.Test.YtngkmlchblgmeaaPak6
import Derived.Test.YtngkmlchblgmeaaPak8
import Derived.Test.YtngkmlchblgmeaaPak7
import Derived.Test.YtngkmlchblgmeaaPak3
import Derived.Test.YtngkmlchblgmeaaPak4
namespace Go.Proofs.Ytngkmlchblgmeaa
open Go.RowKit Tri

theorem Try.infoRefRec : (Try.prog.info? 69).map (fun i => (i.zero, i.size, i.bytes)) = some (some (.agg #[.int .i64 0, .int .i64 0, .int .i64 0, .int .i64 0]), 4, 32) := by kernel_rfl
/-- A row of records that the call owns. -/
def recQ (w : World) (base : Nat) (v : Value) (l : List RecI) : Prop := w.ownsRow base 69 4 v l.length (l.flatMap rcC)
theorem recQ.keep {w w' : World} {base : Nat} {v : Value} {l : List RecI} (h : recQ w base v l) (hk : ∀ g, base ≤ g → g < w.heap.size → v.ownBlock = some g → w'.heap[g]? = w.heap[g]?) : recQ w' base v l := by
  obtain ⟨h1, h2⟩ := h
  refine ⟨h1, ?_⟩
  rcases h2 with h2 | ⟨g, cap, cur, rfl, h3, h4, h5⟩
  · exact .inl h2
  · exact .inr ⟨g, cap, cur, rfl, h3, by rw [hk g h3 (Array.getElem?_eq_some_iff.1 h4).1 rfl]; exact h4, h5⟩
theorem recQ.below {w w' : World} {base : Nat} {v : Value} {l : List RecI} (h : recQ w base v l) (hb : Below w.heap.size w w') : recQ w' base v l := h.keep fun g _ h2 _ => hb.block g h2
/-- The cells of an own row. -/
theorem recQ.cells {w : World} {base : Nat} {v : Value} {l : List RecI} (h : recQ w base v l) : ∃ p c, v = .slice p l.length c ∧ l.length ≤ c ∧ cellsG w p 4 (l.map rcC) := by
  have h' := h
  obtain ⟨h1, ⟨rfl, h0⟩ | ⟨g, cap, cur, rfl, hb, hh, hnc, hcm, hcs, ht⟩⟩ := h
  · refine ⟨none, 0, by rw [h0], by omega, ?_⟩
    rw [List.eq_nil_of_length_eq_zero h0]
    intro i hi; simp at hi
  · refine ⟨_, _, rfl, hnc, ?_⟩
    intro i hi
    rw [List.length_map] at hi
    refine ⟨g, 0, rfl, ?_⟩
    intro j u hj
    have hlen : ∀ (m : List RecI) (i : Nat), i < m.length → ((m.map rcC).getD i [])[j]? = some u → (m.flatMap rcC)[i * 4 + j]? = some u := by
      intro m
      induction m with
      | nil => intro i hi; simp at hi
      | cons r m ih =>
        intro i hi hu
        rw [List.flatMap_cons]
        cases i with
        | zero =>
          have hu' : (rcC r)[j]? = some u := by simpa using hu
          have hj4 : j < 4 := by have := (List.getElem?_eq_some_iff.1 hu').1; rw [rcC_len] at this; exact this
          rw [Nat.zero_mul, Nat.zero_add, List.getElem?_append_left (by rw [rcC_len]; exact hj4)]
          exact hu'
        | succ i =>
          rw [List.getElem?_append_right (by rw [rcC_len]; omega), rcC_len, show (i + 1) * 4 + j - 4 = i * 4 + j from by omega]
          exact ih i (by simpa using hi) (by simpa using hu)
    have h6 : w.ownsRow base 69 4 (.slice (some ⟨g, 0, none⟩) l.length cap) l.length (l.flatMap rcC) := h'
    have h5 := h6.cells (g := g) rfl (i * 4 + j) u (hlen l i hi hj)
    rw [show (⟨g, 0, none⟩ : Addr).add (i * 4 + j) = ⟨g, 0 + i * 4 + j, none⟩ from by unfold Addr.add; split <;> simp_all] at h5
    exact h5
/-- Records appended to an own row. -/
theorem wpList_pushQ {wr : World} {ops : Array Oper} {rest : List Oper} {o : Oper} {a : Act} {Q : Exit → Act → World → Prop} (hgd : o.guard = none) (s x : Operand)
    (ho : o.op = .call { callee := .builtin .append, args := #[s, x], argTypes := #[56, 56] })
    (base : Nat) (v : Value) (l y : List RecI) (q : Option Addr) (c : Nat) (hown : recQ wr base v l) (hq : cellsG wr q 4 (y.map rcC)) (hy : y ≠ []) (hs : a.eval s = v) (n : Nat) (hn : n = y.length) (hx : a.eval x = .slice q n c) (hlen : (l.length + y.length) * 32 ≤ 140737488355328) (hbase : base ≤ wr.heap.size)
    (h : ∀ v' w', recQ w' base v' (l ++ y) → Below base wr w' → wpList Try.prog ops Q rest (a.put o.dst v') w') : wpList Try.prog ops Q (o :: rest) a wr := by
  subst hn
  obtain ⟨i0, hi, hz0, hz1, hz2⟩ := info_parts Try.infoRefRec
  obtain ⟨a0, o0, rfl, _⟩ := hq 0 (by rw [List.length_map]; exact List.length_pos_iff.2 hy)
  refine wpList_append_own wr hgd s x 56 ho base 69 i0 (.agg #[.int .i64 0, .int .i64 0, .int .i64 0, .int .i64 0]) 4 32 Try.underlying56 hi hz0 hz1 hz2 rfl (by decide) v l.length (l.flatMap rcC) hs hown
    ⟨a0, o0, none⟩ y.length c (y.flatMap rcC) hx (flatMap_len y) ?_ ?_ ?_ ?_ hbase ?_
  · intro j u hj
    obtain ⟨i, k, h1, h2, rfl, h3⟩ := flat_get y j u hj
    obtain ⟨a', o', e, hc⟩ := hq i (by rw [List.length_map]; exact h1)
    simp only [Option.some.injEq, Addr.mk.injEq] at e
    obtain ⟨rfl, rfl, _⟩ := e
    have := hc k u h3
    rw [show (⟨a0, o0, none⟩ : Addr).add (i * 4 + k) = ⟨a0, o0 + i * 4 + k, none⟩ from by unfold Addr.add; split <;> simp_all [Nat.add_assoc]]
    exact this
  · intro u hu
    rw [List.mem_flatMap] at hu
    obtain ⟨r, _, hu⟩ := hu
    unfold rcC at hu
    simp only [List.mem_cons, List.not_mem_nil, or_false] at hu
    rcases hu with rfl | rfl | rfl | rfl <;> rfl
  · unfold maxLen; omega
  · omega
  · intro v' w' h2 h3 _
    refine h v' w' ?_ ?_
    · unfold recQ; rw [List.length_append, List.flatMap_append]; exact h2
    · refine ((Below.refl _ wr).mono hbase).grown h3 hbase ?_
      intro b hb
      rcases hown.2 with ⟨h4, _⟩ | ⟨g', cap, cur, h4, h5, _⟩
      · rw [h4] at hb; simp [Value.ownBlock] at hb
      · rw [h4] at hb; simp only [Value.ownBlock, Option.some.injEq] at hb; omega
/-- Records appended to an own row; all else stays. -/
theorem wpList_pushQg {wr : World} {ops : Array Oper} {rest : List Oper} {o : Oper} {a : Act} {Q : Exit → Act → World → Prop} (hgd : o.guard = none) (s x : Operand)
    (ho : o.op = .call { callee := .builtin .append, args := #[s, x], argTypes := #[56, 56] })
    (base : Nat) (v : Value) (l y : List RecI) (q : Option Addr) (c : Nat) (hown : recQ wr base v l) (hq : cellsG wr q 4 (y.map rcC)) (hy : y ≠ []) (hs : a.eval s = v) (n : Nat) (hn : n = y.length) (hx : a.eval x = .slice q n c) (hlen : (l.length + y.length) * 32 ≤ 140737488355328) (hbase : base ≤ wr.heap.size)
    (h : ∀ v' w', recQ w' base v' (l ++ y) → wr.grownBy w' v.ownBlock → wpList Try.prog ops Q rest (a.put o.dst v') w') : wpList Try.prog ops Q (o :: rest) a wr := by
  subst hn
  obtain ⟨i0, hi, hz0, hz1, hz2⟩ := info_parts Try.infoRefRec
  obtain ⟨a0, o0, rfl, _⟩ := hq 0 (by rw [List.length_map]; exact List.length_pos_iff.2 hy)
  refine wpList_append_own wr hgd s x 56 ho base 69 i0 (.agg #[.int .i64 0, .int .i64 0, .int .i64 0, .int .i64 0]) 4 32 Try.underlying56 hi hz0 hz1 hz2 rfl (by decide) v l.length (l.flatMap rcC) hs hown
    ⟨a0, o0, none⟩ y.length c (y.flatMap rcC) hx (flatMap_len y) ?_ ?_ ?_ ?_ hbase ?_
  · intro j u hj
    obtain ⟨i, k, h1, h2, rfl, h3⟩ := flat_get y j u hj
    obtain ⟨a', o', e, hc⟩ := hq i (by rw [List.length_map]; exact h1)
    simp only [Option.some.injEq, Addr.mk.injEq] at e
    obtain ⟨rfl, rfl, _⟩ := e
    have := hc k u h3
    rw [show (⟨a0, o0, none⟩ : Addr).add (i * 4 + k) = ⟨a0, o0 + i * 4 + k, none⟩ from by unfold Addr.add; split <;> simp_all [Nat.add_assoc]]
    exact this
  · intro u hu
    rw [List.mem_flatMap] at hu
    obtain ⟨r, _, hu⟩ := hu
    unfold rcC at hu
    simp only [List.mem_cons, List.not_mem_nil, or_false] at hu
    rcases hu with rfl | rfl | rfl | rfl <;> rfl
  · unfold maxLen; omega
  · omega
  · intro v' w' h2 h3 _
    refine h v' w' ?_ h3
    unfold recQ; rw [List.length_append, List.flatMap_append]; exact h2
theorem cellsG_oneQ (w : World) (r : RecI) : cellsG (w.alloc (.cells #[.int .i64 r.k, .int .i64 r.s, .int .i64 r.n, .int .i64 r.v] 69)) (some ⟨w.heap.size, 0, none⟩) 4 ([r].map rcC) := by
  intro i hi
  have : i = 0 := by simpa using hi
  subst this
  refine ⟨w.heap.size, 0, rfl, ?_⟩
  intro j v hv
  have := World.cell?_alloc_new w #[.int .i64 r.k, .int .i64 r.s, .int .i64 r.n, .int .i64 r.v] 69 j
  rw [show 0 + 0 * 4 + j = j from by omega, this]
  show (rcC r).toArray[j]? = some v
  rw [List.getElem?_toArray]
  simpa using hv

set_option maxHeartbeats 8000000 in
set_option maxRecDepth 100000 in
theorem law15_Plain (a : Option Addr) (len cap : Nat) (l : List RecI) (w : World) (hl : len = l.length) (h100 : l.length * 32 ≤ 140737488355328) (hlc : len ≤ cap) (hc : cellsG w a 4 (l.map rcC)) :
    Calls Try.prog 26 #[.slice a len cap] w fun e w' => ∃ v, e = .returned v ∧ recQ w' w.heap.size v (l.map z0) ∧ Below w.heap.size w w' := by
  subst hl
  have HC := hid hc
  clear hc
  (go_enter Try.func26, Try.ntmps26; try simp only [List.append])
  go_wp2_with ((with_reducible refine wpList_unguard ?_ ?_); (focus rfl))
  go_loopw [8, 3] (fun v u wr => ∃ k : Nat, k ≤ l.length ∧ v = .int .i64 k ∧ recQ wr w.heap.size u ((l.take k).map z0) ∧ Below w.heap.size w wr) (fun v _ _ => l.length - (intOf v).toNat)
  case atStart => exact ⟨0, Nat.zero_le _, rfl, World.ownsRow_nil _ _ _ _, Below.refl _ _⟩
  case round =>
    obtain ⟨k, hk, rfl, hq, hB⟩ := hrel
    have HQ := hid hq
    have HB := hid hB
    clear hq hB
    obtain ⟨pq, cq, e, -, -⟩ := HQ.out.cells
    have hn100 : k < l.length → (((l.take k).map z0).length + [(⟨0, 0, 0, 0⟩ : RecI)].length) * 32 ≤ 140737488355328 := by intro h; rw [List.length_map, List.length_take, List.length_singleton]; omega
    have hDl : k = l.length → (l.take k).map z0 = l.map z0 := by rintro rfl; rw [List.take_length]
    have HS := fun hlt => hid (z0_take l k hlt)
    generalize (l.take k).map z0 = D at *
    obtain ⟨nq, hnq⟩ : ∃ n, D.length = n := ⟨_, rfl⟩
    rw [hnq] at e
    clear hnq
    by_cases hlt : k < l.length
    · replace HS := HS hlt
      obtain ⟨b, o, rfl, g0, g1, g2, g3⟩ := recs_at (HC.out.below HB.out) k hlt
      have hz0 : z0 l[k] = ⟨l[k].k, l[k].s, 0, l[k].v⟩ := rfl
      rw [hz0] at HS
      generalize l[k] = r at *
      have hA : Below wr.heap.size wr (wr.alloc (.cells #[.int .i64 r.k, .int .i64 r.s, .int .i64 0, .int .i64 r.v] 37)) := (Below.refl _ _).alloc (Nat.le_refl _) _
      have hA2 := hA.alloc (w := wr.alloc (.cells #[.int .i64 r.k, .int .i64 r.s, .int .i64 0, .int .i64 r.v] 37)) hA.size (.cells #[.int .i64 r.k, .int .i64 r.s, .int .i64 0, .int .i64 r.v] 69)
      have HO := hid (cellsG_oneQ (wr.alloc (.cells #[.int .i64 r.k, .int .i64 r.s, .int .i64 0, .int .i64 r.v] 37)) ⟨r.k, r.s, 0, r.v⟩)
      have HQ2 := hid (HQ.out.below hA2)
      have HB2 := hid (HB.out.trans (hA2.mono HB.out.size))
      have hsz : w.heap.size ≤ ((wr.alloc (.cells #[.int .i64 r.k, .int .i64 r.s, .int .i64 0, .int .i64 r.v] 37)).alloc (.cells #[.int .i64 r.k, .int .i64 r.s, .int .i64 0, .int .i64 r.v] 69)).heap.size := HB2.out.size
      rw [show (wr.alloc (.cells #[.int .i64 r.k, .int .i64 r.s, .int .i64 0, .int .i64 r.v] 37)).heap.size = wr.heap.size + 1 from by simp] at HO
      clear hA hA2 HQ HB hz0
      subst e
      go_wp2_with (at_builtin; refine wpList_pushQ rfl _ _ rfl w.heap.size _ D [(⟨r.k, r.s, 0, r.v⟩ : RecI)] _ 1 HQ2.out HO.out (by simp) rfl 1 rfl rfl (hn100 hlt) hsz ?_)
      intro v' w' hq hb
      have HQ := hid hq
      have HB := hid (HB2.out.trans hb)
      clear hq hb HQ2 HB2 hsz HO g0 g1 g2 g3
      obtain ⟨pq', cq', e', -, -⟩ := HQ.out.cells
      obtain ⟨nq', hnq'⟩ : ∃ n, (D ++ [(⟨r.k, r.s, 0, r.v⟩ : RecI)]).length = n := ⟨_, rfl⟩
      rw [hnq'] at e'
      clear hnq'
      subst e'
      go_wp2_with ((with_reducible refine wpList_unguard ?_ ?_); (focus rfl))
      go_roundw
      case rel => exact ⟨k + 1, by omega, by go_num, by rw [HS.out]; exact HQ.out, HB.out⟩
      case measure => simp [intOf]; omega
    · rw [hDl (by omega)] at HQ
      subst e
      go_wp2_with ((with_reducible refine wpList_unguard ?_ ?_); (focus rfl))
      go_ret
      exact ⟨_, rfl, HQ.out, HB.out⟩
set_option maxHeartbeats 4000000 in
set_option maxRecDepth 100000 in
/-- What is wrong with records that are to be a base is what the log says. -/
theorem law15_wrong (a : Option Addr) (len cap : Nat) (l : List RecI) (w : World) (hl : len = l.length) (h100 : l.length * 32 ≤ 140737488355328) (hlc : len ≤ cap) (hc : cellsG w a 4 (l.map rcC)) :
    Calls Try.prog 25 #[.slice a len cap] w fun e w' => e = .returned (.int .i64 (fitsE l)) ∧ Below w.heap.size w w' := by
  have HP := hid (law15_Plain a len cap l w hl h100 hlc hc)
  subst hl
  clear hc
  (go_enter Try.func25, Try.ntmps25; try simp only [List.append])
  go_wp2_with ((with_reducible refine wpList_unguard ?_ ?_); (focus rfl))
  refine Calls.mono HP.out ?_; rintro e w1 ⟨v, rfl, hq, hb⟩
  obtain ⟨pq, cq, rfl, hlq, hcg⟩ := hq.cells
  rw [List.length_map] at hlq ⊢
  have HC := hid hcg
  have HB := hid hb
  clear hcg hb hq HP
  go_wp2_with ((with_reducible refine wpList_unguard ?_ ?_); (focus rfl))
  go_loopw [8] (fun v wr => ∃ k : Nat, k ≤ l.length ∧ v = .int .i64 k ∧ (l.take k).all fitB = true ∧ cellsG wr pq 4 ((l.map z0).map rcC) ∧ Below w.heap.size w wr) (fun v _ => l.length - (intOf v).toNat)
  case atStart => exact ⟨0, Nat.zero_le _, rfl, rfl, HC.out, HB.out⟩
  case round =>
    obtain ⟨k, hk, rfl, ht, hC, hB⟩ := hrel
    have HT := hid ht
    replace HB := hid hB
    replace HC := hid hC
    clear ht hB hC
    by_cases hlt : k < l.length
    · have HS := hid (fitsE_take l k hlt)
      have HAll : Hid (fitB l[k] = false → fitsE l = 1) := by
        intro h
        unfold fitsE
        rw [if_neg]
        rw [List.all_eq_true]
        intro hh
        rw [hh l[k] (List.getElem_mem hlt)] at h
        cases h
      obtain ⟨b, o, rfl, g0, g1, g2, g3⟩ := recs_at HC.out k (by rw [List.length_map]; exact hlt)
      simp only [List.getElem_map] at g0 g1 g2 g3
      generalize l[k] = r at *
      replace g0 : wr.cell? ⟨b, o + k * 4, none⟩ = some (.int .i64 r.k) := g0
      replace g1 : wr.cell? ⟨b, o + k * 4 + 1, none⟩ = some (.int .i64 r.s) := g1
      replace g2 : wr.cell? ⟨b, o + k * 4 + 2, none⟩ = some (.int .i64 0) := g2
      replace g3 : wr.cell? ⟨b, o + k * 4 + 3, none⟩ = some (.int .i64 r.v) := g3
      have hA : Below wr.heap.size wr (wr.alloc (.cells #[.int .i64 r.k, .int .i64 r.s, .int .i64 0, .int .i64 r.v] 69)) := (Below.refl _ _).alloc (Nat.le_refl _) _
      have hR : Blk (wr.alloc (.cells #[.int .i64 r.k, .int .i64 r.s, .int .i64 0, .int .i64 r.v] 69)) wr.heap.size 69 #[.int .i64 r.k, .int .i64 r.s, .int .i64 0, .int .i64 r.v] := Blk.new wr _ _
      have HR2 := hid hR
      have HF : Hid (fitB r = (recOk r.k r.s 0 r.v && decide (r.k < 126))) := rfl
      have HRI := fun w => hid (ref14_Right r.k r.s 0 r.v w)
      generalize recOk r.k r.s 0 r.v = x1 at *
      obtain ⟨x2, hx2⟩ : ∃ x, decide (125 < r.k) = x := ⟨_, rfl⟩
      have HF2 : Hid (fitB r = (x1 && !x2)) := by
        show _ = _
        rw [HF.out, ← hx2]
        congr 1
        rw [Bool.eq_iff_iff]; simp; omega
      replace HB := hid (HB.out.trans (hA.mono HB.out.size))
      replace HC := hid (HC.out.below hA)
      clear hA hR HF
      go_wp2_with ((with_reducible refine wpList_unguard ?_ ?_); (focus rfl))
      clear g0 g1 g2 g3
      generalize wr.alloc (.cells #[.int .i64 r.k, .int .i64 r.s, .int .i64 0, .int .i64 r.v] 69) = w4 at *
      refine Calls.mono (HRI _).out ?_; rintro e w5 ⟨rfl, hb⟩
      replace HR2 := hid (HR2.out.below hb)
      replace HC := hid (HC.out.below hb)
      (replace HB := hid (HB.out.trans (hb.mono HB.out.size)); clear hb)
      have c0 : w5.cell? ⟨wr.heap.size, 0, none⟩ = some (.int .i64 r.k) := HR2.out.cell 0 _ rfl
      cases x1 with
      | false =>
        go_wp2_with ((with_reducible refine wpList_unguard ?_ ?_); (focus rfl))
        go_ret
        exact ⟨by rw [HAll.out (by rw [HF2.out]; rfl)]; rfl, HB.out⟩
      | true =>
        cases x2 with
        | true =>
          go_wp2_with ((with_reducible refine wpList_unguard ?_ ?_); (focus rfl))
          go_ret
          exact ⟨by rw [HAll.out (by rw [HF2.out]; rfl)]; rfl, HB.out⟩
        | false =>
          go_wp2_with ((with_reducible refine wpList_unguard ?_ ?_); (focus rfl))
          go_roundw
          case rel => exact ⟨k + 1, by omega, by go_num, by rw [HS.out, HT.out, HF2.out]; rfl, HC.out, HB.out⟩
          case measure => simp [intOf]; omega
    · have hTl : (l.take k) = l := List.take_of_length_le (by omega)
      have hAl : l.all fitB = true := by have := HT.out; rw [hTl] at this; exact this
      by_cases h12 : (12 : Int) < (l.length : Int)
      · have q : decide ((12 : Int) < (l.length : Int)) = true := decide_eq_true h12
        have HF : Hid (fitsE l = 9) := by show _ = _; unfold fitsE; rw [if_pos hAl, if_pos (by omega)]
        clear hTl hAl
        go_wp2_with ((with_reducible refine wpList_unguard ?_ ?_); (focus rfl))
        go_ret
        exact ⟨by rw [HF.out]; rfl, HB.out⟩
      · have q : decide ((12 : Int) < (l.length : Int)) = false := decide_eq_false h12
        have HF : Hid (fitsE l = 0) := by show _ = _; unfold fitsE; rw [if_pos hAl, if_neg (by omega)]
        clear hTl hAl
        go_wp2_with ((with_reducible refine wpList_unguard ?_ ?_); (focus rfl))
        go_ret
        exact ⟨by rw [HF.out]; rfl, HB.out⟩
def recEqQ (r s : RecI) : Bool := decide (r.k = s.k ∧ r.s = s.s ∧ r.n = s.n ∧ r.v = s.v)
theorem recEqQ_iff {r s : RecI} : recEqQ r s = true ↔ r = s := by
  unfold recEqQ
  rw [decide_eq_true_eq]
  constructor
  · rintro ⟨h1, h2, h3, h4⟩; cases r; cases s; simp_all
  · rintro rfl; exact ⟨rfl, rfl, rfl, rfl⟩
set_option maxRecDepth 100000 in
theorem neq_rec (r s : RecI) (w : World) :
    (binOp .neq 69 (.agg #[.int .i64 r.k, .int .i64 r.s, .int .i64 r.n, .int .i64 r.v]) (.agg #[.int .i64 s.k, .int .i64 s.s, .int .i64 s.n, .int .i64 s.v])).run Try.prog w = .ok (.bool (!(recEqQ r s))) w := by
  unfold recEqQ
  by_cases h1 : r.k = s.k <;> by_cases h2 : r.s = s.s <;> by_cases h3 : r.n = s.n <;> by_cases h4 : r.v = s.v <;> simp [go_sem, h1, h2, h3, h4]
theorem takes_eq {α : Type} {l m : List α} (h : l.length = m.length) (ht : ∀ i (h1 : i < l.length) (h2 : i < m.length), l[i] = m[i]) : l = m := List.ext_getElem h ht
set_option maxHeartbeats 4000000 in
set_option maxRecDepth 100000 in
theorem ref15_Same (a b : Option Addr) (c d : Nat) (l m : List RecI) (w : World) (hl : l.length ≤ 100000) (hm : m.length ≤ 100000) (hlc : l.length ≤ c) (hmd : m.length ≤ d) (ha : cellsG w a 4 (l.map rcC)) (hb : cellsG w b 4 (m.map rcC)) :
    Calls Try.prog 27 #[.slice a l.length c, .slice b m.length d] w fun e w' => ∃ x : Bool, e = .returned (.bool x) ∧ (x = true ↔ l = m) ∧ Below w.heap.size w w' := by
  have HA := hid ha
  have HB := hid hb
  clear ha hb
  (go_enter Try.func27, Try.ntmps27; try simp only [List.append])
  by_cases hlm : l.length = m.length
  · have q : ((l.length : Int) != (m.length : Int)) = false := by rw [bne_eq_false_iff_eq]; omega
    go_wp2_with ((with_reducible refine wpList_unguard ?_ ?_); (focus rfl))
    go_loopw [5] (fun v wr => ∃ k : Nat, k ≤ l.length ∧ v = .int .i64 k ∧ (∀ i (h1 : i < l.length) (h2 : i < m.length), i < k → l[i] = m[i]) ∧ cellsG wr a 4 (l.map rcC) ∧ cellsG wr b 4 (m.map rcC) ∧ Below w.heap.size w wr) (fun v _ => l.length - (intOf v).toNat)
    case atStart => exact ⟨0, Nat.zero_le _, rfl, fun i _ _ h => absurd h (Nat.not_lt_zero _), HA.out, HB.out, Below.refl _ _⟩
    case round =>
      obtain ⟨k, hk, rfl, ht, hA, hB, hb⟩ := hrel
      have HT := hid ht
      replace HA := hid hA
      replace HB := hid hB
      have HW := hid hb
      clear ht hA hB hb
      by_cases hlt : k < l.length
      · have hlt2 : k < m.length := by omega
        have HX : Hid (l[k] = m[k] → ∀ i (h1 : i < l.length) (h2 : i < m.length), i < k + 1 → l[i] = m[i]) := by
          intro h i h1 h2 h3
          by_cases hi : i = k
          · subst hi; exact h
          · exact HT.out i h1 h2 (by omega)
        have HY : Hid (l[k] ≠ m[k] → l ≠ m) := by
          intro h e; subst e; exact h rfl
        obtain ⟨b1, o1, rfl, g0, g1, g2, g3⟩ := recs_at HA.out k hlt
        obtain ⟨b2, o2, rfl, k0, k1, k2, k3⟩ := recs_at HB.out k hlt2
        generalize l[k] = r at *
        generalize m[k] = s at *
        have hne := fun w => neq_rec r s w
        obtain ⟨x, hx⟩ : ∃ x, recEqQ r s = x := ⟨_, rfl⟩
        rw [hx] at hne
        cases x with
        | false =>
          have HN : Hid (r ≠ s) := fun h => by rw [recEqQ_iff.2 h] at hx; cases hx
          clear hx
          go_wp2
          go_region
          go_wp2_with ((with_reducible refine wpList_unguard ?_ ?_); (focus rfl))
          go_ret
          exact ⟨_, rfl, ⟨fun h => (Bool.noConfusion h : False).elim, fun h => absurd h (HY.out HN.out)⟩, HW.out.drew⟩
        | true =>
          have HN : Hid (r = s) := recEqQ_iff.1 hx
          clear hx
          go_wp2
          go_region
          go_wp2_with ((with_reducible refine wpList_unguard ?_ ?_); (focus rfl))
          go_roundw
          case rel => exact ⟨k + 1, by omega, by go_num, HX.out HN.out, HA.out.below ((Below.refl _ _).drew), HB.out.below ((Below.refl _ _).drew), HW.out.drew⟩
          case measure => simp [intOf]; omega
      · have HE : Hid (l = m) := takes_eq hlm fun i h1 h2 => HT.out i h1 h2 (by omega)
        go_wp2_with ((with_reducible refine wpList_unguard ?_ ?_); (focus rfl))
        go_ret
        exact ⟨_, rfl, ⟨fun _ => HE.out, fun _ => rfl⟩, HW.out⟩
  · have q : ((l.length : Int) != (m.length : Int)) = true := by rw [bne_iff_ne]; omega
    go_wp2_with ((with_reducible refine wpList_unguard ?_ ?_); (focus rfl))
    go_ret
    exact ⟨_, rfl, ⟨fun h => (Bool.noConfusion h : False).elim, fun e => absurd (by rw [e]) hlm⟩, Below.refl _ _⟩
end Go.Proofs.Ytngkmlchblgmeaa

namespace Go.Proofs.Ytngkmlchblgmeaa
open Go.RowKit Tri

theorem recQ.own {w : World} {base : Nat} {v : Value} {l : List RecI} (h : recQ w base v l) : ∀ g, v.ownBlock = some g → base ≤ g ∧ g < w.heap.size ∧ ∃ cur, w.heap[g]? = some (.cells cur 69) := by
  intro g hg
  rcases h.2 with ⟨e, _⟩ | ⟨g', cap, cur, e, h3, h4, _⟩
  · rw [e] at hg; cases hg
  · rw [e] at hg
    simp only [Value.ownBlock, Option.some.injEq] at hg
    subst hg
    exact ⟨h3, (Array.getElem?_eq_some_iff.1 h4).1, cur, h4⟩
theorem recJ.own2 {w : World} {base : Nat} {v : Value} {l : List RecI} (h : recJ w base v l) : ∀ g, v.ownBlock = some g → base ≤ g ∧ g < w.heap.size ∧ ∃ cur, w.heap[g]? = some (.cells cur 37) := by
  intro g hg
  rcases h.2 with ⟨e, _⟩ | ⟨g', cap, cur, e, h3, h4, _⟩
  · rw [e] at hg; cases hg
  · rw [e] at hg
    simp only [Value.ownBlock, Option.some.injEq] at hg
    subst hg
    exact ⟨h3, (Array.getElem?_eq_some_iff.1 h4).1, cur, h4⟩
/-- Rows of the two types lie in different blocks. -/
theorem recJ.apart {w : World} {b0 bq : Nat} {rs v : Value} {l m : List RecI} (hj : recJ w b0 rs l) (hq : recQ w bq v m) : ∀ g, v.ownBlock = some g → rs.ownBlock ≠ some g := by
  intro g hg hr
  obtain ⟨-, -, c1, e1⟩ := hq.own g hg
  obtain ⟨-, -, c2, e2⟩ := hj.own2 g hr
  rw [e1] at e2
  simp at e2
theorem recQ.outA {w w' : World} {b0 bq lo hi L : Nat} {rs v : Value} {l m : List RecI} (hq : recQ w bq v m) (hj : recJ w b0 rs l) (ho : OutA lo hi L rs w w') (h1 : hi ≤ bq) (h2 : L < bq) : recQ w' bq v m :=
  hq.keep fun g g1 g2 g3 => ho.block g g2 (.inr (Nat.le_trans h1 g1)) (by omega) (hj.apart hq g g3)
theorem recQ.out {w w' : World} {bq lo hi : Nat} {v : Value} {m : List RecI} (hq : recQ w bq v m) (ho : Out lo hi w w') (h1 : hi ≤ bq) : recQ w' bq v m :=
  hq.keep fun g g1 g2 _ => ho.block g g2 (.inr (Nat.le_trans h1 g1))
theorem DevP.grownQ {w w' : World} {i : DI} {n bq : Nat} {s : FS} {v : Value} {m : List RecI} (h : DevP w i n s) (hq : recQ w bq v m) (hg : w.grownBy w' v.ownBlock) (hb : i.hi ≤ bq) : DevP w' i n s :=
  h.out (lo := i.hi) (hi := w'.heap.size + i.hi + 1) ⟨hg.os, hg.tape, hg.output, hg.size, fun k h1 h2 => hg.block k h1 fun e => by have := hq.own k e.symm; have := hg.size; omega⟩ (.inr (Nat.le_refl _))
theorem _root_.Tri.LogP.grownQ {w w' : World} {i : DI} {L S at_ : Nat} {rs : Value} {recs : List RecI} {gen : Int} {used : Nat} {holds clean : Bool} {b0 bq : Nat} {v : Value} {m : List RecI} (h : LogP i L S at_ rs recs gen used holds clean b0 w) (hq : recQ w bq v m) (hg : w.grownBy w' v.ownBlock) (h1 : L < bq) (h2 : S < bq) : LogP i L S at_ rs recs gen used holds clean b0 w' := by
  have kb : ∀ k, k < bq → k < w.heap.size → w'.heap[k]? = w.heap[k]? := fun k h3 h4 => hg.block k h4 fun e => by have := hq.own k e.symm; omega
  refine ⟨⟨?_, ?_, h.hw.hLo, h.hw.hSo⟩, h.hj.keep fun g g1 g2 g3 => hg.block g g2 fun e => (h.hj.apart hq g e.symm) g3, h.hL, h.hS, h.hi, h.ne⟩
  · unfold Blk; rw [kb L h1 h.hw.hL.lt]; exact h.hw.hL
  · have h3 := h.hw.hS
    unfold isC at h3 ⊢
    rw [kb S h2 h.hw.hS.lt]; exact h3
theorem _root_.Go.RowKit.Below.grownQ {n : Nat} {w0 w w' : World} {bq : Nat} {v : Value} {m : List RecI} (h : Below n w0 w) (hq : recQ w bq v m) (hg : w.grownBy w' v.ownBlock) (hn : n ≤ bq) (hn0 : n ≤ w0.heap.size) : Below n w0 w' :=
  h.grown hg (Nat.le_trans hn0 h.size) fun b hb => by have := hq.own b hb; omega
theorem R4.outA {w w' : World} {B lo hi L : Nat} {rs : Value} {a b c d : Int} (h : R4 w B a b c d) (ho : OutA lo hi L rs w w') (h1 : hi ≤ B) (h2 : L < B) (h3 : ∀ g, rs.ownBlock = some g → g < B) : R4 w' B a b c d := by
  unfold R4
  rw [ho.block B (Array.getElem?_eq_some_iff.1 h).1 (.inr h1) (by omega) (fun e => by have := h3 B e; omega)]
  exact h
theorem cellsG.offL {w : World} {p : Option Addr} {l : List RecI} {lo hi : Nat} (h : cellsG w p 4 (l.map rcC)) (hlo : w.heap.size ≤ lo) : offL l p lo hi := by
  intro hne a o s e
  obtain ⟨b, o', e', hc⟩ := h 0 (by rw [List.length_map]; exact List.length_pos_iff.2 hne)
  rw [e'] at e
  simp only [Option.some.injEq, Addr.mk.injEq] at e
  obtain ⟨rfl, -, -⟩ := e
  match l, hne with
  | r :: l, _ => exact .inl (Nat.lt_of_lt_of_le (block_lt_of_cell (hc 0 (.int .i64 r.k) rfl)) hlo)
theorem z0_idem (l : List RecI) : (l.map z0).map z0 = l.map z0 := by rw [List.map_map]; rfl
/-- How it stands between two rounds of LogOrder. -/
structure OrdI (i : DI) (L S b0 bq : Nat) (l0 acc : List RecI) (rs u : Value) (s : FS) (wr : World) : Prop where
  calm : Tri.Calm s
  h0 : HalfIs s 0 (allR 1 l0 ++ acc)
  h1 : HalfIs s 1 []
  fit : (l0 ++ acc).all fitB = true
  len : l0.length + 2 + acc.length ≤ 16
  dev : DevP wr i 27 s
  log : LogP i L S 0 rs ((l0 ++ acc).map z0) 1 (l0.length + 2 + acc.length) true true b0 wr
  want : recQ wr bq u ((l0 ++ acc).map z0)
  sz : b0 ≤ wr.heap.size ∧ bq ≤ wr.heap.size
theorem OrdI.below {i : DI} {L S b0 bq : Nat} {l0 acc : List RecI} {rs u : Value} {s : FS} {w w' : World} (h : OrdI i L S b0 bq l0 acc rs u s w) (hb : Below w.heap.size w w') : OrdI i L S b0 bq l0 acc rs u s w' :=
  ⟨h.calm, h.h0, h.h1, h.fit, h.len, h.dev.below hb, h.log.below hb, h.want.below hb, Nat.le_trans h.sz.1 hb.size, Nat.le_trans h.sz.2 hb.size⟩
end Go.Proofs.Ytngkmlchblgmeaa

namespace Tri
open Go Go.RowKit Go.Proofs.Ytngkmlchblgmeaa
def upd (f : Nat → Nat) (P v : Nat) : Nat → Nat := fun p => if p = P then v else f p
/-- Bytes are turned in one copy of each page of half 0 alone. -/
structure RotI (s0 s : FS) (side : Nat → Nat) : Prop where
  dn : s.dn = false
  len : s.b.length = 1728
  pg : ∀ p c, p < 16 → c < 2 → side p ≠ c + 1 → pgB s 0 c p = pgB s0 0 c p
  h1 : ∀ p c, p < 16 → c < 2 → pgB s 1 c p = pgB s0 1 c p
  rng : ∀ p, side p ≤ 2
theorem RotI.refl {s : FS} (h1 : s.dn = false) (h2 : s.b.length = 1728) : RotI s s (fun _ => 0) := ⟨h1, h2, fun _ _ _ _ _ => rfl, fun _ _ _ _ => rfl, fun _ => Nat.zero_le _⟩
theorem pg_same {s s' : FS} {h c p : Nat} (h1 : s.b.length = 1728) (h2 : s'.b.length = 1728) (hh : h < 2) (hc : c < 2) (hp : p < 16) (hb : ∀ q, q < 16 → s'.at_ (placeAt h c p + q) = s.at_ (placeAt h c p + q)) : pgB s' h c p = pgB s h c p := by
  have e := place_eq h c p
  refine pgB_eq h2 hh hc hp (by unfold pgB; rw [List.length_take, List.length_drop]; omega) fun q hq => ?_
  rw [pgB_at h1 hh hc hp q hq]
  exact hb q hq
theorem RotI.turn {s0 s : FS} {side : Nat → Nat} (h : RotI s0 s side) (P C A y : Nat) (hP : P < 16) (hC : C < 2) (hA : A < 16) (hs : side P ≠ 2 - C) :
    RotI s0 { s with b := fillB (fun j x => x ^^^ [y].getD j 0) (64 * (9 + 4 * C) + 16 * P + A) 1 s.b } (upd side P (C + 1)) := by
  have hlen : (fillB (fun j x => x ^^^ [y].getD j 0) (64 * (9 + 4 * C) + 16 * P + A) 1 s.b).length = 1728 := by rw [fillB_length]; exact h.len
  have hat : ∀ j, j < 1728 → j ≠ 64 * (9 + 4 * C) + 16 * P + A → ({ s with b := fillB (fun j x => x ^^^ [y].getD j 0) (64 * (9 + 4 * C) + 16 * P + A) 1 s.b } : FS).at_ j = s.at_ j := by
    intro j hj hne
    unfold FS.at_
    show (fillB (fun j x => x ^^^ [y].getD j 0) (64 * (9 + 4 * C) + 16 * P + A) 1 s.b).getD j 0 = _
    rw [fillB_at _ _ _ _ _ (by rw [h.len]; exact hj), if_neg (by omega)]
  have hsame : ∀ f c p, f < 2 → c < 2 → p < 16 → (f ≠ 0 ∨ c ≠ C ∨ p ≠ P) → pgB ({ s with b := fillB (fun j x => x ^^^ [y].getD j 0) (64 * (9 + 4 * C) + 16 * P + A) 1 s.b } : FS) f c p = pgB s f c p := by
    intro f c p hf hc hp hne
    refine pg_same h.len hlen hf hc hp fun q hq => ?_
    have e := place_eq f c p
    refine hat _ (by omega) ?_
    rw [e]
    omega
  refine ⟨h.dn, hlen, ?_, ?_, ?_⟩
  · intro p c hp hc hsd
    by_cases hpP : p = P
    · subst hpP
      have h2 : C ≠ c := by
        intro e; subst e
        exact hsd (by unfold upd; rw [if_pos rfl])
      rw [hsame 0 c p (by omega) hc hp (by omega)]
      exact h.pg p c hp hc (by omega)
    · rw [hsame 0 c p (by omega) hc hp (by omega)]
      refine h.pg p c hp hc ?_
      unfold upd at hsd
      rw [if_neg hpP] at hsd
      exact hsd
  · intro p c hp hc
    rw [hsame 1 c p (by omega) hc hp (by omega)]
    exact h.h1 p c hp hc
  · intro p
    unfold upd
    split
    · omega
    · exact h.rng p
/-- Records are there as long as what is turned is no record's. -/
theorem RotI.has {s0 s : FS} {side : Nat → Nat} {l : List RecI} (h : RotI s0 s side) (h0 : HalfIs s0 0 l) (hok : ∀ r ∈ l, recOk r.k r.s 0 r.v = true) (hb : ∀ p, l.length ≤ p → p < 16 → side p = 0)
    (hg : ∀ p, p < 16 → side p ≠ 0 → getOk (pgB s 0 (side p - 1) p) = false) : HalfHas s 0 l := by
  intro p hp
  have hr := h.rng p
  refine ⟨fun r hr' => ?_, fun hl => ?_⟩
  · have hx : pageL l p = pgI p r := by unfold pageL; rw [hr']
    obtain ⟨h1, h2, h3⟩ := recOk_any (hok r (List.mem_of_getElem? hr')) p hp
    have hcp : ∀ c, c < 2 → pgB s 0 c p = pgI p r ∨ getOk (pgB s 0 c p) = false := by
      intro c hc
      by_cases hsd : side p = c + 1
      · refine .inr ?_
        have := hg p hp (by omega)
        rw [hsd] at this
        exact this
      · exact .inl ((h.pg p c hp hc hsd).trans ((h0 c p hc hp).trans hx))
    have hP : PgHas s 0 p (pgI p r) := ⟨h3, hcp, by
      by_cases hsd : side p = 1
      · exact .inr ((h.pg p 1 hp (by omega) (by omega)).trans ((h0 1 p (by omega) hp).trans hx))
      · exact .inl ((h.pg p 0 hp (by omega) (by omega)).trans ((h0 0 p (by omega) hp).trans hx))⟩
    exact ⟨hP.v4.1, hP.v4.2.trans h2⟩
  · have hx : pageL l p = List.replicate 16 255 := by unfold pageL; rw [List.getElem?_eq_none hl]
    have hs := hb p hl hp
    unfold pgV4
    rw [(h.pg p 0 hp (by omega) (by omega)).trans (h0 0 p (by omega) hp), (h.pg p 1 hp (by omega) (by omega)).trans (h0 1 p (by omega) hp), hx]
    show (oneB p (List.replicate 16 255) || oneB p (List.replicate 16 255)) = false
    rw [oneB_bad getOk_blank]; rfl
theorem RotI.blank {s0 s : FS} {side : Nat → Nat} (h : RotI s0 s side) (h1 : HalfIs s0 1 []) : HalfIs s 1 [] := fun c p hc hp => (h.h1 p c hp hc).trans (h1 c p hc hp)
end Tri
namespace Go.Proofs.Ytngkmlchblgmeaa
open Go.RowKit Tri

/-- The array of sides, as a block. -/
def sideC (f : Nat → Nat) : Array Value := ((List.range 16).map fun p => Value.int .i64 (f p : Nat)).toArray
def sideB (w : World) (B : Nat) (f : Nat → Nat) : Prop := w.heap[B]? = some (.cells (sideC f) 61)
theorem sideB.lt {w : World} {B : Nat} {f : Nat → Nat} (h : sideB w B f) : B < w.heap.size := (Array.getElem?_eq_some_iff.1 h).1
theorem sideC_at (f : Nat → Nat) {P : Nat} (hP : P < 16) : (sideC f)[P]? = some (.int .i64 (f P : Nat)) := by
  unfold sideC
  rw [List.getElem?_toArray, List.getElem?_map, List.getElem?_range hP]; rfl
theorem sideB.cell {w : World} {B : Nat} {f : Nat → Nat} (h : sideB w B f) {P : Nat} (hP : P < 16) : w.cell? ⟨B, P, none⟩ = some (.int .i64 (f P : Nat)) := by
  rw [cell_of_row w B P _ _ _ h, sideC_at f hP]
theorem sideB.free {w : World} {B : Nat} {f : Nat → Nat} (h : sideB w B f) (P : Nat) : w.frozen? ⟨B, P, none⟩ = false := by
  unfold sideB at h
  simp [World.frozen?, h]
theorem sideC_set (f : Nat → Nat) {P : Nat} (v : Nat) (hP : P < 16) : (sideC f).setIfInBounds P (.int .i64 (v : Nat)) = sideC (upd f P v) := by
  apply Array.ext_getElem?
  intro j
  have hsz : (sideC f).size = 16 := by unfold sideC; simp
  have hsz2 : (sideC (upd f P v)).size = 16 := by unfold sideC; simp
  by_cases hj : j < 16
  · rw [sideC_at _ hj]
    by_cases e : P = j
    · subst e
      rw [Array.getElem?_setIfInBounds_self_of_lt (by omega)]
      unfold upd; rw [if_pos rfl]
    · rw [Array.getElem?_setIfInBounds_ne e, sideC_at _ hj]
      unfold upd; rw [if_neg (fun h => e h.symm)]
  · rw [Array.getElem?_eq_none (by simp [hsz]; omega), Array.getElem?_eq_none (by omega)]
theorem sideB.set {w : World} {B : Nat} {f : Nat → Nat} (h : sideB w B f) {P : Nat} (hP : P < 16) (v : Nat) : sideB (w.setCell ⟨B, P, none⟩ (.int .i64 (v : Nat))) B (upd f P v) := by
  have := heap_setCell_same w B P _ _ (.int .i64 (v : Nat)) h
  rw [sideC_set f v hP] at this
  exact this
theorem sideB.below {w w' : World} {B : Nat} {f : Nat → Nat} (h : sideB w B f) (hb : Below w.heap.size w w') : sideB w' B f := (hb.block B h.lt).trans h
theorem sideB.out {w w' : World} {B lo hi : Nat} {f : Nat → Nat} (h : sideB w B f) (ho : Out lo hi w w') (hB : hi ≤ B) : sideB w' B f := (ho.block B h.lt (.inr hB)).trans h
theorem sideB.new (w : World) : sideB (w.alloc (.cells #[.int .i64 0, .int .i64 0, .int .i64 0, .int .i64 0, .int .i64 0, .int .i64 0, .int .i64 0, .int .i64 0, .int .i64 0, .int .i64 0, .int .i64 0, .int .i64 0, .int .i64 0, .int .i64 0, .int .i64 0, .int .i64 0] 61)) w.heap.size (fun _ => 0) := heap_alloc_new w _

theorem _root_.Tri.LogP.setB {w : World} {i : DI} {L S at_ : Nat} {rs : Value} {recs : List RecI} {gen : Int} {used : Nat} {holds clean : Bool} {b0 B : Nat} {f : Nat → Nat} (h : LogP i L S at_ rs recs gen used holds clean b0 w) (hs : sideB w B f) (P : Nat) (v : Value) : LogP i L S at_ rs recs gen used holds clean b0 (w.setCell ⟨B, P, none⟩ v) := by
  have key : ∀ k, k ≠ B → (w.setCell ⟨B, P, none⟩ v).heap[k]? = w.heap[k]? := fun k hk => heap_setCell_other w _ k v hk
  have hsd : w.heap[B]? = some (.cells (sideC f) 61) := hs
  refine ⟨⟨?_, ?_, h.hw.hLo, h.hw.hSo⟩, h.hj.keep fun g g1 g2 g3 => key g fun e => ?_, h.hL, h.hS, h.hi, h.ne⟩
  · unfold Blk
    rw [key L fun e => ?_]
    · exact h.hw.hL
    · have h1 := h.hw.hL
      unfold Blk at h1
      rw [e, hsd] at h1
      simp at h1
  · have h1 := h.hw.hS
    unfold isC at h1 ⊢
    rw [key S fun e => ?_]
    · exact h1
    · rw [e, hsd] at h1
      simp at h1
  · subst e
    obtain ⟨-, -, cur, h1⟩ := h.hj.own2 g g3
    rw [hsd] at h1
    simp at h1
theorem RotI.to_rot (s : FS) (C P A y : Nat) (hC : C < 2) (hP : P < 16) (hA : A < 16) : s.rot 27 ((64 * (9 + 4 * C) + 16 * P + A : Nat) : Int) [y] = { s with b := fillB (fun j x => x ^^^ [y].getD j 0) (64 * (9 + 4 * C) + 16 * P + A) 1 s.b } ∧ FS.rotE 27 ((64 * (9 + 4 * C) + 16 * P + A : Nat) : Int) [y] = 0 := by
  have hc : 0 ≤ ((64 * (9 + 4 * C) + 16 * P + A : Nat) : Int) ∧ ((64 * (9 + 4 * C) + 16 * P + A : Nat) : Int) + ([y].length : Nat) ≤ 64 * (27 : Nat) := by
    rw [List.length_singleton]; omega
  unfold FS.rot FS.rotE
  rw [if_pos hc, if_pos hc, Int.toNat_natCast]
  exact ⟨rfl, rfl⟩
theorem dump_size (s : FS) (hl : s.b.length = 1728) (c : Nat) (hc : c < 27) : (ofB (s.dumpB 27 (c : Nat))).size = 64 := by
  rw [ofB_size]
  unfold FS.dumpB
  rw [if_pos (by omega), Int.toNat_natCast, List.length_take, List.length_drop]
  omega
/-- A page of half 0, out of the dump. -/
theorem dump_page (s : FS) (hl : s.b.length = 1728) (hb : ∀ y ∈ s.b, y < 256) (c p : Nat) (hc : c < 2) (hp : p < 16) : sb ((ofB (s.dumpB 27 ((9 + 4 * c + p / 4 : Nat) : Int))).extract (p % 4 * 16) (p % 4 * 16 + 16)) = pgB s 0 c p := by
  rw [sb_extract, sb_ofB]
  · unfold FS.dumpB pgB
    rw [if_pos (by omega), Int.toNat_natCast, place_eq, Nat.add_sub_cancel_left, List.drop_take, List.take_take, List.drop_drop]
    rw [show min 16 (64 - p % 4 * 16) = 16 from by omega, show 64 * (9 + 4 * c + p / 4) + p % 4 * 16 = 576 + 512 * 0 + 256 * c + 16 * p from by omega]
  · intro x hx
    unfold FS.dumpB at hx
    rw [if_pos (by omega)] at hx
    exact hb x (List.mem_of_mem_drop (List.mem_of_mem_take hx))
theorem Try.infoStr : (Try.prog.info? 9).map (fun i => (i.zero, i.size, i.bytes)) = some (some (.string ByteArray.empty), 1, 16) := by kernel_rfl
/-- A row of texts that the call owns. -/
def recS (w : World) (base : Nat) (v : Value) (l : List ByteArray) : Prop := w.ownsRow base 9 1 v l.length (l.map Value.string)
theorem recS.keep {w w' : World} {base : Nat} {v : Value} {l : List ByteArray} (h : recS w base v l) (hk : ∀ g, base ≤ g → g < w.heap.size → v.ownBlock = some g → w'.heap[g]? = w.heap[g]?) : recS w' base v l := by
  obtain ⟨h1, h2⟩ := h
  refine ⟨h1, ?_⟩
  rcases h2 with h2 | ⟨g, cap, cur, rfl, h3, h4, h5⟩
  · exact .inl h2
  · exact .inr ⟨g, cap, cur, rfl, h3, by rw [hk g h3 (Array.getElem?_eq_some_iff.1 h4).1 rfl]; exact h4, h5⟩
theorem recS.below {w w' : World} {base : Nat} {v : Value} {l : List ByteArray} (h : recS w base v l) (hb : Below w.heap.size w w') : recS w' base v l := h.keep fun g _ h2 _ => hb.block g h2
theorem recS.cells {w : World} {base : Nat} {v : Value} {l : List ByteArray} (h : recS w base v l) (hl : l ≠ []) : ∃ g c, v = .slice (some ⟨g, 0, none⟩) l.length c ∧ l.length ≤ c ∧ base ≤ g ∧ g < w.heap.size ∧ ∀ k (hk : k < l.length), w.cell? ⟨g, k, none⟩ = some (.string l[k]) := by
  have h' := h
  obtain ⟨h1, ⟨rfl, h0⟩ | ⟨g, cap, cur, rfl, hb, hh, hnc, hcm, hcs, ht⟩⟩ := h
  · exact absurd (List.eq_nil_of_length_eq_zero h0) hl
  · refine ⟨g, cap, rfl, hnc, hb, (Array.getElem?_eq_some_iff.1 hh).1, fun k hk => ?_⟩
    have h6 : w.ownsRow base 9 1 (.slice (some ⟨g, 0, none⟩) l.length cap) l.length (l.map Value.string) := h'
    have h5 := h6.cells (g := g) rfl k (.string l[k]) (by rw [List.getElem?_map, List.getElem?_eq_getElem hk]; rfl)
    rw [show (⟨g, 0, none⟩ : Addr).add k = ⟨g, k, none⟩ from by unfold Addr.add; split <;> simp_all] at h5
    exact h5
/-- A text appended to an own row. -/
theorem wpList_pushS {wr : World} {ops : Array Oper} {rest : List Oper} {o : Oper} {a : Act} {Q : Exit → Act → World → Prop} (hgd : o.guard = none) (s x : Operand)
    (ho : o.op = .call { callee := .builtin .append, args := #[s, x], argTypes := #[67, 67] })
    (base : Nat) (v : Value) (l : List ByteArray) (y : ByteArray) (g c : Nat) (hown : recS wr base v l) (hq : wr.cell? ⟨g, 0, none⟩ = some (.string y)) (hs : a.eval s = v) (hx : a.eval x = .slice (some ⟨g, 0, none⟩) 1 c) (hlen : l.length ≤ 100000) (hbase : base ≤ wr.heap.size)
    (h : ∀ v' w', recS w' base v' (l ++ [y]) → Below base wr w' → wpList Try.prog ops Q rest (a.put o.dst v') w') : wpList Try.prog ops Q (o :: rest) a wr := by
  obtain ⟨i0, hi, hz0, hz1, hz2⟩ := info_parts Try.infoStr
  refine wpList_append_own wr hgd s x 67 ho base 9 i0 (.string ByteArray.empty) 1 16 Try.underlying67 hi hz0 hz1 hz2 rfl (by decide) v l.length (l.map Value.string) hs hown
    ⟨g, 0, none⟩ 1 c [Value.string y] hx rfl ?_ ?_ ?_ ?_ hbase ?_
  · intro j u hj
    match j, hj with
    | 0, hj =>
      simp only [List.getElem?_cons_zero, Option.some.injEq] at hj
      subst hj
      exact hq
  · intro u hu
    simp only [List.mem_singleton] at hu
    subst hu; rfl
  · unfold maxLen; omega
  · omega
  · intro v' w' h2 h3 _
    refine h v' w' ?_ ?_
    · unfold recS; rw [List.length_append, List.length_singleton, List.map_append]; exact h2
    · refine ((Below.refl _ wr).mono hbase).grown h3 hbase ?_
      intro b hb
      rcases hown.2 with ⟨h4, _⟩ | ⟨g', cap, cur, h4, h5, _⟩
      · rw [h4] at hb; simp [Value.ownBlock] at hb
      · rw [h4] at hb; simp only [Value.ownBlock, Option.some.injEq] at hb; omega
def dumpL (s : FS) (n k : Nat) : List ByteArray := (List.range k).map fun c => ofB (s.dumpB n (c : Nat))
theorem dumpL_succ (s : FS) (n k : Nat) : dumpL s n (k + 1) = dumpL s n k ++ [ofB (s.dumpB n (k : Nat))] := by unfold dumpL; rw [List.range_succ, List.map_append]; rfl
theorem dumpL_len (s : FS) (n k : Nat) : (dumpL s n k).length = k := by unfold dumpL; simp
set_option maxHeartbeats 4000000 in
set_option maxRecDepth 100000 in
theorem law13_Dump (i : DI) (n : Nat) (s : FS) (w : World) (h : DevP w i n s) :
    Calls Try.prog 30 #[.pointer (some ⟨i.D, 0, none⟩)] w fun e w' => ∃ v, e = .returned v ∧ recS w' w.heap.size v (dumpL s n n) ∧ Below w.heap.size w w' := by
  have HD := hid h
  have hn : n ≤ 512 := h.fs.2.2.2.1
  clear h
  (go_enter Try.func30, Try.ntmps30; try simp only [List.append])
  go_wp2_with ((with_reducible refine wpList_unguard ?_ ?_); (focus rfl))
  go_loopw [4, 3] (fun v u wr => ∃ k : Nat, k ≤ n ∧ v = .int .i64 k ∧ recS wr w.heap.size u (dumpL s n k) ∧ Below w.heap.size w wr) (fun v _ _ => n - (intOf v).toNat)
  case atStart => exact ⟨0, Nat.zero_le _, rfl, World.ownsRow_nil _ _ _ _, Below.refl _ _⟩
  case round =>
    obtain ⟨k, hk, rfl, hq, hB⟩ := hrel
    have HQ := hid hq
    have HB := hid hB
    clear hq hB
    have HD2 := hid (HD.out.below HB.out)
    have hS := dev_Sectors i n s wr HD2.out
    go_wp2_with ((with_reducible refine wpList_unguard ?_ ?_); (focus rfl))
    refine Calls.mono hS ?_; rintro e w2 ⟨rfl, rfl⟩
    clear hS
    by_cases hlt : (k : Int) < n
    · have q : decide ((k : Int) < (n : Int)) = true := decide_eq_true hlt
      have hDu := dev_Dump i n s wr (k : Int) HD2.out
      go_wp2_with ((with_reducible refine wpList_unguard ?_ ?_); (focus rfl))
      refine Calls.mono hDu ?_; rintro e w2 ⟨rfl, rfl⟩
      clear hDu
      have hSu := hid (dumpL_succ s n k)
      have hLe : (dumpL s n k).length ≤ 100000 := by rw [dumpL_len]; omega
      generalize ofB (s.dumpB n (k : Nat)) = y at *
      generalize dumpL s n k = D at *
      have hA : Below wr.heap.size wr (wr.alloc (.cells #[.string y] 9)) := (Below.refl _ _).alloc (Nat.le_refl _) _
      have hc : (wr.alloc (.cells #[.string y] 9)).cell? ⟨wr.heap.size, 0, none⟩ = some (.string y) := World.cell?_alloc_new wr #[.string y] 9 0
      have HQ2 := hid (HQ.out.below hA)
      have HC := hid hc
      have HB2 := hid (HB.out.trans (hA.mono HB.out.size))
      have hsz : w.heap.size ≤ (wr.alloc (.cells #[.string y] 9)).heap.size := HB2.out.size
      clear hA hc HQ HB
      go_wp2_with (at_builtin; refine wpList_pushS rfl _ _ rfl w.heap.size _ D y wr.heap.size 1 HQ2.out HC.out rfl rfl hLe hsz ?_)
      intro v' w' hq hb
      have HQ := hid hq
      have HB := hid (HB2.out.trans hb)
      clear hq hb HQ2 HB2 hsz HC
      go_wp2_with ((with_reducible refine wpList_unguard ?_ ?_); (focus rfl))
      go_roundw
      case rel => exact ⟨k + 1, by omega, by go_num, by rw [hSu.out]; exact HQ.out, HB.out⟩
      case measure => simp [intOf]; omega
    · have q : decide ((k : Int) < (n : Int)) = false := decide_eq_false hlt
      obtain rfl : k = n := by omega
      go_wp2_with ((with_reducible refine wpList_unguard ?_ ?_); (focus rfl))
      go_ret
      exact ⟨_, rfl, HQ.out, HB.out⟩
end Go.Proofs.Ytngkmlchblgmeaa

namespace Go.Proofs.Ytngkmlchblgmeaa
open Go.ChangeShapes Go.WideShapes Go.ChangeAt Go.RowKit Tri
theorem cap_flat {H : Type} {enc : TypeId × Value → H} {W : World} {base t e j len cap bs : Nat} {a : Option Addr} {d : DataW H} {p : List MemPlace} {ts : List TypeId} {ds : List (DataW H)}
    (hsz : (DataW.weightsEach Try.prog ts ds).all (· ≤ reachBytes) = true) (ht : ts[j]? = some t) (hd : ds[j]? = some d)
    (hu : Try.prog.underlying t = some (.slice e)) (hb : Try.prog.bytesOf e = bs)
    (h : DataW.Trod enc Try.prog W base (fun _ => true) true t (.slice a len cap) d p) : cap * bs ≤ 140737488351232 := by
  obtain ⟨fuel, hf⟩ := h
  rcases DataW.trod_slice hu hf with ⟨hcs, _⟩ | ⟨x, l, c, elems, rest, n, _, hcs, hx, hbb, hl, hm, hlen, hel, hsp, _⟩
  · simp [Value.cells] at hcs
    obtain ⟨rfl, rfl, rfl⟩ := hcs
    omega
  · simp [Value.cells] at hcs
    obtain ⟨rfl, rfl, rfl⟩ := hcs
    simp only [Prod.mk.injEq] at hx
    obtain ⟨rfl, -⟩ := hx
    have h1 := sized_slice hsz ht hd hu
    simp only [List.length_map, hb, reachBytes] at h1
    have hr := (hsp rfl).1
    rw [show cap = elems.length + rest.length from by omega]
    exact h1
/-- What is told of a slice of records that came in, its weight among it. -/
def IsRecsW (w : World) (a : Option Addr) (len cap : Nat) (l : List RecI) : Prop := IsRecs w a len cap l ∧ cap * 32 ≤ 140737488351232
set_option linter.constructorNameAsVariable false in
set_option maxRecDepth 1000000 in
theorem open_recsW {H : Type} {enc : TypeId × Value → H} {W : World} {base t j len cap : Nat} {a : Option Addr} {d : DataW H} {p : List MemPlace} {ts : List TypeId} {ds : List (DataW H)}
    (hsz : (DataW.weightsEach Try.prog ts ds).all (· ≤ reachBytes) = true) (ht : ts[j]? = some t) (hd : ds[j]? = some d)
    (hu : Try.prog.underlying t = some (.slice 37)) (hk : flatOf Try.prog 37 rcK = true) (hb : Try.prog.bytesOf 37 = 32)
    (h : DataW.Trod enc Try.prog W base (fun _ => true) true t (.slice a len cap) d p) : ∃ l, IsRecsW W a len cap l := by
  obtain ⟨l, hl⟩ := open_recs hsz ht hd hu hk hb h
  exact ⟨l, hl, cap_flat hsz ht hd hu hb h⟩
end Go.Proofs.Ytngkmlchblgmeaa

namespace Tri
/-- A turn: page, copy, place, what it does. -/
structure TurnR where
  p : Nat
  c : Nat
  a : Nat
  y : Nat
def TurnR.ok (o : TurnR) : Prop := o.p < 256 ∧ o.c < 256 ∧ o.a < 256 ∧ o.y < 256
end Tri
namespace Go.Proofs.Ytngkmlchblgmeaa
open Go.ChangeShapes Go.WideShapes Go.ChangeAt Go.RowKit Tri
def tuC (o : TurnR) : List Value := [.int .u8 (o.p : Nat), .int .u8 (o.c : Nat), .int .u8 (o.a : Nat), .int .u8 (o.y : Nat)]
def tuK : List (TypeId × Option (Option IntKind)) := [(5, some (some .u8)), (5, some (some .u8)), (5, some (some .u8)), (5, some (some .u8))]
theorem tu_of {r : List Value} (hl : r.length = tuK.length) (h : ∀ (i : Nat) (k : TypeId × Option (Option IntKind)), tuK[i]? = some k → ∃ v, r[i]? = some v ∧ leafOk k.2 v) : ∃ o : TurnR, r = tuC o ∧ TurnR.ok o := by
  obtain ⟨v0, e0, x0, rfl, w0⟩ := h 0 _ rfl
  obtain ⟨v1, e1, x1, rfl, w1⟩ := h 1 _ rfl
  obtain ⟨v2, e2, x2, rfl, w2⟩ := h 2 _ rfl
  obtain ⟨v3, e3, x3, rfl, w3⟩ := h 3 _ rfl
  obtain ⟨m0, k0, rfl⟩ := u8_of w0
  obtain ⟨m1, k1, rfl⟩ := u8_of w1
  obtain ⟨m2, k2, rfl⟩ := u8_of w2
  obtain ⟨m3, k3, rfl⟩ := u8_of w3
  refine ⟨⟨m0, m1, m2, m3⟩, ?_, k0, k1, k2, k3⟩
  match r, hl with
  | [a, b, c, d], _ =>
    simp only [List.getElem?_cons_zero, List.getElem?_cons_succ, Option.some.injEq] at e0 e1 e2 e3
    subst e0 e1 e2 e3
    rfl
/-- What is told of a slice of turns that came in. -/
def IsTurns (w : World) (a : Option Addr) (len cap : Nat) (l : List TurnR) : Prop := len = l.length ∧ len ≤ cap ∧ cap ≤ 140737488351232 ∧ cellsG w a 4 (l.map tuC) ∧ ∀ o ∈ l, TurnR.ok o
theorem turns_of {w : World} {a : Option Addr} {len cap : Nat} {rows : List (List Value)} (h : IsFlat tuK w a len cap rows) : ∃ l, IsTurns w a len cap l := by
  obtain ⟨h1, h2, h3, h4, h5⟩ := h
  have key : ∀ rows : List (List Value), (∀ r ∈ rows, r.length = tuK.length ∧ ∀ (i : Nat) (k : TypeId × Option (Option IntKind)), tuK[i]? = some k → ∃ v, r[i]? = some v ∧ leafOk k.2 v) → ∃ l : List TurnR, rows = l.map tuC ∧ ∀ o ∈ l, TurnR.ok o := by
    intro rows
    induction rows with
    | nil => intro _; exact ⟨[], rfl, by simp⟩
    | cons r rows ih =>
      intro h
      obtain ⟨l, e, hl⟩ := ih (fun r' hr => h r' (List.mem_cons_of_mem _ hr))
      obtain ⟨o, e2, ho⟩ := tu_of (h r (List.mem_cons_self ..)).1 (h r (List.mem_cons_self ..)).2
      refine ⟨o :: l, by rw [List.map_cons, e, e2], ?_⟩
      intro o' ho'
      rcases List.mem_cons.1 ho' with rfl | h
      · exact ho
      · exact hl o' h
  obtain ⟨l, rfl, hl⟩ := key rows h5
  rw [List.length_map] at h1
  exact ⟨l, h1, h2, h3, h4, hl⟩
set_option linter.constructorNameAsVariable false in
set_option maxRecDepth 1000000 in
theorem open_turns {H : Type} {enc : TypeId × Value → H} {W : World} {base t j len cap : Nat} {a : Option Addr} {d : DataW H} {p : List MemPlace} {ts : List TypeId} {ds : List (DataW H)}
    (hsz : (DataW.weightsEach Try.prog ts ds).all (· ≤ reachBytes) = true) (ht : ts[j]? = some t) (hd : ds[j]? = some d)
    (hu : Try.prog.underlying t = some (.slice 63)) (hk : flatOf Try.prog 63 tuK = true) (hb : Try.prog.bytesOf 63 = 4)
    (h : DataW.Trod enc Try.prog W base (fun _ => true) true t (.slice a len cap) d p) : ∃ l, IsTurns W a len cap l := by
  obtain ⟨rows, hr⟩ := open_flat tuK hsz ht hd hu hk hb (by omega) (by decide) h
  exact turns_of hr
/-- One turn's cells. -/
theorem turns_at {w : World} {a : Option Addr} {l : List TurnR} (h : cellsG w a 4 (l.map tuC)) (k : Nat) (hk : k < l.length) : ∃ b o, a = some ⟨b, o, none⟩ ∧
    w.cell? ⟨b, o + k * 4, none⟩ = some (.int .u8 (l[k].p : Nat)) ∧ w.cell? ⟨b, o + k * 4 + 1, none⟩ = some (.int .u8 (l[k].c : Nat)) ∧ w.cell? ⟨b, o + k * 4 + 2, none⟩ = some (.int .u8 (l[k].a : Nat)) ∧ w.cell? ⟨b, o + k * 4 + 3, none⟩ = some (.int .u8 (l[k].y : Nat)) := by
  obtain ⟨b, o, e, hc⟩ := h k (by rw [List.length_map]; exact hk)
  have hg : (l.map tuC).getD k [] = tuC l[k] := by rw [List.getD_eq_getElem?_getD, List.getElem?_map, List.getElem?_eq_getElem hk]; rfl
  rw [hg] at hc
  exact ⟨b, o, e, hc 0 _ rfl, hc 1 _ rfl, hc 2 _ rfl, hc 3 _ rfl⟩
end Go.Proofs.Ytngkmlchblgmeaa

namespace Go.Proofs.Ytngkmlchblgmeaa
open Go.RowKit Tri

set_option maxHeartbeats 1000000 in
set_option maxRecDepth 100000 in
theorem ref2_Sum (s : ByteArray) (w : World) (hz : s.size ≤ 9000000000) :
    Calls Try.prog 82 #[.string s] w fun e w' => e = .returned (.int .i64 (csum (sb s) : Nat)) ∧ w = w' := by
  go_enter Try.func82, Try.ntmps82
  go_wp2
  go_loop [3, 4] (fun r i => ∃ k : Nat, k ≤ s.size ∧ i = .int .i64 k ∧ r = .int .i64 (creg 4294967295 ((sb s).take k) : Nat)) (fun _ i => s.size - (intOf i).toNat)
  case atStart => exact ⟨0, Nat.zero_le _, rfl, rfl⟩
  case round =>
    obtain ⟨k, hk, rfl, rfl⟩ := hrel
    have hR : creg 4294967295 ((sb s).take k) < 4294967296 := creg_lt _ (fun x hx => sb_lt s x (List.mem_of_mem_take hx)) _ (by omega)
    by_cases hlt : k < s.size
    · have hb := str_byte s k hlt
      have hx : (sb s).getD k 0 < 256 := sb_lt s _ (getD_mem _ k (by rw [sb_length]; exact hlt))
      have hts : Hid (creg 4294967295 ((sb s).take (k + 1)) = rbits 8 (creg 4294967295 ((sb s).take k)) ((sb s).getD k 0)) := by
        show _ = _; rw [take_snocN _ _ (by rw [sb_length]; exact hlt), creg_append, cbyte_rbits _ _ hx]; rfl
      generalize (sb s).getD k 0 = x at *
      generalize creg 4294967295 ((sb s).take k) = R at *
      go_wp2
      go_loop [3, 5, 6, 7] (fun r c i _ => ∃ n : Nat, ∃ q y : Nat, n ≤ 8 ∧ i = .int .i64 n ∧ r = .int .i64 q ∧ c = .int .i64 y ∧ q < 4294967296 ∧ y < 256 ∧ rbits (8 - n) q y = rbits 8 R x) (fun _ _ i _ => 8 - (intOf i).toNat)
      case atStart => exact ⟨0, R, x, by omega, rfl, rfl, rfl, hR, hx, rfl⟩
      case round =>
        clear hR hx
        obtain ⟨n, q, y, hn, rfl, rfl, rfl, hq, hy, hr⟩ := hrel
        have HR := hid hr
        clear hr
        by_cases hn8 : n < 8
        · have hst : Hid (rbits (8 - n) q y = rbits (8 - (n + 1)) (if q % 2 ≠ y % 2 then (q / 2) ^^^ 3988292384 else q / 2) (y / 2)) := by
            show _ = _
            rw [show 8 - n = (8 - (n + 1)) + 1 from by omega]; rfl
          have hxl : (q / 2) ^^^ 3988292384 < 4294967296 := Nat.xor_lt_two_pow (n := 32) (by omega) (by omega)
          have hxr : bits .xor .i64 ((q : Int) / 2) 3988292384 = ((q / 2 ^^^ 3988292384 : Nat) : Int) := by
            have := i64_xor_nat (q / 2) 3988292384 (by omega) (by omega)
            rw [← this]; rfl
          by_cases hne : q % 2 ≠ y % 2
          · have hcmp : ((q : Int) % 2 != (y : Int) % 2) = true := by rw [bne_iff_ne]; omega
            have hif : Hid ((if q % 2 ≠ y % 2 then (q / 2) ^^^ 3988292384 else q / 2) = (q / 2) ^^^ 3988292384) := if_pos hne
            clear hne
            generalize (q / 2) ^^^ 3988292384 = q' at *
            go_wp2
            go_round
            case rel => exact ⟨n + 1, q', y / 2, by omega, by go_num, rfl, rfl, hxl, by omega, by rw [← HR.out, hst.out, hif.out]⟩
            case measure => simp [intOf]; omega
          · have hcmp : ((q : Int) % 2 != (y : Int) % 2) = false := by rw [bne_eq_false_iff_eq]; omega
            have hif : Hid ((if q % 2 ≠ y % 2 then (q / 2) ^^^ 3988292384 else q / 2) = q / 2) := if_neg hne
            clear hne hxr hxl
            go_wp2
            go_round
            case rel => exact ⟨n + 1, q / 2, y / 2, by omega, by go_num, rfl, rfl, by omega, by omega, by rw [← HR.out, hst.out, hif.out]⟩
            case measure => simp [intOf]; omega
        · have hq8 : Hid (q = rbits 8 R x) := by
            have := HR.out
            rw [show 8 - n = 0 from by omega] at this
            exact this
          clear HR
          go_wp2
          go_round
          case rel => exact ⟨k + 1, by omega, by go_num, by rw [hts.out, hq8.out]⟩
          case measure => simp [intOf]; omega
    · have hpe : Hid (csum (sb s) = 4294967295 - creg 4294967295 ((sb s).take k)) := by show _ = _; rw [List.take_of_length_le (by rw [sb_length]; omega)]; rfl
      generalize creg 4294967295 ((sb s).take k) = R at *
      go_wp2
      go_ret
      exact ⟨by rw [hpe.out, show ((4294967295 - R : Nat) : Int) = 4294967295 - (R : Int) from by omega]; rfl, rfl⟩
end Go.Proofs.Ytngkmlchblgmeaa

namespace Go.Proofs.Ytngkmlchblgmeaa
open Go.RowKit Tri

theorem putB_cons (j x : Nat) : putB (j + 1) x = (x / 2 ^ (8 * j) % 256) :: putB j x := by
  unfold putB
  rw [List.range_succ_eq_map, List.map_cons, List.map_map]
  refine congr (congrArg List.cons (by simp)) (List.map_congr_left ?_)
  intro i hi
  have := List.mem_range.1 hi
  simp only [Function.comp_apply]
  rw [show j + 1 - 1 - i.succ = j - 1 - i from by omega]

set_option maxHeartbeats 2000000 in
set_option maxRecDepth 100000 in
theorem ref01_Put (sz : Nat) (p : Option Addr) (n c : Nat) (l : List Nat) (w : World) (h1 : 1 ≤ sz) (h7 : sz ≤ 7) (hn : n = l.length) (hp : cellsI w p l) (hl : l.length ≤ 1000) (hb : ∀ x ∈ l, x < 2 ^ (8 * sz)) :
    Calls Try.prog 81 #[.int .i64 sz, .slice p n c] w fun e w' => e = .returned (.tuple #[.string (ofB (putL sz l)), .int .i64 0]) ∧ Below w.heap.size w w' := by
  subst hn
  have HP := hid hp
  have HB := hid hb
  clear hp hb
  have HZ := hid h7
  have hd1 : decide ((sz : Int) < 1) = false := decide_eq_false (by omega)
  have hd7 : decide ((7 : Int) < (sz : Int)) = false := decide_eq_false (by omega)
  have hd7' : decide ((sz : Int) > 7) = false := decide_eq_false (by omega)
  clear h7
  (go_enter Try.func81, Try.ntmps81; try simp only [List.append])
  go_wp2_with ((with_reducible refine wpList_unguard ?_ ?_); (focus rfl))
  clear hd1 hd7 hd7'
  go_loopw [7, 6] (fun i v wr => ∃ k : Nat, k ≤ l.length ∧ i = .int .i64 k ∧ v = .string (ofB (putL sz (l.take k))) ∧ Below w.heap.size w wr) (fun i _ _ => l.length - (intOf i).toNat)
  case atStart => exact ⟨0, Nat.zero_le _, rfl, rfl, Below.refl _ _⟩
  case round =>
    obtain ⟨k, hk, rfl, rfl, hBl⟩ := hrel
    have HBl := hid hBl
    clear hBl
    by_cases hlt : k < l.length
    · obtain ⟨a, o, rfl, hc0⟩ := HP.out k hlt
      have hc : wr.cell? ⟨a, o + k, none⟩ = some (.int .i64 (l.getD k 0 : Nat)) := by
        rw [HBl.out.cell (p := ⟨a, o + k, none⟩) (block_lt_of_cell hc0)]; exact hc0
      have hx : Hid (l.getD k 0 < 2 ^ (8 * sz)) := HB.out _ (getD_mem l k hlt)
      clear hc0
      have hts : Hid (putL sz (l.take (k + 1)) = putL sz (l.take k) ++ putB sz (l.getD k 0)) := by
        show _ = _; rw [take_snocN l k hlt]; simp [putL]
      have hOs : Hid ((ofB (putL sz (l.take k))).size ≤ 7000) := by
        show _ ≤ _; rw [ofB_size, putL_length, List.length_take, Nat.min_eq_left hk]
        have := Nat.mul_le_mul HZ.out (show k ≤ 1000 by omega)
        omega
      generalize putL sz (l.take k) = O at *
      generalize l.getD k 0 = x at *
      go_wp2_with ((with_reducible refine wpList_unguard ?_ ?_); (focus rfl))
      obtain ⟨wo, rfl⟩ : ∃ wo : World, wo = wr := ⟨_, rfl⟩
      go_loopw [10, 9, 8] (fun j s n wr => ∃ m : Nat, m ≤ sz ∧ j = .int .i64 m ∧ s = .string (ofB (putB m x)) ∧ n = .int .i64 (x / 2 ^ (8 * m) : Nat) ∧ Below w.heap.size w wr) (fun j _ _ _ => sz - (intOf j).toNat)
      case atStart => exact ⟨0, Nat.zero_le _, rfl, rfl, by simp, HBl.out⟩
      case round =>
        obtain ⟨m, hm, rfl, rfl, rfl, hB2⟩ := hrel
        have HB2 := hid hB2
        clear hB2 HBl
        by_cases hml : m < sz
        · have hyy : Hid (x / 2 ^ (8 * (m + 1)) = x / 2 ^ (8 * m) / 256) := by
            show _ = _
            rw [Nat.div_div_eq_div_mul, show 8 * (m + 1) = 8 * m + 8 from by omega, Nat.pow_add]
          have hpc : Hid (putB (m + 1) x = (x / 2 ^ (8 * m) % 256) :: putB m x) := putB_cons m x
          have hps : (ofB (putB m x)).size = m := by rw [ofB_size, putB_length]
          have hyB : x / 2 ^ (8 * m) < 72057594037927936 := by
            have h8 : 2 ^ (8 * sz) ≤ 2 ^ 56 := Nat.pow_le_pow_right (by omega) (by have := HZ.out; omega)
            exact Nat.lt_of_le_of_lt (Nat.div_le_self _ _) (Nat.lt_of_lt_of_le hx.out h8)
          generalize x / 2 ^ (8 * m) = y at *
          generalize putB m x = q at *
          have hm7 : m < 7 := Nat.lt_of_lt_of_le hml HZ.out
          have hy0 : decide ((y : Int) ≥ 0) = true := decide_eq_true (by omega)
          have hy0' : decide ((0 : Int) ≤ (y : Int)) = true := decide_eq_true (by omega)
          have hcs : (convert 111 9 (.slice (some ⟨wr.heap.size, 0, none⟩) 1 1)).run Try.prog (wr.alloc (.cells #[.int .u8 ((y : Int) % 256)] 5)) =
              .ok (.string (ofB [y % 256])) (wr.alloc (.cells #[.int .u8 ((y : Int) % 256)] 5)) := conv_str (cellsB.new wr [y % 256] _ _ (by simp)) 1 1 rfl
          have hsz : (ofB [y % 256]).size + (ofB q).size ≤ 9223372036854775807 := by rw [ofB_size, hps]; simp; omega
          go_wp2_with ((with_reducible refine wpList_unguard ?_ ?_); (focus rfl))
          go_roundw
          case rel =>
            refine ⟨m + 1, by omega, by go_num, ?_, ?_, HB2.out.alloc HB2.out.size _⟩
            · rw [hpc.out]; show _ = Value.string (ofB ([y % 256] ++ q)); rw [ofB_append]
            · rw [hyy.out]; go_num
          case measure => simp [intOf]; omega
        · have he : m = sz := by omega
          subst he
          have hz : x / 2 ^ (8 * m) = 0 := Nat.div_eq_of_lt hx.out
          have hbs : (ofB (putB m x)).size = m := by rw [ofB_size, putB_length]
          have hsz : (ofB O).size + (ofB (putB m x)).size ≤ 9223372036854775807 := by have := hOs.out; have := HZ.out; omega
          rw [hz]
          go_wp2_with ((with_reducible refine wpList_unguard ?_ ?_); (focus rfl))
          go_roundw
          case rel => exact ⟨k + 1, by omega, by go_num, by rw [hts.out, ofB_append], HB2.out⟩
          case measure => simp [intOf]; omega
    · have hpe : Hid (putL sz (l.take k) = putL sz l) := by show _ = _; rw [List.take_of_length_le (by omega)]
      go_wp2_with ((with_reducible refine wpList_unguard ?_ ?_); (focus rfl))
      refine bodyPost_ret (v := .tuple #[.string (ofB (putL sz (l.take k))), .int .i64 0]) (by simp [results, Try.results81, go_sem]) rfl ⟨by rw [hpe.out], HBl.out⟩

/-- A block that holds the document's record. -/
def E4 (w : World) (B : Nat) (a b c d : Int) : Prop := w.heap[B]? = some (.cells #[.int .i64 a, .int .i64 b, .int .i64 c, .int .i64 d] 69)
theorem E4.lt {w : World} {B : Nat} {a b c d : Int} (h : E4 w B a b c d) : B < w.heap.size := (Array.getElem?_eq_some_iff.1 h).1
theorem E4.below {w w' : World} {B : Nat} {a b c d : Int} (h : E4 w B a b c d) (hb : Below w.heap.size w w') : E4 w' B a b c d := by
  unfold E4; rw [hb.block B h.lt]; exact h
theorem E4.c0 {w : World} {B : Nat} {a b c d : Int} (h : E4 w B a b c d) : w.cell? ⟨B, 0, none⟩ = some (.int .i64 a) := cell_of_row _ _ 0 _ _ _ h
theorem E4.c1 {w : World} {B : Nat} {a b c d : Int} (h : E4 w B a b c d) : w.cell? ⟨B, 1, none⟩ = some (.int .i64 b) := cell_of_row _ _ 1 _ _ _ h
theorem E4.c2 {w : World} {B : Nat} {a b c d : Int} (h : E4 w B a b c d) : w.cell? ⟨B, 2, none⟩ = some (.int .i64 c) := cell_of_row _ _ 2 _ _ _ h
theorem E4.c3 {w : World} {B : Nat} {a b c d : Int} (h : E4 w B a b c d) : w.cell? ⟨B, 3, none⟩ = some (.int .i64 d) := cell_of_row _ _ 3 _ _ _ h
theorem E4.free {w : World} {B : Nat} {a b c d : Int} (h : E4 w B a b c d) (i : Nat) : w.frozen? ⟨B, i, none⟩ = false := by
  unfold World.frozen?
  simp only
  rw [show w.heap[B]? = _ from h]
  simp

theorem ref01_PutV (sz : Nat) (vz : Int) (s : Nat) (l : List Nat) (vs : Array Value) (w : World) (t : TypeId) (n c : Nat) (hs : s = w.heap.size) (ez : vz = sz) (h1 : 1 ≤ sz) (h7 : sz ≤ 7) (hn : n = l.length)
    (hvs : vs.toList = l.map fun x => Value.int .i64 (x : Nat)) (hl : l.length ≤ 1000) (hb : ∀ x ∈ l, x < 2 ^ (8 * sz)) :
    Calls Try.prog 81 #[.int .i64 vz, .slice (some ⟨s, 0, none⟩) n c] (w.alloc (.cells vs t)) fun e w' => e = .returned (.tuple #[.string (ofB (putL sz l)), .int .i64 0]) ∧ Below w.heap.size w w' := by
  subst hs ez
  have hb1 : Below w.heap.size w (w.alloc (.cells vs t)) := (Below.refl _ _).alloc (Nat.le_refl _) _
  refine Calls.mono (ref01_Put sz _ n c l _ h1 h7 hn (cellsI.new w l vs t hvs) hl hb) ?_
  rintro e w' ⟨rfl, hb2⟩
  exact ⟨rfl, hb1.trans (hb2.mono hb1.size)⟩

set_option maxHeartbeats 4000000 in
set_option maxRecDepth 100000 in
theorem ref14_Put (k s n v : Nat) (w : World) (hk : k ≤ 127) (hs : s ≤ 3) (hn : n ≤ 65535) (hv : v ≤ 281474976710655) :
    Calls Try.prog 61 #[.agg #[.int .i64 (k : Nat), .int .i64 (s : Nat), .int .i64 (n : Nat), .int .i64 (v : Nat)]] w fun e w' => e = .returned (.string (ofB (recP k s n v))) ∧ Below w.heap.size w w' := by
  have hb0 : Below w.heap.size w (w.alloc (.cells #[.int .i64 k, .int .i64 s, .int .i64 n, .int .i64 v] 69)) := (Below.refl _ _).alloc (Nat.le_refl _) _
  have hR : E4 (w.alloc (.cells #[.int .i64 k, .int .i64 s, .int .i64 n, .int .i64 v] 69)) w.heap.size k s n v := heap_alloc_new w _
  obtain ⟨w1, hw1⟩ : ∃ u, w.alloc (.cells #[.int .i64 k, .int .i64 s, .int .i64 n, .int .i64 v] 69) = u := ⟨_, rfl⟩
  rw [hw1] at hb0 hR
  have HB1 := hid hb0
  have HR1 := hid hR
  clear hb0 hR
  have c0 := HR1.out.c0
  have c1 := HR1.out.c1
  have hkm : Hid (∀ x ∈ [k, s], x < 2 ^ (8 * 1)) := by intro x hx; simp at hx; omega
  have hnm : Hid (∀ x ∈ [n], x < 2 ^ (8 * 2)) := by intro x hx; simp at hx; omega
  have hvm : Hid (∀ x ∈ [v], x < 2 ^ (8 * 6)) := by intro x hx; simp at hx; omega
  clear hk hs hn hv
  (go_enter Try.func61, Try.ntmps61; try simp only [List.append])
  go_wp2_with ((with_reducible refine wpList_unguard ?_ ?_); (focus rfl))
  refine Calls.mono (ref01_PutV 1 1 _ [k, s] _ w1 _ 2 2 rfl rfl (by omega) (by omega) rfl rfl (by simp) hkm.out) ?_
  rintro e w2 ⟨rfl, hb⟩
  have HB2 := hid (HB1.out.trans (hb.mono HB1.out.size))
  have HR2 := hid (HR1.out.below hb)
  clear hb c0 c1 HB1 HR1
  have c2 := HR2.out.c2
  go_wp2_with ((with_reducible refine wpList_unguard ?_ ?_); (focus rfl))
  refine Calls.mono (ref01_PutV 2 2 _ [n] _ w2 _ 1 1 rfl rfl (by omega) (by omega) rfl rfl (by simp) hnm.out) ?_
  rintro e w3 ⟨rfl, hb⟩
  have HB3 := hid (HB2.out.trans (hb.mono HB2.out.size))
  have HR3 := hid (HR2.out.below hb)
  clear hb c2 HB2 HR2
  have c3 := HR3.out.c3
  go_wp2_with ((with_reducible refine wpList_unguard ?_ ?_); (focus rfl))
  refine Calls.mono (ref01_PutV 6 6 _ [v] _ w3 _ 1 1 rfl rfl (by omega) (by omega) rfl rfl (by simp) hvm.out) ?_
  rintro e w4 ⟨rfl, hb⟩
  have HB4 := hid (HB3.out.trans (hb.mono HB3.out.size))
  clear hb c3 HB3 HR3
  have e1 : putL 1 [k, s] = putB 1 k ++ putB 1 s := by simp [putL]
  have e2 : putL 2 [n] = putB 2 n := by simp [putL]
  have e6 : putL 6 [v] = putB 6 v := by simp [putL]
  have hL : Hid (putB 1 k ++ putB 1 s ++ putB 2 n ++ putB 6 v ++ [0, 0] = recL k s n v) := by
    show _ = _; unfold recL; rfl
  have l1 : (ofB (putL 1 [k, s])).size = 2 := by rw [ofB_size, putL_length]; rfl
  have l2 : (ofB (putL 2 [n])).size = 2 := by rw [ofB_size, putL_length]; rfl
  have l6 : (ofB (putL 6 [v])).size = 6 := by rw [ofB_size, putL_length]; rfl
  have hx1 : (ofB (putL 1 [k, s])).size + (ofB (putL 2 [n])).size ≤ 9223372036854775807 := by omega
  have hx2 : (ofB (putL 1 [k, s]) ++ ofB (putL 2 [n])).size + (ofB (putL 6 [v])).size ≤ 9223372036854775807 := by rw [ByteArray.size_append]; omega
  have hx3 : (ofB (putL 1 [k, s]) ++ ofB (putL 2 [n]) ++ ofB (putL 6 [v])).size + (ofB [0, 0]).size ≤ 9223372036854775807 := by rw [ByteArray.size_append, ByteArray.size_append, ofB_size [0, 0]]; simp; omega
  have hA : Hid (ofB (putL 1 [k, s]) ++ ofB (putL 2 [n]) ++ ofB (putL 6 [v]) ++ ofB [0, 0] = ofB (recL k s n v)) := by
    show _ = _
    rw [ofB_append, ofB_append, ofB_append, e1, e2, e6, hL.out]
  clear e1 e2 e6 l1 l2 l6 hL
  generalize ofB (putL 1 [k, s]) = t1 at *
  generalize ofB (putL 2 [n]) = t2 at *
  generalize ofB (putL 6 [v]) = t6 at *
  have hcs : (convert 111 9 (.slice (some ⟨w4.heap.size, 0, none⟩) 2 2)).run Try.prog (w4.alloc (.cells #[.int .u8 0, .int .u8 0] 5)) =
      .ok (.string (ofB [0, 0])) (w4.alloc (.cells #[.int .u8 0, .int .u8 0] 5)) := conv_str (cellsB.new w4 [0, 0] _ _ rfl) 2 2 rfl
  go_wp2_with ((with_reducible refine wpList_unguard ?_ ?_); (focus rfl))
  rw [hA.out]
  clear hx1 hx2 hx3 hcs
  have hB5 := HB4.out.alloc HB4.out.size (.cells #[.int .u8 0, .int .u8 0] 5)
  have HB5 := hid hB5
  clear hB5 HB4
  generalize w4.alloc (.cells #[.int .u8 0, .int .u8 0] 5) = w5 at *
  refine Calls.mono (ref2_Sum _ w5 (by rw [ofB_size, recL_len]; omega)) ?_
  rintro e w6 ⟨rfl, rfl⟩
  rw [sb_ofB _ (recL_lt k s n v)]
  have hlt : csum (recL k s n v) < 4294967296 := csum_lt _ (recL_lt k s n v)
  have hsum : recSum (recL k s n v) = if csum (recL k s n v) = 4294967295 then 4294967294 else csum (recL k s n v) := by
    unfold recSum; split <;> omega
  have hP : recP k s n v = recL k s n v ++ putB 4 (recSum (recL k s n v)) := rfl
  have hl0 : (ofB (recL k s n v)).size = 12 := by rw [ofB_size, recL_len]
  rw [hsum] at hP
  have HP := hid hP
  clear hP hsum hA
  generalize csum (recL k s n v) = S at *
  generalize hrl : recL k s n v = L at *
  clear hrl
  by_cases hS : S = 4294967295
  · subst hS
    rw [if_pos rfl] at HP
    have hx4 : (ofB L).size + (ofB (putL 4 [4294967294])).size ≤ 9223372036854775807 := by rw [ofB_size (putL _ _), putL_length]; simp; omega
    go_wp2_with ((with_reducible refine wpList_unguard ?_ ?_); (focus rfl))
    refine Calls.mono (ref01_PutV 4 4 _ [4294967294] _ w5 _ 1 1 rfl rfl (by omega) (by omega) rfl rfl (by simp) (by simp)) ?_
    rintro e w6 ⟨rfl, hb⟩
    have HB6 := hid (HB5.out.trans (hb.mono HB5.out.size))
    clear hb
    go_wp2_with ((with_reducible refine wpList_unguard ?_ ?_); (focus rfl))
    go_ret
    refine ⟨?_, HB6.out⟩
    rw [HP.out, ← ofB_append]
    simp [putL]
  · rw [if_neg hS] at HP
    have hd : ((S : Int) == 4294967295) = false := by simp; omega
    have hx4 : (ofB L).size + (ofB (putL 4 [S])).size ≤ 9223372036854775807 := by rw [ofB_size (putL _ _), putL_length]; simp; omega
    go_wp2_with ((with_reducible refine wpList_unguard ?_ ?_); (focus rfl))
    refine Calls.mono (ref01_PutV 4 4 _ [S] _ w5 _ 1 1 rfl rfl (by omega) (by omega) rfl rfl (by simp) (by simp; omega)) ?_
    rintro e w6 ⟨rfl, hb⟩
    have HB6 := hid (HB5.out.trans (hb.mono HB5.out.size))
    clear hb
    go_wp2_with ((with_reducible refine wpList_unguard ?_ ?_); (focus rfl))
    go_ret
    refine ⟨?_, HB6.out⟩
    rw [HP.out, ← ofB_append]
    simp [putL]
end Go.Proofs.Ytngkmlchblgmeaa
