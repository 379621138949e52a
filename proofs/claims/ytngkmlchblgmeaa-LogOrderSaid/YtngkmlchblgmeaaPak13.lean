/-
  Records as the document has them: own rows; triptychlaw15's Plain and wrong, triptychref15's Same.
  The log's own blocks and a row of the document's records stay out of one another's way.
  A slice of records that came in: what it weighs, too.
-/
import Derived.Test.YtngkmlchblgmeaaPak12
import Derived.Test.YtngkmlchblgmeaaPak6
import Derived.Test.YtngkmlchblgmeaaPak8
namespace Go.Proofs.Ytngkmlchblgmeaa
open Go.RowKit Tri

theorem Try.infoRefRec : (Try.prog.info? 69).map (fun i => (i.zero, i.size, i.bytes)) = some (some (.agg #[.int .i64 0, .int .i64 0, .int .i64 0, .int .i64 0]), 4, 32) := by kernel_rfl
/-- A row of records that the call owns. -/
def recQ (w : World) (base : Nat) (v : Value) (l : List RecI) : Prop := w.ownsRow base 69 4 v l.length (l.flatMap rcC)
theorem recQ.keep {w w' : World} {base : Nat} {v : Value} {l : List RecI} (h : recQ w base v l) (hk : ∀ g, base ≤ g → g < w.heap.size → v.ownBlock = some g → w'.heap[g]? = w.heap[g]?) : recQ w' base v l := by
  obtain ⟨h1, h2⟩ := h
  refine ⟨h1, ?_⟩
  rcases h2 with h2 | ⟨g, cap, cur, rfl, h3, h4, h5⟩
  · exact .inl h2
  · exact .inr ⟨g, cap, cur, rfl, h3, by rw [hk g h3 (Array.getElem?_eq_some_iff.1 h4).1 rfl]; exact h4, h5⟩
theorem recQ.below {w w' : World} {base : Nat} {v : Value} {l : List RecI} (h : recQ w base v l) (hb : Below w.heap.size w w') : recQ w' base v l := h.keep fun g _ h2 _ => hb.block g h2
/-- The cells of an own row. -/
theorem recQ.cells {w : World} {base : Nat} {v : Value} {l : List RecI} (h : recQ w base v l) : ∃ p c, v = .slice p l.length c ∧ l.length ≤ c ∧ cellsG w p 4 (l.map rcC) := by
  have h' := h
  obtain ⟨h1, ⟨rfl, h0⟩ | ⟨g, cap, cur, rfl, hb, hh, hnc, hcm, hcs, ht⟩⟩ := h
  · refine ⟨none, 0, by rw [h0], by omega, ?_⟩
    rw [List.eq_nil_of_length_eq_zero h0]
    intro i hi; simp at hi
  · refine ⟨_, _, rfl, hnc, ?_⟩
    intro i hi
    rw [List.length_map] at hi
    refine ⟨g, 0, rfl, ?_⟩
    intro j u hj
    have hlen : ∀ (m : List RecI) (i : Nat), i < m.length → ((m.map rcC).getD i [])[j]? = some u → (m.flatMap rcC)[i * 4 + j]? = some u := by
      intro m
      induction m with
      | nil => intro i hi; simp at hi
      | cons r m ih =>
        intro i hi hu
        rw [List.flatMap_cons]
        cases i with
        | zero =>
          have hu' : (rcC r)[j]? = some u := by simpa using hu
          have hj4 : j < 4 := by have := (List.getElem?_eq_some_iff.1 hu').1; rw [rcC_len] at this; exact this
          rw [Nat.zero_mul, Nat.zero_add, List.getElem?_append_left (by rw [rcC_len]; exact hj4)]
          exact hu'
        | succ i =>
          rw [List.getElem?_append_right (by rw [rcC_len]; omega), rcC_len, show (i + 1) * 4 + j - 4 = i * 4 + j from by omega]
          exact ih i (by simpa using hi) (by simpa using hu)
    have h6 : w.ownsRow base 69 4 (.slice (some ⟨g, 0, none⟩) l.length cap) l.length (l.flatMap rcC) := h'
    have h5 := h6.cells (g := g) rfl (i * 4 + j) u (hlen l i hi hj)
    rw [show (⟨g, 0, none⟩ : Addr).add (i * 4 + j) = ⟨g, 0 + i * 4 + j, none⟩ from by unfold Addr.add; split <;> simp_all] at h5
    exact h5
/-- Records appended to an own row. -/
theorem wpList_pushQ {wr : World} {ops : Array Oper} {rest : List Oper} {o : Oper} {a : Act} {Q : Exit → Act → World → Prop} (hgd : o.guard = none) (s x : Operand)
    (ho : o.op = .call { callee := .builtin .append, args := #[s, x], argTypes := #[56, 56] })
    (base : Nat) (v : Value) (l y : List RecI) (q : Option Addr) (c : Nat) (hown : recQ wr base v l) (hq : cellsG wr q 4 (y.map rcC)) (hy : y ≠ []) (hs : a.eval s = v) (n : Nat) (hn : n = y.length) (hx : a.eval x = .slice q n c) (hlen : (l.length + y.length) * 32 ≤ 140737488355328) (hbase : base ≤ wr.heap.size)
    (h : ∀ v' w', recQ w' base v' (l ++ y) → Below base wr w' → wpList Try.prog ops Q rest (a.put o.dst v') w') : wpList Try.prog ops Q (o :: rest) a wr := by
  subst hn
  obtain ⟨i0, hi, hz0, hz1, hz2⟩ := info_parts Try.infoRefRec
  obtain ⟨a0, o0, rfl, _⟩ := hq 0 (by rw [List.length_map]; exact List.length_pos_iff.2 hy)
  refine wpList_append_own wr hgd s x 56 ho base 69 i0 (.agg #[.int .i64 0, .int .i64 0, .int .i64 0, .int .i64 0]) 4 32 Try.underlying56 hi hz0 hz1 hz2 rfl (by decide) v l.length (l.flatMap rcC) hs hown
    ⟨a0, o0, none⟩ y.length c (y.flatMap rcC) hx (flatMap_len y) ?_ ?_ ?_ ?_ hbase ?_
  · intro j u hj
    obtain ⟨i, k, h1, h2, rfl, h3⟩ := flat_get y j u hj
    obtain ⟨a', o', e, hc⟩ := hq i (by rw [List.length_map]; exact h1)
    simp only [Option.some.injEq, Addr.mk.injEq] at e
    obtain ⟨rfl, rfl, _⟩ := e
    have := hc k u h3
    rw [show (⟨a0, o0, none⟩ : Addr).add (i * 4 + k) = ⟨a0, o0 + i * 4 + k, none⟩ from by unfold Addr.add; split <;> simp_all [Nat.add_assoc]]
    exact this
  · intro u hu
    rw [List.mem_flatMap] at hu
    obtain ⟨r, _, hu⟩ := hu
    unfold rcC at hu
    simp only [List.mem_cons, List.not_mem_nil, or_false] at hu
    rcases hu with rfl | rfl | rfl | rfl <;> rfl
  · unfold maxLen; omega
  · omega
  · intro v' w' h2 h3 _
    refine h v' w' ?_ ?_
    · unfold recQ; rw [List.length_append, List.flatMap_append]; exact h2
    · refine ((Below.refl _ wr).mono hbase).grown h3 hbase ?_
      intro b hb
      rcases hown.2 with ⟨h4, _⟩ | ⟨g', cap, cur, h4, h5, _⟩
      · rw [h4] at hb; simp [Value.ownBlock] at hb
      · rw [h4] at hb; simp only [Value.ownBlock, Option.some.injEq] at hb; omega
/-- Records appended to an own row; all else stays. -/
theorem wpList_pushQg {wr : World} {ops : Array Oper} {rest : List Oper} {o : Oper} {a : Act} {Q : Exit → Act → World → Prop} (hgd : o.guard = none) (s x : Operand)
    (ho : o.op = .call { callee := .builtin .append, args := #[s, x], argTypes := #[56, 56] })
    (base : Nat) (v : Value) (l y : List RecI) (q : Option Addr) (c : Nat) (hown : recQ wr base v l) (hq : cellsG wr q 4 (y.map rcC)) (hy : y ≠ []) (hs : a.eval s = v) (n : Nat) (hn : n = y.length) (hx : a.eval x = .slice q n c) (hlen : (l.length + y.length) * 32 ≤ 140737488355328) (hbase : base ≤ wr.heap.size)
    (h : ∀ v' w', recQ w' base v' (l ++ y) → wr.grownBy w' v.ownBlock → wpList Try.prog ops Q rest (a.put o.dst v') w') : wpList Try.prog ops Q (o :: rest) a wr := by
  subst hn
  obtain ⟨i0, hi, hz0, hz1, hz2⟩ := info_parts Try.infoRefRec
  obtain ⟨a0, o0, rfl, _⟩ := hq 0 (by rw [List.length_map]; exact List.length_pos_iff.2 hy)
  refine wpList_append_own wr hgd s x 56 ho base 69 i0 (.agg #[.int .i64 0, .int .i64 0, .int .i64 0, .int .i64 0]) 4 32 Try.underlying56 hi hz0 hz1 hz2 rfl (by decide) v l.length (l.flatMap rcC) hs hown
    ⟨a0, o0, none⟩ y.length c (y.flatMap rcC) hx (flatMap_len y) ?_ ?_ ?_ ?_ hbase ?_
  · intro j u hj
    obtain ⟨i, k, h1, h2, rfl, h3⟩ := flat_get y j u hj
    obtain ⟨a', o', e, hc⟩ := hq i (by rw [List.length_map]; exact h1)
    simp only [Option.some.injEq, Addr.mk.injEq] at e
    obtain ⟨rfl, rfl, _⟩ := e
    have := hc k u h3
    rw [show (⟨a0, o0, none⟩ : Addr).add (i * 4 + k) = ⟨a0, o0 + i * 4 + k, none⟩ from by unfold Addr.add; split <;> simp_all [Nat.add_assoc]]
    exact this
  · intro u hu
    rw [List.mem_flatMap] at hu
    obtain ⟨r, _, hu⟩ := hu
    unfold rcC at hu
    simp only [List.mem_cons, List.not_mem_nil, or_false] at hu
    rcases hu with rfl | rfl | rfl | rfl <;> rfl
  · unfold maxLen; omega
  · omega
  · intro v' w' h2 h3 _
    refine h v' w' ?_ h3
    unfold recQ; rw [List.length_append, List.flatMap_append]; exact h2
theorem cellsG_oneQ (w : World) (r : RecI) : cellsG (w.alloc (.cells #[.int .i64 r.k, .int .i64 r.s, .int .i64 r.n, .int .i64 r.v] 69)) (some ⟨w.heap.size, 0, none⟩) 4 ([r].map rcC) := by
  intro i hi
  have : i = 0 := by simpa using hi
  subst this
  refine ⟨w.heap.size, 0, rfl, ?_⟩
  intro j v hv
  have := World.cell?_alloc_new w #[.int .i64 r.k, .int .i64 r.s, .int .i64 r.n, .int .i64 r.v] 69 j
  rw [show 0 + 0 * 4 + j = j from by omega, this]
  show (rcC r).toArray[j]? = some v
  rw [List.getElem?_toArray]
  simpa using hv

set_option maxHeartbeats 8000000 in
set_option maxRecDepth 100000 in
theorem law15_Plain (a : Option Addr) (len cap : Nat) (l : List RecI) (w : World) (hl : len = l.length) (h100 : l.length * 32 ≤ 140737488355328) (hlc : len ≤ cap) (hc : cellsG w a 4 (l.map rcC)) :
    Calls Try.prog 26 #[.slice a len cap] w fun e w' => ∃ v, e = .returned v ∧ recQ w' w.heap.size v (l.map z0) ∧ Below w.heap.size w w' := by
  subst hl
  have HC := hid hc
  clear hc
  (go_enter Try.func26, Try.ntmps26; try simp only [List.append])
  go_wp2_with ((with_reducible refine wpList_unguard ?_ ?_); (focus rfl))
  go_loopw [8, 3] (fun v u wr => ∃ k : Nat, k ≤ l.length ∧ v = .int .i64 k ∧ recQ wr w.heap.size u ((l.take k).map z0) ∧ Below w.heap.size w wr) (fun v _ _ => l.length - (intOf v).toNat)
  case atStart => exact ⟨0, Nat.zero_le _, rfl, World.ownsRow_nil _ _ _ _, Below.refl _ _⟩
  case round =>
    obtain ⟨k, hk, rfl, hq, hB⟩ := hrel
    have HQ := hid hq
    have HB := hid hB
    clear hq hB
    obtain ⟨pq, cq, e, -, -⟩ := HQ.out.cells
    have hn100 : k < l.length → (((l.take k).map z0).length + [(⟨0, 0, 0, 0⟩ : RecI)].length) * 32 ≤ 140737488355328 := by intro h; rw [List.length_map, List.length_take, List.length_singleton]; omega
    have hDl : k = l.length → (l.take k).map z0 = l.map z0 := by rintro rfl; rw [List.take_length]
    have HS := fun hlt => hid (z0_take l k hlt)
    generalize (l.take k).map z0 = D at *
    obtain ⟨nq, hnq⟩ : ∃ n, D.length = n := ⟨_, rfl⟩
    rw [hnq] at e
    clear hnq
    by_cases hlt : k < l.length
    · replace HS := HS hlt
      obtain ⟨b, o, rfl, g0, g1, g2, g3⟩ := recs_at (HC.out.below HB.out) k hlt
      have hz0 : z0 l[k] = ⟨l[k].k, l[k].s, 0, l[k].v⟩ := rfl
      rw [hz0] at HS
      generalize l[k] = r at *
      have hA : Below wr.heap.size wr (wr.alloc (.cells #[.int .i64 r.k, .int .i64 r.s, .int .i64 0, .int .i64 r.v] 37)) := (Below.refl _ _).alloc (Nat.le_refl _) _
      have hA2 := hA.alloc (w := wr.alloc (.cells #[.int .i64 r.k, .int .i64 r.s, .int .i64 0, .int .i64 r.v] 37)) hA.size (.cells #[.int .i64 r.k, .int .i64 r.s, .int .i64 0, .int .i64 r.v] 69)
      have HO := hid (cellsG_oneQ (wr.alloc (.cells #[.int .i64 r.k, .int .i64 r.s, .int .i64 0, .int .i64 r.v] 37)) ⟨r.k, r.s, 0, r.v⟩)
      have HQ2 := hid (HQ.out.below hA2)
      have HB2 := hid (HB.out.trans (hA2.mono HB.out.size))
      have hsz : w.heap.size ≤ ((wr.alloc (.cells #[.int .i64 r.k, .int .i64 r.s, .int .i64 0, .int .i64 r.v] 37)).alloc (.cells #[.int .i64 r.k, .int .i64 r.s, .int .i64 0, .int .i64 r.v] 69)).heap.size := HB2.out.size
      rw [show (wr.alloc (.cells #[.int .i64 r.k, .int .i64 r.s, .int .i64 0, .int .i64 r.v] 37)).heap.size = wr.heap.size + 1 from by simp] at HO
      clear hA hA2 HQ HB hz0
      subst e
      go_wp2_with (at_builtin; refine wpList_pushQ rfl _ _ rfl w.heap.size _ D [(⟨r.k, r.s, 0, r.v⟩ : RecI)] _ 1 HQ2.out HO.out (by simp) rfl 1 rfl rfl (hn100 hlt) hsz ?_)
      intro v' w' hq hb
      have HQ := hid hq
      have HB := hid (HB2.out.trans hb)
      clear hq hb HQ2 HB2 hsz HO g0 g1 g2 g3
      obtain ⟨pq', cq', e', -, -⟩ := HQ.out.cells
      obtain ⟨nq', hnq'⟩ : ∃ n, (D ++ [(⟨r.k, r.s, 0, r.v⟩ : RecI)]).length = n := ⟨_, rfl⟩
      rw [hnq'] at e'
      clear hnq'
      subst e'
      go_wp2_with ((with_reducible refine wpList_unguard ?_ ?_); (focus rfl))
      go_roundw
      case rel => exact ⟨k + 1, by omega, by go_num, by rw [HS.out]; exact HQ.out, HB.out⟩
      case measure => simp [intOf]; omega
    · rw [hDl (by omega)] at HQ
      subst e
      go_wp2_with ((with_reducible refine wpList_unguard ?_ ?_); (focus rfl))
      go_ret
      exact ⟨_, rfl, HQ.out, HB.out⟩
set_option maxHeartbeats 4000000 in
set_option maxRecDepth 100000 in
/-- What is wrong with records that are to be a base is what the log says. -/
theorem law15_wrong (a : Option Addr) (len cap : Nat) (l : List RecI) (w : World) (hl : len = l.length) (h100 : l.length * 32 ≤ 140737488355328) (hlc : len ≤ cap) (hc : cellsG w a 4 (l.map rcC)) :
    Calls Try.prog 25 #[.slice a len cap] w fun e w' => e = .returned (.int .i64 (fitsE l)) ∧ Below w.heap.size w w' := by
  have HP := hid (law15_Plain a len cap l w hl h100 hlc hc)
  subst hl
  clear hc
  (go_enter Try.func25, Try.ntmps25; try simp only [List.append])
  go_wp2_with ((with_reducible refine wpList_unguard ?_ ?_); (focus rfl))
  refine Calls.mono HP.out ?_; rintro e w1 ⟨v, rfl, hq, hb⟩
  obtain ⟨pq, cq, rfl, hlq, hcg⟩ := hq.cells
  rw [List.length_map] at hlq ⊢
  have HC := hid hcg
  have HB := hid hb
  clear hcg hb hq HP
  go_wp2_with ((with_reducible refine wpList_unguard ?_ ?_); (focus rfl))
  go_loopw [8] (fun v wr => ∃ k : Nat, k ≤ l.length ∧ v = .int .i64 k ∧ (l.take k).all fitB = true ∧ cellsG wr pq 4 ((l.map z0).map rcC) ∧ Below w.heap.size w wr) (fun v _ => l.length - (intOf v).toNat)
  case atStart => exact ⟨0, Nat.zero_le _, rfl, rfl, HC.out, HB.out⟩
  case round =>
    obtain ⟨k, hk, rfl, ht, hC, hB⟩ := hrel
    have HT := hid ht
    replace HB := hid hB
    replace HC := hid hC
    clear ht hB hC
    by_cases hlt : k < l.length
    · have HS := hid (fitsE_take l k hlt)
      have HAll : Hid (fitB l[k] = false → fitsE l = 1) := by
        intro h
        unfold fitsE
        rw [if_neg]
        rw [List.all_eq_true]
        intro hh
        rw [hh l[k] (List.getElem_mem hlt)] at h
        cases h
      obtain ⟨b, o, rfl, g0, g1, g2, g3⟩ := recs_at HC.out k (by rw [List.length_map]; exact hlt)
      simp only [List.getElem_map] at g0 g1 g2 g3
      generalize l[k] = r at *
      replace g0 : wr.cell? ⟨b, o + k * 4, none⟩ = some (.int .i64 r.k) := g0
      replace g1 : wr.cell? ⟨b, o + k * 4 + 1, none⟩ = some (.int .i64 r.s) := g1
      replace g2 : wr.cell? ⟨b, o + k * 4 + 2, none⟩ = some (.int .i64 0) := g2
      replace g3 : wr.cell? ⟨b, o + k * 4 + 3, none⟩ = some (.int .i64 r.v) := g3
      have hA : Below wr.heap.size wr (wr.alloc (.cells #[.int .i64 r.k, .int .i64 r.s, .int .i64 0, .int .i64 r.v] 69)) := (Below.refl _ _).alloc (Nat.le_refl _) _
      have hR : Blk (wr.alloc (.cells #[.int .i64 r.k, .int .i64 r.s, .int .i64 0, .int .i64 r.v] 69)) wr.heap.size 69 #[.int .i64 r.k, .int .i64 r.s, .int .i64 0, .int .i64 r.v] := Blk.new wr _ _
      have HR2 := hid hR
      have HF : Hid (fitB r = (recOk r.k r.s 0 r.v && decide (r.k < 126))) := rfl
      have HRI := fun w => hid (ref14_Right r.k r.s 0 r.v w)
      generalize recOk r.k r.s 0 r.v = x1 at *
      obtain ⟨x2, hx2⟩ : ∃ x, decide (125 < r.k) = x := ⟨_, rfl⟩
      have HF2 : Hid (fitB r = (x1 && !x2)) := by
        show _ = _
        rw [HF.out, ← hx2]
        congr 1
        rw [Bool.eq_iff_iff]; simp; omega
      replace HB := hid (HB.out.trans (hA.mono HB.out.size))
      replace HC := hid (HC.out.below hA)
      clear hA hR HF
      go_wp2_with ((with_reducible refine wpList_unguard ?_ ?_); (focus rfl))
      clear g0 g1 g2 g3
      generalize wr.alloc (.cells #[.int .i64 r.k, .int .i64 r.s, .int .i64 0, .int .i64 r.v] 69) = w4 at *
      refine Calls.mono (HRI _).out ?_; rintro e w5 ⟨rfl, hb⟩
      replace HR2 := hid (HR2.out.below hb)
      replace HC := hid (HC.out.below hb)
      (replace HB := hid (HB.out.trans (hb.mono HB.out.size)); clear hb)
      have c0 : w5.cell? ⟨wr.heap.size, 0, none⟩ = some (.int .i64 r.k) := HR2.out.cell 0 _ rfl
      cases x1 with
      | false =>
        go_wp2_with ((with_reducible refine wpList_unguard ?_ ?_); (focus rfl))
        go_ret
        exact ⟨by rw [HAll.out (by rw [HF2.out]; rfl)]; rfl, HB.out⟩
      | true =>
        cases x2 with
        | true =>
          go_wp2_with ((with_reducible refine wpList_unguard ?_ ?_); (focus rfl))
          go_ret
          exact ⟨by rw [HAll.out (by rw [HF2.out]; rfl)]; rfl, HB.out⟩
        | false =>
          go_wp2_with ((with_reducible refine wpList_unguard ?_ ?_); (focus rfl))
          go_roundw
          case rel => exact ⟨k + 1, by omega, by go_num, by rw [HS.out, HT.out, HF2.out]; rfl, HC.out, HB.out⟩
          case measure => simp [intOf]; omega
    · have hTl : (l.take k) = l := List.take_of_length_le (by omega)
      have hAl : l.all fitB = true := by have := HT.out; rw [hTl] at this; exact this
      by_cases h12 : (12 : Int) < (l.length : Int)
      · have q : decide ((12 : Int) < (l.length : Int)) = true := decide_eq_true h12
        have HF : Hid (fitsE l = 9) := by show _ = _; unfold fitsE; rw [if_pos hAl, if_pos (by omega)]
        clear hTl hAl
        go_wp2_with ((with_reducible refine wpList_unguard ?_ ?_); (focus rfl))
        go_ret
        exact ⟨by rw [HF.out]; rfl, HB.out⟩
      · have q : decide ((12 : Int) < (l.length : Int)) = false := decide_eq_false h12
        have HF : Hid (fitsE l = 0) := by show _ = _; unfold fitsE; rw [if_pos hAl, if_neg (by omega)]
        clear hTl hAl
        go_wp2_with ((with_reducible refine wpList_unguard ?_ ?_); (focus rfl))
        go_ret
        exact ⟨by rw [HF.out]; rfl, HB.out⟩
def recEqQ (r s : RecI) : Bool := decide (r.k = s.k ∧ r.s = s.s ∧ r.n = s.n ∧ r.v = s.v)
theorem recEqQ_iff {r s : RecI} : recEqQ r s = true ↔ r = s := by
  unfold recEqQ
  rw [decide_eq_true_eq]
  constructor
  · rintro ⟨h1, h2, h3, h4⟩; cases r; cases s; simp_all
  · rintro rfl; exact ⟨rfl, rfl, rfl, rfl⟩
set_option maxRecDepth 100000 in
theorem neq_rec (r s : RecI) (w : World) :
    (binOp .neq 69 (.agg #[.int .i64 r.k, .int .i64 r.s, .int .i64 r.n, .int .i64 r.v]) (.agg #[.int .i64 s.k, .int .i64 s.s, .int .i64 s.n, .int .i64 s.v])).run Try.prog w = .ok (.bool (!(recEqQ r s))) w := by
  unfold recEqQ
  by_cases h1 : r.k = s.k <;> by_cases h2 : r.s = s.s <;> by_cases h3 : r.n = s.n <;> by_cases h4 : r.v = s.v <;> simp [go_sem, h1, h2, h3, h4]
theorem takes_eq {α : Type} {l m : List α} (h : l.length = m.length) (ht : ∀ i (h1 : i < l.length) (h2 : i < m.length), l[i] = m[i]) : l = m := List.ext_getElem h ht
set_option maxHeartbeats 4000000 in
set_option maxRecDepth 100000 in
theorem ref15_Same (a b : Option Addr) (c d : Nat) (l m : List RecI) (w : World) (hl : l.length ≤ 100000) (hm : m.length ≤ 100000) (hlc : l.length ≤ c) (hmd : m.length ≤ d) (ha : cellsG w a 4 (l.map rcC)) (hb : cellsG w b 4 (m.map rcC)) :
    Calls Try.prog 27 #[.slice a l.length c, .slice b m.length d] w fun e w' => ∃ x : Bool, e = .returned (.bool x) ∧ (x = true ↔ l = m) ∧ Below w.heap.size w w' := by
  have HA := hid ha
  have HB := hid hb
  clear ha hb
  (go_enter Try.func27, Try.ntmps27; try simp only [List.append])
  by_cases hlm : l.length = m.length
  · have q : ((l.length : Int) != (m.length : Int)) = false := by rw [bne_eq_false_iff_eq]; omega
    go_wp2_with ((with_reducible refine wpList_unguard ?_ ?_); (focus rfl))
    go_loopw [5] (fun v wr => ∃ k : Nat, k ≤ l.length ∧ v = .int .i64 k ∧ (∀ i (h1 : i < l.length) (h2 : i < m.length), i < k → l[i] = m[i]) ∧ cellsG wr a 4 (l.map rcC) ∧ cellsG wr b 4 (m.map rcC) ∧ Below w.heap.size w wr) (fun v _ => l.length - (intOf v).toNat)
    case atStart => exact ⟨0, Nat.zero_le _, rfl, fun i _ _ h => absurd h (Nat.not_lt_zero _), HA.out, HB.out, Below.refl _ _⟩
    case round =>
      obtain ⟨k, hk, rfl, ht, hA, hB, hb⟩ := hrel
      have HT := hid ht
      replace HA := hid hA
      replace HB := hid hB
      have HW := hid hb
      clear ht hA hB hb
      by_cases hlt : k < l.length
      · have hlt2 : k < m.length := by omega
        have HX : Hid (l[k] = m[k] → ∀ i (h1 : i < l.length) (h2 : i < m.length), i < k + 1 → l[i] = m[i]) := by
          intro h i h1 h2 h3
          by_cases hi : i = k
          · subst hi; exact h
          · exact HT.out i h1 h2 (by omega)
        have HY : Hid (l[k] ≠ m[k] → l ≠ m) := by
          intro h e; subst e; exact h rfl
        obtain ⟨b1, o1, rfl, g0, g1, g2, g3⟩ := recs_at HA.out k hlt
        obtain ⟨b2, o2, rfl, k0, k1, k2, k3⟩ := recs_at HB.out k hlt2
        generalize l[k] = r at *
        generalize m[k] = s at *
        have hne := fun w => neq_rec r s w
        obtain ⟨x, hx⟩ : ∃ x, recEqQ r s = x := ⟨_, rfl⟩
        rw [hx] at hne
        cases x with
        | false =>
          have HN : Hid (r ≠ s) := fun h => by rw [recEqQ_iff.2 h] at hx; cases hx
          clear hx
          go_wp2
          go_region
          go_wp2_with ((with_reducible refine wpList_unguard ?_ ?_); (focus rfl))
          go_ret
          exact ⟨_, rfl, ⟨fun h => (Bool.noConfusion h : False).elim, fun h => absurd h (HY.out HN.out)⟩, HW.out.drew⟩
        | true =>
          have HN : Hid (r = s) := recEqQ_iff.1 hx
          clear hx
          go_wp2
          go_region
          go_wp2_with ((with_reducible refine wpList_unguard ?_ ?_); (focus rfl))
          go_roundw
          case rel => exact ⟨k + 1, by omega, by go_num, HX.out HN.out, HA.out.below ((Below.refl _ _).drew), HB.out.below ((Below.refl _ _).drew), HW.out.drew⟩
          case measure => simp [intOf]; omega
      · have HE : Hid (l = m) := takes_eq hlm fun i h1 h2 => HT.out i h1 h2 (by omega)
        go_wp2_with ((with_reducible refine wpList_unguard ?_ ?_); (focus rfl))
        go_ret
        exact ⟨_, rfl, ⟨fun _ => HE.out, fun _ => rfl⟩, HW.out⟩
  · have q : ((l.length : Int) != (m.length : Int)) = true := by rw [bne_iff_ne]; omega
    go_wp2_with ((with_reducible refine wpList_unguard ?_ ?_); (focus rfl))
    go_ret
    exact ⟨_, rfl, ⟨fun h => (Bool.noConfusion h : False).elim, fun e => absurd (by rw [e]) hlm⟩, Below.refl _ _⟩
end Go.Proofs.Ytngkmlchblgmeaa

namespace Go.Proofs.Ytngkmlchblgmeaa
open Go.RowKit Tri

theorem recQ.own {w : World} {base : Nat} {v : Value} {l : List RecI} (h : recQ w base v l) : ∀ g, v.ownBlock = some g → base ≤ g ∧ g < w.heap.size ∧ ∃ cur, w.heap[g]? = some (.cells cur 69) := by
  intro g hg
  rcases h.2 with ⟨e, _⟩ | ⟨g', cap, cur, e, h3, h4, _⟩
  · rw [e] at hg; cases hg
  · rw [e] at hg
    simp only [Value.ownBlock, Option.some.injEq] at hg
    subst hg
    exact ⟨h3, (Array.getElem?_eq_some_iff.1 h4).1, cur, h4⟩
theorem recJ.own2 {w : World} {base : Nat} {v : Value} {l : List RecI} (h : recJ w base v l) : ∀ g, v.ownBlock = some g → base ≤ g ∧ g < w.heap.size ∧ ∃ cur, w.heap[g]? = some (.cells cur 37) := by
  intro g hg
  rcases h.2 with ⟨e, _⟩ | ⟨g', cap, cur, e, h3, h4, _⟩
  · rw [e] at hg; cases hg
  · rw [e] at hg
    simp only [Value.ownBlock, Option.some.injEq] at hg
    subst hg
    exact ⟨h3, (Array.getElem?_eq_some_iff.1 h4).1, cur, h4⟩
/-- Rows of the two types lie in different blocks. -/
theorem recJ.apart {w : World} {b0 bq : Nat} {rs v : Value} {l m : List RecI} (hj : recJ w b0 rs l) (hq : recQ w bq v m) : ∀ g, v.ownBlock = some g → rs.ownBlock ≠ some g := by
  intro g hg hr
  obtain ⟨-, -, c1, e1⟩ := hq.own g hg
  obtain ⟨-, -, c2, e2⟩ := hj.own2 g hr
  rw [e1] at e2
  simp at e2
theorem recQ.outA {w w' : World} {b0 bq lo hi L : Nat} {rs v : Value} {l m : List RecI} (hq : recQ w bq v m) (hj : recJ w b0 rs l) (ho : OutA lo hi L rs w w') (h1 : hi ≤ bq) (h2 : L < bq) : recQ w' bq v m :=
  hq.keep fun g g1 g2 g3 => ho.block g g2 (.inr (Nat.le_trans h1 g1)) (by omega) (hj.apart hq g g3)
theorem recQ.out {w w' : World} {bq lo hi : Nat} {v : Value} {m : List RecI} (hq : recQ w bq v m) (ho : Out lo hi w w') (h1 : hi ≤ bq) : recQ w' bq v m :=
  hq.keep fun g g1 g2 _ => ho.block g g2 (.inr (Nat.le_trans h1 g1))
theorem DevP.grownQ {w w' : World} {i : DI} {n bq : Nat} {s : FS} {v : Value} {m : List RecI} (h : DevP w i n s) (hq : recQ w bq v m) (hg : w.grownBy w' v.ownBlock) (hb : i.hi ≤ bq) : DevP w' i n s :=
  h.out (lo := i.hi) (hi := w'.heap.size + i.hi + 1) ⟨hg.os, hg.tape, hg.output, hg.size, fun k h1 h2 => hg.block k h1 fun e => by have := hq.own k e.symm; have := hg.size; omega⟩ (.inr (Nat.le_refl _))
theorem _root_.Tri.LogP.grownQ {w w' : World} {i : DI} {L S at_ : Nat} {rs : Value} {recs : List RecI} {gen : Int} {used : Nat} {holds clean : Bool} {b0 bq : Nat} {v : Value} {m : List RecI} (h : LogP i L S at_ rs recs gen used holds clean b0 w) (hq : recQ w bq v m) (hg : w.grownBy w' v.ownBlock) (h1 : L < bq) (h2 : S < bq) : LogP i L S at_ rs recs gen used holds clean b0 w' := by
  have kb : ∀ k, k < bq → k < w.heap.size → w'.heap[k]? = w.heap[k]? := fun k h3 h4 => hg.block k h4 fun e => by have := hq.own k e.symm; omega
  refine ⟨⟨?_, ?_, h.hw.hLo, h.hw.hSo⟩, h.hj.keep fun g g1 g2 g3 => hg.block g g2 fun e => (h.hj.apart hq g e.symm) g3, h.hL, h.hS, h.hi, h.ne⟩
  · unfold Blk; rw [kb L h1 h.hw.hL.lt]; exact h.hw.hL
  · have h3 := h.hw.hS
    unfold isC at h3 ⊢
    rw [kb S h2 h.hw.hS.lt]; exact h3
theorem _root_.Go.RowKit.Below.grownQ {n : Nat} {w0 w w' : World} {bq : Nat} {v : Value} {m : List RecI} (h : Below n w0 w) (hq : recQ w bq v m) (hg : w.grownBy w' v.ownBlock) (hn : n ≤ bq) (hn0 : n ≤ w0.heap.size) : Below n w0 w' :=
  h.grown hg (Nat.le_trans hn0 h.size) fun b hb => by have := hq.own b hb; omega
theorem R4.outA {w w' : World} {B lo hi L : Nat} {rs : Value} {a b c d : Int} (h : R4 w B a b c d) (ho : OutA lo hi L rs w w') (h1 : hi ≤ B) (h2 : L < B) (h3 : ∀ g, rs.ownBlock = some g → g < B) : R4 w' B a b c d := by
  unfold R4
  rw [ho.block B (Array.getElem?_eq_some_iff.1 h).1 (.inr h1) (by omega) (fun e => by have := h3 B e; omega)]
  exact h
theorem cellsG.offL {w : World} {p : Option Addr} {l : List RecI} {lo hi : Nat} (h : cellsG w p 4 (l.map rcC)) (hlo : w.heap.size ≤ lo) : offL l p lo hi := by
  intro hne a o s e
  obtain ⟨b, o', e', hc⟩ := h 0 (by rw [List.length_map]; exact List.length_pos_iff.2 hne)
  rw [e'] at e
  simp only [Option.some.injEq, Addr.mk.injEq] at e
  obtain ⟨rfl, -, -⟩ := e
  match l, hne with
  | r :: l, _ => exact .inl (Nat.lt_of_lt_of_le (block_lt_of_cell (hc 0 (.int .i64 r.k) rfl)) hlo)
theorem z0_idem (l : List RecI) : (l.map z0).map z0 = l.map z0 := by rw [List.map_map]; rfl
/-- How it stands between two rounds of LogOrder. -/
structure OrdI (i : DI) (L S b0 bq : Nat) (l0 acc : List RecI) (rs u : Value) (s : FS) (wr : World) : Prop where
  calm : Tri.Calm s
  h0 : HalfIs s 0 (allR 1 l0 ++ acc)
  h1 : HalfIs s 1 []
  fit : (l0 ++ acc).all fitB = true
  len : l0.length + 2 + acc.length ≤ 16
  dev : DevP wr i 27 s
  log : LogP i L S 0 rs ((l0 ++ acc).map z0) 1 (l0.length + 2 + acc.length) true true b0 wr
  want : recQ wr bq u ((l0 ++ acc).map z0)
  sz : b0 ≤ wr.heap.size ∧ bq ≤ wr.heap.size
theorem OrdI.below {i : DI} {L S b0 bq : Nat} {l0 acc : List RecI} {rs u : Value} {s : FS} {w w' : World} (h : OrdI i L S b0 bq l0 acc rs u s w) (hb : Below w.heap.size w w') : OrdI i L S b0 bq l0 acc rs u s w' :=
  ⟨h.calm, h.h0, h.h1, h.fit, h.len, h.dev.below hb, h.log.below hb, h.want.below hb, Nat.le_trans h.sz.1 hb.size, Nat.le_trans h.sz.2 hb.size⟩
end Go.Proofs.Ytngkmlchblgmeaa

namespace Go.Proofs.Ytngkmlchblgmeaa
open Go.ChangeShapes Go.WideShapes Go.ChangeAt Go.RowKit Tri
theorem cap_flat {H : Type} {enc : TypeId × Value → H} {W : World} {base t e j len cap bs : Nat} {a : Option Addr} {d : DataW H} {p : List MemPlace} {ts : List TypeId} {ds : List (DataW H)}
    (hsz : (DataW.weightsEach Try.prog ts ds).all (· ≤ reachBytes) = true) (ht : ts[j]? = some t) (hd : ds[j]? = some d)
    (hu : Try.prog.underlying t = some (.slice e)) (hb : Try.prog.bytesOf e = bs)
    (h : DataW.Trod enc Try.prog W base (fun _ => true) true t (.slice a len cap) d p) : cap * bs ≤ 140737488351232 := by
  obtain ⟨fuel, hf⟩ := h
  rcases DataW.trod_slice hu hf with ⟨hcs, _⟩ | ⟨x, l, c, elems, rest, n, _, hcs, hx, hbb, hl, hm, hlen, hel, hsp, _⟩
  · simp [Value.cells] at hcs
    obtain ⟨rfl, rfl, rfl⟩ := hcs
    omega
  · simp [Value.cells] at hcs
    obtain ⟨rfl, rfl, rfl⟩ := hcs
    simp only [Prod.mk.injEq] at hx
    obtain ⟨rfl, -⟩ := hx
    have h1 := sized_slice hsz ht hd hu
    simp only [List.length_map, hb, reachBytes] at h1
    have hr := (hsp rfl).1
    rw [show cap = elems.length + rest.length from by omega]
    exact h1
/-- What is told of a slice of records that came in, its weight among it. -/
def IsRecsW (w : World) (a : Option Addr) (len cap : Nat) (l : List RecI) : Prop := IsRecs w a len cap l ∧ cap * 32 ≤ 140737488351232
set_option linter.constructorNameAsVariable false in
set_option maxRecDepth 1000000 in
theorem open_recsW {H : Type} {enc : TypeId × Value → H} {W : World} {base t j len cap : Nat} {a : Option Addr} {d : DataW H} {p : List MemPlace} {ts : List TypeId} {ds : List (DataW H)}
    (hsz : (DataW.weightsEach Try.prog ts ds).all (· ≤ reachBytes) = true) (ht : ts[j]? = some t) (hd : ds[j]? = some d)
    (hu : Try.prog.underlying t = some (.slice 37)) (hk : flatOf Try.prog 37 rcK = true) (hb : Try.prog.bytesOf 37 = 32)
    (h : DataW.Trod enc Try.prog W base (fun _ => true) true t (.slice a len cap) d p) : ∃ l, IsRecsW W a len cap l := by
  obtain ⟨l, hl⟩ := open_recs hsz ht hd hu hk hb h
  exact ⟨l, hl, cap_flat hsz ht hd hu hb h⟩
end Go.Proofs.Ytngkmlchblgmeaa
