/-
  append of new noughts onto an own row of bytes; the shift of a polynomial in the program.
  Conditions: polynomials of at most 1000000 bytes.
-/
import Derived.Test.YtlipedigmokgbaaPoly1
namespace Go.Proofs.Ytlipedigmokgbaa
open Go.RowKit Tri

theorem zeroCells_one (z : Value) (k : Nat) : Builtin.zeroCells #[z] k = (List.replicate k z).toArray := by
  unfold Builtin.zeroCells
  apply Array.ext
  · simp
  · intro i h1 h2; simp [Nat.mod_one]

theorem run_append_zeros {P : Program} (w : World) (base : Nat) (t u ty e : TypeId) (i : TypeInfo) (z : Value) (ku : IntKind) (ht : P.underlying t = some (.slice e)) (hu : P.underlying u = some (.int ku)) (hi : P.info? e = some i) (hz : i.zero = some z)
    (hsize : i.size = 1) (hby : i.bytes = 1) (hzs : z.cells = #[z]) (hz1 : z.oneCell' = true)
    (v : Value) (n : Nat) (xs : List Value) (hown : w.ownsRow base e 1 v n xs) (hv : v ≠ .slice none 0 0) (k : Nat) (h63 : n + k ≤ 70000000000000) (hbase : base ≤ w.heap.size) :
    ∃ v' w', (Builtin.append_ #[t, u] ty #[v, .int .i64 k]).run P w = .ok v' w' ∧ w'.ownsRow base e 1 v' (n + k) (xs ++ List.replicate k z) ∧ w.grownBy w' v.ownBlock := by
  have hk : IntKind.i64.wrap (k : Int) = (k : Int) := by rw [IntKind.wrap_i64]; omega
  have hk0 : ¬ ((k : Int) < 0) := by omega
  have hk1 : ¬ (281474976710656 < (k : Int)) := by omega
  have hlen : (xs ++ List.replicate k z).length = (n + k) * 1 := by rw [List.length_append, hown.1, List.length_replicate]; omega
  have hmax : n + k ≤ maxLen := by unfold maxLen; omega
  rcases hown.2 with ⟨h, _⟩ | ⟨g, cap, cur, rfl, hbg, hg, hnc, hcm, hcs, htake⟩
  · exact absurd h hv
  · have hxl : xs.length = n := by simpa using hown.1
    by_cases hroom : n + k ≤ cap
    · have hst := run_storeCells_at P g n e (List.replicate k z) 0 cur w hg (by rw [List.length_replicate, hcs]; omega) (by intro u hu; rw [List.mem_replicate] at hu; rw [hu.2]; exact hz1)
      simp only [Nat.add_zero] at hst
      refine ⟨_, _, ?_, ⟨hlen, .inr ⟨g, cap, _, rfl, hbg, setRow_heap w g cur (cur.toList.take n ++ List.replicate k z ++ cur.toList.drop (n + k)).toArray e _ hg, hroom, hcm, ?_, ?_⟩⟩, ⟨rfl, rfl, rfl, by simp, fun k' _ hk' => setRow_other w g k' _ (fun e => hk' (by simp [Value.ownBlock, e]))⟩⟩
      · by_cases hk00 : k = 0
        · subst hk00
          simp only [List.replicate_zero] at hst
          have hk' : IntKind.i64.wrap 0 = 0 := by decide
          simp [Builtin.append_, run_underlying ht, run_underlying hu, sizeOf, typeInfo, asInt, asIntOf, hi, hsize, hby, hk', show n ≤ cap from hroom, Addr.add_lit, hst]
        · simp [Builtin.append_, run_underlying ht, run_underlying hu, sizeOf, typeInfo, zeroValue, asInt, asIntOf, hi, hz, hzs, hsize, hby, hk, hk0, hk1, hroom, Addr.add_lit, hst, zeroCells_one, hk00]
      · simp only [List.size_toArray, List.length_append, List.length_take, List.length_drop, Array.length_toList, List.length_replicate]
        omega
      · have h1 : cur.toList.take n = xs := by rw [← htake, Nat.mul_one]
        rw [h1, ← hlen]
        exact List.take_left
    · have holds : ∀ j u, xs[j]? = some u → w.cell? ((⟨g, 0, none⟩ : Addr).add j) = some u := hown.cells (g := g) rfl
      have hge := grownCap_ge w (n + k) cap e
      have hcm : grownCap w (n + k) cap e ≤ maxLen := grownCap_le_maxLen w (n + k) cap e hmax
      have hfo := run_firstCells_some (P := P) w.drew 1 n ⟨g, 0, none⟩ n cap xs hown.1 (by simpa using holds)
      have hk00 : k ≠ 0 := by omega
      have h63' : ¬ (9223372036854775807 < ((n : Int) + (k : Int))) := by omega
      have h48' : ¬ (281474976710656 < Builtin.nextslicecap (n + k) cap) := by
        have := growslice_fits (need := n + k) (old := cap) (bytes := 1) (by omega) (by omega)
        omega
      refine ⟨.slice (some ⟨w.heap.size, 0, none⟩) (n + k) (grownCap w (n + k) cap e), w.drew.alloc (.cells (xs.toArray ++ (List.replicate k z).toArray ++ Builtin.zeroCells #[z] (grownCap w (n + k) cap e - (n + k))) e), ?_,
        ⟨hlen, .inr ⟨w.heap.size, _, _, rfl, hbase, heap_alloc_new w.drew _, hge, hcm, ?_, ?_⟩⟩, ⟨rfl, rfl, rfl, by simp, fun k' hk' _ => heap_alloc_old w.drew _ hk'⟩⟩
      · simp [Builtin.append_, run_underlying ht, run_underlying hu, sizeOf, typeInfo, zeroValue, asInt, asIntOf, hi, hz, hzs, hsize, hby, hk, hk0, hk1, hroom, zeroCells_one, hk00, h63', h48', Question.forced, hfo, newRow, grownCap]
      · simp only [Array.size_append, List.size_toArray, size_zeroCells, List.length_replicate, hxl]
        show n + k + (grownCap w (n + k) cap e - (n + k)) * 1 = _
        omega
      · simp only [Array.toList_append, List.append_assoc]
        rw [← List.append_assoc, ← hlen]
        exact List.take_left

theorem wpList_append_zeros {P : Program} {w : World} {ops : Array Oper} {rest : List Oper} {o : Oper} {a : Act} {Q : Exit → Act → World → Prop} (hgd : o.guard = none) (s x : Operand) (t u : TypeId)
    (ho : o.op = .call { callee := .builtin .append, args := #[s, x], argTypes := #[t, u] })
    (base : Nat) (e : TypeId) (i : TypeInfo) (z : Value) (ku : IntKind) (ht : P.underlying t = some (.slice e)) (hu : P.underlying u = some (.int ku)) (hi : P.info? e = some i) (hz : i.zero = some z)
    (hsize : i.size = 1) (hby : i.bytes = 1) (hzs : z.cells = #[z]) (hz1 : z.oneCell' = true)
    (v : Value) (n : Nat) (xs : List Value) (hs : a.eval s = v) (hown : w.ownsRow base e 1 v n xs) (hv : v ≠ .slice none 0 0) (k : Nat) (hx : a.eval x = .int .i64 k) (h63 : n + k ≤ 70000000000000) (hbase : base ≤ w.heap.size)
    (h : ∀ v' w', w'.ownsRow base e 1 v' (n + k) (xs ++ List.replicate k z) → w.grownBy w' v.ownBlock → wpList P ops Q rest (a.put o.dst v') w') : wpList P ops Q (o :: rest) a w :=
  wpList_plain hgd fun K hK => by
    obtain ⟨v', w', hr, h2, h3⟩ := run_append_zeros (P := P) w base t u o.type e i z ku ht hu hi hz hsize hby hzs hz1 v n xs hown hv k h63 hbase
    unfold Oper.wp execOp
    simp only [ho, resolve, invoke, builtin, Sem.run_bind, Sem.run_pure, Result.andThen_ok, List.map_toArray, List.map_cons, List.map_nil, hs, hx, hr]
    exact hK _ _ (h v' w' h2 h3)
end Go.Proofs.Ytlipedigmokgbaa
