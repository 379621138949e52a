/-
  The polynomial of some roots in the program.
  Conditions: at most 10000 roots.
-/
import Derived.Test.YtlipedigmokgbaaPoly5
namespace Tri
def proots (l : List Nat) : List Nat := pmul (l.map fun r => [1, r])
end Tri
namespace Go.Proofs.Ytlipedigmokgbaa
open Go.RowKit Tri

theorem Try.infoR : (Try.prog.info? 28).map (fun i => (i.zero, i.size, i.bytes)) = some (some (.slice none 0 0), 1, 24) := by kernel_rfl
/-- An own row of small rows [1, r]. -/
def factR (w : World) (base : Nat) (v : Value) (l : List Nat) : Prop :=
  ∃ bs : List Nat, bs.length = l.length ∧ w.ownsRow base 28 1 v l.length (bs.map fun b => Value.slice (some ⟨b, 0, none⟩) 2 2) ∧
    ∀ i, i < l.length → w.heap[bs.getD i 0]? = some (.cells #[.int .u8 1, .int .u8 (l.getD i 0 : Nat)] 5)
theorem factR.cells {w : World} {base : Nat} {v : Value} {l : List Nat} (h : factR w base v l) : ∃ p c, v = .slice p l.length c ∧ cellsR w p (l.map fun r => [1, r]) := by
  obtain ⟨bs, hl, hown, hb⟩ := h
  obtain ⟨h1, h0⟩ := hown
  rcases h0 with ⟨h2, h3⟩ | ⟨g, cap, cur, h2, h3, h4, h5, h6, h7, h8⟩
  · refine ⟨none, 0, by rw [h2, h3], ?_⟩
    intro i hi
    rw [List.length_map] at hi
    omega
  · refine ⟨_, _, h2, ?_⟩
    intro i hi
    rw [List.length_map] at hi
    have hgd : (l.map fun r => [1, r]).getD i [] = [1, l.getD i 0] := by
      simp [List.getD_eq_getElem?_getD, List.getElem?_eq_getElem hi]
    rw [hgd]
    refine ⟨g, 0, some ⟨bs.getD i 0, 0, none⟩, 2, rfl, ?_, by simp, ?_⟩
    · have h9 := congrArg (fun l : List Value => l[i]?) h8
      simp only [List.getElem?_take, List.getElem?_map] at h9
      rw [if_pos (by omega), List.getElem?_eq_getElem (by omega : i < bs.length)] at h9
      unfold World.cell?
      rw [Nat.zero_add]
      simp only [h4]
      rw [← Array.getElem?_toList, h9]
      simp [hl, hi]
    · intro j hj
      refine ⟨_, _, rfl, ?_⟩
      unfold World.cell?
      simp only [hb i hi]
      match j, hj with
      | 0, _ => simp
      | 1, _ => simp

theorem factR.alloc {w : World} {base : Nat} {v : Value} {l : List Nat} (h : factR w base v l) (o : Obj) : factR (w.alloc o) base v l := by
  obtain ⟨bs, hl, ho, hbs⟩ := h
  refine ⟨bs, hl, ?_, fun i hi => ?_⟩
  · obtain ⟨h1, h0⟩ := ho
    refine ⟨h1, h0.imp id fun ⟨g, cap, cur, h2, h3, h4, h5⟩ => ⟨g, cap, cur, h2, h3, ?_, h5⟩⟩
    rw [Below.heap_alloc w o g (Array.getElem?_eq_some_iff.1 h4).1]; exact h4
  · rw [Below.heap_alloc w o _ (Array.getElem?_eq_some_iff.1 (hbs i hi)).1]; exact hbs i hi
theorem factR.alloc2 {w : World} {base : Nat} {v : Value} {l : List Nat} (h : factR w base v l) (o o' : Obj) : factR ((w.alloc o).alloc o') base v l := (h.alloc o).alloc o'
theorem factR.grow {w w' : World} {base n : Nat} {v v' : Value} {l bs : List Nat} {b r : Nat} (hl : bs.length = n) (hll : l.length = n) (ho : w.ownsRow base 28 1 v n (bs.map fun b => Value.slice (some ⟨b, 0, none⟩) 2 2))
    (hbs : ∀ i, i < l.length → w.heap[bs.getD i 0]? = some (.cells #[.int .u8 1, .int .u8 (l.getD i 0 : Nat)] 5))
    (hb : w.heap[b]? = some (.cells #[.int .u8 1, .int .u8 (r : Nat)] 5))
    (hown : w'.ownsRow base 28 1 v' (n + 1) ((bs.map fun b => Value.slice (some ⟨b, 0, none⟩) 2 2) ++ [.slice (some ⟨b, 0, none⟩) 2 2])) (hg : w.grownBy w' v.ownBlock) : factR w' base v' (l ++ [r]) := by
  subst hll
  have hne : ∀ (k r' : Nat), w.heap[k]? = some (Obj.cells #[.int .u8 1, .int .u8 (r' : Nat)] 5) → w'.heap[k]? = w.heap[k]? := by
    intro k r' hk
    refine hg.block k (Array.getElem?_eq_some_iff.1 hk).1 ?_
    intro e
    obtain ⟨_, h0⟩ := ho
    rcases h0 with ⟨h2, _⟩ | ⟨g, cap, cur, h2, _, h4, _⟩
    · rw [h2] at e; simp [Value.ownBlock] at e
    · rw [h2] at e
      simp only [Value.ownBlock, Option.some.injEq] at e
      rw [e] at hk
      rw [hk] at h4
      simp at h4
  refine ⟨bs ++ [b], by simp [hl], ?_, ?_⟩
  · simpa using hown
  · intro i hi
    rw [List.length_append, List.length_singleton] at hi
    by_cases e : i < l.length
    · have h1 := hbs i e
      have h2 : (bs ++ [b]).getD i 0 = bs.getD i 0 := by simp [List.getD_eq_getElem?_getD, List.getElem?_append_left (by omega : i < bs.length)]
      have h3 : (l ++ [r]).getD i 0 = l.getD i 0 := by simp [List.getD_eq_getElem?_getD, List.getElem?_append_left e]
      rw [h2, h3, hne _ _ h1, h1]
    · obtain rfl : i = l.length := by omega
      have h2 : (bs ++ [b]).getD l.length 0 = b := by rw [← hl]; simp
      have h3 : (l ++ [r]).getD l.length 0 = r := by simp
      rw [h2, h3, hne _ _ hb, hb]

set_option maxHeartbeats 1000000 in
set_option maxRecDepth 100000 in
theorem poly_Roots (f : Nat) (p : Option Addr) (n c : Nat) (l : List Nat) (w : World) (hF : isF w f) (hn : n = l.length) (hp : cellsB w p l) (hb : bytesL l) (hl : l.length ≤ 10000) :
    Calls Try.prog 25 #[.pointer (some ⟨f, 0, none⟩), .slice p n c] w (RetC w (proots l)) := by
  subst hn
  have HP := hid hp
  have HB := hid hb
  have HF := hid hF
  clear hp hb hF
  obtain ⟨i0, hi, hz0, hz1, hz2⟩ := info_parts Try.infoR
  go_enter Try.func25, Try.ntmps25
  go_wp2_with ((with_reducible refine wpList_unguard ?_ ?_); (focus rfl))
  go_loopw [5, 10] (fun s i wr => ∃ k : Nat, k ≤ l.length ∧ i = .int .i64 k ∧ factR wr w.heap.size s (l.take k) ∧ Keeps w f wr) (fun _ i _ => l.length - (intOf i).toNat)
  case atStart => exact ⟨0, Nat.zero_le _, rfl, ⟨[], rfl, World.ownsRow_nil _ _ _ _, by simp⟩, Below.refl _ _, HF.out⟩
  case round =>
    obtain ⟨k, hk, rfl, hR, hK⟩ := hrel
    have HR := hid hR
    have K := hid hK
    clear hR hK
    by_cases hlt : k < l.length
    · obtain ⟨a, o, rfl, hc0⟩ := HP.out k hlt
      have hc : wr.cell? ⟨a, o + k, none⟩ = some (.int .u8 (l.getD k 0 : Nat)) := by
        rw [K.out.1.cell (p := ⟨a, o + k, none⟩) (block_lt_of_cell hc0)]; exact hc0
      have HS : Hid (l.take (k + 1) = l.take k ++ [l.getD k 0]) := take_snocN l k hlt
      have hkl : Hid ((l.take k).length = k) := by show _ = _; rw [List.length_take]; omega
      clear hc0
      generalize hs2 : l.take (k + 1) = S2 at *
      have HS2 := hid hs2
      clear hs2
      generalize l.getD k 0 = r at *
      generalize l.take k = S at *
      have hB1 : Below wr.heap.size wr ((wr.alloc (.cells #[.int .u8 1, .int .u8 (r : Nat)] 5)).alloc (.cells #[.slice (some ⟨wr.heap.size, 0, none⟩) 2 2] 28)) :=
        ((Below.refl _ _).alloc (Nat.le_refl _) _).alloc (by simp) _
      have hR2 := HR.out.alloc2 (.cells #[.int .u8 1, .int .u8 (r : Nat)] 5) (.cells #[.slice (some ⟨wr.heap.size, 0, none⟩) 2 2] 28)
      have hR3 := hR2
      obtain ⟨bs, hbl, hown, hbs⟩ := hR2
      rw [hkl.out] at hown hbl
      go_wp2_with (at_builtin; refine wpList_append_own _ rfl _ _ 22 rfl w.heap.size 28 i0 (.slice none 0 0) 1 24 Try.underlying22 hi hz0 hz1 hz2 rfl (by decide) _ k (bs.map fun b => Value.slice (some ⟨b, 0, none⟩) 2 2) rfl ?c0 ⟨wr.heap.size + 1, 0, none⟩ 1 1 [Value.slice (some ⟨wr.heap.size, 0, none⟩) 2 2] rfl ?c1a ?c1 ?c2 ?c3 ?c4 ?c5 ?_)
      case c0 => exact hown
      case c1a => rfl
      case c1 =>
        intro j u hj
        match j with
        | 0 =>
          simp only [List.getElem?_cons_zero, Option.some.injEq] at hj
          subst hj
          have hx := World.cell?_alloc_new (wr.alloc (.cells #[.int .u8 1, .int .u8 (r : Nat)] 5)) #[.slice (some ⟨wr.heap.size, 0, none⟩) 2 2] 28 0
          have hsz : (wr.alloc (.cells #[.int .u8 1, .int .u8 (r : Nat)] 5)).heap.size = wr.heap.size + 1 := by simp
          rw [hsz] at hx
          exact hx
        | j + 1 => simp at hj
      case c2 => intro u hu; simp only [List.mem_singleton] at hu; subst hu; rfl
      case c3 => unfold maxLen; omega
      case c4 => omega
      case c5 => have := K.out.1.size; simp; omega
      intro v' w' hown' hgrow _
      have hpb : ((wr.alloc (.cells #[.int .u8 1, .int .u8 (r : Nat)] 5)).alloc (.cells #[.slice (some ⟨wr.heap.size, 0, none⟩) 2 2] 28)).heap[wr.heap.size]? = some (.cells #[.int .u8 1, .int .u8 (r : Nat)] 5) := by
        rw [Below.heap_alloc _ _ _ (by simp), (MapKept.heap_alloc wr _).1]
      have HR4 := hid (factR.grow hbl hkl.out hown hbs hpb hown' hgrow)
      rw [← HS.out] at HR4
      have hbel : Below w.heap.size w w' := ((K.out.1.trans (hB1.mono K.out.1.size))).grown hgrow (by have := K.out.1.size; simp; omega) (by
        intro g hg
        obtain ⟨_, h0⟩ := hown
        rcases h0 with ⟨h2, _⟩ | ⟨g', cap, cur, h2, h3, _⟩
        · rw [h2] at hg; simp [Value.ownBlock] at hg
        · rw [h2] at hg; simp only [Value.ownBlock, Option.some.injEq] at hg; omega)
      have K7 : Hid (Keeps w f w') := ⟨hbel, HF.out.below hbel HF.out.lt⟩
      clear hbel hown' hgrow hpb hown hbs hR3 hB1 hbl
      go_wp2
      go_roundw
      case rel => exact ⟨k + 1, by omega, by go_num, by rw [HS2.out]; exact HR4.out, K7.out⟩
      case measure => simp [intOf]; omega
    · obtain rfl : k = l.length := by omega
      rw [List.take_length] at HR
      obtain ⟨p', c', rfl, hcr⟩ := HR.out.cells
      have HC := hid hcr
      clear hcr
      go_wp2_with ((with_reducible refine wpList_unguard ?_ ?_); (focus rfl))
      refine Calls.mono (poly_Mul f p' _ c' (l.map fun r => [1, r]) wr K.out.2 (by simp) HC.out ?_ (by simp; omega) ?_) ?_
      · intro a ha
        obtain ⟨r, hr, rfl⟩ := List.mem_map.1 ha
        intro y hy
        simp only [List.mem_cons, List.not_mem_nil, or_false] at hy
        rcases hy with rfl | rfl
        · omega
        · exact HB.out _ hr
      · have : ∀ l : List Nat, lens (l.map fun r => [1, r]) = 2 * l.length := by
          intro l
          induction l with
          | nil => rfl
          | cons a l ih => simp only [lens, List.map_cons, List.sum_cons, List.length_cons] at ih ⊢; simp only [List.length_nil] ; omega
        rw [this]; omega
      rintro e w2 ⟨q2, d2, rfl, hle2, hq2, hbel⟩
      have HQ2 := hid hq2
      have HBel := hid (K.out.1.trans (hbel.mono K.out.1.size))
      have HPR : Hid (proots l = pmul (l.map fun r => [1, r])) := rfl
      clear hq2 hbel
      rw [← HPR.out] at hle2 HQ2 ⊢
      generalize proots l = S at *
      go_wp2_with ((with_reducible refine wpList_unguard ?_ ?_); (focus rfl))
      go_ret
      exact ⟨q2, d2, rfl, hle2, HQ2.out, HBel.out⟩
end Go.Proofs.Ytlipedigmokgbaa
