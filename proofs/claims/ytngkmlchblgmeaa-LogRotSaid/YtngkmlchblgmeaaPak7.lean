/-
  A device: Program, where it does nothing; and all of it.
  What is told of an argument, opened: any struct or array by value, nested as it may be, cell by cell.
  What is told of an argument, opened: slices of texts and slices of bytes, with the bound that the form itself gives.
  What is told of an argument, opened: structs of ints, bools and texts by value, and slices of such, cell by cell.
  The ops of the device's statements (triptychlaw08.Op) as arguments: a struct by value, and a slice of such.
  The example of the device's chapter (awake); great.
  Small words of the device's statements: great, and what lies below.
  RecordTorn, walked.
  Log.page.
-/
import Derived.Test.YtngkmlchblgmeaaPak6
import Derived.Test.YtngkmlchblgmeaaPak1
import Derived.ProofKit
import Derived.OpenShut
import Derived.ChangeArms
import Derived.SizedLaws
import Derived.SliceStrings
import Derived.Test.YtngkmlchblgmeaaPak3
import Derived.Test.YtngkmlchblgmeaaPak5
namespace Go.Proofs.Ytngkmlchblgmeaa
open Go.RowKit Tri

theorem dev_Program_nil (w : World) (c : Int) (p : ByteArray) :
    Calls Try.prog 79 #[.pointer none, .int .i64 c, .string p] w fun e w' => e = .returned (.int .i64 1) ∧ w = w' := by
  (go_enter Try.func79, Try.ntmps79; try simp only [List.append])
  go_wp2_with ((with_reducible refine wpList_unguard ?_ ?_); (focus rfl))
  go_ret
  exact ⟨rfl, rfl⟩
set_option maxHeartbeats 2000000 in
theorem dev_Program_dn (i : DI) (n : Nat) (s : FS) (w : World) (c : Int) (p : ByteArray) (h : DevP w i n s) (hd : s.dn = true) :
    Calls Try.prog 79 #[.pointer (some ⟨i.D, 0, none⟩), .int .i64 c, .string p] w fun e w' => e = .returned (.int .i64 5) ∧ w = w' := by
  have c6 := h.c6
  rw [hd] at c6
  clear h
  (go_enter Try.func79, Try.ntmps79; try simp only [List.append])
  go_wp2_with ((with_reducible refine wpList_unguard ?_ ?_); (focus rfl))
  go_ret
  exact ⟨rfl, rfl⟩
theorem tmod_zero (c : Int) : (Int.tmod c 16 = 0) ↔ c % 16 = 0 := by
  rw [← Int.dvd_iff_tmod_eq_zero, ← Int.dvd_iff_emod_eq_zero]
set_option maxHeartbeats 2000000 in
theorem dev_Program_al (i : DI) (n : Nat) (s : FS) (w : World) (c : Int) (p : ByteArray) (h : DevP w i n s) (hd : s.dn = false) (hc : c % 16 ≠ 0 ∨ p.size ≠ 16) :
    Calls Try.prog 79 #[.pointer (some ⟨i.D, 0, none⟩), .int .i64 c, .string p] w fun e w' => e = .returned (.int .i64 3) ∧ w = w' := by
  have c6 := h.c6
  rw [hd] at c6
  clear h
  by_cases h0 : c % 16 = 0
  · have q1 : Int.tmod c 16 = 0 := (tmod_zero c).2 h0
    have q2 : ((p.size : Int) != 16) = true := by rw [bne_iff_ne]; omega
    (go_enter Try.func79, Try.ntmps79; try simp only [List.append])
    go_wp2_with ((with_reducible refine wpList_unguard ?_ ?_); (focus rfl))
    go_ret
    exact ⟨rfl, rfl⟩
  · have q1 : (Int.tmod c 16 != 0) = true := by rw [bne_iff_ne]; exact fun h => h0 ((tmod_zero c).1 h)
    (go_enter Try.func79, Try.ntmps79; try simp only [List.append])
    go_wp2_with ((with_reducible refine wpList_unguard ?_ ?_); (focus rfl))
    go_ret
    exact ⟨rfl, rfl⟩
set_option maxHeartbeats 2000000 in
theorem dev_Program_far (i : DI) (n : Nat) (s : FS) (w : World) (c : Int) (p : ByteArray) (h : DevP w i n s) (hd : s.dn = false) (hc : -9223372036854775808 ≤ c ∧ c ≤ 9223372036854775807) (hc16 : c % 16 = 0) (hp : p.size = 16) (hr : ¬ (0 ≤ c ∧ c < 64 * n)) :
    Calls Try.prog 79 #[.pointer (some ⟨i.D, 0, none⟩), .int .i64 c, .string p] w fun e w' => e = .returned (.int .i64 2) ∧ w = w' := by
  have c6 := h.c6
  rw [hd] at c6
  have hW := hid (dev_wrong i n s w c 16 h (by omega) (by omega))
  rw [hd, show wrongE n false c 16 = 2 from by unfold wrongE; rw [if_neg (by decide), if_neg (by omega)]] at hW
  clear h
  have q1 : Int.tmod c 16 = 0 := (tmod_zero c).2 hc16
  have hp2 : (p.size : Int) = 16 := by omega
  (go_enter Try.func79, Try.ntmps79; try simp only [List.append])
  go_wp2_with ((with_reducible refine wpList_unguard ?_ ?_); (focus rfl))
  refine Calls.mono hW.out ?_; rintro e w0 ⟨rfl, rfl⟩
  go_wp2_with ((with_reducible refine wpList_unguard ?_ ?_); (focus rfl))
  go_ret
  exact ⟨rfl, rfl⟩
set_option maxHeartbeats 2000000 in
theorem dev_Program_lock (i : DI) (n : Nat) (s : FS) (w : World) (c : Nat) (p : ByteArray) (h : DevP w i n s) (hd : s.dn = false) (hc : c < 64 * n) (hc16 : c % 16 = 0) (hp : p.size = 16) (hl : s.lk.getD (c / 64) false = true) :
    Calls Try.prog 79 #[.pointer (some ⟨i.D, 0, none⟩), .int .i64 c, .string p] w fun e w' => e = .returned (.int .i64 4) ∧ w = w' := by
  have hn : n ≤ 512 := h.fs.2.2.2.1
  have hcl := h.cl
  have c6 := h.c6
  rw [hd] at c6
  have hW := hid (dev_wrong i n s w c 16 h (by omega) (by omega))
  rw [hd, show wrongE n false (c : Int) 16 = 0 from wrongE_of ⟨rfl, by omega, by omega, by omega⟩] at hW
  have c4 := h.c4
  have cl := h.lAt (c / 64) (by omega)
  rw [hl] at cl
  clear h hl
  have q1 : Int.tmod (c : Int) 16 = 0 := (tmod_zero c).2 (by omega)
  have hp2 : (p.size : Int) = 16 := by omega
  (go_enter Try.func79, Try.ntmps79; try simp only [List.append])
  go_wp2_with ((with_reducible refine wpList_unguard ?_ ?_); (focus rfl))
  refine Calls.mono hW.out ?_; rintro e w0 ⟨rfl, rfl⟩
  go_wp2_with ((with_reducible refine wpList_unguard ?_ ?_); (focus rfl))
  go_ret
  exact ⟨rfl, rfl⟩
/-- Program. -/
theorem dev_Program (i : DI) (n : Nat) (s : FS) (w : World) (c : Int) (p : ByteArray) (h : DevP w i n s) (hc : -9223372036854775808 ≤ c ∧ c ≤ 9223372036854775807) :
    Calls Try.prog 79 #[.pointer (some ⟨i.D, 0, none⟩), .int .i64 c, .string p] w fun e w' =>
      e = .returned (.int .i64 (s.progE n c (sb p) : Nat)) ∧ DevP w' i n (s.prog n c (sb p)) ∧ Out i.lo i.hi w w' := by
  have hpl := sb_length p
  have same : ∀ k : Nat, s.progE n c (sb p) = k → ¬ (s.dn = false ∧ (c % 16 = 0 ∧ (sb p).length = 16) ∧ (0 ≤ c ∧ c < 64 * n) ∧ s.lkd (c / 64) = false) →
      Calls Try.prog 79 #[.pointer (some ⟨i.D, 0, none⟩), .int .i64 c, .string p] w (fun e w' => e = .returned (.int .i64 (k : Nat)) ∧ w = w') →
      Calls Try.prog 79 #[.pointer (some ⟨i.D, 0, none⟩), .int .i64 c, .string p] w fun e w' =>
        e = .returned (.int .i64 (s.progE n c (sb p) : Nat)) ∧ DevP w' i n (s.prog n c (sb p)) ∧ Out i.lo i.hi w w' := by
    intro k hk hn hcall
    refine hcall.mono ?_
    rintro e w' ⟨rfl, rfl⟩
    have hS : s.prog n c (sb p) = s := by unfold FS.prog; rw [if_neg hn]
    rw [hS, hk]
    exact ⟨rfl, h, Out.refl _ _ _⟩
  cases hdn : s.dn with
  | true =>
    refine same 5 ?_ ?_ (dev_Program_dn i n s w c p h hdn)
    · unfold FS.progE; rw [hdn, if_pos rfl]
    · rintro ⟨h1, _⟩; rw [h1] at hdn; cases hdn
  | false =>
    by_cases ha : c % 16 ≠ 0 ∨ p.size ≠ 16
    · refine same 3 ?_ ?_ (dev_Program_al i n s w c p h hdn ha)
      · unfold FS.progE; rw [hdn, if_neg (by decide), if_pos (by rw [hpl]; exact ha)]
      · rintro ⟨_, ⟨h1, h2⟩, _⟩; rw [hpl] at h2; omega
    · have ha1 : c % 16 = 0 := by omega
      have ha2 : p.size = 16 := by omega
      by_cases hr : 0 ≤ c ∧ c < 64 * n
      · obtain ⟨j, rfl⟩ : ∃ j : Nat, c = j := ⟨c.toNat, by omega⟩
        have hjq : ((j : Int) / 64).toNat = j / 64 := by omega
        cases hl : s.lk.getD (j / 64) false with
        | true =>
          refine same 4 ?_ ?_ (dev_Program_lock i n s w j p h hdn (by omega) (by omega) ha2 hl)
          · unfold FS.progE FS.lkd; rw [hdn, if_neg (by decide), if_neg (by rw [hpl]; omega), if_pos hr, hjq, hl]; rfl
          · unfold FS.lkd; rintro ⟨_, _, _, h3⟩; rw [hjq, hl] at h3; cases h3
        | false =>
          refine (dev_Program_ok i n s w j p h hdn (by omega) (by omega) ha2 hl).mono ?_
          rintro e w' ⟨rfl, hD, hO⟩
          have hS : s.prog n j (sb p) = { partS s with b := s.wroteB (fun j x => x &&& (sb p).getD j 0) (fun j x => x &&& ((sb p).getD j 0 ||| s.m)) j 16 } := by
            unfold FS.prog FS.lkd
            rw [if_pos ⟨hdn, ⟨ha1, by rw [hpl]; exact ha2⟩, hr, by rw [hjq]; exact hl⟩, Int.toNat_natCast]
          have hE : s.progE n j (sb p) = if s.lf = 0 then 5 else 0 := by
            unfold FS.progE FS.lkd; rw [hdn, if_neg (by decide), if_neg (by rw [hpl]; omega), if_pos hr, hjq, hl]; rfl
          rw [hS, hE]
          exact ⟨rfl, hD, hO⟩
      · refine same 2 ?_ ?_ (dev_Program_far i n s w c p h hdn hc ha1 ha2 hr)
        · unfold FS.progE; rw [hdn, if_neg (by decide), if_neg (by rw [hpl]; omega), if_neg hr]
        · rintro ⟨_, _, h1, _⟩; exact hr h1
end Go.Proofs.Ytngkmlchblgmeaa

namespace Go.Proofs.Ytngkmlchblgmeaa
open Go.ChangeShapes Go.WideShapes Go.ChangeAt Go.RowKit

/-- The type of the i-th cell of a value of a type. -/
def leafAt (P : Program) : Nat → TypeId → Nat → Option TypeId
  | 0, _, _ => none
  | f + 1, t, i =>
    match P.underlying t with
    | some (.struct fs) => fs.toList.findSome? fun fd => if fd.offset ≤ i ∧ i < fd.offset + P.cellsOf fd.type then leafAt P f fd.type (i - fd.offset) else none
    | some (.array n e) => if P.cellsOf e ≠ 0 ∧ i / P.cellsOf e < n then leafAt P f e (i % P.cellsOf e) else none
    | some _ => if i = 0 ∧ P.cellsOf t = 1 then some t else none
    | none => none

section
variable {H : Type} {enc : TypeId × Value → H} {P : Program} {w : World} {base : Nat} {spare : Nat → Bool} {held : Bool}
theorem drop_take_one {α : Type} (l : List α) (o s i : Nat) (h1 : o ≤ i) (h2 : i < o + s) : (((l.drop o).take s).drop (i - o)).take 1 = (l.drop i).take 1 := by
  rw [List.drop_take, List.take_take, List.drop_drop]
  congr 1
  · omega
  · congr 1; omega
theorem trod_leaf : ∀ (f : Nat) (t : TypeId) (i : Nat) (e : TypeId), leafAt P f t i = some e → ∀ (fuel : Nat) (cs : List Value) (x : DataW H × List MemPlace), cs.length ≤ P.cellsOf t →
    DataW.trod enc P w base spare held fuel t cs = some x → ∃ m y, DataW.trod enc P w base spare held m e ((cs.drop i).take 1) = some y := by
  intro f
  induction f with
  | zero => intro t i e h; simp [leafAt] at h
  | succ f ih =>
    intro t i e h fuel cs x hlen hx
    unfold leafAt at h
    cases hu : P.underlying t with
    | none => rw [hu] at h; cases h
    | some d =>
      rw [hu] at h
      have hleaf : (if i = 0 ∧ P.cellsOf t = 1 then some t else none) = some e → ∃ m y, DataW.trod enc P w base spare held m e ((cs.drop i).take 1) = some y := by
        intro h9
        split at h9
        · rename_i hi
          obtain ⟨rfl, h1⟩ := hi
          obtain rfl := Option.some.inj h9
          refine ⟨fuel, x, ?_⟩
          rw [List.drop_zero, List.take_of_length_le (by omega)]
          exact hx
        · cases h9
      cases d with
      | struct fs =>
        obtain ⟨xs, n, _, _, hl, _, hf⟩ := DataW.trod_struct hu hx
        obtain ⟨fd, hfd, hr⟩ := List.exists_of_findSome?_eq_some h
        split at hr
        · rename_i ho
          obtain ⟨j, hj⟩ := List.getElem?_of_mem hfd
          have hj' : fs[j]? = some fd := by rw [← Array.getElem?_toList]; exact hj
          have hjx := hf j fd hj'
          have hjl : j < xs.length := by
            have := (List.getElem?_eq_some_iff.1 hj).1
            simp only [Array.length_toList] at this
            omega
          rw [List.getElem?_eq_getElem hjl] at hjx
          obtain ⟨m, y, hm⟩ := ih fd.type (i - fd.offset) e hr n _ _ (List.length_take_le _ _) hjx
          rw [drop_take_one _ _ _ _ ho.1 ho.2] at hm
          exact ⟨m, y, hm⟩
        · cases hr
      | array n e0 =>
        obtain ⟨xs, m0, _, _, hl, hxl, hf⟩ := DataW.trod_array hu hx
        simp only at h
        split at h
        · rename_i ho
          have hjx := hf (i / P.cellsOf e0) ho.2
          rw [List.getElem?_eq_getElem (by omega)] at hjx
          obtain ⟨m, y, hm⟩ := ih e0 (i % P.cellsOf e0) e h m0 _ _ (List.length_take_le _ _) hjx
          have hdm := Nat.div_add_mod i (P.cellsOf e0)
          have hml := Nat.mod_lt i (Nat.pos_of_ne_zero ho.1)
          have e1 : i % P.cellsOf e0 = i - i / P.cellsOf e0 * P.cellsOf e0 := by rw [Nat.mul_comm]; omega
          rw [e1, drop_take_one _ _ _ _ (by rw [Nat.mul_comm]; omega) (by rw [Nat.mul_comm]; omega)] at hm
          exact ⟨m, y, hm⟩
        · cases h
      | _ => exact hleaf h
end
def isIntB (d : Option TypeDesc) (k : IntKind) : Bool := match d with | some (.int k') => decide (k' = k) | _ => false
theorem isIntB_eq {d : Option TypeDesc} {k : IntKind} (h : isIntB d k = true) : d = some (.int k) := by
  unfold isIntB at h
  split at h
  · rw [of_decide_eq_true h]
  · cases h
/-- A value of cells that are told one by one: ints of their kinds. -/
theorem open_agg {H : Type} {enc : TypeId × Value → H} {P : Program} {W : World} {base t : Nat} {v : Value} {d : DataW H} {p : List MemPlace} (ks : List (TypeId × IntKind)) (hagg : (match P.underlying t with | some (.struct _) | some (.array _ _) => true | _ => false) = true)
    (hc : P.cellsOf t = ks.length) (hks : (List.range ks.length).all (fun i => decide (leafAt P 6 t i = (ks[i]?).map (·.1))) = true) (hku : ks.all (fun k => isIntB (P.underlying k.1) k.2) = true)
    (hv : Value.okWide P W .any base t v) (h : DataW.Trod enc P W 0 (fun _ => true) true t v d p) :
    ∃ l : List Int, l.length = ks.length ∧ v = .agg ((List.zipWith (fun k x => Value.int k.2 x) ks l)).toArray ∧ ∀ (i : Nat) (k : TypeId × IntKind) (x : Int), ks[i]? = some k → l[i]? = some x → (Lit.int k.2 x).wf = true := by
  have hv' : ∃ cs, v = Value.agg cs ∧ cs.size = P.cellsOf t ∧ Row.okWide P W .any base t cs := by
    unfold Value.okWide at hv
    split at hagg
    · rename_i hu; rw [hu] at hv; exact hv
    · rename_i hu; rw [hu] at hv; exact hv
    · cases hagg
  obtain ⟨cs, rfl, hsz, -⟩ := hv'
  obtain ⟨fuel, hf⟩ := h
  have hl : (Value.cells (.agg cs)).toList = cs.toList := rfl
  rw [hl] at hf
  have key : ∀ (i : Nat) (k : TypeId × IntKind), ks[i]? = some k → ∃ x : Int, cs.toList[i]? = some (Value.int k.2 x) ∧ (Lit.int k.2 x).wf = true := by
    intro i k hk
    have hi : i < ks.length := (List.getElem?_eq_some_iff.1 hk).1
    have h1 := List.all_eq_true.1 hks i (List.mem_range.2 hi)
    rw [decide_eq_true_eq, hk] at h1
    obtain ⟨m, y, hm⟩ := trod_leaf 6 t i k.1 h1 fuel cs.toList _ (by rw [Array.length_toList]; omega) hf
    have h2 := List.all_eq_true.1 hku k (List.mem_of_getElem? hk)
    obtain ⟨x, e, _, hw⟩ := DataW.trod_int (isIntB_eq h2) hm
    refine ⟨x, ?_, hw⟩
    have hi' : i < cs.toList.length := by rw [Array.length_toList]; omega
    rw [List.drop_eq_getElem_cons hi'] at e
    simp only [List.take_succ_cons, List.take_zero, List.cons.injEq, and_true] at e
    rw [List.getElem?_eq_getElem hi', e]
  obtain ⟨c⟩ := cs
  simp only [List.size_toArray] at hsz
  simp only at key
  clear hf hl hks hku hv hagg
  have hlen : c.length = ks.length := by omega
  clear hsz hc
  induction ks generalizing c with
  | nil => exact ⟨[], rfl, by cases c <;> simp at hlen ⊢, by simp⟩
  | cons k ks ih =>
    cases c with
    | nil => simp at hlen
    | cons u c =>
      obtain ⟨x, hx, hw⟩ := key 0 k rfl
      simp only [List.getElem?_cons_zero, Option.some.injEq] at hx
      subst hx
      obtain ⟨l, h1, h2, h3⟩ := ih c (fun i k' hk' => key (i + 1) k' (by simpa using hk')) (by simpa using hlen)
      refine ⟨x :: l, by simp [h1], ?_, ?_⟩
      · simp only [Value.agg.injEq, Array.mk.injEq] at h2 ⊢
        simp [h2]
      · intro i k' x' hk' hx'
        cases i with
        | zero => simp at hk' hx'; subst hk'; subst hx'; exact hw
        | succ i => simp at hk' hx'; exact h3 i k' x' hk' hx'
/-- What open_agg asks of a type. -/
def aggOf (P : Program) (t : TypeId) (ks : List (TypeId × IntKind)) : Bool :=
  (match P.underlying t with | some (.struct _) | some (.array _ _) => true | _ => false) && (decide (P.cellsOf t = ks.length) && ((List.range ks.length).all (fun i => decide (leafAt P 6 t i = (ks[i]?).map (·.1))) && ks.all (fun k => isIntB (P.underlying k.1) k.2)))
theorem open_aggs {H : Type} {enc : TypeId × Value → H} {P : Program} {W : World} {base t : Nat} {v : Value} {d : DataW H} {p : List MemPlace} (ks : List (TypeId × IntKind)) (hk : aggOf P t ks = true)
    (hv : Value.okWide P W .any base t v) (h : DataW.Trod enc P W 0 (fun _ => true) true t v d p) :
    ∃ l : List Int, l.length = ks.length ∧ v = .agg ((List.zipWith (fun k x => Value.int k.2 x) ks l)).toArray ∧ ∀ (i : Nat) (k : TypeId × IntKind) (x : Int), ks[i]? = some k → l[i]? = some x → (Lit.int k.2 x).wf = true := by
  unfold aggOf at hk
  rw [Bool.and_eq_true, Bool.and_eq_true, Bool.and_eq_true] at hk
  exact open_agg ks hk.1 (of_decide_eq_true hk.2.1) hk.2.2.1 hk.2.2.2 hv h
theorem list4g {l : List Int} (h : l.length = 4) : ∃ a b c d, l = [a, b, c, d] := by
  match l, h with
  | [a, b, c, d], _ => exact ⟨a, b, c, d, rfl⟩
set_option linter.constructorNameAsVariable false in
set_option maxRecDepth 1000000 in
/-- Four ints (a record). -/
theorem open_i4 {H : Type} {enc : TypeId × Value → H} {W : World} {base t : Nat} {v : Value} {d : DataW H} {p : List MemPlace} (hk : aggOf Try.prog t [(3, .i64), (3, .i64), (3, .i64), (3, .i64)] = true)
    (hv : Value.okWide Try.prog W .any base t v) (h : DataW.Trod enc Try.prog W 0 (fun _ => true) true t v d p) :
    ∃ a b c e : Int, v = .agg #[.int .i64 a, .int .i64 b, .int .i64 c, .int .i64 e] ∧ (Lit.int .i64 a).wf = true ∧ (Lit.int .i64 b).wf = true ∧ (Lit.int .i64 c).wf = true ∧ (Lit.int .i64 e).wf = true := by
  have key := open_aggs (P := Try.prog) (t := t) (v := v) (W := W) (base := base) (enc := enc) (d := d) (p := p) _ hk

  have key2 := key hv
  have key3 := key2 h
  obtain ⟨l, hl, rfl, hw⟩ := key3
  obtain ⟨a, b, c, e, rfl⟩ := list4g hl
  have h0 := hw 0 (3, .i64) a; have h1 := hw 1 (3, .i64) b; have h2 := hw 2 (3, .i64) c; have h3 := hw 3 (3, .i64) e
  simp only [List.getElem?_cons_zero, List.getElem?_cons_succ, forall_const] at h0 h1 h2 h3
  exact ⟨a, b, c, e, rfl, h0, h1, h2, h3⟩
theorem list13 {l : List Int} (h : l.length = 13) : ∃ a b c d e f g i j k m n o, l = [a, b, c, d, e, f, g, i, j, k, m, n, o] := by
  match l, h with
  | [a, b, c, d, e, f, g, i, j, k, m, n, o], _ => exact ⟨a, b, c, d, e, f, g, i, j, k, m, n, o, rfl⟩
set_option linter.constructorNameAsVariable false in
set_option maxRecDepth 1000000 in
/-- Thirteen ints (what is known of the slots). -/
theorem open_i13 {H : Type} {enc : TypeId × Value → H} {W : World} {base t : Nat} {v : Value} {d : DataW H} {p : List MemPlace} (hk : aggOf Try.prog t (List.replicate 13 (3, .i64)) = true)
    (hv : Value.okWide Try.prog W .any base t v) (h : DataW.Trod enc Try.prog W 0 (fun _ => true) true t v d p) :
    ∃ a b c d e f g i j k m n o : Int, v = .agg #[.int .i64 a, .int .i64 b, .int .i64 c, .int .i64 d, .int .i64 e, .int .i64 f, .int .i64 g, .int .i64 i, .int .i64 j, .int .i64 k, .int .i64 m, .int .i64 n, .int .i64 o] := by
  obtain ⟨l, hl, rfl, hw⟩ := open_aggs (P := Try.prog) (t := t) (v := v) (W := W) (base := base) (enc := enc) (d := d) (p := p) _ hk hv h
  obtain ⟨a, b, c, d, e, f, g, i, j, k, m, n, o, rfl⟩ := list13 (by simpa using hl)
  exact ⟨a, b, c, d, e, f, g, i, j, k, m, n, o, rfl⟩
end Go.Proofs.Ytngkmlchblgmeaa

namespace Go.Proofs.Ytngkmlchblgmeaa
open Go.ChangeShapes Go.WideShapes Go.ChangeAt Go.RowKit

def IsStrs (w : World) (a : Option Addr) (len cap : Nat) (l : List ByteArray) : Prop :=
  len = l.length ∧ len ≤ cap ∧ cap ≤ 140737488351232 ∧ cellsS w a l ∧ ∀ s ∈ l, s.size ≤ 140737488351232
def IsBytes (w : World) (a : Option Addr) (len cap : Nat) (l : List Nat) : Prop :=
  len = l.length ∧ len ≤ cap ∧ cap ≤ 140737488351232 ∧ cellsB w a l ∧ ∀ x ∈ l, x < 256

theorem weightsAll_mem {H : Type} {P : Program} {e : TypeId} : ∀ {l : List (DataW H)} {d : DataW H}, d ∈ l → ∀ n ∈ d.weights P e, n ∈ DataW.weightsAll P e l
  | d' :: r, d, hd, n, hn => by
    simp only [DataW.weightsAll, List.mem_append]
    rcases List.mem_cons.1 hd with rfl | h
    · exact Or.inl hn
    · exact Or.inr (weightsAll_mem h n hn)
theorem sized_innerS {H : Type} {P : Program} {ts : List TypeId} {ds : List (DataW H)} (h : (DataW.weightsEach P ts ds).all (· ≤ reachBytes) = true) {j : Nat} {t e : TypeId} {elems spare : List (DataW H)} {cs : List UInt8}
    (ht : ts[j]? = some t) (hd : ds[j]? = some (.slice elems spare)) (hu : P.underlying t = some (.slice e)) (hx : DataW.lit (.string cs) ∈ elems) : cs.length ≤ reachBytes := by
  refine of_decide_eq_true (List.all_eq_true.1 h _ (DataW.weights_mem_each ht hd _ ?_))
  simp only [DataW.weights, hu, List.mem_cons, List.mem_append]
  exact Or.inr (Or.inl (weightsAll_mem hx _ (by simp [DataW.weights])))
theorem getD_takeS (l : List ByteArray) (n i : Nat) (h : i < (l.take n).length) : (l.take n).getD i ByteArray.empty = l.getD i ByteArray.empty := by
  simp only [List.length_take] at h
  simp only [List.getD_eq_getElem?_getD, List.getElem?_take]
  rw [if_pos (by omega)]
theorem spot_add {w : World} {a : Addr} {i : Nat} {v v0 : Value} (h0 : w.cell? (a.add 0) = some v0) (h : w.cell? (a.add i) = some v) : a = ⟨a.block, a.off, none⟩ ∧ w.cell? ⟨a.block, a.off + i, none⟩ = some v := by
  obtain ⟨b, o, s⟩ := a
  have hs : s = none := by simpa [Addr.add] using World.cell?_spot h0
  subst hs
  exact ⟨rfl, by rwa [add_plain] at h⟩

theorem open_strs {H : Type} {enc : TypeId × Value → H} {W : World} {base t e j len cap : Nat} {a : Option Addr} {d : DataW H} {p : List MemPlace} {ts : List TypeId} {ds : List (DataW H)}
    (hsz : (DataW.weightsEach Try.prog ts ds).all (· ≤ reachBytes) = true) (ht : ts[j]? = some t) (hd : ds[j]? = some d)
    (hu : Try.prog.underlying t = some (.slice e)) (he : Try.prog.underlying e = some .string) (hc : Try.prog.cellsOf e = 1) (hb : Try.prog.bytesOf e = 16)
    (h : DataW.Trod enc Try.prog W base (fun _ => true) true t (.slice a len cap) d p) : ∃ l, IsStrs W a len cap l := by
  obtain ⟨fuel, hf⟩ := h
  rcases open_strings hu he hc hf with ⟨hcs, _⟩ | ⟨x, l, c, ss, hcs, _, hl, hm, hz, hx, hcell, _⟩
  · simp [Value.cells] at hcs
    obtain ⟨rfl, rfl, rfl⟩ := hcs
    exact ⟨[], rfl, Nat.le_refl _, by omega, cellsS.nil _ _, by simp⟩
  · simp [Value.cells] at hcs
    obtain ⟨rfl, rfl, rfl⟩ := hcs
    simp only [if_true] at hz
    simp only [Prod.mk.injEq] at hx
    obtain ⟨rfl, -⟩ := hx
    have h1 := sized_slice hsz ht hd hu
    simp only [strs, List.length_map, List.length_take, List.length_drop, hb, reachBytes] at h1
    refine ⟨ss.take len, by rw [List.length_take]; omega, hl, by omega, ?_, ?_⟩
    · intro i hi
      have hi' : i < ss.length := by rw [List.length_take] at hi; omega
      obtain ⟨hx1, hx2⟩ := spot_add (hcell 0 (by omega)) (hcell i hi')
      exact ⟨_, _, congrArg some hx1, by rw [getD_takeS _ _ _ hi]; exact hx2⟩
    · intro s hs
      have h2 := sized_innerS (cs := s.data.toList) hsz ht hd hu (List.mem_map.2 ⟨s, hs, rfl⟩)
      simpa [reachBytes] using h2

theorem open_bytes {H : Type} {enc : TypeId × Value → H} {W : World} {base t e j len cap : Nat} {a : Option Addr} {d : DataW H} {p : List MemPlace} {ts : List TypeId} {ds : List (DataW H)}
    (hsz : (DataW.weightsEach Try.prog ts ds).all (· ≤ reachBytes) = true) (ht : ts[j]? = some t) (hd : ds[j]? = some d)
    (hu : Try.prog.underlying t = some (.slice e)) (he : Try.prog.underlying e = some (.int .u8)) (hc : Try.prog.cellsOf e = 1) (hb : Try.prog.bytesOf e = 1)
    (h : DataW.Trod enc Try.prog W base (fun _ => true) true t (.slice a len cap) d p) : ∃ l, IsBytes W a len cap l := by
  obtain ⟨fuel, hf⟩ := h
  rcases open_ints hu he hc hf with ⟨hcs, _⟩ | ⟨x, l, c, zs, hcs, _, hl, hm, hz, hx, hcell, hw⟩
  · simp [Value.cells] at hcs
    obtain ⟨rfl, rfl, rfl⟩ := hcs
    exact ⟨[], rfl, Nat.le_refl _, by omega, cellsB.nil _ _, by simp⟩
  · simp [Value.cells] at hcs
    obtain ⟨rfl, rfl, rfl⟩ := hcs
    simp only [if_true] at hz
    simp only [Prod.mk.injEq] at hx
    obtain ⟨rfl, -⟩ := hx
    have h1 := sized_slice hsz ht hd hu
    simp only [lits, List.length_map, List.length_take, List.length_drop, hb, reachBytes] at h1
    refine ⟨(zs.take len).map Int.toNat, by rw [List.length_map, List.length_take]; omega, hl, by omega, ?_, ?_⟩
    · intro i hi
      rw [List.length_map, List.length_take] at hi
      have hi' : i < zs.length := by omega
      obtain ⟨hx1, hx2⟩ := spot_add (hcell 0 (by omega)) (hcell i hi')
      have hmem : zs[i] ∈ zs := List.getElem_mem hi'
      have hn := u8_of (hw _ hmem)
      refine ⟨_, _, congrArg some hx1, ?_⟩
      rw [hx2]
      have h3 : ((zs.take len).map Int.toNat).getD i 0 = (zs[i]).toNat := by
        simp only [List.getD_eq_getElem?_getD, List.getElem?_map, List.getElem?_take]
        rw [if_pos (by omega), List.getElem?_eq_getElem hi']
        rfl
      rw [h3, List.getD_eq_getElem?_getD, List.getElem?_eq_getElem hi']
      obtain ⟨m, hm1, hm2⟩ := hn
      simp [hm2]
    · intro y hy
      obtain ⟨z, hz1, rfl⟩ := List.mem_map.1 hy
      have hn := u8_of (hw z (List.mem_of_mem_take hz1))
      obtain ⟨m, hm1, hm2⟩ := hn
      omega
end Go.Proofs.Ytngkmlchblgmeaa

namespace Go.Proofs.Ytngkmlchblgmeaa
open Go.ChangeShapes Go.WideShapes Go.ChangeAt Go.RowKit

/-- What a cell may be: an int of a kind, a text, or a bool. -/
def leafOk : Option (Option IntKind) → Value → Prop
  | some (some k), v => ∃ x, v = .int k x ∧ (Lit.int k x).wf = true
  | some none, v => ∃ s : ByteArray, v = .string s ∧ s.size ≤ maxLen
  | none, v => ∃ b : Bool, v = .bool b
def isLeafB (d : Option TypeDesc) : Option (Option IntKind) → Bool
  | some (some k) => isIntB d k
  | some none => match d with | some .string => true | _ => false
  | none => match d with | some .bool => true | _ => false
/-- What the openers ask of a type. -/
def flatOf (P : Program) (t : TypeId) (ks : List (TypeId × Option (Option IntKind))) : Bool :=
  decide (P.cellsOf t = ks.length) && ((List.range ks.length).all (fun i => decide (leafAt P 6 t i = (ks[i]?).map (·.1))) && ks.all (fun k => isLeafB (P.underlying k.1) k.2))
section
variable {H : Type} {enc : TypeId × Value → H} {P : Program} {w : World} {base : Nat} {spare : Nat → Bool} {held : Bool}
theorem leaf_of {t : TypeId} {k : Option (Option IntKind)} {v : Value} {fuel : Nat} {x : DataW H × List MemPlace} (hl : isLeafB (P.underlying t) k = true) (h : DataW.trod enc P w base spare held fuel t [v] = some x) : leafOk k v := by
  match k, hl with
  | some (some k), hl =>
    obtain ⟨x, e, _, hw⟩ := DataW.trod_int (isIntB_eq hl) h
    simp only [List.cons.injEq, and_true] at e
    exact ⟨x, e, hw⟩
  | some none, hl =>
    have hu : P.underlying t = some .string := by
      simp only [isLeafB] at hl
      split at hl
      · rename_i h; exact h
      · cases hl
    obtain ⟨s, e, _, hs⟩ := DataW.trod_string hu h
    simp only [List.cons.injEq, and_true] at e
    exact ⟨s, e, hs⟩
  | none, hl =>
    have hu : P.underlying t = some .bool := by
      simp only [isLeafB] at hl
      split at hl
      · rename_i h; exact h
      · cases hl
    obtain ⟨b, e, _⟩ := DataW.trod_bool hu h
    simp only [List.cons.injEq, and_true] at e
    exact ⟨b, e⟩
theorem flat_row {t : TypeId} {ks : List (TypeId × Option (Option IntKind))} {fuel : Nat} {cs : List Value} {x : DataW H × List MemPlace} (hk : flatOf P t ks = true) (hlen : cs.length = P.cellsOf t)
    (h : DataW.trod enc P w base spare held fuel t cs = some x) : cs.length = ks.length ∧ ∀ (i : Nat) (k : TypeId × Option (Option IntKind)), ks[i]? = some k → ∃ v, cs[i]? = some v ∧ leafOk k.2 v := by
  unfold flatOf at hk
  rw [Bool.and_eq_true, Bool.and_eq_true, decide_eq_true_eq] at hk
  obtain ⟨h1, h2, h3⟩ := hk
  refine ⟨by omega, fun i k hki => ?_⟩
  have hi : i < ks.length := (List.getElem?_eq_some_iff.1 hki).1
  have h4 := List.all_eq_true.1 h2 i (List.mem_range.2 hi)
  rw [decide_eq_true_eq, hki] at h4
  obtain ⟨m, y, hm⟩ := trod_leaf 6 t i k.1 h4 fuel cs _ (by omega) h
  have hi' : i < cs.length := by omega
  rw [List.drop_eq_getElem_cons hi'] at hm
  simp only [List.take_succ_cons, List.take_zero] at hm
  exact ⟨cs[i], List.getElem?_eq_getElem hi', leaf_of (List.all_eq_true.1 h3 k (List.mem_of_getElem? hki)) hm⟩
end
/-- The cells of a slice of structs, row by row. -/
def cellsG (w : World) (a : Option Addr) (k : Nat) (rows : List (List Value)) : Prop :=
  ∀ i, i < rows.length → ∃ b o, a = some ⟨b, o, none⟩ ∧ ∀ j v, (rows.getD i [])[j]? = some v → w.cell? ⟨b, o + i * k + j, none⟩ = some v
theorem cellsG.below {w w' : World} {p : Option Addr} {k : Nat} {l : List (List Value)} (h : cellsG w p k l) (hb : Below w.heap.size w w') : cellsG w' p k l := by
  intro i hi
  obtain ⟨b, o, e, hc⟩ := h i hi
  exact ⟨b, o, e, fun j v hv => by rw [hb.cell (p := ⟨b, o + i * k + j, none⟩) (block_lt_of_cell (hc j v hv))]; exact hc j v hv⟩
/-- What is told of a slice of structs that came in. -/
def IsFlat (ks : List (TypeId × Option (Option IntKind))) (w : World) (a : Option Addr) (len cap : Nat) (rows : List (List Value)) : Prop :=
  len = rows.length ∧ len ≤ cap ∧ cap ≤ 140737488351232 ∧ cellsG w a ks.length rows ∧ ∀ r ∈ rows, r.length = ks.length ∧ ∀ (i : Nat) (k : TypeId × Option (Option IntKind)), ks[i]? = some k → ∃ v, r[i]? = some v ∧ leafOk k.2 v

theorem open_flat {H : Type} {enc : TypeId × Value → H} {W : World} {base t e j len cap bs : Nat} {a : Option Addr} {d : DataW H} {p : List MemPlace} {ts : List TypeId} {ds : List (DataW H)} (ks : List (TypeId × Option (Option IntKind)))
    (hsz : (DataW.weightsEach Try.prog ts ds).all (· ≤ reachBytes) = true) (ht : ts[j]? = some t) (hd : ds[j]? = some d)
    (hu : Try.prog.underlying t = some (.slice e)) (hk : flatOf Try.prog e ks = true) (hb : Try.prog.bytesOf e = bs) (hb0 : 0 < bs) (hk0 : 0 < ks.length)
    (h : DataW.Trod enc Try.prog W base (fun _ => true) true t (.slice a len cap) d p) : ∃ rows, IsFlat ks W a len cap rows := by
  obtain ⟨fuel, hf⟩ := h
  rcases DataW.trod_slice hu hf with ⟨hcs, _⟩ | ⟨x, l, c, elems, rest, n, _, hcs, hx, hbb, hl, hm, hlen, hel, hsp, _⟩
  · simp [Value.cells] at hcs
    obtain ⟨rfl, rfl, rfl⟩ := hcs
    exact ⟨[], rfl, Nat.le_refl _, by omega, fun i hi => by simp at hi, by simp⟩
  · simp [Value.cells] at hcs
    obtain ⟨rfl, rfl, rfl⟩ := hcs
    simp only [Prod.mk.injEq] at hx
    obtain ⟨rfl, -⟩ := hx
    have h1 := sized_slice hsz ht hd hu
    simp only [List.length_map, hb, reachBytes] at h1
    have hr := (hsp rfl).1
    have hcap : cap ≤ 140737488351232 := by
      have h2 : cap * 1 ≤ (elems.length + rest.length) * bs := Nat.mul_le_mul (by omega) hb0
      omega
    have each : ∀ i, ∃ row : List Value, i < len → (row.length = ks.length ∧ (∀ (q : Nat) (k : TypeId × Option (Option IntKind)), ks[q]? = some k → ∃ v, row[q]? = some v ∧ leafOk k.2 v) ∧ ∀ q v, row[q]? = some v → W.cell? ((x.add (i * ks.length)).add q) = some v) := by
      intro i
      by_cases hi : i < len
      · have h2 := hel i hi
        have hcl : Try.prog.cellsOf e = ks.length := by unfold flatOf at hk; rw [Bool.and_eq_true, decide_eq_true_eq] at hk; exact hk.1
        rw [List.getElem?_eq_getElem (by omega)] at h2
        obtain ⟨cs', hcs', hy⟩ := Option.bind_eq_some_iff.1 h2
        have h5 := World.cells?_some hcs'
        obtain ⟨r1, r2⟩ := flat_row hk h5.2.1 hy
        refine ⟨cs', fun _ => ⟨r1, r2, fun q v hv => ?_⟩⟩
        have hq : q < cs'.length := (List.getElem?_eq_some_iff.1 hv).1
        rw [← hcl, h5.2.2 q (by omega), hv]
      · exact ⟨[], fun h => absurd h hi⟩
    obtain ⟨f, hf'⟩ := Classical.axiomOfChoice each
    refine ⟨(List.range len).map f, by simp, hl, hcap, ?_, ?_⟩
    · intro i hi
      rw [List.length_map, List.length_range] at hi
      have hgi : ((List.range len).map f).getD i [] = f i := by
        rw [List.getD_eq_getElem?_getD, List.getElem?_map, List.getElem?_range hi]; rfl
      obtain ⟨r1, r2, r3⟩ := hf' i hi
      have hs : x.spot = none := by
        obtain ⟨q1, q2, q3⟩ := hf' 0 (by omega)
        have c0 := q3 0 _ (List.getElem?_eq_getElem (by omega))
        have := World.cell?_spot c0
        obtain ⟨xb, xo, xs⟩ := x
        simpa [Addr.add] using this
      obtain ⟨xb, xo, xs⟩ := x
      simp only at hs
      subst hs
      refine ⟨xb, xo, rfl, fun q v hv => ?_⟩
      rw [hgi] at hv
      have := r3 q v hv
      rwa [add_plain, add_plain] at this
    · intro r hr'
      obtain ⟨i, hi, rfl⟩ := List.mem_map.1 hr'
      rw [List.mem_range] at hi
      exact ⟨(hf' i hi).1, (hf' i hi).2.1⟩
/-- A struct by value. -/
theorem open_flatV {H : Type} {enc : TypeId × Value → H} {P : Program} {W : World} {base t : Nat} {v : Value} {d : DataW H} {p : List MemPlace} (ks : List (TypeId × Option (Option IntKind))) (hagg : (match P.underlying t with | some (.struct _) | some (.array _ _) => true | _ => false) = true)
    (hk : flatOf P t ks = true) (hv : Value.okWide P W .any base t v) (h : DataW.Trod enc P W 0 (fun _ => true) true t v d p) :
    ∃ r : List Value, v = .agg r.toArray ∧ r.length = ks.length ∧ ∀ (i : Nat) (k : TypeId × Option (Option IntKind)), ks[i]? = some k → ∃ v, r[i]? = some v ∧ leafOk k.2 v := by
  have hv' : ∃ cs, v = Value.agg cs ∧ cs.size = P.cellsOf t ∧ Row.okWide P W .any base t cs := by
    unfold Value.okWide at hv
    split at hagg
    · rename_i hu; rw [hu] at hv; exact hv
    · rename_i hu; rw [hu] at hv; exact hv
    · cases hagg
  obtain ⟨cs, rfl, hsz, -⟩ := hv'
  obtain ⟨fuel, hf⟩ := h
  have hl : (Value.cells (.agg cs)).toList = cs.toList := rfl
  rw [hl] at hf
  obtain ⟨r1, r2⟩ := flat_row hk (by rw [Array.length_toList]; exact hsz) hf
  exact ⟨cs.toList, by simp, r1, r2⟩
end Go.Proofs.Ytngkmlchblgmeaa

namespace Tri
/-- An op. -/
structure OpR where
  k : Int
  a : Int
  n : Int
  s : ByteArray
  tb : Int
  tm : Nat
def i64ok (x : Int) : Prop := -9223372036854775808 ≤ x ∧ x ≤ 9223372036854775807
def OpR.ok (o : OpR) : Prop := i64ok o.k ∧ i64ok o.a ∧ i64ok o.n ∧ o.s.size ≤ Go.maxLen ∧ i64ok o.tb ∧ o.tm < 256
end Tri
namespace Go.Proofs.Ytngkmlchblgmeaa
open Go.ChangeShapes Go.WideShapes Go.ChangeAt Go.RowKit Tri
def opC (o : OpR) : List Value := [.int .i64 o.k, .int .i64 o.a, .int .i64 o.n, .string o.s, .int .i64 o.tb, .int .u8 (o.tm : Nat)]
def opK : List (TypeId × Option (Option IntKind)) := [(3, some (some .i64)), (3, some (some .i64)), (3, some (some .i64)), (9, some none), (3, some (some .i64)), (5, some (some .u8))]
theorem i64ok_of {x : Int} (h : (Lit.int .i64 x).wf = true) : i64ok x := by
  have := bounds_i64 h
  unfold i64ok
  omega
theorem op_of {r : List Value} (hl : r.length = opK.length) (h : ∀ (i : Nat) (k : TypeId × Option (Option IntKind)), opK[i]? = some k → ∃ v, r[i]? = some v ∧ leafOk k.2 v) : ∃ o : OpR, r = opC o ∧ o.ok := by
  obtain ⟨v0, e0, x0, rfl, w0⟩ := h 0 _ rfl
  obtain ⟨v1, e1, x1, rfl, w1⟩ := h 1 _ rfl
  obtain ⟨v2, e2, x2, rfl, w2⟩ := h 2 _ rfl
  obtain ⟨v3, e3, x3, rfl, w3⟩ := h 3 _ rfl
  obtain ⟨v4, e4, x4, rfl, w4⟩ := h 4 _ rfl
  obtain ⟨v5, e5, x5, rfl, w5⟩ := h 5 _ rfl
  obtain ⟨m, hm, rfl⟩ := u8_of w5
  refine ⟨⟨x0, x1, x2, x3, x4, m⟩, ?_, i64ok_of w0, i64ok_of w1, i64ok_of w2, w3, i64ok_of w4, hm⟩
  match r, hl with
  | [a, b, c, d, e, f], _ =>
    simp only [List.getElem?_cons_zero, List.getElem?_cons_succ, Option.some.injEq] at e0 e1 e2 e3 e4 e5
    subst e0 e1 e2 e3 e4 e5
    rfl
/-- What is told of a slice of ops that came in. -/
def IsOps (w : World) (a : Option Addr) (len cap : Nat) (l : List OpR) : Prop := len = l.length ∧ len ≤ cap ∧ cap ≤ 140737488351232 ∧ cellsG w a 6 (l.map opC) ∧ ∀ o ∈ l, o.ok
theorem ops_of {w : World} {a : Option Addr} {len cap : Nat} {rows : List (List Value)} (h : IsFlat opK w a len cap rows) : ∃ l, IsOps w a len cap l := by
  obtain ⟨h1, h2, h3, h4, h5⟩ := h
  have key : ∀ rows : List (List Value), (∀ r ∈ rows, r.length = opK.length ∧ ∀ (i : Nat) (k : TypeId × Option (Option IntKind)), opK[i]? = some k → ∃ v, r[i]? = some v ∧ leafOk k.2 v) → ∃ l : List OpR, rows = l.map opC ∧ ∀ o ∈ l, o.ok := by
    intro rows
    induction rows with
    | nil => intro _; exact ⟨[], rfl, by simp⟩
    | cons r rows ih =>
      intro h
      obtain ⟨l, e, hl⟩ := ih (fun r' hr => h r' (List.mem_cons_of_mem _ hr))
      obtain ⟨o, e2, ho⟩ := op_of (h r (List.mem_cons_self ..)).1 (h r (List.mem_cons_self ..)).2
      refine ⟨o :: l, by rw [List.map_cons, e, e2], ?_⟩
      intro o' ho'
      rcases List.mem_cons.1 ho' with rfl | h
      · exact ho
      · exact hl o' h
  obtain ⟨l, rfl, hl⟩ := key rows h5
  rw [List.length_map] at h1
  exact ⟨l, h1, h2, h3, h4, hl⟩
set_option linter.constructorNameAsVariable false in
set_option maxRecDepth 1000000 in
theorem open_torn {H : Type} {enc : TypeId × Value → H} {W : World} {base : Nat} {v : Value} {d : DataW H} {p : List MemPlace} (hagg : (match Try.prog.underlying 76 with | some (.struct _) | some (.array _ _) => true | _ => false) = true)
    (hk : flatOf Try.prog 76 [(3, some (some .i64)), (5, some (some .u8))] = true) (hv : Value.okWide Try.prog W .any base 76 v) (h : DataW.Trod enc Try.prog W 0 (fun _ => true) true 76 v d p) :
    ∃ (k : Int) (m : Nat), v = .agg #[.int .i64 k, .int .u8 (m : Nat)] ∧ i64ok k ∧ m < 256 := by
  obtain ⟨r, rfl, h1, h2⟩ := open_flatV [(3, some (some .i64)), (5, some (some .u8))] hagg hk hv h
  obtain ⟨v0, e0, x0, rfl, w0⟩ := h2 0 _ rfl
  obtain ⟨v1, e1, x1, rfl, w1⟩ := h2 1 _ rfl
  obtain ⟨m, hm, rfl⟩ := u8_of w1
  refine ⟨x0, m, ?_, i64ok_of w0, hm⟩
  match r, h1 with
  | [a, b], _ =>
    simp only [List.getElem?_cons_zero, List.getElem?_cons_succ, Option.some.injEq] at e0 e1
    subst e0 e1
    rfl
end Go.Proofs.Ytngkmlchblgmeaa

namespace Go.Proofs.Ytngkmlchblgmeaa
open Go.RowKit Tri

theorem sb_repS (n x : Nat) (h : x < 256) : sb (repS n x) = List.replicate n x := sb_ofB _ (by intro y hy; rw [List.mem_replicate] at hy; omega)
def aw1 : FS := (newS 2).prog 2 16 (List.replicate 16 15)
def aw2 : FS := aw1.prog 2 16 (List.replicate 16 60)
set_option maxRecDepth 100000 in
theorem aw_e1 : (newS 2).progE 2 16 (List.replicate 16 15) = 0 := by decide
set_option maxRecDepth 100000 in
theorem aw_e2 : aw1.progE 2 16 (List.replicate 16 60) = 0 := by decide
set_option maxRecDepth 100000 in
theorem aw_e3 : wrongE 2 aw2.dn 16 16 = 0 := by decide
set_option maxRecDepth 100000 in
theorem aw_b : aw2.readB 2 16 16 = List.replicate 16 12 := by decide
def greatB (l : List OpR) : Bool := decide (150 < l.length) || l.any fun o => decide (1000 < o.s.size)
theorem opC_at (o : OpR) : (opC o)[0]? = some (.int .i64 o.k) ∧ (opC o)[1]? = some (.int .i64 o.a) ∧ (opC o)[2]? = some (.int .i64 o.n) ∧ (opC o)[3]? = some (.string o.s) ∧ (opC o)[4]? = some (.int .i64 o.tb) ∧ (opC o)[5]? = some (.int .u8 (o.tm : Nat)) := ⟨rfl, rfl, rfl, rfl, rfl, rfl⟩
theorem ops_at {w : World} {a : Option Addr} {l : List OpR} (h : cellsG w a 6 (l.map opC)) (k : Nat) (o : OpR) (hk : l[k]? = some o) : ∃ b f, a = some ⟨b, f, none⟩ ∧ w.cell? ⟨b, f + k * 6, none⟩ = some (.int .i64 o.k) ∧ w.cell? ⟨b, f + k * 6 + 1, none⟩ = some (.int .i64 o.a) ∧
    w.cell? ⟨b, f + k * 6 + 2, none⟩ = some (.int .i64 o.n) ∧ w.cell? ⟨b, f + k * 6 + 3, none⟩ = some (.string o.s) ∧ w.cell? ⟨b, f + k * 6 + 4, none⟩ = some (.int .i64 o.tb) ∧ w.cell? ⟨b, f + k * 6 + 5, none⟩ = some (.int .u8 (o.tm : Nat)) := by
  have hkl := (List.getElem?_eq_some_iff.1 hk).1
  obtain ⟨b, f, e, hc⟩ := h k (by rw [List.length_map]; exact hkl)
  have hg : (l.map opC).getD k [] = opC o := by rw [List.getD_eq_getElem?_getD, List.getElem?_map, hk]; rfl
  rw [hg] at hc
  obtain ⟨h0, h1, h2, h3, h4, h5⟩ := opC_at o
  exact ⟨b, f, e, hc 0 _ h0, hc 1 _ h1, hc 2 _ h2, hc 3 _ h3, hc 4 _ h4, hc 5 _ h5⟩
end Go.Proofs.Ytngkmlchblgmeaa

namespace Tri
open Go Go.RowKit
theorem great_all {P : Prop} {l : List OpR} {f : OpR → Bool} (h : l.any f = false) : ∀ o ∈ l, f o = false := by
  intro o ho
  cases hf : f o with
  | false => rfl
  | true => rw [List.any_eq_true.2 ⟨o, ho, hf⟩] at h; cases h
end Tri
namespace Go.Proofs.Ytngkmlchblgmeaa
open Go.RowKit Tri

theorem great_len {l : List OpR} (h : greatB l = false) : l.length ≤ 150 ∧ ∀ o ∈ l, o.s.size ≤ 1000 := by
  unfold greatB at h
  rw [Bool.or_eq_false_iff] at h
  refine ⟨by have := of_decide_eq_false h.1; omega, fun o ho => ?_⟩
  have := great_all (P := True) h.2 o ho
  have := of_decide_eq_false this
  omega
theorem Out.belowB {lo hi : Nat} {w0 a w : World} (h : Out lo hi a w) (hb : Below w0.heap.size w0 a) (hlo : w0.heap.size ≤ lo) : Below w0.heap.size w0 w := Out.below h hb hlo
end Go.Proofs.Ytngkmlchblgmeaa

namespace Go.Proofs.Ytngkmlchblgmeaa
open Go.RowKit Tri

theorem isC.out {lo hi : Nat} {w w' : World} {b : Nat} (h : isC w b) (ho : Out lo hi w w') (hb : b < lo ∨ hi ≤ b) : isC w' b := by
  unfold isC
  rw [ho.block b h.lt hb]
  exact h
end Go.Proofs.Ytngkmlchblgmeaa

namespace Tri
open Go Go.RowKit Go.Proofs.Ytngkmlchblgmeaa
/-- What reading may change: the count of operations alone. -/
structure RdC (i : DI) (s : FS) (W w' : World) : Prop where
  out : Out i.lo i.hi W w'
  dev : ∃ x, DevP w' i 27 { s with ops := x }
theorem RdC.refl {i : DI} {s : FS} {w : World} (h : DevP w i 27 s) : RdC i s w w := ⟨Out.refl _ _ _, s.ops, h⟩
theorem RdC.trans {i : DI} {s : FS} {a b c : World} (h : RdC i s a b) (k : RdC i s b c) : RdC i s a c := ⟨h.out.trans k.out, k.dev⟩
theorem RdC.below {i : DI} {s : FS} {W a b : World} (h : RdC i s W a) (hb : Below a.heap.size a b) : RdC i s W b := by
  obtain ⟨h1, x, h2⟩ := h
  exact ⟨h1.trans (Out.of hb), x, h2.below hb⟩
/-- The page that lies there. -/
def pgB (s : FS) (h c p : Nat) : List Nat := (s.b.drop (placeAt h c p)).take 16
theorem place_lt {h c p : Nat} (hh : h < 2) (hc : c < 2) (hp : p < 16) : placeAt h c p + 16 ≤ 64 * 27 := by unfold placeAt halfAt; omega
theorem pgB_len {s : FS} {h c p : Nat} (hl : s.b.length = 64 * 27) (hh : h < 2) (hc : c < 2) (hp : p < 16) : (pgB s h c p).length = 16 := by
  have := place_lt hh hc hp
  unfold pgB
  rw [List.length_take, List.length_drop]; omega
theorem pgB_lt {s : FS} {h c p : Nat} (hb : ∀ x ∈ s.b, x < 256) : ∀ x ∈ pgB s h c p, x < 256 := fun x hx => hb x (List.mem_of_mem_drop (List.mem_of_mem_take hx))
theorem read_page (s : FS) (x : Int) (h c p : Nat) (hd : s.dn = false) (hh : h < 2) (hc : c < 2) (hp : p < 16) :
    FS.readB { s with ops := x } 27 (placeAt h c p : Nat) 16 = pgB s h c p ∧ Go.Proofs.Ytngkmlchblgmeaa.wrongE 27 s.dn (placeAt h c p : Nat) 16 = 0 ∧ ∃ y, FS.read { s with ops := x } 27 (placeAt h c p : Nat) 16 = { s with ops := y } := by
  have := place_lt hh hc hp
  refine ⟨?_, wrongE_of ⟨hd, by omega, by omega, by omega⟩, ?_⟩
  · unfold FS.readB
    rw [if_pos ⟨hd, by omega, by omega, by omega⟩]
    rfl
  · unfold FS.read
    rw [if_pos ⟨hd, by omega, by omega, by omega⟩]
    exact ⟨_, rfl⟩
/-- A record. -/
structure R4n where
  k : Nat
  s : Nat
  n : Nat
  v : Nat
def R4n.val (r : R4n) : Value := .agg #[.int .i64 (r.k : Nat), .int .i64 (r.s : Nat), .int .i64 (r.n : Nat), .int .i64 (r.v : Nat)]
def rOf (x : List Nat) : R4n := ⟨pgK x, pgS x, pgN x, pgV x⟩
/-- Is that a page of that number? -/
def oneB (p : Nat) (x : List Nat) : Bool := getOk x && decide (pgN x = p)
def stpR (p : Nat) (x : List Nat) (r : R4n) : R4n := if oneB p x then rOf x else r
theorem stpR_t {p : Nat} {x : List Nat} {r : R4n} (h : oneB p x = true) : stpR p x r = rOf x := if_pos h
theorem stpR_f {p : Nat} {x : List Nat} {r : R4n} (h : oneB p x = false) : stpR p x r = r := if_neg (by rw [h]; decide)
def blankB (x : List Nat) : Bool := decide (x = List.replicate 16 255)
end Tri
namespace Go.Proofs.Ytngkmlchblgmeaa
open Go.RowKit Tri

def isBlank16 (s : ByteArray) : Bool := decide (sb s = List.replicate 16 255)
set_option maxHeartbeats 400000 in
theorem rec_Blank (s : ByteArray) (w : World) :
    Calls Try.prog 99 #[.string s] w fun e w' => e = .returned (.bool (isBlank16 s)) ∧ Below w.heap.size w w' := by
  have hq := str_beq s (repS 16 255)
  rw [show sb (repS 16 255) = List.replicate 16 255 from sb_ofB _ (by decide)] at hq
  have HQ : Hid ((s.toList == (repS 16 255).toList) = isBlank16 s) := hq
  clear hq
  have HR := hid (strRep 255 16 w (by omega))
  generalize isBlank16 s = B at *
  generalize repS 16 255 = R at *
  (go_enter Try.func99, Try.ntmps99; try simp only [List.append])
  go_wp2_with fail
  refine Calls.mono HR.out ?_; rintro e w1 ⟨rfl, hb⟩
  have HB := hid hb
  have hq := HQ.out
  clear hb HR
  go_wp2
  go_ret
  exact ⟨rfl, HB.out⟩

/-- A page, read. -/
theorem dev_page (i : DI) (s : FS) (W w : World) (h : RdC i s W w) (hd : s.dn = false) (hf c p : Nat) (hh : hf < 2) (hc : c < 2) (hp : p < 16) :
    Calls Try.prog 97 #[.pointer (some ⟨i.D, 0, none⟩), .int .i64 (placeAt hf c p : Nat), .int .i64 16] w fun e w' => e = .returned (.tuple #[.string (ofB (pgB s hf c p)), .int .i64 0]) ∧ RdC i s W w' := by
  obtain ⟨h1, x, h2⟩ := h
  have hr := read_page s x hf c p hd hh hc hp
  have hlt := place_lt hh hc hp
  refine (dev_Read i 27 _ w (placeAt hf c p : Nat) 16 h2 (by omega) (by omega)).mono ?_
  rintro e w' ⟨rfl, h3, h4⟩
  obtain ⟨y, hy⟩ := hr.2.2
  rw [hy] at h3
  rw [hr.1, show wrongE 27 ({ s with ops := x } : FS).dn (placeAt hf c p : Nat) 16 = 0 from hr.2.1]
  exact ⟨rfl, h1.trans h4, y, h3⟩
theorem Blk.outS {w w' : World} {B lo hi : Nat} {t : TypeId} {vs : Array Value} (h : Blk w B t vs) (ho : Out lo hi w w') (hb : B < lo ∨ hi ≤ B) : Blk w' B t vs := by
  unfold Blk; rw [ho.block B h.lt hb]; exact h
theorem _root_.Tri.RdC.cover {i : DI} {s : FS} {w a b : World} (h : RdC i s w a) (ho : Out w.heap.size (w.heap.size + 1) a b) (hi : i.hi ≤ w.heap.size) : RdC i s w b := by
  obtain ⟨h1, x, h2⟩ := h
  exact ⟨⟨ho.os.trans h1.os, ho.tape.trans h1.tape, ho.output.trans h1.output, Nat.le_trans h1.size ho.size, fun k hk hh => (ho.block k (Nat.lt_of_lt_of_le hk h1.size) (.inl hk)).trans (h1.block k hk hh)⟩, x, h2.out ho (.inr hi)⟩
theorem R4.outS {w w' : World} {B lo hi : Nat} {a b c d : Int} (h : R4 w B a b c d) (ho : Out lo hi w w') (hb : B < lo ∨ hi ≤ B) : R4 w' B a b c d := by
  unfold R4; rw [ho.block B h.lt hb]; exact h
theorem setCell_id {w : World} {B i : Nat} {t : TypeId} {vs : Array Value} {v : Value} (h : w.heap[B]? = some (.cells vs t)) (hv : vs[i]? = some v) : w.setCell ⟨B, i, none⟩ v = w := by
  have hx : vs.setIfInBounds i v = vs := by
    apply Array.ext_getElem?
    intro j
    rw [Array.getElem?_setIfInBounds]
    split
    · next e => subst e; split
                · exact hv.symm
                · next e => rw [Array.getElem?_eq_none (by omega)] at hv; cases hv
    · rfl
  have hm : (w.setCell ⟨B, i, none⟩ v).heap = w.heap := by
    unfold World.setCell
    apply Array.ext_getElem?
    intro j
    simp only [Array.getElem?_modify]
    split
    · next e => subst e; rw [h]; simp [hx]
    · rfl
  show { w with heap := (w.setCell ⟨B, i, none⟩ v).heap } = w
  rw [hm]
theorem R4.sets_id {w : World} {B : Nat} {a b c d : Int} (h : R4 w B a b c d) :
    (((w.setCell ⟨B, 0, none⟩ (.int .i64 a)).setCell ⟨B, 1, none⟩ (.int .i64 b)).setCell ⟨B, 2, none⟩ (.int .i64 c)).setCell ⟨B, 3, none⟩ (.int .i64 d) = w := by
  have e0 : w.setCell ⟨B, 0, none⟩ (.int .i64 a) = w := setCell_id h rfl
  have e1 : w.setCell ⟨B, 1, none⟩ (.int .i64 b) = w := setCell_id h rfl
  have e2 : w.setCell ⟨B, 2, none⟩ (.int .i64 c) = w := setCell_id h rfl
  have e3 : w.setCell ⟨B, 3, none⟩ (.int .i64 d) = w := setCell_id h rfl
  rw [e0, e1, e2, e3]
theorem R4.setsOut {w0 w : World} {B : Nat} (h : Out B (B + 1) w0 w) (k s n v : Int) :
    Out B (B + 1) w0 ((((w.setCell ⟨B, 0, none⟩ (.int .i64 k)).setCell ⟨B, 1, none⟩ (.int .i64 s)).setCell ⟨B, 2, none⟩ (.int .i64 n)).setCell ⟨B, 3, none⟩ (.int .i64 v)) :=
  (((h.set ⟨B, 0, none⟩ _ (Nat.le_refl _) (Nat.lt_succ_self _)).set ⟨B, 1, none⟩ _ (Nat.le_refl _) (Nat.lt_succ_self _)).set ⟨B, 2, none⟩ _ (Nat.le_refl _) (Nat.lt_succ_self _)).set ⟨B, 3, none⟩ _ (Nat.le_refl _) (Nat.lt_succ_self _)
set_option maxHeartbeats 4000000 in
set_option maxRecDepth 100000 in
theorem log_page (i : DI) (s : FS) (L S at_ hf p : Nat) (rs : Value) (gen used : Int) (holds clean : Bool) (w : World) (h : DevP w i 27 s) (hd : s.dn = false) (hL : Blk w L 102 (logC i.D S at_ rs gen used holds clean)) (hS : isC w S)
    (hLo : L < i.lo ∨ i.hi ≤ L) (hSo : S < i.lo ∨ i.hi ≤ S) (hh : hf < 2) (hp : p < 16) :
    Calls Try.prog 73 #[.pointer (some ⟨L, 0, none⟩), .int .i64 hf, .int .i64 p] w fun e w' =>
      e = .returned (.tuple #[(stpR p (pgB s hf 0 p) (stpR p (pgB s hf 1 p) ⟨0, 0, 0, 0⟩)).val, .bool (oneB p (pgB s hf 0 p) || oneB p (pgB s hf 1 p)), .bool (decide (pgB s hf 0 p = pgB s hf 1 p)), .bool (blankB (pgB s hf 0 p) && blankB (pgB s hf 1 p)), .int .i64 0]) ∧ RdC i s w w' := by
  have hR0 : R4 (w.alloc (.cells #[.int .i64 0, .int .i64 0, .int .i64 0, .int .i64 0] 37)) w.heap.size 0 0 0 0 := heap_alloc_new w _
  have hb0 := (Below.refl w.heap.size w).alloc (Nat.le_refl _) (.cells #[.int .i64 0, .int .i64 0, .int .i64 0, .int .i64 0] 37)
  have HC1 := hid ((RdC.refl h).below hb0)
  have HL1 := hid (hL.below hb0)
  have HS1 := hid (hS.below hb0 hS.lt)
  have HR1 := hid hR0
  have hih : i.hi ≤ w.heap.size := h.hi
  have HBL : Hid (s.b.length = 64 * 27 ∧ ∀ x ∈ s.b, x < 256) := ⟨h.fs.1, h.fs.2.2.2.2.2.1⟩
  have hLs := hL.lt
  have hSs := hS.lt
  clear h hL hS hR0 hb0
  (go_enter Try.func73, Try.ntmps73; try simp only [List.append])
  go_wp2_with ((with_reducible refine wpList_unguard ?_ ?_); (focus rfl))
  generalize w.alloc (.cells #[.int .i64 0, .int .i64 0, .int .i64 0, .int .i64 0] 37) = w1 at *
  (refine wp_region_quietC (fun w' => RdC i s w1 w') (by kernel_rfl) (by kernel_rfl) ((by obtain ⟨h1, x, h2⟩ := HC1.out; exact ⟨(Out.refl _ _ w1).drew, x, h2.drew⟩)) ?_; (repeat (first | go_big_quiet_skip | (go_big_quiet_want; first | (go_big_quiet_op; go_big_quiet_on) | (apply Exists.intro; refine And.intro (fun wq hq => ?_) ?_; (focus ((have a0 : wq.cell? ⟨L, 0, none⟩ = some (.pointer (some ⟨i.D, 0, none⟩)) := (HL1.out.outS hq.out hLo).cell 0 _ rfl); (try go_simp); first | done | rfl | ((first | (go_at_call 80; refine Calls.mono (log_place L i.D S at_ rs gen used holds clean hf 0 p _ (HL1.out.outS hq.out hLo) hh (by omega) hp) ?_; rintro e w6 ⟨rfl, hb5⟩; exact ⟨rfl, hq.below hb5⟩) | (go_at_call 97; refine Calls.mono (dev_page i s w1 _ hq hd hf 0 p hh (by omega) hp) ?_; rintro e w6 ⟨rfl, hb5⟩; exact ⟨rfl, hb5⟩))))); go_simp; go_big_quiet_on)))); refine quietC_nil _ rfl ?_; intro wE hE)
  have HE := hid hE
  clear hE
  go_wp2_with ((with_reducible refine wpList_unguard ?_ ?_); (focus rfl))
  (refine wp_region_quietC (fun w' => RdC i s w1 w') (by kernel_rfl) (by kernel_rfl) ((by obtain ⟨h1, x, h2⟩ := HE.out; exact ⟨h1.drew, x, h2.drew⟩)) ?_; (repeat (first | go_big_quiet_skip | (go_big_quiet_want; first | (go_big_quiet_op; go_big_quiet_on) | (apply Exists.intro; refine And.intro (fun wq hq => ?_) ?_; (focus ((have a0 : wq.cell? ⟨L, 0, none⟩ = some (.pointer (some ⟨i.D, 0, none⟩)) := (HL1.out.outS hq.out hLo).cell 0 _ rfl); (try go_simp); first | done | rfl | ((first | (go_at_call 80; refine Calls.mono (log_place L i.D S at_ rs gen used holds clean hf 1 p _ (HL1.out.outS hq.out hLo) hh (by omega) hp) ?_; rintro e w6 ⟨rfl, hb5⟩; exact ⟨rfl, hq.below hb5⟩) | (go_at_call 97; refine Calls.mono (dev_page i s w1 _ hq hd hf 1 p hh (by omega) hp) ?_; rintro e w6 ⟨rfl, hb5⟩; exact ⟨rfl, hb5⟩))))); go_simp; go_big_quiet_on)))); refine quietC_nil _ rfl ?_; intro wE hE)
  have HF := hid hE
  clear hE HE
  have hl0 := pgB_len (s := s) (c := 0) HBL.out.1 hh (by omega) hp
  have hl1 := pgB_len (s := s) (c := 1) HBL.out.1 hh (by omega) hp
  have HA0 := hid (pgB_lt (s := s) (h := hf) (c := 0) (p := p) HBL.out.2)
  have HA1 := hid (pgB_lt (s := s) (h := hf) (c := 1) (p := p) HBL.out.2)
  generalize hga : pgB s hf 0 p = a at *
  generalize hgb : pgB s hf 1 p = b at *
  have HGA := hid hga
  have HGB := hid hgb
  clear hga hgb
  have hw1 : w.heap.size < w1.heap.size := HR1.out.lt
  have hLE := HL1.out.outS HF.out.out hLo
  have hSE := HS1.out.out HF.out.out hSo
  have hRE : R4 wE w.heap.size 0 0 0 0 := by unfold R4; rw [HF.out.out.block _ hw1 (.inr hih)]; exact HR1.out
  have hwE : w1.heap.size ≤ wE.heap.size := HF.out.out.size
  have hbX := (Below.refl wE.heap.size wE).alloc (Nat.le_refl _) (.cells #[.string (ofB b), .string (ofB a)] 9)
  have HX := hid (Blk.new wE 9 #[.string (ofB b), .string (ofB a)])
  have HL := hid (hLE.below hbX)
  have HS := hid (hSE.below hbX hSE.lt)
  have HR := hid (hRE.below hbX)
  have HRC := hid ((HC1.out.trans HF.out).below hbX)
  have hsX : (wE.alloc (.cells #[.string (ofB b), .string (ofB a)] 9)).heap.size = wE.heap.size + 1 := by simp
  clear hLE hSE hRE hbX HL1 HS1 HR1 HC1 HF
  go_wp2_with ((with_reducible refine wpList_unguard ?_ ?_); (focus rfl))
  generalize wE.alloc (.cells #[.string (ofB b), .string (ofB a)] 9) = wX at *
  go_loopw [49, 7] (fun v q wr => ∃ (k : Nat) (h : Bool) (r : R4n), k ≤ 2 ∧ v = .int .i64 k ∧ q = .bool h ∧
      ((k = 0 ∧ h = false ∧ r = ⟨0, 0, 0, 0⟩) ∨ (k = 1 ∧ h = oneB p b ∧ r = stpR p b ⟨0, 0, 0, 0⟩) ∨ (k = 2 ∧ h = (oneB p a || oneB p b) ∧ r = stpR p a (stpR p b ⟨0, 0, 0, 0⟩))) ∧
      R4 wr w.heap.size (r.k : Nat) (r.s : Nat) (r.n : Nat) (r.v : Nat) ∧ Out w.heap.size (w.heap.size + 1) wX wr) (fun v _ _ => 2 - (intOf v).toNat)
  case atStart => exact ⟨0, false, ⟨0, 0, 0, 0⟩, by omega, rfl, rfl, .inl ⟨rfl, rfl, rfl⟩, HR.out, Out.refl _ _ _⟩
  case round =>
    obtain ⟨k, h, r, hk, rfl, rfl, hst, hR, hO⟩ := hrel
    rcases hst with ⟨HKEQ, HST⟩ | ⟨HKEQ, HST⟩ | ⟨HKEQ, HST⟩
    · subst HKEQ
      obtain ⟨rfl, rfl⟩ := HST
      have x0 := (Blk.outS HX.out hO (.inr (by omega))).cell 0 _ rfl
      have l9 : wr.cell? ⟨L, 9, none⟩ = some (.pointer (some ⟨S, 0, none⟩)) := (Blk.outS HL.out hO (.inl hLs)).cell 9 _ rfl
      have hSr := isC.out HS.out hO (.inl hSs)
      have HOr := hid hO
      have HRr := hid hR
      clear hO hR
      have hG := rec_Get wr S (ofB b) wr ⟨Below.refl _ _, hSr⟩ (by rw [ofB_size]; omega) (by rw [ofB_size]; omega)
      rw [sb_ofB _ HA1.out] at hG
      have HG := hid hG
      clear hG hSr
      go_wp2_with ((with_reducible refine wpList_unguard ?_ ?_); (focus rfl))
      refine Calls.mono HG.out ?_; rintro e w2 ⟨hg, hK⟩
      have HO2 := hid (HOr.out.trans (Out.of hK.1))
      have HR2 := hid (HRr.out.below hK.1)
      have hs2 : w.heap.size < w2.heap.size := HR2.out.lt
      unfold getRet at hg
      cases hok : getOk b with
      | false =>
        rw [hok] at hg
        obtain rfl := hg
        have hone : oneB p b = false := by unfold oneB; rw [hok]; rfl
        have HONE := hid hone
        have HN := hid (HO2.out.trans (Out.of ((Below.refl w2.heap.size w2).alloc (Nat.le_refl _) (.cells #[.int .i64 0, .int .i64 0, .int .i64 0, .int .i64 0] 37))))
        have HM := hid (HR2.out.below ((Below.refl w2.heap.size w2).alloc (Nat.le_refl _) (.cells #[.int .i64 0, .int .i64 0, .int .i64 0, .int .i64 0] 37)))
        clear HG hK HOr HRr HO2 HR2 hok hone x0 l9
        go_wp2_with ((with_reducible refine wpList_unguard ?_ ?_); (focus rfl))
        go_roundw
        case rel =>
          refine ⟨0 + 1, _, _, by omega, by go_num, rfl, .inr (.inl ⟨rfl, HONE.out.symm, (stpR_f HONE.out).symm⟩), HM.out, HN.out⟩
        case measure => simp [intOf]
      | true =>
        rw [hok] at hg
        obtain rfl := hg
        have hM0 : R4 (w2.alloc (.cells #[.int .i64 (pgK b : Nat), .int .i64 (pgS b : Nat), .int .i64 (pgN b : Nat), .int .i64 (pgV b : Nat)] 37)) w2.heap.size (pgK b : Nat) (pgS b : Nat) (pgN b : Nat) (pgV b : Nat) := heap_alloc_new w2 _
        have HN := hid (HO2.out.trans (Out.of ((Below.refl w2.heap.size w2).alloc (Nat.le_refl _) (.cells #[.int .i64 (pgK b : Nat), .int .i64 (pgS b : Nat), .int .i64 (pgN b : Nat), .int .i64 (pgV b : Nat)] 37))))
        have HM := hid (HR2.out.below ((Below.refl w2.heap.size w2).alloc (Nat.le_refl _) (.cells #[.int .i64 (pgK b : Nat), .int .i64 (pgS b : Nat), .int .i64 (pgN b : Nat), .int .i64 (pgV b : Nat)] 37)))
        have b0 := HR2.out.c0; have z0 := HR2.out.free 0
        have b1 := HR2.out.c1; have z1 := HR2.out.free 1
        have b2 := HR2.out.c2; have z2 := HR2.out.free 2
        have b3 := HR2.out.c3; have z3 := HR2.out.free 3
        have HOK := hid hok
        have hne : w.heap.size ≠ w2.heap.size := by omega
        clear HG hK HOr HRr hok hM0 x0 l9
        by_cases hpn : pgN b = p
        · have q1 : ((pgN b : Int) == p) = true := by rw [hpn]; exact beq_self_eq_true _
          have q2 : (pgN b == p) = true := by rw [hpn]; exact beq_self_eq_true _
          have hone : oneB p b = true := by unfold oneB; rw [HOK.out, decide_eq_true hpn]; rfl
          have HONE := hid hone
          clear hone hpn
          go_wp2_with ((with_reducible refine wpList_unguard ?_ ?_); (focus rfl))
          go_roundw
          case rel =>
            have hRs := HR2.out.sets (pgK b : Nat) (pgS b : Nat) (pgN b : Nat) (pgV b : Nat)
            have hOs := R4.setsOut HO2.out (pgK b : Nat) (pgS b : Nat) (pgN b : Nat) (pgV b : Nat)
            generalize (((w2.setCell ⟨w.heap.size, 0, none⟩ (.int .i64 (pgK b : Nat))).setCell ⟨w.heap.size, 1, none⟩ (.int .i64 (pgS b : Nat))).setCell ⟨w.heap.size, 2, none⟩ (.int .i64 (pgN b : Nat))).setCell ⟨w.heap.size, 3, none⟩ (.int .i64 (pgV b : Nat)) = w3 at *
            have hba := (Below.refl w3.heap.size w3).alloc (Nat.le_refl _) (.cells #[.int .i64 (pgK b : Nat), .int .i64 (pgS b : Nat), .int .i64 (pgN b : Nat), .int .i64 (pgV b : Nat)] 37)
            exact ⟨0 + 1, _, rOf b, by omega, by go_num, rfl, .inr (.inl ⟨rfl, HONE.out.symm, (stpR_t HONE.out).symm⟩), hRs.below hba, hOs.trans (Out.of hba)⟩
          case measure => simp [intOf]
        · have q1 : ((pgN b : Int) == p) = false := beq_eq_false_iff_ne.2 (by omega)
          have q2 : (pgN b == p) = false := beq_eq_false_iff_ne.2 hpn
          have hone : oneB p b = false := by unfold oneB; rw [HOK.out, decide_eq_false hpn]; rfl
          have HONE := hid hone
          clear hone hpn
          go_wp2_with ((with_reducible refine wpList_unguard ?_ ?_); (focus rfl))
          go_roundw
          case rel =>
            refine ⟨0 + 1, _, _, by omega, by go_num, rfl, .inr (.inl ⟨rfl, HONE.out.symm, (stpR_f HONE.out).symm⟩), HM.out, HN.out⟩
          case measure => simp [intOf]
    · subst HKEQ
      obtain ⟨rfl, rfl⟩ := HST
      have x0 := (Blk.outS HX.out hO (.inr (by omega))).cell 1 _ rfl
      have l9 : wr.cell? ⟨L, 9, none⟩ = some (.pointer (some ⟨S, 0, none⟩)) := (Blk.outS HL.out hO (.inl hLs)).cell 9 _ rfl
      have hSr := isC.out HS.out hO (.inl hSs)
      have HOr := hid hO
      have HRr := hid hR
      clear hO hR
      have hG := rec_Get wr S (ofB a) wr ⟨Below.refl _ _, hSr⟩ (by rw [ofB_size]; omega) (by rw [ofB_size]; omega)
      rw [sb_ofB _ HA0.out] at hG
      have HG := hid hG
      clear hG hSr
      go_wp2_with ((with_reducible refine wpList_unguard ?_ ?_); (focus rfl))
      refine Calls.mono HG.out ?_; rintro e w2 ⟨hg, hK⟩
      have HO2 := hid (HOr.out.trans (Out.of hK.1))
      have HR2 := hid (HRr.out.below hK.1)
      have hs2 : w.heap.size < w2.heap.size := HR2.out.lt
      unfold getRet at hg
      cases hok : getOk a with
      | false =>
        rw [hok] at hg
        obtain rfl := hg
        have hone : oneB p a = false := by unfold oneB; rw [hok]; rfl
        have HONE := hid hone
        have HN := hid (HO2.out.trans (Out.of ((Below.refl w2.heap.size w2).alloc (Nat.le_refl _) (.cells #[.int .i64 0, .int .i64 0, .int .i64 0, .int .i64 0] 37))))
        have HM := hid (HR2.out.below ((Below.refl w2.heap.size w2).alloc (Nat.le_refl _) (.cells #[.int .i64 0, .int .i64 0, .int .i64 0, .int .i64 0] 37)))
        clear HG hK HOr HRr HO2 HR2 hok hone x0 l9
        go_wp2_with ((with_reducible refine wpList_unguard ?_ ?_); (focus rfl))
        go_roundw
        case rel =>
          refine ⟨1 + 1, _, _, by omega, by go_num, rfl, .inr (.inr ⟨rfl, by rw [HONE.out]; rfl, (stpR_f HONE.out).symm⟩), HM.out, HN.out⟩
        case measure => simp [intOf]
      | true =>
        rw [hok] at hg
        obtain rfl := hg
        have hM0 : R4 (w2.alloc (.cells #[.int .i64 (pgK a : Nat), .int .i64 (pgS a : Nat), .int .i64 (pgN a : Nat), .int .i64 (pgV a : Nat)] 37)) w2.heap.size (pgK a : Nat) (pgS a : Nat) (pgN a : Nat) (pgV a : Nat) := heap_alloc_new w2 _
        have HN := hid (HO2.out.trans (Out.of ((Below.refl w2.heap.size w2).alloc (Nat.le_refl _) (.cells #[.int .i64 (pgK a : Nat), .int .i64 (pgS a : Nat), .int .i64 (pgN a : Nat), .int .i64 (pgV a : Nat)] 37))))
        have HM := hid (HR2.out.below ((Below.refl w2.heap.size w2).alloc (Nat.le_refl _) (.cells #[.int .i64 (pgK a : Nat), .int .i64 (pgS a : Nat), .int .i64 (pgN a : Nat), .int .i64 (pgV a : Nat)] 37)))
        have b0 := HR2.out.c0; have z0 := HR2.out.free 0
        have b1 := HR2.out.c1; have z1 := HR2.out.free 1
        have b2 := HR2.out.c2; have z2 := HR2.out.free 2
        have b3 := HR2.out.c3; have z3 := HR2.out.free 3
        have HOK := hid hok
        have hne : w.heap.size ≠ w2.heap.size := by omega
        clear HG hK HOr HRr hok hM0 x0 l9
        by_cases hpn : pgN a = p
        · have q1 : ((pgN a : Int) == p) = true := by rw [hpn]; exact beq_self_eq_true _
          have q2 : (pgN a == p) = true := by rw [hpn]; exact beq_self_eq_true _
          have hone : oneB p a = true := by unfold oneB; rw [HOK.out, decide_eq_true hpn]; rfl
          have HONE := hid hone
          clear hone hpn
          go_wp2_with ((with_reducible refine wpList_unguard ?_ ?_); (focus rfl))
          go_roundw
          case rel =>
            have hRs := HR2.out.sets (pgK a : Nat) (pgS a : Nat) (pgN a : Nat) (pgV a : Nat)
            have hOs := R4.setsOut HO2.out (pgK a : Nat) (pgS a : Nat) (pgN a : Nat) (pgV a : Nat)
            generalize (((w2.setCell ⟨w.heap.size, 0, none⟩ (.int .i64 (pgK a : Nat))).setCell ⟨w.heap.size, 1, none⟩ (.int .i64 (pgS a : Nat))).setCell ⟨w.heap.size, 2, none⟩ (.int .i64 (pgN a : Nat))).setCell ⟨w.heap.size, 3, none⟩ (.int .i64 (pgV a : Nat)) = w3 at *
            have hba := (Below.refl w3.heap.size w3).alloc (Nat.le_refl _) (.cells #[.int .i64 (pgK a : Nat), .int .i64 (pgS a : Nat), .int .i64 (pgN a : Nat), .int .i64 (pgV a : Nat)] 37)
            exact ⟨1 + 1, _, rOf a, by omega, by go_num, rfl, .inr (.inr ⟨rfl, by rw [HONE.out]; rfl, (stpR_t HONE.out).symm⟩), hRs.below hba, hOs.trans (Out.of hba)⟩
          case measure => simp [intOf]
        · have q1 : ((pgN a : Int) == p) = false := beq_eq_false_iff_ne.2 (by omega)
          have q2 : (pgN a == p) = false := beq_eq_false_iff_ne.2 hpn
          have hone : oneB p a = false := by unfold oneB; rw [HOK.out, decide_eq_false hpn]; rfl
          have HONE := hid hone
          clear hone hpn
          go_wp2_with ((with_reducible refine wpList_unguard ?_ ?_); (focus rfl))
          go_roundw
          case rel =>
            refine ⟨1 + 1, _, _, by omega, by go_num, rfl, .inr (.inr ⟨rfl, by rw [HONE.out]; rfl, (stpR_f HONE.out).symm⟩), HM.out, HN.out⟩
          case measure => simp [intOf]
    · subst HKEQ
      obtain ⟨rfl, rfl⟩ := HST
      have HRf := hid hR
      have HRC2 := hid (HRC.out.cover hO hih)
      clear hO hR
      clear HX HL HS HR HRC
      have hba : isBlank16 (ofB a) = blankB a := by unfold isBlank16 blankB; rw [sb_ofB _ HA0.out]
      have hbb : isBlank16 (ofB b) = blankB b := by unfold isBlank16 blankB; rw [sb_ofB _ HA1.out]
      have hab := str_beq (ofB a) (ofB b)
      rw [sb_ofB _ HA0.out, sb_ofB _ HA1.out] at hab
      have HBA := fun w => hid (rec_Blank (ofB a) w)
      have HBB := fun w => hid (rec_Blank (ofB b) w)
      rw [hba] at HBA
      rw [hbb] at HBB
      clear hba hbb
      generalize hgr : stpR p a (stpR p b ⟨0, 0, 0, 0⟩) = r at *
      generalize hgba : blankB a = ba at *
      generalize hgbb : blankB b = bb at *
      generalize hgoo : (oneB p a || oneB p b) = oo at *
      generalize hgee : decide (a = b) = eab at *
      have HG5 := hid (And.intro hgr (And.intro hgba (And.intro hgbb (And.intro hgoo hgee))))
      clear hgr hgba hgbb hgoo hgee
      go_wp2_with ((with_reducible refine wpList_unguard ?_ ?_); (focus rfl))
      cases ba
      · (refine wp_region_quietC (fun w' => RdC i s w w' ∧ R4 w' w.heap.size (r.k : Nat) (r.s : Nat) (r.n : Nat) (r.v : Nat)) (by kernel_rfl) (by kernel_rfl) ((⟨(by obtain ⟨h1, x, h2⟩ := HRC2.out; exact ⟨h1.drew, x, h2.drew⟩), HRf.out⟩)) ?_; (repeat (first | go_big_quiet_skip | (go_big_quiet_want; first | (go_big_quiet_op; go_big_quiet_on) | (apply Exists.intro; refine And.intro (fun wq hq => ?_) ?_; (focus ((have a0 := hq.2.c0; have a1 := hq.2.c1; have a2 := hq.2.c2; have a3 := hq.2.c3; have z0 := hq.2.free 0; have z1 := hq.2.free 1; have z2 := hq.2.free 2; have z3 := hq.2.free 3); (try go_simp); first | done | rfl | ((first | (go_at_call 99; refine Calls.mono (HBA _).out ?_; rintro e w6 ⟨rfl, hb5⟩; exact ⟨rfl, hq.1.below hb5, hq.2.below hb5⟩) | (go_at_call 99; refine Calls.mono (HBB _).out ?_; rintro e w6 ⟨rfl, hb5⟩; exact ⟨rfl, hq.1.below hb5, hq.2.below hb5⟩) | (exact ⟨hq.2.sets_id, rfl⟩))))); go_simp; go_big_quiet_on)))); refine quietC_nil _ rfl ?_; intro wE hE)
        have HE1 := hid hE.1
        have x0 := hE.2.c0; have x1 := hE.2.c1; have x2 := hE.2.c2; have x3 := hE.2.c3
        clear hE
        go_wp2_with ((with_reducible refine wpList_unguard ?_ ?_); (focus rfl))
        refine bodyPost_ret (v := .tuple #[r.val, .bool oo, .bool eab, .bool false, .int .i64 0]) (by simp [results, Try.results73, go_sem, x0, x1, x2, x3, R4n.val]) rfl ⟨?_, HE1.out⟩
        rw [HGA.out, HGB.out, HG5.out.1, HG5.out.2.1, HG5.out.2.2.1, HG5.out.2.2.2.1, HG5.out.2.2.2.2]
        rfl
      · (refine wp_region_quietC (fun w' => RdC i s w w' ∧ R4 w' w.heap.size (r.k : Nat) (r.s : Nat) (r.n : Nat) (r.v : Nat)) (by kernel_rfl) (by kernel_rfl) ((⟨(by obtain ⟨h1, x, h2⟩ := HRC2.out; exact ⟨h1.drew, x, h2.drew⟩), HRf.out⟩)) ?_; (repeat (first | go_big_quiet_skip | (go_big_quiet_want; first | (go_big_quiet_op; go_big_quiet_on) | (apply Exists.intro; refine And.intro (fun wq hq => ?_) ?_; (focus ((have a0 := hq.2.c0; have a1 := hq.2.c1; have a2 := hq.2.c2; have a3 := hq.2.c3; have z0 := hq.2.free 0; have z1 := hq.2.free 1; have z2 := hq.2.free 2; have z3 := hq.2.free 3); (try go_simp); first | done | rfl | ((first | (go_at_call 99; refine Calls.mono (HBA _).out ?_; rintro e w6 ⟨rfl, hb5⟩; exact ⟨rfl, hq.1.below hb5, hq.2.below hb5⟩) | (go_at_call 99; refine Calls.mono (HBB _).out ?_; rintro e w6 ⟨rfl, hb5⟩; exact ⟨rfl, hq.1.below hb5, hq.2.below hb5⟩) | (exact ⟨hq.2.sets_id, rfl⟩))))); go_simp; go_big_quiet_on)))); refine quietC_nil _ rfl ?_; intro wE hE)
        have HE1 := hid hE.1
        have x0 := hE.2.c0; have x1 := hE.2.c1; have x2 := hE.2.c2; have x3 := hE.2.c3
        clear hE
        go_wp2_with ((with_reducible refine wpList_unguard ?_ ?_); (focus rfl))
        refine bodyPost_ret (v := .tuple #[r.val, .bool oo, .bool eab, .bool bb, .int .i64 0]) (by simp [results, Try.results73, go_sem, x0, x1, x2, x3, R4n.val]) rfl ⟨?_, HE1.out⟩
        rw [HGA.out, HGB.out, HG5.out.1, HG5.out.2.1, HG5.out.2.2.1, HG5.out.2.2.2.1, HG5.out.2.2.2.2]
        rfl
end Go.Proofs.Ytngkmlchblgmeaa
