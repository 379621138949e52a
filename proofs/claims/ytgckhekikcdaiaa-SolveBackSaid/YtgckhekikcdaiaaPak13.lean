/-
  slices.Values, Sorted and Compact of whole numbers, one behind the other.
  by of the solve package: the mended word by a way to search for the places.
  RsNone, walked: a code that isn't there has no words.
  by where there is no answer; Mend.
  The document's Same: two lists of whole numbers are alike.
  The document's example (chapter 07); SolveNone, walked.
  What is told of an argument, opened: a slice of ints, with the bound that the form itself gives.
  What is told of an argument, opened: any struct or array by value, nested as it may be, cell by cell.
-/
import Derived.Test.YtgckhekikcdaiaaItr
import Derived.Test.YtgckhekikcdaiaaPak12
import Derived.Lib.SlKeysI
import Derived.Lib.RowBridge
import Derived.Test.YtgckhekikcdaiaaPak11
import Derived.Test.YtgckhekikcdaiaaPak4
import Derived.RegionTactic
import Derived.ChangeAlike
import Derived.Deep.QuietTactic
import Derived.BigQuiet
import Derived.Test.YtgckhekikcdaiaaPak1
import Derived.ProofKit
import Derived.OpenShut
import Derived.ChangeArms
namespace Go.Proofs.Ytgckhekikcdaiaa
open Go.RowKit Tri Go.Sort

theorem sl_Values (a : Option Addr) (len cap : Nat) (w : World) :
    Calls Try.prog 74 #[.slice a len cap] w fun e w' => e = .returned (.func (.func 98) #[] #[.pointer (some ⟨w.heap.size, 0, none⟩)]) ∧ w' = w.alloc (.cells #[.slice a len cap] 41) :=
  (callsIn_wide (n := 5)).1 (itr_Values Fence.wide 5 trivial rfl a len cap w)
theorem sl_AppendSeq (Bs : Nat) (p : Option Addr) (cap : Nat) (zs : List Int) (hl : zs.length ≤ 1000000) (w : World) (hBs : Bs < w.heap.size)
    (hc : w.cell? ⟨Bs, 0, none⟩ = some (.slice p zs.length cap)) (hz : cellsZ w p zs) :
    Calls Try.prog 114 #[.slice none 0 0, .func (.func 98) #[] #[.pointer (some ⟨Bs, 0, none⟩)]] w fun e W' => ∃ v, e = .returned v ∧ W'.ownsRow w.heap.size 3 1 v zs.length (zs.map (Value.int .i64)) ∧ (v = .slice none 0 0 ↔ zs = []) ∧ Below w.heap.size w W' := by
  refine (callsIn_wide (n := 5)).1 (itr_AppendSeq Fence.wide 5 trivial trivial rfl (by omega) Bs p cap zs hl w hBs hc hz ?_)
  intro a ha hne
  obtain ⟨b, o, e, hcl⟩ := hz 0 (List.length_pos_iff.2 hne)
  rw [ha] at e
  cases e
  exact block_lt_of_cell hcl
set_option maxHeartbeats 1000000 in
theorem sl_Collect (Bs : Nat) (p : Option Addr) (cap : Nat) (zs : List Int) (hl : zs.length ≤ 1000000) (w : World) (hBs : Bs < w.heap.size)
    (hc : w.cell? ⟨Bs, 0, none⟩ = some (.slice p zs.length cap)) (hz : cellsZ w p zs) :
    Calls Try.prog 96 #[.func (.func 98) #[] #[.pointer (some ⟨Bs, 0, none⟩)]] w fun e W' => ∃ v, e = .returned v ∧ W'.ownsRow w.heap.size 3 1 v zs.length (zs.map (Value.int .i64)) ∧ (v = .slice none 0 0 ↔ zs = []) ∧ Below w.heap.size w W' := by
  have HA := hid (sl_AppendSeq Bs p cap zs hl w hBs hc hz)
  clear hc hz hBs
  (go_enter Try.func96, Try.ntmps96; try simp only [List.append])
  go_wp2_with ((with_reducible refine wpList_unguard ?_ ?_); (focus rfl))
  refine Calls.mono HA.out ?_; rintro e w1 ⟨v, rfl, hr, hn, hb⟩
  have HR := hid hr
  have HN := hid hn
  have HB := hid hb
  clear hr hn hb HA
  go_wp2_with ((with_reducible refine wpList_unguard ?_ ?_); (focus rfl))
  go_ret
  exact ⟨v, rfl, HR.out, HN.out, HB.out⟩
set_option maxHeartbeats 1000000 in
theorem sl_Sorted (Bs : Nat) (p : Option Addr) (cap : Nat) (zs : List Int) (hl : zs.length ≤ 1000000) (w : World) (hBs : Bs < w.heap.size)
    (hc : w.cell? ⟨Bs, 0, none⟩ = some (.slice p zs.length cap)) (hz : cellsZ w p zs) :
    Calls Try.prog 73 #[.func (.func 98) #[] #[.pointer (some ⟨Bs, 0, none⟩)]] w fun e W' => ∃ v, e = .returned v ∧ W'.ownsRow w.heap.size 3 1 v (sortI zs).length ((sortI zs).map (Value.int .i64)) ∧ (v = .slice none 0 0 ↔ sortI zs = []) ∧ Below w.heap.size w W' := by
  have HA := hid (sl_Collect Bs p cap zs hl w hBs hc hz)
  have HSL := hid (sortI_length zs)
  have hlen : Hid (zs.length < 4611686018427387904) := (show zs.length < 4611686018427387904 by omega)
  clear hc hz hBs
  (go_enter Try.func73, Try.ntmps73; try simp only [List.append])
  go_wp2_with ((with_reducible refine wpList_unguard ?_ ?_); (focus rfl))
  refine Calls.mono HA.out ?_; rintro e w1 ⟨v, rfl, hr, hn, hb⟩
  have HB := hid hb
  clear HA hb
  by_cases h0 : zs = []
  · obtain rfl := hn.2 h0
    have HS := hid (Try.slices_Sort_int_none none 0 w1)
    subst h0
    clear hr hn
    go_wp2_with ((with_reducible refine wpList_unguard ?_ ?_); (focus rfl))
    refine Calls.mono HS.out ?_; rintro e w2 ⟨rfl, rfl⟩
    go_wp2_with ((with_reducible refine wpList_unguard ?_ ?_); (focus rfl))
    go_ret
    have hs0 : sortI [] = [] := by simp [sortI]
    rw [hs0]
    exact ⟨_, rfl, World.ownsRow_nil _ _ _ _, ⟨fun _ => rfl, fun _ => rfl⟩, HB.out⟩
  · obtain ⟨g, c, cur, rfl, hbase, hgb, r1, r2, r3, r4⟩ : ∃ g c cur, v = .slice (some ⟨g, 0, none⟩) zs.length c ∧ w.heap.size ≤ g ∧ w1.heap[g]? = some (.cells cur 3 (0, 0)) ∧ zs.length ≤ c ∧ c ≤ maxLen ∧ cur.size = c * 1 ∧ cur.toList.take (zs.length * 1) = zs.map (Value.int .i64) := by
      rcases hr.2 with ⟨_, hz⟩ | h
      · exact absurd (List.eq_nil_of_length_eq_zero hz) h0
      · exact h
    have hH : Holds encZ w1 g 0 zs.toArray := holds_of_block_i hgb (by simpa using r4)
    have hgl : g < w1.heap.size := (Array.getElem?_eq_some_iff.1 hgb).1
    have HS := hid (Try.slices_Sort_int g 0 c zs w1 hH hgl hlen.out)
    have HGB := hid hgb
    have R1 := hid r1
    have R3 := hid r3
    have H0 := hid h0
    have HBa := hid hbase
    clear hr hn hgb r1 r3 r4 h0 hH hbase
    go_wp2_with ((with_reducible refine wpList_unguard ?_ ?_); (focus rfl))
    refine Calls.mono HS.out ?_; rintro e w3 ⟨rfl, q, os, hw⟩
    clear HS
    have HO : Hid (w3.ownsRow w.heap.size 3 1 (.slice (some ⟨g, 0, none⟩) zs.length c) zs.length ((sortI zs).map (Value.int .i64))) := by
      rw [hw]
      exact ownsRow_sorted_i (w := w1) (base := w.heap.size) (n := q) (os := os) (ss := zs) (ts := sortI zs) HSL.out HBa.out HGB.out R1.out r2 R3.out
    have HG : Hid (Below w.heap.size w w3) := by
      rw [hw]
      exact HB.out.grown (grownBy_sorted_i (w := w1) (g := g) (n := q) (os := os) (sortI zs).toArray) HB.out.size (fun j hj => by cases hj; exact HBa.out)
    clear hw
    go_wp2_with ((with_reducible refine wpList_unguard ?_ ?_); (focus rfl))
    go_ret
    refine ⟨_, rfl, ?_, ⟨fun h => (by cases h), fun h => ?_⟩, HG.out⟩
    · rw [HSL.out]; exact HO.out
    · have := congrArg List.length h
      rw [HSL.out] at this
      exact absurd (List.eq_nil_of_length_eq_zero this) H0.out
theorem sl_Compact (v : Value) (ss : List Int) (base : Nat) (w : World) (hs : ss.length ≤ 1000000) (hr : w.ownsRow base 3 1 v ss.length (ss.map (Value.int .i64))) (hbw : base ≤ w.heap.size) :
    Calls Try.prog 72 #[v] w fun e w' => ∃ p c, e = .returned (.slice p (Lib.compact ss).length c) ∧ (Lib.compact ss).length ≤ c ∧ cellsZ w' p (Lib.compact ss) ∧ (∀ a, p = some a → a.block < w'.heap.size) ∧ Below base w w' := by
  rcases hr.2 with ⟨rfl, h0⟩ | ⟨g, c, cur, rfl, hbase, hgb, r1, r2, r3, r4⟩
  · have h0 := List.eq_nil_of_length_eq_zero h0
    subst h0
    exact (Try.slices_Compact_int_empty none 0 w).mono fun e w' ⟨he, hw⟩ => ⟨none, 0, he, Nat.le_refl _, cellsZ.nil _ _, fun a h => (by cases h), by rw [hw]; exact Below.refl _ _⟩
  · have hH : Holds encZ w g 0 ss.toArray := holds_of_block_i hgb (by simpa using r4)
    refine (Try.slices_Compact_int g 0 c ss w hH (by omega) r1).mono ?_
    rintro e w' ⟨rfl, q, rfl⟩
    have hle := Lib.compact_length_le ss
    refine ⟨_, c, rfl, by omega, ?_, fun a h => (by cases h; have hl := (Array.getElem?_eq_some_iff.1 hgb).1; simpa [putRow, mapBlock, Sort.ahead] using hl), ?_⟩
    · have hO := ownsRow_sorted_i (w := w) (base := base) (n := q) (os := #[]) (ss := ss) (ts := Lib.compact ss ++ List.replicate (ss.length - (Lib.compact ss).length) 0) (by simp; omega) hbase hgb r1 r2 r3
      rw [grow_empty] at hO
      intro i hi
      refine ⟨g, 0, rfl, ?_⟩
      have h5 := hO.cells (g := g) rfl i (.int .i64 ((Lib.compact ss).getD i 0)) (by
        rw [List.getElem?_map, List.getElem?_append_left hi, List.getElem?_eq_getElem hi, List.getD_eq_getElem?_getD, List.getElem?_eq_getElem hi]; rfl)
      rw [show (⟨g, 0, none⟩ : Addr).add i = ⟨g, 0 + i, none⟩ from by unfold Addr.add; split <;> simp_all] at h5
      exact h5
    · have := (Below.refl base w).grown (grownBy_sorted_i (w := w) (g := g) (n := q) (os := #[]) (Lib.compact ss ++ List.replicate (ss.length - (Lib.compact ss).length) 0).toArray) hbw (fun j hj => by cases hj; exact hbase)
      rw [grow_empty] at this
      exact this
end Go.Proofs.Ytgckhekikcdaiaa

namespace Go.Proofs.Ytgckhekikcdaiaa
open Go.RowKit Tri

theorem fixL_keeps (n : Nat) (om der : List Nat) : ∀ (L out o : List Nat), fixL n om der out L = some o → bytesL out → o.length = out.length ∧ bytesL o
  | [], out, o, h, hb => by
    have : out = o := by simpa [fixL] using h
    rw [← this]; exact ⟨rfl, hb⟩
  | i :: L, out, o, h, hb => by
    unfold fixL at h
    split at h
    · obtain ⟨h1, h2⟩ := fixL_keeps n om der L _ o h (by
        intro x hx
        rcases List.mem_or_eq_of_mem_set hx with h | h
        · exact hb x h
        · rw [h]; exact xor_lt (getD_lt hb i) (byV_lt n om der i))
      exact ⟨by rw [h1, List.length_set], h2⟩
    · cases h
theorem mendL_keeps {n p : Nat} {s era loc word o : List Nat} {many : Int} (h : mendL n p s era loc word many = some o) (hb : bytesL word) : o.length = word.length ∧ bytesL o := by
  unfold mendL at h
  split at h
  · cases h
  · exact fixL_keeps _ _ _ _ _ _ h hb
/-- What the search is handed and hands back. -/
def SrchP (fs f n p : Nat) (s E : List Nat) (mny : Int) (loc : List Nat) : Prop :=
  ∀ (V : Nat) (ps : Option Addr) (cs : Nat) (pe : Option Addr) (ce : Nat) (pl : Option Addr) (cl : Nat) (u : World), isS u V f n p (.slice ps s.length cs) (.slice pe E.length ce) (.slice pl (eraL n E).length cl) → isF u f → cellsB u ps s → s.length ≤ cs → offV ps V → cellsB u pl (eraL n E) → offV pl V →
    Calls Try.prog fs #[.pointer (some ⟨V, 0, none⟩)] u fun e u' => e = .returned (.int .i64 mny) ∧ OutV V u u' ∧ ∃ pl' cl', isS u' V f n p (.slice ps s.length cs) (.slice pe E.length ce) (.slice pl' loc.length cl') ∧ cellsB u' pl' loc ∧ offV pl' V
/-- The mended word, or none. -/
def byR (n p : Nat) (word E : List Nat) (mny : Int) (loc : List Nat) : Option (List Nat) :=
  if p < E.length then none else if rightB word p = true then some word else
    match mendL n p (synd word p) E loc word mny with
    | none => none
    | some o => if rightB o p = true then some o else none
theorem Below.outV {B V : Nat} {w u u' : World} (h : Below B w u) (ho : OutV V u u') (hV : B ≤ V) (hB : B ≤ w.heap.size) : Below B w u' :=
  ⟨ho.os.trans h.os, ho.tape.trans h.tape, ho.output.trans h.output, Nat.le_trans h.size ho.size, fun k hk => (ho.block k (Nat.lt_of_lt_of_le hk (Nat.le_trans hB h.size)) (by omega)).trans (h.block k hk)⟩
theorem unkL_self (a : List Nat) (k : Nat) : unkL a a k = [] := by
  unfold unkL
  rw [List.filter_eq_nil_iff]
  intro i _
  simp [unkB]
theorem sl_CompactE (v : Value) (er : List Int) (base : Nat) (w : World) (hs : er.length ≤ 1000000) (hr : w.ownsRow base 3 1 v (sortI er).length ((sortI er).map (Value.int .i64))) (hbw : base ≤ w.heap.size) (h0 : ∀ x ∈ er, 0 ≤ x) :
    Calls Try.prog 72 #[v] w fun e w' => ∃ p c, e = .returned (.slice p (eraZ er).length c) ∧ (eraZ er).length ≤ c ∧ cellsI w' p (eraZ er) ∧ (∀ a, p = some a → a.block < w'.heap.size) ∧ Below base w w' := by
  refine (sl_Compact v (sortI er) base w (by rw [sortI_length]; exact hs) hr hbw).mono ?_
  rintro e w' ⟨p, c, he, hc, hz, hp, hb⟩
  rw [← eraZ_cast h0, List.length_map] at he hc
  rw [← eraZ_cast h0] at hz
  refine ⟨p, c, he, hc, fun i hi => ?_, hp, hb⟩
  obtain ⟨a, o, e, hcl⟩ := hz i (by rw [List.length_map]; exact hi)
  refine ⟨a, o, e, ?_⟩
  rw [hcl]
  congr 2
  rw [List.getD_eq_getElem?_getD, List.getD_eq_getElem?_getD, List.getElem?_map, List.getElem?_eq_getElem hi]
  rfl
set_option maxHeartbeats 4000000 in
set_option maxRecDepth 100000 in
theorem sol_by_main (fs c f n k : Nat) (pw : Option Addr) (cw : Nat) (word : List Nat) (pe : Option Addr) (ce : Nat) (er : List Int) (mny : Int) (loc : List Nat) (w : World) (hR : isR w c f n k) (hk : k < n) (hn : n ≤ 255) (hp64 : n - k ≤ 64)
    (hw : cellsB w pw word) (hbw : bytesL word) (hl : word.length = n) (hE : cellsZ w pe er) (hel : er.length ≤ 1000) (hin : ∀ x ∈ er, 0 ≤ x ∧ x < n)
    (hS : (eraZ er).length ≤ n - k → SrchP fs f n (n - k) (synd word (n - k)) (eraZ er) mny loc) (hbl : bytesL loc) (hll : loc.length ≤ 1000) (hl0 : loc ≠ []) (hen : ∀ args w, (callFunc fs args).run Try.prog w = .ok (.enter fs args) w) :
    Calls Try.prog 55 #[.pointer (some ⟨c, 0, none⟩), .slice pw word.length cw, .slice pe er.length ce, .func (.func fs) #[] #[]] w fun e w' => Below w.heap.size w w' ∧
      (byR n (n - k) word (eraZ er) mny loc = none → e = .returned (.tuple #[.slice none 0 0, .slice none 0 0, .int .i64 8])) ∧
      (∀ o, byR n (n - k) word (eraZ er) mny loc = some o → ∃ p c p' c', e = .returned (.tuple #[.slice p o.length c, .slice p' (unkL word o n).length c', .int .i64 0]) ∧ o.length ≤ c ∧ (unkL word o n).length ≤ c' ∧ cellsB w' p o ∧ cellsI w' p' (unkL word o n)) := by
  have HR := hid hR
  have HW := hid hw
  have HBW := hid hbw
  have HL := hid hl
  have HE := hid hE
  have HS := hid hS
  have HIN := hid hin
  have HBL := hid hbl
  have HL0 := hid hl0
  have hSy := hid (rs_Syndromes c f n k pw word.length cw word w hR hk hn rfl hw hbw hl)
  have HSL := hid (synd_length word (n - k))
  have HSB := hid (synd_bytes hbw (n - k))
  have HANY : Hid (er.any (fun i => decide (i < 0 ∨ (n : Int) ≤ i)) = false) := by
    show _ = _
    rw [List.any_eq_false]
    intro x hx
    have := hin x hx
    rw [decide_eq_true_eq]
    omega
  have hwl : word.length ≤ 255 := by omega
  obtain ⟨R0, hR0⟩ : ∃ R, byR n (n - k) word (eraZ er) mny loc = R := ⟨_, rfl⟩
  rw [hR0]
  have HR0 : Hid (R0 = byR n (n - k) word (eraZ er) mny loc) := hR0.symm
  clear hR hw hbw hl hE hS hin hbl hl0 hR0
  (go_enter Try.func55, Try.ntmps55; try simp only [List.append])
  go_wp2_with ((with_reducible refine wpList_unguard ?_ ?_); (focus rfl))
  refine Calls.mono hSy.out ?_; rintro e w1 ⟨v, rfl, hv, hb⟩
  obtain ⟨ps, cs, rfl, hcs⟩ := hv.cells
  have hsl := hv.leq
  have HSC := hid hcs
  have HB1 := hid hb
  have HSI := hid (rs_Size c f n k w1 (HR.out.below hb))
  clear hSy hv hcs hb
  go_wp2_with ((with_reducible refine wpList_unguard ?_ ?_); (focus rfl))
  refine Calls.mono HSI.out ?_; rintro e w2 ⟨rfl, hb⟩
  have HB2 := hid (HB1.out.trans (hb.mono HB1.out.size))
  replace HSC := hid (HSC.out.below hb)
  clear HSI hb
  go_wp2_with ((with_reducible refine wpList_unguard ?_ ?_); (focus rfl))
  have cN : (w2.alloc (.cells #[.int .i64 n] 3)).cell? ⟨w2.heap.size, 0, none⟩ = some (.int .i64 n) := by rw [World.cell?_alloc_new]; rfl
  have HB3 := hid (HB2.out.alloc HB2.out.size (.cells #[.int .i64 n] 3))
  have HSC3 := hid (HSC.out.alloc (.cells #[.int .i64 n] 3))
  clear HSC HB2
  generalize w2.alloc (.cells #[.int .i64 n] 3) = w3 at *
  generalize w2.heap.size = N at *
  have hCF := hid (sl_ContainsFuncO N n pe er.length ce er w3 rfl (HE.out.below HB3.out) (by omega) cN)
  rw [HANY.out] at hCF
  refine Calls.mono hCF.out ?_; rintro e w4 ⟨rfl, rfl⟩
  clear hCF HANY
  have hVl := hid (sl_Values pe er.length ce w3)
  have HB4 := hid (HB3.out.alloc HB3.out.size (.cells #[.slice pe er.length ce] 41))
  have hSo := hid (sl_Sorted w3.heap.size pe ce er (by omega) (w3.alloc (.cells #[.slice pe er.length ce] 41)) (by simp) (by rw [World.cell?_alloc_new]; rfl) (HE.out.below HB4.out))
  have HSC4 := hid (HSC3.out.alloc (.cells #[.slice pe er.length ce] 41))
  have cN4 := (World.cell?_alloc_lt w3 (.cells #[.slice pe er.length ce] 41) ⟨N, 0, none⟩ (block_lt_of_cell cN)).trans cN
  clear HSC3 HB3 cN
  go_wp2_with ((with_reducible refine wpList_unguard ?_ ?_); (focus rfl))
  refine Calls.mono hVl.out ?_; rintro e w4 ⟨rfl, rfl⟩
  clear hVl
  generalize w3.alloc (.cells #[.slice pe er.length ce] 41) = w4 at *
  go_wp2_with ((with_reducible refine wpList_unguard ?_ ?_); (focus rfl))
  refine Calls.mono hSo.out ?_; rintro e w5 ⟨v, rfl, hv, hvn, hb⟩
  have hCo := hid (sl_CompactE v er w4.heap.size w5 (by omega) hv hb.size (fun x hx => (HIN.out x hx).1))
  have HD := hid hb
  clear hSo hv hvn hb
  go_wp2_with ((with_reducible refine wpList_unguard ?_ ?_); (focus rfl))
  refine Calls.mono hCo.out ?_; rintro e w6 ⟨pE, cE, rfl, hcE, hE6, hoff, hb⟩
  replace HD := hid (HD.out.trans hb)
  have HB6 := hid (HB4.out.trans (HD.out.mono HB4.out.size))
  have HSC6 := hid (HSC4.out.below HD.out)
  have cN6 := cell1_keep cN4 HD.out
  have HE6 := hid hE6
  have HEm : Hid (∀ i ∈ eraZ er, i < n) := fun i hi => by
    have h1 := (eraZ_mem (fun x hx => (HIN.out x hx).1) i).1 hi
    have := (HIN.out _ h1).2
    omega
  have hEl : (eraZ er).length ≤ 1000 := Nat.le_trans (eraZ_length_le er) hel
  have HOF := hid hoff
  clear HD hb hCo HSC4 cN4 HB4 hE6 hoff HE HIN
  generalize eraZ er = E at *
  have hwr : IntKind.i64.wrap ((n : Int) - (k : Int)) = ((n - k : Nat) : Int) := by rw [IntKind.wrap_i64]; omega
  have hP1 : 1 ≤ n - k := by omega
  have HBy : Hid (R0 = if n - k < E.length then none else if rightB word (n - k) = true then some word else
    match mendL n (n - k) (synd word (n - k)) E loc word mny with
    | none => none
    | some o => if rightB o (n - k) = true then some o else none) := HR0.out
  clear HR0
  have HRi := hid (rs_Right c f n k pw word.length cw word w6 (HR.out.below HB6.out) hk hn rfl (HW.out.below HB6.out) HBW.out HL.out)
  have HRi2 : Hid (∀ (u : World) (po : Option Addr) (co : Nat) (o : List Nat), Below w.heap.size w u → cellsB u po o → bytesL o → o.length = n → Calls Try.prog 17 #[.pointer (some ⟨c, 0, none⟩), .slice po o.length co] u fun e w' => e = .returned (.bool (rightB o (n - k))) ∧ Below u.heap.size u w') :=
    fun u po co o h1 h2 h3 h4 => rs_Right c f n k po o.length co o u (HR.out.below h1) hk hn rfl h2 h3 h4
  generalize n - k = P at *
  by_cases hlt : P < E.length
  · have q : decide ((P : Int) < (E.length : Int)) = true := decide_eq_true (by omega)
    rw [if_pos hlt] at HBy
    go_wp2_with ((with_reducible refine wpList_unguard ?_ ?_); (focus rfl))
    go_returns
    exact ⟨HB6.out, fun _ => rfl, fun o h => (by rw [HBy.out] at h; cases h)⟩
  · have q : decide ((P : Int) < (E.length : Int)) = false := decide_eq_false (by omega)
    rw [if_neg hlt] at HBy
    have hlt' : E.length ≤ P := by omega
    go_wp2_with ((with_reducible refine wpList_unguard ?_ ?_); (focus rfl))
    refine Calls.mono HRi.out ?_; rintro e w7 ⟨rfl, hb⟩
    have HB7 := hid (HB6.out.trans (hb.mono HB6.out.size))
    have hz67 := hb.size
    replace HSC6 := hid (HSC6.out.below hb)
    replace HE6 := hid (HE6.out.below hb)
    have cN7 := cell1_keep cN6 hb
    clear HRi hb HB6 cN6
    obtain ⟨z, hz⟩ : ∃ z, rightB word P = z := ⟨_, rfl⟩
    rw [hz] at HBy ⊢
    cases z with
    | true =>
      rw [if_pos rfl] at HBy
      have hCl := hid (sl_CloneAny pw _ cw word w7 rfl (HW.out.below HB7.out) (by omega) (.inl (fun h => by have := HL.out; rw [h] at this; simp at this; omega)))
      have hUn := hid (unkL_self word n)
      go_wp2_with ((with_reducible refine wpList_unguard ?_ ?_); (focus rfl))
      refine Calls.mono hCl.out ?_; rintro e w8 ⟨v, rfl, hO, hb⟩
      obtain ⟨po, co, rfl, hco⟩ := hO.cells
      have hol := hO.leq
      have HCO := hid hco
      have HB8 := hid (HB7.out.trans (hb.mono HB7.out.size))
      clear hO hco hb hCl
      go_wp2_with ((with_reducible refine wpList_unguard ?_ ?_); (focus rfl))
      go_returns
      refine ⟨HB8.out, fun h => (by rw [HBy.out] at h; cases h), fun o h => ?_⟩
      rw [HBy.out] at h
      cases h
      rw [hUn.out]
      exact ⟨po, co, none, 0, rfl, hol, Nat.le_refl _, HCO.out, cellsI.nil _ _⟩
    | false =>
      rw [if_neg (by decide)] at HBy
      have hOv := hid (rs_Over c f n k w7.drew (HR.out.below HB7.out.drew))
      have cN7d : w7.drew.cell? ⟨N, 0, none⟩ = some (.int .i64 n) := cN7
      have kb := fun (vs : Array Value) (t : TypeId) => (show (w7.alloc (.cells vs t)).drew.cell? ⟨N, 0, none⟩ = some (.int .i64 n) from (World.cell?_alloc_lt w7 (.cells vs t) ⟨N, 0, none⟩ (block_lt_of_cell cN7)).trans cN7)
      go_upto_region 11 with fail
      go_region_held3 (fun u => u.cell? ⟨N, 0, none⟩ = some (.int .i64 n)) (first | with_reducible exact cN7d | with_reducible exact kb _ _) (first | (go_at_call 75; refine Calls.mono hOv.out ?_; rintro e w8 ⟨rfl, rfl⟩))
      have hBx : Below w7.heap.size w7 (w7.alloc (.cells #[.pointer (some ⟨f, 0, none⟩), .int .i64 (n : Nat), .int .i64 (P : Nat), .slice ps (synd word P).length cs, .slice pE E.length cE, .slice none 0 0] 114)).drew := ((Below.refl _ _).alloc (Nat.le_refl _) _).drew
      have HSV : Hid (isS (w7.alloc (.cells #[.pointer (some ⟨f, 0, none⟩), .int .i64 (n : Nat), .int .i64 (P : Nat), .slice ps (synd word P).length cs, .slice pE E.length cE, .slice none 0 0] 114)).drew w7.heap.size f n P (.slice ps (synd word P).length cs) (.slice pE E.length cE) (.slice none 0 0)) := World.alloc_heap_new w7 _
      have HB8 := hid (HB7.out.trans (hBx.mono HB7.out.size))
      have HSC8 := hid (HSC6.out.below hBx)
      have HE8 := hid (HE6.out.below hBx)
      have HF8 := hid (HR.out.fld.blw HB8.out)
      have HVw : Hid (w.heap.size ≤ w7.heap.size) := HB7.out.size
      have hEV : Hid (offV pE w7.heap.size) := by
        intro a o s e hv
        have h1 := HOF.out _ e
        have h1 : a < w6.heap.size := h1
        omega
      have hSV : Hid (offV ps w7.heap.size) := by
        intro a o s e hv
        obtain ⟨a', o', e', hc⟩ := HSC6.out 0 (by rw [HSL.out]; omega)
        rw [e'] at e
        cases e
        have := block_lt_of_cell hc
        simp at this
        omega
      clear hOv cN7d kb cN7 hBx HSC6 HE6 hz67 HOF
      generalize (w7.alloc (.cells #[.pointer (some ⟨f, 0, none⟩), .int .i64 (n : Nat), .int .i64 (P : Nat), .slice ps (synd word P).length cs, .slice pE E.length cE, .slice none 0 0] 114)).drew = w8 at *
      generalize w7.heap.size = V at *
      have hE300 : E.length ≤ 300 := by omega
      have hEb : Hid (∀ i ∈ E, i ≤ 1000000) := fun i hi => by have := HEm.out i hi; omega
      have HEr := hid (sol_erasures V f n P ps (synd word P).length cs pE cE E none 0 0 w8 HSV.out HF8.out hn HE8.out hEV.out hE300 hEb.out)
      have hfV : Hid (f ≠ V) := isS_F HSV.out HF8.out
      clear HSV
      go_wp2_with ((with_reducible refine wpList_unguard ?_ ?_); (focus rfl))
      refine Calls.mono HEr.out ?_; rintro e w9 ⟨rfl, hO, pl, cl, hS9, hc9, hp9⟩
      have HB9 := hid (Below.outV HB8.out hO HVw.out (Nat.le_refl _))
      have HF9 := hid (HF8.out.outV hO hfV.out)
      have HSC9 := hid (HSC8.out.outV hO hSV.out)
      have HE9 := hid (HE8.out.outV hO hEV.out)
      have HSr := hid (HS.out hlt' V ps cs pE cE pl cl w9 hS9 HF9.out HSC9.out hsl hSV.out hc9 hp9)
      clear HEr hO hS9 hc9 hp9 HB8 HF8 HSC8 HE8
      go_wp2_with ((with_reducible refine wpList_unguard ?_ ?_); (focus rfl))
      refine Calls.mono HSr.out ?_; rintro e w10 ⟨rfl, hO, pl2, cl2, hS10, hc10, hp10⟩
      have HB10 := hid (Below.outV HB9.out hO HVw.out (Nat.le_refl _))
      have hn1 : 1 ≤ n := by omega
      have hs1000 : (synd word P).length ≤ 1000 := by rw [HSL.out]; omega
      have HMe := hid (sol_mend V f n P ps cs (synd word P) pE cE E pl2 cl2 loc pw cw word mny w10 hS10 (HF9.out.outV hO hfV.out) (HSC9.out.outV hO hSV.out) HSB.out hs1000 (HE9.out.outV hO hEV.out) hEl hc10 HBL.out hll HL0.out (HW.out.below HB10.out) HBW.out HL.out hn hn1 hp64 hP1)
      have HMK : Hid (∀ o, mendL n P (synd word P) E loc word mny = some o → o.length = word.length ∧ bytesL o) := fun o h => mendL_keeps h HBW.out
      clear HSr hO hS10 hc10 hp10 HB9 HF9 HSC9 HE9 hs1000
      generalize mendL n P (synd word P) E loc word mny = M at *
      go_wp2_with ((with_reducible refine wpList_unguard ?_ ?_); (focus rfl))
      refine Calls.mono HMe.out ?_; rintro e w11 ⟨hb, hN, hSm⟩
      have HB11 := hid (HB10.out.trans (hb.mono HB10.out.size))
      clear HMe hb HB10
      cases M with
      | none =>
        obtain rfl := hN rfl
        have HBy2 : Hid (R0 = none) := HBy.out
        clear hN hSm HBy
        go_wp2_with ((with_reducible refine wpList_unguard ?_ ?_); (focus rfl))
        go_returns
        exact ⟨HB11.out, fun _ => rfl, fun o h => (by rw [HBy2.out] at h; cases h)⟩
      | some o =>
        obtain ⟨po, co, rfl, hol, hoc⟩ := hSm o rfl
        obtain ⟨hol2, hob⟩ := HMK.out o rfl
        have HBy2 : Hid (R0 = if rightB o P = true then some o else none) := HBy.out
        have HOC := hid hoc
        have HOB := hid hob
        have HOL := hid (hol2.trans HL.out)
        have HRo := hid (HRi2.out w11 po co o HB11.out hoc hob HOL.out)
        clear hN hSm HBy hoc hob hol2 HMK
        obtain ⟨z, hz⟩ : ∃ z, rightB o P = z := ⟨_, rfl⟩
        rw [hz] at HBy2 HRo
        clear hz
        go_wp2_with ((with_reducible refine wpList_unguard ?_ ?_); (focus rfl))
        refine Calls.mono HRo.out ?_; rintro e w12 ⟨rfl, hb⟩
        have HB12 := hid (HB11.out.trans (hb.mono HB11.out.size))
        replace HOC := hid (HOC.out.below hb)
        clear HRo hb HB11
        cases z with
        | false =>
          rw [if_neg (by decide)] at HBy2
          go_wp2_with ((with_reducible refine wpList_unguard ?_ ?_); (focus rfl))
          go_returns
          exact ⟨HB12.out, fun _ => rfl, fun o h => (by rw [HBy2.out] at h; cases h)⟩
        | true =>
          rw [if_pos rfl] at HBy2
          have HUn := hid (sol_unlikes pw po word.length cw o.length co word o w12 rfl (HW.out.below HB12.out) rfl HOC.out (by rw [HL.out, HOL.out]) (by omega))
          go_wp2_with ((with_reducible refine wpList_unguard ?_ ?_); (focus rfl))
          refine Calls.mono HUn.out ?_; rintro e w13 ⟨v, rfl, hr, hb⟩
          obtain ⟨pu, cu, rfl, hcu, hci⟩ := hr.ints
          have HB13 := hid (HB12.out.trans (hb.mono HB12.out.size))
          replace HOC := hid (HOC.out.below hb)
          have HCI := hid hci
          have HUE : Hid (unkL word o word.length = unkL word o n) := by show _ = _; rw [HL.out]
          clear HUn hr hb hci
          go_wp2_with ((with_reducible refine wpList_unguard ?_ ?_); (focus rfl))
          go_returns
          refine ⟨HB13.out, fun h => (by rw [HBy2.out] at h; cases h), fun o' h => ?_⟩
          rw [HBy2.out] at h
          cases h
          rw [HUE.out] at hcu HCI ⊢
          exact ⟨po, co, pu, cu, rfl, hol, hcu, HOC.out, HCI.out⟩
end Go.Proofs.Ytgckhekikcdaiaa

namespace Go.Proofs.Ytgckhekikcdaiaa
open Go.RowKit Tri

set_option maxHeartbeats 1000000 in
theorem rs_Size_nil (w : World) : Calls Try.prog 14 #[.pointer none] w fun e w' => e = .returned (.tuple #[.int .i64 0, .int .i64 0]) ∧ w = w' := by
  (go_enter Try.func14, Try.ntmps14; try simp only [List.append])
  go_wp2_with ((with_reducible refine wpList_unguard ?_ ?_); (focus rfl))
  refine bodyPost_ret (v := .tuple #[.int .i64 0, .int .i64 0]) (by simp [results, Try.results14, go_sem]) rfl ⟨rfl, rfl⟩
set_option maxHeartbeats 1000000 in
theorem rs_Over_nil (w : World) : Calls Try.prog 75 #[.pointer none] w fun e w' => e = .returned (.pointer none) ∧ w = w' := by
  (go_enter Try.func75, Try.ntmps75; try simp only [List.append])
  go_wp2_with ((with_reducible refine wpList_unguard ?_ ?_); (focus rfl))
  go_ret
  exact ⟨rfl, rfl⟩
end Go.Proofs.Ytgckhekikcdaiaa

namespace Go.Proofs.Ytgckhekikcdaiaa
open Go.RowKit Tri

set_option maxHeartbeats 2000000 in
set_option maxRecDepth 100000 in
theorem sol_by_nil (fs : Nat) (pw : Option Addr) (nw cw : Nat) (ev : Value) (w : World) :
    Calls Try.prog 55 #[.pointer none, .slice pw nw cw, ev, .func (.func fs) #[] #[]] w fun e w' => e = .returned (.tuple #[.slice none 0 0, .slice none 0 0, .int .i64 1]) ∧ Below w.heap.size w w' := by
  have h1 := hid (rs_Syndromes_nil pw nw cw w)
  have h2 := hid (rs_Size_nil w)
  have HB := hid ((Below.refl w.heap.size w).alloc (Nat.le_refl _) (.cells #[.int .i64 0] 3))
  (go_enter Try.func55, Try.ntmps55; try simp only [List.append])
  go_wp2_with ((with_reducible refine wpList_unguard ?_ ?_); (focus rfl))
  refine Calls.mono h1.out ?_; rintro e w1 ⟨rfl, rfl⟩
  go_wp2_with ((with_reducible refine wpList_unguard ?_ ?_); (focus rfl))
  refine Calls.mono h2.out ?_; rintro e w1 ⟨rfl, rfl⟩
  go_wp2_with ((with_reducible refine wpList_unguard ?_ ?_); (focus rfl))
  go_returns
  exact ⟨rfl, HB.out⟩
set_option maxHeartbeats 2000000 in
set_option maxRecDepth 100000 in
theorem sol_by_len (fs c f n k : Nat) (pw : Option Addr) (nw cw : Nat) (ev : Value) (w : World) (hR : isR w c f n k) (hn : n ≤ 255) (hnw : nw ≠ n) (hmm : nw ≤ 140737488351232) :
    Calls Try.prog 55 #[.pointer (some ⟨c, 0, none⟩), .slice pw nw cw, ev, .func (.func fs) #[] #[]] w fun e w' => e = .returned (.tuple #[.slice none 0 0, .slice none 0 0, .int .i64 1]) ∧ Below w.heap.size w w' := by
  have h1 := hid (rs_Syndromes_bad c f n k pw nw cw w hR hnw hn hmm)
  have h2 := hid (rs_Size c f n k w hR)
  clear hR hnw
  (go_enter Try.func55, Try.ntmps55; try simp only [List.append])
  go_wp2_with ((with_reducible refine wpList_unguard ?_ ?_); (focus rfl))
  refine Calls.mono h1.out ?_; rintro e w1 ⟨rfl, rfl⟩
  go_wp2_with ((with_reducible refine wpList_unguard ?_ ?_); (focus rfl))
  refine Calls.mono h2.out ?_; rintro e w1 ⟨rfl, hb⟩
  have HB := hid (hb.alloc hb.size (.cells #[.int .i64 (n : Nat)] 3))
  clear hb
  go_wp2_with ((with_reducible refine wpList_unguard ?_ ?_); (focus rfl))
  go_returns
  exact ⟨rfl, HB.out⟩
set_option maxHeartbeats 2000000 in
set_option maxRecDepth 100000 in
theorem sol_by_out (fs c f n k : Nat) (pw : Option Addr) (cw : Nat) (word : List Nat) (pe : Option Addr) (ce : Nat) (er : List Int) (w : World) (hR : isR w c f n k) (hk : k < n) (hn : n ≤ 255)
    (hw : cellsB w pw word) (hbw : bytesL word) (hl : word.length = n) (hE : cellsZ w pe er) (hel : er.length ≤ 1000) (hin : ¬ ∀ x ∈ er, 0 ≤ x ∧ x < (n : Int)) :
    Calls Try.prog 55 #[.pointer (some ⟨c, 0, none⟩), .slice pw word.length cw, .slice pe er.length ce, .func (.func fs) #[] #[]] w fun e w' => e = .returned (.tuple #[.slice none 0 0, .slice none 0 0, .int .i64 1]) ∧ Below w.heap.size w w' := by
  have HR := hid hR
  have HE := hid hE
  have hSy := hid (rs_Syndromes c f n k pw word.length cw word w hR hk hn rfl hw hbw hl)
  have HANY : Hid (er.any (fun i => decide (i < 0 ∨ (n : Int) ≤ i)) = true) := by
    show _ = _
    rw [List.any_eq_true]
    by_cases h : ∃ x ∈ er, x < 0 ∨ (n : Int) ≤ x
    · obtain ⟨x, hx, h⟩ := h
      exact ⟨x, hx, decide_eq_true h⟩
    · exfalso
      refine hin fun x hx => ?_
      have : ¬ (x < 0 ∨ (n : Int) ≤ x) := fun h2 => h ⟨x, hx, h2⟩
      omega
  clear hR hw hbw hl hE hin
  (go_enter Try.func55, Try.ntmps55; try simp only [List.append])
  go_wp2_with ((with_reducible refine wpList_unguard ?_ ?_); (focus rfl))
  refine Calls.mono hSy.out ?_; rintro e w1 ⟨v, rfl, hv, hb⟩
  have HB1 := hid hb
  have HSI := hid (rs_Size c f n k w1 (HR.out.below hb))
  clear hSy hv hb
  go_wp2_with ((with_reducible refine wpList_unguard ?_ ?_); (focus rfl))
  refine Calls.mono HSI.out ?_; rintro e w2 ⟨rfl, hb⟩
  have HB2 := hid (HB1.out.trans (hb.mono HB1.out.size))
  clear HSI hb
  go_wp2_with ((with_reducible refine wpList_unguard ?_ ?_); (focus rfl))
  have cN : (w2.alloc (.cells #[.int .i64 n] 3)).cell? ⟨w2.heap.size, 0, none⟩ = some (.int .i64 n) := by rw [World.cell?_alloc_new]; rfl
  have HB3 := hid (HB2.out.alloc HB2.out.size (.cells #[.int .i64 n] 3))
  clear HB2
  generalize w2.alloc (.cells #[.int .i64 n] 3) = w3 at *
  generalize w2.heap.size = N at *
  have hCF := hid (sl_ContainsFuncO N n pe er.length ce er w3 rfl (HE.out.below HB3.out) (by omega) cN)
  rw [HANY.out] at hCF
  refine Calls.mono hCF.out ?_; rintro e w4 ⟨rfl, rfl⟩
  clear hCF HANY
  go_wp2_with ((with_reducible refine wpList_unguard ?_ ?_); (focus rfl))
  go_returns
  exact ⟨rfl, HB3.out⟩
/-- What the search comes to. -/
def bmR (n p : Nat) (word E : List Nat) : SrS := srRun (synd word p) E.length (eraL n E) (p - E.length)
theorem bmR_is (n p : Nat) {word : List Nat} (E : List Nat) : bytesL (bmR n p word E).loc ∧ (bmR n p word E).loc.length ≤ E.length + 1 + (p - E.length) ∧ (bmR n p word E).loc ≠ [] := by
  obtain ⟨h1, -, h2, -, -⟩ := srRun_inv (synd word p) E.length (eraL n E) (eraL_bytes n E) (eraL_len n E) (p - E.length)
  exact ⟨h1, h2, (srRun_ne (synd word p) E.length (eraL n E) (eraL_ne n E) (p - E.length)).1⟩
theorem search_P (f n p : Nat) (word E : List Nat) (hb : bytesL word) (hp : p ≤ 64) (hE : E.length ≤ p) :
    SrchP 56 f n p (synd word p) E ((bmR n p word E).l : Nat) (bmR n p word E).loc := by
  intro V ps cs pe ce pl cl u h1 h2 h3 h4 h5 h6 h7
  exact sol_search V f n p ps cs (synd word p) pe ce E.length pl cl (eraL n E) u h1 h2 h3 (synd_bytes hb p) (by rw [synd_length]; omega) h5 h6 (eraL_bytes n E) (eraL_len n E) h7 hE hp
/-- The mended word, or none. -/
def mendW (n p : Nat) (word E : List Nat) : Option (List Nat) := byR n p word E ((bmR n p word E).l : Nat) (bmR n p word E).loc
/-- What Mend tells. -/
def MendP (n k : Nat) (word : List Nat) (er : List Int) (R : Option (List Nat)) (e : Ending) (w' : World) : Prop :=
  (¬ (word.length = n ∧ ∀ x ∈ er, 0 ≤ x ∧ x < (n : Int)) → e = .returned (.tuple #[.slice none 0 0, .slice none 0 0, .int .i64 1])) ∧
  (word.length = n ∧ (∀ x ∈ er, 0 ≤ x ∧ x < (n : Int)) → R = none → e = .returned (.tuple #[.slice none 0 0, .slice none 0 0, .int .i64 8])) ∧
  (word.length = n ∧ (∀ x ∈ er, 0 ≤ x ∧ x < (n : Int)) → ∀ o, R = some o → ∃ p c p' c', e = .returned (.tuple #[.slice p o.length c, .slice p' (unkL word o n).length c', .int .i64 0]) ∧ o.length ≤ c ∧ (unkL word o n).length ≤ c' ∧ cellsB w' p o ∧ cellsI w' p' (unkL word o n))
theorem solve_by (fs c f n k : Nat) (pw : Option Addr) (cw : Nat) (word : List Nat) (pe : Option Addr) (ce : Nat) (er : List Int) (mny : Int) (loc : List Nat) (w : World) (hR : isR w c f n k) (hk : k < n) (hn : n ≤ 255) (hp64 : n - k ≤ 64)
    (hw : cellsB w pw word) (hbw : bytesL word) (hlw : word.length ≤ 1000000) (hE : cellsZ w pe er) (hel : er.length ≤ 1000)
    (hS : (eraZ er).length ≤ n - k → SrchP fs f n (n - k) (synd word (n - k)) (eraZ er) mny loc) (hloc : (eraZ er).length ≤ n - k → bytesL loc ∧ loc.length ≤ 1000 ∧ loc ≠ []) (hen : ∀ args w, (callFunc fs args).run Try.prog w = .ok (.enter fs args) w) :
    Calls Try.prog 55 #[.pointer (some ⟨c, 0, none⟩), .slice pw word.length cw, .slice pe er.length ce, .func (.func fs) #[] #[]] w fun e w' => Below w.heap.size w w' ∧ MendP n k word er (byR n (n - k) word (eraZ er) mny loc) e w' := by
  by_cases hl : word.length = n
  · by_cases hin : ∀ x ∈ er, 0 ≤ x ∧ x < (n : Int)
    · by_cases hp : (eraZ er).length ≤ n - k
      · obtain ⟨l1, l2, l3⟩ := hloc hp
        refine (sol_by_main fs c f n k pw cw word pe ce er mny loc w hR hk hn hp64 hw hbw hl hE hel hin hS l1 l2 l3 hen).mono ?_
        rintro e w' ⟨h1, h2, h3⟩
        exact ⟨h1, fun h => absurd ⟨hl, hin⟩ h, fun _ => h2, fun _ => h3⟩
      · have e1 : ∀ loc', byR n (n - k) word (eraZ er) mny loc' = none := fun loc' => by unfold byR; rw [if_pos (by omega)]
        refine (sol_by_main fs c f n k pw cw word pe ce er mny [1] w hR hk hn hp64 hw hbw hl hE hel hin (fun h => absurd h hp) (by intro x hx; simp at hx; omega) (by simp) (by simp) hen).mono ?_
        rintro e w' ⟨h1, h2, h3⟩
        rw [e1] at *
        exact ⟨h1, fun h => absurd ⟨hl, hin⟩ h, fun _ => h2, fun _ => h3⟩
    · refine (sol_by_out fs c f n k pw cw word pe ce er w hR hk hn hw hbw hl hE hel hin).mono ?_
      rintro e w' ⟨rfl, h1⟩
      exact ⟨h1, fun _ => rfl, fun h => absurd h.2 hin, fun h => absurd h.2 hin⟩
  · refine (sol_by_len fs c f n k pw word.length cw _ w hR hn hl (by omega)).mono ?_
    rintro e w' ⟨rfl, h1⟩
    exact ⟨h1, fun _ => rfl, fun h => absurd h.1 hl, fun h => absurd h.1 hl⟩
set_option maxHeartbeats 1000000 in
theorem sol_Mend (c f n k : Nat) (pw : Option Addr) (cw : Nat) (word : List Nat) (pe : Option Addr) (ce : Nat) (er : List Int) (w : World) (hR : isR w c f n k) (hk : k < n) (hn : n ≤ 255) (hp64 : n - k ≤ 64)
    (hw : cellsB w pw word) (hbw : bytesL word) (hlw : word.length ≤ 1000000) (hE : cellsZ w pe er) (hel : er.length ≤ 1000) :
    Calls Try.prog 29 #[.pointer (some ⟨c, 0, none⟩), .slice pw word.length cw, .slice pe er.length ce] w fun e w' => Below w.heap.size w w' ∧ MendP n k word er (mendW n (n - k) word (eraZ er)) e w' := by
  have h := solve_by 56 c f n k pw cw word pe ce er ((bmR n (n - k) word (eraZ er)).l : Nat) (bmR n (n - k) word (eraZ er)).loc w hR hk hn hp64 hw hbw hlw hE hel
    (fun hp => search_P f n (n - k) word (eraZ er) hbw hp64 hp) (fun hp => by
      obtain ⟨h1, h2, h3⟩ := bmR_is n (n - k) (word := word) (eraZ er)
      exact ⟨h1, by omega, h3⟩) (enters_of Try.func56 (by kernel_rfl) rfl)
  have h : Hid (Calls Try.prog 55 #[.pointer (some ⟨c, 0, none⟩), .slice pw word.length cw, .slice pe er.length ce, .func (.func 56) #[] #[]] w fun e w' => Below w.heap.size w w' ∧ MendP n k word er (mendW n (n - k) word (eraZ er)) e w') := h
  generalize mendW n (n - k) word (eraZ er) = R at *
  clear hR hw hbw hE
  (go_enter Try.func29, Try.ntmps29; try simp only [List.append])
  go_wp2_with ((with_reducible refine wpList_unguard ?_ ?_); (focus rfl))
  refine Calls.mono h.out ?_; rintro e w1 ⟨hb, hm⟩
  have HB := hid hb
  have HM := hid hm
  clear hb hm h
  have key : (∃ a b x, e = .returned (.tuple #[a, b, x])) := by
    by_cases h : word.length = n ∧ ∀ x ∈ er, 0 ≤ x ∧ x < (n : Int)
    · cases hR : R with
      | none => exact ⟨_, _, _, HM.out.2.1 h hR⟩
      | some o => obtain ⟨p, c, p', c', he, -⟩ := HM.out.2.2 h o hR; exact ⟨_, _, _, he⟩
    · exact ⟨_, _, _, HM.out.1 h⟩
  obtain ⟨a, b, x, rfl⟩ := key
  go_wp2_with ((with_reducible refine wpList_unguard ?_ ?_); (focus rfl))
  go_returns
  exact ⟨HB.out, HM.out⟩
set_option maxHeartbeats 1000000 in
theorem sol_Mend_nil (pw : Option Addr) (nw cw : Nat) (ev : Value) (w : World) :
    Calls Try.prog 29 #[.pointer none, .slice pw nw cw, ev] w fun e w' => e = .returned (.tuple #[.slice none 0 0, .slice none 0 0, .int .i64 1]) ∧ Below w.heap.size w w' := by
  have h := hid (sol_by_nil 56 pw nw cw ev w)
  (go_enter Try.func29, Try.ntmps29; try simp only [List.append])
  go_wp2_with ((with_reducible refine wpList_unguard ?_ ?_); (focus rfl))
  refine Calls.mono h.out ?_; rintro e w1 ⟨rfl, hb⟩
  have HB := hid hb
  clear hb h
  go_wp2_with ((with_reducible refine wpList_unguard ?_ ?_); (focus rfl))
  go_returns
  exact ⟨rfl, HB.out⟩
end Go.Proofs.Ytgckhekikcdaiaa

namespace Go.Proofs.Ytgckhekikcdaiaa
open Go.RowKit

set_option maxHeartbeats 4000000 in
set_option maxRecDepth 100000 in
theorem ref01_Same (p q : Option Addr) (n m c d : Nat) (l r : List Int) (w : World) (hn : n = l.length) (hm : m = r.length) (hp : cellsZ w p l) (hq : cellsZ w q r) (hl : l.length ≤ 1000) (hr : r.length ≤ 1000) :
    Calls Try.prog 31 #[.slice p n c, .slice q m d] w fun e w' => e = .returned (.bool (decide (l = r))) ∧ Below w.heap.size w w' := by
  subst hn hm
  have HP := hid hp
  have HQ := hid hq
  clear hp hq
  by_cases hlen : l.length = r.length
  · have hlr : (l.length != r.length) = false := by simpa using hlen
    have HLen := hid hlen
    obtain ⟨L, hL⟩ : ∃ n, l.length = n := ⟨_, rfl⟩
    have HLL := hid hL
    rw [← hlen, hL] at hlr ⊢
    rw [hL] at hl
    have hlr' : (((L : Int)) != (L : Int)) = false := by simp
    have HR2 : Hid (r.length = L) := by show _ = _; rw [← hlen, hL]
    clear hlr hlen hr hL
    generalize hB : decide (l = r) = B at *
    have HB := hid hB
    clear hB
    (go_enter Try.func31, Try.ntmps31; try simp only [List.append])
    go_wp2
    go_loopw [5] (fun i wr => ∃ k : Nat, k ≤ L ∧ i = .int .i64 k ∧ Below w.heap.size w wr ∧ l.take k = r.take k) (fun i _ => L - (intOf i).toNat)
    case atStart => exact ⟨0, Nat.zero_le _, rfl, Below.refl _ _, rfl⟩
    case round =>
      obtain ⟨k, hk, rfl, hb, ht⟩ := hrel
      have HT := hid ht
      have HW := hid hb
      clear ht hb
      by_cases hlt : k < L
      · obtain ⟨a1, o1, hp1, hc1⟩ := (HP.out.below HW.out) k (by rw [HLL.out]; exact hlt)
        obtain ⟨a2, o2, hp2, hc2⟩ := (HQ.out.below HW.out) k (by rw [HR2.out]; exact hlt)
        subst hp1 hp2
        have HX : Hid (l.take (k + 1) = l.take k ++ [l.getD k 0]) := by
          show _ = _
          rw [List.take_succ_eq_append_getElem (by rw [HLL.out]; exact hlt)]
          congr 1
          rw [List.getD_eq_getElem?_getD, List.getElem?_eq_getElem (by rw [HLL.out]; exact hlt)]
          rfl
        have HY : Hid (r.take (k + 1) = r.take k ++ [r.getD k 0]) := by
          show _ = _
          rw [List.take_succ_eq_append_getElem (by rw [HR2.out]; exact hlt)]
          congr 1
          rw [List.getD_eq_getElem?_getD, List.getElem?_eq_getElem (by rw [HR2.out]; exact hlt)]
          rfl
        have HXY : Hid (l = r → l.getD k 0 = r.getD k 0) := fun h => by rw [h]
        generalize l.getD k 0 = x at *
        generalize r.getD k 0 = y at *
        by_cases hxy : x = y
        · have hb : (x != y) = false := by simpa using hxy
          have HE := hid hxy
          clear hxy HXY
          go_wp2
          go_quiet (fail)
          go_wp2
          go_roundw
          case rel => exact ⟨k + 1, by omega, by go_num, HW.out.trans (below_drewN (Below.refl _ _) _), by rw [HX.out, HY.out, HT.out, HE.out]⟩
          case measure => simp [intOf]; omega
        · have hb : (x != y) = true := by simpa using hxy
          have HE := hid hxy
          clear hxy
          go_wp2
          go_quiet (fail)
          go_wp2
          go_ret
          refine ⟨?_, HW.out.trans (below_drewN (Below.refl _ _) _)⟩
          rw [← HB.out, decide_eq_false (fun h => HE.out (HXY.out h))]
          rfl
      · have HT' : Hid (l = r) := by
          have := HT.out
          rw [List.take_of_length_le (by rw [HLL.out]; omega), List.take_of_length_le (by rw [HR2.out]; omega)] at this
          exact this
        go_wp2
        go_ret
        refine ⟨?_, HW.out⟩
        rw [← HB.out, decide_eq_true HT'.out]
        rfl
  · have hlr : (((l.length : Nat) : Int) != ((r.length : Nat) : Int)) = true := by rw [bne_iff_ne]; omega
    have hB : decide (l = r) = false := decide_eq_false (fun h => hlen (by rw [h]))
    rw [hB]
    clear hlen hB
    (go_enter Try.func31, Try.ntmps31; try simp only [List.append])
    go_wp2
    go_ret
    exact ⟨rfl, Below.refl _ _⟩
end Go.Proofs.Ytgckhekikcdaiaa

namespace Tri
open Go.Proofs.Ytgckhekikcdaiaa
theorem enc7_ex : enc [7, 9] 4 = [7, 9, 67, 35, 155, 245] := by decide +kernel
theorem mend7_ex : mendW 6 4 [6, 9, 67, 35, 214, 245] [] = some [7, 9, 67, 35, 155, 245] := by decide +kernel
theorem unk7_ex : unkL [6, 9, 67, 35, 214, 245] [7, 9, 67, 35, 155, 245] 6 = [0, 4] := by decide +kernel
theorem era7_ex : eraZ [] = [] := by unfold eraZ sortI; simp [Go.Lib.compact, Go.Lib.compactUpTo]
end Tri
namespace Go.Proofs.Ytgckhekikcdaiaa
open Go.RowKit Tri

set_option maxHeartbeats 4000000 in
set_option maxRecDepth 100000 in
theorem law07_awake (w : World) : Calls Try.prog 27 #[] w fun e w' => e = .returned (.bool true) ∧ Below w.heap.size w w' := by
  (go_enter Try.func27, Try.ntmps27; try simp only [List.append])
  go_wp2_with ((with_reducible refine wpList_unguard ?_ ?_); (focus rfl))
  refine Calls.mono (gf_NewK w w (Below.refl _ _)) ?_; rintro e w2 ⟨b, rfl, K0⟩; have K := hid K0; clear K0
  go_wp2_with ((with_reducible refine wpList_unguard ?_ ?_); (focus rfl))
  refine Calls.mono (rs_New b 6 2 w2 K.out.2 (by omega) (by omega) (by omega) (by omega)) ?_
  rintro e w3 ⟨c, rfl, hR, hbel⟩
  have HR := hid hR
  have HB := hid (K.out.1.trans (hbel.mono K.out.1.size))
  clear hR hbel K
  go_wp2_with ((with_reducible refine wpList_unguard ?_ ?_); (focus rfl))
  have C0 := hid (cellsB.new w3 [7, 9] #[.int .u8 7, .int .u8 9] 5 rfl)
  have hb1 : Below w3.heap.size w3 (w3.alloc (.cells #[.int .u8 7, .int .u8 9] 5)) := (Below.refl _ _).alloc (Nat.le_refl _) _
  have HR4 := hid (HR.out.below hb1)
  have HB4 := hid (HB.out.trans (hb1.mono HB.out.size))
  clear hb1 HR HB
  generalize w3.alloc (.cells #[.int .u8 7, .int .u8 9] 5) = w4 at *
  refine Calls.mono (rs_Encode c b 6 2 _ _ _ [7, 9] w4 HR4.out (by omega) (by omega) (by omega) (by omega) rfl (Nat.le_refl _) C0.out (by intro y hy; simp at hy; omega) rfl) ?_
  rintro e w5 ⟨v, rfl, hO, hbel⟩
  rw [show (6 - 2 : Nat) = 4 from rfl, enc7_ex] at hO
  obtain ⟨p, d, rfl, hc⟩ := hO.cells
  have HC := hid hc
  have HR5 := hid (HR4.out.below hbel)
  have HB5 := hid (HB4.out.trans (hbel.mono HB4.out.size))
  have hA : Below w5.heap.size w5 (w5.alloc (.cells #[] 5)) := (Below.refl _ _).alloc (Nat.le_refl _) _
  have hown : ownsB (w5.alloc (.cells #[] 5)) w5.heap.size (.slice (some ⟨w5.heap.size, 0, none⟩) 0 0) [] := World.ownsRow_lit w5 #[] 0 (Nat.le_refl _) (by unfold maxLen; omega) rfl
  have hqa := HC.out.below hA
  clear hO hc hbel HR4 HB4 C0
  go_wp2_with (at_builtin; refine wpList_pushB rfl _ _ rfl w5.heap.size _ [] [7, 9, 67, 35, 155, 245] p d hown hqa (by simp) rfl _ rfl rfl (by simp) (by simp) hA.size ?_)
  intro v' w6 hq' hb'
  obtain ⟨g, cap, rfl, hg, hcap, hbuf⟩ := hq'.buf2 (by simp)
  have hb56 := hA.trans hb'
  have HR6 := hid (HR5.out.below hb56)
  have HB6 := hid (HB5.out.trans (hb56.mono HB5.out.size))
  have HC6 := hid (HC.out.below hb56)
  have HG := hid (Nat.le_trans HB5.out.size hg)
  have hbuf : bufB w6 g [7, 9, 67, 35, 155, 245] := hbuf
  have c0 := hbuf.at 0 (by simp)
  have f0 := hbuf.2 0 (by simp)
  have c0 : w6.cell? ⟨g, 0, none⟩ = some (.int .u8 7) := c0
  have HBF1 := hid (hbuf.set 0 6 (by simp))
  have HB7 := hid (HB6.out.setCell (p := ⟨g, 0, none⟩) HG.out (.int .u8 (6 : Nat)))
  have HG5 := hid hg
  have HB56 := hid hb56
  clear hA hown hqa hq' hb' hb56 hg
  have hx1 : bits .xor .u8 7 1 = 6 := by decide
  have hx2 : bits .xor .u8 155 77 = 214 := by decide
  have c4 : (w6.setCell ⟨g, 0, none⟩ (.int .u8 6)).cell? ⟨g, 4, none⟩ = some (.int .u8 155) := HBF1.out.at 4 (by simp)
  have f4 : (w6.setCell ⟨g, 0, none⟩ (.int .u8 6)).frozen? ⟨g, 4, none⟩ = false := HBF1.out.2 4 (by simp)
  have HBF2 : Hid (bufB ((w6.setCell ⟨g, 0, none⟩ (.int .u8 6)).setCell ⟨g, 4, none⟩ (.int .u8 214)) g [6, 9, 67, 35, 214, 245]) := HBF1.out.set 4 214 (by simp)
  have HB8 : Hid (Below w.heap.size w ((w6.setCell ⟨g, 0, none⟩ (.int .u8 6)).setCell ⟨g, 4, none⟩ (.int .u8 214))) := HB7.out.setCell (p := ⟨g, 4, none⟩) HG.out (.int .u8 214)
  have h58 : Below w5.heap.size w5 ((w6.setCell ⟨g, 0, none⟩ (.int .u8 6)).setCell ⟨g, 4, none⟩ (.int .u8 214)) := (HB56.out.setCell (p := ⟨g, 0, none⟩) HG5.out (.int .u8 6)).setCell (p := ⟨g, 4, none⟩) HG5.out (.int .u8 214)
  have HR8 := hid (HR5.out.below h58)
  have HC8 := hid (HC.out.below h58)
  have HMe := hid (sol_Mend c b 6 2 (some ⟨g, 0, none⟩) cap [6, 9, 67, 35, 214, 245] none 0 [] _ HR8.out (by omega) (by omega) (by omega) HBF2.out.1 (by intro x hx; simp at hx; omega) (by simp) (cellsZ.nil _ _) (by simp))
  clear HBF1 HB7 hbuf h58 HG HG5 HB56 HR5 HC HB5 HB6 HBF2 HR6 HC6
  go_wp2_with ((with_reducible refine wpList_unguard ?_ ?_); (focus rfl))
  generalize ((w6.setCell ⟨g, 0, none⟩ (.int .u8 6)).setCell ⟨g, 4, none⟩ (.int .u8 214)) = w8 at *
  refine Calls.mono HMe.out ?_; rintro e w9 ⟨hb, hm⟩
  obtain ⟨p9, c9, q9, d9, rfl, hl1, hl2, hc1, hc2⟩ := hm.2.2 ⟨rfl, by simp⟩ [7, 9, 67, 35, 155, 245] (by rw [era7_ex]; exact mend7_ex)
  rw [unk7_ex] at hl2 hc2 ⊢
  have HB9 := hid (HB8.out.trans (hb.mono HB8.out.size))
  have HC9 := hid (HC8.out.below hb)
  have HX := hid hc1
  have HY := hid hc2.z
  clear hm hb hc1 hc2 HMe HB8 HC8 HR8
  have hs1 := conv_str HX.out 6 c9 rfl
  have hs2 := conv_str HC9.out 6 d rfl
  have hSm := hid (ref01_Same q9 (some ⟨w9.heap.size, 0, none⟩) 2 2 d9 2 [0, 4] [0, 4] (w9.alloc (.cells #[.int .i64 0, .int .i64 4] 3)) rfl rfl (HY.out.below ((Below.refl _ _).alloc (Nat.le_refl _) _)) (cellsZ.new w9 [0, 4] _ _ rfl) (by simp) (by simp))
  have HBa := hid (HB9.out.alloc HB9.out.size (.cells #[.int .i64 0, .int .i64 4] 3))
  go_wp2_with ((with_reducible refine wpList_unguard ?_ ?_); (focus rfl))
  refine Calls.mono hSm.out ?_; rintro e w10 ⟨rfl, hb⟩
  have HB10 := hid (HBa.out.trans (hb.mono HBa.out.size))
  clear hSm hb
  go_wp2_with ((with_reducible refine wpList_unguard ?_ ?_); (focus rfl))
  go_ret
  exact ⟨rfl, HB10.out⟩
set_option maxHeartbeats 2000000 in
set_option maxRecDepth 100000 in
theorem solveNone.walk (a0 : Option Addr) (len0 cap0 : Nat) (l0 : List Nat) (a1 : Int) (w : World) (w0 : IsBytes w a0 len0 cap0 l0) (w1 : (Lit.int .i64 a1).wf = true) :
    Calls Try.prog 8 #[.slice a0 len0 cap0, .int .i64 a1] w fun e w' => e = .returned (.bool true) ∧ Below w.heap.size w w' := by
  clear w0
  (go_enter Try.func8, Try.ntmps8; try simp only [List.append])
  go_wp2_with ((with_reducible refine wpList_unguard ?_ ?_); (focus rfl))
  (refine Calls.mono (law07_awake _) ?_; rintro e w2 ⟨rfl, hbA⟩; have HBA := hid hbA; clear hbA)
  go_wp2_with ((with_reducible refine wpList_unguard ?_ ?_); (focus rfl))
  have h1 := hid (sol_Mend_nil a0 len0 cap0 (.slice none 0 0) w2)
  refine Calls.mono h1.out ?_; rintro e w3 ⟨rfl, hb⟩
  have HB3 := hid (HBA.out.trans (hb.mono HBA.out.size))
  have h2 := hid (sol_Within_nil a1 0 w3 (rs_Size_nil w3))
  clear hb h1 HBA
  go_wp2_with ((with_reducible refine wpList_unguard ?_ ?_); (focus rfl))
  refine Calls.mono h2.out ?_; rintro e w' ⟨rfl, rfl⟩
  go_wp2_with ((with_reducible refine wpList_unguard ?_ ?_); (focus rfl))
  go_ret
  exact ⟨rfl, HB3.out⟩
end Go.Proofs.Ytgckhekikcdaiaa

namespace Go.Proofs.Ytgckhekikcdaiaa
open Go.ChangeShapes Go.WideShapes Go.ChangeAt Go.RowKit

def IsInts (w : World) (a : Option Addr) (len cap : Nat) (l : List Int) : Prop :=
  len = l.length ∧ len ≤ cap ∧ cap ≤ 140737488351232 ∧ cellsZ w a l ∧ ∀ x ∈ l, -9223372036854775808 ≤ x ∧ x ≤ 9223372036854775807
theorem open_intsZ {H : Type} {enc : TypeId × Value → H} {W : World} {base t e j len cap : Nat} {a : Option Addr} {d : DataW H} {p : List MemPlace} {ts : List TypeId} {ds : List (DataW H)}
    (hsz : (DataW.weightsEach Try.prog ts ds).all (· ≤ reachBytes) = true) (ht : ts[j]? = some t) (hd : ds[j]? = some d)
    (hu : Try.prog.underlying t = some (.slice e)) (he : Try.prog.underlying e = some (.int .i64)) (hc : Try.prog.cellsOf e = 1) (hb : Try.prog.bytesOf e = 8)
    (h : DataW.Trod enc Try.prog W base (fun _ => true) true t (.slice a len cap) d p) : ∃ l, IsInts W a len cap l := by
  obtain ⟨fuel, hf⟩ := h
  rcases open_ints hu he hc hf with ⟨hcs, _⟩ | ⟨x, l, c, zs, hcs, _, hl, hm, hz, hx, hcell, hw⟩
  · simp [Value.cells] at hcs
    obtain ⟨rfl, rfl, rfl⟩ := hcs
    exact ⟨[], rfl, Nat.le_refl _, by omega, cellsZ.nil _ _, by simp⟩
  · simp [Value.cells] at hcs
    obtain ⟨rfl, rfl, rfl⟩ := hcs
    simp only [if_true] at hz
    simp only [Prod.mk.injEq] at hx
    obtain ⟨rfl, -⟩ := hx
    have h1 := sized_slice hsz ht hd hu
    simp only [lits, List.length_map, List.length_take, List.length_drop, hb, reachBytes] at h1
    refine ⟨zs.take len, by rw [List.length_take]; omega, hl, by omega, ?_, ?_⟩
    · intro i hi
      rw [List.length_take] at hi
      have hi' : i < zs.length := by omega
      obtain ⟨hx1, hx2⟩ := spot_add (hcell 0 (by omega)) (hcell i hi')
      refine ⟨_, _, congrArg some hx1, ?_⟩
      rw [hx2, List.getD_eq_getElem?_getD, List.getD_eq_getElem?_getD, List.getElem?_take, if_pos (by omega)]
    · intro y hy
      have := bounds_i64 (hw y (List.mem_of_mem_take hy))
      omega
end Go.Proofs.Ytgckhekikcdaiaa

namespace Go.Proofs.Ytgckhekikcdaiaa
open Go.ChangeShapes Go.WideShapes Go.ChangeAt Go.RowKit

/-- The type of the i-th cell of a value of a type. -/
def leafAt (P : Program) : Nat → TypeId → Nat → Option TypeId
  | 0, _, _ => none
  | f + 1, t, i =>
    match P.underlying t with
    | some (.struct fs) => fs.toList.findSome? fun fd => if fd.offset ≤ i ∧ i < fd.offset + P.cellsOf fd.type then leafAt P f fd.type (i - fd.offset) else none
    | some (.array n e) => if P.cellsOf e ≠ 0 ∧ i / P.cellsOf e < n then leafAt P f e (i % P.cellsOf e) else none
    | some _ => if i = 0 ∧ P.cellsOf t = 1 then some t else none
    | none => none

section
variable {H : Type} {enc : TypeId × Value → H} {P : Program} {w : World} {base : Nat} {spare : Nat → Bool} {held : Bool}
theorem drop_take_one {α : Type} (l : List α) (o s i : Nat) (h1 : o ≤ i) (h2 : i < o + s) : (((l.drop o).take s).drop (i - o)).take 1 = (l.drop i).take 1 := by
  rw [List.drop_take, List.take_take, List.drop_drop]
  congr 1
  · omega
  · congr 1; omega
theorem trod_leaf : ∀ (f : Nat) (t : TypeId) (i : Nat) (e : TypeId), leafAt P f t i = some e → ∀ (fuel : Nat) (cs : List Value) (x : DataW H × List MemPlace), cs.length ≤ P.cellsOf t →
    DataW.trod enc P w base spare held fuel t cs = some x → ∃ m y, DataW.trod enc P w base spare held m e ((cs.drop i).take 1) = some y := by
  intro f
  induction f with
  | zero => intro t i e h; simp [leafAt] at h
  | succ f ih =>
    intro t i e h fuel cs x hlen hx
    unfold leafAt at h
    cases hu : P.underlying t with
    | none => rw [hu] at h; cases h
    | some d =>
      rw [hu] at h
      have hleaf : (if i = 0 ∧ P.cellsOf t = 1 then some t else none) = some e → ∃ m y, DataW.trod enc P w base spare held m e ((cs.drop i).take 1) = some y := by
        intro h9
        split at h9
        · rename_i hi
          obtain ⟨rfl, h1⟩ := hi
          obtain rfl := Option.some.inj h9
          refine ⟨fuel, x, ?_⟩
          rw [List.drop_zero, List.take_of_length_le (by omega)]
          exact hx
        · cases h9
      cases d with
      | struct fs =>
        obtain ⟨xs, n, _, _, hl, _, hf⟩ := DataW.trod_struct hu hx
        obtain ⟨fd, hfd, hr⟩ := List.exists_of_findSome?_eq_some h
        split at hr
        · rename_i ho
          obtain ⟨j, hj⟩ := List.getElem?_of_mem hfd
          have hj' : fs[j]? = some fd := by rw [← Array.getElem?_toList]; exact hj
          have hjx := hf j fd hj'
          have hjl : j < xs.length := by
            have := (List.getElem?_eq_some_iff.1 hj).1
            simp only [Array.length_toList] at this
            omega
          rw [List.getElem?_eq_getElem hjl] at hjx
          obtain ⟨m, y, hm⟩ := ih fd.type (i - fd.offset) e hr n _ _ (List.length_take_le _ _) hjx
          rw [drop_take_one _ _ _ _ ho.1 ho.2] at hm
          exact ⟨m, y, hm⟩
        · cases hr
      | array n e0 =>
        obtain ⟨xs, m0, _, _, hl, hxl, hf⟩ := DataW.trod_array hu hx
        simp only at h
        split at h
        · rename_i ho
          have hjx := hf (i / P.cellsOf e0) ho.2
          rw [List.getElem?_eq_getElem (by omega)] at hjx
          obtain ⟨m, y, hm⟩ := ih e0 (i % P.cellsOf e0) e h m0 _ _ (List.length_take_le _ _) hjx
          have hdm := Nat.div_add_mod i (P.cellsOf e0)
          have hml := Nat.mod_lt i (Nat.pos_of_ne_zero ho.1)
          have e1 : i % P.cellsOf e0 = i - i / P.cellsOf e0 * P.cellsOf e0 := by rw [Nat.mul_comm]; omega
          rw [e1, drop_take_one _ _ _ _ (by rw [Nat.mul_comm]; omega) (by rw [Nat.mul_comm]; omega)] at hm
          exact ⟨m, y, hm⟩
        · cases h
      | _ => exact hleaf h
end
def isIntB (d : Option TypeDesc) (k : IntKind) : Bool := match d with | some (.int k') => decide (k' = k) | _ => false
theorem isIntB_eq {d : Option TypeDesc} {k : IntKind} (h : isIntB d k = true) : d = some (.int k) := by
  unfold isIntB at h
  split at h
  · rw [of_decide_eq_true h]
  · cases h
/-- A value of cells that are told one by one: ints of their kinds. -/
theorem open_agg {H : Type} {enc : TypeId × Value → H} {P : Program} {W : World} {base t : Nat} {v : Value} {d : DataW H} {p : List MemPlace} (ks : List (TypeId × IntKind)) (hagg : (match P.underlying t with | some (.struct _) | some (.array _ _) => true | _ => false) = true)
    (hc : P.cellsOf t = ks.length) (hks : (List.range ks.length).all (fun i => decide (leafAt P 6 t i = (ks[i]?).map (·.1))) = true) (hku : ks.all (fun k => isIntB (P.underlying k.1) k.2) = true)
    (hv : Value.okWide P W .any base t v) (h : DataW.Trod enc P W 0 (fun _ => true) true t v d p) :
    ∃ l : List Int, l.length = ks.length ∧ v = .agg ((List.zipWith (fun k x => Value.int k.2 x) ks l)).toArray ∧ ∀ (i : Nat) (k : TypeId × IntKind) (x : Int), ks[i]? = some k → l[i]? = some x → (Lit.int k.2 x).wf = true := by
  have hv' : ∃ cs, v = Value.agg cs ∧ cs.size = P.cellsOf t ∧ Row.okWide P W .any base t cs := by
    unfold Value.okWide at hv
    split at hagg
    · rename_i hu; rw [hu] at hv; exact hv
    · rename_i hu; rw [hu] at hv; exact hv
    · cases hagg
  obtain ⟨cs, rfl, hsz, -⟩ := hv'
  obtain ⟨fuel, hf⟩ := h
  have hl : (Value.cells (.agg cs)).toList = cs.toList := rfl
  rw [hl] at hf
  have key : ∀ (i : Nat) (k : TypeId × IntKind), ks[i]? = some k → ∃ x : Int, cs.toList[i]? = some (Value.int k.2 x) ∧ (Lit.int k.2 x).wf = true := by
    intro i k hk
    have hi : i < ks.length := (List.getElem?_eq_some_iff.1 hk).1
    have h1 := List.all_eq_true.1 hks i (List.mem_range.2 hi)
    rw [decide_eq_true_eq, hk] at h1
    obtain ⟨m, y, hm⟩ := trod_leaf 6 t i k.1 h1 fuel cs.toList _ (by rw [Array.length_toList]; omega) hf
    have h2 := List.all_eq_true.1 hku k (List.mem_of_getElem? hk)
    obtain ⟨x, e, _, hw⟩ := DataW.trod_int (isIntB_eq h2) hm
    refine ⟨x, ?_, hw⟩
    have hi' : i < cs.toList.length := by rw [Array.length_toList]; omega
    rw [List.drop_eq_getElem_cons hi'] at e
    simp only [List.take_succ_cons, List.take_zero, List.cons.injEq, and_true] at e
    rw [List.getElem?_eq_getElem hi', e]
  obtain ⟨c⟩ := cs
  simp only [List.size_toArray] at hsz
  simp only at key
  clear hf hl hks hku hv hagg
  have hlen : c.length = ks.length := by omega
  clear hsz hc
  induction ks generalizing c with
  | nil => exact ⟨[], rfl, by cases c <;> simp at hlen ⊢, by simp⟩
  | cons k ks ih =>
    cases c with
    | nil => simp at hlen
    | cons u c =>
      obtain ⟨x, hx, hw⟩ := key 0 k rfl
      simp only [List.getElem?_cons_zero, Option.some.injEq] at hx
      subst hx
      obtain ⟨l, h1, h2, h3⟩ := ih c (fun i k' hk' => key (i + 1) k' (by simpa using hk')) (by simpa using hlen)
      refine ⟨x :: l, by simp [h1], ?_, ?_⟩
      · simp only [Value.agg.injEq, Array.mk.injEq] at h2 ⊢
        simp [h2]
      · intro i k' x' hk' hx'
        cases i with
        | zero => simp at hk' hx'; subst hk'; subst hx'; exact hw
        | succ i => simp at hk' hx'; exact h3 i k' x' hk' hx'
/-- What open_agg asks of a type. -/
def aggOf (P : Program) (t : TypeId) (ks : List (TypeId × IntKind)) : Bool :=
  (match P.underlying t with | some (.struct _) | some (.array _ _) => true | _ => false) && (decide (P.cellsOf t = ks.length) && ((List.range ks.length).all (fun i => decide (leafAt P 6 t i = (ks[i]?).map (·.1))) && ks.all (fun k => isIntB (P.underlying k.1) k.2)))
theorem open_aggs {H : Type} {enc : TypeId × Value → H} {P : Program} {W : World} {base t : Nat} {v : Value} {d : DataW H} {p : List MemPlace} (ks : List (TypeId × IntKind)) (hk : aggOf P t ks = true)
    (hv : Value.okWide P W .any base t v) (h : DataW.Trod enc P W 0 (fun _ => true) true t v d p) :
    ∃ l : List Int, l.length = ks.length ∧ v = .agg ((List.zipWith (fun k x => Value.int k.2 x) ks l)).toArray ∧ ∀ (i : Nat) (k : TypeId × IntKind) (x : Int), ks[i]? = some k → l[i]? = some x → (Lit.int k.2 x).wf = true := by
  unfold aggOf at hk
  rw [Bool.and_eq_true, Bool.and_eq_true, Bool.and_eq_true] at hk
  exact open_agg ks hk.1 (of_decide_eq_true hk.2.1) hk.2.2.1 hk.2.2.2 hv h
theorem list4g {l : List Int} (h : l.length = 4) : ∃ a b c d, l = [a, b, c, d] := by
  match l, h with
  | [a, b, c, d], _ => exact ⟨a, b, c, d, rfl⟩
set_option linter.constructorNameAsVariable false in
set_option maxRecDepth 1000000 in
/-- Four ints (a record). -/
theorem open_i4 {H : Type} {enc : TypeId × Value → H} {W : World} {base t : Nat} {v : Value} {d : DataW H} {p : List MemPlace} (hk : aggOf Try.prog t [(3, .i64), (3, .i64), (3, .i64), (3, .i64)] = true)
    (hv : Value.okWide Try.prog W .any base t v) (h : DataW.Trod enc Try.prog W 0 (fun _ => true) true t v d p) :
    ∃ a b c e : Int, v = .agg #[.int .i64 a, .int .i64 b, .int .i64 c, .int .i64 e] ∧ (Lit.int .i64 a).wf = true ∧ (Lit.int .i64 b).wf = true ∧ (Lit.int .i64 c).wf = true ∧ (Lit.int .i64 e).wf = true := by
  have key := open_aggs (P := Try.prog) (t := t) (v := v) (W := W) (base := base) (enc := enc) (d := d) (p := p) _ hk

  have key2 := key hv
  have key3 := key2 h
  obtain ⟨l, hl, rfl, hw⟩ := key3
  obtain ⟨a, b, c, e, rfl⟩ := list4g hl
  have h0 := hw 0 (3, .i64) a; have h1 := hw 1 (3, .i64) b; have h2 := hw 2 (3, .i64) c; have h3 := hw 3 (3, .i64) e
  simp only [List.getElem?_cons_zero, List.getElem?_cons_succ, forall_const] at h0 h1 h2 h3
  exact ⟨a, b, c, e, rfl, h0, h1, h2, h3⟩
theorem list13 {l : List Int} (h : l.length = 13) : ∃ a b c d e f g i j k m n o, l = [a, b, c, d, e, f, g, i, j, k, m, n, o] := by
  match l, h with
  | [a, b, c, d, e, f, g, i, j, k, m, n, o], _ => exact ⟨a, b, c, d, e, f, g, i, j, k, m, n, o, rfl⟩
set_option linter.constructorNameAsVariable false in
set_option maxRecDepth 1000000 in
/-- Thirteen ints (what is known of the slots). -/
theorem open_i13 {H : Type} {enc : TypeId × Value → H} {W : World} {base t : Nat} {v : Value} {d : DataW H} {p : List MemPlace} (hk : aggOf Try.prog t (List.replicate 13 (3, .i64)) = true)
    (hv : Value.okWide Try.prog W .any base t v) (h : DataW.Trod enc Try.prog W 0 (fun _ => true) true t v d p) :
    ∃ a b c d e f g i j k m n o : Int, v = .agg #[.int .i64 a, .int .i64 b, .int .i64 c, .int .i64 d, .int .i64 e, .int .i64 f, .int .i64 g, .int .i64 i, .int .i64 j, .int .i64 k, .int .i64 m, .int .i64 n, .int .i64 o] := by
  obtain ⟨l, hl, rfl, hw⟩ := open_aggs (P := Try.prog) (t := t) (v := v) (W := W) (base := base) (enc := enc) (d := d) (p := p) _ hk hv h
  obtain ⟨a, b, c, d, e, f, g, i, j, k, m, n, o, rfl⟩ := list13 (by simpa using hl)
  exact ⟨a, b, c, d, e, f, g, i, j, k, m, n, o, rfl⟩
end Go.Proofs.Ytgckhekikcdaiaa
