/-
  SolveAgain, walked: what is mended is right, and mended again it stays, with the same places erased in any order.
-/
import Derived.Test.YtgckhekikcdaiaaPak13
import Derived.Test.YtgckhekikcdaiaaPak14
import Derived.Test.YtgckhekikcdaiaaPak8
namespace Tri
open Go.Proofs.Ytgckhekikcdaiaa
/-- A list turned round, each number twice. -/
def backL (l : List Int) : List Int := l.reverse.flatMap fun x => [x, x]
def backTo (l : List Int) (j : Nat) : List Int := (l.reverse.take j).flatMap fun x => [x, x]
theorem backTo_all (l : List Int) : backTo l l.length = backL l := by unfold backTo backL; rw [List.take_of_length_le (by simp)]
theorem backTo_succ (l : List Int) (j : Nat) (h : j < l.length) : backTo l (j + 1) = backTo l j ++ [l.getD (l.length - 1 - j) 0, l.getD (l.length - 1 - j) 0] := by
  have h' : j < l.reverse.length := by simpa using h
  have e : l.reverse[j] = l.getD (l.length - 1 - j) 0 := by
    rw [List.getElem_reverse, List.getD_eq_getElem?_getD, List.getElem?_eq_getElem (by omega)]; rfl
  unfold backTo
  rw [List.take_succ_eq_append_getElem h', List.flatMap_append, e]
  rfl
theorem backTo_length (l : List Int) : ∀ j, j ≤ l.length → (backTo l j).length = 2 * j
  | 0, _ => rfl
  | j + 1, h => by rw [backTo_succ l j (by omega), List.length_append, backTo_length l j (by omega)]; simp; omega
theorem backL_mem (l : List Int) (x : Int) : x ∈ backL l ↔ x ∈ l := by
  unfold backL
  rw [List.mem_flatMap]
  constructor
  · rintro ⟨a, ha, hx⟩
    simp at hx
    subst hx
    simpa using ha
  · intro h
    exact ⟨x, by simpa using h, by simp⟩
theorem eraZ_back {l : List Int} (h : ∀ x ∈ l, 0 ≤ x) : eraZ (backL l) = eraZ l := by
  have h' : ∀ x ∈ backL l, 0 ≤ x := fun x hx => h x ((backL_mem l x).1 hx)
  exact sorted_ext (eraZ_sorted h') (eraZ_sorted h) fun i => by rw [eraZ_mem h', eraZ_mem h, backL_mem]
theorem byR_some {n p : Nat} {word E o : List Nat} {mny : Int} {loc : List Nat} (h : byR n p word E mny loc = some o) (hb : bytesL word) : ¬ p < E.length ∧ rightB o p = true ∧ o.length = word.length ∧ bytesL o := by
  unfold byR at h
  split at h
  · cases h
  · rename_i h1
    split at h
    · rename_i h2
      cases h
      exact ⟨h1, h2, rfl, hb⟩
    · split at h
      · cases h
      · rename_i o' hm
        split at h
        · rename_i h3
          cases h
          exact ⟨h1, h3, mendL_keeps hm hb⟩
        · cases h
theorem byR_right {n p : Nat} {word E : List Nat} (mny : Int) (loc : List Nat) (h1 : ¬ p < E.length) (h2 : rightB word p = true) : byR n p word E mny loc = some word := by
  unfold byR
  rw [if_neg h1, if_pos h2]
/-- What Mend tells, in one: whether it is asked rightly; the word, the places, the error. -/
def goodB (n : Nat) (word : List Nat) (er : List Int) : Bool := decide (word.length = n) && er.all fun x => decide (0 ≤ x ∧ x < (n : Int))
theorem goodB_iff {n : Nat} {word : List Nat} {er : List Int} : goodB n word er = true ↔ word.length = n ∧ ∀ x ∈ er, 0 ≤ x ∧ x < (n : Int) := by
  unfold goodB
  rw [Bool.and_eq_true, decide_eq_true_eq, List.all_eq_true]
  exact and_congr_right fun _ => forall_congr' fun x => imp_congr_right fun _ => decide_eq_true_iff
def outX (g : Bool) (R : Option (List Nat)) : Int := match g, R with
  | false, _ => 1
  | true, none => 8
  | true, some _ => 0
def outO (g : Bool) (R : Option (List Nat)) : List Nat := match g, R with
  | true, some o => o
  | _, _ => []
def outU (n : Nat) (word : List Nat) (g : Bool) (R : Option (List Nat)) : List Nat := match g, R with
  | true, some o => unkL word o n
  | _, _ => []
end Tri
namespace Go.Proofs.Ytgckhekikcdaiaa
open Go.RowKit Tri

def MendU (n : Nat) (word : List Nat) (g : Bool) (R : Option (List Nat)) (e : Ending) (w' : World) : Prop :=
  ∃ p c p' c', e = .returned (.tuple #[.slice p (outO g R).length c, .slice p' (outU n word g R).length c', .int .i64 (outX g R)]) ∧ (outO g R).length ≤ c ∧ (outU n word g R).length ≤ c' ∧ cellsB w' p (outO g R) ∧ cellsI w' p' (outU n word g R)
theorem MendP.uni {n k : Nat} {word : List Nat} {er : List Int} {R : Option (List Nat)} {e : Ending} {w' : World} (h : MendP n k word er R e w') : MendU n word (goodB n word er) R e w' := by
  cases hg : goodB n word er with
  | false =>
    have hn : ¬ (word.length = n ∧ ∀ x ∈ er, 0 ≤ x ∧ x < (n : Int)) := fun h => by rw [goodB_iff.2 h] at hg; cases hg
    exact ⟨none, 0, none, 0, h.1 hn, Nat.le_refl _, Nat.le_refl _, cellsB.nil _ _, cellsI.nil _ _⟩
  | true =>
    have hn := goodB_iff.1 hg
    cases R with
    | none => exact ⟨none, 0, none, 0, h.2.1 hn rfl, Nat.le_refl _, Nat.le_refl _, cellsB.nil _ _, cellsI.nil _ _⟩
    | some o =>
      obtain ⟨p, c, p', c', h1, h2, h3, h4, h5⟩ := h.2.2 hn o rfl
      exact ⟨p, c, p', c', h1, h2, h3, h4, h5⟩
theorem outO_le {n p : Nat} {word E : List Nat} {mny : Int} {loc : List Nat} (hb : bytesL word) (g : Bool) (m : Nat) (hm : word.length ≤ m) : (outO g (byR n p word E mny loc)).length ≤ m := by
  cases g with
  | false => exact Nat.zero_le _
  | true =>
    cases h : byR n p word E mny loc with
    | none => exact Nat.zero_le _
    | some o => have := (byR_some h hb).2.2.1; show o.length ≤ m; omega
theorem outU_le (n : Nat) (word : List Nat) (g : Bool) (R : Option (List Nat)) : (outU n word g R).length ≤ n := by
  cases g with
  | false => exact Nat.zero_le _
  | true =>
    cases R with
    | none => exact Nat.zero_le _
    | some o => exact unkL_len _ _ _
theorem wpList_pushZ2 {P : Program} {wr : World} {ops : Array Oper} {rest : List Oper} {o : Oper} {a : Act} {Q : Exit → Act → World → Prop} (hgd : o.guard = none) (s x : Operand) (t : TypeId)
    (ho : o.op = .call { callee := .builtin .append, args := #[s, x], argTypes := #[t, t] })
    (base : Nat) (i : TypeInfo) (ht : P.underlying t = some (.slice 3)) (hi : P.info? 3 = some i) (hz : i.zero = some (.int .i64 0))
    (hsize : i.size = 1) (hby : i.bytes = 8)
    (v : Value) (l : List Int) (y z : Int) (hown : rowZ wr base v l) (hs : a.eval s = v)
    (g : Nat) (hx : a.eval x = .slice (some ⟨g, 0, none⟩) 2 2) (hg : g = wr.heap.size) (hlen : l.length ≤ 1000000) (hbase : base ≤ wr.heap.size)
    (h : ∀ v' w', rowZ w' base v' (l ++ [y, z]) → Below base wr w' → wpList P ops Q rest (a.put o.dst v') w') :
    wpList P ops Q (o :: rest) a (wr.alloc (.cells #[.int .i64 y, .int .i64 z] 3)) := by
  subst hg
  refine wpList_append_own (wr.alloc (.cells #[.int .i64 y, .int .i64 z] 3)) hgd s x t ho base 3 i (.int .i64 0) 1 8 ht hi hz hsize hby rfl (by decide) v l.length (l.map fun x => Value.int .i64 x) hs (World.ownsRow.alloc hown _)
    ⟨wr.heap.size, 0, none⟩ 2 2 [Value.int .i64 y, Value.int .i64 z] hx rfl ?_ ?_ ?_ ?_ ?_ ?_
  · intro j u hj
    match j with
    | 0 =>
      simp only [List.getElem?_cons_zero, Option.some.injEq] at hj
      subst hj
      exact World.cell?_alloc_new wr #[.int .i64 y, .int .i64 z] 3 0
    | 1 =>
      simp only [List.getElem?_cons_succ, List.getElem?_cons_zero, Option.some.injEq] at hj
      subst hj
      exact World.cell?_alloc_new wr #[.int .i64 y, .int .i64 z] 3 1
    | j + 2 => simp at hj
  · intro u hu; simp only [List.mem_cons, List.not_mem_nil, or_false] at hu; rcases hu with rfl | rfl <;> rfl
  · unfold maxLen; omega
  · omega
  · simp; omega
  · intro v' w' h2 h3 _
    refine h v' w' ?_ ?_
    · unfold rowZ; rw [List.length_append, List.map_append]; exact h2
    · have hb0 : Below base wr (wr.alloc (.cells #[.int .i64 y, .int .i64 z] 3)) := ((Below.refl _ _).alloc (Nat.le_refl _) _).mono hbase
      refine hb0.grown h3 (by simp; omega) ?_
      intro b hb
      rcases hown.2 with ⟨h4, _⟩ | ⟨g', cap, cur, h4, h5, _⟩
      · rw [h4] at hb; simp [Value.ownBlock] at hb
      · rw [h4] at hb; simp only [Value.ownBlock, Option.some.injEq] at hb; omega
theorem rowZ.belowO {w w' : World} {base : Nat} {v : Value} {l : List Int} (h : rowZ w base v l) (hb : Below w.heap.size w w') : rowZ w' base v l := by
  unfold rowZ at *
  rcases h.2 with ⟨h1, h2⟩ | ⟨g, cap, cur, h1, h2, h3, h4⟩
  · exact ⟨h.1, .inl ⟨h1, h2⟩⟩
  · exact ⟨h.1, .inr ⟨g, cap, cur, h1, h2, (hb.block g (Array.getElem?_eq_some_iff.1 h3).1).trans h3, h4⟩⟩
set_option maxHeartbeats 4000000 in
set_option maxRecDepth 100000 in
theorem solveAgain.walk (a0 : Int) (a1 : Int) (a2 : Option Addr) (len2 cap2 : Nat) (l2 : List Nat) (b2 : Option Addr) (lem2 caq2 : Nat) (m2 : List Int) (w : World) (w0 : (Lit.int .i64 a0).wf = true) (w1 : (Lit.int .i64 a1).wf = true) (w2 : IsBytes w a2 len2 cap2 l2 ∧ IsInts w b2 lem2 caq2 m2) :
    Calls Try.prog 6 #[.int .i64 a0, .int .i64 a1, .agg #[.slice a2 len2 cap2, .slice b2 lem2 caq2]] w fun e w' => e = .returned (.bool true) ∧ Below w.heap.size w w' := by
  obtain ⟨⟨hn, hlc, hcap, hS, hss⟩, hn1, hlc1, hcap1, hS1, hss1⟩ := w2
  subst hn hn1
  have HS := hid hS
  have HB : Hid (bytesL l2) := hid hss
  have HS1 := hid hS1
  have hb0 := bounds_i64 w0
  have hb1 := bounds_i64 w1
  clear hS hss w0 w1 hS1 hss1
  (go_enter Try.func6, Try.ntmps6; try simp only [List.append])
  go_wp2_with ((with_reducible refine wpList_unguard ?_ ?_); (focus rfl))
  have hBx := hid (show Below w.heap.size w (w.alloc (.cells #[.slice a2 l2.length cap2, .slice b2 m2.length caq2] 50)) from (Below.refl _ _).alloc (Nat.le_refl _) _)
  have HX0 := hid (Blk.new w 50 #[.slice a2 l2.length cap2, .slice b2 m2.length caq2])
  generalize w.alloc (.cells #[.slice a2 l2.length cap2, .slice b2 m2.length caq2] 50) = wx at *
  refine Calls.mono (law07_awake wx) ?_; rintro e w3 ⟨rfl, hbA⟩
  have HX3 := hid (HX0.out.below hbA)
  have HBA := hid (hBx.out.trans (hbA.mono hBx.out.size))
  clear hbA hBx HX0
  obtain ⟨xb, hxb⟩ : ∃ xb, w.heap.size = xb := ⟨_, rfl⟩
  rw [hxb] at HX3 ⊢
  clear hxb
  go_wp2_with ((with_reducible refine wpList_unguard ?_ ?_); (focus rfl))
  refine Calls.mono (ref6_There a0 a1 w3 ⟨hb0.1, by omega⟩ ⟨hb1.1, by omega⟩) ?_; rintro e w' ⟨rfl, rfl⟩
  cases hth : thereB a0 a1 with
  | false =>
    go_wp2_with ((with_reducible refine wpList_unguard ?_ ?_); (focus rfl))
    go_ret
    exact ⟨rfl, HBA.out⟩
  | true =>
    have hthr : 1 ≤ a1 ∧ a1 < a0 ∧ a0 ≤ 255 ∧ a0 - a1 ≤ 64 := of_decide_eq_true hth
    obtain ⟨t1, t2, t3, t4⟩ := hthr
    obtain ⟨n, rfl⟩ : ∃ n : Nat, a0 = n := ⟨a0.toNat, by omega⟩
    obtain ⟨k, rfl⟩ : ∃ k : Nat, a1 = k := ⟨a1.toNat, by omega⟩
    clear hth hb0 hb1
    have c0 : w3.cell? ⟨xb, 0, none⟩ = some (.slice a2 l2.length cap2) := HX3.out.cell 0 _ rfl
    have c1 : w3.cell? ⟨xb, 1, none⟩ = some (.slice b2 m2.length caq2) := HX3.out.cell 1 _ rfl
    by_cases hg1 : 300 < l2.length
    · have q1 : decide ((300 : Int) < (l2.length : Int)) = true := decide_eq_true (by omega)
      go_wp2_with ((with_reducible refine wpList_unguard ?_ ?_); (focus rfl))
      go_ret
      exact ⟨rfl, HBA.out⟩
    by_cases hg2 : 60 < m2.length
    · have q1 : decide ((300 : Int) < (l2.length : Int)) = false := decide_eq_false (by omega)
      have q2 : decide ((60 : Int) < (m2.length : Int)) = true := decide_eq_true (by omega)
      go_wp2_with ((with_reducible refine wpList_unguard ?_ ?_); (focus rfl))
      go_ret
      exact ⟨rfl, HBA.out⟩
    have q1 : decide ((300 : Int) < (l2.length : Int)) = false := decide_eq_false (by omega)
    have q2 : decide ((60 : Int) < (m2.length : Int)) = false := decide_eq_false (by omega)
    go_wp2_with ((with_reducible refine wpList_unguard ?_ ?_); (focus rfl))
    clear c0 c1
    refine Calls.mono (gf_NewK w3 w3 (Below.refl _ _)) ?_; rintro e w4 ⟨b, rfl, K0⟩
    have K := hid K0.2
    have HX4 := hid (HX3.out.below K0.1)
    have HB4 := hid (HBA.out.trans (K0.1.mono HBA.out.size))
    clear K0 HX3 HBA q1 q2
    go_wp2_with ((with_reducible refine wpList_unguard ?_ ?_); (focus rfl))
    refine Calls.mono (rs_New b n k w4 K.out (by omega) (by omega) (by omega) (by omega)) ?_
    rintro e w5 ⟨c, rfl, hR, hbel⟩
    have HR := hid hR
    have HX5 := hid (HX4.out.below hbel)
    have HB5 := hid (HB4.out.trans (hbel.mono HB4.out.size))
    have hxw := HX5.out.lt
    clear hR hbel K HX4 HB4
    have c0 : w5.cell? ⟨xb, 0, none⟩ = some (.slice a2 l2.length cap2) := HX5.out.cell 0 _ rfl
    have c1 : w5.cell? ⟨xb, 1, none⟩ = some (.slice b2 m2.length caq2) := HX5.out.cell 1 _ rfl
    have HM1 := hid (sol_Mend c b n k a2 cap2 l2 b2 caq2 m2 w5 HR.out (by omega) (by omega) (by omega) (HS.out.below HB5.out) HB.out (by omega) (HS1.out.below HB5.out) (by omega))
    have hL2n : Hid (∀ g E mny loc, (outO g (byR n (n - k) l2 E mny loc)).length ≤ 300) := fun g E mny loc => outO_le HB.out g 300 (by omega)
    go_wp2_with ((with_reducible refine wpList_unguard ?_ ?_); (focus rfl))
    refine Calls.mono HM1.out ?_; rintro e w6 ⟨hb, hm⟩
    obtain ⟨p1, d1, q1, e1, rfl, hl1, hl2, ho, hu⟩ := hm.uni
    have HO1 := hid ho
    have HU1 := hid hu.z
    have HB6 := hid (HB5.out.trans (hb.mono HB5.out.size))
    have HR6 := hid (HR.out.below hb)
    have HX6 := hid (HX5.out.below hb)
    have hr56 := hb.size
    clear hm hb ho hu HM1 HR HX5 HB5 c0 c1
    have hUl := outU_le n l2 (goodB n l2 m2) (mendW n (n - k) l2 (eraZ m2))
    have hOl : (outO (goodB n l2 m2) (mendW n (n - k) l2 (eraZ m2))).length ≤ 300 := hL2n.out _ _ _ _
    have hgb : Hid (goodB n l2 (backL m2) = goodB n l2 m2 ∧ (goodB n l2 m2 = true → eraZ (backL m2) = eraZ m2)) := by
      refine ⟨?_, fun h => eraZ_back fun x hx => ((goodB_iff.1 h).2 x hx).1⟩
      unfold goodB
      congr 1
      rw [Bool.eq_iff_iff, List.all_eq_true, List.all_eq_true]
      exact ⟨fun h x hx => h x ((backL_mem m2 x).2 hx), fun h x hx => h x ((backL_mem m2 x).1 hx)⟩
    have hThird : Hid (∀ o, goodB n l2 m2 = true → mendW n (n - k) l2 (eraZ m2) = some o → goodB n o m2 = true ∧ mendW n (n - k) o (eraZ m2) = some o ∧ rightB o (n - k) = true ∧ o.length = n ∧ bytesL o) := by
      intro o hg h
      obtain ⟨h1, h2, h3, h4⟩ := byR_some h HB.out
      have h5 := goodB_iff.1 hg
      exact ⟨goodB_iff.2 ⟨by rw [h3]; exact h5.1, h5.2⟩, byR_right _ _ h1 h2, h2, by rw [h3]; exact h5.1, h4⟩
    have c1 : w6.cell? ⟨xb, 1, none⟩ = some (.slice b2 m2.length caq2) := HX6.out.cell 1 _ rfl
    obtain ⟨i0, hi, hz0, hz1, hz2⟩ := info_parts Try.infoZ
    go_wp2_with ((with_reducible refine wpList_unguard ?_ ?_); (focus rfl))
    clear c1
    have HT0 : Hid (backTo m2 0 = []) := rfl
    go_loopw [13, 12] (fun i v wr => ∃ j : Nat, j ≤ m2.length ∧ i = .int .i64 ((m2.length : Int) - 1 - j) ∧ rowZ wr w6.heap.size v (backTo m2 j) ∧ Below w6.heap.size w6 wr) (fun i _ _ => (intOf i + 1).toNat)
    case atStart => exact ⟨0, Nat.zero_le _, by go_num, by rw [HT0.out]; exact rowZ.nil _ _, Below.refl _ _⟩
    case round =>
      obtain ⟨j, hj, rfl, hrow, hb⟩ := hrel
      have HRow := hid hrow
      have HBr := hid hb
      clear hrow hb
      have c1 : wr.cell? ⟨xb, 1, none⟩ = some (.slice b2 m2.length caq2) := (HX6.out.below HBr.out).cell 1 _ rfl
      by_cases hlt : j < m2.length
      · obtain ⟨i, hi2⟩ : ∃ i : Nat, (m2.length : Int) - 1 - j = i := ⟨m2.length - 1 - j, by omega⟩
        have hin : i < m2.length := by omega
        have hinz : (i : Int) < (m2.length : Int) := by omega
        have HSu : Hid (backTo m2 (j + 1) = backTo m2 j ++ [m2.getD i 0, m2.getD i 0]) := by show _ = _; rw [backTo_succ m2 j hlt, show m2.length - 1 - j = i from by omega]
        have hbl := backTo_length m2 j hj
        obtain ⟨bb, oo, rfl, hcl⟩ := (HS1.out.below (HB6.out.trans (HBr.out.mono HB6.out.size))) i hin
        generalize m2.getD i 0 = x at *
        have HI2 : Hid ((m2.length : Int) - 1 - (j + 1 : Nat) = (i : Int) - 1) := by show _ = _; omega
        rw [hi2]
        clear hi2
        go_wp2_with ((with_reducible refine wpList_unguard ?_ ?_); (focus rfl))
        go_upto_region 13 with fail
        (refine wp_region_stg 0 [([0, 1, 2, 3, 4, 5, 6, 7, 8, 9, 10], 11)] [12, 13] (fun u => Below wr.heap.size wr u) (by kernel_rfl) (by kernel_rfl) (by intro t v c a w h; cases t <;> exact h) ((Below.refl _ _).drew) ?_; (simp only [List.take_succ_cons, List.take_zero, List.map_cons, List.map_nil, stOf, opAt, List.getD_cons_zero, List.getD_cons_succ]); (repeat (first | go_big_quiet_skip | (go_big_quiet_want; first | (go_big_quiet_op; go_big_quiet_on) | (apply Exists.intro; refine And.intro (fun wq hq => ?_) ?_; (focus (skip; (try go_simp); first | done | rfl | (fail))); go_simp; go_big_quiet_on)))); refine quietC_nil _ rfl ?_; intro wE hE; unfold wpSt)
        have HE := hid hE
        clear hE
        ((repeat (first | go_big_quiet_skip | (go_big_quiet_want; first | (go_big_quiet_op; go_big_quiet_on) | (apply Exists.intro; refine And.intro (fun wq hq => ?_) ?_; (focus ((have k1 := cell1_keep c1 hq; have kc := cell1_keep hcl hq); (try go_simp); first | done | rfl)); go_simp; go_big_quiet_on)))); refine quietC_nil _ rfl ?_)
        go_wp2_with ((with_reducible refine wpList_unguard ?_ ?_); (focus rfl))
        have hE1 := hid (HE.out.alloc HE.out.size (.cells #[.int .i64 x, .int .i64 x] 3))
        refine ⟨fun u => Below wr.heap.size wr u, fun _ h => h, hE1.out, ?_⟩
        unfold wpSt
        have hbs : w6.heap.size ≤ wE.heap.size := Nat.le_trans HBr.out.size HE.out.size
        have HRE := hid (HRow.out.belowO HE.out)
        go_wp2_with (at_builtin; refine wpList_pushZ2 rfl _ _ 41 rfl w6.heap.size i0 Try.underlying41 hi hz0 hz1 hz2 _ (backTo m2 j) x x HRE.out rfl _ rfl rfl (by omega) hbs ?_)
        intro v' w7 hq hb7
        have HR7 : Hid (rowZ w7 w6.heap.size v' (backTo m2 (j + 1))) := by show rowZ _ _ _ _; rw [HSu.out]; exact hq
        have HB7 := hid ((HBr.out.trans (HE.out.mono HBr.out.size)).trans hb7)
        clear hq hb7 HRE hE1
        go_wp2_with ((with_reducible refine wpList_unguard ?_ ?_); (focus rfl))
        go_roundw
        case rel => exact ⟨j + 1, by omega, by rw [HI2.out], HR7.out, HB7.out⟩
        case measure => simp [intOf]
      · obtain rfl : j = m2.length := by omega
        rw [backTo_all] at HRow
        have hneg : (m2.length : Int) - 1 - (m2.length : Int) = -1 := by omega
        rw [hneg]
        obtain ⟨pB, cB, rfl, hcB, hzB⟩ := HRow.out.cells
        have HZB := hid hzB
        have hBl : (backL m2).length ≤ 120 := by have := backTo_length m2 m2.length (Nat.le_refl _); rw [backTo_all] at this; omega
        have HBw := hid (HB6.out.trans (HBr.out.mono HB6.out.size))
        have HRw := hid (HR6.out.below HBr.out)
        have HXw := hid (HX6.out.below HBr.out)
        have HO1w := hid (HO1.out.below HBr.out)
        have HU1w := hid (HU1.out.below HBr.out)
        have c0 : wr.cell? ⟨xb, 0, none⟩ = some (.slice a2 l2.length cap2) := HXw.out.cell 0 _ rfl
        have HM2 := hid (sol_Mend c b n k a2 cap2 l2 pB cB (backL m2) wr HRw.out (by omega) (by omega) (by omega) (HS.out.below HBw.out) HB.out (by omega) hzB (by omega))
        clear hzB HRow hi hz0 hz1 hz2 HT0 HBr HB6 HR6 HX6 HO1 HU1
        go_wp2_with ((with_reducible refine wpList_unguard ?_ ?_); (focus rfl))
        refine Calls.mono HM2.out ?_; rintro e w7 ⟨hb, hm⟩
        have hm2 := hm.uni
        have HE2 : Hid (outO (goodB n l2 (backL m2)) (mendW n (n - k) l2 (eraZ (backL m2))) = outO (goodB n l2 m2) (mendW n (n - k) l2 (eraZ m2)) ∧ outU n l2 (goodB n l2 (backL m2)) (mendW n (n - k) l2 (eraZ (backL m2))) = outU n l2 (goodB n l2 m2) (mendW n (n - k) l2 (eraZ m2)) ∧ outX (goodB n l2 (backL m2)) (mendW n (n - k) l2 (eraZ (backL m2))) = outX (goodB n l2 m2) (mendW n (n - k) l2 (eraZ m2))) := by
          rw [hgb.out.1]
          cases hg : goodB n l2 m2 with
          | false => exact ⟨rfl, rfl, rfl⟩
          | true => rw [hgb.out.2 hg]; exact ⟨rfl, rfl, rfl⟩
        obtain ⟨p2, d2, q2, e2, rfl, hl3, hl4, ho2, hu2⟩ := hm2
        obtain ⟨x1, x2, x3⟩ := HE2.out
        rw [x1] at hl3 ho2 ⊢
        rw [x2] at hl4 hu2 ⊢
        rw [x3]
        have HO2 := hid ho2
        have HU2 := hid hu2.z
        have HB7 := hid (HBw.out.trans (hb.mono HBw.out.size))
        have HR7 := hid (HRw.out.below hb)
        have HX7 := hid (HXw.out.below hb)
        have HO1 := hid (HO1w.out.below hb)
        have HU1 := hid (HU1w.out.below hb)
        clear hm hb ho2 hu2 HM2 HE2 x1 x2 x3 hgb c0 c1 HBw HRw HXw HO1w HU1w HZB
        have H3 : Hid (outX (goodB n l2 m2) (mendW n (n - k) l2 (eraZ m2)) = 0 → MendU n (outO (goodB n l2 m2) (mendW n (n - k) l2 (eraZ m2))) (goodB n (outO (goodB n l2 m2) (mendW n (n - k) l2 (eraZ m2))) m2) (mendW n (n - k) (outO (goodB n l2 m2) (mendW n (n - k) l2 (eraZ m2))) (eraZ m2)) = MendU n (outO (goodB n l2 m2) (mendW n (n - k) l2 (eraZ m2))) true (some (outO (goodB n l2 m2) (mendW n (n - k) l2 (eraZ m2)))) ∧ rightB (outO (goodB n l2 m2) (mendW n (n - k) l2 (eraZ m2))) (n - k) = true ∧ (outO (goodB n l2 m2) (mendW n (n - k) l2 (eraZ m2))).length = n ∧ bytesL (outO (goodB n l2 m2) (mendW n (n - k) l2 (eraZ m2)))) := by
          intro hX
          cases hg : goodB n l2 m2 with
          | false => rw [hg] at hX; cases hX
          | true =>
            cases hR : mendW n (n - k) l2 (eraZ m2) with
            | none => rw [hg, hR] at hX; cases hX
            | some o =>
              obtain ⟨y1, y2, y3, y4, y5⟩ := hThird.out o hg hR
              refine ⟨?_, y3, y4, y5⟩
              show MendU n o (goodB n o m2) (mendW n (n - k) o (eraZ m2)) = _
              rw [y1, y2]; rfl
        clear hThird hL2n
        generalize outU n l2 (goodB n l2 m2) (mendW n (n - k) l2 (eraZ m2)) = U at *
        generalize outX (goodB n l2 m2) (mendW n (n - k) l2 (eraZ m2)) = X at *
        generalize outO (goodB n l2 m2) (mendW n (n - k) l2 (eraZ m2)) = O at *
        have hs1 := conv_str HO1.out O.length d1 rfl
        have hs2 := conv_str HO2.out O.length d2 rfl
        have hSm := hid (ref01_Same q1 q2 U.length U.length e1 e2 (U.map fun x => ((x : Nat) : Int)) (U.map fun x => ((x : Nat) : Int)) w7 (by simp) (by simp) HU1.out HU2.out (by simp; omega) (by simp; omega))
        rw [show decide ((U.map fun x => ((x : Nat) : Int)) = (U.map fun x => ((x : Nat) : Int))) = true from decide_eq_true rfl] at hSm
        go_wp2_with ((with_reducible refine wpList_unguard ?_ ?_); (focus rfl))
        refine Calls.mono hSm.out ?_; rintro e w8 ⟨rfl, hb⟩
        have HB8 := hid (HB7.out.trans (hb.mono HB7.out.size))
        have HR8 := hid (HR7.out.below hb)
        have HX8 := hid (HX7.out.below hb)
        have HO8 := hid (HO1.out.below hb)
        clear hSm hb hs1 hs2 HB7 HR7 HX7 HO1 HO2 HU1 HU2
        by_cases hX : X = 0
        · obtain ⟨g1, g2, g3, g4⟩ := H3.out hX
          subst hX
          have HG2 := hid g2
          have HG3 := hid g3
          have HG4 := hid g4
          have HG1 := hid g1
          have hUn := unkL_self O n
          have c1 : w8.cell? ⟨xb, 1, none⟩ = some (.slice b2 m2.length caq2) := HX8.out.cell 1 _ rfl
          have HM3 := hid (sol_Mend c b n k p1 d1 O b2 caq2 m2 w8 HR8.out (by omega) (by omega) (by omega) HO8.out g4 (by omega) (HS1.out.below HB8.out) (by omega))
          clear g1 g2 g3 g4 H3
          go_wp2_with ((with_reducible refine wpList_unguard ?_ ?_); (focus rfl))
          refine Calls.mono HM3.out ?_; rintro e w9 ⟨hb, hm⟩
          have hm3 := hm.uni
          rw [HG1.out] at hm3
          obtain ⟨p3, d3, q3, e3, rfl, hl5, hl6, ho3, hu3⟩ := hm3
          have ho3 : cellsB w9 p3 O := ho3
          rw [show outU n O true (some O) = [] from hUn, show outO true (some O) = O from rfl, show outX true (some O) = 0 from rfl]
          have HO9 := hid (HO8.out.below hb)
          have HB9 := hid (HB8.out.trans (hb.mono HB8.out.size))
          have HRi := hid (rs_Right c b n k p1 O.length d1 O w9 (HR8.out.below hb) (by omega) (by omega) rfl HO9.out HG4.out HG3.out)
          rw [HG2.out] at HRi
          have HO3 := hid ho3
          clear hm hb HM3 hl5 hl6 ho3 hu3 HB8 HR8 HX8 HO8 c1 HG1 hUn
          go_wp2_with ((with_reducible refine wpList_unguard ?_ ?_); (focus rfl))
          refine Calls.mono HRi.out ?_; rintro e w10 ⟨rfl, hb⟩
          have HB10 := hid (HB9.out.trans (hb.mono HB9.out.size))
          have hs1 := conv_str (HO3.out.below hb) O.length d3 rfl
          have hs2 := conv_str (HO9.out.below hb) O.length d1 rfl
          clear hb HRi HB9
          go_wp2_with ((with_reducible refine wpList_unguard ?_ ?_); (focus rfl))
          go_ret
          exact ⟨rfl, HB10.out⟩
        · have qX : (X != 0) = true := by rw [bne_iff_ne]; exact hX
          clear H3
          go_wp2_with ((with_reducible refine wpList_unguard ?_ ?_); (focus rfl))
          go_ret
          exact ⟨rfl, HB8.out⟩
end Go.Proofs.Ytgckhekikcdaiaa
