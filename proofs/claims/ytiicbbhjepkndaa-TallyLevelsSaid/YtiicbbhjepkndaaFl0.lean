/-
  The example of the device's chapter (awake); great.
-/
import Derived.Test.YtiicbbhjepkndaaDev4
import Derived.Test.YtiicbbhjepkndaaDev8
import Derived.Test.YtiicbbhjepkndaaOps
namespace Go.Proofs.Ytiicbbhjepkndaa
open Go.RowKit Tri

theorem sb_repS (n x : Nat) (h : x < 256) : sb (repS n x) = List.replicate n x := sb_ofB _ (by intro y hy; rw [List.mem_replicate] at hy; omega)
def aw1 : FS := (newS 2).prog 2 16 (List.replicate 16 15)
def aw2 : FS := aw1.prog 2 16 (List.replicate 16 60)
set_option maxRecDepth 100000 in
theorem aw_e1 : (newS 2).progE 2 16 (List.replicate 16 15) = 0 := by decide
set_option maxRecDepth 100000 in
theorem aw_e2 : aw1.progE 2 16 (List.replicate 16 60) = 0 := by decide
set_option maxRecDepth 100000 in
theorem aw_e3 : wrongE 2 aw2.dn 16 16 = 0 := by decide
set_option maxRecDepth 100000 in
theorem aw_b : aw2.readB 2 16 16 = List.replicate 16 12 := by decide
set_option maxHeartbeats 4000000 in
set_option maxRecDepth 100000 in
theorem law08_awake (w : World) : Calls Try.prog 14 #[] w fun e w' => e = .returned (.bool true) ∧ Below w.heap.size w w' := by
  (go_enter Try.func14, Try.ntmps14; try simp only [List.append])
  go_wp2_with ((with_reducible refine wpList_unguard ?_ ?_); (focus rfl))
  refine Calls.mono (dev_New 2 w (by omega) (by omega)) ?_; rintro e w1 ⟨i, rfl, hlo, -, hD, hB⟩
  have HD := hid hD
  have HB := hid hB
  have HLO := hid hlo
  clear hD hB hlo
  go_wp2_with ((with_reducible refine wpList_unguard ?_ ?_); (focus rfl))
  refine Calls.mono (strRep 15 16 w1 (by omega)) ?_; rintro e w2 ⟨rfl, hb2⟩
  have HD2 := hid (HD.out.below hb2)
  have HB2 := hid (HB.out.trans (hb2.mono HB.out.size))
  clear hb2 HD HB
  go_wp2_with ((with_reducible refine wpList_unguard ?_ ?_); (focus rfl))
  have hP := dev_Program i 2 _ w2 16 (repS 16 15) HD2.out (by omega)
  rw [sb_repS _ _ (by omega), aw_e1] at hP
  refine Calls.mono hP ?_; rintro e w3 ⟨rfl, hD3, hO3⟩
  have HD3 : Hid (DevP w3 i 2 aw1) := hD3
  have HB3 := hid (hO3.below HB2.out (by rw [HLO.out]; exact Nat.le_refl _))
  clear hP hD3 hO3 HD2 HB2
  go_wp2_with ((with_reducible refine wpList_unguard ?_ ?_); (focus rfl))
  refine Calls.mono (strRep 60 16 w3 (by omega)) ?_; rintro e w4 ⟨rfl, hb4⟩
  have HD4 := hid (HD3.out.below hb4)
  have HB4 := hid (HB3.out.trans (hb4.mono HB3.out.size))
  clear hb4 HD3 HB3
  go_wp2_with ((with_reducible refine wpList_unguard ?_ ?_); (focus rfl))
  have hP := dev_Program i 2 _ w4 16 (repS 16 60) HD4.out (by omega)
  rw [sb_repS _ _ (by omega), aw_e2] at hP
  refine Calls.mono hP ?_; rintro e w5 ⟨rfl, hD5, hO5⟩
  have HD5 : Hid (DevP w5 i 2 aw2) := hD5
  have HB5 := hid (hO5.below HB4.out (by rw [HLO.out]; exact Nat.le_refl _))
  clear hP hD5 hO5 HD4 HB4
  go_wp2_with ((with_reducible refine wpList_unguard ?_ ?_); (focus rfl))
  have hR := dev_Read i 2 _ w5 16 16 HD5.out (by omega) (by omega)
  rw [aw_e3, aw_b, show ofB (List.replicate 16 12) = repS 16 12 from rfl] at hR
  refine Calls.mono hR ?_; rintro e w6 ⟨rfl, hD6, hO6⟩
  have HB6 := hid (hO6.below HB5.out (by rw [HLO.out]; exact Nat.le_refl _))
  clear hR hD6 hO6 HD5 HB5
  go_wp2_with ((with_reducible refine wpList_unguard ?_ ?_); (focus rfl))
  refine Calls.mono (strRep 12 16 w6 (by omega)) ?_; rintro e w7 ⟨rfl, hb7⟩
  have HB7 := hid (HB6.out.trans (hb7.mono HB6.out.size))
  clear hb7 HB6
  go_wp2_with ((with_reducible refine wpList_unguard ?_ ?_); (focus rfl))
  go_ret
  exact ⟨rfl, HB7.out⟩
def greatB (l : List OpR) : Bool := decide (150 < l.length) || l.any fun o => decide (1000 < o.s.size)
theorem opC_at (o : OpR) : (opC o)[0]? = some (.int .i64 o.k) ∧ (opC o)[1]? = some (.int .i64 o.a) ∧ (opC o)[2]? = some (.int .i64 o.n) ∧ (opC o)[3]? = some (.string o.s) ∧ (opC o)[4]? = some (.int .i64 o.tb) ∧ (opC o)[5]? = some (.int .u8 (o.tm : Nat)) := ⟨rfl, rfl, rfl, rfl, rfl, rfl⟩
theorem ops_at {w : World} {a : Option Addr} {l : List OpR} (h : cellsG w a 6 (l.map opC)) (k : Nat) (o : OpR) (hk : l[k]? = some o) : ∃ b f, a = some ⟨b, f, none⟩ ∧ w.cell? ⟨b, f + k * 6, none⟩ = some (.int .i64 o.k) ∧ w.cell? ⟨b, f + k * 6 + 1, none⟩ = some (.int .i64 o.a) ∧
    w.cell? ⟨b, f + k * 6 + 2, none⟩ = some (.int .i64 o.n) ∧ w.cell? ⟨b, f + k * 6 + 3, none⟩ = some (.string o.s) ∧ w.cell? ⟨b, f + k * 6 + 4, none⟩ = some (.int .i64 o.tb) ∧ w.cell? ⟨b, f + k * 6 + 5, none⟩ = some (.int .u8 (o.tm : Nat)) := by
  have hkl := (List.getElem?_eq_some_iff.1 hk).1
  obtain ⟨b, f, e, hc⟩ := h k (by rw [List.length_map]; exact hkl)
  have hg : (l.map opC).getD k [] = opC o := by rw [List.getD_eq_getElem?_getD, List.getElem?_map, hk]; rfl
  rw [hg] at hc
  obtain ⟨h0, h1, h2, h3, h4, h5⟩ := opC_at o
  exact ⟨b, f, e, hc 0 _ h0, hc 1 _ h1, hc 2 _ h2, hc 3 _ h3, hc 4 _ h4, hc 5 _ h5⟩
set_option maxHeartbeats 4000000 in
set_option maxRecDepth 100000 in
theorem law08_great (p : Option Addr) (n c : Nat) (l : List OpR) (w : World) (hn : n = l.length) (hnc : n ≤ 140737488351232) (hp : cellsG w p 6 (l.map opC)) (hok : ∀ o ∈ l, o.ok) :
    Calls Try.prog 23 #[.slice p n c] w fun e w' => e = .returned (.bool (greatB l)) ∧ Below w.heap.size w w' := by
  subst hn
  have HP := hid hp
  have HOK := hid hok
  clear hp hok
  rcases Nat.lt_or_ge 150 l.length with h150 | h150
  · have hR : Hid (greatB l = true) := by show _ = _; unfold greatB; rw [decide_eq_true h150]; rfl
    have q1 : decide ((150 : Int) < l.length) = true := decide_eq_true (by omega)
    (go_enter Try.func23, Try.ntmps23; try simp only [List.append])
    go_wp2_with ((with_reducible refine wpList_unguard ?_ ?_); (focus rfl))
    go_ret
    rw [hR.out]
    exact ⟨rfl, Below.refl _ _⟩
  · have hR : Hid (greatB l = l.any fun o => decide (1000 < o.s.size)) := by show _ = _; unfold greatB; rw [decide_eq_false (by omega)]; rfl
    have q1 : decide ((150 : Int) < l.length) = false := decide_eq_false (by omega)
    (go_enter Try.func23, Try.ntmps23; try simp only [List.append])
    go_wp2_with ((with_reducible refine wpList_unguard ?_ ?_); (focus rfl))
    clear q1
    go_loopw [10, 4] (fun v _ wr => ∃ k : Nat, k ≤ l.length ∧ v = .int .i64 k ∧ (l.take k).any (fun o => decide (1000 < o.s.size)) = false ∧ Below w.heap.size w wr) (fun v _ _ => l.length - (intOf v).toNat)
    case atStart => exact ⟨0, Nat.zero_le _, rfl, rfl, Below.refl _ _⟩
    case round =>
      obtain ⟨k, hk, rfl, hany, hB⟩ := hrel
      have HB := hid hB
      have HA := hid hany
      clear hany
      by_cases hlt : k < l.length
      · have q4 : decide ((k : Int) < l.length) = true := decide_eq_true (by omega)
        obtain ⟨o, ho⟩ : ∃ o, l[k]? = some o := ⟨_, List.getElem?_eq_getElem hlt⟩
        obtain ⟨b, f, rfl, c0, c1, c2, c3, c4, c5⟩ := ops_at (HP.out.below hB) k o ho
        have hB2 := hid (HB.out.alloc HB.out.size (.cells #[.int .i64 o.k, .int .i64 o.a, .int .i64 o.n, .string o.s, .int .i64 o.tb, .int .u8 (o.tm : Nat)] 42))
        have hsz : o.s.size ≤ maxLen := (HOK.out o (List.mem_of_getElem? ho)).2.2.2.1
        have hHA : Hid ((l.take (k + 1)).any (fun o => decide (1000 < o.s.size)) = decide (1000 < o.s.size)) := by
          show _ = _
          rw [List.take_succ_eq_append_getElem hlt, List.any_append, HA.out]
          have : l[k] = o := by rw [List.getElem?_eq_getElem hlt] at ho; exact Option.some.inj ho
          simp [this]
        clear hB HP HB
        rcases Nat.lt_or_ge 1000 o.s.size with hbig | hbig
        · have q5 : decide ((1000 : Int) < o.s.size) = true := decide_eq_true (by omega)
          have hT : Hid (greatB l = true) := by
            show _ = _
            rw [hR.out, List.any_eq_true]
            exact ⟨o, List.mem_of_getElem? ho, decide_eq_true hbig⟩
          go_wp2_with ((with_reducible refine wpList_unguard ?_ ?_); (focus rfl))
          go_ret
          rw [hT.out]
          exact ⟨rfl, hB2.out⟩
        · have q5 : decide ((1000 : Int) < o.s.size) = false := decide_eq_false (by omega)
          have hF : Hid ((l.take (k + 1)).any (fun o => decide (1000 < o.s.size)) = false) := by show _ = _; rw [hHA.out]; exact decide_eq_false (by omega)
          clear hHA HA
          go_wp2_with ((with_reducible refine wpList_unguard ?_ ?_); (focus rfl))
          go_roundw
          case rel => exact ⟨k + 1, by omega, by go_num, hF.out, hB2.out⟩
          case measure => simp [intOf]; omega
      · obtain rfl : k = l.length := by omega
        have q4 : decide ((l.length : Int) < l.length) = false := decide_eq_false (by omega)
        have hF : Hid (greatB l = false) := by
          show _ = _
          have := HA.out
          rw [List.take_length] at this
          rw [hR.out, this]
        clear hB HA
        go_wp2_with ((with_reducible refine wpList_unguard ?_ ?_); (focus rfl))
        go_ret
        rw [hF.out]
        exact ⟨rfl, HB.out⟩
end Go.Proofs.Ytiicbbhjepkndaa
