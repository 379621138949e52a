/-
  PolySums, walked: sums and products of any polynomials are what the document says; no argument is written into.
-/
import Derived.Test.YtlipedigmokgbaaPolyW
import Derived.Test.YtlipedigmokgbaaPolyT
import Derived.Test.YtlipedigmokgbaaOpenR
namespace Tri
/-- The texts of some rows, each with a mark behind it. -/
def ktextL (l : List (List Nat)) : List Nat := l.flatMap fun a => a ++ [124]
theorem ktextL_snoc (l : List (List Nat)) (a : List Nat) : ktextL (l ++ [a]) = ktextL l ++ (a ++ [124]) := by unfold ktextL; rw [List.flatMap_append]; simp
theorem ktextL_len (l : List (List Nat)) (h : ∀ a ∈ l, a.length ≤ 60) : (ktextL l).length ≤ 61 * l.length := by
  induction l with
  | nil => simp [ktextL]
  | cons a l ih =>
    have h1 := ih fun b hb => h b (by simp [hb])
    have h2 := h a (by simp)
    have : ktextL (a :: l) = (a ++ [124]) ++ ktextL l := rfl
    rw [this]
    simp only [List.length_append, List.length_cons, List.length_nil]
    omega
theorem rsumL_len (l : List (List Nat)) (h : ∀ a ∈ l, a.length ≤ 60) : (rsumL l).length ≤ 60 := by
  have key : ∀ (l : List (List Nat)) (s : List Nat), s.length ≤ 60 → (∀ a ∈ l, a.length ≤ 60) → (l.foldl (fun s a => radd s (rof a)) s).length ≤ 60 := by
    intro l
    induction l with
    | nil => intro s hs _; exact hs
    | cons a l ih =>
      intro s hs h
      refine ih _ ?_ fun b hb => h b (by simp [hb])
      show (radd s (rof a)).length ≤ 60
      have h1 := radd_length s (rof a)
      have h2 := rof_length a
      have h3 := trim_length_le a
      have h4 := h a (by simp)
      omega
  exact key l [] (by simp) h
theorem rsumL_bytes (l : List (List Nat)) (h : ∀ a ∈ l, bytesL a) : bytesL (rsumL l) := by
  have key : ∀ (l : List (List Nat)) (s : List Nat), bytesL s → (∀ a ∈ l, bytesL a) → bytesL (l.foldl (fun s a => radd s (rof a)) s) := by
    intro l
    induction l with
    | nil => intro s hs _; exact hs
    | cons a l ih => intro s hs h; exact ih _ (radd_bytes hs (rof_bytes (h a (by simp)))) fun b hb => h b (by simp [hb])
  exact key l [] (fun x hx => by simp at hx) h
theorem lens_le (l : List (List Nat)) (m : Nat) (h : ∀ a ∈ l, a.length ≤ m) : lens l ≤ m * l.length := by
  induction l with
  | nil => simp [lens]
  | cons a l ih =>
    have h1 := ih fun b hb => h b (by simp [hb])
    have h2 := h a (by simp)
    have : lens (a :: l) = a.length + lens l := by simp [lens]
    rw [this, List.length_cons, Nat.mul_add]
    omega
theorem rprodL_len (l : List (List Nat)) (hb : ∀ a ∈ l, bytesL a) : (rprodL l).length ≤ lens l + 1 := by
  rw [(rprodL_eq l).1, List.length_reverse]
  exact pmul_len hb
theorem rprodL_bytes (l : List (List Nat)) (hb : ∀ a ∈ l, bytesL a) : bytesL (rprodL l) := by
  rw [(rprodL_eq l).1]
  exact rev_bytes (pmul_bytes hb)
end Tri
namespace Go.Proofs.Ytlipedigmokgbaa
open Go.RowKit Tri

theorem longP_false {l : List (List Nat)} (h : longP l = false) : (∀ a ∈ l, a.length ≤ 60) ∧ l.length ≤ 6 := by
  unfold longP at h
  rw [Bool.or_eq_false_iff] at h
  refine ⟨fun a ha => ?_, by have := h.2; simpa using this⟩
  have := List.any_eq_false.1 h.1 a ha
  simpa using this
set_option maxHeartbeats 4000000 in
set_option maxRecDepth 100000 in
theorem polySums.walk (a0 : Option Addr) (len0 cap0 : Nat) (l0 : List (List Nat)) (w : World) (w0 : IsRows w a0 len0 cap0 l0) :
    Calls Try.prog 3 #[.slice a0 len0 cap0] w fun e w' => e = .returned (.bool true) ∧ Below w.heap.size w w' := by
  obtain ⟨hn, hlc, hcap, hS, hss⟩ := w0
  subst hn
  have HS := hid hS
  have HB : Hid (∀ a ∈ l0, bytesL a) := fun a ha => (hss a ha).1
  have HZ : Hid (∀ a ∈ l0, a.length ≤ 140737488351232) := fun a ha => (hss a ha).2
  clear hS hss
  (go_enter Try.func3, Try.ntmps3; try simp only [List.append])
  go_wp2_with ((with_reducible refine wpList_unguard ?_ ?_); (focus rfl))
  (refine Calls.mono (law05_awake _) ?_; rintro e w2 ⟨rfl, hbA⟩; have HBA := hid hbA; clear hbA)
  go_wp2_with ((with_reducible refine wpList_unguard ?_ ?_); (focus rfl))
  refine Calls.mono (law05_great _ _ _ l0 w2 rfl (HS.out.below HBA.out) (by omega) HZ.out) ?_; rintro e w' ⟨rfl, rfl⟩
  cases hL : longP l0 with
  | true =>
    go_wp2_with ((with_reducible refine wpList_unguard ?_ ?_); (focus rfl))
    go_ret
    exact ⟨rfl, HBA.out⟩
  | false =>
    obtain ⟨hz60, hl6⟩ := longP_false hL
    have HZ60 := hid hz60
    clear hL hz60 HZ
    go_wp2_with ((with_reducible refine wpList_unguard ?_ ?_); (focus rfl))
    refine Calls.mono (gf_NewK w w2 HBA.out) ?_; rintro e w4 ⟨b, rfl, K0⟩; have K := hid K0; clear K0 HBA
    have C0 := hid (cellsI.nil (w4.alloc (.cells #[] 3)) (some ⟨w4.heap.size, 0, none⟩))
    have C1 := cellsI.new (w4.alloc (.cells #[] 3)) [1] #[.int .i64 1] 3 rfl
    have K5 := hid ((K.out.alloc (.cells #[] 3)).alloc (.cells #[.int .i64 1] 3))
    have hsz1 : (w4.alloc (.cells #[] 3)).heap.size = w4.heap.size + 1 := by simp
    rw [hsz1] at C1
    have C1' := hid C1
    clear C1 hsz1 K
    go_wp2_with ((with_reducible refine wpList_unguard ?_ ?_); (focus rfl))
    generalize (w4.alloc (.cells #[] 3)).alloc (.cells #[.int .i64 1] 3) = w5 at *
    have hmem : Hid (∀ k, k < l0.length → l0.getD k [] ∈ l0) := fun k hk => by rw [List.getD_eq_getElem?_getD, List.getElem?_eq_getElem hk]; exact List.getElem_mem _
    have HTK : Hid (∀ k, (∀ a ∈ l0.take k, bytesL a) ∧ (∀ a ∈ l0.take k, a.length ≤ 60) ∧ (l0.take k).length ≤ 6) := fun k =>
      ⟨fun a ha => HB.out a (List.mem_of_mem_take ha), fun a ha => HZ60.out a (List.mem_of_mem_take ha), by rw [List.length_take]; omega⟩
    have HTL : Hid (∀ k, (ktextL (l0.take k)).length ≤ 366 ∧ (rsumL (l0.take k)).length ≤ 60 ∧ (rprodL (l0.take k)).length ≤ 361 ∧ bytesL (rsumL (l0.take k)) ∧ bytesL (rprodL (l0.take k))) := fun k => by
      obtain ⟨h1, h2, h3⟩ := HTK.out k
      have h4 := ktextL_len _ h2
      have h5 := lens_le _ 60 h2
      have h6 := rprodL_len _ h1
      exact ⟨by omega, rsumL_len _ h2, by omega, rsumL_bytes _ h1, rprodL_bytes _ h1⟩
    have HT0 : Hid (ofB (ktextL (l0.take 0)) = { data := #[] } ∧ rsumL (l0.take 0) = [] ∧ rprodL (l0.take 0) = [1]) := ⟨rfl, rfl, rfl⟩
    have HTS : Hid (∀ k, k < l0.length → ofB (ktextL (l0.take (k + 1))) = ofB (ktextL (l0.take k)) ++ (ofB (l0.getD k []) ++ { data := #[124] }) ∧ rsumL (l0.take (k + 1)) = radd (rsumL (l0.take k)) (rof (l0.getD k [])) ∧ rprodL (l0.take (k + 1)) = rmulP (rprodL (l0.take k)) (rof (l0.getD k []))) := fun k hk => by
      rw [take_snocR l0 k hk, ktextL_snoc, rsumL_snoc, rprodL_snoc, ← ofB_append, ← ofB_append]
      exact ⟨rfl, rfl, rfl⟩
    go_loopw [4, 5, 6, 22] (fun s u v i wr => ∃ (k : Nat) (p q : Option Addr) (c d : Nat), k ≤ l0.length ∧ i = .int .i64 k ∧ s = .string (ofB (ktextL (l0.take k))) ∧ Keeps w b wr ∧
      u = .slice p (rsumL (l0.take k)).length c ∧ (rsumL (l0.take k)).length ≤ c ∧ cellsI wr p (rsumL (l0.take k)) ∧ v = .slice q (rprodL (l0.take k)).length d ∧ (rprodL (l0.take k)).length ≤ d ∧ cellsI wr q (rprodL (l0.take k))) (fun _ _ _ i _ => l0.length - (intOf i).toNat)
    case atStart =>
      refine ⟨0, some ⟨w4.heap.size, 0, none⟩, some ⟨w4.heap.size + 1, 0, none⟩, 0, 1, Nat.zero_le _, rfl, rfl, K5.out, rfl, Nat.le_refl _, ?_, rfl, Nat.le_refl _, C1'.out⟩
      exact cellsI.nil _ _
    case round =>
      obtain ⟨k, p, q, c, d, hk, rfl, rfl, hK, rfl, hlu, hcu, rfl, hlv, hcv⟩ := hrel
      have K6 := hid hK
      have HU := hid hcu
      have HV := hid hcv
      clear hK hcu hcv K5 C0 C1'
      by_cases hlt : k < l0.length
      · obtain ⟨a, o, q', c', rfl, hc0, hle', hq'⟩ := HS.out k hlt
        have hc : wr.cell? ⟨a, o + k, none⟩ = some (.slice q' (l0.getD k []).length c') := by
          rw [K6.out.1.cell (p := ⟨a, o + k, none⟩) (block_lt_of_cell hc0)]; exact hc0
        have HY := hid hq'
        have hy60 := HZ60.out _ (hmem.out k hlt)
        have HYB := hid (HB.out _ (hmem.out k hlt))
        obtain ⟨ht1, ht2, ht3, ht4, ht5⟩ := HTL.out k
        have HSB := hid ht4
        have HPB := hid ht5
        have hS1 := hid (HTS.out k hlt)
        have hcs := conv_str (HY.out.below K6.out.1) (l0.getD k []).length c' rfl
        have hylen := ofB_size (l0.getD k [])
        have htlen := ofB_size (ktextL (l0.take k))
        have hrofl : (rof (l0.getD k [])).length ≤ 60 := by rw [rof_length]; have := trim_length_le (l0.getD k []); omega
        have HRB := hid (rof_bytes HYB.out)
        clear hc0 hq' ht4 ht5
        generalize hT2 : ofB (ktextL (l0.take (k + 1))) = T2 at *
        generalize hU2 : rsumL (l0.take (k + 1)) = U2 at *
        generalize hV2 : rprodL (l0.take (k + 1)) = V2 at *
        have HT2 := hid hT2
        have HU2 := hid hU2
        have HV2 := hid hV2
        clear hT2 hU2 hV2
        generalize l0.getD k [] = y at *
        generalize rsumL (l0.take k) = U at *
        generalize rprodL (l0.take k) = V at *
        generalize ktextL (l0.take k) = T at *
        have hz1 : ((ofB y) ++ ({ data := #[124] } : ByteArray)).size = y.length + 1 := by
          rw [ByteArray.size_append, hylen]; rfl
        have hs1 : ¬ (9223372036854775807 < (ofB y).size + ({ data := #[124] } : ByteArray).size) := by
          rw [hylen]
          have : ({ data := #[124] } : ByteArray).size = 1 := rfl
          omega
        have hs2 : ¬ (9223372036854775807 < (ofB T).size + ((ofB y) ++ ({ data := #[124] } : ByteArray)).size) := by
          rw [hz1, htlen]; omega
        have hadd1 : ∀ w', (Op.stringOp .add (ofB y) { data := #[124] }).run Try.prog w' = .ok (.string (ofB y ++ { data := #[124] })) w' := fun w' => run_string_add_sum _ _ _ (by omega)
        have hadd2 : ∀ w', (Op.stringOp .add (ofB T) (ofB y ++ { data := #[124] })).run Try.prog w' = .ok (.string (ofB T ++ (ofB y ++ { data := #[124] }))) w' := fun w' => run_string_add_sum _ _ _ (by omega)
        clear hz1 hylen htlen
        go_wp2_with ((with_reducible refine wpList_unguard ?_ ?_); (focus rfl))
        refine Calls.mono (ref5_Of q' _ c' y wr rfl (HY.out.below K6.out.1) HYB.out (by omega)) ?_
        rintro e w7 ⟨p7, c7, rfl, hle7, hc7, hbel⟩
        have K7 := hid (K6.out.next hbel)
        have HU7 := hid (HU.out.below hbel)
        have HV7 := hid (HV.out.below hbel)
        have HO7 := hid hc7
        clear hbel hc7 K6 HU HV hadd1 hadd2 hs1 hs2 hcs hc
        go_wp2_with ((with_reducible refine wpList_unguard ?_ ?_); (focus rfl))
        refine Calls.mono (ref5_Add p p7 _ c _ c7 U (rof y) w7 rfl HU7.out rfl HO7.out HSB.out HRB.out (by omega) (by omega)) ?_
        rintro e w8 ⟨p8, c8, rfl, hle8, hc8, hbel⟩
        rw [← hS1.out.2.1] at hle8 hc8 ⊢
        have K8 := hid (K7.out.next hbel)
        have HV8 := hid (HV7.out.below hbel)
        have HU8 := hid hc8
        clear hbel hc8 K7 HV7 HU7 HO7
        go_wp2_with ((with_reducible refine wpList_unguard ?_ ?_); (focus rfl))
        refine Calls.mono (ref5_Of q' _ c' y w8 rfl (HY.out.below K8.out.1) HYB.out (by omega)) ?_
        rintro e w9 ⟨p9, c9, rfl, hle9, hc9, hbel⟩
        have K9 := hid (K8.out.next hbel)
        have HU9 := hid (HU8.out.below hbel)
        have HV9 := hid (HV8.out.below hbel)
        have HO9 := hid hc9
        clear hbel hc9 K8 HU8 HV8
        go_wp2_with ((with_reducible refine wpList_unguard ?_ ?_); (focus rfl))
        refine Calls.mono (ref5_Mul q p9 _ d _ c9 V (rof y) w9 rfl HV9.out rfl HO9.out HPB.out HRB.out (by omega) (by omega)) ?_
        rintro e w10 ⟨p10, c10, rfl, hle10, hc10, hbel⟩
        rw [← hS1.out.2.2] at hle10 hc10 ⊢
        have K10 := hid (K9.out.next hbel)
        have HU10 := hid (HU9.out.below hbel)
        have HV10 := hid hc10
        have HTT := hid hS1.out.1
        rw [← HTT.out]
        clear hbel hc10 K9 HU9 HV9 HO9 hS1 HTT
        go_wp2_with ((with_reducible refine wpList_unguard ?_ ?_); (focus rfl))
        go_roundw
        case rel =>
          refine ⟨k + 1, p8, p10, c8, c10, by omega, by go_num, by rw [HT2.out], K10.out, ?_⟩
          rw [HU2.out, HV2.out]
          exact ⟨rfl, hle8, HU10.out, rfl, hle10, HV10.out⟩
        case measure => simp [intOf]; omega
      · have hkl : k = l0.length := by omega
        have hT : Hid (l0.take k = l0) := by show _ = _; rw [hkl, List.take_length]
        rw [hT.out] at hlu HU hlv HV ⊢
        obtain ⟨ht1, ht2, ht3, ht4, ht5⟩ := HTL.out l0.length
        rw [List.take_length] at ht1 ht2 ht3 ht4 ht5
        have HSB := hid ht4
        have HPB := hid ht5
        have HPA := hid (padd_rsum l0 HB.out)
        have HPM := hid (pmul_rprod l0)
        have hlo := padd_len l0 HB.out
        have hlo2 : longest l0 ≤ 60 := longest_le _ _ HZ60.out
        have hml := pmul_len HB.out
        have hll := lens_le l0 60 HZ60.out
        clear ht4 ht5 HTL
        generalize rsumL l0 = U at *
        generalize rprodL l0 = V at *
        go_wp2_with ((with_reducible refine wpList_unguard ?_ ?_); (focus rfl))
        refine Calls.mono (poly_Add b a0 _ _ l0 wr K6.out.2 rfl (HS.out.below K6.out.1) HB.out (by omega) (fun a ha => by have := HZ60.out a ha; omega)) ?_
        rintro e w7 ⟨v7, rfl, hO, hbel⟩
        have K7 := hid (K6.out.next hbel)
        have HU7 := hid (HU.out.below hbel)
        have HV7 := hid (HV.out.below hbel)
        obtain ⟨p7, c7, rfl, hc7⟩ := hO.cells
        have HA7 := hid hc7
        clear hbel hO hc7 K6 HU HV
        go_wp2_with ((with_reducible refine wpList_unguard ?_ ?_); (focus rfl))
        refine Calls.mono (ref5_Same p7 p _ c7 _ c (padd l0) U w7 rfl HA7.out rfl hlu HU7.out HSB.out (by omega) (by omega)) ?_
        rintro e w8 ⟨rfl, hbel⟩
        rw [decide_eq_true HPA.out]
        have K8 := hid (K7.out.next hbel)
        have HV8 := hid (HV7.out.below hbel)
        clear hbel K7 HV7 HU7 HA7
        go_wp2_with ((with_reducible refine wpList_unguard ?_ ?_); (focus rfl))
        refine Calls.mono (poly_Mul b a0 _ _ l0 w8 K8.out.2 rfl (HS.out.below K8.out.1) HB.out (by omega) (by omega)) ?_
        rintro e w9 ⟨p9, c9, rfl, hle9, hc9, hbel⟩
        have K9 := hid (K8.out.next hbel)
        have HV9 := hid (HV8.out.below hbel)
        have HM9 := hid hc9
        clear hbel hc9 K8 HV8
        go_wp2_with ((with_reducible refine wpList_unguard ?_ ?_); (focus rfl))
        refine Calls.mono (ref5_Same p9 q _ c9 _ d (pmul l0) V w9 rfl HM9.out rfl hlv HV9.out HPB.out (by omega) (by omega)) ?_
        rintro e w10 ⟨rfl, hbel⟩
        rw [decide_eq_true HPM.out]
        have K10 := hid (K9.out.next hbel)
        clear hbel K9 HV9 HM9
        go_wp2_with ((with_reducible refine wpList_unguard ?_ ?_); (focus rfl))
        go_loop [10, 54] (fun s i => ∃ k : Nat, k ≤ l0.length ∧ i = .int .i64 k ∧ s = .string (ofB (ktextL (l0.take k)))) (fun _ i => l0.length - (intOf i).toNat)
        case atStart => exact ⟨0, Nat.zero_le _, rfl, rfl⟩
        case round =>
          obtain ⟨k, hk, rfl, rfl⟩ := hrel
          by_cases hlt : k < l0.length
          · obtain ⟨a, o, q', c', rfl, hc0, hle', hq'⟩ := HS.out k hlt
            have hc : w10.cell? ⟨a, o + k, none⟩ = some (.slice q' (l0.getD k []).length c') := by
              rw [K10.out.1.cell (p := ⟨a, o + k, none⟩) (block_lt_of_cell hc0)]; exact hc0
            have hcs := conv_str (hq'.below K10.out.1) (l0.getD k []).length c' rfl
            have hy60 := HZ60.out _ (hmem.out k hlt)
            have hylen := ofB_size (l0.getD k [])
            have htlen := ofB_size (ktextL (l0.take k))
            have htl2 : (ktextL (l0.take k)).length ≤ 366 := by
              obtain ⟨h1, h2, h3⟩ := HTK.out k
              have := ktextL_len _ h2
              omega
            have HTT := hid (HTS.out k hlt).1
            clear hc0 hq'
            generalize hT2 : ofB (ktextL (l0.take (k + 1))) = T2 at *
            have HT2 := hid hT2
            clear hT2
            generalize l0.getD k [] = y at *
            generalize ktextL (l0.take k) = T at *
            have hz1 : ((ofB y) ++ ({ data := #[124] } : ByteArray)).size = y.length + 1 := by
              rw [ByteArray.size_append, hylen]; rfl
            have hz2 : ({ data := #[124] } : ByteArray).size = 1 := rfl
            have hadd1 : ∀ w', (Op.stringOp .add (ofB y) { data := #[124] }).run Try.prog w' = .ok (.string (ofB y ++ { data := #[124] })) w' := fun w' => run_string_add_sum _ _ _ (by omega)
            have hadd2 : ∀ w', (Op.stringOp .add (ofB T) (ofB y ++ { data := #[124] })).run Try.prog w' = .ok (.string (ofB T ++ (ofB y ++ { data := #[124] }))) w' := fun w' => run_string_add_sum _ _ _ (by omega)
            clear hz1 hz2 hylen htlen
            rw [← HTT.out] at hadd2
            clear HTT
            go_wp2_with ((with_reducible refine wpList_unguard ?_ ?_); (focus rfl))
            go_round
            case rel => exact ⟨k + 1, by omega, by go_num, by rw [HT2.out]⟩
            case measure => simp [intOf]; omega
          · have hT2 : Hid (l0.take k = l0) := by show _ = _; rw [show k = l0.length from by omega, List.take_length]
            rw [hT2.out]
            generalize ofB (ktextL l0) = T at *
            go_wp2_with ((with_reducible refine wpList_unguard ?_ ?_); (focus rfl))
            go_ret
            exact ⟨by simp, K10.out.1⟩
end Go.Proofs.Ytlipedigmokgbaa
