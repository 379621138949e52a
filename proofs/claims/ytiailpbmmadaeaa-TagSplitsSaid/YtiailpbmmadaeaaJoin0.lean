/-
  strings.Builder in the program: Write of bytes.
-/
import Derived.Test.YtiailpbmmadaeaaBld
import Derived.Test.YtiailpbmmadaeaaCpy
import Derived.Maps.AppendAt
namespace Go.Proofs.Ytiailpbmmadaeaa
open Go.RowKit

theorem bldX72 : Builder.X72 Try.prog Try.lays156_ren where
  sizeBuilder := by kernel_rfl
  liesBuilder := by kernel_rfl
theorem Try.infoBy : (Try.prog.info? 5).map (fun i => (i.zero, i.size, i.bytes)) = some (some (.int .u8 0), 1, 1) := by kernel_rfl
theorem bld_check (B b : Nat) (l : List Nat) (w : World) (h : bldB w B b l) :
    Calls Try.prog 67 #[.pointer (some ⟨b, 0, none⟩)] w fun e w' => e = .returned (.tuple #[]) ∧ Lib.BuilderAt 93 5 B b (.pointer (some ⟨b, 0, none⟩)) (l.map fun x => Value.int .u8 (x : Nat)) w' ∧ Below B w w' ∧ (∀ g, g ≠ b → w'.heap[g]? = w.heap[g]?) := by
  rcases h with h | h
  · refine (Any.Builder_copyCheck_fresh { Try.lays156 with } bldX72 b w h.cell0 h.shape h.frozen0).mono ?_
    rintro e w' ⟨rfl, rfl⟩
    exact ⟨rfl, h.used _, (Below.refl B w).setCell (p := ⟨b, 0, none⟩) h.1 _, fun g hg => heap_setCell_other w ⟨b, 0, none⟩ g _ hg⟩
  · refine (Any.Builder_copyCheck_used { Try.lays156 with } bldX72 b w h.cell0).mono ?_
    rintro e w' ⟨rfl, rfl⟩
    exact ⟨rfl, h, Below.refl B _, fun g hg => rfl⟩
set_option maxHeartbeats 1000000 in
set_option maxRecDepth 100000 in
theorem bld_Write (B b g n c : Nat) (l m : List Nat) (w : World) (h : bldB w B b l) (hm : cellsB w (some ⟨g, 0, none⟩) m) (hn : n = m.length) (hg : g ≠ b) (hlen : l.length + m.length ≤ 1000000) (hBw : B ≤ w.heap.size) :
    Calls Try.prog 51 #[.pointer (some ⟨b, 0, none⟩), .slice (some ⟨g, 0, none⟩) n c] w fun e w' => (∃ v, e = .returned v) ∧ bldB w' B b (l ++ m) ∧ Below B w w' := by
  subst hn
  have H := hid h
  have HM := hid hm
  obtain ⟨ii, hi, hz0, hz1, hz2⟩ := info_parts Try.infoBy
  clear h hm
  (go_enter Try.func51, Try.ntmps51; try simp only [List.append])
  go_wp2_with fail
  refine Calls.mono (bld_check B b l w H.out) ?_; rintro e w1 ⟨rfl, hA, hb, hfr⟩
  obtain ⟨hBb, v, hv, hown, hne⟩ := hA
  have c1 : w1.cell? ⟨b, 1, none⟩ = some v := cell_of_row _ _ 1 _ _ _ hv
  have HB1 := hid hb
  have HM1 : Hid (cellsB w1 (some ⟨g, 0, none⟩) m) := by
    intro i hi'
    obtain ⟨a, o, e, hc⟩ := HM.out i hi'
    simp only [Option.some.injEq, Addr.mk.injEq, and_true] at e
    obtain ⟨rfl, rfl⟩ := e
    refine ⟨_, _, rfl, ?_⟩
    rw [← hc]
    unfold World.cell?
    simp only [hfr _ hg]
  have HV := hid hv
  have HO := hid hown
  have hbl : b < w1.heap.size := (Array.getElem?_eq_some_iff.1 hv).1
  have hne' := hid hne
  have hsz1 := hb.size
  clear hb hfr hv hown hne H HM
  go_wp2_with (at_builtin; go_must (refine wpList_append_own_at _ (by rfl) _ _ _ (by rfl) B 5 ii (.int .u8 0) 1 1 Try.underlying34 hi hz0 hz1 hz2 rfl (by decide) v _ _ (by rfl) HO.out ⟨g, 0, none⟩ m.length c (m.map fun x => Value.int .u8 (x : Nat)) (by rfl) (by rw [List.length_map, Nat.mul_one]) ?_ ?_ ?_ ?_ (by omega) ?_))
  · intro j u hj
    rw [List.getElem?_map] at hj
    cases hmj : m[j]? with
    | none => rw [hmj] at hj; cases hj
    | some y =>
      rw [hmj] at hj
      simp only [Option.map_some, Option.some.injEq] at hj
      subst hj
      have hjl := (List.getElem?_eq_some_iff.1 hmj).1
      obtain ⟨a, o, e, hc⟩ := HM1.out j hjl
      simp only [Option.some.injEq, Addr.mk.injEq, and_true] at e
      obtain ⟨rfl, rfl⟩ := e
      rw [List.getD_eq_getElem?_getD, hmj] at hc
      rw [Addr.add_mid]
      exact hc
  · intro u hu
    obtain ⟨y, _, rfl⟩ := List.mem_map.1 hu
    rfl
  · rw [List.length_map]; unfold maxLen; omega
  · rw [List.length_map]; omega
  · intro v' w2 hown hgr _ _
    obtain ⟨pv, nv, cv, rfl⟩ : ∃ p n c, v' = .slice p n c := by
      rcases hown.2 with ⟨e, _⟩ | ⟨_, _, _, e, _⟩
      · exact ⟨_, _, _, e⟩
      · exact ⟨_, _, _, e⟩
    have hv2 : w2.heap[b]? = some (.cells #[.pointer (some ⟨b, 0, none⟩), v] 93 (0, 0)) := by rw [hgr.block b hbl (fun e => hne'.out e.symm)]; exact HV.out
    have hTe : (93 : Nat) ≠ 5 := by decide
    have hput := Lib.BuilderAt.put (bs' := (l ++ m).map fun x => Value.int .u8 (x : Nat)) hBb hv2 (by
      rw [List.length_map, List.length_append, List.map_append]; exact hown) hTe
    have hb2 : Below B w1 w2 := (Below.refl B w1).grown hgr (by omega) (fun k hk => (HO.out.lt k hk).1)
    have HP := hid hput
    have HB2 := hid ((HB1.out.trans hb2).setCell (p := ⟨b, 1, none⟩) hBb (.slice pv nv cv))
    have hc1 := cell_of_row _ _ 1 _ _ _ hv2
    have hfz : w2.frozen? ⟨b, 1, none⟩ = false := by
      unfold World.frozen?
      simp only
      rw [hv2]
      simp
    clear hown hgr hput hb2 hv2 HV HO HM1 HB1 c1 hne'
    go_wp2
    refine bodyPost_ret (v := .tuple #[.int .i64 m.length, .nilIface]) (by simp [results, Try.results51, go_sem]) rfl ⟨⟨_, rfl⟩, .inr HP.out, HB2.out⟩
end Go.Proofs.Ytiailpbmmadaeaa
