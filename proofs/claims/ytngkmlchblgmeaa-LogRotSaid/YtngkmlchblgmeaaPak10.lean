/-
  Log.write.
  log.Format; Log.Append; Log.All, Clean, Room, Gen; what a log that isn't there does.
  As XQstg2; the class of the worlds in the stages is another one than the first reads'.
  Log.Append; slices.Clone of records, Log.All.
-/
import Derived.Test.YtngkmlchblgmeaaPak9
namespace Tri
open Go Go.RowKit Go.Proofs.Ytngkmlchblgmeaa
def z0 (r : RecI) : RecI := { r with n := 0 }
def pgI (m : Nat) (r : RecI) : List Nat := recP r.k.toNat r.s.toNat m r.v.toNat
def begR (gen : Int) : RecI := ⟨126, 0, 0, gen⟩
def seaR (gen : Int) : RecI := ⟨127, 0, 0, gen⟩
def allR (gen : Int) (base : List RecI) : List RecI := [begR gen] ++ base ++ [seaR gen]
def layL (s : FS) (h : Nat) (l : List RecI) : Nat → FS × Nat
  | 0 => (s, 0)
  | m + 1 => if (layL s h l m).2 ≠ 0 then layL s h l m else layS (layL s h l m).1 h m (pgI m (l.getD m ⟨0, 0, 0, 0⟩))
theorem layL_stop {s : FS} {h m : Nat} {l : List RecI} (hm : (layL s h l m).2 ≠ 0) : ∀ n, m ≤ n → layL s h l n = layL s h l m := by
  intro n hn
  induction n with
  | zero => rw [show m = 0 from by omega]
  | succ n ih =>
    by_cases he : m = n + 1
    · rw [he]
    · have := ih (by omega)
      rw [layL, this, if_pos hm]
/-- A half is laid anew. -/
def writeS (s : FS) (h : Nat) (gen : Int) (base : List RecI) : FS × Nat :=
  if (wipeN s h 8).2 ≠ 0 then wipeN s h 8 else layL (wipeN s h 8).1 h (allR gen base) (base.length + 2)
/-- What lies outside of the device and of the log's own block stays. -/
structure OutL (lo hi L : Nat) (w w' : World) : Prop where
  os : w'.os = w.os
  tape : w'.tape = w.tape
  output : w'.output = w.output
  size : w.heap.size ≤ w'.heap.size
  block : ∀ k, k < w.heap.size → (k < lo ∨ hi ≤ k) → k ≠ L → w'.heap[k]? = w.heap[k]?
theorem OutL.of {lo hi L : Nat} {w w' : World} (h : Out lo hi w w') : OutL lo hi L w w' := ⟨h.os, h.tape, h.output, h.size, fun k h1 h2 _ => h.block k h1 h2⟩
theorem OutL.trans {lo hi L : Nat} {a b c : World} (h : OutL lo hi L a b) (k : OutL lo hi L b c) : OutL lo hi L a c :=
  ⟨k.os.trans h.os, k.tape.trans h.tape, k.output.trans h.output, Nat.le_trans h.size k.size, fun j h1 h2 h3 => (k.block j (Nat.lt_of_lt_of_le h1 h.size) h2 h3).trans (h.block j h1 h2 h3)⟩
theorem OutL.set {lo hi L : Nat} {a b : World} (h : OutL lo hi L a b) (j : Nat) (v : Value) : OutL lo hi L a (b.setCell ⟨L, j, none⟩ v) :=
  ⟨h.os, h.tape, h.output, by simpa using h.size, fun k h1 h2 h3 => by rw [heap_setCell_other b _ k _ h3]; exact h.block k h1 h2 h3⟩
theorem fitB_ok {r : RecI} (h : fitB r = true) (m : Nat) (hm : m < 16) : recOk r.k r.s m r.v = true ∧ r.k < 126 := by
  unfold fitB recOk at h
  unfold recOk
  simp only [Bool.and_eq_true, decide_eq_true_eq] at h ⊢
  omega
theorem allR_len (gen : Int) (base : List RecI) : (allR gen base).length = base.length + 2 := by unfold allR; simp
theorem allR_ok {gen : Int} {base : List RecI} (hg : 1 ≤ gen ∧ gen ≤ 281474976710655) (hb : base.all fitB = true) (k m : Nat) (hk : k < (allR gen base).length) (hm : m < 16) : recOk (allR gen base)[k].k (allR gen base)[k].s m (allR gen base)[k].v = true := by
  have : ∀ r ∈ allR gen base, recOk r.k r.s m r.v = true := by
    intro r hr
    unfold allR at hr
    simp only [List.mem_append, List.mem_singleton] at hr
    rcases hr with (rfl | hr) | rfl
    · unfold begR recOk; simp only [Bool.and_eq_true, decide_eq_true_eq]; omega
    · exact (fitB_ok (List.all_eq_true.1 hb r hr) m hm).1
    · unfold seaR recOk; simp only [Bool.and_eq_true, decide_eq_true_eq]; omega
  exact this _ (List.getElem_mem hk)
end Tri
namespace Go.Proofs.Ytngkmlchblgmeaa
open Go.RowKit Tri

theorem recJ.cellsX {w : World} {base : Nat} {v : Value} {l : List RecI} (h : recJ w base v l) : ∃ p c, v = .slice p l.length c ∧ l.length ≤ c ∧ cellsG w p 4 (l.map rcC) ∧ ∀ a o s, p = some ⟨a, o, s⟩ → base ≤ a := by
  obtain ⟨p, c, hv, h1, h2⟩ := h.cells
  refine ⟨p, c, hv, h1, h2, ?_⟩
  intro a o s e
  rcases h.2 with ⟨h3, _⟩ | ⟨g, cap, cur, h3, h4, _⟩
  · rw [hv, e] at h3; cases h3
  · rw [hv, e] at h3
    simp only [Value.slice.injEq, Option.some.injEq, Addr.mk.injEq] at h3
    omega
theorem recJ.weak {w : World} {base b' : Nat} {v : Value} {l : List RecI} (h : recJ w base v l) (hb : b' ≤ base) : recJ w b' v l := by
  obtain ⟨h1, h2⟩ := h
  refine ⟨h1, ?_⟩
  rcases h2 with h2 | ⟨g, cap, cur, rfl, h3, h4⟩
  · exact .inl h2
  · exact .inr ⟨g, cap, cur, rfl, Nat.le_trans hb h3, h4⟩
theorem recJ.set {w : World} {base : Nat} {v : Value} {l : List RecI} (h : recJ w base v l) (B j : Nat) (x : Value) (hB : B < base) : recJ (w.setCell ⟨B, j, none⟩ x) base v l :=
  h.keep fun g h1 _ _ => heap_setCell_other w _ g _ (by show g ≠ B; omega)
theorem recJ.nil (w : World) (base : Nat) : recJ w base (.slice none 0 0) [] := World.ownsRow_nil _ _ _ _
theorem z0_take (l : List RecI) (k : Nat) (h : k < l.length) : (l.take (k + 1)).map z0 = (l.take k).map z0 ++ [z0 l[k]] := by
  rw [List.take_succ_eq_append_getElem h, List.map_append]; rfl
theorem DevP.setLog {w : World} {i : DI} {n : Nat} {s : FS} (h : DevP w i n s) (L j : Nat) (v : Value) (hL : L < i.lo ∨ i.hi ≤ L) : DevP (w.setCell ⟨L, j, none⟩ v) i n s :=
  h.out ((Out.refl L (L + 1) w).set ⟨L, j, none⟩ v (Nat.le_refl _) (Nat.lt_succ_self _)) (by omega)
theorem cellsG.out {lo hi : Nat} {w w' : World} {p : Option Addr} {k : Nat} {l : List (List Value)} (h : cellsG w p k l) (ho : Out lo hi w w') (hp : offP p lo hi) : cellsG w' p k l := by
  intro i hi
  obtain ⟨b, o, e, hc⟩ := h i hi
  refine ⟨b, o, e, fun j v hv => ?_⟩
  have := hc j v hv
  rw [← this]
  unfold World.cell?
  rw [ho.block b (block_lt_of_cell this) (hp b o none e)]
/-- The pointer of a row that holds something lies outside. -/
def offL (l : List RecI) (p : Option Addr) (lo hi : Nat) : Prop := l ≠ [] → offP p lo hi
theorem cellsG.outL {lo hi : Nat} {w w' : World} {p : Option Addr} {l : List RecI} (h : cellsG w p 4 (l.map rcC)) (ho : Out lo hi w w') (hp : offL l p lo hi) : cellsG w' p 4 (l.map rcC) := by
  by_cases hl : l = []
  · subst hl; intro i hi; simp at hi
  · exact h.out ho (hp hl)
theorem cellsG_one (w : World) (r : RecI) : cellsG (w.alloc (.cells #[.int .i64 r.k, .int .i64 r.s, .int .i64 r.n, .int .i64 r.v] 37)) (some ⟨w.heap.size, 0, none⟩) 4 ([r].map rcC) := by
  intro i hi
  have : i = 0 := by simpa using hi
  subst this
  refine ⟨w.heap.size, 0, rfl, ?_⟩
  intro j v hv
  have := World.cell?_alloc_new w #[.int .i64 r.k, .int .i64 r.s, .int .i64 r.n, .int .i64 r.v] 37 j
  rw [show 0 + 0 * 4 + j = j from by omega, this]
  show (rcC r).toArray[j]? = some v
  rw [List.getElem?_toArray]
  simpa using hv
set_option maxHeartbeats 8000000 in
set_option maxRecDepth 100000 in
theorem log_write (i : DI) (s : FS) (L S : Nat) (at_ : Nat) (rs : Value) (gen0 used : Int) (holds clean : Bool) (hf : Nat) (gen : Int) (base : List RecI) (p : Option Addr) (c : Nat) (w : World) (hD : DevP w i 27 s) (hW : LW i L S (logC i.D S at_ rs gen0 used holds clean) w) (hh : hf < 2)
    (hb : cellsG w p 4 (base.map rcC)) (ho : offL base p i.lo i.hi) (hbl : base.length ≤ 12) (hbc : base.length ≤ c) (hfit : base.all fitB = true) (hg : 1 ≤ gen ∧ gen ≤ 281474976710655) :
    Calls Try.prog 51 #[.pointer (some ⟨L, 0, none⟩), .int .i64 hf, .int .i64 gen, .slice p base.length c] w fun e w' =>
      e = .returned (.int .i64 (((writeS s hf gen base).2 : Nat) : Int)) ∧ DevP w' i 27 (writeS s hf gen base).1 ∧ OutL i.lo i.hi L w w' ∧
      ((writeS s hf gen base).2 ≠ 0 → Blk w' L 102 (logC i.D S at_ rs gen0 used holds clean)) ∧
      ((writeS s hf gen base).2 = 0 → ∃ rv, Blk w' L 102 (logC i.D S hf rv gen (base.length + 2 : Nat) true true) ∧ recJ w' w.heap.size rv (base.map z0)) := by
  have HD := hid hD
  have HW := hid hW
  have HBC := hid hb
  have HOF := hid ho
  have HFI := hid hfit
  have hih : i.hi ≤ w.heap.size := hD.hi
  have hLt : L < w.heap.size := hW.hL.lt
  clear hD hW hb ho hfit
  (go_enter Try.func51, Try.ntmps51; try simp only [List.append])
  go_wp2_with ((with_reducible refine wpList_unguard ?_ ?_); (focus rfl))
  refine Calls.mono (log_wipe i s L S at_ rs gen0 used holds clean hf w HD.out HW.out hh) ?_; rintro e w1 ⟨rfl, hd, ho⟩
  have HWR : Hid (writeS s hf gen base = if (wipeN s hf 8).2 ≠ 0 then wipeN s hf 8 else layL (wipeN s hf 8).1 hf (allR gen base) (base.length + 2)) := rfl
  replace HW := hid (HW.out.out ho)
  have HO := hid ho
  replace HD := hid hd
  have hb1 : cellsG w1 p 4 (base.map rcC) := HBC.out.outL ho HOF.out
  replace HBC := hid hb1
  clear hd ho hb1
  obtain ⟨⟨s1, e1⟩, hwp⟩ : ∃ x, wipeN s hf 8 = x := ⟨_, rfl⟩
  rw [hwp] at HD HWR ⊢
  clear hwp
  by_cases he1 : e1 = 0
  · subst he1
    rw [if_neg (by simp)] at HWR
    -- the rows of all records
    have hA1 := cellsG_one w1 (begR gen)
    have b1 : Below w1.heap.size w1 (w1.alloc (.cells #[.int .i64 126, .int .i64 0, .int .i64 0, .int .i64 gen] 37)) := (Below.refl _ _).alloc (Nat.le_refl _) _
    have z1 : (w1.alloc (.cells #[.int .i64 126, .int .i64 0, .int .i64 0, .int .i64 gen] 37)).heap.size = w1.heap.size + 1 := by simp
    have hA1' : cellsG (w1.alloc (.cells #[.int .i64 126, .int .i64 0, .int .i64 0, .int .i64 gen] 37)) (some ⟨w1.heap.size, 0, none⟩) 4 ([begR gen].map rcC) := hA1
    clear hA1
    have hB1 := HBC.out.below b1
    obtain ⟨w2, hw2⟩ : ∃ u, w1.alloc (.cells #[.int .i64 126, .int .i64 0, .int .i64 0, .int .i64 gen] 37) = u := ⟨_, rfl⟩
    rw [hw2] at b1 z1 hA1' hB1
    have hA2 : cellsG (w2.alloc (.cells #[.int .i64 127, .int .i64 0, .int .i64 0, .int .i64 gen] 37)) (some ⟨w2.heap.size, 0, none⟩) 4 ([seaR gen].map rcC) := cellsG_one w2 (seaR gen)
    have b2 : Below w2.heap.size w2 (w2.alloc (.cells #[.int .i64 127, .int .i64 0, .int .i64 0, .int .i64 gen] 37)) := (Below.refl _ _).alloc (Nat.le_refl _) _
    have z2 : (w2.alloc (.cells #[.int .i64 127, .int .i64 0, .int .i64 0, .int .i64 gen] 37)).heap.size = w2.heap.size + 1 := by simp
    have hA1'' := hA1'.below b2
    have hB2 := hB1.below b2
    obtain ⟨w3, hw3⟩ : ∃ u, w2.alloc (.cells #[.int .i64 127, .int .i64 0, .int .i64 0, .int .i64 gen] 37) = u := ⟨_, rfl⟩
    rw [hw3] at b2 z2 hA2 hA1'' hB2
    have b3 : Below w3.heap.size w3 (w3.alloc (.cells #[.slice (some ⟨w1.heap.size, 0, none⟩) 1 1, .slice p base.length c, .slice (some ⟨w2.heap.size, 0, none⟩) 1 1] 22)) := (Below.refl _ _).alloc (Nat.le_refl _) _
    have hX := Blk.new w3 22 #[.slice (some ⟨w1.heap.size, 0, none⟩) 1 1, .slice p base.length c, .slice (some ⟨w2.heap.size, 0, none⟩) 1 1]
    have HCC := hid (sl_Concat3 w3.heap.size 3 (some ⟨w1.heap.size, 0, none⟩) p (some ⟨w2.heap.size, 0, none⟩) 1 c 1 [begR gen] base [seaR gen] _ (hX.cell 0 _ rfl) (hX.cell 1 _ rfl) (hX.cell 2 _ rfl) (hA1''.below b3) (hB2.below b3) (hA2.below b3) (by simp) (by simp) (by simp; omega))
    have hbA : Below w1.heap.size w1 (w3.alloc (.cells #[.slice (some ⟨w1.heap.size, 0, none⟩) 1 1, .slice p base.length c, .slice (some ⟨w2.heap.size, 0, none⟩) 1 1] 22)) := (b1.trans (b2.mono (by omega))).trans (b3.mono (by omega))
    have HBA := hid hbA
    clear hbA hX b1 b2 b3 hA1' hA1'' hA2 hB1 hB2 z1 z2
    go_wp2_with ((with_reducible refine wpList_unguard ?_ ?_); (focus rfl))
    refine Calls.mono HCC.out ?_; rintro e w5 ⟨v, rfl, hJ, hb5⟩
    obtain ⟨p2, c2, rfl, hc2, hcg, hoff⟩ := hJ.cellsX
    have hB5 := HBA.out.trans (hb5.mono HBA.out.size)
    have HAL : Hid (cellsG w5 p2 4 ((allR gen base).map rcC)) := hcg
    have HOA : Hid (offP p2 i.lo i.hi) := fun a o s e => .inr (by have := hoff a o s e; have := HBA.out.size; have := HO.out.size; omega)
    obtain ⟨N, hN⟩ : ∃ N : Nat, base.length + 2 = N := ⟨_, rfl⟩
    have hlen : ([begR gen] ++ base ++ [seaR gen]).length = N := by rw [← hN]; simp
    rw [hN] at HWR
    rw [hlen] at hc2 ⊢
    replace HW := hid (HW.out.below hB5)
    replace HD := hid (HD.out.below hB5)
    replace HBC := hid (HBC.out.below hB5)
    replace HO := hid (HO.out.trans (Out.of hB5))
    have HOK := hid (fun k m hk hm => allR_ok hg HFI.out (k := k) (m := m) hk hm)
    have hal := allR_len gen base
    rw [hN] at hal
    clear HCC HBA hw2 hw3 hJ hb5 hcg hoff hB5 hlen
    generalize hga : allR gen base = all at *
    clear hga
    have HLN := hid hal
    clear hal
    go_wp2_with ((with_reducible refine wpList_unguard ?_ ?_); (focus rfl))
    go_loopw [34] (fun v wr => ∃ k : Nat, k ≤ N ∧ v = .int .i64 k ∧ (layL s1 hf all k).2 = 0 ∧ DevP wr i 27 (layL s1 hf all k).1 ∧ Out i.lo i.hi w5 wr) (fun v _ => N - (intOf v).toNat)
    case atStart => exact ⟨0, by omega, rfl, rfl, HD.out, Out.refl _ _ _⟩
    case round =>
      clear HD
      obtain ⟨k, hk, rfl, h0, hd, ho⟩ := hrel
      have HZ := hid h0
      have HDr := hid hd
      have HOr := hid ho
      clear h0 hd ho
      by_cases hlt : k < N
      · have hka : k < all.length := by rw [HLN.out]; exact hlt
        have hok := HOK.out k k hka (by omega)
        obtain ⟨b, o, rfl, g0, g1, g2, g3⟩ := recs_at (HAL.out.out HOr.out HOA.out) k hka
        have HST : Hid (layL s1 hf all (k + 1) = layS (layL s1 hf all k).1 hf k (pgI k all[k])) := by
          show _ = _
          rw [layL, if_neg (by rw [HZ.out]; simp), List.getD_eq_getElem?_getD, List.getElem?_eq_getElem hka]
          rfl
        generalize all[k] = r at *
        obtain ⟨rk, rsl, rn, rv⟩ := r
        simp only at g0 g1 g2 g3 hok
        obtain ⟨k', s', n', v', rfl, rfl, hn', rfl, ok1, ok2, ok3, ok4⟩ := recOk_nat hok
        have HPG : Hid (pgI k ⟨(k' : Int), s', rn, v'⟩ = recP k' s' k v') := by show _ = _; unfold pgI; simp
        have hA : Below wr.heap.size wr (wr.alloc (.cells #[.int .i64 (k' : Nat), .int .i64 (s' : Nat), .int .i64 rn, .int .i64 (v' : Nat)] 37)) := (Below.refl _ _).alloc (Nat.le_refl _) _
        have HDA := hid (HDr.out.below hA)
        have HWA := hid ((HW.out.out HOr.out).below hA)
        have HOA2 := hid (HOr.out.trans (Out.of hA))
        generalize (layL s1 hf all k).1 = s2 at *
        have HOKK := hid hok
        clear hA hn' hok
        go_wp2_with ((with_reducible refine wpList_unguard ?_ ?_); (focus rfl))
        clear g0 g1 g2 g3
        generalize wr.alloc (.cells #[.int .i64 (k' : Nat), .int .i64 (s' : Nat), .int .i64 rn, .int .i64 (v' : Nat)] 37) = wa at *
        refine Calls.mono (log_lay i s2 L S at_ rs gen0 used holds clean hf k k' s' v' rn wa HDA.out HWA.out HOKK.out hh (by omega)) ?_; rintro e w6 ⟨rfl, hd, ho⟩
        rw [← HPG.out, ← HST.out] at hd ⊢
        have HDB := hid hd
        have HOB := hid (HOA2.out.trans ho)
        clear hd ho
        obtain ⟨er, her⟩ : ∃ er, (layL s1 hf all (k + 1)).2 = er := ⟨_, rfl⟩
        rw [her]
        have HER := hid her
        clear her
        by_cases he : er = 0
        · subst he
          go_wp2_with ((with_reducible refine wpList_unguard ?_ ?_); (focus rfl))
          go_roundw
          case rel => exact ⟨k + 1, by omega, by go_num, HER.out, HDB.out, HOB.out⟩
          case measure => simp [intOf]; omega
        · have q1 : ((er : Int) != 0) = true := by rw [bne_iff_ne]; omega
          have HFN : Hid (writeS s hf gen base = layL s1 hf all (k + 1)) := by show _ = _; rw [HWR.out]; exact layL_stop (by rw [HER.out]; exact he) _ (by omega)
          go_wp2_with ((with_reducible refine wpList_unguard ?_ ?_); (focus rfl))
          go_ret
          rw [HFN.out, HER.out]
          exact ⟨rfl, HDB.out, OutL.of (HO.out.trans HOB.out), fun _ => (HW.out.out HOB.out).hL, fun h => absurd h he⟩
      · have hk2 : N = k := by omega
        subst hk2
        rename World => wB
        replace HWR : Hid (writeS s hf gen base = ((layL s1 hf all (N)).1, 0)) := by show _ = _; rw [HWR.out]; exact Prod.ext rfl HZ.out
        replace HW := hid (HW.out.out HOr.out)
        replace HBC := hid (HBC.out.outL HOr.out HOF.out)
        replace HO := hid (HO.out.trans HOr.out)
        clear HOr HAL HOA HOK HLN HZ
        generalize (layL s1 hf all (N)).1 = s2 at *
        have hwz : w.heap.size ≤ wB.heap.size := HO.out.size
        have hA : Below wB.heap.size wB (wB.alloc (.cells #[.slice none 0 0, .int .i64 gen, .int .i64 (N : Nat), .bool true, .bool true] 96)) := (Below.refl _ _).alloc (Nat.le_refl _) _
        have hX := Blk.new wB 96 #[.slice none 0 0, .int .i64 gen, .int .i64 (N : Nat), .bool true, .bool true]
        have HX := hid hX
        have HOA := hid hA
        clear hA hX
        go_wp2_with ((with_reducible refine wpList_unguard ?_ ?_); (focus rfl))
        generalize wB.alloc (.cells #[.slice none 0 0, .int .i64 gen, .int .i64 (N : Nat), .bool true, .bool true] 96) = wA at *
        go_loopw [54] (fun v wz => ∃ (k : Nat) (rv : Value), k ≤ base.length ∧ v = .int .i64 k ∧ Blk wz wB.heap.size 96 #[rv, .int .i64 gen, .int .i64 (N : Nat), .bool true, .bool true] ∧ recJ wz (wB.heap.size + 1) rv ((base.take k).map z0) ∧ Below wB.heap.size wB wz) (fun v _ => base.length - (intOf v).toNat)
        case atStart => exact ⟨0, _, by omega, rfl, HX.out, recJ.nil _ _, HOA.out⟩
        case round =>
          clear HX HOA
          obtain ⟨k, rv, hk, rfl, hX, hJ, hB⟩ := hrel
          have HX := hid hX
          have HJ := hid hJ
          have HB := hid hB
          have hzz : wB.heap.size < wr.heap.size := hX.lt
          clear hX hJ hB
          by_cases hlt : k < base.length
          · have HS := hid (z0_take base k hlt)
            obtain ⟨b, o, rfl, g0, g1, g2, g3⟩ := recs_at (HBC.out.below HB.out) k hlt
            have htl : ((base.take k).map z0).length = k := by rw [List.length_map, List.length_take]; omega
            have HTL := hid htl
            have hk100 : ((base.take k).map z0).length ≤ 100000 := by omega
            clear htl
            generalize base[k] = r at *
            generalize (base.take k).map z0 = D at *
            have b1 : Below wr.heap.size wr (wr.alloc (.cells #[.int .i64 r.k, .int .i64 r.s, .int .i64 0, .int .i64 r.v] 37)) := (Below.refl _ _).alloc (Nat.le_refl _) _
            have hR4 : R4 (wr.alloc (.cells #[.int .i64 r.k, .int .i64 r.s, .int .i64 0, .int .i64 r.v] 37)) wr.heap.size r.k r.s 0 r.v := heap_alloc_new wr _
            have z1 : (wr.alloc (.cells #[.int .i64 r.k, .int .i64 r.s, .int .i64 0, .int .i64 r.v] 37)).heap.size = wr.heap.size + 1 := by simp
            have hX1 := HX.out.below b1
            have hJ1 := HJ.out.below b1
            have hB1 := HB.out.trans (b1.mono HB.out.size)
            have c0 := hR4.c0
            have c1 := hR4.c1
            have c2 := hR4.c2
            have c3 := hR4.c3
            obtain ⟨wy, hwy⟩ : ∃ u, wr.alloc (.cells #[.int .i64 r.k, .int .i64 r.s, .int .i64 0, .int .i64 r.v] 37) = u := ⟨_, rfl⟩
            rw [hwy] at b1 hR4 z1 hX1 hJ1 hB1
            have b2 : Below wy.heap.size wy (wy.alloc (.cells #[.int .i64 r.k, .int .i64 r.s, .int .i64 0, .int .i64 r.v] 37)) := (Below.refl _ _).alloc (Nat.le_refl _) _
            have hCG : cellsG (wy.alloc (.cells #[.int .i64 r.k, .int .i64 r.s, .int .i64 0, .int .i64 r.v] 37)) (some ⟨wr.heap.size + 1, 0, none⟩) 4 ([z0 r].map rcC) := by rw [← z1]; exact cellsG_one wy (z0 r)
            have hJ2 := hJ1.below b2
            have hX2 := hX1.below b2
            have hB2 := hB1.trans (b2.mono hB1.size)
            have z2 : (wy.alloc (.cells #[.int .i64 r.k, .int .i64 r.s, .int .i64 0, .int .i64 r.v] 37)).heap.size = wr.heap.size + 1 + 1 := by simp [z1]
            rw [← hwy] at hCG hJ2 hX2 hB2 z2
            have HCG := hid hCG
            have HJ2 := hid hJ2
            have HX2 := hid hX2
            have HB2 := hid hB2
            have x0 := HX.out.cell 0 _ rfl
            have x0' := HX2.out.cell 0 _ rfl
            have hbz : wB.heap.size + 1 ≤ ((wr.alloc (.cells #[.int .i64 r.k, .int .i64 r.s, .int .i64 0, .int .i64 r.v] 37)).alloc (.cells #[.int .i64 r.k, .int .i64 r.s, .int .i64 0, .int .i64 r.v] 37)).heap.size := by rw [z2]; omega
            have x0y : (wr.alloc (.cells #[.int .i64 r.k, .int .i64 r.s, .int .i64 0, .int .i64 r.v] 37)).cell? ⟨wB.heap.size, 0, none⟩ = some rv := by rw [hwy]; exact hX1.cell 0 _ rfl
            have hne1 : wB.heap.size ≠ wr.heap.size := by omega
            clear b1 b2 hR4 z1 hX1 hJ1 hB1 hCG hJ2 hX2 hB2 z2 hwy
            go_wp2_with (first | ((with_reducible refine wpList_unguard ?_ ?_); (focus rfl)) | (at_builtin; refine wpList_pushJ rfl _ _ rfl (wB.heap.size + 1) rv D [z0 r] (some ⟨wr.heap.size + 1, 0, none⟩) 1 HJ2.out HCG.out (by simp) rfl _ rfl rfl hk100 (by simp) hbz ?_))
            intro v' w6 hown hbel
            have hX6 := HX2.out.belowN hbel (by omega)
            have hB6 := HB2.out.trans (hbel.mono (by have := HB2.out.size; omega))
            obtain ⟨g', cap', hv'⟩ : ∃ g' cap' : Nat, v' = .slice (some ⟨g', 0, none⟩) (k + 1) cap' := by
              rcases hown.2 with ⟨_, h0⟩ | ⟨g', cap, cur, e, _⟩
              · simp at h0
              · exact ⟨g', cap, by rw [e, List.length_append, HTL.out]; rfl⟩
            subst hv'
            have hJ7 := recJ.set hown wB.heap.size 0 (.slice (some ⟨g', 0, none⟩) (k + 1) cap') (Nat.lt_succ_self _)
            have hX7 := hX6.set 0 (.slice (some ⟨g', 0, none⟩) (k + 1) cap')
            have hB7 := Below.setCell hB6 (p := ⟨wB.heap.size, 0, none⟩) (Nat.le_refl _) (.slice (some ⟨g', 0, none⟩) (k + 1) cap')
            have y0 := hX6.cell 0 _ rfl
            have yf := hX6.free 0
            have HJ7 := hid hJ7
            have HX7 := hid hX7
            have HB7 := hid hB7
            clear hJ7 hX7 hB7 hown hbel hX6 hB6 x0 x0' x0y
            go_wp2_with ((with_reducible refine wpList_unguard ?_ ?_); (focus rfl))
            go_roundw
            case rel => exact ⟨k + 1, _, by omega, by go_num, HX7.out, by rw [HS.out]; exact HJ7.out, HB7.out⟩
            case measure => simp [intOf]; omega
          · have htk : base.take k = base := List.take_of_length_le (by omega)
            rw [htk] at HJ
            obtain ⟨p3, c3, hv3, hc3, hcg3, -⟩ := HJ.out.cellsX
            obtain ⟨M, hM⟩ : ∃ M, (base.map z0).length = M := ⟨_, rfl⟩
            rw [hM] at hv3 hc3
            subst hv3
            have x0 := HX.out.cell 0 _ rfl
            have x1 := HX.out.cell 1 _ rfl
            have x2 := HX.out.cell 2 _ rfl
            have x3 := HX.out.cell 3 _ rfl
            have x4 := HX.out.cell 4 _ rfl
            have hBr := HB.out
            have hL := (HW.out.hL).below hBr
            have hlo := HW.out.hLo
            have l1 := hL.cell 1 _ rfl
            have l2 := hL.cell 2 _ rfl
            have l3 := hL.cell 3 _ rfl
            have l4 := hL.cell 4 _ rfl
            have l5 := hL.cell 5 _ rfl
            have l10 := hL.cell 10 _ rfl
            have lf1 := hL.free 1
            have lf2 := hL.free 2
            have lf3 := hL.free 3
            have lf4 := hL.free 4
            have lf5 := hL.free 5
            have lf10 := hL.free 10
            have hneL : L ≠ wB.heap.size := by omega
            have HL := hid hL
            have HD7 := hid ((((((((HDr.out.below hBr).setLog L 1 (.slice p3 M c3) hlo).setLog L 2 (.int .i64 gen) hlo).setLog L 3 (.int .i64 (N : Nat)) hlo).setLog L 4 (.bool true) hlo).setLog L 5 (.bool true) hlo).setLog L 10 (.int .i64 (hf : Nat)) hlo))
            have HL7 := hid (((((((hL.set 1 (.slice p3 M c3)).set 2 (.int .i64 gen)).set 3 (.int .i64 (N : Nat))).set 4 (.bool true)).set 5 (.bool true)).set 10 (.int .i64 (hf : Nat))))
            have hLw : L < wB.heap.size + 1 := by omega
            have HJ7 := hid ((((((((HJ.out.set L 1 (.slice p3 M c3) hLw).set L 2 (.int .i64 gen) hLw).set L 3 (.int .i64 (N : Nat)) hLw).set L 4 (.bool true) hLw).set L 5 (.bool true) hLw).set L 10 (.int .i64 (hf : Nat)) hLw).weak (b' := w.heap.size) (by omega)))
            have HO7 := hid ((((((((OutL.of (L := L) (HO.out.trans (Out.of hBr))).set 1 (.slice p3 M c3)).set 2 (.int .i64 gen)).set 3 (.int .i64 (N : Nat))).set 4 (.bool true)).set 5 (.bool true)).set 10 (.int .i64 (hf : Nat))))
            clear hBr hL hcg3 htk
            go_wp2_with ((with_reducible refine wpList_unguard ?_ ?_); (focus rfl))
            go_ret
            rw [HWR.out]
            exact ⟨rfl, HD7.out, HO7.out, fun h => absurd rfl h, fun _ => ⟨.slice p3 M c3, by rw [hN]; exact HL7.out, HJ7.out⟩⟩
  · have q1 : ((e1 : Int) != 0) = true := by rw [bne_iff_ne]; omega
    rw [if_pos he1] at HWR
    go_wp2_with ((with_reducible refine wpList_unguard ?_ ?_); (focus rfl))
    go_ret
    rw [HWR.out]
    exact ⟨rfl, HD.out, OutL.of HO.out, fun _ => HW.out.hL, fun h => absurd h he1⟩
end Go.Proofs.Ytngkmlchblgmeaa

namespace Tri
open Go Go.RowKit Go.Proofs.Ytngkmlchblgmeaa
/-- A log is made anew. -/
def formatS (s : FS) (base : List RecI) : FS × Int :=
  if fitsE base ≠ 0 then (s, fitsE base) else if (wipeN s 1 8).2 ≠ 0 then ((wipeN s 1 8).1, ((wipeN s 1 8).2 : Nat)) else ((writeS (wipeN s 1 8).1 0 1 base).1, ((writeS (wipeN s 1 8).1 0 1 base).2 : Nat))
theorem fitsE_zero {l : List RecI} (h : fitsE l = 0) : l.all fitB = true ∧ l.length ≤ 12 := by
  unfold fitsE at h
  split at h
  · rename_i ha
    split at h
    · cases h
    · exact ⟨ha, by omega⟩
  · cases h
end Tri
namespace Go.Proofs.Ytngkmlchblgmeaa
open Go.RowKit Tri

theorem log_Append_nil (k s n v : Int) (w : World) :
    Calls Try.prog 19 #[.pointer none, .agg #[.int .i64 k, .int .i64 s, .int .i64 n, .int .i64 v]] w fun e w' => e = .returned (.int .i64 1) ∧ Below w.heap.size w w' := by
  have hb := (Below.refl w.heap.size w).alloc (Nat.le_refl _) (.cells #[.int .i64 k, .int .i64 s, .int .i64 n, .int .i64 v] 37)
  (go_enter Try.func19, Try.ntmps19; try simp only [List.append])
  go_wp2_with ((with_reducible refine wpList_unguard ?_ ?_); (focus rfl))
  go_ret
  exact ⟨rfl, hb⟩
theorem log_Compact_nil (v : Value) (w : World) :
    Calls Try.prog 20 #[.pointer none, v] w fun e w' => e = .returned (.int .i64 1) ∧ w = w' := by
  (go_enter Try.func20, Try.ntmps20; try simp only [List.append])
  go_wp2_with ((with_reducible refine wpList_unguard ?_ ?_); (focus rfl))
  go_ret
  exact ⟨rfl, rfl⟩
theorem log_All_nil (w : World) :
    Calls Try.prog 21 #[.pointer none] w fun e w' => e = .returned (.slice none 0 0) ∧ w = w' := by
  (go_enter Try.func21, Try.ntmps21; try simp only [List.append])
  go_wp2_with ((with_reducible refine wpList_unguard ?_ ?_); (focus rfl))
  go_ret
  exact ⟨rfl, rfl⟩
theorem log_Clean_nil (w : World) :
    Calls Try.prog 22 #[.pointer none] w fun e w' => e = .returned (.bool false) ∧ w = w' := by
  (go_enter Try.func22, Try.ntmps22; try simp only [List.append])
  go_wp2_with ((with_reducible refine wpList_unguard ?_ ?_); (focus rfl))
  go_ret
  exact ⟨rfl, rfl⟩
theorem log_Room_nil (w : World) :
    Calls Try.prog 23 #[.pointer none] w fun e w' => e = .returned (.int .i64 0) ∧ w = w' := by
  (go_enter Try.func23, Try.ntmps23; try simp only [List.append])
  go_wp2_with ((with_reducible refine wpList_unguard ?_ ?_); (focus rfl))
  go_ret
  exact ⟨rfl, rfl⟩
theorem log_Gen_nil (w : World) :
    Calls Try.prog 24 #[.pointer none] w fun e w' => e = .returned (.int .i64 0) ∧ w = w' := by
  (go_enter Try.func24, Try.ntmps24; try simp only [List.append])
  go_wp2_with ((with_reducible refine wpList_unguard ?_ ?_); (focus rfl))
  go_ret
  exact ⟨rfl, rfl⟩
theorem log_Clean (L D S at_ : Nat) (rs : Value) (gen used : Int) (holds clean : Bool) (w : World) (hL : Blk w L 102 (logC D S at_ rs gen used holds clean)) :
    Calls Try.prog 22 #[.pointer (some ⟨L, 0, none⟩)] w fun e w' => e = .returned (.bool clean) ∧ w = w' := by
  have c5 : w.cell? ⟨L, 5, none⟩ = some (.bool clean) := hL.cell 5 _ rfl
  clear hL
  (go_enter Try.func22, Try.ntmps22; try simp only [List.append])
  go_wp2_with ((with_reducible refine wpList_unguard ?_ ?_); (focus rfl))
  go_ret
  exact ⟨rfl, rfl⟩
theorem log_Room (L D S at_ : Nat) (rs : Value) (gen : Int) (used : Nat) (holds clean : Bool) (w : World) (hL : Blk w L 102 (logC D S at_ rs gen used holds clean)) (hu : used ≤ 16) :
    Calls Try.prog 23 #[.pointer (some ⟨L, 0, none⟩)] w fun e w' => e = .returned (.int .i64 (16 - used)) ∧ w = w' := by
  have c3 : w.cell? ⟨L, 3, none⟩ = some (.int .i64 (used : Nat)) := hL.cell 3 _ rfl
  clear hL
  (go_enter Try.func23, Try.ntmps23; try simp only [List.append])
  go_wp2_with ((with_reducible refine wpList_unguard ?_ ?_); (focus rfl))
  go_ret
  exact ⟨rfl, rfl⟩
theorem log_Gen (L D S at_ : Nat) (rs : Value) (gen used : Int) (holds clean : Bool) (w : World) (hL : Blk w L 102 (logC D S at_ rs gen used holds clean)) :
    Calls Try.prog 24 #[.pointer (some ⟨L, 0, none⟩)] w fun e w' => e = .returned (.int .i64 gen) ∧ w = w' := by
  have c2 : w.cell? ⟨L, 2, none⟩ = some (.int .i64 gen) := hL.cell 2 _ rfl
  clear hL
  (go_enter Try.func24, Try.ntmps24; try simp only [List.append])
  go_wp2_with ((with_reducible refine wpList_unguard ?_ ?_); (focus rfl))
  go_ret
  exact ⟨rfl, rfl⟩
set_option maxHeartbeats 8000000 in
set_option maxRecDepth 100000 in
theorem log_Format_nil (d p st : Int) (v : Value) (w : World) :
    Calls Try.prog 16 #[.pointer none, .agg #[.int .i64 d, .int .i64 p, .int .i64 st], v] w fun e w' => e = .returned (.tuple #[.pointer none, .int .i64 1]) ∧ Below w.heap.size w w' := by
  obtain ⟨w1, hw1, -, hG, hB⟩ := geo_box w 39 d p st
  have HB := hid hB
  have c0 := hG.c0
  have c1 := hG.c1
  have c2 := hG.c2
  clear hG hB
  (go_enter Try.func16, Try.ntmps16; try simp only [List.append])
  go_wp2_with ((with_reducible refine wpList_unguard ?_ ?_); (focus rfl))
  refine Calls.mono (log_made_nil d p st w1) ?_; rintro e w2 ⟨rfl, hb⟩
  (replace HB := hid (HB.out.trans (hb.mono HB.out.size)); clear hb)
  clear c0 c1 c2
  go_wp2_with ((with_reducible refine wpList_unguard ?_ ?_); (focus rfl))
  go_ret2
  exact ⟨rfl, HB.out⟩
set_option maxHeartbeats 8000000 in
set_option maxRecDepth 100000 in
theorem log_Format (i : DI) (s : FS) (base : List RecI) (p : Option Addr) (c : Nat) (w : World) (hD : DevP w i 27 s) (hb : cellsG w p 4 (base.map rcC)) (ho : offL base p i.lo i.hi) (hbl : base.length ≤ 100000) (hbc : base.length ≤ c) :
    Calls Try.prog 16 #[.pointer (some ⟨i.D, 0, none⟩), .agg #[.int .i64 1, .int .i64 2, .int .i64 1], .slice p base.length c] w fun e w' =>
      DevP w' i 27 (formatS s base).1 ∧ Out i.lo i.hi w w' ∧
      ((formatS s base).2 ≠ 0 → e = .returned (.tuple #[.pointer none, .int .i64 (formatS s base).2])) ∧
      ((formatS s base).2 = 0 → ∃ L S rv b0, e = .returned (.tuple #[.pointer (some ⟨L, 0, none⟩), .int .i64 0]) ∧ w.heap.size ≤ L ∧ w.heap.size ≤ S ∧ S ≠ L ∧ L < b0 ∧ S < b0 ∧ b0 ≤ w'.heap.size ∧ isC w' S ∧ Blk w' L 102 (logC i.D S 0 rv 1 (base.length + 2 : Nat) true true) ∧ recJ w' b0 rv (base.map z0)) := by
  obtain ⟨w1, hw1, -, hG, hB⟩ := geo_box w 39 1 2 1
  have HB := hid hB
  have HD := hid (hD.below hB)
  have HBC := hid (hb.below hB)
  have HOF := hid ho
  have c0 := hG.c0
  have c1 := hG.c1
  have c2 := hG.c2
  have hih : i.hi ≤ w.heap.size := hD.hi
  clear hG hB hD hb ho
  (go_enter Try.func16, Try.ntmps16; try simp only [List.append])
  go_wp2_with ((with_reducible refine wpList_unguard ?_ ?_); (focus rfl))
  refine Calls.mono (log_made i s w1 HD.out) ?_; rintro e w2 ⟨L, S, rfl, hS, hL, hSL, hLb, hSc, hb⟩
  have hz1 := HB.out.size
  have hW : LW i L S (logC i.D S 0 (.slice none 0 0) 0 0 false false) w2 := ⟨hLb, hSc, .inr (by omega), .inr (by omega)⟩
  have HW := hid hW
  replace HD := hid (HD.out.below hb)
  replace HBC := hid (HBC.out.below hb)
  replace HB := hid (HB.out.trans (hb.mono HB.out.size))
  have HFS : Hid (formatS s base = if fitsE base ≠ 0 then (s, fitsE base) else if (wipeN s 1 8).2 ≠ 0 then ((wipeN s 1 8).1, ((wipeN s 1 8).2 : Nat)) else ((writeS (wipeN s 1 8).1 0 1 base).1, ((writeS (wipeN s 1 8).1 0 1 base).2 : Nat))) := rfl
  clear hb hW hLb hSc c0 c1 c2 hw1
  go_wp2_with ((with_reducible refine wpList_unguard ?_ ?_); (focus rfl))
  refine Calls.mono (log_fits p base.length c base w2 rfl hbl hbc HBC.out) ?_; rintro e w3 ⟨rfl, hb⟩
  replace HW := hid (HW.out.below hb)
  replace HD := hid (HD.out.below hb)
  replace HBC := hid (HBC.out.below hb)
  replace HB := hid (HB.out.trans (hb.mono HB.out.size))
  clear hb
  obtain ⟨fe, hfe⟩ : ∃ fe, fitsE base = fe := ⟨_, rfl⟩
  rw [hfe] at HFS ⊢
  have HFE := hid hfe
  clear hfe
  by_cases hf0 : fe = 0
  · subst hf0
    rw [if_neg (by simp)] at HFS
    obtain ⟨hfit, hl12⟩ := fitsE_zero HFE.out
    have HFT := hid hfit
    clear hfit
    go_wp2_with ((with_reducible refine wpList_unguard ?_ ?_); (focus rfl))
    refine Calls.mono (log_wipe i s L S 0 _ 0 0 false false 1 w3 HD.out HW.out (by omega)) ?_; rintro e w4 ⟨rfl, hd, ho⟩
    replace HW := hid (HW.out.out ho)
    replace HD := hid hd
    replace HBC := hid (HBC.out.outL ho HOF.out)
    have HO := hid ((Out.of HB.out).trans ho)
    clear hd ho
    obtain ⟨⟨s1, e1⟩, hwp⟩ : ∃ x, wipeN s 1 8 = x := ⟨_, rfl⟩
    rw [hwp] at HD HFS ⊢
    clear hwp
    by_cases he1 : e1 = 0
    · subst he1
      rw [if_neg (by simp)] at HFS
      go_wp2_with ((with_reducible refine wpList_unguard ?_ ?_); (focus rfl))
      refine Calls.mono (log_write i s1 L S 0 _ 0 0 false false 0 1 base p c w4 HD.out HW.out (by omega) HBC.out HOF.out hl12 hbc HFT.out (by omega)) ?_; rintro e w5 ⟨rfl, hd, hoL, hbad, hgood⟩
      have hz4 : w.heap.size ≤ w4.heap.size := HO.out.size
      have hO5 : Out i.lo i.hi w w5 := by
        have h1 := HO.out
        exact ⟨hoL.os.trans h1.os, hoL.tape.trans h1.tape, hoL.output.trans h1.output, Nat.le_trans h1.size hoL.size, fun k hk hh => (hoL.block k (Nat.lt_of_lt_of_le hk h1.size) hh (by omega)).trans (h1.block k hk hh)⟩
      have hS5 : isC w5 S := by
        have h1 := HW.out.hS
        unfold isC at h1 ⊢
        rw [hoL.block S (Array.getElem?_eq_some_iff.1 h1).1 HW.out.hSo (by omega)]
        exact h1
      have HO5 := hid hO5
      have HS5 := hid hS5
      replace HD := hid hd
      have HBAD := hid hbad
      have HGOOD := hid hgood
      have hz5 := hoL.size
      have hL4 := HW.out.hL.lt
      have hS4 := HW.out.hS.lt
      clear hd hoL hbad hgood hO5 hS5
      obtain ⟨⟨s2, e2⟩, hwr⟩ : ∃ x, writeS s1 0 1 base = x := ⟨_, rfl⟩
      rw [hwr] at HD HFS HBAD HGOOD ⊢
      clear hwr
      by_cases he2 : e2 = 0
      · subst he2
        go_wp2_with ((with_reducible refine wpList_unguard ?_ ?_); (focus rfl))
        go_ret2
        rw [HFS.out]
        refine ⟨HD.out, HO5.out, fun h => absurd rfl h, fun _ => ?_⟩
        obtain ⟨rv, hb1, hb2⟩ := HGOOD.out (by simp)
        exact ⟨L, S, rv, w4.heap.size, rfl, by omega, by omega, by omega, hL4, hS4, hz5, HS5.out, hb1, hb2⟩
      · have q2 : ((e2 : Int) != 0) = true := by rw [bne_iff_ne]; omega
        go_wp2_with ((with_reducible refine wpList_unguard ?_ ?_); (focus rfl))
        go_ret2
        rw [HFS.out]
        exact ⟨HD.out, HO5.out, fun _ => rfl, fun h => absurd h (by simpa using he2)⟩
    · have q1 : ((e1 : Int) != 0) = true := by rw [bne_iff_ne]; omega
      rw [if_pos he1] at HFS
      go_wp2_with ((with_reducible refine wpList_unguard ?_ ?_); (focus rfl))
      go_ret2
      rw [HFS.out]
      exact ⟨HD.out, HO.out, fun _ => rfl, fun h => absurd h (by simpa using he1)⟩
  · have q1 : (fe != 0) = true := by rw [bne_iff_ne]; exact hf0
    rw [if_pos hf0] at HFS
    go_wp2_with ((with_reducible refine wpList_unguard ?_ ?_); (focus rfl))
    go_ret2
    rw [HFS.out]
    exact ⟨HD.out, Out.of HB.out, fun _ => rfl, fun h => absurd h hf0⟩
end Go.Proofs.Ytngkmlchblgmeaa

namespace Go.Proofs.Ytngkmlchblgmeaa
open Go.RowKit

section
variable {P : Program} {Q : Exit → Act → World → Prop} {l : List Oper}
theorem wp_region_stg3 {id : Nat} {a0 : Act} {w0 : World} (m : Nat) (st : List (List Nat × Nat)) (tl : List Nat) (C D0 : World → Prop) (hCD : ∀ u, C u → D0 u) (hm : P.follows .mixedOrders = true) (hB : stgB2 l m st tl = true)
    (hQ : ∀ (t : Option Tmp) (v : Value) c a w, Q (.panic c) (a.put t v) w → Q (.panic c) a w) (hC : C w0.drew)
    (h : wpQuiet P (l.take m).toArray C (fun a' => ∀ w', C w' → wpSt P l.toArray Q (tl.map (opAt l)) (stOf l st) D0 a' w') (l.take m) a0) : (Code.region id l.toArray true).wp P Q a0 w0 := by
  unfold stgB2 at hB
  simp only [Bool.and_eq_true, decide_eq_true_eq] at hB
  obtain ⟨hac, hgd, hlx, hanc, hml, hns, htm, hst⟩ := hB
  have hac' : ∀ (i : Nat) (o : Oper), l.toArray[i]? = some o → ∀ e : Edge, e ∈ o.after → Region.binds .any e = true → e.on < i := by
    intro i o hi e he hbd
    rw [List.all_eq_true] at hac
    have hi' : l[i]? = some o := by simpa using hi
    have := hac (o.after.all fun e => !Region.binds .any e || decide (e.on < i)) (by
      rw [List.mem_mapIdx]
      have hlt := (List.getElem?_eq_some_iff.1 hi').1
      refine ⟨i, hlt, ?_⟩
      have := (List.getElem?_eq_some_iff.1 hi').2
      simp [this])
    rw [Array.all_eq_true_iff_forall_mem] at this
    simpa [hbd] using this e he
  have hgd' : ∀ (i : Nat) (o : Oper), i < m → l[i]? = some o → ∀ g b, o.guard = some (g, b) → g < m := by
    intro i o hi ho g b hg
    rw [List.all_eq_true] at hgd
    have := hgd o (by
      have : (l.take m)[i]? = some o := by rw [List.getElem?_take, if_pos hi]; exact ho
      exact List.mem_of_getElem? this)
    rw [hg] at this
    simpa using this
  have hanc' : ∀ i, m ≤ i → i < l.length → ∀ j, j < m → (ancS l.toArray i).getD j false = true := by
    intro i h1 h2 j hj
    have := List.all_eq_true.1 hanc i (List.mem_range.2 h2)
    simp only [Bool.or_eq_true, decide_eq_true_eq] at this
    exact List.all_eq_true.1 (this.resolve_left (by omega)) j (List.mem_range.2 hj)
  refine wp_region_any hm ?_
  have hq : wpAnyQ P .any (l.take m).toArray C (fun a' => ∀ w', C w' → wpSt P l.toArray Q (tl.map (opAt l)) (stOf l st) D0 a' w') m (Array.replicate m false) a0 := by
    unfold Region.lexB at hlx
    rw [Bool.and_eq_true] at hlx
    have h1 : (l.take m).length = m := by rw [List.length_take]; omega
    have := wpAnyQ_lex (P := P) (C := C) (md := .any) hlx.1 (l.take m) 0 (Array.replicate m false) a0 (by simp) (by have := hlx.2; simp only [List.size_toArray, h1] at this; rw [h1]; exact this) h
    rw [h1] at this
    exact this
  have hfin : ∀ (L : Array Bool) (a' : Act) (w' : World), L.size = l.length → DC l.toArray L → (∀ j, j < m → L[j]? = some true) → (∀ j, m ≤ j → j < l.length → L[j]? = some false) → C w' →
      wpSt P l.toArray Q (tl.map (opAt l)) (stOf l st) D0 a' w' → ∃ f, wpAny P .any l.toArray Q f L a' w' := by
    intro L a' w' hsz hdc hT hF hC' hw
    have hL : L = Array.replicate m true ++ Array.replicate (l.length - m) false := by
      apply Array.ext_getElem?
      intro j
      rw [Array.getElem?_append, Array.getElem?_replicate, Array.getElem?_replicate, Array.size_replicate]
      by_cases hj : j < m
      · rw [if_pos hj, if_pos hj, hT j hj]
      · rw [if_neg hj]
        by_cases hjl : j < l.length
        · rw [if_pos (by omega), hF j (by omega) hjl]
        · rw [if_neg (by omega), Array.getElem?_eq_none (by omega)]
    have hnt : ∀ t ∈ tl, L.getD t false = false := by
      intro t ht
      have h1 := List.all_eq_true.1 htm t ht
      simp only [decide_eq_true_eq] at h1
      rw [Array.getD_eq_getD_getElem?]
      by_cases hjl : t < l.length
      · rw [hF t h1 hjl]; rfl
      · rw [Array.getElem?_eq_none (by omega)]; rfl
    rw [← hL] at hst
    exact ⟨_, wpK.any _ _ _ _ (okSt_sound (Region.noSelect_spec hns) hQ st D0 L a' w' hst hdc hnt (hCD _ hC') hw _ (Nat.le_refl _))⟩
  refine wpAny_invB hac' (fun L a w => DC l.toArray L ∧ (((∃ j, j < m ∧ L[j]? = some false) ∧ (∀ j, m ≤ j → j < l.length → L[j]? = some false) ∧ C w ∧ ∃ fuel, wpAnyQ P .any (l.take m).toArray C (fun a' => ∀ w', C w' → wpSt P l.toArray Q (tl.map (opAt l)) (stOf l st) D0 a' w') fuel (cutL L m) a) ∨
    (∃ f, wpAny P .any l.toArray Q f L a w))) ?_ ?_ _ _ _ _ (by simp) ?_ ?_
  · intro i o ho L a w hs hI hi he
    obtain ⟨hdc, hI⟩ := hI
    have hsz : L.size = l.length := by simpa using hs
    have ho' : l[i]? = some o := by simpa using ho
    have hil : i < l.length := (List.getElem?_eq_some_iff.1 ho').1
    have hrdy : i ∈ Region.ready .any l.toArray L := by
      rw [mem_ready]
      refine ⟨by rw [Array.getD_eq_getD_getElem?, hi]; rfl, o, ho, fun e h1 h2 => by rw [Array.getD_eq_getD_getElem?, he e h1 h2]; rfl⟩
    have hdcn := hdc.set hrdy
    rcases hI with ⟨⟨j0, hj0, hjf⟩, hfar, hCw, fuel, hf⟩ | ⟨f, hW⟩
    · have him : i < m := by
        rcases Nat.lt_or_ge i m with h1 | h1
        · exact h1
        · have := ancS_sound hdc (fun o' h2 e h3 h4 => by rw [ho] at h2; cases h2; rw [Array.getD_eq_getD_getElem?, he e h3 h4]; rfl) j0 (hanc' i h1 hil j0 hj0)
          rw [Array.getD_eq_getD_getElem?, hjf] at this
          cases this
      have hrd : i ∈ Region.ready .any (l.take m).toArray (cutL L m) := by
        rw [mem_ready]
        refine ⟨?_, o, by rw [take_get him]; exact ho', ?_⟩
        · rw [cutL_getD L m i _ him, Array.getD_eq_getD_getElem?, hi]; rfl
        · intro e h1 h2
          have h3 := hac' i o ho e h1 h2
          rw [cutL_getD L m e.on _ (by omega), Array.getD_eq_getD_getElem?, he e h1 h2]; rfl
      cases fuel with
      | zero => rw [hf.1] at hrd; cases hrd
      | succ fuel =>
        have hqo := hf.2 i hrd
        have hnext : ∀ (a' : Act) (w' : World), C w' → wpAnyQ P .any (l.take m).toArray C (fun a' => ∀ w', C w' → wpSt P l.toArray Q (tl.map (opAt l)) (stOf l st) D0 a' w') fuel ((cutL L m).setIfInBounds i true) a' →
            DC l.toArray (L.setIfInBounds i true) ∧ (((∃ j, j < m ∧ (L.setIfInBounds i true)[j]? = some false) ∧ (∀ j, m ≤ j → j < l.length → (L.setIfInBounds i true)[j]? = some false) ∧ C w' ∧ ∃ fuel, wpAnyQ P .any (l.take m).toArray C (fun a' => ∀ w', C w' → wpSt P l.toArray Q (tl.map (opAt l)) (stOf l st) D0 a' w') fuel (cutL (L.setIfInBounds i true) m) a') ∨
            (∃ f, wpAny P .any l.toArray Q f (L.setIfInBounds i true) a' w')) := by
          intro a' w' hC' hq'
          refine ⟨hdcn, ?_⟩
          have hfar' : ∀ j, m ≤ j → j < l.length → (L.setIfInBounds i true)[j]? = some false := by
            intro j h1 h2
            rw [Array.getElem?_setIfInBounds_ne (by omega)]
            exact hfar j h1 h2
          by_cases hall : ∃ j, j < m ∧ (L.setIfInBounds i true)[j]? = some false
          · exact .inl ⟨hall, hfar', hC', fuel, by rw [cutL_set]; exact hq'⟩
          · have hallT : ∀ j, j < m → (L.setIfInBounds i true)[j]? = some true := by
              intro j hj
              have hjl : j < (L.setIfInBounds i true).size := by simp; omega
              rw [Array.getElem?_eq_getElem hjl]
              cases hb : (L.setIfInBounds i true)[j] with
              | true => rfl
              | false => exact absurd ⟨j, hj, by rw [Array.getElem?_eq_getElem hjl, hb]⟩ hall
            have hnil : Region.ready .any (l.take m).toArray ((cutL L m).setIfInBounds i true) = [] := by
              rw [List.eq_nil_iff_forall_not_mem]
              intro j hj
              obtain ⟨h1, oj, h2, _⟩ := mem_ready.1 hj
              have hjm : j < m := by
                have := (Array.getElem?_eq_some_iff.1 h2).1
                simp only [List.size_toArray, List.length_take] at this
                omega
              rw [← cutL_set, cutL_getD _ m j _ hjm, Array.getD_eq_getD_getElem?, hallT j hjm] at h1
              cases h1
            refine .inr (hfin _ a' w' (by simpa using hsz) hdcn hallT hfar' hC' ?_)
            cases fuel with
            | zero => exact hq'.2 w' hC'
            | succ fuel => exact hq'.1 hnil w' hC'
        unfold qOp at hqo
        rw [take_get him, ho'] at hqo
        simp only [] at hqo
        rw [yielded_take l m a.tmps o (hgd' i o him ho')] at hqo
        unfold wpOp
        rw [ho]
        simp only []
        split
        · rename_i hw
          simp only [hw, if_true] at hqo
          exact .inl (Oper.wp_of_quiet hCw (fun a' w' h1 h2 => hnext a' w' h1 h2) hqo)
        · rename_i hw
          simp only [hw] at hqo
          exact hnext _ _ hCw hqo
    · cases f with
      | zero => rw [hW.1] at hrdy; cases hrdy
      | succ f => exact wpOp_mono (fun a' w' h' => ⟨hdcn, .inr ⟨f, h'⟩⟩) (hW.2 i hrdy)
  · intro L a w hall hI
    rcases hI.2 with ⟨⟨j0, hj0, hjf⟩, _⟩ | ⟨f, hW⟩
    · have := hall j0 (by simp; omega)
      rw [hjf] at this
      cases this
    · cases f with
      | zero => exact hW.2
      | succ f =>
        refine hW.1 ?_
        rw [List.eq_nil_iff_forall_not_mem]
        intro j hj
        obtain ⟨h1, oj, h2, _⟩ := mem_ready.1 hj
        rw [Array.getD_eq_getD_getElem?, hall j (Array.getElem?_eq_some_iff.1 h2).1] at h1
        cases h1
  · have hrep : ∀ j, j < l.length → (Array.replicate l.toArray.size false)[j]? = some false := by
      intro j hj
      rw [Array.getElem?_replicate, if_pos (by simpa using hj)]
    have hdc0 : DC l.toArray (Array.replicate l.toArray.size false) := by
      intro k o hk hl
      rw [Array.getD_eq_getD_getElem?, Array.getElem?_replicate] at hl
      split at hl <;> simp at hl
    refine ⟨hdc0, ?_⟩
    by_cases hm0 : m = 0
    · subst hm0
      have : wpQuiet P (l.take 0).toArray C (fun a' => ∀ w', C w' → wpSt P l.toArray Q (tl.map (opAt l)) (stOf l st) D0 a' w') [] a0 := h
      exact .inr (hfin _ a0 _ (by simp) hdc0 (fun j hj => by omega) (fun j _ hj => hrep j hj) hC (this _ hC))
    · refine .inl ⟨⟨0, by omega, hrep 0 (by omega)⟩, fun j _ hj => hrep j hj, hC, m, ?_⟩
      have : cutL (Array.replicate l.toArray.size false) m = Array.replicate m false := by
        unfold cutL
        rw [Array.toList_replicate, List.take_replicate]
        simp only [List.size_toArray, Nat.min_eq_left hml]
        exact List.toArray_replicate _ _
      rw [this]
      exact hq
  · unfold unlisted
    simp
end
end Go.Proofs.Ytngkmlchblgmeaa

namespace Tri
open Go Go.RowKit Go.Proofs.Ytngkmlchblgmeaa
/-- A log: its block and sums outside of the device, its records in a row of its own. -/
structure LogP (i : DI) (L S at_ : Nat) (rs : Value) (recs : List RecI) (gen : Int) (used : Nat) (holds clean : Bool) (b0 : Nat) (w : World) : Prop where
  hw : LW i L S (logC i.D S at_ rs gen used holds clean) w
  hj : recJ w b0 rs recs
  hL : L < b0
  hS : S < b0
  hi : i.hi ≤ b0
  ne : S ≠ L
theorem LogP.below {i : DI} {L S at_ : Nat} {rs : Value} {recs : List RecI} {gen : Int} {used : Nat} {holds clean : Bool} {b0 : Nat} {w w' : World} (h : LogP i L S at_ rs recs gen used holds clean b0 w) (hb : Below w.heap.size w w') : LogP i L S at_ rs recs gen used holds clean b0 w' :=
  ⟨h.hw.below hb, h.hj.below hb, h.hL, h.hS, h.hi, h.ne⟩
theorem LogP.out {i : DI} {L S at_ : Nat} {rs : Value} {recs : List RecI} {gen : Int} {used : Nat} {holds clean : Bool} {b0 : Nat} {w w' : World} (h : LogP i L S at_ rs recs gen used holds clean b0 w) (ho : Out i.lo i.hi w w') : LogP i L S at_ rs recs gen used holds clean b0 w' :=
  ⟨h.hw.out ho, h.hj.keep fun g h1 h2 _ => ho.block g h2 (.inr (Nat.le_trans h.hi h1)), h.hL, h.hS, h.hi, h.ne⟩
/-- What lies outside of the device, of the log's own block and of its records' stays. -/
structure OutA (lo hi L : Nat) (rs : Value) (w w' : World) : Prop where
  os : w'.os = w.os
  tape : w'.tape = w.tape
  output : w'.output = w.output
  size : w.heap.size ≤ w'.heap.size
  block : ∀ k, k < w.heap.size → (k < lo ∨ hi ≤ k) → k ≠ L → rs.ownBlock ≠ some k → w'.heap[k]? = w.heap[k]?
theorem OutA.of {lo hi L : Nat} {rs : Value} {w w' : World} (h : Out lo hi w w') : OutA lo hi L rs w w' := ⟨h.os, h.tape, h.output, h.size, fun k h1 h2 _ _ => h.block k h1 h2⟩
/-- A record is appended: the error, the device, the pages, whether it is clean. -/
def appE (s : FS) (at_ used : Nat) (r : RecI) : Int := if fitB r = false then 1 else if used = 16 then 9 else ((layS s at_ used (pgI used r)).2 : Nat)
end Tri
namespace Go.Proofs.Ytngkmlchblgmeaa
open Go.RowKit Tri

/-- Records appended to an own row; all else stays. -/
theorem wpList_pushJg {wr : World} {ops : Array Oper} {rest : List Oper} {o : Oper} {a : Act} {Q : Exit → Act → World → Prop} (hgd : o.guard = none) (s x : Operand)
    (ho : o.op = .call { callee := .builtin .append, args := #[s, x], argTypes := #[22, 22] })
    (base : Nat) (v : Value) (l y : List RecI) (q : Option Addr) (c : Nat) (hown : recJ wr base v l) (hq : cellsG wr q 4 (y.map rcC)) (hy : y ≠ []) (hs : a.eval s = v) (n : Nat) (hn : n = y.length) (hx : a.eval x = .slice q n c) (hlen : l.length ≤ 100000) (hlen2 : y.length ≤ 100000) (hbase : base ≤ wr.heap.size)
    (h : ∀ v' w', recJ w' base v' (l ++ y) → wr.grownBy w' v.ownBlock → wpList Try.prog ops Q rest (a.put o.dst v') w') : wpList Try.prog ops Q (o :: rest) a wr := by
  subst hn
  obtain ⟨i0, hi, hz0, hz1, hz2⟩ := info_parts Try.infoRec5
  obtain ⟨a0, o0, rfl, _⟩ := hq 0 (by rw [List.length_map]; exact List.length_pos_iff.2 hy)
  refine wpList_append_own wr hgd s x 22 ho base 37 i0 (.agg #[.int .i64 0, .int .i64 0, .int .i64 0, .int .i64 0]) 4 32 Try.underlying22 hi hz0 hz1 hz2 rfl (by decide) v l.length (l.flatMap rcC) hs hown
    ⟨a0, o0, none⟩ y.length c (y.flatMap rcC) hx (flatMap_len y) ?_ ?_ ?_ ?_ hbase ?_
  · intro j u hj
    obtain ⟨i, k, h1, h2, rfl, h3⟩ := flat_get y j u hj
    obtain ⟨a', o', e, hc⟩ := hq i (by rw [List.length_map]; exact h1)
    simp only [Option.some.injEq, Addr.mk.injEq] at e
    obtain ⟨rfl, rfl, _⟩ := e
    have := hc k u h3
    rw [show (⟨a0, o0, none⟩ : Addr).add (i * 4 + k) = ⟨a0, o0 + i * 4 + k, none⟩ from by unfold Addr.add; split <;> simp_all [Nat.add_assoc]]
    exact this
  · intro u hu
    rw [List.mem_flatMap] at hu
    obtain ⟨r, _, hu⟩ := hu
    unfold rcC at hu
    simp only [List.mem_cons, List.not_mem_nil, or_false] at hu
    rcases hu with rfl | rfl | rfl | rfl <;> rfl
  · unfold maxLen; omega
  · omega
  · intro v' w' h2 h3 _
    refine h v' w' ?_ h3
    unfold recJ; rw [List.length_append, List.flatMap_append]; exact h2
theorem fitsE_one (r : RecI) : fitsE [r] = if fitB r = true then 0 else 1 := by
  unfold fitsE
  cases h : fitB r <;> simp [h]
def AppPost (i : DI) (s : FS) (L S at_ : Nat) (rs : Value) (recs : List RecI) (gen : Int) (used : Nat) (holds clean : Bool) (b0 : Nat) (r : RecI) (w : World) (e : Ending) (w' : World) : Prop :=
      e = .returned (.int .i64 (appE s at_ used r)) ∧ OutA i.lo i.hi L rs w w' ∧
      DevP w' i 27 (if fitB r = true ∧ used ≠ 16 then (layS s at_ used (pgI used r)).1 else s) ∧
      (if appE s at_ used r = 0 then ∃ rs', LogP i L S at_ rs' (recs ++ [z0 r]) gen (used + 1) holds clean b0 w'
       else LogP i L S at_ rs recs gen used holds (if fitB r = true ∧ used ≠ 16 then false else clean) b0 w')
set_option maxHeartbeats 8000000 in
set_option maxRecDepth 100000 in
theorem log_Append (i : DI) (s : FS) (L S at_ : Nat) (rs : Value) (recs : List RecI) (gen : Int) (used : Nat) (holds clean : Bool) (b0 : Nat) (r : RecI) (w : World) (hD : DevP w i 27 s) (hP : LogP i L S at_ rs recs gen used holds clean b0 w) (hat : at_ < 2) (hu : used ≤ 16) (hrl : recs.length ≤ 1000) (hb0 : b0 ≤ w.heap.size) :
    Calls Try.prog 19 #[.pointer (some ⟨L, 0, none⟩), .agg #[.int .i64 r.k, .int .i64 r.s, .int .i64 r.n, .int .i64 r.v]] w fun e w' =>
      AppPost i s L S at_ rs recs gen used holds clean b0 r w e w' := by
  have b1 : Below w.heap.size w (w.alloc (.cells #[.int .i64 r.k, .int .i64 r.s, .int .i64 r.n, .int .i64 r.v] 37)) := (Below.refl _ _).alloc (Nat.le_refl _) _
  have hR : R4 (w.alloc (.cells #[.int .i64 r.k, .int .i64 r.s, .int .i64 r.n, .int .i64 r.v] 37)) w.heap.size r.k r.s r.n r.v := heap_alloc_new w _
  have HP := hid (hP.below b1)
  have HD := hid (hD.below b1)
  have HB := hid b1
  have HR := hid hR
  have hLt := hP.hw.hL.lt
  have hih : i.hi ≤ w.heap.size := hD.hi
  have HOB : Hid (∀ g, rs.ownBlock = some g → g < w.heap.size) := by
    intro g hg
    rcases hP.hj.2 with ⟨e, _⟩ | ⟨g', cap, cur, e, h3, h4, _⟩
    · rw [e] at hg; cases hg
    · rw [e] at hg
      simp only [Value.ownBlock, Option.some.injEq] at hg
      rw [← hg]
      exact (Array.getElem?_eq_some_iff.1 h4).1
  have hsz1 : (w.alloc (.cells #[.int .i64 r.k, .int .i64 r.s, .int .i64 r.n, .int .i64 r.v] 37)).heap.size = w.heap.size + 1 := by simp
  clear hP hD b1 hR
  obtain ⟨w1, hw1⟩ : ∃ u, w.alloc (.cells #[.int .i64 r.k, .int .i64 r.s, .int .i64 r.n, .int .i64 r.v] 37) = u := ⟨_, rfl⟩
  rw [hw1] at HP HD HB HR hsz1
  have HSZ := hid hsz1
  have b2 : Below w1.heap.size w1 (w1.alloc (.cells #[.int .i64 r.k, .int .i64 r.s, .int .i64 r.n, .int .i64 r.v] 37)) := (Below.refl _ _).alloc (Nat.le_refl _) _
  have HCG := hid (cellsG_one w1 r)
  have HF := hid (log_fits (some ⟨w1.heap.size, 0, none⟩) 1 1 [r] _ rfl (by simp) (Nat.le_refl _) HCG.out)
  rw [fitsE_one] at HF
  have HP2 := hid (HP.out.below b2)
  have HD2 := hid (HD.out.below b2)
  have HB2 := hid (HB.out.trans (b2.mono HB.out.size))
  have HR2 := hid (HR.out.below b2)
  have c0 := HR.out.c0
  have c1 := HR.out.c1
  have c2 := HR.out.c2
  have c3 := HR.out.c3
  clear b2 hsz1 HP HD HB HCG
  obtain ⟨z, hz⟩ : ∃ z, fitB r = z := ⟨_, rfl⟩
  have HAE : Hid (appE s at_ used r = (if z = false then (1 : Int) else if used = 16 then 9 else ((layS s at_ used (pgI used r)).2 : Nat))) := by show _ = _; rw [← hz]; rfl
  rw [hz] at HF
  have HZ := hid hz
  clear hz
  (go_enter Try.func19, Try.ntmps19; try simp only [List.append])
  go_wp2_with ((with_reducible refine wpList_unguard ?_ ?_); (focus rfl))
  clear c0 c1 c2 c3 hw1
  refine Calls.mono HF.out ?_; rintro e w3 ⟨rfl, hb⟩
  have HP := hid (HP2.out.below hb)
  have HD := hid (HD2.out.below hb)
  have HB := hid (HB2.out.trans (hb.mono HB2.out.size))
  replace HR := hid (HR2.out.below hb)
  clear hb HP2 HD2 HB2 HR2 HF
  cases z with
  | false =>
    go_wp2_with ((with_reducible refine wpList_unguard ?_ ?_); (focus rfl))
    go_ret
    unfold AppPost
    rw [HAE.out, HZ.out]
    refine ⟨rfl, OutA.of (Out.of HB.out), ?_, ?_⟩
    · rw [if_neg (by simp)]; exact HD.out
    · rw [if_neg (by simp), if_neg (by simp)]; exact HP.out
  | true =>
    rw [if_neg (by simp)] at HAE
    have hRm := log_Room L i.D S at_ rs gen used holds clean w3 HP.out.hw.hL hu
    go_wp2_with ((with_reducible refine wpList_unguard ?_ ?_); (focus rfl))
    refine Calls.mono hRm ?_; rintro e w4 ⟨rfl, rfl⟩
    clear hRm
    by_cases hu16 : used = 16
    · have q1 : ((16 : Int) - (used : Int) == 0) = true := by rw [beq_iff_eq]; omega
      rw [if_pos hu16] at HAE
      go_wp2_with ((with_reducible refine wpList_unguard ?_ ?_); (focus rfl))
      go_ret
      unfold AppPost
      rw [HAE.out]
      refine ⟨rfl, OutA.of (Out.of HB.out), ?_, ?_⟩
      · rw [if_neg (by simp [hu16])]; exact HD.out
      · rw [if_neg (by simp), if_neg (by simp [hu16])]; exact HP.out
    · have q1 : ((16 : Int) - (used : Int) == 0) = false := by rw [beq_eq_false_iff_ne]; omega
      rw [if_neg hu16] at HAE
      obtain ⟨hok, hk126⟩ := fitB_ok HZ.out used (by omega)
      have HRC := hid HR.out
      obtain ⟨rk, rsl, rn, rv⟩ := r
      simp only at hok hk126 HR
      obtain ⟨k', s', n', v', rfl, rfl, hn', rfl, ok1, ok2, ok3, ok4⟩ := recOk_nat hok
      have HPG : Hid (pgI used ⟨(k' : Int), s', rn, v'⟩ = recP k' s' used v') := by show _ = _; unfold pgI; simp
      have HOK := hid hok
      clear hok hn' HRC
      have HL1 := hid HP.out.hw
      go_wp2_with ((with_reducible refine wpList_unguard ?_ ?_); (focus rfl))
      (refine wp_region_stg2 11 [] [11, 12] (fun u => Below w3.heap.size w3 u) (by kernel_rfl) (by kernel_rfl) (by intro t v c a w h; cases t <;> exact h) ((Below.refl _ _).drew) ?_; (simp only [List.take_succ_cons, List.take_zero, List.map_cons, List.map_nil, stOf, opAt, List.getD_cons_zero, List.getD_cons_succ]); (repeat (first | go_big_quiet_skip | (go_big_quiet_want; first | (go_big_quiet_op; go_big_quiet_on) | (apply Exists.intro; refine And.intro (fun wq hq => ?_) ?_; (focus ((have q10 := (HL1.out.hL.below hq).cell 10 _ rfl; have q3 := (HL1.out.hL.below hq).cell 3 _ rfl; have q0 := (HR.out.below hq).c0; have q1 := (HR.out.below hq).c1; have q2 := (HR.out.below hq).c2; have q3' := (HR.out.below hq).c3); (try go_simp); first | done | rfl | (fail))); go_simp; go_big_quiet_on)))); refine quietC_nil _ rfl ?_; intro wE hE; unfold wpSt)
      replace HP := hid (HP.out.below hE)
      replace HD := hid (HD.out.below hE)
      replace HB := hid (HB.out.trans (hE.mono HB.out.size))
      replace HR := hid (HR.out.below hE)
      clear hE HL1
      go_wp2_with ((with_reducible refine wpList_unguard ?_ ?_); (focus rfl))
      refine Calls.mono (log_lay i s L S at_ rs gen used holds clean at_ used k' s' v' rn wE HD.out HP.out.hw HOK.out hat (by omega)) ?_; rintro e w4 ⟨rfl, hd, ho⟩
      rw [← HPG.out] at hd ⊢
      replace HP := hid (HP.out.out ho)
      have HO := hid ((Out.of (lo := i.lo) (hi := i.hi) HB.out).trans ho)
      have hR4 : R4 w4 w.heap.size (k' : Nat) (s' : Nat) rn (v' : Nat) := by
        have h1 : R4 wE w.heap.size (k' : Nat) (s' : Nat) rn (v' : Nat) := HR.out
        unfold R4 at h1 ⊢
        rw [ho.block _ (Array.getElem?_eq_some_iff.1 h1).1 (.inr hih)]
        exact h1
      have HR4 := hid hR4
      replace HD := hid hd
      clear hd ho hR4 HR HB
      obtain ⟨er, her⟩ : ∃ er, (layS s at_ used (pgI used ⟨(k' : Int), s', rn, v'⟩)).2 = er := ⟨_, rfl⟩
      rw [her] at HAE ⊢
      clear her
      by_cases he : er = 0
      · subst he
        have r2 := HR4.out.c2
        have rf := HR4.out.free 2
        have hneR : w.heap.size ≠ L := by omega
        -- the record without its number
        have hR5 : R4 (w4.setCell ⟨w.heap.size, 2, none⟩ (.int .i64 0)) w.heap.size (k' : Nat) (s' : Nat) 0 (v' : Nat) := heap_setCell_same w4 w.heap.size 2 _ _ (.int .i64 0) HR4.out
        have hb5 : ∀ k, k ≠ w.heap.size → (w4.setCell ⟨w.heap.size, 2, none⟩ (.int .i64 0)).heap[k]? = w4.heap[k]? := fun k hk => heap_setCell_other w4 _ k _ hk
        have hL5 : Blk (w4.setCell ⟨w.heap.size, 2, none⟩ (.int .i64 0)) L 102 (logC i.D S at_ rs gen used holds clean) := HP.out.hw.hL.setOther _ _ (by show L ≠ w.heap.size; omega)
        have hS5 : isC (w4.setCell ⟨w.heap.size, 2, none⟩ (.int .i64 0)) S := by
          have h1 := HP.out.hw.hS
          have h2 : S < w.heap.size := by have := HP.out.hS; omega
          unfold isC at h1 ⊢
          rw [hb5 S (by omega)]; exact h1
        have hJ5 : recJ (w4.setCell ⟨w.heap.size, 2, none⟩ (.int .i64 0)) b0 rs recs := HP.out.hj.keep fun g h1 h2 h3 => hb5 g (by have := HOB.out g h3; omega)
        have hD5 := HD.out.setLog w.heap.size 2 (.int .i64 0) (.inr hih)
        have hO5 : Out i.lo i.hi w (w4.setCell ⟨w.heap.size, 2, none⟩ (.int .i64 0)) := by
          have h1 := HO.out
          exact ⟨h1.os, h1.tape, h1.output, by simpa using h1.size, fun k h2 h3 => (hb5 k (by omega)).trans (h1.block k h2 h3)⟩
        have hz5 : (w4.setCell ⟨w.heap.size, 2, none⟩ (.int .i64 0)).heap.size = w4.heap.size := by simp
        have HR5 := hid hR5
        have HL5 := hid hL5
        have HS5 := hid hS5
        have HJ5 := hid hJ5
        have HD5 := hid hD5
        have HO5 := hid hO5
        clear hR5 hL5 hS5 hJ5 hD5 hO5 hb5 hz5 HR4 HD HO
        go_wp2_with ((with_reducible refine wpList_unguard ?_ ?_); (focus rfl))
        clear r2 rf
        generalize w4.setCell ⟨w.heap.size, 2, none⟩ (.int .i64 0) = w5 at *
        (refine wp_region_stg3 0 [([0, 1, 2, 3, 4, 5, 6], 7), ([], 8)] [9, 10, 11, 12] (fun u => u = w5.drew) (fun u => Blk u L 102 (logC i.D S at_ rs gen used holds clean) ∧ R4 u w.heap.size (k' : Nat) (s' : Nat) 0 (v' : Nat)) ((fun u h => by subst h; exact ⟨HL5.out.drew, HR5.out⟩)) (by kernel_rfl) (by kernel_rfl) (by intro t v c a w h; cases t <;> exact h) (rfl) ?_; (simp only [List.take_succ_cons, List.take_zero, List.map_cons, List.map_nil, stOf, opAt, List.getD_cons_zero, List.getD_cons_succ]); (repeat (first | go_big_quiet_skip | (go_big_quiet_want; first | (go_big_quiet_op; go_big_quiet_on) | (apply Exists.intro; refine And.intro (fun wq hq => ?_) ?_; (focus (skip; (try go_simp); first | done | rfl | (fail))); go_simp; go_big_quiet_on)))); refine quietC_nil _ rfl ?_; intro wE hE; unfold wpSt)
        subst hE
        ((repeat (first | go_big_quiet_skip | (go_big_quiet_want; first | (go_big_quiet_op; go_big_quiet_on) | (apply Exists.intro; refine And.intro (fun wq hq => ?_) ?_; (focus ((have q1 := hq.1.cell 1 _ rfl; have c0 := hq.2.c0; have c1 := hq.2.c1; have c2 := hq.2.c2; have c3 := hq.2.c3); (try go_simp); first | done | rfl)); go_simp; go_big_quiet_on)))); refine quietC_nil _ rfl ?_)
        have hbx : Below w5.heap.size w5 ((w5.alloc (.cells #[.int .i64 (k' : Nat), .int .i64 (s' : Nat), .int .i64 0, .int .i64 (v' : Nat)] 37)).drew) := ((Below.refl _ _).alloc (Nat.le_refl _) _).drew
        have hCG : cellsG ((w5.alloc (.cells #[.int .i64 (k' : Nat), .int .i64 (s' : Nat), .int .i64 0, .int .i64 (v' : Nat)] 37)).drew) (some ⟨w5.heap.size, 0, none⟩) 4 ([(⟨(k' : Int), s', 0, v'⟩ : RecI)].map rcC) := cellsG_one w5 ⟨(k' : Int), s', 0, v'⟩
        have HCG := hid hCG
        have HJx := hid (HJ5.out.below hbx)
        have HLx := hid (HL5.out.below hbx)
        have HRx := hid (HR5.out.below hbx)
        have HSx := hid (HS5.out.below hbx HS5.out.lt)
        have HDx := hid (HD5.out.below hbx)
        have HOx := hid (HO5.out.trans (Out.of hbx))
        have hzx : ((w5.alloc (.cells #[.int .i64 (k' : Nat), .int .i64 (s' : Nat), .int .i64 0, .int .i64 (v' : Nat)] 37)).drew).heap.size = w5.heap.size + 1 := by show (w5.alloc (.cells #[.int .i64 (k' : Nat), .int .i64 (s' : Nat), .int .i64 0, .int .i64 (v' : Nat)] 37)).heap.size = _; simp
        have hw5 : w.heap.size ≤ w5.heap.size := HO5.out.size
        clear hbx hCG
        go_wp2_with ((with_reducible refine wpList_unguard ?_ ?_); (focus rfl))
        refine ⟨fun u => Blk u L 102 (logC i.D S at_ rs gen used holds clean) ∧ R4 u w.heap.size (k' : Nat) (s' : Nat) 0 (v' : Nat), fun _ h => h, ⟨HLx.out, HRx.out⟩, ?_⟩
        unfold wpSt
        refine quietC_nil _ rfl ?_
        generalize ((w5.alloc (.cells #[.int .i64 (k' : Nat), .int .i64 (s' : Nat), .int .i64 0, .int .i64 (v' : Nat)] 37)).drew) = wx at *
        go_wp2_with (at_builtin; refine wpList_pushJg rfl _ _ rfl b0 rs recs [(⟨(k' : Int), s', 0, v'⟩ : RecI)] (some ⟨w5.heap.size, 0, none⟩) 1 HJx.out HCG.out (by simp) rfl _ rfl rfl (by omega) (by simp) (by omega) ?_)
        intro rs' w7 hown hgr
        have HOWN := hid hown
        have hobs : ∀ g, rs.ownBlock = some g → b0 ≤ g ∧ g < w.heap.size := by
          intro g hg
          refine ⟨?_, HOB.out g hg⟩
          rcases HJx.out.2 with ⟨e, _⟩ | ⟨g', cap, cur, e, h3, h4, _⟩
          · rw [e] at hg; cases hg
          · rw [e] at hg
            simp only [Value.ownBlock, Option.some.injEq] at hg
            omega
        have hk7 : ∀ k, k < wx.heap.size → rs.ownBlock ≠ some k → w7.heap[k]? = wx.heap[k]? := fun k h1 h2 => hgr.block k h1 (fun h => h2 h.symm)
        have hLt7 := HLx.out.lt
        have hRt7 := HRx.out.lt
        have hL7 : Blk w7 L 102 (logC i.D S at_ rs gen used holds clean) := by
          unfold Blk; rw [hk7 L hLt7 (fun h => by have := hobs L h; have := HP.out.hL; omega)]; exact HLx.out
        have hR7 : R4 w7 w.heap.size (k' : Nat) (s' : Nat) 0 (v' : Nat) := by
          unfold R4; rw [hk7 _ hRt7 (fun h => by have := hobs _ h; omega)]; exact HRx.out
        have hS7 : isC w7 S := by
          have h1 := HSx.out
          unfold isC at h1 ⊢
          rw [hk7 S (Array.getElem?_eq_some_iff.1 h1).1 (fun h => by have := hobs S h; have := HP.out.hS; omega)]; exact h1
        have hO7 : OutA i.lo i.hi L rs w w7 := by
          have h1 := HOx.out
          exact ⟨hgr.os.trans h1.os, hgr.tape.trans h1.tape, hgr.output.trans h1.output, Nat.le_trans h1.size hgr.size, fun k h2 h3 _ h5 => (hk7 k (Nat.lt_of_lt_of_le h2 h1.size) h5).trans (h1.block k h2 h3)⟩
        have hD7 : DevP w7 i 27 (layS s at_ used (pgI used ⟨(k' : Int), s', rn, v'⟩)).1 := by
          refine HDx.out.out (lo := i.hi) (hi := w7.heap.size + i.hi + 1) ⟨hgr.os, hgr.tape, hgr.output, hgr.size, fun k h1 h2 => hk7 k h1 (fun h => ?_)⟩ (.inr (Nat.le_refl _))
          have := hobs k h
          have h3 := HP.out.hi
          have h4 := hgr.size
          omega
        obtain ⟨g', cap', hv'⟩ : ∃ g' cap' : Nat, rs' = .slice (some ⟨g', 0, none⟩) (recs.length + 1) cap' := by
          rcases hown.2 with ⟨_, h0⟩ | ⟨g', cap, cur, e, _⟩
          · simp at h0
          · exact ⟨g', cap, by rw [e, List.length_append]; rfl⟩
        subst hv'
        clear hown hgr hk7 hobs
        go_wp2_with ((with_reducible refine wpList_unguard ?_ ?_); (focus rfl))
        refine ⟨fun u => Blk u L 102 (logC i.D S at_ rs gen used holds clean) ∧ R4 u w.heap.size (k' : Nat) (s' : Nat) 0 (v' : Nat), fun _ h => h, ⟨hL7, hR7⟩, ?_⟩
        unfold wpSt
        have x1 := hL7.cell 1 _ rfl
        have f1 := hL7.free 1
        have hLs := hL7.set 1 (.slice (some ⟨g', 0, none⟩) (recs.length + 1) cap')
        have x3 : (w7.setCell ⟨L, 1, none⟩ (.slice (some ⟨g', 0, none⟩) (recs.length + 1) cap')).cell? ⟨L, 3, none⟩ = some (.int .i64 (used : Nat)) := hLs.cell 3 _ rfl
        have f3 := hLs.free 3
        have hLs2 := hLs.set 3 (.int .i64 ((used + 1 : Nat) : Int))
        have hbS : ∀ k, k ≠ L → ((w7.setCell ⟨L, 1, none⟩ (.slice (some ⟨g', 0, none⟩) (recs.length + 1) cap')).setCell ⟨L, 3, none⟩ (.int .i64 ((used + 1 : Nat) : Int))).heap[k]? = w7.heap[k]? := fun k hk => by rw [heap_setCell_other _ _ k _ hk, heap_setCell_other _ _ k _ hk]
        have HLs := hid hLs2
        have HSs : Hid (isC ((w7.setCell ⟨L, 1, none⟩ (.slice (some ⟨g', 0, none⟩) (recs.length + 1) cap')).setCell ⟨L, 3, none⟩ (.int .i64 ((used + 1 : Nat) : Int))) S) := by
          show isC _ S
          unfold isC at hS7 ⊢
          rw [hbS S HP.out.ne]; exact hS7
        have HJs := hid ((HOWN.out.set L 1 (.slice (some ⟨g', 0, none⟩) (recs.length + 1) cap') HP.out.hL).set L 3 (.int .i64 ((used + 1 : Nat) : Int)) HP.out.hL)
        have HDs := hid ((hD7.setLog L 1 (.slice (some ⟨g', 0, none⟩) (recs.length + 1) cap') HP.out.hw.hLo).setLog L 3 (.int .i64 ((used + 1 : Nat) : Int)) HP.out.hw.hLo)
        have HOs : Hid (OutA i.lo i.hi L rs w ((w7.setCell ⟨L, 1, none⟩ (.slice (some ⟨g', 0, none⟩) (recs.length + 1) cap')).setCell ⟨L, 3, none⟩ (.int .i64 ((used + 1 : Nat) : Int)))) :=
          ⟨hO7.os, hO7.tape, hO7.output, by simpa using hO7.size, fun k h1 h2 h3 h4 => (hbS k h3).trans (hO7.block k h1 h2 h3 h4)⟩
        clear hL7 hR7 hS7 hO7 hD7 hLs hLs2 hbS
        go_wp2_with ((with_reducible refine wpList_unguard ?_ ?_); (focus rfl))
        go_ret
        unfold AppPost
        rw [HAE.out, HZ.out]
        refine ⟨rfl, HOs.out, ?_, ?_⟩
        · rw [if_pos ⟨rfl, hu16⟩]; exact HDs.out
        · rw [if_pos (by simp)]
          exact ⟨_, ⟨HLs.out, HSs.out, HP.out.hw.hLo, HP.out.hw.hSo⟩, HJs.out, HP.out.hL, HP.out.hS, HP.out.hi, HP.out.ne⟩
      · have q2 : ((er : Int) != 0) = true := by rw [bne_iff_ne]; omega
        have l5 := HP.out.hw.hL.cell 5 _ rfl
        have lf := HP.out.hw.hL.free 5
        have hX := HP.out.hw.hL.set 5 (.bool false)
        have hLo := HP.out.hw.hLo
        have hb5 : ∀ k, k ≠ L → (w4.setCell ⟨L, 5, none⟩ (.bool false)).heap[k]? = w4.heap[k]? := fun k hk => heap_setCell_other w4 _ k _ hk
        have hP5 : LogP i L S at_ rs recs gen used holds false b0 (w4.setCell ⟨L, 5, none⟩ (.bool false)) := by
          obtain ⟨⟨q1, q2, q3, q4⟩, q5, q6, q7, q8, q9⟩ := HP.out
          refine ⟨⟨hX, ?_, q3, q4⟩, q5.set L 5 _ q6, q6, q7, q8, q9⟩
          unfold isC at q2 ⊢
          rw [hb5 S q9]; exact q2
        have hO5 : OutA i.lo i.hi L rs w (w4.setCell ⟨L, 5, none⟩ (.bool false)) := by
          have h1 := HO.out
          exact ⟨h1.os, h1.tape, h1.output, by simpa using h1.size, fun k h2 h3 h4 _ => (hb5 k h4).trans (h1.block k h2 h3)⟩
        have HP5 := hid hP5
        have HO5 := hid hO5
        have HD5 := hid (HD.out.setLog L 5 (.bool false) hLo)
        clear hX hb5 hP5 hO5 hLo
        go_wp2_with ((with_reducible refine wpList_unguard ?_ ?_); (focus rfl))
        go_ret
        unfold AppPost
        rw [HAE.out, HZ.out]
        refine ⟨rfl, HO5.out, ?_, ?_⟩
        · rw [if_pos ⟨rfl, hu16⟩]; exact HD5.out
        · rw [if_neg (by simpa using he), if_pos ⟨rfl, hu16⟩]; exact HP5.out
end Go.Proofs.Ytngkmlchblgmeaa
