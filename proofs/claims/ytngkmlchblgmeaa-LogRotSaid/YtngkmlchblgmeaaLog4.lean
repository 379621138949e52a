/-
  Log.read.
-/
import Derived.Test.YtngkmlchblgmeaaPak8
import Derived.Deep.CutRange
import Derived.Deep.CutBlock
namespace Go.Proofs.Ytngkmlchblgmeaa
open Go.RowKit Tri

/-- The cells of a half. -/
def halfV (rs : Value) (gen used : Nat) (holds clean : Bool) : Array Value := #[rs, .int .i64 (gen : Nat), .int .i64 (used : Nat), .bool holds, .bool clean]
structure HD where
  recs : List R4n
  gen : Nat
  used : Nat
  holds : Bool
  clean : Bool
def outH : Option HS → HD
  | none => ⟨[], 0, 0, false, false⟩
  | some x => ⟨x.recs, x.gen, x.used, x.sealed, x.clean⟩
/-- Blocks that the call made, set. -/
theorem _root_.Tri.RdC.set {i : DI} {s : FS} {w a : World} (h : RdC i s w a) (B j : Nat) (v : Value) (hB : w.heap.size ≤ B) (hi : i.hi ≤ w.heap.size) : RdC i s w (a.setCell ⟨B, j, none⟩ v) := by
  obtain ⟨h1, x, h2⟩ := h
  have ho : Out B (B + 1) a (a.setCell ⟨B, j, none⟩ v) := (Out.refl _ _ a).set ⟨B, j, none⟩ v (Nat.le_refl _) (Nat.lt_succ_self _)
  exact ⟨⟨ho.os.trans h1.os, ho.tape.trans h1.tape, ho.output.trans h1.output, Nat.le_trans h1.size ho.size, fun k hk hh => (ho.block k (Nat.lt_of_lt_of_le hk h1.size) (.inl (Nat.lt_of_lt_of_le hk hB))).trans (h1.block k hk hh)⟩, x, h2.out ho (.inr (by omega))⟩
theorem recO.set {w : World} {base : Nat} {v : Value} {l : List R4n} (h : recO w base v l) (B j : Nat) (x : Value) (hB : B < base) : recO (w.setCell ⟨B, j, none⟩ x) base v l :=
  h.out ((Out.refl B (B + 1) w).set ⟨B, j, none⟩ x (Nat.le_refl _) (Nat.lt_succ_self _)) hB
theorem recO.weak {w : World} {base b' : Nat} {v : Value} {l : List R4n} (h : recO w base v l) (hb : b' ≤ base) : recO w b' v l := by
  obtain ⟨h1, h2⟩ := h
  refine ⟨h1, ?_⟩
  rcases h2 with h2 | ⟨g, cap, cur, rfl, h3, h4⟩
  · exact .inl h2
  · exact .inr ⟨g, cap, cur, rfl, Nat.le_trans hb h3, h4⟩
theorem _root_.Tri.RdC.belowN {i : DI} {s : FS} {W a b : World} {N : Nat} (h : RdC i s W a) (hb : Below N a b) (hN : W.heap.size ≤ N) (hi : i.hi ≤ W.heap.size) : RdC i s W b := by
  obtain ⟨h1, x, h2⟩ := h
  have hiN : i.hi ≤ N := Nat.le_trans hi hN
  refine ⟨⟨hb.os.trans h1.os, hb.tape.trans h1.tape, hb.output.trans h1.output, Nat.le_trans h1.size hb.size, fun k hk hh => (hb.block k (Nat.lt_of_lt_of_le hk hN)).trans (h1.block k hk hh)⟩, x, ?_⟩
  have ho : Out N (b.heap.size + N + 1) a b := ⟨hb.os, hb.tape, hb.output, hb.size, fun k hk hh => by
    rcases hh with hh | hh
    · exact hb.block k hh
    · have := hb.size; omega⟩
  exact h2.out ho (.inr hiN)
theorem runH_none {s : FS} {hf n : Nat} (h : runH s hf n = none) : ∀ m, n ≤ m → runH s hf m = none := by
  intro m hm
  induction m with
  | zero => rw [show n = 0 from by omega] at h; exact h
  | succ m ih =>
    by_cases he : n = m + 1
    · rw [← he]; exact h
    · simp only [runH, ih (by omega), Option.bind_none]
theorem Try.infoRec : (Try.prog.info? 37).map (fun i => (i.zero, i.size, i.bytes)) = some (some (.agg #[.int .i64 0, .int .i64 0, .int .i64 0, .int .i64 0]), 4, 32) := by kernel_rfl
/-- What stays in the loop: the result, the half that grows, its records; the device but for its count. -/
structure RL (i : DI) (s : FS) (w wr : World) (cs : Array Value) (v : Value) (l : List R4n) : Prop where
  h0 : Blk wr w.heap.size 96 (halfV (.slice none 0 0) 0 0 false false)
  h1 : Blk wr (w.heap.size + 1) 96 cs
  ho : recO wr (w.heap.size + 2) v l
  hr : RdC i s w wr
  hz : w.heap.size + 2 ≤ wr.heap.size
  hi : i.hi ≤ w.heap.size
theorem RL.set {i : DI} {s : FS} {w wr : World} {cs : Array Value} {v : Value} {l : List R4n} (h : RL i s w wr cs v l) (j : Nat) (x : Value) : RL i s w (wr.setCell ⟨w.heap.size + 1, j, none⟩ x) (cs.setIfInBounds j x) v l :=
  ⟨h.h0.setOther _ _ (by show w.heap.size ≠ w.heap.size + 1; omega), h.h1.set j x, h.ho.set _ _ _ (by omega), h.hr.set _ _ _ (by omega) h.hi, by simpa using h.hz, h.hi⟩
theorem RL.alloc {i : DI} {s : FS} {w wr : World} {cs : Array Value} {v : Value} {l : List R4n} (h : RL i s w wr cs v l) (o : Obj) : RL i s w (wr.alloc o) cs v l := by
  have hb := (Below.refl wr.heap.size wr).alloc (Nat.le_refl _) o
  exact ⟨h.h0.below hb, h.h1.below hb, h.ho.below hb, h.hr.below hb, Nat.le_trans h.hz hb.size, h.hi⟩
theorem RL.page {i : DI} {s : FS} {w wr w' : World} {cs : Array Value} {v : Value} {l : List R4n} (h : RL i s w wr cs v l) (hr : RdC i s wr w') : RL i s w w' cs v l :=
  ⟨h.h0.outS hr.out (.inr h.hi), h.h1.outS hr.out (.inr (by have := h.hi; omega)), h.ho.out hr.out (by have := h.hi; omega), h.hr.trans hr, Nat.le_trans h.hz hr.out.size, h.hi⟩
set_option maxHeartbeats 16000000 in
set_option maxRecDepth 100000 in
theorem log_read (i : DI) (s : FS) (L S at_ hf : Nat) (rs : Value) (gen used : Int) (holds clean : Bool) (w : World) (h : DevP w i 27 s) (hd : s.dn = false) (hL : Blk w L 102 (logC i.D S at_ rs gen used holds clean)) (hS : isC w S)
    (hLo : L < i.lo ∨ i.hi ≤ L) (hSo : S < i.lo ∨ i.hi ≤ S) (hh : hf < 2) :
    Calls Try.prog 47 #[.pointer (some ⟨L, 0, none⟩), .int .i64 hf] w fun e w' => ∃ rv : Value,
      e = .returned (.tuple #[.agg (halfV rv (outH (runH s hf 16)).gen (outH (runH s hf 16)).used (outH (runH s hf 16)).holds (outH (runH s hf 16)).clean), .int .i64 0]) ∧ recO w' w.heap.size rv (outH (runH s hf 16)).recs ∧ RdC i s w w' := by
  have hb0 := (Below.refl w.heap.size w).alloc (Nat.le_refl _) (.cells (halfV (.slice none 0 0) 0 0 false false) 96)
  have hB0 := Blk.new w 96 (halfV (.slice none 0 0) 0 0 false false)
  have hs0 : (w.alloc (.cells (halfV (.slice none 0 0) 0 0 false false) 96)).heap.size = w.heap.size + 1 := by simp
  have hR0 := (RdC.refl h).below hb0
  have hih : i.hi ≤ w.heap.size := h.hi
  have hLs := hL.lt
  have hSs := hS.lt
  have HL := hid hL
  have HSc := hid hS
  have HB0 := hid hB0
  have HR0 := hid hR0
  clear h hL hS hb0 hB0 hR0
  (go_enter Try.func47, Try.ntmps47; try simp only [List.append])
  go_wp2_with ((with_reducible refine wpList_unguard ?_ ?_); (focus rfl))
  have hwA : Below w.heap.size w ((w.alloc (.cells #[.slice none 0 0, .int .i64 0, .int .i64 0, .bool false, .bool false] 96)).alloc (.cells #[.slice none 0 0, .int .i64 0, .int .i64 0, .bool false, .bool true] 96)) := ((Below.refl _ _).alloc (Nat.le_refl _) _).alloc (by simp) _
  have HX1 : Hid (Blk ((w.alloc (.cells #[.slice none 0 0, .int .i64 0, .int .i64 0, .bool false, .bool false] 96)).alloc (.cells #[.slice none 0 0, .int .i64 0, .int .i64 0, .bool false, .bool true] 96)) (w.heap.size + 1) 96 (halfV (.slice none 0 0) 0 0 false true)) := by
    have h := Blk.new (w.alloc (.cells #[.slice none 0 0, .int .i64 0, .int .i64 0, .bool false, .bool false] 96)) 96 #[.slice none 0 0, .int .i64 0, .int .i64 0, .bool false, .bool true]
    rw [show (w.alloc (.cells #[.slice none 0 0, .int .i64 0, .int .i64 0, .bool false, .bool false] 96)).heap.size = w.heap.size + 1 from by simp] at h
    exact h
  have HX0 : Hid (Blk ((w.alloc (.cells #[.slice none 0 0, .int .i64 0, .int .i64 0, .bool false, .bool false] 96)).alloc (.cells #[.slice none 0 0, .int .i64 0, .int .i64 0, .bool false, .bool true] 96)) w.heap.size 96 (halfV (.slice none 0 0) 0 0 false false)) := HB0.out.below ((Below.refl _ _).alloc (Nat.le_refl _) _)
  have HXR : Hid (RdC i s w ((w.alloc (.cells #[.slice none 0 0, .int .i64 0, .int .i64 0, .bool false, .bool false] 96)).alloc (.cells #[.slice none 0 0, .int .i64 0, .int .i64 0, .bool false, .bool true] 96))) := HR0.out.below ((Below.refl _ _).alloc (Nat.le_refl _) _)
  have hs2 : ((w.alloc (.cells #[.slice none 0 0, .int .i64 0, .int .i64 0, .bool false, .bool false] 96)).alloc (.cells #[.slice none 0 0, .int .i64 0, .int .i64 0, .bool false, .bool true] 96)).heap.size = w.heap.size + 2 := by simp
  generalize (w.alloc (.cells #[.slice none 0 0, .int .i64 0, .int .i64 0, .bool false, .bool false] 96)).alloc (.cells #[.slice none 0 0, .int .i64 0, .int .i64 0, .bool false, .bool true] 96) = w2 at *
  clear HB0 HR0 hs0 hwA
  go_loopw [16, 7, 8] (fun c en se wr => ∃ (k : Nat) (x : HS) (v : Value), k ≤ 16 ∧ runH s hf k = some x ∧ c = .int .i64 k ∧ en = .bool x.ended ∧ se = .bool x.sealed ∧
      RL i s w wr (halfV v x.gen x.used false x.clean) v x.recs) (fun c _ _ _ => 16 - (intOf c).toNat)
  case atStart => exact ⟨0, ⟨[], 0, 0, true, false, false⟩, .slice none 0 0, by omega, rfl, rfl, rfl, rfl, ⟨HX0.out, HX1.out, recO.nil _ _, HXR.out, by omega, hih⟩⟩
  case round =>
    clear HX0 HX1 HXR
    obtain ⟨k, x, v, hk, hx, rfl, rfl, rfl, hrl0⟩ := hrel
    have hrl := runH_len s hf k x hx
    by_cases hlt : k < 16
    · have q1 : decide ((k : Int) < 16) = true := decide_eq_true (by omega)
      have q2 : decide (k < 16) = true := decide_eq_true hlt
      have HHW := hid hrl0
      have hr := hrl0.hr
      have hP' : Calls Try.prog 73 #[.pointer (some ⟨L, 0, none⟩), .int .i64 hf, .int .i64 k] wr fun e w' =>
          e = .returned (.tuple #[(pgV4 s hf k).r.val, .bool (pgV4 s hf k).holds, .bool (pgV4 s hf k).alike, .bool (pgV4 s hf k).blank, .int .i64 0]) ∧ RdC i s wr w' := by
        obtain ⟨hr1, xo, hdv⟩ := hr
        refine (log_page i { s with ops := xo } L S at_ hf k rs gen used holds clean wr hdv hd (HL.out.outS hr1 hLo) (isC.out HSc.out hr1 hSo) hLo hSo hh hlt).mono ?_
        rintro e w' ⟨h1, h2⟩
        exact ⟨h1, h2.out, h2.dev⟩
      have HSX : Hid (runH s hf (k + 1) = stepH k (pgV4 s hf k) x) := by show _ = _; simp only [runH, hx, Option.bind_some]
      clear hrl0 hr hx
      generalize pgV4 s hf k = g at *
      obtain ⟨⟨rk, rsl, rn, rv⟩, gh, ga, gb⟩ := g
      obtain ⟨recs, gen', us, cl, en, se⟩ := x
      have HP := hid hP'
      clear hP'
      go_wp2_with ((with_reducible refine wpList_unguard ?_ ?_); (focus rfl))
      refine Calls.mono HP.out ?_; rintro e w3 ⟨rfl, hr3⟩
      have HW := hid (HHW.out.page hr3)
      have hz3 := HW.out.hz
      have ne0 : w.heap.size ≠ w3.heap.size := by omega
      have ne1 : w.heap.size + 1 ≠ w3.heap.size := by omega
      have lt0 : w.heap.size < w3.heap.size := by omega
      have lt1 : w.heap.size + 1 < w3.heap.size := by omega
      clear HP hr3 HHW
      simp only [R4n.val]
      have hvg : ∀ g, v.ownBlock = some g → g < w3.heap.size := by
        intro g hg
        rcases HW.out.ho.2 with ⟨e, _⟩ | ⟨g', cap, cur, e, h3, h4, _⟩
        · rw [e] at hg; cases hg
        · rw [e] at hg
          simp only [Value.ownBlock, Option.some.injEq] at hg
          rw [← hg]
          exact (Array.getElem?_eq_some_iff.1 h4).1
      have hRz : w.heap.size + 2 ≤ w3.heap.size := HW.out.hz
      have HVG := hid hvg
      clear hvg
      have hA3 : Below w3.heap.size w3 (w3.alloc (.cells #[.int .i64 (rk : Nat), .int .i64 (rsl : Nat), .int .i64 (rn : Nat), .int .i64 (rv : Nat)] 37)) := (Below.refl _ _).alloc (Nat.le_refl _) _
      have hR3 : R4 (w3.alloc (.cells #[.int .i64 (rk : Nat), .int .i64 (rsl : Nat), .int .i64 (rn : Nat), .int .i64 (rv : Nat)] 37)) w3.heap.size (rk : Nat) (rsl : Nat) (rn : Nat) (rv : Nat) := heap_alloc_new w3 _
      have HW4 := hid (HW.out.alloc (.cells #[.int .i64 (rk : Nat), .int .i64 (rsl : Nat), .int .i64 (rn : Nat), .int .i64 (rv : Nat)] 37))
      have HR4 := hid hR3
      clear hA3 hR3 HW
      go_upto_block 2 with fail
      generalize w3.alloc (.cells #[.int .i64 (rk : Nat), .int .i64 (rsl : Nat), .int .i64 (rn : Nat), .int .i64 (rv : Nat)] 37) = w4 at *
      generalize w3.heap.size = R at *
      obtain ⟨cc, hcc⟩ : ∃ cc, (cl && ga) = cc := ⟨_, rfl⟩
      have HCC := hid hcc
      clear hcc
      go_cut [] from 17 to 108 (fun wx => RL i s w wx (halfV v gen' us false cc) v recs ∧ R4 wx R (rk : Nat) (rsl : Nat) (rn : Nat) (rv : Nat))
      case first =>
        have y4 : w4.cell? ⟨w.heap.size + 1, 4, none⟩ = some (.bool cl) := HW4.out.h1.cell 4 _ rfl
        have f4 := HW4.out.h1.free 4
        cases ga
        · have HWn := hid (HW4.out.set 4 (.bool false))
          have HRn : Hid (R4 (w4.setCell ⟨w.heap.size + 1, 4, none⟩ (.bool false)) R (rk : Nat) (rsl : Nat) (rn : Nat) (rv : Nat)) := by
            show _ = _
            rw [heap_setCell_other w4 _ R _ (by show R ≠ w.heap.size + 1; omega)]
            exact HR4.out
          rw [Bool.and_false] at HCC
          go_wp2_with fail
          go_meet
          rw [← HCC.out]
          exact ⟨HWn.out, HRn.out⟩
        · rw [Bool.and_true] at HCC
          go_wp2_with fail
          go_meet
          rw [← HCC.out]
          exact ⟨HW4.out, HR4.out⟩
      case rest =>
        skip
        obtain ⟨hW, hR⟩ := hcut
        have HW := hid hW
        have HR := hid hR
        clear hW hR HW4 HR4
        have hRlt := HR.out.lt
        have r0 := HR.out.c0
        have r1 := HR.out.c1
        have r3 := HR.out.c3
        have c0 : wc.cell? ⟨w.heap.size + 1, 0, none⟩ = some v := HW.out.h1.cell 0 _ rfl
        have c1 : wc.cell? ⟨w.heap.size + 1, 1, none⟩ = some (.int .i64 (gen' : Nat)) := HW.out.h1.cell 1 _ rfl
        have c2 : wc.cell? ⟨w.heap.size + 1, 2, none⟩ = some (.int .i64 (us : Nat)) := HW.out.h1.cell 2 _ rfl
        have c4 : wc.cell? ⟨w.heap.size + 1, 4, none⟩ = some (.bool cc) := HW.out.h1.cell 4 _ rfl
        have f0 := HW.out.h1.free 0
        have f1 := HW.out.h1.free 1
        have f2 := HW.out.h1.free 2
        have f4 := HW.out.h1.free 4
        have HSC : Hid (stepH k ⟨⟨rk, rsl, rn, rv⟩, gh, ga, gb⟩ ⟨recs, gen', us, cl, en, se⟩ =
            if en then some ⟨recs, gen', us, cc && gb, en, se⟩
            else if gh = false then (if k = 0 then none else some ⟨recs, gen', us, cc && gb, true, se⟩)
            else if k = 0 then (if badB ⟨rk, rsl, rn, rv⟩ then none else some ⟨recs, rv, k + 1, cc, en, se⟩)
            else if rk = 127 ∧ se = false then (if rv = gen' then some ⟨recs, gen', k + 1, cc, en, true⟩ else none)
            else some ⟨recs ++ [⟨rk, rsl, 0, rv⟩], gen', k + 1, cc, en, se⟩) := by show _ = _; rw [← HCC.out]; rfl
        cases en with
        | true =>
          cases cc
          · skip
            have HN := hid (HW.out.set 4 (.bool false))
            go_wp2_with ((with_reducible refine wpList_unguard ?_ ?_); (focus rfl))
            go_roundw
            case rel =>
              refine ⟨k + 1, ⟨recs, gen', us, false, true, se⟩, v, by omega, ?_, by go_num, rfl, rfl, HN.out⟩
              rw [HSX.out, HSC.out]
              simp []
            case measure => simp [intOf] <;> omega
          · skip
            have HN := hid (HW.out.set 4 (.bool gb))
            go_wp2_with ((with_reducible refine wpList_unguard ?_ ?_); (focus rfl))
            go_roundw
            case rel =>
              refine ⟨k + 1, ⟨recs, gen', us, gb, true, se⟩, v, by omega, ?_, by go_num, rfl, rfl, HN.out⟩
              rw [HSX.out, HSC.out]
              simp []
            case measure => simp [intOf] <;> omega
        | false =>
          by_cases hk0 : k = 0
          · subst hk0
            cases gh with
            | false =>
              have HNO : Hid (runH s hf 16 = none) := runH_none (n := 0 + 1) (by rw [HSX.out, HSC.out]; simp []) 16 (by omega)
              have y0 : wc.cell? ⟨w.heap.size, 0, none⟩ = some (.slice none 0 0) := HW.out.h0.cell 0 _ rfl
              have y1 : wc.cell? ⟨w.heap.size, 1, none⟩ = some (.int .i64 0) := HW.out.h0.cell 1 _ rfl
              have y2 : wc.cell? ⟨w.heap.size, 2, none⟩ = some (.int .i64 0) := HW.out.h0.cell 2 _ rfl
              have y3 : wc.cell? ⟨w.heap.size, 3, none⟩ = some (.bool false) := HW.out.h0.cell 3 _ rfl
              have y4 : wc.cell? ⟨w.heap.size, 4, none⟩ = some (.bool false) := HW.out.h0.cell 4 _ rfl
              have g0 := HW.out.h0.free 0
              have g1 := HW.out.h0.free 1
              have g2 := HW.out.h0.free 2
              have g3 := HW.out.h0.free 3
              have g4 := HW.out.h0.free 4
              have e0 : wc.setCell ⟨w.heap.size, 0, none⟩ (.slice none 0 0) = wc := setCell_id HW.out.h0 rfl
              have e1 : wc.setCell ⟨w.heap.size, 1, none⟩ (.int .i64 0) = wc := setCell_id HW.out.h0 rfl
              have e2 : wc.setCell ⟨w.heap.size, 2, none⟩ (.int .i64 0) = wc := setCell_id HW.out.h0 rfl
              have e3 : wc.setCell ⟨w.heap.size, 3, none⟩ (.bool false) = wc := setCell_id HW.out.h0 rfl
              have e4 : wc.setCell ⟨w.heap.size, 4, none⟩ (.bool false) = wc := setCell_id HW.out.h0 rfl
              go_wp2_with ((with_reducible refine wpList_unguard ?_ ?_); (focus rfl))
              refine bodyPost_ret (v := .tuple #[.agg #[.slice none 0 0, .int .i64 0, .int .i64 0, .bool false, .bool false], .int .i64 0]) (by simp [results, Try.results47, go_sem, y0, y1, y2, y3, y4]) rfl ?_
              rw [HNO.out]
              exact ⟨.slice none 0 0, rfl, recO.nil _ _, HW.out.hr⟩
            | true =>
              by_cases hb1 : rk = 126
              · have qb1 : ((rk : Int) == 126) = true := beq_iff_eq.2 (by omega)
                by_cases hb2 : rsl = 0
                · have qb2 : ((rsl : Int) == 0) = true := beq_iff_eq.2 (by omega)
                  by_cases hb3 : rv = 0
                  · have qb3 : ((rv : Int) == 0) = true := beq_iff_eq.2 (by omega)
                    have HNO : Hid (runH s hf 16 = none) := runH_none (n := 0 + 1) (by rw [HSX.out, HSC.out]; simp [badB, hb3]) 16 (by omega)
                    have y0 : wc.cell? ⟨w.heap.size, 0, none⟩ = some (.slice none 0 0) := HW.out.h0.cell 0 _ rfl
                    have y1 : wc.cell? ⟨w.heap.size, 1, none⟩ = some (.int .i64 0) := HW.out.h0.cell 1 _ rfl
                    have y2 : wc.cell? ⟨w.heap.size, 2, none⟩ = some (.int .i64 0) := HW.out.h0.cell 2 _ rfl
                    have y3 : wc.cell? ⟨w.heap.size, 3, none⟩ = some (.bool false) := HW.out.h0.cell 3 _ rfl
                    have y4 : wc.cell? ⟨w.heap.size, 4, none⟩ = some (.bool false) := HW.out.h0.cell 4 _ rfl
                    have g0 := HW.out.h0.free 0
                    have g1 := HW.out.h0.free 1
                    have g2 := HW.out.h0.free 2
                    have g3 := HW.out.h0.free 3
                    have g4 := HW.out.h0.free 4
                    have e0 : wc.setCell ⟨w.heap.size, 0, none⟩ (.slice none 0 0) = wc := setCell_id HW.out.h0 rfl
                    have e1 : wc.setCell ⟨w.heap.size, 1, none⟩ (.int .i64 0) = wc := setCell_id HW.out.h0 rfl
                    have e2 : wc.setCell ⟨w.heap.size, 2, none⟩ (.int .i64 0) = wc := setCell_id HW.out.h0 rfl
                    have e3 : wc.setCell ⟨w.heap.size, 3, none⟩ (.bool false) = wc := setCell_id HW.out.h0 rfl
                    have e4 : wc.setCell ⟨w.heap.size, 4, none⟩ (.bool false) = wc := setCell_id HW.out.h0 rfl
                    go_wp2_with ((with_reducible refine wpList_unguard ?_ ?_); (focus rfl))
                    refine bodyPost_ret (v := .tuple #[.agg #[.slice none 0 0, .int .i64 0, .int .i64 0, .bool false, .bool false], .int .i64 0]) (by simp [results, Try.results47, go_sem, y0, y1, y2, y3, y4]) rfl ?_
                    rw [HNO.out]
                    exact ⟨.slice none 0 0, rfl, recO.nil _ _, HW.out.hr⟩
                  · have qb3 : ((rv : Int) == 0) = false := beq_eq_false_iff_ne.2 (by omega)
                    have HN := hid ((HW.out.set 1 (.int .i64 (rv : Nat))).set 2 (.int .i64 ((0 + 1 : Nat) : Int)))
                    go_wp2_with ((with_reducible refine wpList_unguard ?_ ?_); (focus rfl))
                    go_roundw
                    case rel =>
                      refine ⟨0 + 1, ⟨recs, rv, 0 + 1, cc, false, se⟩, v, by omega, ?_, by go_num, rfl, rfl, HN.out⟩
                      rw [HSX.out, HSC.out]
                      simp [badB, hb1, hb2, hb3]
                    case measure => simp [intOf] <;> omega
                · have qb2 : ((rsl : Int) == 0) = false := beq_eq_false_iff_ne.2 (by omega)
                  have HNO : Hid (runH s hf 16 = none) := runH_none (n := 0 + 1) (by rw [HSX.out, HSC.out]; simp [badB, hb2]) 16 (by omega)
                  have y0 : wc.cell? ⟨w.heap.size, 0, none⟩ = some (.slice none 0 0) := HW.out.h0.cell 0 _ rfl
                  have y1 : wc.cell? ⟨w.heap.size, 1, none⟩ = some (.int .i64 0) := HW.out.h0.cell 1 _ rfl
                  have y2 : wc.cell? ⟨w.heap.size, 2, none⟩ = some (.int .i64 0) := HW.out.h0.cell 2 _ rfl
                  have y3 : wc.cell? ⟨w.heap.size, 3, none⟩ = some (.bool false) := HW.out.h0.cell 3 _ rfl
                  have y4 : wc.cell? ⟨w.heap.size, 4, none⟩ = some (.bool false) := HW.out.h0.cell 4 _ rfl
                  have g0 := HW.out.h0.free 0
                  have g1 := HW.out.h0.free 1
                  have g2 := HW.out.h0.free 2
                  have g3 := HW.out.h0.free 3
                  have g4 := HW.out.h0.free 4
                  have e0 : wc.setCell ⟨w.heap.size, 0, none⟩ (.slice none 0 0) = wc := setCell_id HW.out.h0 rfl
                  have e1 : wc.setCell ⟨w.heap.size, 1, none⟩ (.int .i64 0) = wc := setCell_id HW.out.h0 rfl
                  have e2 : wc.setCell ⟨w.heap.size, 2, none⟩ (.int .i64 0) = wc := setCell_id HW.out.h0 rfl
                  have e3 : wc.setCell ⟨w.heap.size, 3, none⟩ (.bool false) = wc := setCell_id HW.out.h0 rfl
                  have e4 : wc.setCell ⟨w.heap.size, 4, none⟩ (.bool false) = wc := setCell_id HW.out.h0 rfl
                  go_wp2_with ((with_reducible refine wpList_unguard ?_ ?_); (focus rfl))
                  refine bodyPost_ret (v := .tuple #[.agg #[.slice none 0 0, .int .i64 0, .int .i64 0, .bool false, .bool false], .int .i64 0]) (by simp [results, Try.results47, go_sem, y0, y1, y2, y3, y4]) rfl ?_
                  rw [HNO.out]
                  exact ⟨.slice none 0 0, rfl, recO.nil _ _, HW.out.hr⟩
              · have qb1 : ((rk : Int) == 126) = false := beq_eq_false_iff_ne.2 (by omega)
                have HNO : Hid (runH s hf 16 = none) := runH_none (n := 0 + 1) (by rw [HSX.out, HSC.out]; simp [badB, hb1]) 16 (by omega)
                have y0 : wc.cell? ⟨w.heap.size, 0, none⟩ = some (.slice none 0 0) := HW.out.h0.cell 0 _ rfl
                have y1 : wc.cell? ⟨w.heap.size, 1, none⟩ = some (.int .i64 0) := HW.out.h0.cell 1 _ rfl
                have y2 : wc.cell? ⟨w.heap.size, 2, none⟩ = some (.int .i64 0) := HW.out.h0.cell 2 _ rfl
                have y3 : wc.cell? ⟨w.heap.size, 3, none⟩ = some (.bool false) := HW.out.h0.cell 3 _ rfl
                have y4 : wc.cell? ⟨w.heap.size, 4, none⟩ = some (.bool false) := HW.out.h0.cell 4 _ rfl
                have g0 := HW.out.h0.free 0
                have g1 := HW.out.h0.free 1
                have g2 := HW.out.h0.free 2
                have g3 := HW.out.h0.free 3
                have g4 := HW.out.h0.free 4
                have e0 : wc.setCell ⟨w.heap.size, 0, none⟩ (.slice none 0 0) = wc := setCell_id HW.out.h0 rfl
                have e1 : wc.setCell ⟨w.heap.size, 1, none⟩ (.int .i64 0) = wc := setCell_id HW.out.h0 rfl
                have e2 : wc.setCell ⟨w.heap.size, 2, none⟩ (.int .i64 0) = wc := setCell_id HW.out.h0 rfl
                have e3 : wc.setCell ⟨w.heap.size, 3, none⟩ (.bool false) = wc := setCell_id HW.out.h0 rfl
                have e4 : wc.setCell ⟨w.heap.size, 4, none⟩ (.bool false) = wc := setCell_id HW.out.h0 rfl
                go_wp2_with ((with_reducible refine wpList_unguard ?_ ?_); (focus rfl))
                refine bodyPost_ret (v := .tuple #[.agg #[.slice none 0 0, .int .i64 0, .int .i64 0, .bool false, .bool false], .int .i64 0]) (by simp [results, Try.results47, go_sem, y0, y1, y2, y3, y4]) rfl ?_
                rw [HNO.out]
                exact ⟨.slice none 0 0, rfl, recO.nil _ _, HW.out.hr⟩
          · have qk : ((k : Int) == 0) = false := beq_eq_false_iff_ne.2 (by omega)
            cases gh with
            | false =>
              cases cc
              · skip
                have HN := hid (HW.out.set 4 (.bool false))
                go_wp2_with ((with_reducible refine wpList_unguard ?_ ?_); (focus rfl))
                go_roundw
                case rel =>
                  refine ⟨k + 1, ⟨recs, gen', us, false, true, se⟩, v, by omega, ?_, by go_num, rfl, rfl, HN.out⟩
                  rw [HSX.out, HSC.out]
                  simp [hk0]
                case measure => simp [intOf] <;> omega
              · skip
                have HN := hid (HW.out.set 4 (.bool gb))
                go_wp2_with ((with_reducible refine wpList_unguard ?_ ?_); (focus rfl))
                go_roundw
                case rel =>
                  refine ⟨k + 1, ⟨recs, gen', us, gb, true, se⟩, v, by omega, ?_, by go_num, rfl, rfl, HN.out⟩
                  rw [HSX.out, HSC.out]
                  simp [hk0]
                case measure => simp [intOf] <;> omega
            | true =>
              by_cases h127 : rk = 127
              · have q127 : ((rk : Int) == 127) = true := beq_iff_eq.2 (by omega)
                cases se with
                | false =>
                  by_cases hgv : rv = gen'
                  · have qgv : ((rv : Int) != (gen' : Int)) = false := by rw [hgv]; simp
                    have HN := hid (HW.out.set 2 (.int .i64 ((k + 1 : Nat) : Int)))
                    go_wp2_with ((with_reducible refine wpList_unguard ?_ ?_); (focus rfl))
                    go_roundw
                    case rel =>
                      refine ⟨k + 1, ⟨recs, gen', k + 1, cc, false, true⟩, v, by omega, ?_, by go_num, rfl, rfl, HN.out⟩
                      rw [HSX.out, HSC.out]
                      simp [hk0, h127, hgv]
                    case measure => simp [intOf] <;> omega
                  · have qgv : ((rv : Int) != (gen' : Int)) = true := by simpa using fun h : (rv : Int) = gen' => hgv (by omega)
                    have HNO : Hid (runH s hf 16 = none) := runH_none (n := k + 1) (by rw [HSX.out, HSC.out]; simp [hk0, h127, hgv]) 16 (by omega)
                    have y0 : wc.cell? ⟨w.heap.size, 0, none⟩ = some (.slice none 0 0) := HW.out.h0.cell 0 _ rfl
                    have y1 : wc.cell? ⟨w.heap.size, 1, none⟩ = some (.int .i64 0) := HW.out.h0.cell 1 _ rfl
                    have y2 : wc.cell? ⟨w.heap.size, 2, none⟩ = some (.int .i64 0) := HW.out.h0.cell 2 _ rfl
                    have y3 : wc.cell? ⟨w.heap.size, 3, none⟩ = some (.bool false) := HW.out.h0.cell 3 _ rfl
                    have y4 : wc.cell? ⟨w.heap.size, 4, none⟩ = some (.bool false) := HW.out.h0.cell 4 _ rfl
                    have g0 := HW.out.h0.free 0
                    have g1 := HW.out.h0.free 1
                    have g2 := HW.out.h0.free 2
                    have g3 := HW.out.h0.free 3
                    have g4 := HW.out.h0.free 4
                    have e0 : wc.setCell ⟨w.heap.size, 0, none⟩ (.slice none 0 0) = wc := setCell_id HW.out.h0 rfl
                    have e1 : wc.setCell ⟨w.heap.size, 1, none⟩ (.int .i64 0) = wc := setCell_id HW.out.h0 rfl
                    have e2 : wc.setCell ⟨w.heap.size, 2, none⟩ (.int .i64 0) = wc := setCell_id HW.out.h0 rfl
                    have e3 : wc.setCell ⟨w.heap.size, 3, none⟩ (.bool false) = wc := setCell_id HW.out.h0 rfl
                    have e4 : wc.setCell ⟨w.heap.size, 4, none⟩ (.bool false) = wc := setCell_id HW.out.h0 rfl
                    go_wp2_with ((with_reducible refine wpList_unguard ?_ ?_); (focus rfl))
                    refine bodyPost_ret (v := .tuple #[.agg #[.slice none 0 0, .int .i64 0, .int .i64 0, .bool false, .bool false], .int .i64 0]) (by simp [results, Try.results47, go_sem, y0, y1, y2, y3, y4]) rfl ?_
                    rw [HNO.out]
                    exact ⟨.slice none 0 0, rfl, recO.nil _ _, HW.out.hr⟩
                | true =>
                  clear h127
                  obtain ⟨i0, hi0, hz0, hz1, hz2⟩ := info_parts Try.infoRec
                  have r2 := HR.out.c2
                  have zf := HR.out.free 2
                  have hne0 : w.heap.size ≠ R := by omega
                  have hne1 : w.heap.size + 1 ≠ R := by omega
                  have hW1 : RL i s w (wc.setCell ⟨R, 2, none⟩ (.int .i64 0)) (halfV v gen' us false cc) v recs :=
                    ⟨HW.out.h0.setOther _ _ hne0, HW.out.h1.setOther _ _ hne1, HW.out.ho.keep (fun g _ _ hg => heap_setCell_other wc _ g _ (by have := HVG.out g hg; show g ≠ R; omega)), HW.out.hr.set _ _ _ (by omega) HW.out.hi, by simpa using HW.out.hz, HW.out.hi⟩
                  have HW1 := hid hW1
                  have hz1' := hW1.hz
                  have hLR : ((wc.setCell ⟨R, 2, none⟩ (.int .i64 0)).alloc (.cells #[.int .i64 (rk : Nat), .int .i64 (rsl : Nat), .int .i64 0, .int .i64 (rv : Nat)] 37)) = ((wc.setCell ⟨R, 2, none⟩ (.int .i64 0)).alloc (.cells #[.int .i64 ((⟨rk, rsl, 0, rv⟩ : R4n).k : Nat), .int .i64 ((⟨rk, rsl, 0, rv⟩ : R4n).s : Nat), .int .i64 ((⟨rk, rsl, 0, rv⟩ : R4n).n : Nat), .int .i64 ((⟨rk, rsl, 0, rv⟩ : R4n).v : Nat)] 37)) := rfl
                  clear hLR hW1
                  have hlen2 : recs.length ≤ 1000000 := by have := hrl.1; omega
                  go_wp2_with (first | ((with_reducible refine wpList_unguard ?_ ?_); (focus rfl)) | (at_builtin; go_loud (refine wpList_pushRec (by rfl) _ _ _ (by rfl) (w.heap.size + 2) i0 Try.underlying22 hi0 _ hz0 rfl hz1 (by rw [hz2]; decide) v recs ⟨rk, rsl, 0, rv⟩ HW1.out.ho (by rfl) _ (by rfl) (by simp) hlen2 hz1' ?_)))
                  intro v' w5 hrow hb5
                  have hN : RL i s w w5 (halfV v gen' us false cc) v' (recs ++ [⟨rk, rsl, 0, rv⟩]) := by
                    obtain ⟨q0, q1, q2, q3, q4, q5⟩ := HW1.out
                    refine ⟨?_, ?_, hrow, q3.belowN hb5 (by omega) q5, Nat.le_trans q4 hb5.size, q5⟩
                    · unfold Blk; rw [hb5.block _ (by omega)]; exact q0
                    · unfold Blk; rw [hb5.block _ (by omega)]; exact q1
                  have HN1 := hid ((hN.set 0 v').set 2 (.int .i64 ((k + 1 : Nat) : Int)))
                  have d0 : w5.cell? ⟨w.heap.size + 1, 0, none⟩ = some v := hN.h1.cell 0 _ rfl
                  have d2 : w5.cell? ⟨w.heap.size + 1, 2, none⟩ = some (.int .i64 (us : Nat)) := hN.h1.cell 2 _ rfl
                  have k0 := hN.h1.free 0
                  have k2 := hN.h1.free 2
                  obtain ⟨g', cap', hv'⟩ : ∃ g' cap' : Nat, v' = .slice (some ⟨g', 0, none⟩) (recs.length + 1) cap' := by
                    rcases hrow.2 with ⟨_, h0⟩ | ⟨g', cap, cur, e, _⟩
                    · simp at h0
                    · exact ⟨g', cap, by rw [e, List.length_append]; rfl⟩
                  subst hv'
                  clear hN hrow hb5
                  go_wp2_with ((with_reducible refine wpList_unguard ?_ ?_); (focus rfl))
                  go_roundw
                  case rel =>
                    refine ⟨k + 1, (⟨recs ++ [(⟨rk, rsl, 0, rv⟩ : R4n)], gen', k + 1, cc, false, true⟩ : HS), .slice (some ⟨g', 0, none⟩) (recs.length + 1) cap', by omega, ?_, by go_num, rfl, rfl, HN1.out⟩
                    rw [HSX.out, HSC.out]
                    simp [hk0]
                  case measure => simp [intOf] <;> omega
              · have q127 : ((rk : Int) == 127) = false := beq_eq_false_iff_ne.2 (by omega)
                obtain ⟨i0, hi0, hz0, hz1, hz2⟩ := info_parts Try.infoRec
                have r2 := HR.out.c2
                have zf := HR.out.free 2
                have hne0 : w.heap.size ≠ R := by omega
                have hne1 : w.heap.size + 1 ≠ R := by omega
                have hW1 : RL i s w (wc.setCell ⟨R, 2, none⟩ (.int .i64 0)) (halfV v gen' us false cc) v recs :=
                  ⟨HW.out.h0.setOther _ _ hne0, HW.out.h1.setOther _ _ hne1, HW.out.ho.keep (fun g _ _ hg => heap_setCell_other wc _ g _ (by have := HVG.out g hg; show g ≠ R; omega)), HW.out.hr.set _ _ _ (by omega) HW.out.hi, by simpa using HW.out.hz, HW.out.hi⟩
                have HW1 := hid hW1
                have hz1' := hW1.hz
                have hLR : ((wc.setCell ⟨R, 2, none⟩ (.int .i64 0)).alloc (.cells #[.int .i64 (rk : Nat), .int .i64 (rsl : Nat), .int .i64 0, .int .i64 (rv : Nat)] 37)) = ((wc.setCell ⟨R, 2, none⟩ (.int .i64 0)).alloc (.cells #[.int .i64 ((⟨rk, rsl, 0, rv⟩ : R4n).k : Nat), .int .i64 ((⟨rk, rsl, 0, rv⟩ : R4n).s : Nat), .int .i64 ((⟨rk, rsl, 0, rv⟩ : R4n).n : Nat), .int .i64 ((⟨rk, rsl, 0, rv⟩ : R4n).v : Nat)] 37)) := rfl
                clear hLR hW1
                have hlen2 : recs.length ≤ 1000000 := by have := hrl.1; omega
                go_wp2_with (first | ((with_reducible refine wpList_unguard ?_ ?_); (focus rfl)) | (at_builtin; go_loud (refine wpList_pushRec (by rfl) _ _ _ (by rfl) (w.heap.size + 2) i0 Try.underlying22 hi0 _ hz0 rfl hz1 (by rw [hz2]; decide) v recs ⟨rk, rsl, 0, rv⟩ HW1.out.ho (by rfl) _ (by rfl) (by simp) hlen2 hz1' ?_)))
                intro v' w5 hrow hb5
                have hN : RL i s w w5 (halfV v gen' us false cc) v' (recs ++ [⟨rk, rsl, 0, rv⟩]) := by
                  obtain ⟨q0, q1, q2, q3, q4, q5⟩ := HW1.out
                  refine ⟨?_, ?_, hrow, q3.belowN hb5 (by omega) q5, Nat.le_trans q4 hb5.size, q5⟩
                  · unfold Blk; rw [hb5.block _ (by omega)]; exact q0
                  · unfold Blk; rw [hb5.block _ (by omega)]; exact q1
                have HN1 := hid ((hN.set 0 v').set 2 (.int .i64 ((k + 1 : Nat) : Int)))
                have d0 : w5.cell? ⟨w.heap.size + 1, 0, none⟩ = some v := hN.h1.cell 0 _ rfl
                have d2 : w5.cell? ⟨w.heap.size + 1, 2, none⟩ = some (.int .i64 (us : Nat)) := hN.h1.cell 2 _ rfl
                have k0 := hN.h1.free 0
                have k2 := hN.h1.free 2
                obtain ⟨g', cap', hv'⟩ : ∃ g' cap' : Nat, v' = .slice (some ⟨g', 0, none⟩) (recs.length + 1) cap' := by
                  rcases hrow.2 with ⟨_, h0⟩ | ⟨g', cap, cur, e, _⟩
                  · simp at h0
                  · exact ⟨g', cap, by rw [e, List.length_append]; rfl⟩
                subst hv'
                clear hN hrow hb5
                go_wp2_with ((with_reducible refine wpList_unguard ?_ ?_); (focus rfl))
                go_roundw
                case rel =>
                  refine ⟨k + 1, (⟨recs ++ [(⟨rk, rsl, 0, rv⟩ : R4n)], gen', k + 1, cc, false, se⟩ : HS), .slice (some ⟨g', 0, none⟩) (recs.length + 1) cap', by omega, ?_, by go_num, rfl, rfl, HN1.out⟩
                  rw [HSX.out, HSC.out]
                  simp [hk0, h127]
                case measure => simp [intOf] <;> omega
    · have HK : Hid (runH s hf 16 = some x) := by show _ = _; rw [← hx, show k = 16 from by omega]
      have HW := hid hrl0
      clear hrl0 hx hrl
      obtain ⟨recs, gen', us, cl, en, se⟩ := x
      have c0 : wr.cell? ⟨w.heap.size + 1, 0, none⟩ = some v := HW.out.h1.cell 0 _ rfl
      have c1 : wr.cell? ⟨w.heap.size + 1, 1, none⟩ = some (.int .i64 (gen' : Nat)) := HW.out.h1.cell 1 _ rfl
      have c2 : wr.cell? ⟨w.heap.size + 1, 2, none⟩ = some (.int .i64 (us : Nat)) := HW.out.h1.cell 2 _ rfl
      have c3 : wr.cell? ⟨w.heap.size + 1, 3, none⟩ = some (.bool false) := HW.out.h1.cell 3 _ rfl
      have c4 : wr.cell? ⟨w.heap.size + 1, 4, none⟩ = some (.bool cl) := HW.out.h1.cell 4 _ rfl
      have f3 := HW.out.h1.free 3
      have hn01 : w.heap.size ≠ w.heap.size + 1 := by omega
      have y0 : wr.cell? ⟨w.heap.size, 0, none⟩ = some (.slice none 0 0) := HW.out.h0.cell 0 _ rfl
      have y1 : wr.cell? ⟨w.heap.size, 1, none⟩ = some (.int .i64 0) := HW.out.h0.cell 1 _ rfl
      have y2 : wr.cell? ⟨w.heap.size, 2, none⟩ = some (.int .i64 0) := HW.out.h0.cell 2 _ rfl
      have y3 : wr.cell? ⟨w.heap.size, 3, none⟩ = some (.bool false) := HW.out.h0.cell 3 _ rfl
      have y4 : wr.cell? ⟨w.heap.size, 4, none⟩ = some (.bool false) := HW.out.h0.cell 4 _ rfl
      have g0 := HW.out.h0.free 0
      have g1 := HW.out.h0.free 1
      have g2 := HW.out.h0.free 2
      have g3 := HW.out.h0.free 3
      have g4 := HW.out.h0.free 4
      have hk16 : k = 16 := by omega
      subst hk16
      have HO := hid HW.out.ho
      obtain ⟨p, n, c, hv⟩ : ∃ p n c, v = .slice p n c := by
        rcases HW.out.ho.2 with ⟨e, _⟩ | ⟨g', cap, cur, e, _⟩
        · exact ⟨_, _, _, e⟩
        · exact ⟨_, _, _, e⟩
      subst hv
      have HS3 := hid (HW.out.set 3 (.bool se))
      have hlo : w.heap.size < w.heap.size + 1 := by omega
      go_wp2_with ((with_reducible refine wpList_unguard ?_ ?_); (focus rfl))
      clear y0 y1 y2 y3 y4 g0 g1 g2 g3 g4 c0 c1 c2 c3 c4 f3
      have hF0 := ((((((HS3.out.h0.set 0 (.slice p n c)).set 1 (.int .i64 (gen' : Nat))).set 2 (.int .i64 (us : Nat))).set 3 (.bool se)).set 4 (.bool cl)))
      have hF1 := ((((((HS3.out.ho.set w.heap.size 0 (.slice p n c) (by omega)).set w.heap.size 1 (.int .i64 (gen' : Nat)) (by omega)).set w.heap.size 2 (.int .i64 (us : Nat)) (by omega)).set w.heap.size 3 (.bool se) (by omega)).set w.heap.size 4 (.bool cl) (by omega)))
      have hF2 := ((((((HS3.out.hr.set w.heap.size 0 (.slice p n c) (Nat.le_refl _) hih).set w.heap.size 1 (.int .i64 (gen' : Nat)) (Nat.le_refl _) hih).set w.heap.size 2 (.int .i64 (us : Nat)) (Nat.le_refl _) hih).set w.heap.size 3 (.bool se) (Nat.le_refl _) hih).set w.heap.size 4 (.bool cl) (Nat.le_refl _) hih))
      generalize (((((wr.setCell ⟨w.heap.size + 1, 3, none⟩ (.bool se)).setCell ⟨w.heap.size, 0, none⟩ (.slice p n c)).setCell ⟨w.heap.size, 1, none⟩ (.int .i64 (gen' : Nat))).setCell ⟨w.heap.size, 2, none⟩ (.int .i64 (us : Nat))).setCell ⟨w.heap.size, 3, none⟩ (.bool se)).setCell ⟨w.heap.size, 4, none⟩ (.bool cl) = wz at *
      have y0 : wz.cell? ⟨w.heap.size, 0, none⟩ = some (.slice p n c) := hF0.cell 0 _ rfl
      have y1 : wz.cell? ⟨w.heap.size, 1, none⟩ = some (.int .i64 (gen' : Nat)) := hF0.cell 1 _ rfl
      have y2 : wz.cell? ⟨w.heap.size, 2, none⟩ = some (.int .i64 (us : Nat)) := hF0.cell 2 _ rfl
      have y3 : wz.cell? ⟨w.heap.size, 3, none⟩ = some (.bool se) := hF0.cell 3 _ rfl
      have y4 : wz.cell? ⟨w.heap.size, 4, none⟩ = some (.bool cl) := hF0.cell 4 _ rfl
      refine bodyPost_ret (v := .tuple #[.agg #[.slice p n c, .int .i64 (gen' : Nat), .int .i64 (us : Nat), .bool se, .bool cl], .int .i64 0]) (by simp [results, Try.results47, go_sem, y0, y1, y2, y3, y4]) rfl ?_
      rw [HK.out]
      exact ⟨.slice p n c, rfl, hF1.weak (by omega), hF2⟩
end Go.Proofs.Ytngkmlchblgmeaa
