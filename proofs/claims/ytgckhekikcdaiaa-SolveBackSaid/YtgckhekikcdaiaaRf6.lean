/-
  The document's Solve (chapter 06): the bytes at some places that make a word right, by elimination.
-/
import Derived.Test.YtgckhekikcdaiaaPak15
import Derived.Test.YtgckhekikcdaiaaPak5
import Derived.Test.YtgckhekikcdaiaaPak8
namespace Tri
open Go.Proofs.Ytgckhekikcdaiaa
def restTo (pl word : List Nat) (j : Nat) : List Nat := (List.range word.length).map fun i => if i ∈ pl.take j then 0 else word.getD i 0
theorem restTo_len (pl word : List Nat) (j : Nat) : (restTo pl word j).length = word.length := by unfold restTo; simp
theorem map_range_ext {f : Nat → Nat} {n : Nat} {l : List Nat} (hl : l.length = n) (h : ∀ i, i < n → f i = l.getD i 0) : (List.range n).map f = l := by
  apply list_ext (by simp [hl])
  intro i
  by_cases hi : i < n
  · rw [map_getD _ _ _ hi, h i hi]
  · rw [getD_ge _ _ (by simp; omega), getD_ge _ _ (by omega)]
theorem restTo_zero (pl word : List Nat) : restTo pl word 0 = word := map_range_ext rfl fun i _ => by rw [List.take_zero, if_neg (by simp)]
theorem restTo_all (pl word : List Nat) : restTo pl word pl.length = restL pl word := by unfold restTo restL; rw [List.take_length]
theorem take_mem_succ {pl : List Nat} {j : Nat} (hj : j < pl.length) (i : Nat) : i ∈ pl.take (j + 1) ↔ i ∈ pl.take j ∨ i = pl.getD j 0 := by
  rw [List.take_succ_eq_append_getElem hj, List.mem_append, List.mem_singleton, getD_of _ _ hj]
theorem restTo_succ {pl word : List Nat} {j : Nat} (hj : j < pl.length) (hm : pl.getD j 0 < word.length) : (restTo pl word j).set (pl.getD j 0) 0 = restTo pl word (j + 1) := by
  symm
  unfold restTo
  refine map_range_ext (by simp) fun i hi => ?_
  rw [getD_set _ _ _ _ (by simpa using hm), map_getD _ _ _ hi]
  by_cases e : i = pl.getD j 0
  · rw [if_pos ((take_mem_succ hj i).2 (.inr e)), if_pos e]
  · rw [if_neg e]
    by_cases h2 : i ∈ pl.take j
    · rw [if_pos ((take_mem_succ hj i).2 (.inl h2)), if_pos h2]
    · rw [if_neg (fun h => ((take_mem_succ hj i).1 h).elim h2 e), if_neg h2]
def filTo (pl word : List Nat) (x : Nat → Nat) (j : Nat) : List Nat := (List.range word.length).map fun i => if i ∈ pl.take j then x (pl.idxOf i) else if i ∈ pl then 0 else word.getD i 0
theorem filTo_len (pl word : List Nat) (x : Nat → Nat) (j : Nat) : (filTo pl word x j).length = word.length := by unfold filTo; simp
theorem filTo_zero (pl word : List Nat) (x : Nat → Nat) : filTo pl word x 0 = restL pl word := by
  unfold filTo restL
  apply List.map_congr_left
  intro i _
  rw [List.take_zero, if_neg (by simp)]
theorem filTo_all (pl word : List Nat) (x : Nat → Nat) : filTo pl word x pl.length = fillP pl word x := by
  unfold filTo fillP
  apply List.map_congr_left
  intro i _
  rw [List.take_length]
  by_cases h : i ∈ pl
  · rw [if_pos h, if_pos h]
  · rw [if_neg h, if_neg h, if_neg h]
theorem filTo_succ {pl word : List Nat} (hpl : pl.Nodup) (x : Nat → Nat) {j : Nat} (hj : j < pl.length) (hm : pl.getD j 0 < word.length) : (filTo pl word x j).set (pl.getD j 0) (x j) = filTo pl word x (j + 1) := by
  symm
  unfold filTo
  refine map_range_ext (by simp) fun i hi => ?_
  rw [getD_set _ _ _ _ (by simpa using hm), map_getD _ _ _ hi]
  by_cases e : i = pl.getD j 0
  · rw [if_pos ((take_mem_succ hj i).2 (.inr e)), if_pos e, e, idx_getD hpl hj]
  · rw [if_neg e]
    by_cases h2 : i ∈ pl.take j
    · rw [if_pos ((take_mem_succ hj i).2 (.inl h2)), if_pos h2]
    · rw [if_neg (fun h => ((take_mem_succ hj i).1 h).elim h2 e), if_neg h2]
theorem range_map_succ (f : Nat → Nat) (c : Nat) : (List.range (c + 1)).map f = (List.range c).map f ++ [f c] := by rw [List.range_succ, List.map_append]; rfl
theorem scTo_zero (M : Nat → Nat → Nat) (j inv : Nat) : scTo M j inv 0 = M := by
  funext a b; unfold scTo; rw [if_neg (by omega)]
theorem scTo_at (M : Nat → Nat → Nat) (j inv m : Nat) : scTo M j inv m j m = M j m := by unfold scTo; rw [if_neg (by omega)]
theorem scTo_succ (M : Nat → Nat → Nat) (j inv m : Nat) : (fun a b => if a = j ∧ b = m then gmul (M j m) inv else scTo M j inv m a b) = scTo M j inv (m + 1) := by
  funext a b
  unfold scTo
  by_cases h1 : a = j
  · by_cases h2 : b = m
    · rw [if_pos ⟨h1, h2⟩, if_pos ⟨h1, by omega⟩, h1, h2]
    · rw [if_neg (fun h => h2 h.2)]
      by_cases h3 : b < m
      · rw [if_pos ⟨h1, h3⟩, if_pos ⟨h1, by omega⟩]
      · rw [if_neg (fun h => h3 h.2), if_neg (fun h => by omega)]
  · rw [if_neg (fun h => h1 h.1), if_neg (fun h => h1 h.1), if_neg (fun h => h1 h.1)]
theorem elTo_zero (M : Nat → Nat → Nat) (j : Nat) : elTo M j 0 0 = M := by
  funext a b; unfold elTo; rw [if_neg (by omega)]
theorem elTo_row (M : Nat → Nat → Nat) (j i m c : Nat) : elTo M j i m j c = M j c := by unfold elTo; rw [if_neg (fun h => h.1 rfl)]
theorem elTo_at (M : Nat → Nat → Nat) (j i m : Nat) : elTo M j i m i m = M i m := by unfold elTo; rw [if_neg (by omega)]
theorem elTo_f (M : Nat → Nat → Nat) (j i : Nat) : elTo M j i 0 i j = M i j := by unfold elTo; rw [if_neg (by omega)]
theorem elTo_succ (M : Nat → Nat → Nat) {j i m : Nat} (hij : i ≠ j) : (fun a b => if a = i ∧ b = m then M i m ^^^ gmul (M i j) (M j m) else elTo M j i m a b) = elTo M j i (m + 1) := by
  funext a b
  by_cases h1 : a = i
  · by_cases h2 : b = m
    · show (if a = i ∧ b = m then _ else _) = _
      rw [if_pos ⟨h1, h2⟩]
      unfold elTo
      rw [if_pos ⟨by omega, .inr ⟨h1, by omega⟩⟩, h1, h2]
    · show (if a = i ∧ b = m then _ else _) = _
      rw [if_neg (fun h => h2 h.2)]
      unfold elTo
      by_cases h3 : b < m
      · rw [if_pos ⟨by omega, .inr ⟨h1, h3⟩⟩, if_pos ⟨by omega, .inr ⟨h1, by omega⟩⟩]
      · rw [if_neg (fun h => by omega), if_neg (fun h => by omega)]
  · show (if a = i ∧ b = m then _ else _) = _
    rw [if_neg (fun h => h1 h.1)]
    unfold elTo
    by_cases h3 : a ≠ j ∧ a < i
    · rw [if_pos ⟨h3.1, .inl h3.2⟩, if_pos ⟨h3.1, .inl h3.2⟩]
    · rw [if_neg (fun h => by omega), if_neg (fun h => by omega)]
theorem elTo_next (M : Nat → Nat → Nat) (j i t : Nat) (a c : Nat) (hc : c < t) : elTo M j i t a c = elTo M j (i + 1) 0 a c := by
  unfold elTo
  by_cases h : a ≠ j ∧ (a < i ∨ a = i ∧ c < t)
  · rw [if_pos h, if_pos ⟨h.1, .inl (by omega)⟩]
  · rw [if_neg h, if_neg (fun h2 => h ⟨h2.1, by omega⟩)]
theorem elTo_skip (M : Nat → Nat → Nat) {j i : Nat} (h : i = j ∨ M i j = 0) (a c : Nat) : elTo M j i 0 a c = elTo M j (i + 1) 0 a c := by
  unfold elTo
  by_cases h1 : a ≠ j ∧ (a < i ∨ a = i ∧ c < 0)
  · rw [if_pos h1, if_pos ⟨h1.1, .inl (by omega)⟩]
  · rw [if_neg h1]
    by_cases h2 : a ≠ j ∧ (a < i + 1 ∨ a = i + 1 ∧ c < 0)
    · have e : a = i := by omega
      rw [if_pos h2, e]
      rcases h with h | h
      · omega
      · rw [h, zero_gmul, Nat.xor_zero]
    · rw [if_neg h2]
end Tri
namespace Go.Proofs.Ytgckhekikcdaiaa
open Go.RowKit Tri

set_option maxHeartbeats 4000000 in
set_option maxRecDepth 100000 in
theorem ref6_Solve (pw : Option Addr) (cw : Nat) (word : List Nat) (n k : Nat) (pp : Option Addr) (cp : Nat) (pl : List Nat) (w : World) (hw : cellsB w pw word) (hbw : bytesL word) (hl : word.length = n) (hk : k < n) (hn : n ≤ 255)
    (hp : cellsI w pp pl) (hpl : pl.Nodup) (hm : ∀ i ∈ pl, i < n) (ht : pl.length ≤ n - k) :
    Calls Try.prog 42 #[.slice pw word.length cw, .int .i64 n, .int .i64 k, .slice pp pl.length cp] w fun e w' => Below w.heap.size w w' ∧
      ((∃ p c o, e = .returned (.tuple #[.slice p o.length c, .bool true]) ∧ o.length ≤ c ∧ cellsB w' p o ∧ bytesL o ∧ o.length = n ∧ rightB o (n - k) = true ∧ ∀ i, i < n → i ∉ pl → o.getD i 0 = word.getD i 0) ∨
       (e = .returned (.tuple #[.slice none 0 0, .bool false]) ∧ ¬ ∃ o, bytesL o ∧ o.length = n ∧ rightB o (n - k) = true ∧ ∀ i, i < n → i ∉ pl → o.getD i 0 = word.getD i 0)) := by
  have HW := hid hw
  have HBW := hid hbw
  have HL := hid hl
  have HP := hid hp
  have HPL := hid hpl
  have HM := hid hm
  obtain ⟨P, hP⟩ : ∃ P, n - k = P := ⟨_, rfl⟩
  rw [hP]
  have hnk : (n : Int) - (k : Int) = (P : Int) := by omega
  have hP1 : 1 ≤ P := by omega
  have hP2 : P ≤ 255 := by omega
  have htP : pl.length ≤ P := by omega
  have hwl : word.length ≤ 255 := by omega
  have hA : Below w.heap.size w (w.alloc (.cells #[] 5)) := (Below.refl _ _).alloc (Nat.le_refl _) _
  have hown : ownsB (w.alloc (.cells #[] 5)) w.heap.size (.slice (some ⟨w.heap.size, 0, none⟩) 0 0) [] := World.ownsRow_lit w #[] 0 (Nat.le_refl _) (by unfold maxLen; omega) rfl
  have hqa := hw.below hA
  have hwne : word ≠ [] := fun h => by rw [h] at hl; simp at hl; omega
  have HWNE := hid hwne
  clear hw hbw hp hpl hm ht hP hl
  (go_enter Try.func42, Try.ntmps42; try simp only [List.append])
  go_wp2_with (at_builtin; refine wpList_pushB rfl _ _ rfl w.heap.size _ [] word pw cw hown hqa HWNE.out rfl _ rfl rfl (by simp) (by omega) hA.size ?_)
  intro v' w1 hq' hb'
  obtain ⟨ob, cap, rfl, hob, hcap, hbuf⟩ := hq'.buf2 (by simpa using HWNE.out)
  have HB1 := hid (hA.trans hb')
  have HOB := hid hob
  have HBF : Hid (bufB w1 ob (restTo pl word 0)) := by show bufB _ _ _; rw [restTo_zero]; exact hbuf
  have hcap : word.length ≤ cap := hcap
  clear hA hown hqa hq' hb' hob hbuf hwne
  go_wp2_with ((with_reducible refine wpList_unguard ?_ ?_); (focus rfl))
  go_loopw [11] (fun i wr => ∃ j : Nat, j ≤ pl.length ∧ i = .int .i64 j ∧ bufB wr ob (restTo pl word j) ∧ Below w.heap.size w wr) (fun i _ => pl.length - (intOf i).toNat)
  case atStart => exact ⟨0, Nat.zero_le _, rfl, HBF.out, HB1.out⟩
  case round =>
    clear HBF HB1
    obtain ⟨j, hj, rfl, hbuf, hb⟩ := hrel
    have HBF := hid hbuf
    have HB := hid hb
    clear hbuf hb
    by_cases hlt : j < pl.length
    · obtain ⟨bb, oo, rfl, hcl⟩ := (HP.out.below HB.out) j hlt
      have hin : pl.getD j 0 < word.length := by rw [HL.out, getD_of _ _ hlt]; exact HM.out _ (List.getElem_mem hlt)
      have HS : Hid ((restTo pl word j).set (pl.getD j 0) 0 = restTo pl word (j + 1)) := restTo_succ hlt hin
      have hRl := restTo_len pl word j
      generalize pl.getD j 0 = x at *
      have hxl : x < (restTo pl word j).length := by omega
      have hbc := HBF.out.at x hxl
      have hbf := HBF.out.2 x hxl
      have HST := hid (HBF.out.set x 0 hxl)
      rw [HS.out] at HST
      have HBl := hid (HB.out.setCell (p := ⟨ob, x, none⟩) HOB.out (.int .u8 (0 : Nat)))
      clear HS hRl hxl HBF
      have hin' : (x : Int) < (word.length : Int) := by omega
      go_wp2_with ((with_reducible refine wpList_unguard ?_ ?_); (focus rfl))
      go_roundw
      case rel => exact ⟨j + 1, by omega, by go_num, HST.out, HBl.out⟩
      case measure => simp [intOf]; omega
    · obtain rfl : j = pl.length := by omega
      rw [restTo_all] at HBF
      have HSl := hid (synd_length (restL pl word) P)
      have HRB := hid (restL_bytes (pl := pl) HBW.out)
      have HRL := hid (restL_len pl word)
      have hVal := hid (ref6_Values (some ⟨ob, 0, none⟩) word.length cap (restL pl word) P wr HRL.out.symm HBF.out.1 HRB.out (by rw [HRL.out]; omega) (by omega))
      have hwr : IntKind.i64.wrap ((n : Int) - (k : Int)) = (P : Int) := by rw [IntKind.wrap_i64]; omega
      go_wp2_with ((with_reducible refine wpList_unguard ?_ ?_); (focus rfl))
      refine Calls.mono hVal.out ?_; rintro e w2 ⟨p1, c1, rfl, hle1, hc1, hb⟩
      have HB2 := hid (HB.out.trans (hb.mono HB.out.size))
      have HBF2 := hid (HBF.out.below hb)
      have HVC := hid hc1
      clear hVal hc1 hb HB HBF HRB HRL
      obtain ⟨S, hSS⟩ : ∃ S, synd (restL pl word) P = S := ⟨_, rfl⟩
      rw [hSS] at HVC HSl hle1 ⊢
      have HSS := hid hSS
      clear hSS
      have HM0 := hid (MatC.start (w := w2) (base := w2.heap.size) (Nat.le_refl _) (pl.length + 1) (fun _ => 0) (fun _ => 0) (M0F n pl S))
      have HA2 := hid (show Below w2.heap.size w2 (w2.alloc (.cells #[] 41)) from (Below.refl _ _).alloc (Nat.le_refl _) _)
      obtain ⟨inf, hi, hz0, hz1, hz2⟩ := info_parts Try.infoI
      obtain ⟨inr, hir, hr0, hr1, hr2⟩ := info_parts Try.infoRI
      have hnk1 : (1 : Int) ≤ (n : Int) := by omega
      go_wp2_with ((with_reducible refine wpList_unguard ?_ ?_); (focus rfl))
      go_loopw [14, 13] (fun i v wr => ∃ (j : Nat) (B C : Nat → Nat), j ≤ P ∧ i = .int .i64 j ∧ MatC wr w2.heap.size v j (pl.length + 1) B C (M0F n pl S) ∧ Below w2.heap.size w2 wr) (fun i _ _ => P - (intOf i).toNat)
      case atStart => exact ⟨0, _, _, Nat.zero_le _, rfl, HM0.out, HA2.out⟩
      case round =>
        clear HM0 HA2
        obtain ⟨j, B, C, hj, rfl, hM, hb⟩ := hrel
        have HMC := hid hM
        have HBr := hid hb
        clear hM hb
        rename World => wo
        by_cases hlt : j < P
        · have HR0 : Hid (rowK (wo.alloc (.cells #[] 3)) wo.heap.size 3 .i64 (.slice (some ⟨wo.heap.size, 0, none⟩) 0 0) ((List.range 0).map (M0F n pl S j))) := World.ownsRow_lit wo #[] 0 (Nat.le_refl _) (by unfold maxLen; omega) rfl
          have HA3 := hid (show Below wo.heap.size wo (wo.alloc (.cells #[] 3)) from (Below.refl _ _).alloc (Nat.le_refl _) _)
          go_wp2_with ((with_reducible refine wpList_unguard ?_ ?_); (focus rfl))
          go_loopw [16, 15] (fun c v wq => ∃ q : Nat, q ≤ pl.length ∧ c = .int .i64 q ∧ rowK wq wo.heap.size 3 .i64 v ((List.range q).map (M0F n pl S j)) ∧ Below wo.heap.size wo wq) (fun c _ _ => pl.length - (intOf c).toNat)
          case atStart => exact ⟨0, Nat.zero_le _, rfl, HR0.out, HA3.out⟩
          case round =>
            clear HR0 HA3
            obtain ⟨q, hq, rfl, hrow, hbq⟩ := hrel
            have HRow := hid hrow
            have HBq := hid hbq
            clear hrow hbq
            by_cases hlq : q < pl.length
            · have hBw := HB2.out.trans ((HBr.out.trans (HBq.out.mono HBr.out.size)).mono HB2.out.size)
              obtain ⟨bb, oo, rfl, hcl⟩ := (HP.out.below hBw) q hlq
              have hin : pl.getD q 0 < n := by rw [getD_of _ _ hlq]; exact HM.out _ (List.getElem_mem hlq)
              have HE : Hid (M0F n pl S j q = gexp (j * ex n (pl.getD q 0))) := by show M0F n pl S j q = _; unfold M0F; rw [if_pos hlq]
              generalize pl.getD q 0 = x at *
              have hex : (n : Int) - 1 - (x : Int) = ((ex n x : Nat) : Int) := by unfold ex; omega
              have hex2 : ex n x ≤ 255 := by unfold ex; omega
              have hmul : j * ex n x ≤ 255 * 255 := Nat.mul_le_mul (by omega) hex2
              have HWX : Hid (wrap64 ((j : Int) * ((n : Int) - 1 - (x : Int))) = ((j * ex n x : Nat) : Int)) := by
                show _ = _
                rw [hex, ← Int.natCast_mul]
                obtain ⟨y, hy⟩ : ∃ y, j * ex n x = y := ⟨_, rfl⟩
                rw [hy] at hmul ⊢
                unfold wrap64; omega
              have hEx := hid (ref_Exp (j * ex n x) (by omega) wr)
              rw [← HE.out] at hEx
              generalize j * ex n x = y at *
              have HSu := hid (range_map_succ (M0F n pl S j) q)
              have hlen : Hid (((List.range q).map (M0F n pl S j)).length = q) := by show _ = _; simp
              generalize M0F n pl S j q = z at *
              clear hex hex2 hmul HE
              go_wp2_with ((with_reducible refine wpList_unguard ?_ ?_); (focus rfl))
              rw [HWX.out]
              refine Calls.mono hEx.out ?_; rintro e w5 ⟨rfl, rfl⟩
              go_wp2_with (at_builtin; refine wpList_push rfl _ _ 41 rfl _ 3 inf .i64 8 Try.underlying41 hi hz0 hz1 hz2 (by decide) _ ((List.range q).map (M0F n pl S j)) z HRow.out rfl _ rfl rfl (by rw [hlen.out]; omega) HBq.out.size ?_)
              intro v' w6 hq6 hb6
              have HR6 : Hid (rowK w6 wo.heap.size 3 .i64 v' ((List.range (q + 1)).map (M0F n pl S j))) := by show rowK _ _ _ _ _ _; rw [HSu.out]; exact hq6
              have HB6 := hid (HBq.out.trans hb6)
              clear hq6 hb6 hEx
              go_wp2_with ((with_reducible refine wpList_unguard ?_ ?_); (focus rfl))
              go_roundw
              case rel => exact ⟨q + 1, by omega, by go_num, HR6.out, HB6.out⟩
              case measure => simp [intOf]; omega
            · obtain rfl : q = pl.length := by omega
              have hlen : ((List.range pl.length).map (M0F n pl S j)).length = pl.length := by simp
              have hbw2 := HBr.out.trans (HBq.out.mono HBr.out.size)
              obtain ⟨bb, oo, rfl, hcl⟩ := (HVC.out.below hbw2) j (by rw [HSl.out]; exact hlt)
              have HSj : Hid (S.getD j 0 = M0F n pl S j pl.length) := by show _ = _; unfold M0F; rw [if_neg (by omega)]
              have HSj2 : Hid (j < S.length) := (show j < S.length by rw [HSl.out]; exact hlt)
              have hjS : (j : Int) < (S.length : Int) := by have := HSj2.out; omega
              have hjS' : j < S.length := HSj2.out
              rw [HSj.out] at hcl
              have HSu := hid (range_map_succ (M0F n pl S j) pl.length)
              clear HSj hlen
              obtain ⟨z, hz⟩ : ∃ z, M0F n pl S j pl.length = z := ⟨_, rfl⟩
              rw [hz] at hcl HSu
              have HZ := hid hz
              clear hz
              go_wp2_with (at_builtin; refine wpList_push rfl _ _ 41 rfl _ 3 inf .i64 8 Try.underlying41 hi hz0 hz1 hz2 (by decide) _ ((List.range pl.length).map (M0F n pl S j)) z HRow.out rfl _ rfl rfl (by simp; omega) HBq.out.size ?_)
              intro v' w6 hq6 hb6
              have hq6 : rowK w6 wo.heap.size 3 .i64 v' ((List.range pl.length).map (M0F n pl S j) ++ [z]) := hq6
              rw [← HSu.out] at hq6
              obtain ⟨bn, cn, rfl, hrx, hbn, hcn⟩ := rowK_rowX hq6 (by simp)
              rw [List.length_map, List.length_range] at hrx hcn ⊢
              have hb06 := HBq.out.trans hb6
              have HM6 := hid (HMC.out.below hb06)
              have hnew : ∀ i, i < j → B i ≠ bn := fun i hi => by have h1 := (HMC.out.row i hi).lt; have h2 : wo.heap.size ≤ bn := hbn; omega
              have hbn2 : w2.heap.size ≤ bn := Nat.le_trans HBr.out.size hbn
              have hrx2 := hrx.congr (g := fun c => .int .i64 (M0F n pl S j c : Nat)) (fun i hi => by rw [map_getD _ _ _ hi])
              have hbs : w2.heap.size ≤ w6.heap.size := Nat.le_trans HBr.out.size hb06.size
              have HB06 := hid (HBr.out.trans (hb06.mono HBr.out.size))
              clear hq6 hb6 hrx hbn
              go_wp2_with (at_builtin; refine wpList_pushM rfl _ _ 100 rfl w2.heap.size inr Try.underlying100 hir hr0 hr1 hr2 _ j (pl.length + 1) B C (M0F n pl S) HM6.out rfl bn cn (M0F n pl S j) hrx2 hnew hbn2 hcn _ rfl rfl (by omega) hbs ?_)
              intro v' w7 hM7 hb7
              have HM7 := hid hM7
              have HB7 := hid (HB06.out.trans hb7)
              clear hM7 hb7 hnew hrx2 hcn hb06
              have HMe : Hid (MatC w7 w2.heap.size v' (j + 1) (pl.length + 1) (updF B j bn) (updF C j cn) (M0F n pl S)) := by
                have e : updF (M0F n pl S) j (M0F n pl S j) = M0F n pl S := by
                  funext a
                  unfold updF
                  by_cases h : a = j
                  · rw [if_pos h, h]
                  · rw [if_neg h]
                have := HM7.out
                rw [e] at this
                exact this
              clear HM7
              go_wp2_with ((with_reducible refine wpList_unguard ?_ ?_); (focus rfl))
              go_roundw
              case rel => exact ⟨j + 1, _, _, by omega, by go_num, HMe.out, HB7.out⟩
              case measure => simp [intOf]; omega
        · obtain rfl : j = P := by omega
          obtain ⟨G, capG, rfl, hcG, hMW⟩ := HMC.out.mat
          have HMW := hid hMW
          have HB3 := hid HBr.out
          have HM0b : Hid (bytesM (M0F n pl S)) := by
            intro i c
            unfold M0F
            split
            · exact gexp_lt _
            · exact getD_lt (by rw [← HSS.out]; exact synd_bytes (restL_bytes HBW.out) _) i
          have HEl0 := hid (ElI.start (r := j) (t := pl.length) HM0b.out)
          have HKer : Hid (∀ (q : Nat) (M : Nat → Nat → Nat), ElI j pl.length q (M0F n pl S) M → q < pl.length → ¬ ∀ a, q ≤ a → a < j → M a q = 0) := by
            intro q M hE hq hz
            obtain ⟨x, h1, h2, h3, h4⟩ := hE.kernel hq hz
            have := M0F_inj hn HPL.out HM.out htP S h1 h3 h4 q hq
            omega
          clear hMW HMC HBr HM0b hi hz0 hz1 hz2 hir hr0 hr1 hr2
          have HjP := hid hj
          clear hj
          generalize hPJ : j = P at *
          have HPJ := hid hPJ
          clear hPJ
          go_wp2_with ((with_reducible refine wpList_unguard ?_ ?_); (focus rfl))
          rename World => w3
          go_loopw [18, 17] (fun jv uv wr => ∃ (q : Nat) (B C : Nat → Nat) (M : Nat → Nat → Nat), q ≤ pl.length ∧ jv = .int .i64 q ∧ uv = .int .i64 q ∧ MatW wr w2.heap.size G P (pl.length + 1) B C M ∧ ElI P pl.length q (M0F n pl S) M ∧ Below w2.heap.size w2 wr) (fun jv _ _ => pl.length - (intOf jv).toNat)
          case atStart => exact ⟨0, B, C, M0F n pl S, Nat.zero_le _, rfl, rfl, HMW.out, HEl0.out, HB3.out⟩
          case round =>
            clear HMW HEl0 HB3
            obtain ⟨q, B, C, M, hq, rfl, rfl, hMW, hEl, hb⟩ := hrel
            have HMW := hid hMW
            have HEl := hid hEl
            have HB4 := hid hb
            clear hMW hEl hb
            rename World => w4
            by_cases hlq : q < pl.length
            · go_wp2_with ((with_reducible refine wpList_unguard ?_ ?_); (focus rfl))
              go_loopw [19] (fun av wr => ∃ a : Nat, q ≤ a ∧ a ≤ P ∧ av = .int .i64 a ∧ wr = w4 ∧ ∀ b, q ≤ b → b < a → M b q = 0) (fun av _ => P - (intOf av).toNat)
              case atStart => exact ⟨q, Nat.le_refl _, by omega, rfl, rfl, fun b h1 h2 => by omega⟩
              case round =>
                obtain ⟨a, ha1, ha2, rfl, rfl, hz⟩ := hrel
                have HZ := hid hz
                clear hz
                by_cases hla : a < P
                · have hg1 := HMW.out.g.cell hla
                  have hr1 := (HMW.out.row a hla).cell (show q < pl.length + 1 by omega)
                  by_cases hMq : M a q = 0
                  · rw [hMq] at hr1
                    have HZ2 : Hid (∀ b, q ≤ b → b < a + 1 → M b q = 0) := fun b h1 h2 => by
                      by_cases e : b = a
                      · rw [e]; exact hMq
                      · exact HZ.out b h1 (by omega)
                    clear hMq
                    go_wp2_with ((with_reducible refine wpList_unguard ?_ ?_); (focus rfl))
                    go_roundw
                    case rel => exact ⟨a + 1, by omega, by omega, by go_num, trivial, HZ2.out⟩
                    case measure => simp [intOf]; omega
                  · have hMq' : ((M a q : Int) == 0) = false := by rw [beq_eq_false_iff_ne]; omega
                    have HMA : Hid (M a q ≠ 0) := hMq
                    have hqP : q < P := by omega
                    have hgq := HMW.out.g.cell hqP
                    have HM1 := hid (HMW.out.swap (a := q) (b := a) hqP hla)
                    have HB5 := hid ((HB4.out.setCell (p := ⟨G, q, none⟩) HMW.out.gb (.slice (some ⟨B a, 0, none⟩) (pl.length + 1) (C a))).setCell (p := ⟨G, a, none⟩) HMW.out.gb (.slice (some ⟨B q, 0, none⟩) (pl.length + 1) (C q)))
                    have HSt := hid (HEl.out.step hlq htP ha1 hla hMq)
                    have a0d : wr.drew.cell? ⟨G, q, none⟩ = some (.slice (some ⟨B q, 0, none⟩) (pl.length + 1) (C q)) := hgq
                    have a1d : wr.drew.cell? ⟨G, a, none⟩ = some (.slice (some ⟨B a, 0, none⟩) (pl.length + 1) (C a)) := hg1
                    have f0d : wr.drew.frozen? ⟨G, q, none⟩ = false := HMW.out.g.frozen q
                    have f1d : wr.drew.frozen? ⟨G, a, none⟩ = false := HMW.out.g.frozen a
                    have hqPz : (q : Int) < (P : Int) := by omega
                    have haPz : (a : Int) < (P : Int) := by omega
                    have haP : (a == P) = false := by rw [beq_eq_false_iff_ne]; omega
                    have haPi : ((a : Int) == (P : Int)) = false := by rw [beq_eq_false_iff_ne]; omega
                    have hrw := HMW.out.g.set q (.slice (some ⟨B a, 0, none⟩) (pl.length + 1) (C a))
                    obtain ⟨z2, a2d⟩ : ∃ z, (wr.setCell ⟨G, q, none⟩ (.slice (some ⟨B a, 0, none⟩) (pl.length + 1) (C a))).drew.cell? ⟨G, a, none⟩ = some z := ⟨_, hrw.cell hla⟩
                    have f2d : (wr.setCell ⟨G, q, none⟩ (.slice (some ⟨B a, 0, none⟩) (pl.length + 1) (C a))).drew.frozen? ⟨G, a, none⟩ = false := hrw.frozen a
                    clear hMq hrw
                    go_upto_region 26 with fail
                    clear hg1 hgq hr1
                    go_region
                    have HM5 := hid HM1.out.drew
                    have HB5d := hid HB5.out.drew
                    have HQQ : Hid (swapF q a M q q = M a q) := by show _ = _; unfold swapF; rw [if_pos rfl]
                    have HM1b : Hid (bytesM (swapF q a M)) := swapF_bytes HEl.out.b q a
                    obtain ⟨iv, hiv⟩ : ∃ iv, ginv (M a q) = iv := ⟨_, rfl⟩
                    rw [hiv] at HSt
                    have hivl : iv < 256 := by rw [← hiv]; exact ginv_lt _
                    have HIV : Hid (rinv (swapF q a M q q) = iv) := by show _ = _; unfold rinv; rw [HQQ.out, if_neg HMA.out]; exact hiv
                    clear a0d a1d f0d f1d a2d f2d HM1 HB5 HMW HB4 hiv HQQ HMA HZ HEl haP haPi hMq'
                    generalize ((wr.setCell ⟨G, q, none⟩ (.slice (some ⟨B a, 0, none⟩) (pl.length + 1) (C a))).setCell ⟨G, a, none⟩ (.slice (some ⟨B q, 0, none⟩) (pl.length + 1) (C q))).drew = w5 at *
                    generalize swapF q a B = B1 at *
                    generalize swapF q a C = C1 at *
                    generalize swapF q a M = M1 at *
                    have g5 := HM5.out.g.cell hqP
                    have r5 := (HM5.out.row q hqP).cell (show q < pl.length + 1 by omega)
                    have hIn := hid (ref_Inv (M1 q q) (HM1b.out q q) w5)
                    rw [HIV.out] at hIn
                    go_wp2_with ((with_reducible refine wpList_unguard ?_ ?_); (focus rfl))
                    refine Calls.mono hIn.out ?_; rintro e w6 ⟨rfl, rfl⟩
                    clear hIn g5 r5 HIV
                    go_wp2_with ((with_reducible refine wpList_unguard ?_ ?_); (focus rfl))
                    go_loopw [21] (fun mv wr => ∃ m : Nat, m ≤ pl.length + 1 ∧ mv = .int .i64 m ∧ MatW wr w2.heap.size G P (pl.length + 1) B1 C1 (scTo M1 q iv m) ∧ Below w2.heap.size w2 wr) (fun mv _ => pl.length + 1 - (intOf mv).toNat)
                    case atStart => exact ⟨0, Nat.zero_le _, rfl, by rw [scTo_zero]; exact HM5.out, HB5d.out⟩
                    case round =>
                      clear HM5 HB5d
                      obtain ⟨m, hm, rfl, hMW, hb⟩ := hrel
                      have HMW := hid hMW
                      have HB6 := hid hb
                      clear hMW hb
                      rename World => w6
                      by_cases hlm : m < pl.length + 1
                      · have hlm' : (m : Int) ≤ (pl.length : Int) := by omega
                        have hlm2 : (m : Int) < (pl.length : Int) + 1 := by omega
                        have g6 := HMW.out.g.cell hqP
                        have r6 := (HMW.out.row q hqP).cell hlm
                        have f6 := (HMW.out.row q hqP).frozen m
                        rw [scTo_at] at r6
                        have HSu := scTo_succ M1 q iv m
                        have hxl := HM1b.out q m
                        have hyl := gmul_lt (M1 q m) iv
                        have HMS := hid (HMW.out.set hqP m (gmul (M1 q m) iv))
                        rw [HSu] at HMS
                        have HBS := hid (HB6.out.setCell (p := ⟨B1 q, m, none⟩) (HMW.out.bb q hqP) (.int .i64 (gmul (M1 q m) iv : Nat)))
                        have hMu := fun u => hid (ref_Mul (M1 q m) iv hxl hivl u)
                        generalize M1 q m = x at *
                        generalize gmul x iv = y at *
                        clear HSu
                        go_upto_region 31 with fail
                        (refine wp_region_stg 0 [([0, 1, 2, 3, 4, 5, 6, 7, 8, 9, 10, 11, 12], 13)] [14, 15] (fun u => u = w6.drew) (by kernel_rfl) (by kernel_rfl) (by intro t v c a w h; cases t <;> exact h) (rfl) ?_; (simp only [List.take_succ_cons, List.take_zero, List.map_cons, List.map_nil, stOf, opAt, List.getD_cons_zero, List.getD_cons_succ]); (repeat (first | go_big_quiet_skip | (go_big_quiet_want; first | (go_big_quiet_op; go_big_quiet_on) | (apply Exists.intro; refine And.intro (fun wq hq => ?_) ?_; (focus ((subst hq; have g6d : w6.drew.cell? ⟨G, q, none⟩ = some (.slice (some ⟨B1 q, 0, none⟩) (pl.length + 1) (C1 q)) := g6; have r6d : w6.drew.cell? ⟨B1 q, m, none⟩ = some (.int .i64 (x : Nat)) := r6); (try go_simp); first | done | rfl | (fail))); go_simp; go_big_quiet_on)))); refine quietC_nil _ rfl ?_; intro wE hE; unfold wpSt)
                        have HE := hid hE
                        clear hE
                        ((repeat (first | go_big_quiet_skip | (go_big_quiet_want; first | (go_big_quiet_op; go_big_quiet_on) | (apply Exists.intro; refine And.intro (fun wq hq => ?_) ?_; (focus ((subst hq; have g6d : w6.drew.cell? ⟨G, q, none⟩ = some (.slice (some ⟨B1 q, 0, none⟩) (pl.length + 1) (C1 q)) := g6; have r6d : w6.drew.cell? ⟨B1 q, m, none⟩ = some (.int .i64 (x : Nat)) := r6); (try go_simp); first | done | rfl)); go_simp; go_big_quiet_on)))); refine quietC_nil _ rfl ?_)
                        obtain rfl : wE = w6.drew := HE.out
                        go_wp2_with ((with_reducible refine wpList_unguard ?_ ?_); (focus rfl))
                        refine Calls.mono (hMu _).out ?_; rintro e w7 ⟨rfl, rfl⟩
                        go_wp2_with ((with_reducible refine wpList_unguard ?_ ?_); (focus rfl))
                        refine ⟨fun u => u = w6.drew, fun _ h => h, rfl, ?_⟩
                        unfold wpSt
                        have r6d : w6.drew.cell? ⟨B1 q, m, none⟩ = some (.int .i64 (x : Nat)) := r6
                        have f6d : w6.drew.frozen? ⟨B1 q, m, none⟩ = false := f6
                        have HMD := hid HMS.out.drew
                        have HBD := hid HBS.out.drew
                        clear HMS HBS hMu g6 r6 f6
                        go_wp2_with ((with_reducible refine wpList_unguard ?_ ?_); (focus rfl))
                        go_roundw
                        case rel => exact ⟨m + 1, by omega, by go_num, HMD.out, HBD.out⟩
                        case measure => simp [intOf]; omega
                      · have hme : m = pl.length + 1 := by omega
                        rw [hme] at HMW
                        have hmg : pl.length < m := by omega
                        have hmgz : decide ((m : Int) ≤ (pl.length : Int)) = false := decide_eq_false (by omega)
                        have hmgz2 : decide (m ≤ pl.length) = false := decide_eq_false (by omega)
                        have HM2b := hid (scTo_bytes HM1b.out q iv (pl.length + 1))
                        clear HM1b hivl hm hlm hme
                        generalize scTo M1 q iv (pl.length + 1) = M2 at *
                        go_wp2_with ((with_reducible refine wpList_unguard ?_ ?_); (focus rfl))
                        go_loopw [22] (fun iv wr => ∃ i : Nat, i ≤ P ∧ iv = .int .i64 i ∧ MatW wr w2.heap.size G P (pl.length + 1) B1 C1 (elTo M2 q i 0) ∧ Below w2.heap.size w2 wr) (fun iv _ => P - (intOf iv).toNat)
                        case atStart => exact ⟨0, Nat.zero_le _, rfl, by rw [elTo_zero]; exact HMW.out, HB6.out⟩
                        case round =>
                          clear HMW HB6
                          obtain ⟨i, hi, rfl, hMW, hb⟩ := hrel
                          have HMW := hid hMW
                          have HB7 := hid hb
                          clear hMW hb
                          rename World => w7
                          by_cases hli : i < P
                          · have g7 := HMW.out.g.cell hli
                            have r7 := (HMW.out.row i hli).cell (show q < pl.length + 1 by omega)
                            rw [elTo_f] at r7
                            by_cases hsk : i = q ∨ M2 i q = 0
                            · have HSk := hid (HMW.out.congr (M' := elTo M2 q (i + 1) 0) (fun a _ c _ => elTo_skip M2 hsk a c))
                              by_cases hiq : i = q
                              · subst hiq
                                go_wp2_with ((with_reducible refine wpList_unguard ?_ ?_); (focus rfl))
                                go_roundw
                                case rel => exact ⟨i + 1, by omega, by go_num, HSk.out, HB7.out⟩
                                case measure => simp [intOf]; omega
                              · have hiqb : ((i : Int) == (q : Int)) = false := by rw [beq_eq_false_iff_ne]; omega
                                have hiqb' : (i == q) = false := by rw [beq_eq_false_iff_ne]; omega
                                have h0 := hsk.resolve_left hiq
                                rw [h0] at r7
                                clear hsk h0
                                go_wp2_with ((with_reducible refine wpList_unguard ?_ ?_); (focus rfl))
                                go_roundw
                                case rel => exact ⟨i + 1, by omega, by go_num, HSk.out, HB7.out⟩
                                case measure => simp [intOf]; omega
                            · have hiq : i ≠ q := fun h => hsk (.inl h)
                              have h0 : M2 i q ≠ 0 := fun h => hsk (.inr h)
                              have hiqb : ((i : Int) == (q : Int)) = false := by rw [beq_eq_false_iff_ne]; omega
                              have hiqb' : (i == q) = false := by rw [beq_eq_false_iff_ne]; omega
                              have h0b : ((M2 i q : Int) == 0) = false := by rw [beq_eq_false_iff_ne]; omega
                              have hfl := HM2b.out i q
                              obtain ⟨f, hf⟩ : ∃ f, M2 i q = f := ⟨_, rfl⟩
                              rw [hf] at r7 h0b hfl
                              have HF := hid hf
                              clear hsk h0 hf
                              go_wp2_with ((with_reducible refine wpList_unguard ?_ ?_); (focus rfl))
                              go_loopw [24] (fun mv wr => ∃ m : Nat, m ≤ pl.length + 1 ∧ mv = .int .i64 m ∧ MatW wr w2.heap.size G P (pl.length + 1) B1 C1 (elTo M2 q i m) ∧ Below w2.heap.size w2 wr) (fun mv _ => pl.length + 1 - (intOf mv).toNat)
                              case atStart => exact ⟨0, Nat.zero_le _, rfl, HMW.out, HB7.out⟩
                              case round =>
                                clear HMW HB7 g7 r7
                                obtain ⟨m, hm, rfl, hMW, hb⟩ := hrel
                                have HMW := hid hMW
                                have HB8 := hid hb
                                clear hMW hb
                                rename World => w8
                                by_cases hlm : m < pl.length + 1
                                · have hlm' : (m : Int) ≤ (pl.length : Int) := by omega
                                  have hlm2 : (m : Int) < (pl.length : Int) + 1 := by omega
                                  have gi := HMW.out.g.cell hli
                                  have gq := HMW.out.g.cell hqP
                                  have ri := (HMW.out.row i hli).cell hlm
                                  have rq := (HMW.out.row q hqP).cell hlm
                                  have fi := (HMW.out.row i hli).frozen m
                                  rw [elTo_at] at ri
                                  rw [elTo_row] at rq
                                  have hSu := elTo_succ M2 (m := m) hiq
                                  rw [HF.out] at hSu
                                  have hxl := HM2b.out i m
                                  have hyl := HM2b.out q m
                                  have hzl := gmul_lt f (M2 q m)
                                  have HMS := hid (HMW.out.set hli m (M2 i m ^^^ gmul f (M2 q m)))
                                  rw [hSu] at HMS
                                  have HBS := hid (HB8.out.setCell (p := ⟨B1 i, m, none⟩) (HMW.out.bb i hli) (.int .i64 (M2 i m ^^^ gmul f (M2 q m) : Nat)))
                                  have hMu := fun u => hid (ref_Mul f (M2 q m) hfl hyl u)
                                  clear hSu
                                  generalize M2 i m = x at *
                                  generalize M2 q m = y at *
                                  have hxr := i64_xor_nat x (gmul f y) (by omega) (by omega)
                                  generalize gmul f y = z at *
                                  go_upto_region 40 with fail
                                  (refine wp_region_stg 0 [([0, 1, 2, 3, 4, 5, 6, 7, 8, 9, 10, 11, 12, 13, 14, 15, 16, 17, 18, 19], 20), ([], 21)] [22, 23] (fun u => u = w8.drew) (by kernel_rfl) (by kernel_rfl) (by intro t v c a w h; cases t <;> exact h) (rfl) ?_; (simp only [List.take_succ_cons, List.take_zero, List.map_cons, List.map_nil, stOf, opAt, List.getD_cons_zero, List.getD_cons_succ]); (repeat (first | go_big_quiet_skip | (go_big_quiet_want; first | (go_big_quiet_op; go_big_quiet_on) | (apply Exists.intro; refine And.intro (fun wq hq => ?_) ?_; (focus ((subst hq; have gid : w8.drew.cell? ⟨G, i, none⟩ = some (.slice (some ⟨B1 i, 0, none⟩) (pl.length + 1) (C1 i)) := gi; have gqd : w8.drew.cell? ⟨G, q, none⟩ = some (.slice (some ⟨B1 q, 0, none⟩) (pl.length + 1) (C1 q)) := gq; have rid : w8.drew.cell? ⟨B1 i, m, none⟩ = some (.int .i64 (x : Nat)) := ri; have rqd : w8.drew.cell? ⟨B1 q, m, none⟩ = some (.int .i64 (y : Nat)) := rq); (try go_simp); first | done | rfl | (fail))); go_simp; go_big_quiet_on)))); refine quietC_nil _ rfl ?_; intro wE hE; unfold wpSt)
                                  have HE := hid hE
                                  clear hE
                                  ((repeat (first | go_big_quiet_skip | (go_big_quiet_want; first | (go_big_quiet_op; go_big_quiet_on) | (apply Exists.intro; refine And.intro (fun wq hq => ?_) ?_; (focus ((subst hq; have gid : w8.drew.cell? ⟨G, i, none⟩ = some (.slice (some ⟨B1 i, 0, none⟩) (pl.length + 1) (C1 i)) := gi; have gqd : w8.drew.cell? ⟨G, q, none⟩ = some (.slice (some ⟨B1 q, 0, none⟩) (pl.length + 1) (C1 q)) := gq; have rid : w8.drew.cell? ⟨B1 i, m, none⟩ = some (.int .i64 (x : Nat)) := ri; have rqd : w8.drew.cell? ⟨B1 q, m, none⟩ = some (.int .i64 (y : Nat)) := rq); (try go_simp); first | done | rfl)); go_simp; go_big_quiet_on)))); refine quietC_nil _ rfl ?_)
                                  obtain rfl : wE = w8.drew := HE.out
                                  go_wp2_with ((with_reducible refine wpList_unguard ?_ ?_); (focus rfl))
                                  refine Calls.mono (hMu _).out ?_; rintro e w9 ⟨rfl, rfl⟩
                                  go_wp2_with ((with_reducible refine wpList_unguard ?_ ?_); (focus rfl))
                                  refine ⟨fun u => u = w8.drew, fun _ h => h, rfl, ?_⟩
                                  unfold wpSt
                                  refine quietC_nil _ rfl ?_
                                  go_wp2_with ((with_reducible refine wpList_unguard ?_ ?_); (focus rfl))
                                  refine ⟨fun u => u = w8.drew, fun _ h => h, rfl, ?_⟩
                                  unfold wpSt
                                  have rid : w8.drew.cell? ⟨B1 i, m, none⟩ = some (.int .i64 (x : Nat)) := ri
                                  have fid : w8.drew.frozen? ⟨B1 i, m, none⟩ = false := fi
                                  have HMD := hid HMS.out.drew
                                  have HBD := hid HBS.out.drew
                                  clear HMS HBS hMu gi gq ri rq fi
                                  go_wp2_with ((with_reducible refine wpList_unguard ?_ ?_); (focus rfl))
                                  go_roundw
                                  case rel => exact ⟨m + 1, by omega, by go_num, HMD.out, HBD.out⟩
                                  case measure => simp [intOf]; omega
                                · obtain rfl : m = pl.length + 1 := by omega
                                  have HNx := hid (HMW.out.congr (M' := elTo M2 q (i + 1) 0) (fun a _ c hc => elTo_next M2 q i (pl.length + 1) a c hc))
                                  go_wp2_with ((with_reducible refine wpList_unguard ?_ ?_); (focus rfl))
                                  go_roundw
                                  case rel => exact ⟨i + 1, by omega, by go_num, HNx.out, HB8.out⟩
                                  case measure => simp [intOf]; omega
                          · obtain rfl : i = P := by omega
                            go_wp2_with ((with_reducible refine wpList_unguard ?_ ?_); (focus rfl))
                            go_roundw
                            case rel => exact ⟨q + 1, B1, C1, _, by omega, by go_num, by go_num, HMW.out, HSt.out, HB7.out⟩
                            case measure => simp [intOf]; omega
                · obtain rfl : a = P := by omega
                  exact absurd (fun b h1 h2 => HZ.out b h1 h2) (HKer.out q M HEl.out hlq)
            · obtain rfl : q = pl.length := by omega
              have hobw : ob < w2.heap.size := block_lt_of_cell (HBF2.out.at 0 (by rw [restL_len, HL.out]; omega))
              have HW4 := hid (HB2.out.trans (HB4.out.mono HB2.out.size))
              have HBF4 := hid (HBF2.out.below HB4.out)
              clear HB4 HBF2 HKer HVC HWNE
              go_wp2_with ((with_reducible refine wpList_unguard ?_ ?_); (focus rfl))
              go_loopw [25] (fun iv wr => ∃ i : Nat, pl.length ≤ i ∧ i ≤ P ∧ iv = .int .i64 i ∧ wr = w4 ∧ ∀ b, pl.length ≤ b → b < i → M b pl.length = 0) (fun iv _ => P - (intOf iv).toNat)
              case atStart => exact ⟨pl.length, Nat.le_refl _, htP, rfl, rfl, fun b h1 h2 => by omega⟩
              case round =>
                obtain ⟨i, hi1, hi2, rfl, rfl, hz⟩ := hrel
                have HZ := hid hz
                clear hz
                by_cases hli : i < P
                · have g4 := HMW.out.g.cell hli
                  have r4 := (HMW.out.row i hli).cell (show pl.length < pl.length + 1 by omega)
                  by_cases h0 : M i pl.length = 0
                  · rw [h0] at r4
                    have HZ2 : Hid (∀ b, pl.length ≤ b → b < i + 1 → M b pl.length = 0) := fun b h1 h2 => by
                      by_cases e : b = i
                      · rw [e]; exact h0
                      · exact HZ.out b h1 (by omega)
                    clear h0
                    go_wp2_with ((with_reducible refine wpList_unguard ?_ ?_); (focus rfl))
                    go_roundw
                    case rel => exact ⟨i + 1, by omega, by omega, by go_num, trivial, HZ2.out⟩
                    case measure => simp [intOf]; omega
                  · have h0b : ((M i pl.length : Int) != 0) = true := by rw [bne_iff_ne]; omega
                    have HNo : Hid (¬ ∃ o, bytesL o ∧ o.length = n ∧ rightB o P = true ∧ ∀ i, i < n → i ∉ pl → o.getD i 0 = word.getD i 0) := by
                      rintro ⟨o, o1, o2, o3, o4⟩
                      obtain ⟨x, x1, x2, x3⟩ := must_find (p := P) HBW.out HL.out HPL.out HM.out o1 o2 o3 o4
                      rw [HSS.out] at x3
                      exact h0 (HEl.out.must x1 x2 x3 i hi1 hli)
                    clear h0
                    go_wp2_with ((with_reducible refine wpList_unguard ?_ ?_); (focus rfl))
                    go_ret2
                    rw [HPJ.out]
                    exact ⟨HW4.out, .inr ⟨rfl, HNo.out⟩⟩
                · obtain rfl : i = P := by omega
                  obtain ⟨x, hx⟩ : ∃ x : Nat → Nat, (fun c => if c < pl.length then M c pl.length else 1) = x := ⟨_, rfl⟩
                  have HXb : Hid (bytesX x) := by
                    rw [← hx]
                    intro c
                    show (if c < pl.length then M c pl.length else 1) < 256
                    split
                    · exact HEl.out.b _ _
                    · decide
                  have HX1 : Hid (x pl.length = 1) := by show _ = _; rw [← hx]; exact if_neg (by omega)
                  have HXS : Hid (Sol i pl.length (M0F n pl (synd (restL pl word) i)) x) := by
                    rw [← hx, HSS.out]
                    exact HEl.out.found fun b h1 h2 => HZ.out b h1 h2
                  have HXM : Hid (∀ c, c < pl.length → M c pl.length = x c) := fun c hc => by rw [← hx]; exact (if_pos hc).symm
                  clear hx HZ HEl hi1 hi2 hli
                  go_wp2_with ((with_reducible refine wpList_unguard ?_ ?_); (focus rfl))
                  go_loopw [26] (fun jv wr => ∃ j : Nat, j ≤ pl.length ∧ jv = .int .i64 j ∧ bufB wr ob (filTo pl word x j) ∧ MatW wr w2.heap.size G i (pl.length + 1) B C M ∧ Below w.heap.size w wr) (fun jv _ => pl.length - (intOf jv).toNat)
                  case atStart => exact ⟨0, Nat.zero_le _, rfl, by rw [filTo_zero]; exact HBF4.out, HMW.out, HW4.out⟩
                  case round =>
                    clear HBF4 HMW HW4
                    obtain ⟨j, hj, rfl, hbuf, hMW, hb⟩ := hrel
                    have HBF := hid hbuf
                    have HMW := hid hMW
                    have HBw := hid hb
                    clear hbuf hMW hb
                    rename World => w5
                    by_cases hlj : j < pl.length
                    · obtain ⟨bb, oo, rfl, hcl⟩ := (HP.out.below HBw.out) j hlj
                      have hin : pl.getD j 0 < word.length := by rw [HL.out, getD_of _ _ hlj]; exact HM.out _ (List.getElem_mem hlj)
                      have hji : j < i := by omega
                      have g5 := HMW.out.g.cell hji
                      have r5 := (HMW.out.row j hji).cell (show pl.length < pl.length + 1 by omega)
                      rw [HXM.out j hlj] at r5
                      have HSu := filTo_succ HPL.out x hlj hin (word := word)
                      have hfl := filTo_len pl word x j
                      have hxj := HXb.out j
                      generalize pl.getD j 0 = y at *
                      generalize x j = z at *
                      have hyl : y < (filTo pl word x j).length := by omega
                      have c5 := HBF.out.at y hyl
                      have f5 := HBF.out.2 y hyl
                      have HST := HBF.out.set y z hyl
                      rw [HSu] at HST
                      have HSTd := hid HST.drew
                      have HMd := hid ((HMW.out.other hobw y (.int .u8 (z : Nat))).drew)
                      have HBd := hid ((HBw.out.setCell (p := ⟨ob, y, none⟩) HOB.out (.int .u8 (z : Nat))).drew)
                      have hw8 : IntKind.u8.wrap (z : Int) = (z : Int) := by rw [IntKind.wrap_u8]; omega
                      have pcd : w5.drew.cell? ⟨bb, oo + j, none⟩ = some (.int .i64 (y : Nat)) := hcl
                      have g5d : w5.drew.cell? ⟨G, j, none⟩ = some (.slice (some ⟨B j, 0, none⟩) (pl.length + 1) (C j)) := g5
                      have r5d : w5.drew.cell? ⟨B j, pl.length, none⟩ = some (.int .i64 (z : Nat)) := r5
                      obtain ⟨u5, c5d⟩ : ∃ u, w5.drew.cell? ⟨ob, y, none⟩ = some u := ⟨_, c5⟩
                      have f5d : w5.drew.frozen? ⟨ob, y, none⟩ = false := f5
                      have hyz : (y : Int) < (word.length : Int) := by omega
                      have hjz : (j : Int) < (i : Int) := by omega
                      clear HSu hfl hyl HST HBF HMW hcl c5 f5
                      go_upto_region 50 with fail
                      clear g5 r5
                      go_region
                      go_wp2_with ((with_reducible refine wpList_unguard ?_ ?_); (focus rfl))
                      go_roundw
                      case rel => exact ⟨j + 1, by omega, by go_num, HSTd.out, HMd.out, HBd.out⟩
                      case measure => simp [intOf]; omega
                    · obtain rfl : j = pl.length := by omega
                      rw [filTo_all] at HBF
                      have HRt : Hid (rightB (fillP pl word x) i = true) := found_right HBW.out HL.out HPL.out HM.out HXb.out HX1.out HXS.out
                      have HFb := hid (fillP_bytes (pl := pl) HBW.out HXb.out)
                      have HFl := hid (fillP_len pl word x)
                      have HFo : Hid (∀ k, k < n → k ∉ pl → (fillP pl word x).getD k 0 = word.getD k 0) := fun k hk hn => by
                        unfold fillP
                        rw [map_getD _ _ _ (by rw [HL.out]; exact hk), if_neg hn]
                      go_wp2_with ((with_reducible refine wpList_unguard ?_ ?_); (focus rfl))
                      go_ret2
                      rw [HPJ.out]
                      exact ⟨HBw.out, .inl ⟨some ⟨ob, 0, none⟩, cap, fillP pl word x, by rw [HFl.out]; rfl, by rw [HFl.out]; exact hcap, HBF.out.1, HFb.out, by rw [HFl.out, HL.out], HRt.out, HFo.out⟩⟩
end Go.Proofs.Ytgckhekikcdaiaa
