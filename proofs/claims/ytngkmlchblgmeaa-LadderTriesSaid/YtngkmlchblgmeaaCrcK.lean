/-
  Sums of texts in the program, with what was there kept.
-/
import Derived.Test.YtngkmlchblgmeaaCrc2
import Derived.Test.YtngkmlchblgmeaaReg
import Derived.ProofKit
import Derived.OpenShut
namespace Go.Proofs.Ytngkmlchblgmeaa
open Go.RowKit Tri

/-- What was there is as it was, and a Crc lies in block b. -/
def KeepsC (w0 : World) (b : Nat) (w : World) : Prop := Below w0.heap.size w0 w ∧ isC w b
theorem KeepsC.below {w0 w w' : World} {b : Nat} (h : KeepsC w0 b w) (hb : Below w.heap.size w w') : KeepsC w0 b w' :=
  ⟨h.1.trans (hb.mono h.1.size), h.2.below hb h.2.lt⟩
theorem KeepsC.alloc {w0 w : World} {b : Nat} (h : KeepsC w0 b w) (o : Obj) : KeepsC w0 b (w.alloc o) := ⟨h.1.alloc h.1.size o, h.2.alloc o⟩
theorem crc_NewK (w0 w : World) (h : Below w0.heap.size w0 w) : Calls Try.prog 72 #[] w fun e w' => ∃ b, e = .returned (.pointer (some ⟨b, 0, none⟩)) ∧ KeepsC w0 b w' :=
  (crc_New w).mono fun _ _ ⟨he, hw⟩ => ⟨w.heap.size, he, hw ▸ h.alloc h.size _, hw ▸ isC.new w⟩
/-- Of texts that lie in a new array. -/
theorem crc_SumK (w0 : World) (b s n c : Nat) (l : List ByteArray) (vs : Array Value) (w : World) (t : TypeId) (K : KeepsC w0 b w) (hs : s = w.heap.size) (hn : n = l.length) (hv : vs.toList = l.map Value.string)
    (hl : l.length ≤ 140737488351232) (hz : ∀ s ∈ l, s.size ≤ 140737488351232) :
    Calls Try.prog 112 #[.pointer (some ⟨b, 0, none⟩), .slice (some ⟨s, 0, none⟩) n c] (w.alloc (.cells vs t)) fun e w' => e = .returned (.int .i64 (csum (lb l))) ∧ KeepsC w0 b w' := by
  subst hs
  exact (crc_Sum b _ c n l _ (K.2.alloc _) hn (cellsS.new w l vs t hv) hl hz).mono fun _ _ ⟨he, hb⟩ => ⟨he, (K.alloc _).below hb⟩
theorem crc_Sum_nil (p : Option Addr) (n c : Nat) (w : World) : Calls Try.prog 112 #[.pointer none, .slice p n c] w fun e w' => e = .returned (.int .i64 0) ∧ w = w' := by
  go_enter Try.func112, Try.ntmps112
  go_wp2
  go_ret
  exact ⟨rfl, rfl⟩
end Go.Proofs.Ytngkmlchblgmeaa
