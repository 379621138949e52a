/-
  No cell of these rows narrows 'for every input' (looked for: loops, veiled, ifaces, maps, wideKeys, modest, calm, conditions, laid).
  DERIVED. THE GIVEN ROWS OF THIS SEAT. 9 by the template 'for every input the law returns true; each argument reads behind the call as it read before'; 0 by the template 'total and deterministic' (their statements: YtbghfhkhnmmcdaaTotals.lean).
  GIVEN WITH THE SEED: the statements are not yours to turn. If you find one false, say at which input.
  Laid BY PROGRAM, IN A SANDBOX (cutbox-rows.mjs): the forced cells as the released guide's own fill.sh prints them over the translation 25140d00c64ea6e7… (all of the seat's roots in one cut). By AI agents, Wed Nov 11 2026. No macro, syntax, notation, axiom, sorry.
-/
import Derived.Test.YtbghfhkhnmmcdaaChecked
import GoSem.Claim
import GoSem.ClaimJoined
import GoSem.ClaimMapViews
import Derived.JoinedTies
import Derived.KernelRfl
namespace Go.Proofs.Ytbghfhkhnmmcdaa
/- THE CELL 'sum', in the pinned program and in every row, IS THE sha256 OF THE DUMP (.gsa) THAT YtbghfhkhnmmcdaaProg.lean LOADS. Nothing in Lean hashes anything: it is a label: what it is worth is what the hold of that sum in a sandbox is worth. -/
noncomputable def Try.pinned : Pinned := { name := "ytbghfhkhnmmcdaa", sum := "25140d00c64ea6e7cf3f2d92417dd88b6ccaf739494d5e3fdcb067bcd293ee16", checked := Try.checked }
namespace Rows
def none {H : Type} : Left H := { results := [], args := [] }

/-- 'triptychlaw02.CrcTurns': WHATEVER THE INPUT: true; the input reads as it did. -/
def crcTurnsSpec : ChangeSpec := { name := "crcTurns", fn := fun _ => fun
  | [d1, d2, d3] => { results := [.lit (.bool true)], args := [d1, d2, d3] }
  | _ => none }
def crcTurnsRow : OpenClaim := { program := "ytbghfhkhnmmcdaa", sum := "25140d00c64ea6e7cf3f2d92417dd88b6ccaf739494d5e3fdcb067bcd293ee16", func := "triptych/triptychlaw02.CrcTurns", spec := "crcTurns", apart := false }
def CrcTurnsSaid : Prop := crcTurnsRow.holds Try.pinned (OpenSpec.ofChange crcTurnsSpec)

/-- ITS FALSE NEIGHBOUR: 'it returns false'. Refute it at one input. -/
def crcTurnsWrong : ChangeSpec := { name := "crcTurns", fn := fun _ => fun
  | [d1, d2, d3] => { results := [.lit (.bool false)], args := [d1, d2, d3] }
  | _ => none }
def CrcTurnsWrongFalsely : Prop := crcTurnsRow.holds Try.pinned (OpenSpec.ofChange crcTurnsWrong)

/-- 'triptychlaw04.GfIs': WHATEVER THE INPUT: true; the input reads as it did. -/
def gfIsSpec : ChangeSpec := { name := "gfIs", fn := fun _ => fun
  | [d1, d2, d3] => { results := [.lit (.bool true)], args := [d1, d2, d3] }
  | _ => none }
def gfIsRow : OpenClaim := { program := "ytbghfhkhnmmcdaa", sum := "25140d00c64ea6e7cf3f2d92417dd88b6ccaf739494d5e3fdcb067bcd293ee16", func := "triptych/triptychlaw04.GfIs", spec := "gfIs", apart := false }
def GfIsSaid : Prop := gfIsRow.holds Try.pinned (OpenSpec.ofChange gfIsSpec)

/-- ITS FALSE NEIGHBOUR: 'it returns false'. Refute it at one input. -/
def gfIsWrong : ChangeSpec := { name := "gfIs", fn := fun _ => fun
  | [d1, d2, d3] => { results := [.lit (.bool false)], args := [d1, d2, d3] }
  | _ => none }
def GfIsWrongFalsely : Prop := gfIsRow.holds Try.pinned (OpenSpec.ofChange gfIsWrong)

/-- 'triptychlaw04.GfPowers': WHATEVER THE INPUT: true; the input reads as it did. -/
def gfPowersSpec : ChangeSpec := { name := "gfPowers", fn := fun _ => fun
  | [d1, d2, d3] => { results := [.lit (.bool true)], args := [d1, d2, d3] }
  | _ => none }
def gfPowersRow : OpenClaim := { program := "ytbghfhkhnmmcdaa", sum := "25140d00c64ea6e7cf3f2d92417dd88b6ccaf739494d5e3fdcb067bcd293ee16", func := "triptych/triptychlaw04.GfPowers", spec := "gfPowers", apart := false }
def GfPowersSaid : Prop := gfPowersRow.holds Try.pinned (OpenSpec.ofChange gfPowersSpec)

/-- ITS FALSE NEIGHBOUR: 'it returns false'. Refute it at one input. -/
def gfPowersWrong : ChangeSpec := { name := "gfPowers", fn := fun _ => fun
  | [d1, d2, d3] => { results := [.lit (.bool false)], args := [d1, d2, d3] }
  | _ => none }
def GfPowersWrongFalsely : Prop := gfPowersRow.holds Try.pinned (OpenSpec.ofChange gfPowersWrong)

/-- 'triptychlaw04.GfMuls': WHATEVER THE INPUT: true; the input reads as it did. -/
def gfMulsSpec : ChangeSpec := { name := "gfMuls", fn := fun _ => fun
  | [d1, d2, d3] => { results := [.lit (.bool true)], args := [d1, d2, d3] }
  | _ => none }
def gfMulsRow : OpenClaim := { program := "ytbghfhkhnmmcdaa", sum := "25140d00c64ea6e7cf3f2d92417dd88b6ccaf739494d5e3fdcb067bcd293ee16", func := "triptych/triptychlaw04.GfMuls", spec := "gfMuls", apart := false }
def GfMulsSaid : Prop := gfMulsRow.holds Try.pinned (OpenSpec.ofChange gfMulsSpec)

/-- ITS FALSE NEIGHBOUR: 'it returns false'. Refute it at one input. -/
def gfMulsWrong : ChangeSpec := { name := "gfMuls", fn := fun _ => fun
  | [d1, d2, d3] => { results := [.lit (.bool false)], args := [d1, d2, d3] }
  | _ => none }
def GfMulsWrongFalsely : Prop := gfMulsRow.holds Try.pinned (OpenSpec.ofChange gfMulsWrong)

/-- 'triptychlaw04.GfDivides': WHATEVER THE INPUT: true; the input reads as it did. -/
def gfDividesSpec : ChangeSpec := { name := "gfDivides", fn := fun _ => fun
  | [d1, d2] => { results := [.lit (.bool true)], args := [d1, d2] }
  | _ => none }
def gfDividesRow : OpenClaim := { program := "ytbghfhkhnmmcdaa", sum := "25140d00c64ea6e7cf3f2d92417dd88b6ccaf739494d5e3fdcb067bcd293ee16", func := "triptych/triptychlaw04.GfDivides", spec := "gfDivides", apart := false }
def GfDividesSaid : Prop := gfDividesRow.holds Try.pinned (OpenSpec.ofChange gfDividesSpec)

/-- ITS FALSE NEIGHBOUR: 'it returns false'. Refute it at one input. -/
def gfDividesWrong : ChangeSpec := { name := "gfDivides", fn := fun _ => fun
  | [d1, d2] => { results := [.lit (.bool false)], args := [d1, d2] }
  | _ => none }
def GfDividesWrongFalsely : Prop := gfDividesRow.holds Try.pinned (OpenSpec.ofChange gfDividesWrong)

/-- 'triptychlaw04.GfNone': WHATEVER THE INPUT: true; the input reads as it did. -/
def gfNoneSpec : ChangeSpec := { name := "gfNone", fn := fun _ => fun
  | [d1, d2, d3] => { results := [.lit (.bool true)], args := [d1, d2, d3] }
  | _ => none }
def gfNoneRow : OpenClaim := { program := "ytbghfhkhnmmcdaa", sum := "25140d00c64ea6e7cf3f2d92417dd88b6ccaf739494d5e3fdcb067bcd293ee16", func := "triptych/triptychlaw04.GfNone", spec := "gfNone", apart := false }
def GfNoneSaid : Prop := gfNoneRow.holds Try.pinned (OpenSpec.ofChange gfNoneSpec)

/-- ITS FALSE NEIGHBOUR: 'it returns false'. Refute it at one input. -/
def gfNoneWrong : ChangeSpec := { name := "gfNone", fn := fun _ => fun
  | [d1, d2, d3] => { results := [.lit (.bool false)], args := [d1, d2, d3] }
  | _ => none }
def GfNoneWrongFalsely : Prop := gfNoneRow.holds Try.pinned (OpenSpec.ofChange gfNoneWrong)

/-- 'triptychlaw02.CrcSums': WHATEVER THE INPUT: true; the input reads as it did. -/
def crcSumsSpec : ChangeSpec := { name := "crcSums", fn := fun _ => fun
  | [d] => { results := [.lit (.bool true)], args := [d] }
  | _ => none }
def crcSumsRow : OpenClaim := { program := "ytbghfhkhnmmcdaa", sum := "25140d00c64ea6e7cf3f2d92417dd88b6ccaf739494d5e3fdcb067bcd293ee16", func := "triptych/triptychlaw02.CrcSums", spec := "crcSums", inPlace := ["internal/abi.NoEscape", "internal/bytealg.MakeNoZero"], apart := false }
def CrcSumsSaid : Prop := crcSumsRow.holds Try.pinned (OpenSpec.ofChange crcSumsSpec)

/-- ITS FALSE NEIGHBOUR: 'it returns false'. Refute it at one input. -/
def crcSumsWrong : ChangeSpec := { name := "crcSums", fn := fun _ => fun
  | [d] => { results := [.lit (.bool false)], args := [d] }
  | _ => none }
def CrcSumsWrongFalsely : Prop := crcSumsRow.holds Try.pinned (OpenSpec.ofChange crcSumsWrong)

/-- 'triptychlaw02.CrcOpens': WHATEVER THE INPUT: true; the input reads as it did. -/
def crcOpensSpec : ChangeSpec := { name := "crcOpens", fn := fun _ => fun
  | [d] => { results := [.lit (.bool true)], args := [d] }
  | _ => none }
def crcOpensRow : OpenClaim := { program := "ytbghfhkhnmmcdaa", sum := "25140d00c64ea6e7cf3f2d92417dd88b6ccaf739494d5e3fdcb067bcd293ee16", func := "triptych/triptychlaw02.CrcOpens", spec := "crcOpens", inPlace := ["internal/abi.NoEscape", "internal/bytealg.MakeNoZero"], apart := false }
def CrcOpensSaid : Prop := crcOpensRow.holds Try.pinned (OpenSpec.ofChange crcOpensSpec)

/-- ITS FALSE NEIGHBOUR: 'it returns false'. Refute it at one input. -/
def crcOpensWrong : ChangeSpec := { name := "crcOpens", fn := fun _ => fun
  | [d] => { results := [.lit (.bool false)], args := [d] }
  | _ => none }
def CrcOpensWrongFalsely : Prop := crcOpensRow.holds Try.pinned (OpenSpec.ofChange crcOpensWrong)

/-- 'triptychlaw02.CrcTells': WHATEVER THE INPUT: true; the input reads as it did. -/
def crcTellsSpec : ChangeSpec := { name := "crcTells", fn := fun _ => fun
  | [d1, d2, d3] => { results := [.lit (.bool true)], args := [d1, d2, d3] }
  | _ => none }
def crcTellsRow : OpenClaim := { program := "ytbghfhkhnmmcdaa", sum := "25140d00c64ea6e7cf3f2d92417dd88b6ccaf739494d5e3fdcb067bcd293ee16", func := "triptych/triptychlaw02.CrcTells", spec := "crcTells", inPlace := ["internal/abi.NoEscape", "internal/bytealg.MakeNoZero"], apart := false }
def CrcTellsSaid : Prop := crcTellsRow.holds Try.pinned (OpenSpec.ofChange crcTellsSpec)

/-- ITS FALSE NEIGHBOUR: 'it returns false'. Refute it at one input. -/
def crcTellsWrong : ChangeSpec := { name := "crcTells", fn := fun _ => fun
  | [d1, d2, d3] => { results := [.lit (.bool false)], args := [d1, d2, d3] }
  | _ => none }
def CrcTellsWrongFalsely : Prop := crcTellsRow.holds Try.pinned (OpenSpec.ofChange crcTellsWrong)

/- THE SECOND FORM. 'bulk': how many values and letters a reading holds, each counted each time it is reached (what is shared counts as often as it is met; a slice's spare places count too). A statement '..UptoSaid' is the law's where the arguments, and the package variables that the reading takes, are together of bulk at most 1048576: NARROWER than '..Said'. Prove '..Said' where nothing that the law and all that it calls make is longer than what came in: it says more and counts as full. Else prove '..UptoSaid'. A law counts once. -/
mutual
def uptoBulk {H : Type} : DataW H → Nat
  | .lit (.string bytes) => bytes.length + 1
  | .lit _ => 1
  | .nil => 1
  | .ptr d => uptoBulk d + 1
  | .slice elems spare => uptoBulkAll elems + uptoBulkAll spare + 1
  | .agg parts => uptoBulkAll parts + 1
  | .iface _ d => uptoBulk d + 1
  | .map entries => uptoBulkEntries entries + 1
  | .held _ => 1
def uptoBulkAll {H : Type} : List (DataW H) → Nat
  | [] => 0
  | d :: r => uptoBulk d + uptoBulkAll r
def uptoBulkEntries {H : Type} : List (Lit × DataW H) → Nat
  | [] => 0
  | x :: r => uptoBulkEntry x + uptoBulkEntries r
def uptoBulkEntry {H : Type} : Lit × DataW H → Nat
  | (.string bytes, d) => bytes.length + uptoBulk d + 1
  | (_, d) => uptoBulk d + 1
 end
def uptoSmall : (H : Type) → List (DataW H) → Bool := fun _ ds => decide (uptoBulkAll ds ≤ 1048576)
def OpenSpec.upto (s : _root_.Go.ChangeSpec) : _root_.Go.OpenSpec := { _root_.Go.OpenSpec.ofChange s with cond := some uptoSmall }

/-- 'triptychlaw02.CrcTurns', WHERE WHAT IT READS IS OF BULK AT MOST 1048576: true; the input reads as it did. -/
def crcTurnsUptoRow : OpenClaim := { program := "ytbghfhkhnmmcdaa", sum := "25140d00c64ea6e7cf3f2d92417dd88b6ccaf739494d5e3fdcb067bcd293ee16", func := "triptych/triptychlaw02.CrcTurns", spec := "crcTurns", apart := false, narrowed := true }
def CrcTurnsUptoSaid : Prop := crcTurnsUptoRow.holds Try.pinned (OpenSpec.upto crcTurnsSpec)

/-- 'triptychlaw04.GfIs', WHERE WHAT IT READS IS OF BULK AT MOST 1048576: true; the input reads as it did. -/
def gfIsUptoRow : OpenClaim := { program := "ytbghfhkhnmmcdaa", sum := "25140d00c64ea6e7cf3f2d92417dd88b6ccaf739494d5e3fdcb067bcd293ee16", func := "triptych/triptychlaw04.GfIs", spec := "gfIs", apart := false, narrowed := true }
def GfIsUptoSaid : Prop := gfIsUptoRow.holds Try.pinned (OpenSpec.upto gfIsSpec)

/-- 'triptychlaw04.GfPowers', WHERE WHAT IT READS IS OF BULK AT MOST 1048576: true; the input reads as it did. -/
def gfPowersUptoRow : OpenClaim := { program := "ytbghfhkhnmmcdaa", sum := "25140d00c64ea6e7cf3f2d92417dd88b6ccaf739494d5e3fdcb067bcd293ee16", func := "triptych/triptychlaw04.GfPowers", spec := "gfPowers", apart := false, narrowed := true }
def GfPowersUptoSaid : Prop := gfPowersUptoRow.holds Try.pinned (OpenSpec.upto gfPowersSpec)

/-- 'triptychlaw04.GfMuls', WHERE WHAT IT READS IS OF BULK AT MOST 1048576: true; the input reads as it did. -/
def gfMulsUptoRow : OpenClaim := { program := "ytbghfhkhnmmcdaa", sum := "25140d00c64ea6e7cf3f2d92417dd88b6ccaf739494d5e3fdcb067bcd293ee16", func := "triptych/triptychlaw04.GfMuls", spec := "gfMuls", apart := false, narrowed := true }
def GfMulsUptoSaid : Prop := gfMulsUptoRow.holds Try.pinned (OpenSpec.upto gfMulsSpec)

/-- 'triptychlaw04.GfDivides', WHERE WHAT IT READS IS OF BULK AT MOST 1048576: true; the input reads as it did. -/
def gfDividesUptoRow : OpenClaim := { program := "ytbghfhkhnmmcdaa", sum := "25140d00c64ea6e7cf3f2d92417dd88b6ccaf739494d5e3fdcb067bcd293ee16", func := "triptych/triptychlaw04.GfDivides", spec := "gfDivides", apart := false, narrowed := true }
def GfDividesUptoSaid : Prop := gfDividesUptoRow.holds Try.pinned (OpenSpec.upto gfDividesSpec)

/-- 'triptychlaw04.GfNone', WHERE WHAT IT READS IS OF BULK AT MOST 1048576: true; the input reads as it did. -/
def gfNoneUptoRow : OpenClaim := { program := "ytbghfhkhnmmcdaa", sum := "25140d00c64ea6e7cf3f2d92417dd88b6ccaf739494d5e3fdcb067bcd293ee16", func := "triptych/triptychlaw04.GfNone", spec := "gfNone", apart := false, narrowed := true }
def GfNoneUptoSaid : Prop := gfNoneUptoRow.holds Try.pinned (OpenSpec.upto gfNoneSpec)

/-- 'triptychlaw02.CrcSums', WHERE WHAT IT READS IS OF BULK AT MOST 1048576: true; the input reads as it did. -/
def crcSumsUptoRow : OpenClaim := { program := "ytbghfhkhnmmcdaa", sum := "25140d00c64ea6e7cf3f2d92417dd88b6ccaf739494d5e3fdcb067bcd293ee16", func := "triptych/triptychlaw02.CrcSums", spec := "crcSums", inPlace := ["internal/abi.NoEscape", "internal/bytealg.MakeNoZero"], apart := false, narrowed := true }
def CrcSumsUptoSaid : Prop := crcSumsUptoRow.holds Try.pinned (OpenSpec.upto crcSumsSpec)

/-- 'triptychlaw02.CrcOpens', WHERE WHAT IT READS IS OF BULK AT MOST 1048576: true; the input reads as it did. -/
def crcOpensUptoRow : OpenClaim := { program := "ytbghfhkhnmmcdaa", sum := "25140d00c64ea6e7cf3f2d92417dd88b6ccaf739494d5e3fdcb067bcd293ee16", func := "triptych/triptychlaw02.CrcOpens", spec := "crcOpens", inPlace := ["internal/abi.NoEscape", "internal/bytealg.MakeNoZero"], apart := false, narrowed := true }
def CrcOpensUptoSaid : Prop := crcOpensUptoRow.holds Try.pinned (OpenSpec.upto crcOpensSpec)

/-- 'triptychlaw02.CrcTells', WHERE WHAT IT READS IS OF BULK AT MOST 1048576: true; the input reads as it did. -/
def crcTellsUptoRow : OpenClaim := { program := "ytbghfhkhnmmcdaa", sum := "25140d00c64ea6e7cf3f2d92417dd88b6ccaf739494d5e3fdcb067bcd293ee16", func := "triptych/triptychlaw02.CrcTells", spec := "crcTells", inPlace := ["internal/abi.NoEscape", "internal/bytealg.MakeNoZero"], apart := false, narrowed := true }
def CrcTellsUptoSaid : Prop := crcTellsUptoRow.holds Try.pinned (OpenSpec.upto crcTellsSpec)

end Rows
end Go.Proofs.Ytbghfhkhnmmcdaa
