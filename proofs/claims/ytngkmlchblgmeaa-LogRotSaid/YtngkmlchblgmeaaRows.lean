/-
  No cell of these rows narrows 'for every input' (looked for: loops, veiled, ifaces, maps, wideKeys, modest, calm, conditions, laid).
  DERIVED. THE GIVEN ROWS OF THIS SEAT. 5 by the template 'for every input the law returns true; each argument reads behind the call as it read before'; 0 by the template 'total and deterministic' (their statements: YtngkmlchblgmeaaTotals.lean).
  GIVEN WITH THE SEED: the statements are not yours to turn. If you find one false, say at which input.
  Laid BY PROGRAM, IN A SANDBOX (cutbox-rows.mjs): the forced cells as the released guide's own fill.sh prints them over the translation 137efa6b4d5920f5… (all of the seat's roots in one cut). By AI agents, Wed Nov 11 2026. No macro, syntax, notation, axiom, sorry.
-/
import Derived.Test.YtngkmlchblgmeaaChecked
import GoSem.Claim
import GoSem.ClaimJoined
import GoSem.ClaimMapViews
import Derived.JoinedTies
import Derived.KernelRfl
namespace Go.Proofs.Ytngkmlchblgmeaa
/- THE CELL 'sum', in the pinned program and in every row, IS THE sha256 OF THE DUMP (.gsa) THAT YtngkmlchblgmeaaProg.lean LOADS. Nothing in Lean hashes anything: it is a label: what it is worth is what the hold of that sum in a sandbox is worth. -/
noncomputable def Try.pinned : Pinned := { name := "ytngkmlchblgmeaa", sum := "137efa6b4d5920f5cab2b7746e76276af859e98b11e3c148375c1da0926bfb68", checked := Try.checked }
namespace Rows
def none {H : Type} : Left H := { results := [], args := [] }

/-- 'triptychlaw23.LadderTries': WHATEVER THE INPUT: true; the input reads as it did. -/
def ladderTriesSpec : ChangeSpec := { name := "ladderTries", fn := fun _ => fun
  | [d1, d2, d3] => { results := [.lit (.bool true)], args := [d1, d2, d3] }
  | _ => none }
def ladderTriesRow : OpenClaim := { program := "ytngkmlchblgmeaa", sum := "137efa6b4d5920f5cab2b7746e76276af859e98b11e3c148375c1da0926bfb68", func := "triptych/triptychlaw23.LadderTries", spec := "ladderTries", unfollowed := true, recurses := true, apart := false }
def LadderTriesSaid : Prop := ladderTriesRow.holds Try.pinned (OpenSpec.ofChange ladderTriesSpec)

/-- ITS FALSE NEIGHBOUR: 'it returns false'. Refute it at one input. -/
def ladderTriesWrong : ChangeSpec := { name := "ladderTries", fn := fun _ => fun
  | [d1, d2, d3] => { results := [.lit (.bool false)], args := [d1, d2, d3] }
  | _ => none }
def LadderTriesWrongFalsely : Prop := ladderTriesRow.holds Try.pinned (OpenSpec.ofChange ladderTriesWrong)

/-- 'triptychlaw15.LogNone': WHATEVER THE INPUT: true; the input reads as it did. -/
def logNoneSpec : ChangeSpec := { name := "logNone", fn := fun _ => fun
  | [d1, d2] => { results := [.lit (.bool true)], args := [d1, d2] }
  | _ => none }
def logNoneRow : OpenClaim := { program := "ytngkmlchblgmeaa", sum := "137efa6b4d5920f5cab2b7746e76276af859e98b11e3c148375c1da0926bfb68", func := "triptych/triptychlaw15.LogNone", spec := "logNone", inPlace := ["internal/abi.NoEscape", "internal/bytealg.MakeNoZero"], unfollowed := true, recurses := true, apart := false }
def LogNoneSaid : Prop := logNoneRow.holds Try.pinned (OpenSpec.ofChange logNoneSpec)

/-- ITS FALSE NEIGHBOUR: 'it returns false'. Refute it at one input. -/
def logNoneWrong : ChangeSpec := { name := "logNone", fn := fun _ => fun
  | [d1, d2] => { results := [.lit (.bool false)], args := [d1, d2] }
  | _ => none }
def LogNoneWrongFalsely : Prop := logNoneRow.holds Try.pinned (OpenSpec.ofChange logNoneWrong)

/-- 'triptychlaw15.LogOrder': WHATEVER THE INPUT: true; the input reads as it did. -/
def logOrderSpec : ChangeSpec := { name := "logOrder", fn := fun _ => fun
  | [d1, d2] => { results := [.lit (.bool true)], args := [d1, d2] }
  | _ => none }
def logOrderRow : OpenClaim := { program := "ytngkmlchblgmeaa", sum := "137efa6b4d5920f5cab2b7746e76276af859e98b11e3c148375c1da0926bfb68", func := "triptych/triptychlaw15.LogOrder", spec := "logOrder", inPlace := ["internal/abi.NoEscape", "internal/bytealg.MakeNoZero"], unfollowed := true, recurses := true, apart := false }
def LogOrderSaid : Prop := logOrderRow.holds Try.pinned (OpenSpec.ofChange logOrderSpec)

/-- ITS FALSE NEIGHBOUR: 'it returns false'. Refute it at one input. -/
def logOrderWrong : ChangeSpec := { name := "logOrder", fn := fun _ => fun
  | [d1, d2] => { results := [.lit (.bool false)], args := [d1, d2] }
  | _ => none }
def LogOrderWrongFalsely : Prop := logOrderRow.holds Try.pinned (OpenSpec.ofChange logOrderWrong)

/-- 'triptychlaw15.LogRot': WHATEVER THE INPUT: true; the input reads as it did. -/
def logRotSpec : ChangeSpec := { name := "logRot", fn := fun _ => fun
  | [d1, d2, d3] => { results := [.lit (.bool true)], args := [d1, d2, d3] }
  | _ => none }
def logRotRow : OpenClaim := { program := "ytngkmlchblgmeaa", sum := "137efa6b4d5920f5cab2b7746e76276af859e98b11e3c148375c1da0926bfb68", func := "triptych/triptychlaw15.LogRot", spec := "logRot", inPlace := ["internal/abi.NoEscape", "internal/bytealg.MakeNoZero"], unfollowed := true, recurses := true, apart := false }
def LogRotSaid : Prop := logRotRow.holds Try.pinned (OpenSpec.ofChange logRotSpec)

/-- ITS FALSE NEIGHBOUR: 'it returns false'. Refute it at one input. -/
def logRotWrong : ChangeSpec := { name := "logRot", fn := fun _ => fun
  | [d1, d2, d3] => { results := [.lit (.bool false)], args := [d1, d2, d3] }
  | _ => none }
def LogRotWrongFalsely : Prop := logRotRow.holds Try.pinned (OpenSpec.ofChange logRotWrong)

/-- 'triptychlaw15.LogPlays': WHATEVER THE INPUT: true; the input reads as it did. -/
def logPlaysSpec : ChangeSpec := { name := "logPlays", fn := fun _ => fun
  | [d1, d2] => { results := [.lit (.bool true)], args := [d1, d2] }
  | _ => none }
def logPlaysRow : OpenClaim := { program := "ytngkmlchblgmeaa", sum := "137efa6b4d5920f5cab2b7746e76276af859e98b11e3c148375c1da0926bfb68", func := "triptych/triptychlaw15.LogPlays", spec := "logPlays", inPlace := ["internal/abi.NoEscape", "internal/bytealg.MakeNoZero"], unfollowed := true, recurses := true, apart := false }
def LogPlaysSaid : Prop := logPlaysRow.holds Try.pinned (OpenSpec.ofChange logPlaysSpec)

/-- ITS FALSE NEIGHBOUR: 'it returns false'. Refute it at one input. -/
def logPlaysWrong : ChangeSpec := { name := "logPlays", fn := fun _ => fun
  | [d1, d2] => { results := [.lit (.bool false)], args := [d1, d2] }
  | _ => none }
def LogPlaysWrongFalsely : Prop := logPlaysRow.holds Try.pinned (OpenSpec.ofChange logPlaysWrong)

/- THE SECOND FORM. 'bulk': how many values and letters a reading holds, each counted each time it is reached (what is shared counts as often as it is met; a slice's spare places count too). A statement '..UptoSaid' is the law's where the arguments, and the package variables that the reading takes, are together of bulk at most 1048576: NARROWER than '..Said'. Prove '..Said' where nothing that the law and all that it calls make is longer than what came in: it says more and counts as full. Else prove '..UptoSaid'. A law counts once. -/
mutual
def uptoBulk {H : Type} : DataW H → Nat
  | .lit (.string bytes) => bytes.length + 1
  | .lit _ => 1
  | .nil => 1
  | .ptr d => uptoBulk d + 1
  | .slice elems spare => uptoBulkAll elems + uptoBulkAll spare + 1
  | .agg parts => uptoBulkAll parts + 1
  | .iface _ d => uptoBulk d + 1
  | .map entries => uptoBulkEntries entries + 1
  | .held _ => 1
def uptoBulkAll {H : Type} : List (DataW H) → Nat
  | [] => 0
  | d :: r => uptoBulk d + uptoBulkAll r
def uptoBulkEntries {H : Type} : List (Lit × DataW H) → Nat
  | [] => 0
  | x :: r => uptoBulkEntry x + uptoBulkEntries r
def uptoBulkEntry {H : Type} : Lit × DataW H → Nat
  | (.string bytes, d) => bytes.length + uptoBulk d + 1
  | (_, d) => uptoBulk d + 1
 end
def uptoSmall : (H : Type) → List (DataW H) → Bool := fun _ ds => decide (uptoBulkAll ds ≤ 1048576)
def OpenSpec.upto (s : _root_.Go.ChangeSpec) : _root_.Go.OpenSpec := { _root_.Go.OpenSpec.ofChange s with cond := some uptoSmall }

/-- 'triptychlaw23.LadderTries', WHERE WHAT IT READS IS OF BULK AT MOST 1048576: true; the input reads as it did. -/
def ladderTriesUptoRow : OpenClaim := { program := "ytngkmlchblgmeaa", sum := "137efa6b4d5920f5cab2b7746e76276af859e98b11e3c148375c1da0926bfb68", func := "triptych/triptychlaw23.LadderTries", spec := "ladderTries", unfollowed := true, recurses := true, apart := false, narrowed := true }
def LadderTriesUptoSaid : Prop := ladderTriesUptoRow.holds Try.pinned (OpenSpec.upto ladderTriesSpec)

/-- 'triptychlaw15.LogNone', WHERE WHAT IT READS IS OF BULK AT MOST 1048576: true; the input reads as it did. -/
def logNoneUptoRow : OpenClaim := { program := "ytngkmlchblgmeaa", sum := "137efa6b4d5920f5cab2b7746e76276af859e98b11e3c148375c1da0926bfb68", func := "triptych/triptychlaw15.LogNone", spec := "logNone", inPlace := ["internal/abi.NoEscape", "internal/bytealg.MakeNoZero"], unfollowed := true, recurses := true, apart := false, narrowed := true }
def LogNoneUptoSaid : Prop := logNoneUptoRow.holds Try.pinned (OpenSpec.upto logNoneSpec)

/-- 'triptychlaw15.LogOrder', WHERE WHAT IT READS IS OF BULK AT MOST 1048576: true; the input reads as it did. -/
def logOrderUptoRow : OpenClaim := { program := "ytngkmlchblgmeaa", sum := "137efa6b4d5920f5cab2b7746e76276af859e98b11e3c148375c1da0926bfb68", func := "triptych/triptychlaw15.LogOrder", spec := "logOrder", inPlace := ["internal/abi.NoEscape", "internal/bytealg.MakeNoZero"], unfollowed := true, recurses := true, apart := false, narrowed := true }
def LogOrderUptoSaid : Prop := logOrderUptoRow.holds Try.pinned (OpenSpec.upto logOrderSpec)

/-- 'triptychlaw15.LogRot', WHERE WHAT IT READS IS OF BULK AT MOST 1048576: true; the input reads as it did. -/
def logRotUptoRow : OpenClaim := { program := "ytngkmlchblgmeaa", sum := "137efa6b4d5920f5cab2b7746e76276af859e98b11e3c148375c1da0926bfb68", func := "triptych/triptychlaw15.LogRot", spec := "logRot", inPlace := ["internal/abi.NoEscape", "internal/bytealg.MakeNoZero"], unfollowed := true, recurses := true, apart := false, narrowed := true }
def LogRotUptoSaid : Prop := logRotUptoRow.holds Try.pinned (OpenSpec.upto logRotSpec)

/-- 'triptychlaw15.LogPlays', WHERE WHAT IT READS IS OF BULK AT MOST 1048576: true; the input reads as it did. -/
def logPlaysUptoRow : OpenClaim := { program := "ytngkmlchblgmeaa", sum := "137efa6b4d5920f5cab2b7746e76276af859e98b11e3c148375c1da0926bfb68", func := "triptych/triptychlaw15.LogPlays", spec := "logPlays", inPlace := ["internal/abi.NoEscape", "internal/bytealg.MakeNoZero"], unfollowed := true, recurses := true, apart := false, narrowed := true }
def LogPlaysUptoSaid : Prop := logPlaysUptoRow.holds Try.pinned (OpenSpec.upto logPlaysSpec)

end Rows
end Go.Proofs.Ytngkmlchblgmeaa
