/-
  No cell of these rows narrows 'for every input' (looked for: loops, veiled, ifaces, maps, wideKeys, modest, calm, conditions, laid).
  DERIVED. THE GIVEN ROWS OF THIS SEAT. 11 by the template 'for every input the law returns true; each argument reads behind the call as it read before'; 0 by the template 'total and deterministic' (their statements: YtiicbbhjepkndaaTotals.lean).
  GIVEN WITH THE SEED: the statements are not yours to turn. If you find one false, say at which input.
  Laid BY PROGRAM, IN A SANDBOX (cutbox-rows.mjs): the forced cells as the released guide's own fill.sh prints them over the translation 400b37a31096ee90… (all of the seat's roots in one cut). By AI agents, Wed Nov 11 2026. No macro, syntax, notation, axiom, sorry.
-/
import Derived.Test.YtiicbbhjepkndaaChecked
import GoSem.Claim
import GoSem.ClaimJoined
import GoSem.ClaimMapViews
import Derived.JoinedTies
import Derived.KernelRfl
namespace Go.Proofs.Ytiicbbhjepkndaa
/- THE CELL 'sum', in the pinned program and in every row, IS THE sha256 OF THE DUMP (.gsa) THAT YtiicbbhjepkndaaProg.lean LOADS. Nothing in Lean hashes anything: it is a label: what it is worth is what the hold of that sum in a sandbox is worth. -/
noncomputable def Try.pinned : Pinned := { name := "ytiicbbhjepkndaa", sum := "400b37a31096ee90470e04cd729c1607177c717be9dcebac899cc23524de6fb4", checked := Try.checked }
namespace Rows
def none {H : Type} : Left H := { results := [], args := [] }

/-- 'triptychlaw08.FlashTears': WHATEVER THE INPUT: true; the input reads as it did. -/
def flashTearsSpec : ChangeSpec := { name := "flashTears", fn := fun _ => fun
  | [d1, d2, d3] => { results := [.lit (.bool true)], args := [d1, d2, d3] }
  | _ => none }
def flashTearsRow : OpenClaim := { program := "ytiicbbhjepkndaa", sum := "400b37a31096ee90470e04cd729c1607177c717be9dcebac899cc23524de6fb4", func := "triptych/triptychlaw08.FlashTears", spec := "flashTears", inPlace := ["internal/abi.NoEscape", "internal/bytealg.MakeNoZero"], apart := false }
def FlashTearsSaid : Prop := flashTearsRow.holds Try.pinned (OpenSpec.ofChange flashTearsSpec)

/-- ITS FALSE NEIGHBOUR: 'it returns false'. Refute it at one input. -/
def flashTearsWrong : ChangeSpec := { name := "flashTears", fn := fun _ => fun
  | [d1, d2, d3] => { results := [.lit (.bool false)], args := [d1, d2, d3] }
  | _ => none }
def FlashTearsWrongFalsely : Prop := flashTearsRow.holds Try.pinned (OpenSpec.ofChange flashTearsWrong)

/-- 'triptychlaw08.FlashKeeps': WHATEVER THE INPUT: true; the input reads as it did. -/
def flashKeepsSpec : ChangeSpec := { name := "flashKeeps", fn := fun _ => fun
  | [d1, d2, d3] => { results := [.lit (.bool true)], args := [d1, d2, d3] }
  | _ => none }
def flashKeepsRow : OpenClaim := { program := "ytiicbbhjepkndaa", sum := "400b37a31096ee90470e04cd729c1607177c717be9dcebac899cc23524de6fb4", func := "triptych/triptychlaw08.FlashKeeps", spec := "flashKeeps", inPlace := ["internal/abi.NoEscape", "internal/bytealg.MakeNoZero"], apart := false }
def FlashKeepsSaid : Prop := flashKeepsRow.holds Try.pinned (OpenSpec.ofChange flashKeepsSpec)

/-- ITS FALSE NEIGHBOUR: 'it returns false'. Refute it at one input. -/
def flashKeepsWrong : ChangeSpec := { name := "flashKeeps", fn := fun _ => fun
  | [d1, d2, d3] => { results := [.lit (.bool false)], args := [d1, d2, d3] }
  | _ => none }
def FlashKeepsWrongFalsely : Prop := flashKeepsRow.holds Try.pinned (OpenSpec.ofChange flashKeepsWrong)

/-- 'triptychlaw08.FlashWears': WHATEVER THE INPUT: true; the input reads as it did. -/
def flashWearsSpec : ChangeSpec := { name := "flashWears", fn := fun _ => fun
  | [d1, d2, d3] => { results := [.lit (.bool true)], args := [d1, d2, d3] }
  | _ => none }
def flashWearsRow : OpenClaim := { program := "ytiicbbhjepkndaa", sum := "400b37a31096ee90470e04cd729c1607177c717be9dcebac899cc23524de6fb4", func := "triptych/triptychlaw08.FlashWears", spec := "flashWears", inPlace := ["internal/abi.NoEscape", "internal/bytealg.MakeNoZero"], apart := false }
def FlashWearsSaid : Prop := flashWearsRow.holds Try.pinned (OpenSpec.ofChange flashWearsSpec)

/-- ITS FALSE NEIGHBOUR: 'it returns false'. Refute it at one input. -/
def flashWearsWrong : ChangeSpec := { name := "flashWears", fn := fun _ => fun
  | [d1, d2, d3] => { results := [.lit (.bool false)], args := [d1, d2, d3] }
  | _ => none }
def FlashWearsWrongFalsely : Prop := flashWearsRow.holds Try.pinned (OpenSpec.ofChange flashWearsWrong)

/-- 'triptychlaw08.FlashNone': WHATEVER THE INPUT: true; the input reads as it did. -/
def flashNoneSpec : ChangeSpec := { name := "flashNone", fn := fun _ => fun
  | [d] => { results := [.lit (.bool true)], args := [d] }
  | _ => none }
def flashNoneRow : OpenClaim := { program := "ytiicbbhjepkndaa", sum := "400b37a31096ee90470e04cd729c1607177c717be9dcebac899cc23524de6fb4", func := "triptych/triptychlaw08.FlashNone", spec := "flashNone", inPlace := ["internal/abi.NoEscape", "internal/bytealg.MakeNoZero"], apart := false }
def FlashNoneSaid : Prop := flashNoneRow.holds Try.pinned (OpenSpec.ofChange flashNoneSpec)

/-- ITS FALSE NEIGHBOUR: 'it returns false'. Refute it at one input. -/
def flashNoneWrong : ChangeSpec := { name := "flashNone", fn := fun _ => fun
  | [d] => { results := [.lit (.bool false)], args := [d] }
  | _ => none }
def FlashNoneWrongFalsely : Prop := flashNoneRow.holds Try.pinned (OpenSpec.ofChange flashNoneWrong)

/-- 'triptychlaw14.RecordTorn': WHATEVER THE INPUT: true; the input reads as it did. -/
def recordTornSpec : ChangeSpec := { name := "recordTorn", fn := fun _ => fun
  | [d1, d2] => { results := [.lit (.bool true)], args := [d1, d2] }
  | _ => none }
def recordTornRow : OpenClaim := { program := "ytiicbbhjepkndaa", sum := "400b37a31096ee90470e04cd729c1607177c717be9dcebac899cc23524de6fb4", func := "triptych/triptychlaw14.RecordTorn", spec := "recordTorn", inPlace := ["internal/abi.NoEscape", "internal/bytealg.MakeNoZero"], unfollowed := true, recurses := true, apart := false }
def RecordTornSaid : Prop := recordTornRow.holds Try.pinned (OpenSpec.ofChange recordTornSpec)

/-- ITS FALSE NEIGHBOUR: 'it returns false'. Refute it at one input. -/
def recordTornWrong : ChangeSpec := { name := "recordTorn", fn := fun _ => fun
  | [d1, d2] => { results := [.lit (.bool false)], args := [d1, d2] }
  | _ => none }
def RecordTornWrongFalsely : Prop := recordTornRow.holds Try.pinned (OpenSpec.ofChange recordTornWrong)

/-- 'triptychlaw16.TallyLevels': WHATEVER THE INPUT: true; the input reads as it did. -/
def tallyLevelsSpec : ChangeSpec := { name := "tallyLevels", fn := fun _ => fun
  | [d1, d2, d3] => { results := [.lit (.bool true)], args := [d1, d2, d3] }
  | _ => none }
def tallyLevelsRow : OpenClaim := { program := "ytiicbbhjepkndaa", sum := "400b37a31096ee90470e04cd729c1607177c717be9dcebac899cc23524de6fb4", func := "triptych/triptychlaw16.TallyLevels", spec := "tallyLevels", inPlace := ["internal/abi.NoEscape", "internal/bytealg.MakeNoZero"], apart := false }
def TallyLevelsSaid : Prop := tallyLevelsRow.holds Try.pinned (OpenSpec.ofChange tallyLevelsSpec)

/-- ITS FALSE NEIGHBOUR: 'it returns false'. Refute it at one input. -/
def tallyLevelsWrong : ChangeSpec := { name := "tallyLevels", fn := fun _ => fun
  | [d1, d2, d3] => { results := [.lit (.bool false)], args := [d1, d2, d3] }
  | _ => none }
def TallyLevelsWrongFalsely : Prop := tallyLevelsRow.holds Try.pinned (OpenSpec.ofChange tallyLevelsWrong)

/-- 'triptychlaw16.TallyNone': WHATEVER THE INPUT: true; the input reads as it did. -/
def tallyNoneSpec : ChangeSpec := { name := "tallyNone", fn := fun _ => fun
  | [d] => { results := [.lit (.bool true)], args := [d] }
  | _ => none }
def tallyNoneRow : OpenClaim := { program := "ytiicbbhjepkndaa", sum := "400b37a31096ee90470e04cd729c1607177c717be9dcebac899cc23524de6fb4", func := "triptych/triptychlaw16.TallyNone", spec := "tallyNone", inPlace := ["internal/abi.NoEscape", "internal/bytealg.MakeNoZero"], apart := false }
def TallyNoneSaid : Prop := tallyNoneRow.holds Try.pinned (OpenSpec.ofChange tallyNoneSpec)

/-- ITS FALSE NEIGHBOUR: 'it returns false'. Refute it at one input. -/
def tallyNoneWrong : ChangeSpec := { name := "tallyNone", fn := fun _ => fun
  | [d] => { results := [.lit (.bool false)], args := [d] }
  | _ => none }
def TallyNoneWrongFalsely : Prop := tallyNoneRow.holds Try.pinned (OpenSpec.ofChange tallyNoneWrong)

/-- 'triptychlaw15.LogNone': WHATEVER THE INPUT: true; the input reads as it did. -/
def logNoneSpec : ChangeSpec := { name := "logNone", fn := fun _ => fun
  | [d1, d2] => { results := [.lit (.bool true)], args := [d1, d2] }
  | _ => none }
def logNoneRow : OpenClaim := { program := "ytiicbbhjepkndaa", sum := "400b37a31096ee90470e04cd729c1607177c717be9dcebac899cc23524de6fb4", func := "triptych/triptychlaw15.LogNone", spec := "logNone", inPlace := ["internal/abi.NoEscape", "internal/bytealg.MakeNoZero"], unfollowed := true, recurses := true, apart := false }
def LogNoneSaid : Prop := logNoneRow.holds Try.pinned (OpenSpec.ofChange logNoneSpec)

/-- ITS FALSE NEIGHBOUR: 'it returns false'. Refute it at one input. -/
def logNoneWrong : ChangeSpec := { name := "logNone", fn := fun _ => fun
  | [d1, d2] => { results := [.lit (.bool false)], args := [d1, d2] }
  | _ => none }
def LogNoneWrongFalsely : Prop := logNoneRow.holds Try.pinned (OpenSpec.ofChange logNoneWrong)

/-- 'triptychlaw15.LogOrder': WHATEVER THE INPUT: true; the input reads as it did. -/
def logOrderSpec : ChangeSpec := { name := "logOrder", fn := fun _ => fun
  | [d1, d2] => { results := [.lit (.bool true)], args := [d1, d2] }
  | _ => none }
def logOrderRow : OpenClaim := { program := "ytiicbbhjepkndaa", sum := "400b37a31096ee90470e04cd729c1607177c717be9dcebac899cc23524de6fb4", func := "triptych/triptychlaw15.LogOrder", spec := "logOrder", inPlace := ["internal/abi.NoEscape", "internal/bytealg.MakeNoZero"], unfollowed := true, recurses := true, apart := false }
def LogOrderSaid : Prop := logOrderRow.holds Try.pinned (OpenSpec.ofChange logOrderSpec)

/-- ITS FALSE NEIGHBOUR: 'it returns false'. Refute it at one input. -/
def logOrderWrong : ChangeSpec := { name := "logOrder", fn := fun _ => fun
  | [d1, d2] => { results := [.lit (.bool false)], args := [d1, d2] }
  | _ => none }
def LogOrderWrongFalsely : Prop := logOrderRow.holds Try.pinned (OpenSpec.ofChange logOrderWrong)

/-- 'triptychlaw15.LogRot': WHATEVER THE INPUT: true; the input reads as it did. -/
def logRotSpec : ChangeSpec := { name := "logRot", fn := fun _ => fun
  | [d1, d2, d3] => { results := [.lit (.bool true)], args := [d1, d2, d3] }
  | _ => none }
def logRotRow : OpenClaim := { program := "ytiicbbhjepkndaa", sum := "400b37a31096ee90470e04cd729c1607177c717be9dcebac899cc23524de6fb4", func := "triptych/triptychlaw15.LogRot", spec := "logRot", inPlace := ["internal/abi.NoEscape", "internal/bytealg.MakeNoZero"], unfollowed := true, recurses := true, apart := false }
def LogRotSaid : Prop := logRotRow.holds Try.pinned (OpenSpec.ofChange logRotSpec)

/-- ITS FALSE NEIGHBOUR: 'it returns false'. Refute it at one input. -/
def logRotWrong : ChangeSpec := { name := "logRot", fn := fun _ => fun
  | [d1, d2, d3] => { results := [.lit (.bool false)], args := [d1, d2, d3] }
  | _ => none }
def LogRotWrongFalsely : Prop := logRotRow.holds Try.pinned (OpenSpec.ofChange logRotWrong)

/-- 'triptychlaw15.LogPlays': WHATEVER THE INPUT: true; the input reads as it did. -/
def logPlaysSpec : ChangeSpec := { name := "logPlays", fn := fun _ => fun
  | [d1, d2] => { results := [.lit (.bool true)], args := [d1, d2] }
  | _ => none }
def logPlaysRow : OpenClaim := { program := "ytiicbbhjepkndaa", sum := "400b37a31096ee90470e04cd729c1607177c717be9dcebac899cc23524de6fb4", func := "triptych/triptychlaw15.LogPlays", spec := "logPlays", inPlace := ["internal/abi.NoEscape", "internal/bytealg.MakeNoZero"], unfollowed := true, recurses := true, apart := false }
def LogPlaysSaid : Prop := logPlaysRow.holds Try.pinned (OpenSpec.ofChange logPlaysSpec)

/-- ITS FALSE NEIGHBOUR: 'it returns false'. Refute it at one input. -/
def logPlaysWrong : ChangeSpec := { name := "logPlays", fn := fun _ => fun
  | [d1, d2] => { results := [.lit (.bool false)], args := [d1, d2] }
  | _ => none }
def LogPlaysWrongFalsely : Prop := logPlaysRow.holds Try.pinned (OpenSpec.ofChange logPlaysWrong)

/- THE SECOND FORM. 'bulk': how many values and letters a reading holds, each counted each time it is reached (what is shared counts as often as it is met; a slice's spare places count too). A statement '..UptoSaid' is the law's where the arguments, and the package variables that the reading takes, are together of bulk at most 1048576: NARROWER than '..Said'. Prove '..Said' where nothing that the law and all that it calls make is longer than what came in: it says more and counts as full. Else prove '..UptoSaid'. A law counts once. -/
mutual
def uptoBulk {H : Type} : DataW H → Nat
  | .lit (.string bytes) => bytes.length + 1
  | .lit _ => 1
  | .nil => 1
  | .ptr d => uptoBulk d + 1
  | .slice elems spare => uptoBulkAll elems + uptoBulkAll spare + 1
  | .agg parts => uptoBulkAll parts + 1
  | .iface _ d => uptoBulk d + 1
  | .map entries => uptoBulkEntries entries + 1
  | .held _ => 1
def uptoBulkAll {H : Type} : List (DataW H) → Nat
  | [] => 0
  | d :: r => uptoBulk d + uptoBulkAll r
def uptoBulkEntries {H : Type} : List (Lit × DataW H) → Nat
  | [] => 0
  | x :: r => uptoBulkEntry x + uptoBulkEntries r
def uptoBulkEntry {H : Type} : Lit × DataW H → Nat
  | (.string bytes, d) => bytes.length + uptoBulk d + 1
  | (_, d) => uptoBulk d + 1
 end
def uptoSmall : (H : Type) → List (DataW H) → Bool := fun _ ds => decide (uptoBulkAll ds ≤ 1048576)
def OpenSpec.upto (s : _root_.Go.ChangeSpec) : _root_.Go.OpenSpec := { _root_.Go.OpenSpec.ofChange s with cond := some uptoSmall }

/-- 'triptychlaw08.FlashTears', WHERE WHAT IT READS IS OF BULK AT MOST 1048576: true; the input reads as it did. -/
def flashTearsUptoRow : OpenClaim := { program := "ytiicbbhjepkndaa", sum := "400b37a31096ee90470e04cd729c1607177c717be9dcebac899cc23524de6fb4", func := "triptych/triptychlaw08.FlashTears", spec := "flashTears", inPlace := ["internal/abi.NoEscape", "internal/bytealg.MakeNoZero"], apart := false, narrowed := true }
def FlashTearsUptoSaid : Prop := flashTearsUptoRow.holds Try.pinned (OpenSpec.upto flashTearsSpec)

/-- 'triptychlaw08.FlashKeeps', WHERE WHAT IT READS IS OF BULK AT MOST 1048576: true; the input reads as it did. -/
def flashKeepsUptoRow : OpenClaim := { program := "ytiicbbhjepkndaa", sum := "400b37a31096ee90470e04cd729c1607177c717be9dcebac899cc23524de6fb4", func := "triptych/triptychlaw08.FlashKeeps", spec := "flashKeeps", inPlace := ["internal/abi.NoEscape", "internal/bytealg.MakeNoZero"], apart := false, narrowed := true }
def FlashKeepsUptoSaid : Prop := flashKeepsUptoRow.holds Try.pinned (OpenSpec.upto flashKeepsSpec)

/-- 'triptychlaw08.FlashWears', WHERE WHAT IT READS IS OF BULK AT MOST 1048576: true; the input reads as it did. -/
def flashWearsUptoRow : OpenClaim := { program := "ytiicbbhjepkndaa", sum := "400b37a31096ee90470e04cd729c1607177c717be9dcebac899cc23524de6fb4", func := "triptych/triptychlaw08.FlashWears", spec := "flashWears", inPlace := ["internal/abi.NoEscape", "internal/bytealg.MakeNoZero"], apart := false, narrowed := true }
def FlashWearsUptoSaid : Prop := flashWearsUptoRow.holds Try.pinned (OpenSpec.upto flashWearsSpec)

/-- 'triptychlaw08.FlashNone', WHERE WHAT IT READS IS OF BULK AT MOST 1048576: true; the input reads as it did. -/
def flashNoneUptoRow : OpenClaim := { program := "ytiicbbhjepkndaa", sum := "400b37a31096ee90470e04cd729c1607177c717be9dcebac899cc23524de6fb4", func := "triptych/triptychlaw08.FlashNone", spec := "flashNone", inPlace := ["internal/abi.NoEscape", "internal/bytealg.MakeNoZero"], apart := false, narrowed := true }
def FlashNoneUptoSaid : Prop := flashNoneUptoRow.holds Try.pinned (OpenSpec.upto flashNoneSpec)

/-- 'triptychlaw14.RecordTorn', WHERE WHAT IT READS IS OF BULK AT MOST 1048576: true; the input reads as it did. -/
def recordTornUptoRow : OpenClaim := { program := "ytiicbbhjepkndaa", sum := "400b37a31096ee90470e04cd729c1607177c717be9dcebac899cc23524de6fb4", func := "triptych/triptychlaw14.RecordTorn", spec := "recordTorn", inPlace := ["internal/abi.NoEscape", "internal/bytealg.MakeNoZero"], unfollowed := true, recurses := true, apart := false, narrowed := true }
def RecordTornUptoSaid : Prop := recordTornUptoRow.holds Try.pinned (OpenSpec.upto recordTornSpec)

/-- 'triptychlaw16.TallyLevels', WHERE WHAT IT READS IS OF BULK AT MOST 1048576: true; the input reads as it did. -/
def tallyLevelsUptoRow : OpenClaim := { program := "ytiicbbhjepkndaa", sum := "400b37a31096ee90470e04cd729c1607177c717be9dcebac899cc23524de6fb4", func := "triptych/triptychlaw16.TallyLevels", spec := "tallyLevels", inPlace := ["internal/abi.NoEscape", "internal/bytealg.MakeNoZero"], apart := false, narrowed := true }
def TallyLevelsUptoSaid : Prop := tallyLevelsUptoRow.holds Try.pinned (OpenSpec.upto tallyLevelsSpec)

/-- 'triptychlaw16.TallyNone', WHERE WHAT IT READS IS OF BULK AT MOST 1048576: true; the input reads as it did. -/
def tallyNoneUptoRow : OpenClaim := { program := "ytiicbbhjepkndaa", sum := "400b37a31096ee90470e04cd729c1607177c717be9dcebac899cc23524de6fb4", func := "triptych/triptychlaw16.TallyNone", spec := "tallyNone", inPlace := ["internal/abi.NoEscape", "internal/bytealg.MakeNoZero"], apart := false, narrowed := true }
def TallyNoneUptoSaid : Prop := tallyNoneUptoRow.holds Try.pinned (OpenSpec.upto tallyNoneSpec)

/-- 'triptychlaw15.LogNone', WHERE WHAT IT READS IS OF BULK AT MOST 1048576: true; the input reads as it did. -/
def logNoneUptoRow : OpenClaim := { program := "ytiicbbhjepkndaa", sum := "400b37a31096ee90470e04cd729c1607177c717be9dcebac899cc23524de6fb4", func := "triptych/triptychlaw15.LogNone", spec := "logNone", inPlace := ["internal/abi.NoEscape", "internal/bytealg.MakeNoZero"], unfollowed := true, recurses := true, apart := false, narrowed := true }
def LogNoneUptoSaid : Prop := logNoneUptoRow.holds Try.pinned (OpenSpec.upto logNoneSpec)

/-- 'triptychlaw15.LogOrder', WHERE WHAT IT READS IS OF BULK AT MOST 1048576: true; the input reads as it did. -/
def logOrderUptoRow : OpenClaim := { program := "ytiicbbhjepkndaa", sum := "400b37a31096ee90470e04cd729c1607177c717be9dcebac899cc23524de6fb4", func := "triptych/triptychlaw15.LogOrder", spec := "logOrder", inPlace := ["internal/abi.NoEscape", "internal/bytealg.MakeNoZero"], unfollowed := true, recurses := true, apart := false, narrowed := true }
def LogOrderUptoSaid : Prop := logOrderUptoRow.holds Try.pinned (OpenSpec.upto logOrderSpec)

/-- 'triptychlaw15.LogRot', WHERE WHAT IT READS IS OF BULK AT MOST 1048576: true; the input reads as it did. -/
def logRotUptoRow : OpenClaim := { program := "ytiicbbhjepkndaa", sum := "400b37a31096ee90470e04cd729c1607177c717be9dcebac899cc23524de6fb4", func := "triptych/triptychlaw15.LogRot", spec := "logRot", inPlace := ["internal/abi.NoEscape", "internal/bytealg.MakeNoZero"], unfollowed := true, recurses := true, apart := false, narrowed := true }
def LogRotUptoSaid : Prop := logRotUptoRow.holds Try.pinned (OpenSpec.upto logRotSpec)

/-- 'triptychlaw15.LogPlays', WHERE WHAT IT READS IS OF BULK AT MOST 1048576: true; the input reads as it did. -/
def logPlaysUptoRow : OpenClaim := { program := "ytiicbbhjepkndaa", sum := "400b37a31096ee90470e04cd729c1607177c717be9dcebac899cc23524de6fb4", func := "triptych/triptychlaw15.LogPlays", spec := "logPlays", inPlace := ["internal/abi.NoEscape", "internal/bytealg.MakeNoZero"], unfollowed := true, recurses := true, apart := false, narrowed := true }
def LogPlaysUptoSaid : Prop := logPlaysUptoRow.holds Try.pinned (OpenSpec.upto logPlaysSpec)

end Rows
end Go.Proofs.Ytiicbbhjepkndaa
