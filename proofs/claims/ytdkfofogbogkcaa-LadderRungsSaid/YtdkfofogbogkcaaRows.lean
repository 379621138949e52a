/-
  No cell of these rows narrows 'for every input' (looked for: loops, veiled, ifaces, maps, wideKeys, modest, calm, conditions, laid).
  DERIVED. THE GIVEN ROWS OF THIS SEAT. 8 by the template 'for every input the law returns true; each argument reads behind the call as it read before'; 0 by the template 'total and deterministic' (their statements: YtdkfofogbogkcaaTotals.lean).
  GIVEN WITH THE SEED: the statements are not yours to turn. If you find one false, say at which input.
  Laid BY PROGRAM, IN A SANDBOX (cutbox-rows.mjs): the forced cells as the released guide's own fill.sh prints them over the translation 34fe80b48a7a4145… (all of the seat's roots in one cut). By AI agents, Wed Nov 11 2026. No macro, syntax, notation, axiom, sorry.
-/
import Derived.Test.YtdkfofogbogkcaaChecked
import GoSem.Claim
import GoSem.ClaimJoined
import GoSem.ClaimMapViews
import Derived.JoinedTies
import Derived.KernelRfl
namespace Go.Proofs.Ytdkfofogbogkcaa
/- THE CELL 'sum', in the pinned program and in every row, IS THE sha256 OF THE DUMP (.gsa) THAT YtdkfofogbogkcaaProg.lean LOADS. Nothing in Lean hashes anything: it is a label: what it is worth is what the hold of that sum in a sandbox is worth. -/
noncomputable def Try.pinned : Pinned := { name := "ytdkfofogbogkcaa", sum := "34fe80b48a7a41455050508fda14a2fc47f0825ac81615be58d222a0babb48e7", checked := Try.checked }
namespace Rows
def none {H : Type} : Left H := { results := [], args := [] }

/-- 'triptychlaw23.LadderRungs': WHATEVER THE INPUT: true; the input reads as it did. -/
def ladderRungsSpec : ChangeSpec := { name := "ladderRungs", fn := fun _ => fun
  | [d1, d2] => { results := [.lit (.bool true)], args := [d1, d2] }
  | _ => none }
def ladderRungsRow : OpenClaim := { program := "ytdkfofogbogkcaa", sum := "34fe80b48a7a41455050508fda14a2fc47f0825ac81615be58d222a0babb48e7", func := "triptych/triptychlaw23.LadderRungs", spec := "ladderRungs", unfollowed := true, recurses := true, apart := false }
def LadderRungsSaid : Prop := ladderRungsRow.holds Try.pinned (OpenSpec.ofChange ladderRungsSpec)

/-- ITS FALSE NEIGHBOUR: 'it returns false'. Refute it at one input. -/
def ladderRungsWrong : ChangeSpec := { name := "ladderRungs", fn := fun _ => fun
  | [d1, d2] => { results := [.lit (.bool false)], args := [d1, d2] }
  | _ => none }
def LadderRungsWrongFalsely : Prop := ladderRungsRow.holds Try.pinned (OpenSpec.ofChange ladderRungsWrong)

/-- 'triptychlaw08.FlashTears': WHATEVER THE INPUT: true; the input reads as it did. -/
def flashTearsSpec : ChangeSpec := { name := "flashTears", fn := fun _ => fun
  | [d1, d2, d3] => { results := [.lit (.bool true)], args := [d1, d2, d3] }
  | _ => none }
def flashTearsRow : OpenClaim := { program := "ytdkfofogbogkcaa", sum := "34fe80b48a7a41455050508fda14a2fc47f0825ac81615be58d222a0babb48e7", func := "triptych/triptychlaw08.FlashTears", spec := "flashTears", inPlace := ["internal/abi.NoEscape", "internal/bytealg.MakeNoZero"], apart := false }
def FlashTearsSaid : Prop := flashTearsRow.holds Try.pinned (OpenSpec.ofChange flashTearsSpec)

/-- ITS FALSE NEIGHBOUR: 'it returns false'. Refute it at one input. -/
def flashTearsWrong : ChangeSpec := { name := "flashTears", fn := fun _ => fun
  | [d1, d2, d3] => { results := [.lit (.bool false)], args := [d1, d2, d3] }
  | _ => none }
def FlashTearsWrongFalsely : Prop := flashTearsRow.holds Try.pinned (OpenSpec.ofChange flashTearsWrong)

/-- 'triptychlaw23.LadderTries': WHATEVER THE INPUT: true; the input reads as it did. -/
def ladderTriesSpec : ChangeSpec := { name := "ladderTries", fn := fun _ => fun
  | [d1, d2, d3] => { results := [.lit (.bool true)], args := [d1, d2, d3] }
  | _ => none }
def ladderTriesRow : OpenClaim := { program := "ytdkfofogbogkcaa", sum := "34fe80b48a7a41455050508fda14a2fc47f0825ac81615be58d222a0babb48e7", func := "triptych/triptychlaw23.LadderTries", spec := "ladderTries", unfollowed := true, recurses := true, apart := false }
def LadderTriesSaid : Prop := ladderTriesRow.holds Try.pinned (OpenSpec.ofChange ladderTriesSpec)

/-- ITS FALSE NEIGHBOUR: 'it returns false'. Refute it at one input. -/
def ladderTriesWrong : ChangeSpec := { name := "ladderTries", fn := fun _ => fun
  | [d1, d2, d3] => { results := [.lit (.bool false)], args := [d1, d2, d3] }
  | _ => none }
def LadderTriesWrongFalsely : Prop := ladderTriesRow.holds Try.pinned (OpenSpec.ofChange ladderTriesWrong)

/-- 'triptychlaw08.FlashKeeps': WHATEVER THE INPUT: true; the input reads as it did. -/
def flashKeepsSpec : ChangeSpec := { name := "flashKeeps", fn := fun _ => fun
  | [d1, d2, d3] => { results := [.lit (.bool true)], args := [d1, d2, d3] }
  | _ => none }
def flashKeepsRow : OpenClaim := { program := "ytdkfofogbogkcaa", sum := "34fe80b48a7a41455050508fda14a2fc47f0825ac81615be58d222a0babb48e7", func := "triptych/triptychlaw08.FlashKeeps", spec := "flashKeeps", inPlace := ["internal/abi.NoEscape", "internal/bytealg.MakeNoZero"], apart := false }
def FlashKeepsSaid : Prop := flashKeepsRow.holds Try.pinned (OpenSpec.ofChange flashKeepsSpec)

/-- ITS FALSE NEIGHBOUR: 'it returns false'. Refute it at one input. -/
def flashKeepsWrong : ChangeSpec := { name := "flashKeeps", fn := fun _ => fun
  | [d1, d2, d3] => { results := [.lit (.bool false)], args := [d1, d2, d3] }
  | _ => none }
def FlashKeepsWrongFalsely : Prop := flashKeepsRow.holds Try.pinned (OpenSpec.ofChange flashKeepsWrong)

/-- 'triptychlaw08.FlashWears': WHATEVER THE INPUT: true; the input reads as it did. -/
def flashWearsSpec : ChangeSpec := { name := "flashWears", fn := fun _ => fun
  | [d1, d2, d3] => { results := [.lit (.bool true)], args := [d1, d2, d3] }
  | _ => none }
def flashWearsRow : OpenClaim := { program := "ytdkfofogbogkcaa", sum := "34fe80b48a7a41455050508fda14a2fc47f0825ac81615be58d222a0babb48e7", func := "triptych/triptychlaw08.FlashWears", spec := "flashWears", inPlace := ["internal/abi.NoEscape", "internal/bytealg.MakeNoZero"], apart := false }
def FlashWearsSaid : Prop := flashWearsRow.holds Try.pinned (OpenSpec.ofChange flashWearsSpec)

/-- ITS FALSE NEIGHBOUR: 'it returns false'. Refute it at one input. -/
def flashWearsWrong : ChangeSpec := { name := "flashWears", fn := fun _ => fun
  | [d1, d2, d3] => { results := [.lit (.bool false)], args := [d1, d2, d3] }
  | _ => none }
def FlashWearsWrongFalsely : Prop := flashWearsRow.holds Try.pinned (OpenSpec.ofChange flashWearsWrong)

/-- 'triptychlaw08.FlashNone': WHATEVER THE INPUT: true; the input reads as it did. -/
def flashNoneSpec : ChangeSpec := { name := "flashNone", fn := fun _ => fun
  | [d] => { results := [.lit (.bool true)], args := [d] }
  | _ => none }
def flashNoneRow : OpenClaim := { program := "ytdkfofogbogkcaa", sum := "34fe80b48a7a41455050508fda14a2fc47f0825ac81615be58d222a0babb48e7", func := "triptych/triptychlaw08.FlashNone", spec := "flashNone", inPlace := ["internal/abi.NoEscape", "internal/bytealg.MakeNoZero"], apart := false }
def FlashNoneSaid : Prop := flashNoneRow.holds Try.pinned (OpenSpec.ofChange flashNoneSpec)

/-- ITS FALSE NEIGHBOUR: 'it returns false'. Refute it at one input. -/
def flashNoneWrong : ChangeSpec := { name := "flashNone", fn := fun _ => fun
  | [d] => { results := [.lit (.bool false)], args := [d] }
  | _ => none }
def FlashNoneWrongFalsely : Prop := flashNoneRow.holds Try.pinned (OpenSpec.ofChange flashNoneWrong)

/-- 'triptychlaw16.TallyLevels': WHATEVER THE INPUT: true; the input reads as it did. -/
def tallyLevelsSpec : ChangeSpec := { name := "tallyLevels", fn := fun _ => fun
  | [d1, d2, d3] => { results := [.lit (.bool true)], args := [d1, d2, d3] }
  | _ => none }
def tallyLevelsRow : OpenClaim := { program := "ytdkfofogbogkcaa", sum := "34fe80b48a7a41455050508fda14a2fc47f0825ac81615be58d222a0babb48e7", func := "triptych/triptychlaw16.TallyLevels", spec := "tallyLevels", inPlace := ["internal/abi.NoEscape", "internal/bytealg.MakeNoZero"], apart := false }
def TallyLevelsSaid : Prop := tallyLevelsRow.holds Try.pinned (OpenSpec.ofChange tallyLevelsSpec)

/-- ITS FALSE NEIGHBOUR: 'it returns false'. Refute it at one input. -/
def tallyLevelsWrong : ChangeSpec := { name := "tallyLevels", fn := fun _ => fun
  | [d1, d2, d3] => { results := [.lit (.bool false)], args := [d1, d2, d3] }
  | _ => none }
def TallyLevelsWrongFalsely : Prop := tallyLevelsRow.holds Try.pinned (OpenSpec.ofChange tallyLevelsWrong)

/-- 'triptychlaw16.TallyNone': WHATEVER THE INPUT: true; the input reads as it did. -/
def tallyNoneSpec : ChangeSpec := { name := "tallyNone", fn := fun _ => fun
  | [d] => { results := [.lit (.bool true)], args := [d] }
  | _ => none }
def tallyNoneRow : OpenClaim := { program := "ytdkfofogbogkcaa", sum := "34fe80b48a7a41455050508fda14a2fc47f0825ac81615be58d222a0babb48e7", func := "triptych/triptychlaw16.TallyNone", spec := "tallyNone", inPlace := ["internal/abi.NoEscape", "internal/bytealg.MakeNoZero"], apart := false }
def TallyNoneSaid : Prop := tallyNoneRow.holds Try.pinned (OpenSpec.ofChange tallyNoneSpec)

/-- ITS FALSE NEIGHBOUR: 'it returns false'. Refute it at one input. -/
def tallyNoneWrong : ChangeSpec := { name := "tallyNone", fn := fun _ => fun
  | [d] => { results := [.lit (.bool false)], args := [d] }
  | _ => none }
def TallyNoneWrongFalsely : Prop := tallyNoneRow.holds Try.pinned (OpenSpec.ofChange tallyNoneWrong)

/- THE SECOND FORM. 'bulk': how many values and letters a reading holds, each counted each time it is reached (what is shared counts as often as it is met; a slice's spare places count too). A statement '..UptoSaid' is the law's where the arguments, and the package variables that the reading takes, are together of bulk at most 1048576: NARROWER than '..Said'. Prove '..Said' where nothing that the law and all that it calls make is longer than what came in: it says more and counts as full. Else prove '..UptoSaid'. A law counts once. -/
mutual
def uptoBulk {H : Type} : DataW H → Nat
  | .lit (.string bytes) => bytes.length + 1
  | .lit _ => 1
  | .nil => 1
  | .ptr d => uptoBulk d + 1
  | .slice elems spare => uptoBulkAll elems + uptoBulkAll spare + 1
  | .agg parts => uptoBulkAll parts + 1
  | .iface _ d => uptoBulk d + 1
  | .map entries => uptoBulkEntries entries + 1
  | .held _ => 1
def uptoBulkAll {H : Type} : List (DataW H) → Nat
  | [] => 0
  | d :: r => uptoBulk d + uptoBulkAll r
def uptoBulkEntries {H : Type} : List (Lit × DataW H) → Nat
  | [] => 0
  | x :: r => uptoBulkEntry x + uptoBulkEntries r
def uptoBulkEntry {H : Type} : Lit × DataW H → Nat
  | (.string bytes, d) => bytes.length + uptoBulk d + 1
  | (_, d) => uptoBulk d + 1
 end
def uptoSmall : (H : Type) → List (DataW H) → Bool := fun _ ds => decide (uptoBulkAll ds ≤ 1048576)
def OpenSpec.upto (s : _root_.Go.ChangeSpec) : _root_.Go.OpenSpec := { _root_.Go.OpenSpec.ofChange s with cond := some uptoSmall }

/-- 'triptychlaw23.LadderRungs', WHERE WHAT IT READS IS OF BULK AT MOST 1048576: true; the input reads as it did. -/
def ladderRungsUptoRow : OpenClaim := { program := "ytdkfofogbogkcaa", sum := "34fe80b48a7a41455050508fda14a2fc47f0825ac81615be58d222a0babb48e7", func := "triptych/triptychlaw23.LadderRungs", spec := "ladderRungs", unfollowed := true, recurses := true, apart := false, narrowed := true }
def LadderRungsUptoSaid : Prop := ladderRungsUptoRow.holds Try.pinned (OpenSpec.upto ladderRungsSpec)

/-- 'triptychlaw08.FlashTears', WHERE WHAT IT READS IS OF BULK AT MOST 1048576: true; the input reads as it did. -/
def flashTearsUptoRow : OpenClaim := { program := "ytdkfofogbogkcaa", sum := "34fe80b48a7a41455050508fda14a2fc47f0825ac81615be58d222a0babb48e7", func := "triptych/triptychlaw08.FlashTears", spec := "flashTears", inPlace := ["internal/abi.NoEscape", "internal/bytealg.MakeNoZero"], apart := false, narrowed := true }
def FlashTearsUptoSaid : Prop := flashTearsUptoRow.holds Try.pinned (OpenSpec.upto flashTearsSpec)

/-- 'triptychlaw23.LadderTries', WHERE WHAT IT READS IS OF BULK AT MOST 1048576: true; the input reads as it did. -/
def ladderTriesUptoRow : OpenClaim := { program := "ytdkfofogbogkcaa", sum := "34fe80b48a7a41455050508fda14a2fc47f0825ac81615be58d222a0babb48e7", func := "triptych/triptychlaw23.LadderTries", spec := "ladderTries", unfollowed := true, recurses := true, apart := false, narrowed := true }
def LadderTriesUptoSaid : Prop := ladderTriesUptoRow.holds Try.pinned (OpenSpec.upto ladderTriesSpec)

/-- 'triptychlaw08.FlashKeeps', WHERE WHAT IT READS IS OF BULK AT MOST 1048576: true; the input reads as it did. -/
def flashKeepsUptoRow : OpenClaim := { program := "ytdkfofogbogkcaa", sum := "34fe80b48a7a41455050508fda14a2fc47f0825ac81615be58d222a0babb48e7", func := "triptych/triptychlaw08.FlashKeeps", spec := "flashKeeps", inPlace := ["internal/abi.NoEscape", "internal/bytealg.MakeNoZero"], apart := false, narrowed := true }
def FlashKeepsUptoSaid : Prop := flashKeepsUptoRow.holds Try.pinned (OpenSpec.upto flashKeepsSpec)

/-- 'triptychlaw08.FlashWears', WHERE WHAT IT READS IS OF BULK AT MOST 1048576: true; the input reads as it did. -/
def flashWearsUptoRow : OpenClaim := { program := "ytdkfofogbogkcaa", sum := "34fe80b48a7a41455050508fda14a2fc47f0825ac81615be58d222a0babb48e7", func := "triptych/triptychlaw08.FlashWears", spec := "flashWears", inPlace := ["internal/abi.NoEscape", "internal/bytealg.MakeNoZero"], apart := false, narrowed := true }
def FlashWearsUptoSaid : Prop := flashWearsUptoRow.holds Try.pinned (OpenSpec.upto flashWearsSpec)

/-- 'triptychlaw08.FlashNone', WHERE WHAT IT READS IS OF BULK AT MOST 1048576: true; the input reads as it did. -/
def flashNoneUptoRow : OpenClaim := { program := "ytdkfofogbogkcaa", sum := "34fe80b48a7a41455050508fda14a2fc47f0825ac81615be58d222a0babb48e7", func := "triptych/triptychlaw08.FlashNone", spec := "flashNone", inPlace := ["internal/abi.NoEscape", "internal/bytealg.MakeNoZero"], apart := false, narrowed := true }
def FlashNoneUptoSaid : Prop := flashNoneUptoRow.holds Try.pinned (OpenSpec.upto flashNoneSpec)

/-- 'triptychlaw16.TallyLevels', WHERE WHAT IT READS IS OF BULK AT MOST 1048576: true; the input reads as it did. -/
def tallyLevelsUptoRow : OpenClaim := { program := "ytdkfofogbogkcaa", sum := "34fe80b48a7a41455050508fda14a2fc47f0825ac81615be58d222a0babb48e7", func := "triptych/triptychlaw16.TallyLevels", spec := "tallyLevels", inPlace := ["internal/abi.NoEscape", "internal/bytealg.MakeNoZero"], apart := false, narrowed := true }
def TallyLevelsUptoSaid : Prop := tallyLevelsUptoRow.holds Try.pinned (OpenSpec.upto tallyLevelsSpec)

/-- 'triptychlaw16.TallyNone', WHERE WHAT IT READS IS OF BULK AT MOST 1048576: true; the input reads as it did. -/
def tallyNoneUptoRow : OpenClaim := { program := "ytdkfofogbogkcaa", sum := "34fe80b48a7a41455050508fda14a2fc47f0825ac81615be58d222a0babb48e7", func := "triptych/triptychlaw16.TallyNone", spec := "tallyNone", inPlace := ["internal/abi.NoEscape", "internal/bytealg.MakeNoZero"], apart := false, narrowed := true }
def TallyNoneUptoSaid : Prop := tallyNoneUptoRow.holds Try.pinned (OpenSpec.upto tallyNoneSpec)

end Rows
end Go.Proofs.Ytdkfofogbogkcaa
