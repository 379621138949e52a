/-
  No cell of these rows narrows 'for every input' (looked for: loops, veiled, ifaces, maps, wideKeys, modest, calm, conditions, laid).
  DERIVED. THE GIVEN ROWS OF THIS SEAT. 7 by the template 'for every input the law returns true; each argument reads behind the call as it read before'; 0 by the template 'total and deterministic' (their statements: YtiailpbmmadaeaaTotals.lean).
  GIVEN WITH THE SEED: the statements are not yours to turn. If you find one false, say at which input.
  Laid BY PROGRAM, IN A SANDBOX (cutbox-rows.mjs): the forced cells as the released guide's own fill.sh prints them over the translation 029b198018b5c80c… (all of the seat's roots in one cut). By AI agents, Wed Nov 11 2026. No macro, syntax, notation, axiom, sorry.
-/
import Derived.Test.YtiailpbmmadaeaaChecked
import GoSem.Claim
import GoSem.ClaimJoined
import GoSem.ClaimMapViews
import Derived.JoinedTies
import Derived.KernelRfl
namespace Go.Proofs.Ytiailpbmmadaeaa
/- THE CELL 'sum', in the pinned program and in every row, IS THE sha256 OF THE DUMP (.gsa) THAT YtiailpbmmadaeaaProg.lean LOADS. Nothing in Lean hashes anything: it is a label: what it is worth is what the hold of that sum in a sandbox is worth. -/
noncomputable def Try.pinned : Pinned := { name := "ytiailpbmmadaeaa", sum := "029b198018b5c80cbdc76e7cd4a6a5235a33741b7dd2c3e8a84200d0075639ea", checked := Try.checked }
namespace Rows
def none {H : Type} : Left H := { results := [], args := [] }

/-- 'triptychlaw14.RecordVersions': WHATEVER THE INPUT: true; the input reads as it did. -/
def recordVersionsSpec : ChangeSpec := { name := "recordVersions", fn := fun _ => fun
  | [d1, d2, d3] => { results := [.lit (.bool true)], args := [d1, d2, d3] }
  | _ => none }
def recordVersionsRow : OpenClaim := { program := "ytiailpbmmadaeaa", sum := "029b198018b5c80cbdc76e7cd4a6a5235a33741b7dd2c3e8a84200d0075639ea", func := "triptych/triptychlaw14.RecordVersions", spec := "recordVersions", inPlace := ["internal/abi.NoEscape"], apart := false }
def RecordVersionsSaid : Prop := recordVersionsRow.holds Try.pinned (OpenSpec.ofChange recordVersionsSpec)

/-- ITS FALSE NEIGHBOUR: 'it returns false'. Refute it at one input. -/
def recordVersionsWrong : ChangeSpec := { name := "recordVersions", fn := fun _ => fun
  | [d1, d2, d3] => { results := [.lit (.bool false)], args := [d1, d2, d3] }
  | _ => none }
def RecordVersionsWrongFalsely : Prop := recordVersionsRow.holds Try.pinned (OpenSpec.ofChange recordVersionsWrong)

/-- 'triptychlaw10.TagTells': WHATEVER THE INPUT: true; the input reads as it did. -/
def tagTellsSpec : ChangeSpec := { name := "tagTells", fn := fun _ => fun
  | [d1, d2, d3] => { results := [.lit (.bool true)], args := [d1, d2, d3] }
  | _ => none }
def tagTellsRow : OpenClaim := { program := "ytiailpbmmadaeaa", sum := "029b198018b5c80cbdc76e7cd4a6a5235a33741b7dd2c3e8a84200d0075639ea", func := "triptych/triptychlaw10.TagTells", spec := "tagTells", inPlace := ["internal/abi.NoEscape", "internal/bytealg.MakeNoZero"], apart := false }
def TagTellsSaid : Prop := tagTellsRow.holds Try.pinned (OpenSpec.ofChange tagTellsSpec)

/-- ITS FALSE NEIGHBOUR: 'it returns false'. Refute it at one input. -/
def tagTellsWrong : ChangeSpec := { name := "tagTells", fn := fun _ => fun
  | [d1, d2, d3] => { results := [.lit (.bool false)], args := [d1, d2, d3] }
  | _ => none }
def TagTellsWrongFalsely : Prop := tagTellsRow.holds Try.pinned (OpenSpec.ofChange tagTellsWrong)

/-- 'triptychlaw14.RecordUnlike': WHATEVER THE INPUT: true; the input reads as it did. -/
def recordUnlikeSpec : ChangeSpec := { name := "recordUnlike", fn := fun _ => fun
  | [d1, d2, d3] => { results := [.lit (.bool true)], args := [d1, d2, d3] }
  | _ => none }
def recordUnlikeRow : OpenClaim := { program := "ytiailpbmmadaeaa", sum := "029b198018b5c80cbdc76e7cd4a6a5235a33741b7dd2c3e8a84200d0075639ea", func := "triptych/triptychlaw14.RecordUnlike", spec := "recordUnlike", inPlace := ["internal/abi.NoEscape"], unfollowed := true, recurses := true, apart := false }
def RecordUnlikeSaid : Prop := recordUnlikeRow.holds Try.pinned (OpenSpec.ofChange recordUnlikeSpec)

/-- ITS FALSE NEIGHBOUR: 'it returns false'. Refute it at one input. -/
def recordUnlikeWrong : ChangeSpec := { name := "recordUnlike", fn := fun _ => fun
  | [d1, d2, d3] => { results := [.lit (.bool false)], args := [d1, d2, d3] }
  | _ => none }
def RecordUnlikeWrongFalsely : Prop := recordUnlikeRow.holds Try.pinned (OpenSpec.ofChange recordUnlikeWrong)

/-- 'triptychlaw10.TagSeals': WHATEVER THE INPUT: true; the input reads as it did. -/
def tagSealsSpec : ChangeSpec := { name := "tagSeals", fn := fun _ => fun
  | [d1, d2] => { results := [.lit (.bool true)], args := [d1, d2] }
  | _ => none }
def tagSealsRow : OpenClaim := { program := "ytiailpbmmadaeaa", sum := "029b198018b5c80cbdc76e7cd4a6a5235a33741b7dd2c3e8a84200d0075639ea", func := "triptych/triptychlaw10.TagSeals", spec := "tagSeals", inPlace := ["internal/abi.NoEscape", "internal/bytealg.MakeNoZero"], apart := false }
def TagSealsSaid : Prop := tagSealsRow.holds Try.pinned (OpenSpec.ofChange tagSealsSpec)

/-- ITS FALSE NEIGHBOUR: 'it returns false'. Refute it at one input. -/
def tagSealsWrong : ChangeSpec := { name := "tagSeals", fn := fun _ => fun
  | [d1, d2] => { results := [.lit (.bool false)], args := [d1, d2] }
  | _ => none }
def TagSealsWrongFalsely : Prop := tagSealsRow.holds Try.pinned (OpenSpec.ofChange tagSealsWrong)

/-- 'triptychlaw10.TagSplits': WHATEVER THE INPUT: true; the input reads as it did. -/
def tagSplitsSpec : ChangeSpec := { name := "tagSplits", fn := fun _ => fun
  | [d1, d2, d3] => { results := [.lit (.bool true)], args := [d1, d2, d3] }
  | _ => none }
def tagSplitsRow : OpenClaim := { program := "ytiailpbmmadaeaa", sum := "029b198018b5c80cbdc76e7cd4a6a5235a33741b7dd2c3e8a84200d0075639ea", func := "triptych/triptychlaw10.TagSplits", spec := "tagSplits", inPlace := ["internal/abi.NoEscape", "internal/bytealg.MakeNoZero"], apart := false }
def TagSplitsSaid : Prop := tagSplitsRow.holds Try.pinned (OpenSpec.ofChange tagSplitsSpec)

/-- ITS FALSE NEIGHBOUR: 'it returns false'. Refute it at one input. -/
def tagSplitsWrong : ChangeSpec := { name := "tagSplits", fn := fun _ => fun
  | [d1, d2, d3] => { results := [.lit (.bool false)], args := [d1, d2, d3] }
  | _ => none }
def TagSplitsWrongFalsely : Prop := tagSplitsRow.holds Try.pinned (OpenSpec.ofChange tagSplitsWrong)

/-- 'triptychlaw14.RecordPuts': WHATEVER THE INPUT: true; the input reads as it did. -/
def recordPutsSpec : ChangeSpec := { name := "recordPuts", fn := fun _ => fun
  | [d1, d2] => { results := [.lit (.bool true)], args := [d1, d2] }
  | _ => none }
def recordPutsRow : OpenClaim := { program := "ytiailpbmmadaeaa", sum := "029b198018b5c80cbdc76e7cd4a6a5235a33741b7dd2c3e8a84200d0075639ea", func := "triptych/triptychlaw14.RecordPuts", spec := "recordPuts", inPlace := ["internal/abi.NoEscape", "internal/bytealg.MakeNoZero"], unfollowed := true, recurses := true, apart := false }
def RecordPutsSaid : Prop := recordPutsRow.holds Try.pinned (OpenSpec.ofChange recordPutsSpec)

/-- ITS FALSE NEIGHBOUR: 'it returns false'. Refute it at one input. -/
def recordPutsWrong : ChangeSpec := { name := "recordPuts", fn := fun _ => fun
  | [d1, d2] => { results := [.lit (.bool false)], args := [d1, d2] }
  | _ => none }
def RecordPutsWrongFalsely : Prop := recordPutsRow.holds Try.pinned (OpenSpec.ofChange recordPutsWrong)

/-- 'triptychlaw14.RecordTorn': WHATEVER THE INPUT: true; the input reads as it did. -/
def recordTornSpec : ChangeSpec := { name := "recordTorn", fn := fun _ => fun
  | [d1, d2] => { results := [.lit (.bool true)], args := [d1, d2] }
  | _ => none }
def recordTornRow : OpenClaim := { program := "ytiailpbmmadaeaa", sum := "029b198018b5c80cbdc76e7cd4a6a5235a33741b7dd2c3e8a84200d0075639ea", func := "triptych/triptychlaw14.RecordTorn", spec := "recordTorn", inPlace := ["internal/abi.NoEscape", "internal/bytealg.MakeNoZero"], unfollowed := true, recurses := true, apart := false }
def RecordTornSaid : Prop := recordTornRow.holds Try.pinned (OpenSpec.ofChange recordTornSpec)

/-- ITS FALSE NEIGHBOUR: 'it returns false'. Refute it at one input. -/
def recordTornWrong : ChangeSpec := { name := "recordTorn", fn := fun _ => fun
  | [d1, d2] => { results := [.lit (.bool false)], args := [d1, d2] }
  | _ => none }
def RecordTornWrongFalsely : Prop := recordTornRow.holds Try.pinned (OpenSpec.ofChange recordTornWrong)

/- THE SECOND FORM. 'bulk': how many values and letters a reading holds, each counted each time it is reached (what is shared counts as often as it is met; a slice's spare places count too). A statement '..UptoSaid' is the law's where the arguments, and the package variables that the reading takes, are together of bulk at most 1048576: NARROWER than '..Said'. Prove '..Said' where nothing that the law and all that it calls make is longer than what came in: it says more and counts as full. Else prove '..UptoSaid'. A law counts once. -/
mutual
def uptoBulk {H : Type} : DataW H → Nat
  | .lit (.string bytes) => bytes.length + 1
  | .lit _ => 1
  | .nil => 1
  | .ptr d => uptoBulk d + 1
  | .slice elems spare => uptoBulkAll elems + uptoBulkAll spare + 1
  | .agg parts => uptoBulkAll parts + 1
  | .iface _ d => uptoBulk d + 1
  | .map entries => uptoBulkEntries entries + 1
  | .held _ => 1
def uptoBulkAll {H : Type} : List (DataW H) → Nat
  | [] => 0
  | d :: r => uptoBulk d + uptoBulkAll r
def uptoBulkEntries {H : Type} : List (Lit × DataW H) → Nat
  | [] => 0
  | x :: r => uptoBulkEntry x + uptoBulkEntries r
def uptoBulkEntry {H : Type} : Lit × DataW H → Nat
  | (.string bytes, d) => bytes.length + uptoBulk d + 1
  | (_, d) => uptoBulk d + 1
 end
def uptoSmall : (H : Type) → List (DataW H) → Bool := fun _ ds => decide (uptoBulkAll ds ≤ 1048576)
def OpenSpec.upto (s : _root_.Go.ChangeSpec) : _root_.Go.OpenSpec := { _root_.Go.OpenSpec.ofChange s with cond := some uptoSmall }

/-- 'triptychlaw14.RecordVersions', WHERE WHAT IT READS IS OF BULK AT MOST 1048576: true; the input reads as it did. -/
def recordVersionsUptoRow : OpenClaim := { program := "ytiailpbmmadaeaa", sum := "029b198018b5c80cbdc76e7cd4a6a5235a33741b7dd2c3e8a84200d0075639ea", func := "triptych/triptychlaw14.RecordVersions", spec := "recordVersions", inPlace := ["internal/abi.NoEscape"], apart := false, narrowed := true }
def RecordVersionsUptoSaid : Prop := recordVersionsUptoRow.holds Try.pinned (OpenSpec.upto recordVersionsSpec)

/-- 'triptychlaw10.TagTells', WHERE WHAT IT READS IS OF BULK AT MOST 1048576: true; the input reads as it did. -/
def tagTellsUptoRow : OpenClaim := { program := "ytiailpbmmadaeaa", sum := "029b198018b5c80cbdc76e7cd4a6a5235a33741b7dd2c3e8a84200d0075639ea", func := "triptych/triptychlaw10.TagTells", spec := "tagTells", inPlace := ["internal/abi.NoEscape", "internal/bytealg.MakeNoZero"], apart := false, narrowed := true }
def TagTellsUptoSaid : Prop := tagTellsUptoRow.holds Try.pinned (OpenSpec.upto tagTellsSpec)

/-- 'triptychlaw14.RecordUnlike', WHERE WHAT IT READS IS OF BULK AT MOST 1048576: true; the input reads as it did. -/
def recordUnlikeUptoRow : OpenClaim := { program := "ytiailpbmmadaeaa", sum := "029b198018b5c80cbdc76e7cd4a6a5235a33741b7dd2c3e8a84200d0075639ea", func := "triptych/triptychlaw14.RecordUnlike", spec := "recordUnlike", inPlace := ["internal/abi.NoEscape"], unfollowed := true, recurses := true, apart := false, narrowed := true }
def RecordUnlikeUptoSaid : Prop := recordUnlikeUptoRow.holds Try.pinned (OpenSpec.upto recordUnlikeSpec)

/-- 'triptychlaw10.TagSeals', WHERE WHAT IT READS IS OF BULK AT MOST 1048576: true; the input reads as it did. -/
def tagSealsUptoRow : OpenClaim := { program := "ytiailpbmmadaeaa", sum := "029b198018b5c80cbdc76e7cd4a6a5235a33741b7dd2c3e8a84200d0075639ea", func := "triptych/triptychlaw10.TagSeals", spec := "tagSeals", inPlace := ["internal/abi.NoEscape", "internal/bytealg.MakeNoZero"], apart := false, narrowed := true }
def TagSealsUptoSaid : Prop := tagSealsUptoRow.holds Try.pinned (OpenSpec.upto tagSealsSpec)

/-- 'triptychlaw10.TagSplits', WHERE WHAT IT READS IS OF BULK AT MOST 1048576: true; the input reads as it did. -/
def tagSplitsUptoRow : OpenClaim := { program := "ytiailpbmmadaeaa", sum := "029b198018b5c80cbdc76e7cd4a6a5235a33741b7dd2c3e8a84200d0075639ea", func := "triptych/triptychlaw10.TagSplits", spec := "tagSplits", inPlace := ["internal/abi.NoEscape", "internal/bytealg.MakeNoZero"], apart := false, narrowed := true }
def TagSplitsUptoSaid : Prop := tagSplitsUptoRow.holds Try.pinned (OpenSpec.upto tagSplitsSpec)

/-- 'triptychlaw14.RecordPuts', WHERE WHAT IT READS IS OF BULK AT MOST 1048576: true; the input reads as it did. -/
def recordPutsUptoRow : OpenClaim := { program := "ytiailpbmmadaeaa", sum := "029b198018b5c80cbdc76e7cd4a6a5235a33741b7dd2c3e8a84200d0075639ea", func := "triptych/triptychlaw14.RecordPuts", spec := "recordPuts", inPlace := ["internal/abi.NoEscape", "internal/bytealg.MakeNoZero"], unfollowed := true, recurses := true, apart := false, narrowed := true }
def RecordPutsUptoSaid : Prop := recordPutsUptoRow.holds Try.pinned (OpenSpec.upto recordPutsSpec)

/-- 'triptychlaw14.RecordTorn', WHERE WHAT IT READS IS OF BULK AT MOST 1048576: true; the input reads as it did. -/
def recordTornUptoRow : OpenClaim := { program := "ytiailpbmmadaeaa", sum := "029b198018b5c80cbdc76e7cd4a6a5235a33741b7dd2c3e8a84200d0075639ea", func := "triptych/triptychlaw14.RecordTorn", spec := "recordTorn", inPlace := ["internal/abi.NoEscape", "internal/bytealg.MakeNoZero"], unfollowed := true, recurses := true, apart := false, narrowed := true }
def RecordTornUptoSaid : Prop := recordTornUptoRow.holds Try.pinned (OpenSpec.upto recordTornSpec)

end Rows
end Go.Proofs.Ytiailpbmmadaeaa
