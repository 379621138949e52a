/-
  No cell of these rows narrows 'for every input' (looked for: loops, veiled, ifaces, maps, wideKeys, modest, calm, conditions, laid).
  DERIVED. THE GIVEN ROWS OF THIS SEAT. 7 by the template 'for every input the law returns true; each argument reads behind the call as it read before'; 0 by the template 'total and deterministic' (their statements: YtgckhekikcdaiaaTotals.lean).
  GIVEN WITH THE SEED: the statements are not yours to turn. If you find one false, say at which input.
  Laid BY PROGRAM, IN A SANDBOX (cutbox-rows.mjs): the forced cells as the released guide's own fill.sh prints them over the translation 51db1b0a6ee61775… (all of the seat's roots in one cut). By AI agents, Wed Nov 11 2026. No macro, syntax, notation, axiom, sorry.
-/
import Derived.Test.YtgckhekikcdaiaaChecked
import GoSem.Claim
import GoSem.ClaimJoined
import GoSem.ClaimMapViews
import Derived.JoinedTies
import Derived.KernelRfl
namespace Go.Proofs.Ytgckhekikcdaiaa
/- THE CELL 'sum', in the pinned program and in every row, IS THE sha256 OF THE DUMP (.gsa) THAT YtgckhekikcdaiaaProg.lean LOADS. Nothing in Lean hashes anything: it is a label: what it is worth is what the hold of that sum in a sandbox is worth. -/
noncomputable def Try.pinned : Pinned := { name := "ytgckhekikcdaiaa", sum := "51db1b0a6ee61775b7de4ed3284a375eef021cf50e4b06fbfebbac6921044f60", checked := Try.checked }
namespace Rows
def none {H : Type} : Left H := { results := [], args := [] }

/-- 'triptychlaw06.RsEncodes': WHATEVER THE INPUT: true; the input reads as it did. -/
def rsEncodesSpec : ChangeSpec := { name := "rsEncodes", fn := fun _ => fun
  | [d1, d2, d3] => { results := [.lit (.bool true)], args := [d1, d2, d3] }
  | _ => none }
def rsEncodesRow : OpenClaim := { program := "ytgckhekikcdaiaa", sum := "51db1b0a6ee61775b7de4ed3284a375eef021cf50e4b06fbfebbac6921044f60", func := "triptych/triptychlaw06.RsEncodes", spec := "rsEncodes", unfollowed := true, recurses := true, apart := false }
def RsEncodesSaid : Prop := rsEncodesRow.holds Try.pinned (OpenSpec.ofChange rsEncodesSpec)

/-- ITS FALSE NEIGHBOUR: 'it returns false'. Refute it at one input. -/
def rsEncodesWrong : ChangeSpec := { name := "rsEncodes", fn := fun _ => fun
  | [d1, d2, d3] => { results := [.lit (.bool false)], args := [d1, d2, d3] }
  | _ => none }
def RsEncodesWrongFalsely : Prop := rsEncodesRow.holds Try.pinned (OpenSpec.ofChange rsEncodesWrong)

/-- 'triptychlaw05.PolyFits': WHATEVER THE INPUT: true; the input reads as it did. -/
def polyFitsSpec : ChangeSpec := { name := "polyFits", fn := fun _ => fun
  | [d1, d2] => { results := [.lit (.bool true)], args := [d1, d2] }
  | _ => none }
def polyFitsRow : OpenClaim := { program := "ytgckhekikcdaiaa", sum := "51db1b0a6ee61775b7de4ed3284a375eef021cf50e4b06fbfebbac6921044f60", func := "triptych/triptychlaw05.PolyFits", spec := "polyFits", unfollowed := true, recurses := true, apart := false }
def PolyFitsSaid : Prop := polyFitsRow.holds Try.pinned (OpenSpec.ofChange polyFitsSpec)

/-- ITS FALSE NEIGHBOUR: 'it returns false'. Refute it at one input. -/
def polyFitsWrong : ChangeSpec := { name := "polyFits", fn := fun _ => fun
  | [d1, d2] => { results := [.lit (.bool false)], args := [d1, d2] }
  | _ => none }
def PolyFitsWrongFalsely : Prop := polyFitsRow.holds Try.pinned (OpenSpec.ofChange polyFitsWrong)

/-- 'triptychlaw07.SolveMends': WHATEVER THE INPUT: true; the input reads as it did. -/
def solveMendsSpec : ChangeSpec := { name := "solveMends", fn := fun _ => fun
  | [d1, d2, d3] => { results := [.lit (.bool true)], args := [d1, d2, d3] }
  | _ => none }
def solveMendsRow : OpenClaim := { program := "ytgckhekikcdaiaa", sum := "51db1b0a6ee61775b7de4ed3284a375eef021cf50e4b06fbfebbac6921044f60", func := "triptych/triptychlaw07.SolveMends", spec := "solveMends", unfollowed := true, recurses := true, apart := false }
def SolveMendsSaid : Prop := solveMendsRow.holds Try.pinned (OpenSpec.ofChange solveMendsSpec)

/-- ITS FALSE NEIGHBOUR: 'it returns false'. Refute it at one input. -/
def solveMendsWrong : ChangeSpec := { name := "solveMends", fn := fun _ => fun
  | [d1, d2, d3] => { results := [.lit (.bool false)], args := [d1, d2, d3] }
  | _ => none }
def SolveMendsWrongFalsely : Prop := solveMendsRow.holds Try.pinned (OpenSpec.ofChange solveMendsWrong)

/-- 'triptychlaw07.SolveAgain': WHATEVER THE INPUT: true; the input reads as it did. -/
def solveAgainSpec : ChangeSpec := { name := "solveAgain", fn := fun _ => fun
  | [d1, d2, d3] => { results := [.lit (.bool true)], args := [d1, d2, d3] }
  | _ => none }
def solveAgainRow : OpenClaim := { program := "ytgckhekikcdaiaa", sum := "51db1b0a6ee61775b7de4ed3284a375eef021cf50e4b06fbfebbac6921044f60", func := "triptych/triptychlaw07.SolveAgain", spec := "solveAgain", unfollowed := true, recurses := true, apart := false }
def SolveAgainSaid : Prop := solveAgainRow.holds Try.pinned (OpenSpec.ofChange solveAgainSpec)

/-- ITS FALSE NEIGHBOUR: 'it returns false'. Refute it at one input. -/
def solveAgainWrong : ChangeSpec := { name := "solveAgain", fn := fun _ => fun
  | [d1, d2, d3] => { results := [.lit (.bool false)], args := [d1, d2, d3] }
  | _ => none }
def SolveAgainWrongFalsely : Prop := solveAgainRow.holds Try.pinned (OpenSpec.ofChange solveAgainWrong)

/-- 'triptychlaw07.SolveBack': WHATEVER THE INPUT: true; the input reads as it did. -/
def solveBackSpec : ChangeSpec := { name := "solveBack", fn := fun _ => fun
  | [d1, d2, d3] => { results := [.lit (.bool true)], args := [d1, d2, d3] }
  | _ => none }
def solveBackRow : OpenClaim := { program := "ytgckhekikcdaiaa", sum := "51db1b0a6ee61775b7de4ed3284a375eef021cf50e4b06fbfebbac6921044f60", func := "triptych/triptychlaw07.SolveBack", spec := "solveBack", unfollowed := true, recurses := true, apart := false }
def SolveBackSaid : Prop := solveBackRow.holds Try.pinned (OpenSpec.ofChange solveBackSpec)

/-- ITS FALSE NEIGHBOUR: 'it returns false'. Refute it at one input. -/
def solveBackWrong : ChangeSpec := { name := "solveBack", fn := fun _ => fun
  | [d1, d2, d3] => { results := [.lit (.bool false)], args := [d1, d2, d3] }
  | _ => none }
def SolveBackWrongFalsely : Prop := solveBackRow.holds Try.pinned (OpenSpec.ofChange solveBackWrong)

/-- 'triptychlaw07.SolveNone': WHATEVER THE INPUT: true; the input reads as it did. -/
def solveNoneSpec : ChangeSpec := { name := "solveNone", fn := fun _ => fun
  | [d1, d2] => { results := [.lit (.bool true)], args := [d1, d2] }
  | _ => none }
def solveNoneRow : OpenClaim := { program := "ytgckhekikcdaiaa", sum := "51db1b0a6ee61775b7de4ed3284a375eef021cf50e4b06fbfebbac6921044f60", func := "triptych/triptychlaw07.SolveNone", spec := "solveNone", unfollowed := true, recurses := true, apart := false }
def SolveNoneSaid : Prop := solveNoneRow.holds Try.pinned (OpenSpec.ofChange solveNoneSpec)

/-- ITS FALSE NEIGHBOUR: 'it returns false'. Refute it at one input. -/
def solveNoneWrong : ChangeSpec := { name := "solveNone", fn := fun _ => fun
  | [d1, d2] => { results := [.lit (.bool false)], args := [d1, d2] }
  | _ => none }
def SolveNoneWrongFalsely : Prop := solveNoneRow.holds Try.pinned (OpenSpec.ofChange solveNoneWrong)

/-- 'triptychlaw07.SolveOther': WHATEVER THE INPUT: true; the input reads as it did. -/
def solveOtherSpec : ChangeSpec := { name := "solveOther", fn := fun _ => fun
  | [d1, d2, d3] => { results := [.lit (.bool true)], args := [d1, d2, d3] }
  | _ => none }
def solveOtherRow : OpenClaim := { program := "ytgckhekikcdaiaa", sum := "51db1b0a6ee61775b7de4ed3284a375eef021cf50e4b06fbfebbac6921044f60", func := "triptych/triptychlaw07.SolveOther", spec := "solveOther", unfollowed := true, recurses := true, apart := false }
def SolveOtherSaid : Prop := solveOtherRow.holds Try.pinned (OpenSpec.ofChange solveOtherSpec)

/-- ITS FALSE NEIGHBOUR: 'it returns false'. Refute it at one input. -/
def solveOtherWrong : ChangeSpec := { name := "solveOther", fn := fun _ => fun
  | [d1, d2, d3] => { results := [.lit (.bool false)], args := [d1, d2, d3] }
  | _ => none }
def SolveOtherWrongFalsely : Prop := solveOtherRow.holds Try.pinned (OpenSpec.ofChange solveOtherWrong)

/- THE SECOND FORM. 'bulk': how many values and letters a reading holds, each counted each time it is reached (what is shared counts as often as it is met; a slice's spare places count too). A statement '..UptoSaid' is the law's where the arguments, and the package variables that the reading takes, are together of bulk at most 1048576: NARROWER than '..Said'. Prove '..Said' where nothing that the law and all that it calls make is longer than what came in: it says more and counts as full. Else prove '..UptoSaid'. A law counts once. -/
mutual
def uptoBulk {H : Type} : DataW H → Nat
  | .lit (.string bytes) => bytes.length + 1
  | .lit _ => 1
  | .nil => 1
  | .ptr d => uptoBulk d + 1
  | .slice elems spare => uptoBulkAll elems + uptoBulkAll spare + 1
  | .agg parts => uptoBulkAll parts + 1
  | .iface _ d => uptoBulk d + 1
  | .map entries => uptoBulkEntries entries + 1
  | .held _ => 1
def uptoBulkAll {H : Type} : List (DataW H) → Nat
  | [] => 0
  | d :: r => uptoBulk d + uptoBulkAll r
def uptoBulkEntries {H : Type} : List (Lit × DataW H) → Nat
  | [] => 0
  | x :: r => uptoBulkEntry x + uptoBulkEntries r
def uptoBulkEntry {H : Type} : Lit × DataW H → Nat
  | (.string bytes, d) => bytes.length + uptoBulk d + 1
  | (_, d) => uptoBulk d + 1
 end
def uptoSmall : (H : Type) → List (DataW H) → Bool := fun _ ds => decide (uptoBulkAll ds ≤ 1048576)
def OpenSpec.upto (s : _root_.Go.ChangeSpec) : _root_.Go.OpenSpec := { _root_.Go.OpenSpec.ofChange s with cond := some uptoSmall }

/-- 'triptychlaw06.RsEncodes', WHERE WHAT IT READS IS OF BULK AT MOST 1048576: true; the input reads as it did. -/
def rsEncodesUptoRow : OpenClaim := { program := "ytgckhekikcdaiaa", sum := "51db1b0a6ee61775b7de4ed3284a375eef021cf50e4b06fbfebbac6921044f60", func := "triptych/triptychlaw06.RsEncodes", spec := "rsEncodes", unfollowed := true, recurses := true, apart := false, narrowed := true }
def RsEncodesUptoSaid : Prop := rsEncodesUptoRow.holds Try.pinned (OpenSpec.upto rsEncodesSpec)

/-- 'triptychlaw05.PolyFits', WHERE WHAT IT READS IS OF BULK AT MOST 1048576: true; the input reads as it did. -/
def polyFitsUptoRow : OpenClaim := { program := "ytgckhekikcdaiaa", sum := "51db1b0a6ee61775b7de4ed3284a375eef021cf50e4b06fbfebbac6921044f60", func := "triptych/triptychlaw05.PolyFits", spec := "polyFits", unfollowed := true, recurses := true, apart := false, narrowed := true }
def PolyFitsUptoSaid : Prop := polyFitsUptoRow.holds Try.pinned (OpenSpec.upto polyFitsSpec)

/-- 'triptychlaw07.SolveMends', WHERE WHAT IT READS IS OF BULK AT MOST 1048576: true; the input reads as it did. -/
def solveMendsUptoRow : OpenClaim := { program := "ytgckhekikcdaiaa", sum := "51db1b0a6ee61775b7de4ed3284a375eef021cf50e4b06fbfebbac6921044f60", func := "triptych/triptychlaw07.SolveMends", spec := "solveMends", unfollowed := true, recurses := true, apart := false, narrowed := true }
def SolveMendsUptoSaid : Prop := solveMendsUptoRow.holds Try.pinned (OpenSpec.upto solveMendsSpec)

/-- 'triptychlaw07.SolveAgain', WHERE WHAT IT READS IS OF BULK AT MOST 1048576: true; the input reads as it did. -/
def solveAgainUptoRow : OpenClaim := { program := "ytgckhekikcdaiaa", sum := "51db1b0a6ee61775b7de4ed3284a375eef021cf50e4b06fbfebbac6921044f60", func := "triptych/triptychlaw07.SolveAgain", spec := "solveAgain", unfollowed := true, recurses := true, apart := false, narrowed := true }
def SolveAgainUptoSaid : Prop := solveAgainUptoRow.holds Try.pinned (OpenSpec.upto solveAgainSpec)

/-- 'triptychlaw07.SolveBack', WHERE WHAT IT READS IS OF BULK AT MOST 1048576: true; the input reads as it did. -/
def solveBackUptoRow : OpenClaim := { program := "ytgckhekikcdaiaa", sum := "51db1b0a6ee61775b7de4ed3284a375eef021cf50e4b06fbfebbac6921044f60", func := "triptych/triptychlaw07.SolveBack", spec := "solveBack", unfollowed := true, recurses := true, apart := false, narrowed := true }
def SolveBackUptoSaid : Prop := solveBackUptoRow.holds Try.pinned (OpenSpec.upto solveBackSpec)

/-- 'triptychlaw07.SolveNone', WHERE WHAT IT READS IS OF BULK AT MOST 1048576: true; the input reads as it did. -/
def solveNoneUptoRow : OpenClaim := { program := "ytgckhekikcdaiaa", sum := "51db1b0a6ee61775b7de4ed3284a375eef021cf50e4b06fbfebbac6921044f60", func := "triptych/triptychlaw07.SolveNone", spec := "solveNone", unfollowed := true, recurses := true, apart := false, narrowed := true }
def SolveNoneUptoSaid : Prop := solveNoneUptoRow.holds Try.pinned (OpenSpec.upto solveNoneSpec)

/-- 'triptychlaw07.SolveOther', WHERE WHAT IT READS IS OF BULK AT MOST 1048576: true; the input reads as it did. -/
def solveOtherUptoRow : OpenClaim := { program := "ytgckhekikcdaiaa", sum := "51db1b0a6ee61775b7de4ed3284a375eef021cf50e4b06fbfebbac6921044f60", func := "triptych/triptychlaw07.SolveOther", spec := "solveOther", unfollowed := true, recurses := true, apart := false, narrowed := true }
def SolveOtherUptoSaid : Prop := solveOtherUptoRow.holds Try.pinned (OpenSpec.upto solveOtherSpec)

end Rows
end Go.Proofs.Ytgckhekikcdaiaa
