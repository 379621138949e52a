/-
  No cell of these rows narrows 'for every input' (looked for: loops, veiled, ifaces, maps, wideKeys, modest, calm, conditions, laid).
  DERIVED. THE GIVEN ROWS OF THIS SEAT. 13 by the template 'for every input the law returns true; each argument reads behind the call as it read before'; 0 by the template 'total and deterministic' (their statements: YtlipedigmokgbaaTotals.lean).
  GIVEN WITH THE SEED: the statements are not yours to turn. If you find one false, say at which input.
  Laid BY PROGRAM, IN A SANDBOX (cutbox-rows.mjs): the forced cells as the released guide's own fill.sh prints them over the translation 76f72bbfc01f4ea1… (all of the seat's roots in one cut). By AI agents, Wed Nov 11 2026. No macro, syntax, notation, axiom, sorry.
-/
import Derived.Test.YtlipedigmokgbaaChecked
import GoSem.Claim
import GoSem.ClaimJoined
import GoSem.ClaimMapViews
import Derived.JoinedTies
import Derived.KernelRfl
namespace Go.Proofs.Ytlipedigmokgbaa
/- THE CELL 'sum', in the pinned program and in every row, IS THE sha256 OF THE DUMP (.gsa) THAT YtlipedigmokgbaaProg.lean LOADS. Nothing in Lean hashes anything: it is a label: what it is worth is what the hold of that sum in a sandbox is worth. -/
noncomputable def Try.pinned : Pinned := { name := "ytlipedigmokgbaa", sum := "76f72bbfc01f4ea1d4d6abf732a80c612a69aa125c93f2ce341930dadbe03ed9", checked := Try.checked }
namespace Rows
def none {H : Type} : Left H := { results := [], args := [] }

/-- 'triptychlaw05.PolySums': WHATEVER THE INPUT: true; the input reads as it did. -/
def polySumsSpec : ChangeSpec := { name := "polySums", fn := fun _ => fun
  | [d] => { results := [.lit (.bool true)], args := [d] }
  | _ => none }
def polySumsRow : OpenClaim := { program := "ytlipedigmokgbaa", sum := "76f72bbfc01f4ea1d4d6abf732a80c612a69aa125c93f2ce341930dadbe03ed9", func := "triptych/triptychlaw05.PolySums", spec := "polySums", unfollowed := true, recurses := true, apart := false }
def PolySumsSaid : Prop := polySumsRow.holds Try.pinned (OpenSpec.ofChange polySumsSpec)

/-- ITS FALSE NEIGHBOUR: 'it returns false'. Refute it at one input. -/
def polySumsWrong : ChangeSpec := { name := "polySums", fn := fun _ => fun
  | [d] => { results := [.lit (.bool false)], args := [d] }
  | _ => none }
def PolySumsWrongFalsely : Prop := polySumsRow.holds Try.pinned (OpenSpec.ofChange polySumsWrong)

/-- 'triptychlaw05.PolyRoots': WHATEVER THE INPUT: true; the input reads as it did. -/
def polyRootsSpec : ChangeSpec := { name := "polyRoots", fn := fun _ => fun
  | [d1, d2] => { results := [.lit (.bool true)], args := [d1, d2] }
  | _ => none }
def polyRootsRow : OpenClaim := { program := "ytlipedigmokgbaa", sum := "76f72bbfc01f4ea1d4d6abf732a80c612a69aa125c93f2ce341930dadbe03ed9", func := "triptych/triptychlaw05.PolyRoots", spec := "polyRoots", unfollowed := true, recurses := true, apart := false }
def PolyRootsSaid : Prop := polyRootsRow.holds Try.pinned (OpenSpec.ofChange polyRootsSpec)

/-- ITS FALSE NEIGHBOUR: 'it returns false'. Refute it at one input. -/
def polyRootsWrong : ChangeSpec := { name := "polyRoots", fn := fun _ => fun
  | [d1, d2] => { results := [.lit (.bool false)], args := [d1, d2] }
  | _ => none }
def PolyRootsWrongFalsely : Prop := polyRootsRow.holds Try.pinned (OpenSpec.ofChange polyRootsWrong)

/-- 'triptychlaw05.PolyValues': WHATEVER THE INPUT: true; the input reads as it did. -/
def polyValuesSpec : ChangeSpec := { name := "polyValues", fn := fun _ => fun
  | [d1, d2, d3] => { results := [.lit (.bool true)], args := [d1, d2, d3] }
  | _ => none }
def polyValuesRow : OpenClaim := { program := "ytlipedigmokgbaa", sum := "76f72bbfc01f4ea1d4d6abf732a80c612a69aa125c93f2ce341930dadbe03ed9", func := "triptych/triptychlaw05.PolyValues", spec := "polyValues", unfollowed := true, recurses := true, apart := false }
def PolyValuesSaid : Prop := polyValuesRow.holds Try.pinned (OpenSpec.ofChange polyValuesSpec)

/-- ITS FALSE NEIGHBOUR: 'it returns false'. Refute it at one input. -/
def polyValuesWrong : ChangeSpec := { name := "polyValues", fn := fun _ => fun
  | [d1, d2, d3] => { results := [.lit (.bool false)], args := [d1, d2, d3] }
  | _ => none }
def PolyValuesWrongFalsely : Prop := polyValuesRow.holds Try.pinned (OpenSpec.ofChange polyValuesWrong)

/-- 'triptychlaw05.PolyDivides': WHATEVER THE INPUT: true; the input reads as it did. -/
def polyDividesSpec : ChangeSpec := { name := "polyDivides", fn := fun _ => fun
  | [d1, d2] => { results := [.lit (.bool true)], args := [d1, d2] }
  | _ => none }
def polyDividesRow : OpenClaim := { program := "ytlipedigmokgbaa", sum := "76f72bbfc01f4ea1d4d6abf732a80c612a69aa125c93f2ce341930dadbe03ed9", func := "triptych/triptychlaw05.PolyDivides", spec := "polyDivides", unfollowed := true, recurses := true, apart := false }
def PolyDividesSaid : Prop := polyDividesRow.holds Try.pinned (OpenSpec.ofChange polyDividesSpec)

/-- ITS FALSE NEIGHBOUR: 'it returns false'. Refute it at one input. -/
def polyDividesWrong : ChangeSpec := { name := "polyDivides", fn := fun _ => fun
  | [d1, d2] => { results := [.lit (.bool false)], args := [d1, d2] }
  | _ => none }
def PolyDividesWrongFalsely : Prop := polyDividesRow.holds Try.pinned (OpenSpec.ofChange polyDividesWrong)

/-- 'triptychlaw05.PolyTimes': WHATEVER THE INPUT: true; the input reads as it did. -/
def polyTimesSpec : ChangeSpec := { name := "polyTimes", fn := fun _ => fun
  | [d1, d2, d3] => { results := [.lit (.bool true)], args := [d1, d2, d3] }
  | _ => none }
def polyTimesRow : OpenClaim := { program := "ytlipedigmokgbaa", sum := "76f72bbfc01f4ea1d4d6abf732a80c612a69aa125c93f2ce341930dadbe03ed9", func := "triptych/triptychlaw05.PolyTimes", spec := "polyTimes", unfollowed := true, recurses := true, apart := false }
def PolyTimesSaid : Prop := polyTimesRow.holds Try.pinned (OpenSpec.ofChange polyTimesSpec)

/-- ITS FALSE NEIGHBOUR: 'it returns false'. Refute it at one input. -/
def polyTimesWrong : ChangeSpec := { name := "polyTimes", fn := fun _ => fun
  | [d1, d2, d3] => { results := [.lit (.bool false)], args := [d1, d2, d3] }
  | _ => none }
def PolyTimesWrongFalsely : Prop := polyTimesRow.holds Try.pinned (OpenSpec.ofChange polyTimesWrong)

/-- 'triptychlaw05.PolyGcds': WHATEVER THE INPUT: true; the input reads as it did. -/
def polyGcdsSpec : ChangeSpec := { name := "polyGcds", fn := fun _ => fun
  | [d1, d2] => { results := [.lit (.bool true)], args := [d1, d2] }
  | _ => none }
def polyGcdsRow : OpenClaim := { program := "ytlipedigmokgbaa", sum := "76f72bbfc01f4ea1d4d6abf732a80c612a69aa125c93f2ce341930dadbe03ed9", func := "triptych/triptychlaw05.PolyGcds", spec := "polyGcds", unfollowed := true, recurses := true, apart := false }
def PolyGcdsSaid : Prop := polyGcdsRow.holds Try.pinned (OpenSpec.ofChange polyGcdsSpec)

/-- ITS FALSE NEIGHBOUR: 'it returns false'. Refute it at one input. -/
def polyGcdsWrong : ChangeSpec := { name := "polyGcds", fn := fun _ => fun
  | [d1, d2] => { results := [.lit (.bool false)], args := [d1, d2] }
  | _ => none }
def PolyGcdsWrongFalsely : Prop := polyGcdsRow.holds Try.pinned (OpenSpec.ofChange polyGcdsWrong)

/-- 'triptychlaw05.PolyNone': WHATEVER THE INPUT: true; the input reads as it did. -/
def polyNoneSpec : ChangeSpec := { name := "polyNone", fn := fun _ => fun
  | [d1, d2] => { results := [.lit (.bool true)], args := [d1, d2] }
  | _ => none }
def polyNoneRow : OpenClaim := { program := "ytlipedigmokgbaa", sum := "76f72bbfc01f4ea1d4d6abf732a80c612a69aa125c93f2ce341930dadbe03ed9", func := "triptych/triptychlaw05.PolyNone", spec := "polyNone", unfollowed := true, recurses := true, apart := false }
def PolyNoneSaid : Prop := polyNoneRow.holds Try.pinned (OpenSpec.ofChange polyNoneSpec)

/-- ITS FALSE NEIGHBOUR: 'it returns false'. Refute it at one input. -/
def polyNoneWrong : ChangeSpec := { name := "polyNone", fn := fun _ => fun
  | [d1, d2] => { results := [.lit (.bool false)], args := [d1, d2] }
  | _ => none }
def PolyNoneWrongFalsely : Prop := polyNoneRow.holds Try.pinned (OpenSpec.ofChange polyNoneWrong)

/-- 'triptychlaw06.RsValues': WHATEVER THE INPUT: true; the input reads as it did. -/
def rsValuesSpec : ChangeSpec := { name := "rsValues", fn := fun _ => fun
  | [d1, d2, d3] => { results := [.lit (.bool true)], args := [d1, d2, d3] }
  | _ => none }
def rsValuesRow : OpenClaim := { program := "ytlipedigmokgbaa", sum := "76f72bbfc01f4ea1d4d6abf732a80c612a69aa125c93f2ce341930dadbe03ed9", func := "triptych/triptychlaw06.RsValues", spec := "rsValues", unfollowed := true, recurses := true, apart := false }
def RsValuesSaid : Prop := rsValuesRow.holds Try.pinned (OpenSpec.ofChange rsValuesSpec)

/-- ITS FALSE NEIGHBOUR: 'it returns false'. Refute it at one input. -/
def rsValuesWrong : ChangeSpec := { name := "rsValues", fn := fun _ => fun
  | [d1, d2, d3] => { results := [.lit (.bool false)], args := [d1, d2, d3] }
  | _ => none }
def RsValuesWrongFalsely : Prop := rsValuesRow.holds Try.pinned (OpenSpec.ofChange rsValuesWrong)

/-- 'triptychlaw06.RsFar': WHATEVER THE INPUT: true; the input reads as it did. -/
def rsFarSpec : ChangeSpec := { name := "rsFar", fn := fun _ => fun
  | [d1, d2, d3] => { results := [.lit (.bool true)], args := [d1, d2, d3] }
  | _ => none }
def rsFarRow : OpenClaim := { program := "ytlipedigmokgbaa", sum := "76f72bbfc01f4ea1d4d6abf732a80c612a69aa125c93f2ce341930dadbe03ed9", func := "triptych/triptychlaw06.RsFar", spec := "rsFar", unfollowed := true, recurses := true, apart := false }
def RsFarSaid : Prop := rsFarRow.holds Try.pinned (OpenSpec.ofChange rsFarSpec)

/-- ITS FALSE NEIGHBOUR: 'it returns false'. Refute it at one input. -/
def rsFarWrong : ChangeSpec := { name := "rsFar", fn := fun _ => fun
  | [d1, d2, d3] => { results := [.lit (.bool false)], args := [d1, d2, d3] }
  | _ => none }
def RsFarWrongFalsely : Prop := rsFarRow.holds Try.pinned (OpenSpec.ofChange rsFarWrong)

/-- 'triptychlaw06.RsAny': WHATEVER THE INPUT: true; the input reads as it did. -/
def rsAnySpec : ChangeSpec := { name := "rsAny", fn := fun _ => fun
  | [d1, d2, d3] => { results := [.lit (.bool true)], args := [d1, d2, d3] }
  | _ => none }
def rsAnyRow : OpenClaim := { program := "ytlipedigmokgbaa", sum := "76f72bbfc01f4ea1d4d6abf732a80c612a69aa125c93f2ce341930dadbe03ed9", func := "triptych/triptychlaw06.RsAny", spec := "rsAny", unfollowed := true, recurses := true, apart := false }
def RsAnySaid : Prop := rsAnyRow.holds Try.pinned (OpenSpec.ofChange rsAnySpec)

/-- ITS FALSE NEIGHBOUR: 'it returns false'. Refute it at one input. -/
def rsAnyWrong : ChangeSpec := { name := "rsAny", fn := fun _ => fun
  | [d1, d2, d3] => { results := [.lit (.bool false)], args := [d1, d2, d3] }
  | _ => none }
def RsAnyWrongFalsely : Prop := rsAnyRow.holds Try.pinned (OpenSpec.ofChange rsAnyWrong)

/-- 'triptychlaw06.RsEncodes': WHATEVER THE INPUT: true; the input reads as it did. -/
def rsEncodesSpec : ChangeSpec := { name := "rsEncodes", fn := fun _ => fun
  | [d1, d2, d3] => { results := [.lit (.bool true)], args := [d1, d2, d3] }
  | _ => none }
def rsEncodesRow : OpenClaim := { program := "ytlipedigmokgbaa", sum := "76f72bbfc01f4ea1d4d6abf732a80c612a69aa125c93f2ce341930dadbe03ed9", func := "triptych/triptychlaw06.RsEncodes", spec := "rsEncodes", unfollowed := true, recurses := true, apart := false }
def RsEncodesSaid : Prop := rsEncodesRow.holds Try.pinned (OpenSpec.ofChange rsEncodesSpec)

/-- ITS FALSE NEIGHBOUR: 'it returns false'. Refute it at one input. -/
def rsEncodesWrong : ChangeSpec := { name := "rsEncodes", fn := fun _ => fun
  | [d1, d2, d3] => { results := [.lit (.bool false)], args := [d1, d2, d3] }
  | _ => none }
def RsEncodesWrongFalsely : Prop := rsEncodesRow.holds Try.pinned (OpenSpec.ofChange rsEncodesWrong)

/-- 'triptychlaw06.RsNone': WHATEVER THE INPUT: true; the input reads as it did. -/
def rsNoneSpec : ChangeSpec := { name := "rsNone", fn := fun _ => fun
  | [d] => { results := [.lit (.bool true)], args := [d] }
  | _ => none }
def rsNoneRow : OpenClaim := { program := "ytlipedigmokgbaa", sum := "76f72bbfc01f4ea1d4d6abf732a80c612a69aa125c93f2ce341930dadbe03ed9", func := "triptych/triptychlaw06.RsNone", spec := "rsNone", unfollowed := true, recurses := true, apart := false }
def RsNoneSaid : Prop := rsNoneRow.holds Try.pinned (OpenSpec.ofChange rsNoneSpec)

/-- ITS FALSE NEIGHBOUR: 'it returns false'. Refute it at one input. -/
def rsNoneWrong : ChangeSpec := { name := "rsNone", fn := fun _ => fun
  | [d] => { results := [.lit (.bool false)], args := [d] }
  | _ => none }
def RsNoneWrongFalsely : Prop := rsNoneRow.holds Try.pinned (OpenSpec.ofChange rsNoneWrong)

/-- 'triptychlaw05.PolyFits': WHATEVER THE INPUT: true; the input reads as it did. -/
def polyFitsSpec : ChangeSpec := { name := "polyFits", fn := fun _ => fun
  | [d1, d2] => { results := [.lit (.bool true)], args := [d1, d2] }
  | _ => none }
def polyFitsRow : OpenClaim := { program := "ytlipedigmokgbaa", sum := "76f72bbfc01f4ea1d4d6abf732a80c612a69aa125c93f2ce341930dadbe03ed9", func := "triptych/triptychlaw05.PolyFits", spec := "polyFits", unfollowed := true, recurses := true, apart := false }
def PolyFitsSaid : Prop := polyFitsRow.holds Try.pinned (OpenSpec.ofChange polyFitsSpec)

/-- ITS FALSE NEIGHBOUR: 'it returns false'. Refute it at one input. -/
def polyFitsWrong : ChangeSpec := { name := "polyFits", fn := fun _ => fun
  | [d1, d2] => { results := [.lit (.bool false)], args := [d1, d2] }
  | _ => none }
def PolyFitsWrongFalsely : Prop := polyFitsRow.holds Try.pinned (OpenSpec.ofChange polyFitsWrong)

/- THE SECOND FORM. 'bulk': how many values and letters a reading holds, each counted each time it is reached (what is shared counts as often as it is met; a slice's spare places count too). A statement '..UptoSaid' is the law's where the arguments, and the package variables that the reading takes, are together of bulk at most 1048576: NARROWER than '..Said'. Prove '..Said' where nothing that the law and all that it calls make is longer than what came in: it says more and counts as full. Else prove '..UptoSaid'. A law counts once. -/
mutual
def uptoBulk {H : Type} : DataW H → Nat
  | .lit (.string bytes) => bytes.length + 1
  | .lit _ => 1
  | .nil => 1
  | .ptr d => uptoBulk d + 1
  | .slice elems spare => uptoBulkAll elems + uptoBulkAll spare + 1
  | .agg parts => uptoBulkAll parts + 1
  | .iface _ d => uptoBulk d + 1
  | .map entries => uptoBulkEntries entries + 1
  | .held _ => 1
def uptoBulkAll {H : Type} : List (DataW H) → Nat
  | [] => 0
  | d :: r => uptoBulk d + uptoBulkAll r
def uptoBulkEntries {H : Type} : List (Lit × DataW H) → Nat
  | [] => 0
  | x :: r => uptoBulkEntry x + uptoBulkEntries r
def uptoBulkEntry {H : Type} : Lit × DataW H → Nat
  | (.string bytes, d) => bytes.length + uptoBulk d + 1
  | (_, d) => uptoBulk d + 1
 end
def uptoSmall : (H : Type) → List (DataW H) → Bool := fun _ ds => decide (uptoBulkAll ds ≤ 1048576)
def OpenSpec.upto (s : _root_.Go.ChangeSpec) : _root_.Go.OpenSpec := { _root_.Go.OpenSpec.ofChange s with cond := some uptoSmall }

/-- 'triptychlaw05.PolySums', WHERE WHAT IT READS IS OF BULK AT MOST 1048576: true; the input reads as it did. -/
def polySumsUptoRow : OpenClaim := { program := "ytlipedigmokgbaa", sum := "76f72bbfc01f4ea1d4d6abf732a80c612a69aa125c93f2ce341930dadbe03ed9", func := "triptych/triptychlaw05.PolySums", spec := "polySums", unfollowed := true, recurses := true, apart := false, narrowed := true }
def PolySumsUptoSaid : Prop := polySumsUptoRow.holds Try.pinned (OpenSpec.upto polySumsSpec)

/-- 'triptychlaw05.PolyRoots', WHERE WHAT IT READS IS OF BULK AT MOST 1048576: true; the input reads as it did. -/
def polyRootsUptoRow : OpenClaim := { program := "ytlipedigmokgbaa", sum := "76f72bbfc01f4ea1d4d6abf732a80c612a69aa125c93f2ce341930dadbe03ed9", func := "triptych/triptychlaw05.PolyRoots", spec := "polyRoots", unfollowed := true, recurses := true, apart := false, narrowed := true }
def PolyRootsUptoSaid : Prop := polyRootsUptoRow.holds Try.pinned (OpenSpec.upto polyRootsSpec)

/-- 'triptychlaw05.PolyValues', WHERE WHAT IT READS IS OF BULK AT MOST 1048576: true; the input reads as it did. -/
def polyValuesUptoRow : OpenClaim := { program := "ytlipedigmokgbaa", sum := "76f72bbfc01f4ea1d4d6abf732a80c612a69aa125c93f2ce341930dadbe03ed9", func := "triptych/triptychlaw05.PolyValues", spec := "polyValues", unfollowed := true, recurses := true, apart := false, narrowed := true }
def PolyValuesUptoSaid : Prop := polyValuesUptoRow.holds Try.pinned (OpenSpec.upto polyValuesSpec)

/-- 'triptychlaw05.PolyDivides', WHERE WHAT IT READS IS OF BULK AT MOST 1048576: true; the input reads as it did. -/
def polyDividesUptoRow : OpenClaim := { program := "ytlipedigmokgbaa", sum := "76f72bbfc01f4ea1d4d6abf732a80c612a69aa125c93f2ce341930dadbe03ed9", func := "triptych/triptychlaw05.PolyDivides", spec := "polyDivides", unfollowed := true, recurses := true, apart := false, narrowed := true }
def PolyDividesUptoSaid : Prop := polyDividesUptoRow.holds Try.pinned (OpenSpec.upto polyDividesSpec)

/-- 'triptychlaw05.PolyTimes', WHERE WHAT IT READS IS OF BULK AT MOST 1048576: true; the input reads as it did. -/
def polyTimesUptoRow : OpenClaim := { program := "ytlipedigmokgbaa", sum := "76f72bbfc01f4ea1d4d6abf732a80c612a69aa125c93f2ce341930dadbe03ed9", func := "triptych/triptychlaw05.PolyTimes", spec := "polyTimes", unfollowed := true, recurses := true, apart := false, narrowed := true }
def PolyTimesUptoSaid : Prop := polyTimesUptoRow.holds Try.pinned (OpenSpec.upto polyTimesSpec)

/-- 'triptychlaw05.PolyGcds', WHERE WHAT IT READS IS OF BULK AT MOST 1048576: true; the input reads as it did. -/
def polyGcdsUptoRow : OpenClaim := { program := "ytlipedigmokgbaa", sum := "76f72bbfc01f4ea1d4d6abf732a80c612a69aa125c93f2ce341930dadbe03ed9", func := "triptych/triptychlaw05.PolyGcds", spec := "polyGcds", unfollowed := true, recurses := true, apart := false, narrowed := true }
def PolyGcdsUptoSaid : Prop := polyGcdsUptoRow.holds Try.pinned (OpenSpec.upto polyGcdsSpec)

/-- 'triptychlaw05.PolyNone', WHERE WHAT IT READS IS OF BULK AT MOST 1048576: true; the input reads as it did. -/
def polyNoneUptoRow : OpenClaim := { program := "ytlipedigmokgbaa", sum := "76f72bbfc01f4ea1d4d6abf732a80c612a69aa125c93f2ce341930dadbe03ed9", func := "triptych/triptychlaw05.PolyNone", spec := "polyNone", unfollowed := true, recurses := true, apart := false, narrowed := true }
def PolyNoneUptoSaid : Prop := polyNoneUptoRow.holds Try.pinned (OpenSpec.upto polyNoneSpec)

/-- 'triptychlaw06.RsValues', WHERE WHAT IT READS IS OF BULK AT MOST 1048576: true; the input reads as it did. -/
def rsValuesUptoRow : OpenClaim := { program := "ytlipedigmokgbaa", sum := "76f72bbfc01f4ea1d4d6abf732a80c612a69aa125c93f2ce341930dadbe03ed9", func := "triptych/triptychlaw06.RsValues", spec := "rsValues", unfollowed := true, recurses := true, apart := false, narrowed := true }
def RsValuesUptoSaid : Prop := rsValuesUptoRow.holds Try.pinned (OpenSpec.upto rsValuesSpec)

/-- 'triptychlaw06.RsFar', WHERE WHAT IT READS IS OF BULK AT MOST 1048576: true; the input reads as it did. -/
def rsFarUptoRow : OpenClaim := { program := "ytlipedigmokgbaa", sum := "76f72bbfc01f4ea1d4d6abf732a80c612a69aa125c93f2ce341930dadbe03ed9", func := "triptych/triptychlaw06.RsFar", spec := "rsFar", unfollowed := true, recurses := true, apart := false, narrowed := true }
def RsFarUptoSaid : Prop := rsFarUptoRow.holds Try.pinned (OpenSpec.upto rsFarSpec)

/-- 'triptychlaw06.RsAny', WHERE WHAT IT READS IS OF BULK AT MOST 1048576: true; the input reads as it did. -/
def rsAnyUptoRow : OpenClaim := { program := "ytlipedigmokgbaa", sum := "76f72bbfc01f4ea1d4d6abf732a80c612a69aa125c93f2ce341930dadbe03ed9", func := "triptych/triptychlaw06.RsAny", spec := "rsAny", unfollowed := true, recurses := true, apart := false, narrowed := true }
def RsAnyUptoSaid : Prop := rsAnyUptoRow.holds Try.pinned (OpenSpec.upto rsAnySpec)

/-- 'triptychlaw06.RsEncodes', WHERE WHAT IT READS IS OF BULK AT MOST 1048576: true; the input reads as it did. -/
def rsEncodesUptoRow : OpenClaim := { program := "ytlipedigmokgbaa", sum := "76f72bbfc01f4ea1d4d6abf732a80c612a69aa125c93f2ce341930dadbe03ed9", func := "triptych/triptychlaw06.RsEncodes", spec := "rsEncodes", unfollowed := true, recurses := true, apart := false, narrowed := true }
def RsEncodesUptoSaid : Prop := rsEncodesUptoRow.holds Try.pinned (OpenSpec.upto rsEncodesSpec)

/-- 'triptychlaw06.RsNone', WHERE WHAT IT READS IS OF BULK AT MOST 1048576: true; the input reads as it did. -/
def rsNoneUptoRow : OpenClaim := { program := "ytlipedigmokgbaa", sum := "76f72bbfc01f4ea1d4d6abf732a80c612a69aa125c93f2ce341930dadbe03ed9", func := "triptych/triptychlaw06.RsNone", spec := "rsNone", unfollowed := true, recurses := true, apart := false, narrowed := true }
def RsNoneUptoSaid : Prop := rsNoneUptoRow.holds Try.pinned (OpenSpec.upto rsNoneSpec)

/-- 'triptychlaw05.PolyFits', WHERE WHAT IT READS IS OF BULK AT MOST 1048576: true; the input reads as it did. -/
def polyFitsUptoRow : OpenClaim := { program := "ytlipedigmokgbaa", sum := "76f72bbfc01f4ea1d4d6abf732a80c612a69aa125c93f2ce341930dadbe03ed9", func := "triptych/triptychlaw05.PolyFits", spec := "polyFits", unfollowed := true, recurses := true, apart := false, narrowed := true }
def PolyFitsUptoSaid : Prop := polyFitsUptoRow.holds Try.pinned (OpenSpec.upto polyFitsSpec)

end Rows
end Go.Proofs.Ytlipedigmokgbaa
