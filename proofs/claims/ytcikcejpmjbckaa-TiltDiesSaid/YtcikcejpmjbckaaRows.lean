/-
  No cell of these rows narrows 'for every input' (looked for: loops, veiled, ifaces, maps, wideKeys, modest, calm, conditions, laid).
  DERIVED. THE GIVEN ROWS OF THIS SEAT. 16 by the template 'for every input the law returns true; each argument reads behind the call as it read before'; 0 by the template 'total and deterministic' (their statements: YtcikcejpmjbckaaTotals.lean).
  GIVEN WITH THE SEED: the statements are not yours to turn. If you find one false, say at which input.
  Laid BY PROGRAM, IN A SANDBOX (cutbox-rows.mjs): the forced cells as the released guide's own fill.sh prints them over the translation 7e1a64135fa92c77… (all of the seat's roots in one cut). By AI agents, Wed Nov 11 2026. No macro, syntax, notation, axiom, sorry.
-/
import Derived.Test.YtcikcejpmjbckaaChecked
import GoSem.Claim
import GoSem.ClaimJoined
import GoSem.ClaimMapViews
import Derived.JoinedTies
import Derived.KernelRfl
namespace Go.Proofs.Ytcikcejpmjbckaa
/- THE CELL 'sum', in the pinned program and in every row, IS THE sha256 OF THE DUMP (.gsa) THAT YtcikcejpmjbckaaProg.lean LOADS. Nothing in Lean hashes anything: it is a label: what it is worth is what the hold of that sum in a sandbox is worth. -/
noncomputable def Try.pinned : Pinned := { name := "ytcikcejpmjbckaa", sum := "7e1a64135fa92c7739f12e3e59fbd3815c165036a234ebe6029f44fa3de4481f", checked := Try.checked }
namespace Rows
def none {H : Type} : Left H := { results := [], args := [] }

/-- 'spoollaw01.FixCuts': WHATEVER THE INPUT: true; the input reads as it did. -/
def fixCutsSpec : ChangeSpec := { name := "fixCuts", fn := fun _ => fun
  | [d1, d2] => { results := [.lit (.bool true)], args := [d1, d2] }
  | _ => none }
def fixCutsRow : OpenClaim := { program := "ytcikcejpmjbckaa", sum := "7e1a64135fa92c7739f12e3e59fbd3815c165036a234ebe6029f44fa3de4481f", func := "spool/spoollaw01.FixCuts", spec := "fixCuts", apart := false }
def FixCutsSaid : Prop := fixCutsRow.holds Try.pinned (OpenSpec.ofChange fixCutsSpec)

/-- ITS FALSE NEIGHBOUR: 'it returns false'. Refute it at one input. -/
def fixCutsWrong : ChangeSpec := { name := "fixCuts", fn := fun _ => fun
  | [d1, d2] => { results := [.lit (.bool false)], args := [d1, d2] }
  | _ => none }
def FixCutsWrongFalsely : Prop := fixCutsRow.holds Try.pinned (OpenSpec.ofChange fixCutsWrong)

/-- 'spoollaw01.FixMuls': WHATEVER THE INPUT: true; the input reads as it did. -/
def fixMulsSpec : ChangeSpec := { name := "fixMuls", fn := fun _ => fun
  | [d1, d2] => { results := [.lit (.bool true)], args := [d1, d2] }
  | _ => none }
def fixMulsRow : OpenClaim := { program := "ytcikcejpmjbckaa", sum := "7e1a64135fa92c7739f12e3e59fbd3815c165036a234ebe6029f44fa3de4481f", func := "spool/spoollaw01.FixMuls", spec := "fixMuls", apart := false }
def FixMulsSaid : Prop := fixMulsRow.holds Try.pinned (OpenSpec.ofChange fixMulsSpec)

/-- ITS FALSE NEIGHBOUR: 'it returns false'. Refute it at one input. -/
def fixMulsWrong : ChangeSpec := { name := "fixMuls", fn := fun _ => fun
  | [d1, d2] => { results := [.lit (.bool false)], args := [d1, d2] }
  | _ => none }
def FixMulsWrongFalsely : Prop := fixMulsRow.holds Try.pinned (OpenSpec.ofChange fixMulsWrong)

/-- 'spoollaw05.TiltParts': WHATEVER THE INPUT: true; the input reads as it did. -/
def tiltPartsSpec : ChangeSpec := { name := "tiltParts", fn := fun _ => fun
  | [d1, d2, d3] => { results := [.lit (.bool true)], args := [d1, d2, d3] }
  | _ => none }
def tiltPartsRow : OpenClaim := { program := "ytcikcejpmjbckaa", sum := "7e1a64135fa92c7739f12e3e59fbd3815c165036a234ebe6029f44fa3de4481f", func := "spool/spoollaw05.TiltParts", spec := "tiltParts", unfollowed := true, recurses := true, apart := false }
def TiltPartsSaid : Prop := tiltPartsRow.holds Try.pinned (OpenSpec.ofChange tiltPartsSpec)

/-- ITS FALSE NEIGHBOUR: 'it returns false'. Refute it at one input. -/
def tiltPartsWrong : ChangeSpec := { name := "tiltParts", fn := fun _ => fun
  | [d1, d2, d3] => { results := [.lit (.bool false)], args := [d1, d2, d3] }
  | _ => none }
def TiltPartsWrongFalsely : Prop := tiltPartsRow.holds Try.pinned (OpenSpec.ofChange tiltPartsWrong)

/-- 'spoollaw01.FixShifts': WHATEVER THE INPUT: true; the input reads as it did. -/
def fixShiftsSpec : ChangeSpec := { name := "fixShifts", fn := fun _ => fun
  | [d1, d2] => { results := [.lit (.bool true)], args := [d1, d2] }
  | _ => none }
def fixShiftsRow : OpenClaim := { program := "ytcikcejpmjbckaa", sum := "7e1a64135fa92c7739f12e3e59fbd3815c165036a234ebe6029f44fa3de4481f", func := "spool/spoollaw01.FixShifts", spec := "fixShifts", apart := false }
def FixShiftsSaid : Prop := fixShiftsRow.holds Try.pinned (OpenSpec.ofChange fixShiftsSpec)

/-- ITS FALSE NEIGHBOUR: 'it returns false'. Refute it at one input. -/
def fixShiftsWrong : ChangeSpec := { name := "fixShifts", fn := fun _ => fun
  | [d1, d2] => { results := [.lit (.bool false)], args := [d1, d2] }
  | _ => none }
def FixShiftsWrongFalsely : Prop := fixShiftsRow.holds Try.pinned (OpenSpec.ofChange fixShiftsWrong)

/-- 'spoollaw05.TiltSounds': WHATEVER THE INPUT: true; the input reads as it did. -/
def tiltSoundsSpec : ChangeSpec := { name := "tiltSounds", fn := fun _ => fun
  | [d] => { results := [.lit (.bool true)], args := [d] }
  | _ => none }
def tiltSoundsRow : OpenClaim := { program := "ytcikcejpmjbckaa", sum := "7e1a64135fa92c7739f12e3e59fbd3815c165036a234ebe6029f44fa3de4481f", func := "spool/spoollaw05.TiltSounds", spec := "tiltSounds", unfollowed := true, recurses := true, apart := false }
def TiltSoundsSaid : Prop := tiltSoundsRow.holds Try.pinned (OpenSpec.ofChange tiltSoundsSpec)

/-- ITS FALSE NEIGHBOUR: 'it returns false'. Refute it at one input. -/
def tiltSoundsWrong : ChangeSpec := { name := "tiltSounds", fn := fun _ => fun
  | [d] => { results := [.lit (.bool false)], args := [d] }
  | _ => none }
def TiltSoundsWrongFalsely : Prop := tiltSoundsRow.holds Try.pinned (OpenSpec.ofChange tiltSoundsWrong)

/-- 'spoollaw05.TiltDies': WHATEVER THE INPUT: true; the input reads as it did. -/
def tiltDiesSpec : ChangeSpec := { name := "tiltDies", fn := fun _ => fun
  | [d] => { results := [.lit (.bool true)], args := [d] }
  | _ => none }
def tiltDiesRow : OpenClaim := { program := "ytcikcejpmjbckaa", sum := "7e1a64135fa92c7739f12e3e59fbd3815c165036a234ebe6029f44fa3de4481f", func := "spool/spoollaw05.TiltDies", spec := "tiltDies", unfollowed := true, recurses := true, apart := false }
def TiltDiesSaid : Prop := tiltDiesRow.holds Try.pinned (OpenSpec.ofChange tiltDiesSpec)

/-- ITS FALSE NEIGHBOUR: 'it returns false'. Refute it at one input. -/
def tiltDiesWrong : ChangeSpec := { name := "tiltDies", fn := fun _ => fun
  | [d] => { results := [.lit (.bool false)], args := [d] }
  | _ => none }
def TiltDiesWrongFalsely : Prop := tiltDiesRow.holds Try.pinned (OpenSpec.ofChange tiltDiesWrong)

/-- 'spoollaw05.TiltBack': WHATEVER THE INPUT: true; the input reads as it did. -/
def tiltBackSpec : ChangeSpec := { name := "tiltBack", fn := fun _ => fun
  | [d1, d2] => { results := [.lit (.bool true)], args := [d1, d2] }
  | _ => none }
def tiltBackRow : OpenClaim := { program := "ytcikcejpmjbckaa", sum := "7e1a64135fa92c7739f12e3e59fbd3815c165036a234ebe6029f44fa3de4481f", func := "spool/spoollaw05.TiltBack", spec := "tiltBack", unfollowed := true, recurses := true, apart := false }
def TiltBackSaid : Prop := tiltBackRow.holds Try.pinned (OpenSpec.ofChange tiltBackSpec)

/-- ITS FALSE NEIGHBOUR: 'it returns false'. Refute it at one input. -/
def tiltBackWrong : ChangeSpec := { name := "tiltBack", fn := fun _ => fun
  | [d1, d2] => { results := [.lit (.bool false)], args := [d1, d2] }
  | _ => none }
def TiltBackWrongFalsely : Prop := tiltBackRow.holds Try.pinned (OpenSpec.ofChange tiltBackWrong)

/-- 'spoollaw05.TiltPlays': WHATEVER THE INPUT: true; the input reads as it did. -/
def tiltPlaysSpec : ChangeSpec := { name := "tiltPlays", fn := fun _ => fun
  | [d1, d2] => { results := [.lit (.bool true)], args := [d1, d2] }
  | _ => none }
def tiltPlaysRow : OpenClaim := { program := "ytcikcejpmjbckaa", sum := "7e1a64135fa92c7739f12e3e59fbd3815c165036a234ebe6029f44fa3de4481f", func := "spool/spoollaw05.TiltPlays", spec := "tiltPlays", unfollowed := true, recurses := true, apart := false }
def TiltPlaysSaid : Prop := tiltPlaysRow.holds Try.pinned (OpenSpec.ofChange tiltPlaysSpec)

/-- ITS FALSE NEIGHBOUR: 'it returns false'. Refute it at one input. -/
def tiltPlaysWrong : ChangeSpec := { name := "tiltPlays", fn := fun _ => fun
  | [d1, d2] => { results := [.lit (.bool false)], args := [d1, d2] }
  | _ => none }
def TiltPlaysWrongFalsely : Prop := tiltPlaysRow.holds Try.pinned (OpenSpec.ofChange tiltPlaysWrong)

/-- 'spoollaw03.AngleTwice': WHATEVER THE INPUT: true; the input reads as it did. -/
def angleTwiceSpec : ChangeSpec := { name := "angleTwice", fn := fun _ => fun
  | [d] => { results := [.lit (.bool true)], args := [d] }
  | _ => none }
def angleTwiceRow : OpenClaim := { program := "ytcikcejpmjbckaa", sum := "7e1a64135fa92c7739f12e3e59fbd3815c165036a234ebe6029f44fa3de4481f", func := "spool/spoollaw03.AngleTwice", spec := "angleTwice", recurses := true, apart := false }
def AngleTwiceSaid : Prop := angleTwiceRow.holds Try.pinned (OpenSpec.ofChange angleTwiceSpec)

/-- ITS FALSE NEIGHBOUR: 'it returns false'. Refute it at one input. -/
def angleTwiceWrong : ChangeSpec := { name := "angleTwice", fn := fun _ => fun
  | [d] => { results := [.lit (.bool false)], args := [d] }
  | _ => none }
def AngleTwiceWrongFalsely : Prop := angleTwiceRow.holds Try.pinned (OpenSpec.ofChange angleTwiceWrong)

/-- 'spoollaw03.AngleTurns': WHATEVER THE INPUT: true; the input reads as it did. -/
def angleTurnsSpec : ChangeSpec := { name := "angleTurns", fn := fun _ => fun
  | [d] => { results := [.lit (.bool true)], args := [d] }
  | _ => none }
def angleTurnsRow : OpenClaim := { program := "ytcikcejpmjbckaa", sum := "7e1a64135fa92c7739f12e3e59fbd3815c165036a234ebe6029f44fa3de4481f", func := "spool/spoollaw03.AngleTurns", spec := "angleTurns", recurses := true, apart := false }
def AngleTurnsSaid : Prop := angleTurnsRow.holds Try.pinned (OpenSpec.ofChange angleTurnsSpec)

/-- ITS FALSE NEIGHBOUR: 'it returns false'. Refute it at one input. -/
def angleTurnsWrong : ChangeSpec := { name := "angleTurns", fn := fun _ => fun
  | [d] => { results := [.lit (.bool false)], args := [d] }
  | _ => none }
def AngleTurnsWrongFalsely : Prop := angleTurnsRow.holds Try.pinned (OpenSpec.ofChange angleTurnsWrong)

/-- 'spoollaw03.AngleSquares': WHATEVER THE INPUT: true; the input reads as it did. -/
def angleSquaresSpec : ChangeSpec := { name := "angleSquares", fn := fun _ => fun
  | [d] => { results := [.lit (.bool true)], args := [d] }
  | _ => none }
def angleSquaresRow : OpenClaim := { program := "ytcikcejpmjbckaa", sum := "7e1a64135fa92c7739f12e3e59fbd3815c165036a234ebe6029f44fa3de4481f", func := "spool/spoollaw03.AngleSquares", spec := "angleSquares", recurses := true, apart := false }
def AngleSquaresSaid : Prop := angleSquaresRow.holds Try.pinned (OpenSpec.ofChange angleSquaresSpec)

/-- ITS FALSE NEIGHBOUR: 'it returns false'. Refute it at one input. -/
def angleSquaresWrong : ChangeSpec := { name := "angleSquares", fn := fun _ => fun
  | [d] => { results := [.lit (.bool false)], args := [d] }
  | _ => none }
def AngleSquaresWrongFalsely : Prop := angleSquaresRow.holds Try.pinned (OpenSpec.ofChange angleSquaresWrong)

/-- 'spoollaw03.AngleWindow': WHATEVER THE INPUT: true; the input reads as it did. -/
def angleWindowSpec : ChangeSpec := { name := "angleWindow", fn := fun _ => fun
  | [d] => { results := [.lit (.bool true)], args := [d] }
  | _ => none }
def angleWindowRow : OpenClaim := { program := "ytcikcejpmjbckaa", sum := "7e1a64135fa92c7739f12e3e59fbd3815c165036a234ebe6029f44fa3de4481f", func := "spool/spoollaw03.AngleWindow", spec := "angleWindow", recurses := true, apart := false }
def AngleWindowSaid : Prop := angleWindowRow.holds Try.pinned (OpenSpec.ofChange angleWindowSpec)

/-- ITS FALSE NEIGHBOUR: 'it returns false'. Refute it at one input. -/
def angleWindowWrong : ChangeSpec := { name := "angleWindow", fn := fun _ => fun
  | [d] => { results := [.lit (.bool false)], args := [d] }
  | _ => none }
def AngleWindowWrongFalsely : Prop := angleWindowRow.holds Try.pinned (OpenSpec.ofChange angleWindowWrong)

/-- 'spoollaw01.FixRoots': WHATEVER THE INPUT: true; the input reads as it did. -/
def fixRootsSpec : ChangeSpec := { name := "fixRoots", fn := fun _ => fun
  | [d] => { results := [.lit (.bool true)], args := [d] }
  | _ => none }
def fixRootsRow : OpenClaim := { program := "ytcikcejpmjbckaa", sum := "7e1a64135fa92c7739f12e3e59fbd3815c165036a234ebe6029f44fa3de4481f", func := "spool/spoollaw01.FixRoots", spec := "fixRoots", apart := false }
def FixRootsSaid : Prop := fixRootsRow.holds Try.pinned (OpenSpec.ofChange fixRootsSpec)

/-- ITS FALSE NEIGHBOUR: 'it returns false'. Refute it at one input. -/
def fixRootsWrong : ChangeSpec := { name := "fixRoots", fn := fun _ => fun
  | [d] => { results := [.lit (.bool false)], args := [d] }
  | _ => none }
def FixRootsWrongFalsely : Prop := fixRootsRow.holds Try.pinned (OpenSpec.ofChange fixRootsWrong)

/-- 'spoollaw01.FixPlays': WHATEVER THE INPUT: true; the input reads as it did. -/
def fixPlaysSpec : ChangeSpec := { name := "fixPlays", fn := fun _ => fun
  | [d1, d2, d3, d4] => { results := [.lit (.bool true)], args := [d1, d2, d3, d4] }
  | _ => none }
def fixPlaysRow : OpenClaim := { program := "ytcikcejpmjbckaa", sum := "7e1a64135fa92c7739f12e3e59fbd3815c165036a234ebe6029f44fa3de4481f", func := "spool/spoollaw01.FixPlays", spec := "fixPlays", apart := false }
def FixPlaysSaid : Prop := fixPlaysRow.holds Try.pinned (OpenSpec.ofChange fixPlaysSpec)

/-- ITS FALSE NEIGHBOUR: 'it returns false'. Refute it at one input. -/
def fixPlaysWrong : ChangeSpec := { name := "fixPlays", fn := fun _ => fun
  | [d1, d2, d3, d4] => { results := [.lit (.bool false)], args := [d1, d2, d3, d4] }
  | _ => none }
def FixPlaysWrongFalsely : Prop := fixPlaysRow.holds Try.pinned (OpenSpec.ofChange fixPlaysWrong)

/-- 'spoollaw03.AnglePlays': WHATEVER THE INPUT: true; the input reads as it did. -/
def anglePlaysSpec : ChangeSpec := { name := "anglePlays", fn := fun _ => fun
  | [d] => { results := [.lit (.bool true)], args := [d] }
  | _ => none }
def anglePlaysRow : OpenClaim := { program := "ytcikcejpmjbckaa", sum := "7e1a64135fa92c7739f12e3e59fbd3815c165036a234ebe6029f44fa3de4481f", func := "spool/spoollaw03.AnglePlays", spec := "anglePlays", recurses := true, apart := false }
def AnglePlaysSaid : Prop := anglePlaysRow.holds Try.pinned (OpenSpec.ofChange anglePlaysSpec)

/-- ITS FALSE NEIGHBOUR: 'it returns false'. Refute it at one input. -/
def anglePlaysWrong : ChangeSpec := { name := "anglePlays", fn := fun _ => fun
  | [d] => { results := [.lit (.bool false)], args := [d] }
  | _ => none }
def AnglePlaysWrongFalsely : Prop := anglePlaysRow.holds Try.pinned (OpenSpec.ofChange anglePlaysWrong)

/-- 'spoollaw01.FixOrder': WHATEVER THE INPUT: true; the input reads as it did. -/
def fixOrderSpec : ChangeSpec := { name := "fixOrder", fn := fun _ => fun
  | [d1, d2, d3] => { results := [.lit (.bool true)], args := [d1, d2, d3] }
  | _ => none }
def fixOrderRow : OpenClaim := { program := "ytcikcejpmjbckaa", sum := "7e1a64135fa92c7739f12e3e59fbd3815c165036a234ebe6029f44fa3de4481f", func := "spool/spoollaw01.FixOrder", spec := "fixOrder", apart := false }
def FixOrderSaid : Prop := fixOrderRow.holds Try.pinned (OpenSpec.ofChange fixOrderSpec)

/-- ITS FALSE NEIGHBOUR: 'it returns false'. Refute it at one input. -/
def fixOrderWrong : ChangeSpec := { name := "fixOrder", fn := fun _ => fun
  | [d1, d2, d3] => { results := [.lit (.bool false)], args := [d1, d2, d3] }
  | _ => none }
def FixOrderWrongFalsely : Prop := fixOrderRow.holds Try.pinned (OpenSpec.ofChange fixOrderWrong)

/- THE SECOND FORM. 'bulk': how many values and letters a reading holds, each counted each time it is reached (what is shared counts as often as it is met; a slice's spare places count too). A statement '..UptoSaid' is the law's where the arguments, and the package variables that the reading takes, are together of bulk at most 1048576: NARROWER than '..Said'. Prove '..Said' where nothing that the law and all that it calls make is longer than what came in: it says more and counts as full. Else prove '..UptoSaid'. A law counts once. -/
mutual
def uptoBulk {H : Type} : DataW H → Nat
  | .lit (.string bytes) => bytes.length + 1
  | .lit _ => 1
  | .nil => 1
  | .ptr d => uptoBulk d + 1
  | .slice elems spare => uptoBulkAll elems + uptoBulkAll spare + 1
  | .agg parts => uptoBulkAll parts + 1
  | .iface _ d => uptoBulk d + 1
  | .map entries => uptoBulkEntries entries + 1
  | .held _ => 1
def uptoBulkAll {H : Type} : List (DataW H) → Nat
  | [] => 0
  | d :: r => uptoBulk d + uptoBulkAll r
def uptoBulkEntries {H : Type} : List (Lit × DataW H) → Nat
  | [] => 0
  | x :: r => uptoBulkEntry x + uptoBulkEntries r
def uptoBulkEntry {H : Type} : Lit × DataW H → Nat
  | (.string bytes, d) => bytes.length + uptoBulk d + 1
  | (_, d) => uptoBulk d + 1
 end
def uptoSmall : (H : Type) → List (DataW H) → Bool := fun _ ds => decide (uptoBulkAll ds ≤ 1048576)
def OpenSpec.upto (s : _root_.Go.ChangeSpec) : _root_.Go.OpenSpec := { _root_.Go.OpenSpec.ofChange s with cond := some uptoSmall }

/-- 'spoollaw01.FixCuts', WHERE WHAT IT READS IS OF BULK AT MOST 1048576: true; the input reads as it did. -/
def fixCutsUptoRow : OpenClaim := { program := "ytcikcejpmjbckaa", sum := "7e1a64135fa92c7739f12e3e59fbd3815c165036a234ebe6029f44fa3de4481f", func := "spool/spoollaw01.FixCuts", spec := "fixCuts", apart := false, narrowed := true }
def FixCutsUptoSaid : Prop := fixCutsUptoRow.holds Try.pinned (OpenSpec.upto fixCutsSpec)

/-- 'spoollaw01.FixMuls', WHERE WHAT IT READS IS OF BULK AT MOST 1048576: true; the input reads as it did. -/
def fixMulsUptoRow : OpenClaim := { program := "ytcikcejpmjbckaa", sum := "7e1a64135fa92c7739f12e3e59fbd3815c165036a234ebe6029f44fa3de4481f", func := "spool/spoollaw01.FixMuls", spec := "fixMuls", apart := false, narrowed := true }
def FixMulsUptoSaid : Prop := fixMulsUptoRow.holds Try.pinned (OpenSpec.upto fixMulsSpec)

/-- 'spoollaw05.TiltParts', WHERE WHAT IT READS IS OF BULK AT MOST 1048576: true; the input reads as it did. -/
def tiltPartsUptoRow : OpenClaim := { program := "ytcikcejpmjbckaa", sum := "7e1a64135fa92c7739f12e3e59fbd3815c165036a234ebe6029f44fa3de4481f", func := "spool/spoollaw05.TiltParts", spec := "tiltParts", unfollowed := true, recurses := true, apart := false, narrowed := true }
def TiltPartsUptoSaid : Prop := tiltPartsUptoRow.holds Try.pinned (OpenSpec.upto tiltPartsSpec)

/-- 'spoollaw01.FixShifts', WHERE WHAT IT READS IS OF BULK AT MOST 1048576: true; the input reads as it did. -/
def fixShiftsUptoRow : OpenClaim := { program := "ytcikcejpmjbckaa", sum := "7e1a64135fa92c7739f12e3e59fbd3815c165036a234ebe6029f44fa3de4481f", func := "spool/spoollaw01.FixShifts", spec := "fixShifts", apart := false, narrowed := true }
def FixShiftsUptoSaid : Prop := fixShiftsUptoRow.holds Try.pinned (OpenSpec.upto fixShiftsSpec)

/-- 'spoollaw05.TiltSounds', WHERE WHAT IT READS IS OF BULK AT MOST 1048576: true; the input reads as it did. -/
def tiltSoundsUptoRow : OpenClaim := { program := "ytcikcejpmjbckaa", sum := "7e1a64135fa92c7739f12e3e59fbd3815c165036a234ebe6029f44fa3de4481f", func := "spool/spoollaw05.TiltSounds", spec := "tiltSounds", unfollowed := true, recurses := true, apart := false, narrowed := true }
def TiltSoundsUptoSaid : Prop := tiltSoundsUptoRow.holds Try.pinned (OpenSpec.upto tiltSoundsSpec)

/-- 'spoollaw05.TiltDies', WHERE WHAT IT READS IS OF BULK AT MOST 1048576: true; the input reads as it did. -/
def tiltDiesUptoRow : OpenClaim := { program := "ytcikcejpmjbckaa", sum := "7e1a64135fa92c7739f12e3e59fbd3815c165036a234ebe6029f44fa3de4481f", func := "spool/spoollaw05.TiltDies", spec := "tiltDies", unfollowed := true, recurses := true, apart := false, narrowed := true }
def TiltDiesUptoSaid : Prop := tiltDiesUptoRow.holds Try.pinned (OpenSpec.upto tiltDiesSpec)

/-- 'spoollaw05.TiltBack', WHERE WHAT IT READS IS OF BULK AT MOST 1048576: true; the input reads as it did. -/
def tiltBackUptoRow : OpenClaim := { program := "ytcikcejpmjbckaa", sum := "7e1a64135fa92c7739f12e3e59fbd3815c165036a234ebe6029f44fa3de4481f", func := "spool/spoollaw05.TiltBack", spec := "tiltBack", unfollowed := true, recurses := true, apart := false, narrowed := true }
def TiltBackUptoSaid : Prop := tiltBackUptoRow.holds Try.pinned (OpenSpec.upto tiltBackSpec)

/-- 'spoollaw05.TiltPlays', WHERE WHAT IT READS IS OF BULK AT MOST 1048576: true; the input reads as it did. -/
def tiltPlaysUptoRow : OpenClaim := { program := "ytcikcejpmjbckaa", sum := "7e1a64135fa92c7739f12e3e59fbd3815c165036a234ebe6029f44fa3de4481f", func := "spool/spoollaw05.TiltPlays", spec := "tiltPlays", unfollowed := true, recurses := true, apart := false, narrowed := true }
def TiltPlaysUptoSaid : Prop := tiltPlaysUptoRow.holds Try.pinned (OpenSpec.upto tiltPlaysSpec)

/-- 'spoollaw03.AngleTwice', WHERE WHAT IT READS IS OF BULK AT MOST 1048576: true; the input reads as it did. -/
def angleTwiceUptoRow : OpenClaim := { program := "ytcikcejpmjbckaa", sum := "7e1a64135fa92c7739f12e3e59fbd3815c165036a234ebe6029f44fa3de4481f", func := "spool/spoollaw03.AngleTwice", spec := "angleTwice", recurses := true, apart := false, narrowed := true }
def AngleTwiceUptoSaid : Prop := angleTwiceUptoRow.holds Try.pinned (OpenSpec.upto angleTwiceSpec)

/-- 'spoollaw03.AngleTurns', WHERE WHAT IT READS IS OF BULK AT MOST 1048576: true; the input reads as it did. -/
def angleTurnsUptoRow : OpenClaim := { program := "ytcikcejpmjbckaa", sum := "7e1a64135fa92c7739f12e3e59fbd3815c165036a234ebe6029f44fa3de4481f", func := "spool/spoollaw03.AngleTurns", spec := "angleTurns", recurses := true, apart := false, narrowed := true }
def AngleTurnsUptoSaid : Prop := angleTurnsUptoRow.holds Try.pinned (OpenSpec.upto angleTurnsSpec)

/-- 'spoollaw03.AngleSquares', WHERE WHAT IT READS IS OF BULK AT MOST 1048576: true; the input reads as it did. -/
def angleSquaresUptoRow : OpenClaim := { program := "ytcikcejpmjbckaa", sum := "7e1a64135fa92c7739f12e3e59fbd3815c165036a234ebe6029f44fa3de4481f", func := "spool/spoollaw03.AngleSquares", spec := "angleSquares", recurses := true, apart := false, narrowed := true }
def AngleSquaresUptoSaid : Prop := angleSquaresUptoRow.holds Try.pinned (OpenSpec.upto angleSquaresSpec)

/-- 'spoollaw03.AngleWindow', WHERE WHAT IT READS IS OF BULK AT MOST 1048576: true; the input reads as it did. -/
def angleWindowUptoRow : OpenClaim := { program := "ytcikcejpmjbckaa", sum := "7e1a64135fa92c7739f12e3e59fbd3815c165036a234ebe6029f44fa3de4481f", func := "spool/spoollaw03.AngleWindow", spec := "angleWindow", recurses := true, apart := false, narrowed := true }
def AngleWindowUptoSaid : Prop := angleWindowUptoRow.holds Try.pinned (OpenSpec.upto angleWindowSpec)

/-- 'spoollaw01.FixRoots', WHERE WHAT IT READS IS OF BULK AT MOST 1048576: true; the input reads as it did. -/
def fixRootsUptoRow : OpenClaim := { program := "ytcikcejpmjbckaa", sum := "7e1a64135fa92c7739f12e3e59fbd3815c165036a234ebe6029f44fa3de4481f", func := "spool/spoollaw01.FixRoots", spec := "fixRoots", apart := false, narrowed := true }
def FixRootsUptoSaid : Prop := fixRootsUptoRow.holds Try.pinned (OpenSpec.upto fixRootsSpec)

/-- 'spoollaw01.FixPlays', WHERE WHAT IT READS IS OF BULK AT MOST 1048576: true; the input reads as it did. -/
def fixPlaysUptoRow : OpenClaim := { program := "ytcikcejpmjbckaa", sum := "7e1a64135fa92c7739f12e3e59fbd3815c165036a234ebe6029f44fa3de4481f", func := "spool/spoollaw01.FixPlays", spec := "fixPlays", apart := false, narrowed := true }
def FixPlaysUptoSaid : Prop := fixPlaysUptoRow.holds Try.pinned (OpenSpec.upto fixPlaysSpec)

/-- 'spoollaw03.AnglePlays', WHERE WHAT IT READS IS OF BULK AT MOST 1048576: true; the input reads as it did. -/
def anglePlaysUptoRow : OpenClaim := { program := "ytcikcejpmjbckaa", sum := "7e1a64135fa92c7739f12e3e59fbd3815c165036a234ebe6029f44fa3de4481f", func := "spool/spoollaw03.AnglePlays", spec := "anglePlays", recurses := true, apart := false, narrowed := true }
def AnglePlaysUptoSaid : Prop := anglePlaysUptoRow.holds Try.pinned (OpenSpec.upto anglePlaysSpec)

/-- 'spoollaw01.FixOrder', WHERE WHAT IT READS IS OF BULK AT MOST 1048576: true; the input reads as it did. -/
def fixOrderUptoRow : OpenClaim := { program := "ytcikcejpmjbckaa", sum := "7e1a64135fa92c7739f12e3e59fbd3815c165036a234ebe6029f44fa3de4481f", func := "spool/spoollaw01.FixOrder", spec := "fixOrder", apart := false, narrowed := true }
def FixOrderUptoSaid : Prop := fixOrderUptoRow.holds Try.pinned (OpenSpec.upto fixOrderSpec)

end Rows
end Go.Proofs.Ytcikcejpmjbckaa
