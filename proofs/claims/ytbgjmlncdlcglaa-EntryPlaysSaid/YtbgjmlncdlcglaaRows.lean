/-
  No cell of these rows narrows 'for every input' (looked for: loops, veiled, ifaces, maps, wideKeys, modest, calm, conditions, laid).
  DERIVED. THE GIVEN ROWS OF THIS SEAT. 21 by the template 'for every input the law returns true; each argument reads behind the call as it read before'; 0 by the template 'total and deterministic' (their statements: YtbgjmlncdlcglaaTotals.lean).
  GIVEN WITH THE SEED: the statements are not yours to turn. If you find one false, say at which input.
  Laid BY PROGRAM, IN A SANDBOX (cutbox-rows.mjs): the forced cells as the released guide's own fill.sh prints them over the translation 750f34149443a207… (all of the seat's roots in one cut). By AI agents, Wed Nov 11 2026. No macro, syntax, notation, axiom, sorry.
-/
import Derived.Test.YtbgjmlncdlcglaaChecked
import GoSem.Claim
import GoSem.ClaimJoined
import GoSem.ClaimMapViews
import Derived.JoinedTies
import Derived.KernelRfl
namespace Go.Proofs.Ytbgjmlncdlcglaa
/- THE CELL 'sum', in the pinned program and in every row, IS THE sha256 OF THE DUMP (.gsa) THAT YtbgjmlncdlcglaaProg.lean LOADS. Nothing in Lean hashes anything: it is a label: what it is worth is what the hold of that sum in a sandbox is worth. -/
noncomputable def Try.pinned : Pinned := { name := "ytbgjmlncdlcglaa", sum := "750f34149443a2078ab0c4183b9a92a9951f7ef6a42b413d3576ffd0236618d9", checked := Try.checked }
namespace Rows
def none {H : Type} : Left H := { results := [], args := [] }

/-- 'spoollaw20.EntrySizes': WHATEVER THE INPUT: true; the input reads as it did. -/
def entrySizesSpec : ChangeSpec := { name := "entrySizes", fn := fun _ => fun
  | [d] => { results := [.lit (.bool true)], args := [d] }
  | _ => none }
def entrySizesRow : OpenClaim := { program := "ytbgjmlncdlcglaa", sum := "750f34149443a2078ab0c4183b9a92a9951f7ef6a42b413d3576ffd0236618d9", func := "spool/spoollaw20.EntrySizes", spec := "entrySizes", unfollowed := true, recurses := true, apart := false }
def EntrySizesSaid : Prop := entrySizesRow.holds Try.pinned (OpenSpec.ofChange entrySizesSpec)

/-- ITS FALSE NEIGHBOUR: 'it returns false'. Refute it at one input. -/
def entrySizesWrong : ChangeSpec := { name := "entrySizes", fn := fun _ => fun
  | [d] => { results := [.lit (.bool false)], args := [d] }
  | _ => none }
def EntrySizesWrongFalsely : Prop := entrySizesRow.holds Try.pinned (OpenSpec.ofChange entrySizesWrong)

/-- 'spoollaw20.EntryBack': WHATEVER THE INPUT: true; the input reads as it did. -/
def entryBackSpec : ChangeSpec := { name := "entryBack", fn := fun _ => fun
  | [d] => { results := [.lit (.bool true)], args := [d] }
  | _ => none }
def entryBackRow : OpenClaim := { program := "ytbgjmlncdlcglaa", sum := "750f34149443a2078ab0c4183b9a92a9951f7ef6a42b413d3576ffd0236618d9", func := "spool/spoollaw20.EntryBack", spec := "entryBack", unfollowed := true, recurses := true, apart := false }
def EntryBackSaid : Prop := entryBackRow.holds Try.pinned (OpenSpec.ofChange entryBackSpec)

/-- ITS FALSE NEIGHBOUR: 'it returns false'. Refute it at one input. -/
def entryBackWrong : ChangeSpec := { name := "entryBack", fn := fun _ => fun
  | [d] => { results := [.lit (.bool false)], args := [d] }
  | _ => none }
def EntryBackWrongFalsely : Prop := entryBackRow.holds Try.pinned (OpenSpec.ofChange entryBackWrong)

/-- 'spoollaw20.EntryOnly': WHATEVER THE INPUT: true; the input reads as it did. -/
def entryOnlySpec : ChangeSpec := { name := "entryOnly", fn := fun _ => fun
  | [d] => { results := [.lit (.bool true)], args := [d] }
  | _ => none }
def entryOnlyRow : OpenClaim := { program := "ytbgjmlncdlcglaa", sum := "750f34149443a2078ab0c4183b9a92a9951f7ef6a42b413d3576ffd0236618d9", func := "spool/spoollaw20.EntryOnly", spec := "entryOnly", unfollowed := true, recurses := true, apart := false }
def EntryOnlySaid : Prop := entryOnlyRow.holds Try.pinned (OpenSpec.ofChange entryOnlySpec)

/-- ITS FALSE NEIGHBOUR: 'it returns false'. Refute it at one input. -/
def entryOnlyWrong : ChangeSpec := { name := "entryOnly", fn := fun _ => fun
  | [d] => { results := [.lit (.bool false)], args := [d] }
  | _ => none }
def EntryOnlyWrongFalsely : Prop := entryOnlyRow.holds Try.pinned (OpenSpec.ofChange entryOnlyWrong)

/-- 'spoollaw04.MdctAdds': WHATEVER THE INPUT: true; the input reads as it did. -/
def mdctAddsSpec : ChangeSpec := { name := "mdctAdds", fn := fun _ => fun
  | [d1, d2, d3, d4] => { results := [.lit (.bool true)], args := [d1, d2, d3, d4] }
  | _ => none }
def mdctAddsRow : OpenClaim := { program := "ytbgjmlncdlcglaa", sum := "750f34149443a2078ab0c4183b9a92a9951f7ef6a42b413d3576ffd0236618d9", func := "spool/spoollaw04.MdctAdds", spec := "mdctAdds", unfollowed := true, recurses := true, apart := false }
def MdctAddsSaid : Prop := mdctAddsRow.holds Try.pinned (OpenSpec.ofChange mdctAddsSpec)

/-- ITS FALSE NEIGHBOUR: 'it returns false'. Refute it at one input. -/
def mdctAddsWrong : ChangeSpec := { name := "mdctAdds", fn := fun _ => fun
  | [d1, d2, d3, d4] => { results := [.lit (.bool false)], args := [d1, d2, d3, d4] }
  | _ => none }
def MdctAddsWrongFalsely : Prop := mdctAddsRow.holds Try.pinned (OpenSpec.ofChange mdctAddsWrong)

/-- 'spoollaw12.StateBack': WHATEVER THE INPUT: true; the input reads as it did. -/
def stateBackSpec : ChangeSpec := { name := "stateBack", fn := fun _ => fun
  | [d] => { results := [.lit (.bool true)], args := [d] }
  | _ => none }
def stateBackRow : OpenClaim := { program := "ytbgjmlncdlcglaa", sum := "750f34149443a2078ab0c4183b9a92a9951f7ef6a42b413d3576ffd0236618d9", func := "spool/spoollaw12.StateBack", spec := "stateBack", inPlace := ["internal/abi.NoEscape"], unfollowed := true, recurses := true, apart := false }
def StateBackSaid : Prop := stateBackRow.holds Try.pinned (OpenSpec.ofChange stateBackSpec)

/-- ITS FALSE NEIGHBOUR: 'it returns false'. Refute it at one input. -/
def stateBackWrong : ChangeSpec := { name := "stateBack", fn := fun _ => fun
  | [d] => { results := [.lit (.bool false)], args := [d] }
  | _ => none }
def StateBackWrongFalsely : Prop := stateBackRow.holds Try.pinned (OpenSpec.ofChange stateBackWrong)

/-- 'spoollaw12.StateOnly': WHATEVER THE INPUT: true; the input reads as it did. -/
def stateOnlySpec : ChangeSpec := { name := "stateOnly", fn := fun _ => fun
  | [d] => { results := [.lit (.bool true)], args := [d] }
  | _ => none }
def stateOnlyRow : OpenClaim := { program := "ytbgjmlncdlcglaa", sum := "750f34149443a2078ab0c4183b9a92a9951f7ef6a42b413d3576ffd0236618d9", func := "spool/spoollaw12.StateOnly", spec := "stateOnly", inPlace := ["internal/abi.NoEscape"], unfollowed := true, recurses := true, apart := false }
def StateOnlySaid : Prop := stateOnlyRow.holds Try.pinned (OpenSpec.ofChange stateOnlySpec)

/-- ITS FALSE NEIGHBOUR: 'it returns false'. Refute it at one input. -/
def stateOnlyWrong : ChangeSpec := { name := "stateOnly", fn := fun _ => fun
  | [d] => { results := [.lit (.bool false)], args := [d] }
  | _ => none }
def StateOnlyWrongFalsely : Prop := stateOnlyRow.holds Try.pinned (OpenSpec.ofChange stateOnlyWrong)

/-- 'spoollaw04.MdctSizes': WHATEVER THE INPUT: true; the input reads as it did. -/
def mdctSizesSpec : ChangeSpec := { name := "mdctSizes", fn := fun _ => fun
  | [d1, d2] => { results := [.lit (.bool true)], args := [d1, d2] }
  | _ => none }
def mdctSizesRow : OpenClaim := { program := "ytbgjmlncdlcglaa", sum := "750f34149443a2078ab0c4183b9a92a9951f7ef6a42b413d3576ffd0236618d9", func := "spool/spoollaw04.MdctSizes", spec := "mdctSizes", unfollowed := true, recurses := true, apart := false }
def MdctSizesSaid : Prop := mdctSizesRow.holds Try.pinned (OpenSpec.ofChange mdctSizesSpec)

/-- ITS FALSE NEIGHBOUR: 'it returns false'. Refute it at one input. -/
def mdctSizesWrong : ChangeSpec := { name := "mdctSizes", fn := fun _ => fun
  | [d1, d2] => { results := [.lit (.bool false)], args := [d1, d2] }
  | _ => none }
def MdctSizesWrongFalsely : Prop := mdctSizesRow.holds Try.pinned (OpenSpec.ofChange mdctSizesWrong)

/-- 'spoollaw04.MdctLays': WHATEVER THE INPUT: true; the input reads as it did. -/
def mdctLaysSpec : ChangeSpec := { name := "mdctLays", fn := fun _ => fun
  | [d1, d2] => { results := [.lit (.bool true)], args := [d1, d2] }
  | _ => none }
def mdctLaysRow : OpenClaim := { program := "ytbgjmlncdlcglaa", sum := "750f34149443a2078ab0c4183b9a92a9951f7ef6a42b413d3576ffd0236618d9", func := "spool/spoollaw04.MdctLays", spec := "mdctLays", unfollowed := true, recurses := true, apart := false }
def MdctLaysSaid : Prop := mdctLaysRow.holds Try.pinned (OpenSpec.ofChange mdctLaysSpec)

/-- ITS FALSE NEIGHBOUR: 'it returns false'. Refute it at one input. -/
def mdctLaysWrong : ChangeSpec := { name := "mdctLays", fn := fun _ => fun
  | [d1, d2] => { results := [.lit (.bool false)], args := [d1, d2] }
  | _ => none }
def MdctLaysWrongFalsely : Prop := mdctLaysRow.holds Try.pinned (OpenSpec.ofChange mdctLaysWrong)

/-- 'spoollaw04.MdctOver': WHATEVER THE INPUT: true; the input reads as it did. -/
def mdctOverSpec : ChangeSpec := { name := "mdctOver", fn := fun _ => fun
  | [d1, d2, d3] => { results := [.lit (.bool true)], args := [d1, d2, d3] }
  | _ => none }
def mdctOverRow : OpenClaim := { program := "ytbgjmlncdlcglaa", sum := "750f34149443a2078ab0c4183b9a92a9951f7ef6a42b413d3576ffd0236618d9", func := "spool/spoollaw04.MdctOver", spec := "mdctOver", unfollowed := true, recurses := true, apart := false }
def MdctOverSaid : Prop := mdctOverRow.holds Try.pinned (OpenSpec.ofChange mdctOverSpec)

/-- ITS FALSE NEIGHBOUR: 'it returns false'. Refute it at one input. -/
def mdctOverWrong : ChangeSpec := { name := "mdctOver", fn := fun _ => fun
  | [d1, d2, d3] => { results := [.lit (.bool false)], args := [d1, d2, d3] }
  | _ => none }
def MdctOverWrongFalsely : Prop := mdctOverRow.holds Try.pinned (OpenSpec.ofChange mdctOverWrong)

/-- 'spoollaw04.MdctPlays': WHATEVER THE INPUT: true; the input reads as it did. -/
def mdctPlaysSpec : ChangeSpec := { name := "mdctPlays", fn := fun _ => fun
  | [d1, d2] => { results := [.lit (.bool true)], args := [d1, d2] }
  | _ => none }
def mdctPlaysRow : OpenClaim := { program := "ytbgjmlncdlcglaa", sum := "750f34149443a2078ab0c4183b9a92a9951f7ef6a42b413d3576ffd0236618d9", func := "spool/spoollaw04.MdctPlays", spec := "mdctPlays", unfollowed := true, recurses := true, apart := false }
def MdctPlaysSaid : Prop := mdctPlaysRow.holds Try.pinned (OpenSpec.ofChange mdctPlaysSpec)

/-- ITS FALSE NEIGHBOUR: 'it returns false'. Refute it at one input. -/
def mdctPlaysWrong : ChangeSpec := { name := "mdctPlays", fn := fun _ => fun
  | [d1, d2] => { results := [.lit (.bool false)], args := [d1, d2] }
  | _ => none }
def MdctPlaysWrongFalsely : Prop := mdctPlaysRow.holds Try.pinned (OpenSpec.ofChange mdctPlaysWrong)

/-- 'spoollaw20.EntryMakes': WHATEVER THE INPUT: true; the input reads as it did. -/
def entryMakesSpec : ChangeSpec := { name := "entryMakes", fn := fun _ => fun
  | [d1, d2, d3] => { results := [.lit (.bool true)], args := [d1, d2, d3] }
  | _ => none }
def entryMakesRow : OpenClaim := { program := "ytbgjmlncdlcglaa", sum := "750f34149443a2078ab0c4183b9a92a9951f7ef6a42b413d3576ffd0236618d9", func := "spool/spoollaw20.EntryMakes", spec := "entryMakes", inPlace := ["internal/abi.NoEscape"], unfollowed := true, recurses := true, apart := false }
def EntryMakesSaid : Prop := entryMakesRow.holds Try.pinned (OpenSpec.ofChange entryMakesSpec)

/-- ITS FALSE NEIGHBOUR: 'it returns false'. Refute it at one input. -/
def entryMakesWrong : ChangeSpec := { name := "entryMakes", fn := fun _ => fun
  | [d1, d2, d3] => { results := [.lit (.bool false)], args := [d1, d2, d3] }
  | _ => none }
def EntryMakesWrongFalsely : Prop := entryMakesRow.holds Try.pinned (OpenSpec.ofChange entryMakesWrong)

/-- 'spoollaw14.LostPlays': WHATEVER THE INPUT: true; the input reads as it did. -/
def lostPlaysSpec : ChangeSpec := { name := "lostPlays", fn := fun _ => fun
  | [d] => { results := [.lit (.bool true)], args := [d] }
  | _ => none }
def lostPlaysRow : OpenClaim := { program := "ytbgjmlncdlcglaa", sum := "750f34149443a2078ab0c4183b9a92a9951f7ef6a42b413d3576ffd0236618d9", func := "spool/spoollaw14.LostPlays", spec := "lostPlays", unfollowed := true, recurses := true, apart := false }
def LostPlaysSaid : Prop := lostPlaysRow.holds Try.pinned (OpenSpec.ofChange lostPlaysSpec)

/-- ITS FALSE NEIGHBOUR: 'it returns false'. Refute it at one input. -/
def lostPlaysWrong : ChangeSpec := { name := "lostPlays", fn := fun _ => fun
  | [d] => { results := [.lit (.bool false)], args := [d] }
  | _ => none }
def LostPlaysWrongFalsely : Prop := lostPlaysRow.holds Try.pinned (OpenSpec.ofChange lostPlaysWrong)

/-- 'spoollaw20.EntryPlays': WHATEVER THE INPUT: true; the input reads as it did. -/
def entryPlaysSpec : ChangeSpec := { name := "entryPlays", fn := fun _ => fun
  | [d1, d2, d3] => { results := [.lit (.bool true)], args := [d1, d2, d3] }
  | _ => none }
def entryPlaysRow : OpenClaim := { program := "ytbgjmlncdlcglaa", sum := "750f34149443a2078ab0c4183b9a92a9951f7ef6a42b413d3576ffd0236618d9", func := "spool/spoollaw20.EntryPlays", spec := "entryPlays", inPlace := ["internal/abi.NoEscape"], unfollowed := true, recurses := true, apart := false }
def EntryPlaysSaid : Prop := entryPlaysRow.holds Try.pinned (OpenSpec.ofChange entryPlaysSpec)

/-- ITS FALSE NEIGHBOUR: 'it returns false'. Refute it at one input. -/
def entryPlaysWrong : ChangeSpec := { name := "entryPlays", fn := fun _ => fun
  | [d1, d2, d3] => { results := [.lit (.bool false)], args := [d1, d2, d3] }
  | _ => none }
def EntryPlaysWrongFalsely : Prop := entryPlaysRow.holds Try.pinned (OpenSpec.ofChange entryPlaysWrong)

/-- 'spoollaw14.LostDies': WHATEVER THE INPUT: true; the input reads as it did. -/
def lostDiesSpec : ChangeSpec := { name := "lostDies", fn := fun _ => fun
  | [d1, d2] => { results := [.lit (.bool true)], args := [d1, d2] }
  | _ => none }
def lostDiesRow : OpenClaim := { program := "ytbgjmlncdlcglaa", sum := "750f34149443a2078ab0c4183b9a92a9951f7ef6a42b413d3576ffd0236618d9", func := "spool/spoollaw14.LostDies", spec := "lostDies", unfollowed := true, recurses := true, apart := false }
def LostDiesSaid : Prop := lostDiesRow.holds Try.pinned (OpenSpec.ofChange lostDiesSpec)

/-- ITS FALSE NEIGHBOUR: 'it returns false'. Refute it at one input. -/
def lostDiesWrong : ChangeSpec := { name := "lostDies", fn := fun _ => fun
  | [d1, d2] => { results := [.lit (.bool false)], args := [d1, d2] }
  | _ => none }
def LostDiesWrongFalsely : Prop := lostDiesRow.holds Try.pinned (OpenSpec.ofChange lostDiesWrong)

/-- 'spoollaw14.LostRuns': WHATEVER THE INPUT: true; the input reads as it did. -/
def lostRunsSpec : ChangeSpec := { name := "lostRuns", fn := fun _ => fun
  | [d1, d2, d3] => { results := [.lit (.bool true)], args := [d1, d2, d3] }
  | _ => none }
def lostRunsRow : OpenClaim := { program := "ytbgjmlncdlcglaa", sum := "750f34149443a2078ab0c4183b9a92a9951f7ef6a42b413d3576ffd0236618d9", func := "spool/spoollaw14.LostRuns", spec := "lostRuns", unfollowed := true, recurses := true, apart := false }
def LostRunsSaid : Prop := lostRunsRow.holds Try.pinned (OpenSpec.ofChange lostRunsSpec)

/-- ITS FALSE NEIGHBOUR: 'it returns false'. Refute it at one input. -/
def lostRunsWrong : ChangeSpec := { name := "lostRuns", fn := fun _ => fun
  | [d1, d2, d3] => { results := [.lit (.bool false)], args := [d1, d2, d3] }
  | _ => none }
def LostRunsWrongFalsely : Prop := lostRunsRow.holds Try.pinned (OpenSpec.ofChange lostRunsWrong)

/-- 'spoollaw14.LostHalves': WHATEVER THE INPUT: true; the input reads as it did. -/
def lostHalvesSpec : ChangeSpec := { name := "lostHalves", fn := fun _ => fun
  | [d1, d2] => { results := [.lit (.bool true)], args := [d1, d2] }
  | _ => none }
def lostHalvesRow : OpenClaim := { program := "ytbgjmlncdlcglaa", sum := "750f34149443a2078ab0c4183b9a92a9951f7ef6a42b413d3576ffd0236618d9", func := "spool/spoollaw14.LostHalves", spec := "lostHalves", unfollowed := true, recurses := true, apart := false }
def LostHalvesSaid : Prop := lostHalvesRow.holds Try.pinned (OpenSpec.ofChange lostHalvesSpec)

/-- ITS FALSE NEIGHBOUR: 'it returns false'. Refute it at one input. -/
def lostHalvesWrong : ChangeSpec := { name := "lostHalves", fn := fun _ => fun
  | [d1, d2] => { results := [.lit (.bool false)], args := [d1, d2] }
  | _ => none }
def LostHalvesWrongFalsely : Prop := lostHalvesRow.holds Try.pinned (OpenSpec.ofChange lostHalvesWrong)

/-- 'spoollaw14.LostGaps': WHATEVER THE INPUT: true; the input reads as it did. -/
def lostGapsSpec : ChangeSpec := { name := "lostGaps", fn := fun _ => fun
  | [d1, d2] => { results := [.lit (.bool true)], args := [d1, d2] }
  | _ => none }
def lostGapsRow : OpenClaim := { program := "ytbgjmlncdlcglaa", sum := "750f34149443a2078ab0c4183b9a92a9951f7ef6a42b413d3576ffd0236618d9", func := "spool/spoollaw14.LostGaps", spec := "lostGaps", unfollowed := true, recurses := true, apart := false }
def LostGapsSaid : Prop := lostGapsRow.holds Try.pinned (OpenSpec.ofChange lostGapsSpec)

/-- ITS FALSE NEIGHBOUR: 'it returns false'. Refute it at one input. -/
def lostGapsWrong : ChangeSpec := { name := "lostGaps", fn := fun _ => fun
  | [d1, d2] => { results := [.lit (.bool false)], args := [d1, d2] }
  | _ => none }
def LostGapsWrongFalsely : Prop := lostGapsRow.holds Try.pinned (OpenSpec.ofChange lostGapsWrong)

/-- 'spoollaw12.StateNext': WHATEVER THE INPUT: true; the input reads as it did. -/
def stateNextSpec : ChangeSpec := { name := "stateNext", fn := fun _ => fun
  | [d1, d2, d3, d4] => { results := [.lit (.bool true)], args := [d1, d2, d3, d4] }
  | _ => none }
def stateNextRow : OpenClaim := { program := "ytbgjmlncdlcglaa", sum := "750f34149443a2078ab0c4183b9a92a9951f7ef6a42b413d3576ffd0236618d9", func := "spool/spoollaw12.StateNext", spec := "stateNext", inPlace := ["internal/abi.NoEscape"], unfollowed := true, recurses := true, apart := false }
def StateNextSaid : Prop := stateNextRow.holds Try.pinned (OpenSpec.ofChange stateNextSpec)

/-- ITS FALSE NEIGHBOUR: 'it returns false'. Refute it at one input. -/
def stateNextWrong : ChangeSpec := { name := "stateNext", fn := fun _ => fun
  | [d1, d2, d3, d4] => { results := [.lit (.bool false)], args := [d1, d2, d3, d4] }
  | _ => none }
def StateNextWrongFalsely : Prop := stateNextRow.holds Try.pinned (OpenSpec.ofChange stateNextWrong)

/-- 'spoollaw12.StatePlays': WHATEVER THE INPUT: true; the input reads as it did. -/
def statePlaysSpec : ChangeSpec := { name := "statePlays", fn := fun _ => fun
  | [d1, d2, d3, d4] => { results := [.lit (.bool true)], args := [d1, d2, d3, d4] }
  | _ => none }
def statePlaysRow : OpenClaim := { program := "ytbgjmlncdlcglaa", sum := "750f34149443a2078ab0c4183b9a92a9951f7ef6a42b413d3576ffd0236618d9", func := "spool/spoollaw12.StatePlays", spec := "statePlays", inPlace := ["internal/abi.NoEscape"], unfollowed := true, recurses := true, apart := false }
def StatePlaysSaid : Prop := statePlaysRow.holds Try.pinned (OpenSpec.ofChange statePlaysSpec)

/-- ITS FALSE NEIGHBOUR: 'it returns false'. Refute it at one input. -/
def statePlaysWrong : ChangeSpec := { name := "statePlays", fn := fun _ => fun
  | [d1, d2, d3, d4] => { results := [.lit (.bool false)], args := [d1, d2, d3, d4] }
  | _ => none }
def StatePlaysWrongFalsely : Prop := statePlaysRow.holds Try.pinned (OpenSpec.ofChange statePlaysWrong)

/-- 'spoollaw12.StateApart': WHATEVER THE INPUT: true; the input reads as it did. -/
def stateApartSpec : ChangeSpec := { name := "stateApart", fn := fun _ => fun
  | [d1, d2, d3] => { results := [.lit (.bool true)], args := [d1, d2, d3] }
  | _ => none }
def stateApartRow : OpenClaim := { program := "ytbgjmlncdlcglaa", sum := "750f34149443a2078ab0c4183b9a92a9951f7ef6a42b413d3576ffd0236618d9", func := "spool/spoollaw12.StateApart", spec := "stateApart", inPlace := ["internal/abi.NoEscape"], unfollowed := true, recurses := true, apart := false }
def StateApartSaid : Prop := stateApartRow.holds Try.pinned (OpenSpec.ofChange stateApartSpec)

/-- ITS FALSE NEIGHBOUR: 'it returns false'. Refute it at one input. -/
def stateApartWrong : ChangeSpec := { name := "stateApart", fn := fun _ => fun
  | [d1, d2, d3] => { results := [.lit (.bool false)], args := [d1, d2, d3] }
  | _ => none }
def StateApartWrongFalsely : Prop := stateApartRow.holds Try.pinned (OpenSpec.ofChange stateApartWrong)

/-- 'spoollaw12.StateQuiet': WHATEVER THE INPUT: true; the input reads as it did. -/
def stateQuietSpec : ChangeSpec := { name := "stateQuiet", fn := fun _ => fun
  | [d1, d2] => { results := [.lit (.bool true)], args := [d1, d2] }
  | _ => none }
def stateQuietRow : OpenClaim := { program := "ytbgjmlncdlcglaa", sum := "750f34149443a2078ab0c4183b9a92a9951f7ef6a42b413d3576ffd0236618d9", func := "spool/spoollaw12.StateQuiet", spec := "stateQuiet", inPlace := ["internal/abi.NoEscape"], unfollowed := true, recurses := true, apart := false }
def StateQuietSaid : Prop := stateQuietRow.holds Try.pinned (OpenSpec.ofChange stateQuietSpec)

/-- ITS FALSE NEIGHBOUR: 'it returns false'. Refute it at one input. -/
def stateQuietWrong : ChangeSpec := { name := "stateQuiet", fn := fun _ => fun
  | [d1, d2] => { results := [.lit (.bool false)], args := [d1, d2] }
  | _ => none }
def StateQuietWrongFalsely : Prop := stateQuietRow.holds Try.pinned (OpenSpec.ofChange stateQuietWrong)

/- THE SECOND FORM. 'bulk': how many values and letters a reading holds, each counted each time it is reached (what is shared counts as often as it is met; a slice's spare places count too). A statement '..UptoSaid' is the law's where the arguments, and the package variables that the reading takes, are together of bulk at most 1048576: NARROWER than '..Said'. Prove '..Said' where nothing that the law and all that it calls make is longer than what came in: it says more and counts as full. Else prove '..UptoSaid'. A law counts once. -/
mutual
def uptoBulk {H : Type} : DataW H → Nat
  | .lit (.string bytes) => bytes.length + 1
  | .lit _ => 1
  | .nil => 1
  | .ptr d => uptoBulk d + 1
  | .slice elems spare => uptoBulkAll elems + uptoBulkAll spare + 1
  | .agg parts => uptoBulkAll parts + 1
  | .iface _ d => uptoBulk d + 1
  | .map entries => uptoBulkEntries entries + 1
  | .held _ => 1
def uptoBulkAll {H : Type} : List (DataW H) → Nat
  | [] => 0
  | d :: r => uptoBulk d + uptoBulkAll r
def uptoBulkEntries {H : Type} : List (Lit × DataW H) → Nat
  | [] => 0
  | x :: r => uptoBulkEntry x + uptoBulkEntries r
def uptoBulkEntry {H : Type} : Lit × DataW H → Nat
  | (.string bytes, d) => bytes.length + uptoBulk d + 1
  | (_, d) => uptoBulk d + 1
 end
def uptoSmall : (H : Type) → List (DataW H) → Bool := fun _ ds => decide (uptoBulkAll ds ≤ 1048576)
def OpenSpec.upto (s : _root_.Go.ChangeSpec) : _root_.Go.OpenSpec := { _root_.Go.OpenSpec.ofChange s with cond := some uptoSmall }

/-- 'spoollaw20.EntrySizes', WHERE WHAT IT READS IS OF BULK AT MOST 1048576: true; the input reads as it did. -/
def entrySizesUptoRow : OpenClaim := { program := "ytbgjmlncdlcglaa", sum := "750f34149443a2078ab0c4183b9a92a9951f7ef6a42b413d3576ffd0236618d9", func := "spool/spoollaw20.EntrySizes", spec := "entrySizes", unfollowed := true, recurses := true, apart := false, narrowed := true }
def EntrySizesUptoSaid : Prop := entrySizesUptoRow.holds Try.pinned (OpenSpec.upto entrySizesSpec)

/-- 'spoollaw20.EntryBack', WHERE WHAT IT READS IS OF BULK AT MOST 1048576: true; the input reads as it did. -/
def entryBackUptoRow : OpenClaim := { program := "ytbgjmlncdlcglaa", sum := "750f34149443a2078ab0c4183b9a92a9951f7ef6a42b413d3576ffd0236618d9", func := "spool/spoollaw20.EntryBack", spec := "entryBack", unfollowed := true, recurses := true, apart := false, narrowed := true }
def EntryBackUptoSaid : Prop := entryBackUptoRow.holds Try.pinned (OpenSpec.upto entryBackSpec)

/-- 'spoollaw20.EntryOnly', WHERE WHAT IT READS IS OF BULK AT MOST 1048576: true; the input reads as it did. -/
def entryOnlyUptoRow : OpenClaim := { program := "ytbgjmlncdlcglaa", sum := "750f34149443a2078ab0c4183b9a92a9951f7ef6a42b413d3576ffd0236618d9", func := "spool/spoollaw20.EntryOnly", spec := "entryOnly", unfollowed := true, recurses := true, apart := false, narrowed := true }
def EntryOnlyUptoSaid : Prop := entryOnlyUptoRow.holds Try.pinned (OpenSpec.upto entryOnlySpec)

/-- 'spoollaw04.MdctAdds', WHERE WHAT IT READS IS OF BULK AT MOST 1048576: true; the input reads as it did. -/
def mdctAddsUptoRow : OpenClaim := { program := "ytbgjmlncdlcglaa", sum := "750f34149443a2078ab0c4183b9a92a9951f7ef6a42b413d3576ffd0236618d9", func := "spool/spoollaw04.MdctAdds", spec := "mdctAdds", unfollowed := true, recurses := true, apart := false, narrowed := true }
def MdctAddsUptoSaid : Prop := mdctAddsUptoRow.holds Try.pinned (OpenSpec.upto mdctAddsSpec)

/-- 'spoollaw12.StateBack', WHERE WHAT IT READS IS OF BULK AT MOST 1048576: true; the input reads as it did. -/
def stateBackUptoRow : OpenClaim := { program := "ytbgjmlncdlcglaa", sum := "750f34149443a2078ab0c4183b9a92a9951f7ef6a42b413d3576ffd0236618d9", func := "spool/spoollaw12.StateBack", spec := "stateBack", inPlace := ["internal/abi.NoEscape"], unfollowed := true, recurses := true, apart := false, narrowed := true }
def StateBackUptoSaid : Prop := stateBackUptoRow.holds Try.pinned (OpenSpec.upto stateBackSpec)

/-- 'spoollaw12.StateOnly', WHERE WHAT IT READS IS OF BULK AT MOST 1048576: true; the input reads as it did. -/
def stateOnlyUptoRow : OpenClaim := { program := "ytbgjmlncdlcglaa", sum := "750f34149443a2078ab0c4183b9a92a9951f7ef6a42b413d3576ffd0236618d9", func := "spool/spoollaw12.StateOnly", spec := "stateOnly", inPlace := ["internal/abi.NoEscape"], unfollowed := true, recurses := true, apart := false, narrowed := true }
def StateOnlyUptoSaid : Prop := stateOnlyUptoRow.holds Try.pinned (OpenSpec.upto stateOnlySpec)

/-- 'spoollaw04.MdctSizes', WHERE WHAT IT READS IS OF BULK AT MOST 1048576: true; the input reads as it did. -/
def mdctSizesUptoRow : OpenClaim := { program := "ytbgjmlncdlcglaa", sum := "750f34149443a2078ab0c4183b9a92a9951f7ef6a42b413d3576ffd0236618d9", func := "spool/spoollaw04.MdctSizes", spec := "mdctSizes", unfollowed := true, recurses := true, apart := false, narrowed := true }
def MdctSizesUptoSaid : Prop := mdctSizesUptoRow.holds Try.pinned (OpenSpec.upto mdctSizesSpec)

/-- 'spoollaw04.MdctLays', WHERE WHAT IT READS IS OF BULK AT MOST 1048576: true; the input reads as it did. -/
def mdctLaysUptoRow : OpenClaim := { program := "ytbgjmlncdlcglaa", sum := "750f34149443a2078ab0c4183b9a92a9951f7ef6a42b413d3576ffd0236618d9", func := "spool/spoollaw04.MdctLays", spec := "mdctLays", unfollowed := true, recurses := true, apart := false, narrowed := true }
def MdctLaysUptoSaid : Prop := mdctLaysUptoRow.holds Try.pinned (OpenSpec.upto mdctLaysSpec)

/-- 'spoollaw04.MdctOver', WHERE WHAT IT READS IS OF BULK AT MOST 1048576: true; the input reads as it did. -/
def mdctOverUptoRow : OpenClaim := { program := "ytbgjmlncdlcglaa", sum := "750f34149443a2078ab0c4183b9a92a9951f7ef6a42b413d3576ffd0236618d9", func := "spool/spoollaw04.MdctOver", spec := "mdctOver", unfollowed := true, recurses := true, apart := false, narrowed := true }
def MdctOverUptoSaid : Prop := mdctOverUptoRow.holds Try.pinned (OpenSpec.upto mdctOverSpec)

/-- 'spoollaw04.MdctPlays', WHERE WHAT IT READS IS OF BULK AT MOST 1048576: true; the input reads as it did. -/
def mdctPlaysUptoRow : OpenClaim := { program := "ytbgjmlncdlcglaa", sum := "750f34149443a2078ab0c4183b9a92a9951f7ef6a42b413d3576ffd0236618d9", func := "spool/spoollaw04.MdctPlays", spec := "mdctPlays", unfollowed := true, recurses := true, apart := false, narrowed := true }
def MdctPlaysUptoSaid : Prop := mdctPlaysUptoRow.holds Try.pinned (OpenSpec.upto mdctPlaysSpec)

/-- 'spoollaw20.EntryMakes', WHERE WHAT IT READS IS OF BULK AT MOST 1048576: true; the input reads as it did. -/
def entryMakesUptoRow : OpenClaim := { program := "ytbgjmlncdlcglaa", sum := "750f34149443a2078ab0c4183b9a92a9951f7ef6a42b413d3576ffd0236618d9", func := "spool/spoollaw20.EntryMakes", spec := "entryMakes", inPlace := ["internal/abi.NoEscape"], unfollowed := true, recurses := true, apart := false, narrowed := true }
def EntryMakesUptoSaid : Prop := entryMakesUptoRow.holds Try.pinned (OpenSpec.upto entryMakesSpec)

/-- 'spoollaw14.LostPlays', WHERE WHAT IT READS IS OF BULK AT MOST 1048576: true; the input reads as it did. -/
def lostPlaysUptoRow : OpenClaim := { program := "ytbgjmlncdlcglaa", sum := "750f34149443a2078ab0c4183b9a92a9951f7ef6a42b413d3576ffd0236618d9", func := "spool/spoollaw14.LostPlays", spec := "lostPlays", unfollowed := true, recurses := true, apart := false, narrowed := true }
def LostPlaysUptoSaid : Prop := lostPlaysUptoRow.holds Try.pinned (OpenSpec.upto lostPlaysSpec)

/-- 'spoollaw20.EntryPlays', WHERE WHAT IT READS IS OF BULK AT MOST 1048576: true; the input reads as it did. -/
def entryPlaysUptoRow : OpenClaim := { program := "ytbgjmlncdlcglaa", sum := "750f34149443a2078ab0c4183b9a92a9951f7ef6a42b413d3576ffd0236618d9", func := "spool/spoollaw20.EntryPlays", spec := "entryPlays", inPlace := ["internal/abi.NoEscape"], unfollowed := true, recurses := true, apart := false, narrowed := true }
def EntryPlaysUptoSaid : Prop := entryPlaysUptoRow.holds Try.pinned (OpenSpec.upto entryPlaysSpec)

/-- 'spoollaw14.LostDies', WHERE WHAT IT READS IS OF BULK AT MOST 1048576: true; the input reads as it did. -/
def lostDiesUptoRow : OpenClaim := { program := "ytbgjmlncdlcglaa", sum := "750f34149443a2078ab0c4183b9a92a9951f7ef6a42b413d3576ffd0236618d9", func := "spool/spoollaw14.LostDies", spec := "lostDies", unfollowed := true, recurses := true, apart := false, narrowed := true }
def LostDiesUptoSaid : Prop := lostDiesUptoRow.holds Try.pinned (OpenSpec.upto lostDiesSpec)

/-- 'spoollaw14.LostRuns', WHERE WHAT IT READS IS OF BULK AT MOST 1048576: true; the input reads as it did. -/
def lostRunsUptoRow : OpenClaim := { program := "ytbgjmlncdlcglaa", sum := "750f34149443a2078ab0c4183b9a92a9951f7ef6a42b413d3576ffd0236618d9", func := "spool/spoollaw14.LostRuns", spec := "lostRuns", unfollowed := true, recurses := true, apart := false, narrowed := true }
def LostRunsUptoSaid : Prop := lostRunsUptoRow.holds Try.pinned (OpenSpec.upto lostRunsSpec)

/-- 'spoollaw14.LostHalves', WHERE WHAT IT READS IS OF BULK AT MOST 1048576: true; the input reads as it did. -/
def lostHalvesUptoRow : OpenClaim := { program := "ytbgjmlncdlcglaa", sum := "750f34149443a2078ab0c4183b9a92a9951f7ef6a42b413d3576ffd0236618d9", func := "spool/spoollaw14.LostHalves", spec := "lostHalves", unfollowed := true, recurses := true, apart := false, narrowed := true }
def LostHalvesUptoSaid : Prop := lostHalvesUptoRow.holds Try.pinned (OpenSpec.upto lostHalvesSpec)

/-- 'spoollaw14.LostGaps', WHERE WHAT IT READS IS OF BULK AT MOST 1048576: true; the input reads as it did. -/
def lostGapsUptoRow : OpenClaim := { program := "ytbgjmlncdlcglaa", sum := "750f34149443a2078ab0c4183b9a92a9951f7ef6a42b413d3576ffd0236618d9", func := "spool/spoollaw14.LostGaps", spec := "lostGaps", unfollowed := true, recurses := true, apart := false, narrowed := true }
def LostGapsUptoSaid : Prop := lostGapsUptoRow.holds Try.pinned (OpenSpec.upto lostGapsSpec)

/-- 'spoollaw12.StateNext', WHERE WHAT IT READS IS OF BULK AT MOST 1048576: true; the input reads as it did. -/
def stateNextUptoRow : OpenClaim := { program := "ytbgjmlncdlcglaa", sum := "750f34149443a2078ab0c4183b9a92a9951f7ef6a42b413d3576ffd0236618d9", func := "spool/spoollaw12.StateNext", spec := "stateNext", inPlace := ["internal/abi.NoEscape"], unfollowed := true, recurses := true, apart := false, narrowed := true }
def StateNextUptoSaid : Prop := stateNextUptoRow.holds Try.pinned (OpenSpec.upto stateNextSpec)

/-- 'spoollaw12.StatePlays', WHERE WHAT IT READS IS OF BULK AT MOST 1048576: true; the input reads as it did. -/
def statePlaysUptoRow : OpenClaim := { program := "ytbgjmlncdlcglaa", sum := "750f34149443a2078ab0c4183b9a92a9951f7ef6a42b413d3576ffd0236618d9", func := "spool/spoollaw12.StatePlays", spec := "statePlays", inPlace := ["internal/abi.NoEscape"], unfollowed := true, recurses := true, apart := false, narrowed := true }
def StatePlaysUptoSaid : Prop := statePlaysUptoRow.holds Try.pinned (OpenSpec.upto statePlaysSpec)

/-- 'spoollaw12.StateApart', WHERE WHAT IT READS IS OF BULK AT MOST 1048576: true; the input reads as it did. -/
def stateApartUptoRow : OpenClaim := { program := "ytbgjmlncdlcglaa", sum := "750f34149443a2078ab0c4183b9a92a9951f7ef6a42b413d3576ffd0236618d9", func := "spool/spoollaw12.StateApart", spec := "stateApart", inPlace := ["internal/abi.NoEscape"], unfollowed := true, recurses := true, apart := false, narrowed := true }
def StateApartUptoSaid : Prop := stateApartUptoRow.holds Try.pinned (OpenSpec.upto stateApartSpec)

/-- 'spoollaw12.StateQuiet', WHERE WHAT IT READS IS OF BULK AT MOST 1048576: true; the input reads as it did. -/
def stateQuietUptoRow : OpenClaim := { program := "ytbgjmlncdlcglaa", sum := "750f34149443a2078ab0c4183b9a92a9951f7ef6a42b413d3576ffd0236618d9", func := "spool/spoollaw12.StateQuiet", spec := "stateQuiet", inPlace := ["internal/abi.NoEscape"], unfollowed := true, recurses := true, apart := false, narrowed := true }
def StateQuietUptoSaid : Prop := stateQuietUptoRow.holds Try.pinned (OpenSpec.upto stateQuietSpec)

end Rows
end Go.Proofs.Ytbgjmlncdlcglaa
