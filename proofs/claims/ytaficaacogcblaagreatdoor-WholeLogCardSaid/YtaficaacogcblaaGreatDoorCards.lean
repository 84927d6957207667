/-
  DERIVED. GIVEN WITH THE SEED: THE CARDS: each row of YtaficaacogcblaaGreatDoorRows.lean that lists a variable, with what it lists TIED to the program's text (the seventh form; the later family's looks); each row that meets fmt, with fmt's text TOLD by the authors' own Lean function (tested against real Go, not proved from fmt's source: count such statements apart). THE CARD IS WHAT COUNTS. Prove the row's statement (the work); the ties are given (YtaficaacogcblaaGreatDoorTie.lean); close each card by the builder's one call (the guide's Derived/Test/ToyasCard.lean, 'card_holds'). Laid BY PROGRAM, IN A SANDBOX (cutbox-door.mjs). By AI agents, Wed Nov 11 2026. No macro, syntax, notation, axiom, sorry.
-/
import Derived.Test.YtaficaacogcblaaGreatDoorRows
import GoSem.ClaimSeven
namespace Go.Proofs.YtaficaacogcblaaGreatDoor
namespace Rows

/-- THE TIED CARD OF 'spooltop.WholeLog'. -/
def wholeLogCard : Claim7 := { stood := { row := wholeLogRow, standIns := [], harness := (true, "a97a970a1996346510ae238d958e334796f264de9f210c4d3cf7bcea69e09a99"), looks := true }, kinds := [], alts := [], laidByText := true, laidKinds := [.data], laidTests := true, laidLooks := .later }
def WholeLogCardSaid : Prop := Claim7.holds Tryz.pinned (.plain (OpenSpec.ofChange wholeLogSpec)) wholeLogCard

/-- THE TIED CARD OF 'spooltop.WholeWay'. -/
def wholeWayCard : Claim7 := { stood := { row := wholeWayRow, standIns := [], harness := (true, "a97a970a1996346510ae238d958e334796f264de9f210c4d3cf7bcea69e09a99"), looks := true }, kinds := [], alts := [], laidByText := true, laidKinds := [.data, .data, .pinned], laidTests := true, laidLooks := .later }
def WholeWayCardSaid : Prop := Claim7.holds Tryz.pinned (.plain (OpenSpec.ofChange wholeWaySpec)) wholeWayCard

/-- THE SECOND FORM's CARD OF 'spooltop.WholeLog'. -/
def wholeLogUptoCard : Claim7 := { stood := { row := wholeLogUptoRow, standIns := [], harness := (true, "a97a970a1996346510ae238d958e334796f264de9f210c4d3cf7bcea69e09a99"), looks := true }, kinds := [], alts := [], laidByText := true, laidKinds := [.data], laidTests := true, laidLooks := .later }
def WholeLogUptoCardSaid : Prop := Claim7.holds Tryz.pinned (.plain (OpenSpec.upto wholeLogSpec)) wholeLogUptoCard

/-- THE SECOND FORM's CARD OF 'spooltop.WholeWay'. -/
def wholeWayUptoCard : Claim7 := { stood := { row := wholeWayUptoRow, standIns := [], harness := (true, "a97a970a1996346510ae238d958e334796f264de9f210c4d3cf7bcea69e09a99"), looks := true }, kinds := [], alts := [], laidByText := true, laidKinds := [.data, .data, .pinned], laidTests := true, laidLooks := .later }
def WholeWayUptoCardSaid : Prop := Claim7.holds Tryz.pinned (.plain (OpenSpec.upto wholeWaySpec)) wholeWayUptoCard
end Rows
end Go.Proofs.YtaficaacogcblaaGreatDoor
