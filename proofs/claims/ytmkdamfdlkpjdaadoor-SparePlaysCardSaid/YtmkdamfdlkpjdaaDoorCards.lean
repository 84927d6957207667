/-
  DERIVED. GIVEN WITH THE SEED: THE CARDS: each row of YtmkdamfdlkpjdaaDoorRows.lean that lists a variable, with what it lists TIED to the program's text (the seventh form; the later family's looks); each row that meets fmt, with fmt's text TOLD by the authors' own Lean function (tested against real Go, not proved from fmt's source: count such statements apart). THE CARD IS WHAT COUNTS. Prove the row's statement (the work); the ties are given (YtmkdamfdlkpjdaaDoorTie.lean); close each card by the builder's one call (the guide's Derived/Test/ToyasCard.lean, 'card_holds'). Laid BY PROGRAM, IN A SANDBOX (cutbox-door.mjs). By AI agents, Wed Nov 11 2026. No macro, syntax, notation, axiom, sorry.
-/
import Derived.Test.YtmkdamfdlkpjdaaDoorRows
import GoSem.ClaimSeven
namespace Go.Proofs.YtmkdamfdlkpjdaaDoor
namespace Rows

/-- THE TIED CARD OF 'spoollaw06.LevelLoud'. -/
def levelLoudCard : Claim7 := { stood := { row := levelLoudRow, standIns := [], harness := (true, "2b4961c2c577cae06b8a7e79c0f8f26986b085144b37f6f29cec7ad16258b092"), looks := false }, kinds := [], alts := [], laidByText := true, laidKinds := [.data], laidTests := true, laidLooks := .later }
def LevelLoudCardSaid : Prop := Claim7.holds Tryd.pinned (.plain (OpenSpec.ofChange levelLoudSpec)) levelLoudCard

/-- THE TIED CARD OF 'spoollaw06.LevelPuts'. -/
def levelPutsCard : Claim7 := { stood := { row := levelPutsRow, standIns := [], harness := (true, "2b4961c2c577cae06b8a7e79c0f8f26986b085144b37f6f29cec7ad16258b092"), looks := false }, kinds := [], alts := [], laidByText := true, laidKinds := [.data], laidTests := true, laidLooks := .later }
def LevelPutsCardSaid : Prop := Claim7.holds Tryd.pinned (.plain (OpenSpec.ofChange levelPutsSpec)) levelPutsCard

/-- THE TIED CARD OF 'spoollaw06.LevelParts'. -/
def levelPartsCard : Claim7 := { stood := { row := levelPartsRow, standIns := [], harness := (true, "2b4961c2c577cae06b8a7e79c0f8f26986b085144b37f6f29cec7ad16258b092"), looks := false }, kinds := [], alts := [], laidByText := true, laidKinds := [.data], laidTests := true, laidLooks := .later }
def LevelPartsCardSaid : Prop := Claim7.holds Tryd.pinned (.plain (OpenSpec.ofChange levelPartsSpec)) levelPartsCard

/-- THE TIED CARD OF 'spoollaw06.LevelFills'. -/
def levelFillsCard : Claim7 := { stood := { row := levelFillsRow, standIns := [], harness := (true, "2b4961c2c577cae06b8a7e79c0f8f26986b085144b37f6f29cec7ad16258b092"), looks := false }, kinds := [], alts := [], laidByText := true, laidKinds := [.data], laidTests := true, laidLooks := .later }
def LevelFillsCardSaid : Prop := Claim7.holds Tryd.pinned (.plain (OpenSpec.ofChange levelFillsSpec)) levelFillsCard

/-- THE TIED CARD OF 'spoollaw06.LevelPlays'. -/
def levelPlaysCard : Claim7 := { stood := { row := levelPlaysRow, standIns := [], harness := (true, "2b4961c2c577cae06b8a7e79c0f8f26986b085144b37f6f29cec7ad16258b092"), looks := false }, kinds := [], alts := [], laidByText := true, laidKinds := [.data], laidTests := true, laidLooks := .later }
def LevelPlaysCardSaid : Prop := Claim7.holds Tryd.pinned (.plain (OpenSpec.ofChange levelPlaysSpec)) levelPlaysCard

/-- THE TIED CARD OF 'spoollaw06.LevelSigns'. -/
def levelSignsCard : Claim7 := { stood := { row := levelSignsRow, standIns := [], harness := (true, "2b4961c2c577cae06b8a7e79c0f8f26986b085144b37f6f29cec7ad16258b092"), looks := false }, kinds := [], alts := [], laidByText := true, laidKinds := [.data], laidTests := true, laidLooks := .later }
def LevelSignsCardSaid : Prop := Claim7.holds Tryd.pinned (.plain (OpenSpec.ofChange levelSignsSpec)) levelSignsCard

/-- THE TIED CARD OF 'spoollaw11.SpareSame'. -/
def spareSameCard : Claim7 := { stood := { row := spareSameRow, standIns := [], harness := (true, "2b4961c2c577cae06b8a7e79c0f8f26986b085144b37f6f29cec7ad16258b092"), looks := false }, kinds := [], alts := [], laidByText := true, laidKinds := [.data], laidTests := true, laidLooks := .later }
def SpareSameCardSaid : Prop := Claim7.holds Tryd.pinned (.plain (OpenSpec.ofChange spareSameSpec)) spareSameCard

/-- THE TIED CARD OF 'spoollaw11.SpareAlone'. -/
def spareAloneCard : Claim7 := { stood := { row := spareAloneRow, standIns := [], harness := (true, "2b4961c2c577cae06b8a7e79c0f8f26986b085144b37f6f29cec7ad16258b092"), looks := false }, kinds := [], alts := [], laidByText := true, laidKinds := [.data], laidTests := true, laidLooks := .later }
def SpareAloneCardSaid : Prop := Claim7.holds Tryd.pinned (.plain (OpenSpec.ofChange spareAloneSpec)) spareAloneCard

/-- THE TIED CARD OF 'spoollaw11.SpareRooms'. -/
def spareRoomsCard : Claim7 := { stood := { row := spareRoomsRow, standIns := [], harness := (true, "2b4961c2c577cae06b8a7e79c0f8f26986b085144b37f6f29cec7ad16258b092"), looks := false }, kinds := [], alts := [], laidByText := true, laidKinds := [.data], laidTests := true, laidLooks := .later }
def SpareRoomsCardSaid : Prop := Claim7.holds Tryd.pinned (.plain (OpenSpec.ofChange spareRoomsSpec)) spareRoomsCard

/-- THE TIED CARD OF 'spoollaw11.SpareFits'. -/
def spareFitsCard : Claim7 := { stood := { row := spareFitsRow, standIns := [], harness := (true, "2b4961c2c577cae06b8a7e79c0f8f26986b085144b37f6f29cec7ad16258b092"), looks := false }, kinds := [], alts := [], laidByText := true, laidKinds := [.data], laidTests := true, laidLooks := .later }
def SpareFitsCardSaid : Prop := Claim7.holds Tryd.pinned (.plain (OpenSpec.ofChange spareFitsSpec)) spareFitsCard

/-- THE TIED CARD OF 'spoollaw11.SparePlays'. -/
def sparePlaysCard : Claim7 := { stood := { row := sparePlaysRow, standIns := [], harness := (true, "2b4961c2c577cae06b8a7e79c0f8f26986b085144b37f6f29cec7ad16258b092"), looks := false }, kinds := [], alts := [], laidByText := true, laidKinds := [.data], laidTests := true, laidLooks := .later }
def SparePlaysCardSaid : Prop := Claim7.holds Tryd.pinned (.plain (OpenSpec.ofChange sparePlaysSpec)) sparePlaysCard

/-- THE SECOND FORM's CARD OF 'spoollaw06.LevelLoud'. -/
def levelLoudUptoCard : Claim7 := { stood := { row := levelLoudUptoRow, standIns := [], harness := (true, "2b4961c2c577cae06b8a7e79c0f8f26986b085144b37f6f29cec7ad16258b092"), looks := false }, kinds := [], alts := [], laidByText := true, laidKinds := [.data], laidTests := true, laidLooks := .later }
def LevelLoudUptoCardSaid : Prop := Claim7.holds Tryd.pinned (.plain (OpenSpec.upto levelLoudSpec)) levelLoudUptoCard

/-- THE SECOND FORM's CARD OF 'spoollaw06.LevelPuts'. -/
def levelPutsUptoCard : Claim7 := { stood := { row := levelPutsUptoRow, standIns := [], harness := (true, "2b4961c2c577cae06b8a7e79c0f8f26986b085144b37f6f29cec7ad16258b092"), looks := false }, kinds := [], alts := [], laidByText := true, laidKinds := [.data], laidTests := true, laidLooks := .later }
def LevelPutsUptoCardSaid : Prop := Claim7.holds Tryd.pinned (.plain (OpenSpec.upto levelPutsSpec)) levelPutsUptoCard

/-- THE SECOND FORM's CARD OF 'spoollaw06.LevelParts'. -/
def levelPartsUptoCard : Claim7 := { stood := { row := levelPartsUptoRow, standIns := [], harness := (true, "2b4961c2c577cae06b8a7e79c0f8f26986b085144b37f6f29cec7ad16258b092"), looks := false }, kinds := [], alts := [], laidByText := true, laidKinds := [.data], laidTests := true, laidLooks := .later }
def LevelPartsUptoCardSaid : Prop := Claim7.holds Tryd.pinned (.plain (OpenSpec.upto levelPartsSpec)) levelPartsUptoCard

/-- THE SECOND FORM's CARD OF 'spoollaw06.LevelFills'. -/
def levelFillsUptoCard : Claim7 := { stood := { row := levelFillsUptoRow, standIns := [], harness := (true, "2b4961c2c577cae06b8a7e79c0f8f26986b085144b37f6f29cec7ad16258b092"), looks := false }, kinds := [], alts := [], laidByText := true, laidKinds := [.data], laidTests := true, laidLooks := .later }
def LevelFillsUptoCardSaid : Prop := Claim7.holds Tryd.pinned (.plain (OpenSpec.upto levelFillsSpec)) levelFillsUptoCard

/-- THE SECOND FORM's CARD OF 'spoollaw06.LevelPlays'. -/
def levelPlaysUptoCard : Claim7 := { stood := { row := levelPlaysUptoRow, standIns := [], harness := (true, "2b4961c2c577cae06b8a7e79c0f8f26986b085144b37f6f29cec7ad16258b092"), looks := false }, kinds := [], alts := [], laidByText := true, laidKinds := [.data], laidTests := true, laidLooks := .later }
def LevelPlaysUptoCardSaid : Prop := Claim7.holds Tryd.pinned (.plain (OpenSpec.upto levelPlaysSpec)) levelPlaysUptoCard

/-- THE SECOND FORM's CARD OF 'spoollaw06.LevelSigns'. -/
def levelSignsUptoCard : Claim7 := { stood := { row := levelSignsUptoRow, standIns := [], harness := (true, "2b4961c2c577cae06b8a7e79c0f8f26986b085144b37f6f29cec7ad16258b092"), looks := false }, kinds := [], alts := [], laidByText := true, laidKinds := [.data], laidTests := true, laidLooks := .later }
def LevelSignsUptoCardSaid : Prop := Claim7.holds Tryd.pinned (.plain (OpenSpec.upto levelSignsSpec)) levelSignsUptoCard

/-- THE SECOND FORM's CARD OF 'spoollaw11.SpareSame'. -/
def spareSameUptoCard : Claim7 := { stood := { row := spareSameUptoRow, standIns := [], harness := (true, "2b4961c2c577cae06b8a7e79c0f8f26986b085144b37f6f29cec7ad16258b092"), looks := false }, kinds := [], alts := [], laidByText := true, laidKinds := [.data], laidTests := true, laidLooks := .later }
def SpareSameUptoCardSaid : Prop := Claim7.holds Tryd.pinned (.plain (OpenSpec.upto spareSameSpec)) spareSameUptoCard

/-- THE SECOND FORM's CARD OF 'spoollaw11.SpareAlone'. -/
def spareAloneUptoCard : Claim7 := { stood := { row := spareAloneUptoRow, standIns := [], harness := (true, "2b4961c2c577cae06b8a7e79c0f8f26986b085144b37f6f29cec7ad16258b092"), looks := false }, kinds := [], alts := [], laidByText := true, laidKinds := [.data], laidTests := true, laidLooks := .later }
def SpareAloneUptoCardSaid : Prop := Claim7.holds Tryd.pinned (.plain (OpenSpec.upto spareAloneSpec)) spareAloneUptoCard

/-- THE SECOND FORM's CARD OF 'spoollaw11.SpareRooms'. -/
def spareRoomsUptoCard : Claim7 := { stood := { row := spareRoomsUptoRow, standIns := [], harness := (true, "2b4961c2c577cae06b8a7e79c0f8f26986b085144b37f6f29cec7ad16258b092"), looks := false }, kinds := [], alts := [], laidByText := true, laidKinds := [.data], laidTests := true, laidLooks := .later }
def SpareRoomsUptoCardSaid : Prop := Claim7.holds Tryd.pinned (.plain (OpenSpec.upto spareRoomsSpec)) spareRoomsUptoCard

/-- THE SECOND FORM's CARD OF 'spoollaw11.SpareFits'. -/
def spareFitsUptoCard : Claim7 := { stood := { row := spareFitsUptoRow, standIns := [], harness := (true, "2b4961c2c577cae06b8a7e79c0f8f26986b085144b37f6f29cec7ad16258b092"), looks := false }, kinds := [], alts := [], laidByText := true, laidKinds := [.data], laidTests := true, laidLooks := .later }
def SpareFitsUptoCardSaid : Prop := Claim7.holds Tryd.pinned (.plain (OpenSpec.upto spareFitsSpec)) spareFitsUptoCard

/-- THE SECOND FORM's CARD OF 'spoollaw11.SparePlays'. -/
def sparePlaysUptoCard : Claim7 := { stood := { row := sparePlaysUptoRow, standIns := [], harness := (true, "2b4961c2c577cae06b8a7e79c0f8f26986b085144b37f6f29cec7ad16258b092"), looks := false }, kinds := [], alts := [], laidByText := true, laidKinds := [.data], laidTests := true, laidLooks := .later }
def SparePlaysUptoCardSaid : Prop := Claim7.holds Tryd.pinned (.plain (OpenSpec.upto sparePlaysSpec)) sparePlaysUptoCard
end Rows
end Go.Proofs.YtmkdamfdlkpjdaaDoor
