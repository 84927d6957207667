/-
  NARROWER THAN 'FOR EVERY INPUT', by the rows' own cells (each row's printed sentence says how): LevelLoud: laid · LevelPuts: laid · LevelParts: laid · LevelFills: laid · LevelPlays: laid · LevelSigns: laid · SpareSame: laid · SpareAlone: laid · SpareRooms: laid · SpareFits: laid · SparePlays: laid.
  DERIVED. THE GIVEN ROWS OF THIS SEAT. 11 by the template 'for every input the law returns true; each argument reads behind the call as it read before'; 0 by the template 'total and deterministic' (their statements: YtmkdamfdlkpjdaaDoorTotals.lean).
  GIVEN WITH THE SEED: the statements are not yours to turn. If you find one false, say at which input.
  Laid BY PROGRAM, IN A SANDBOX (cutbox-rows.mjs): the forced cells as the released guide's own fill.sh prints them over the translation b2f6f76d168d5357… (all of the seat's roots in one cut). By AI agents, Wed Nov 11 2026. No macro, syntax, notation, axiom, sorry.
-/
import Derived.Test.YtmkdamfdlkpjdaaDoorChecked
import GoSem.Claim
import GoSem.ClaimJoined
import GoSem.ClaimMapViews
import Derived.JoinedTies
import Derived.KernelRfl
namespace Go.Proofs.YtmkdamfdlkpjdaaDoor
/- THE CELL 'sum', in the pinned program and in every row, IS THE sha256 OF THE DUMP (.gsa) THAT YtmkdamfdlkpjdaaDoorProg.lean LOADS. Nothing in Lean hashes anything: it is a label: what it is worth is what the hold of that sum in a sandbox is worth. -/
noncomputable def Tryd.pinned : Pinned := { name := "ytmkdamfdlkpjdaadoor", sum := "b2f6f76d168d5357dd83c98fc98cc1b6602be23e61360cd5e4507ceb26113940", checked := Tryd.checked }
namespace Rows
def none {H : Type} : Left H := { results := [], args := [] }

/- WHAT THE LISTED PACKAGE-LEVEL VARIABLES READ AS WHEN THE CALL BEGINS. Each datum BY PROGRAM (the guide's laid-datum.mjs) off the statement by which the dump's own 'gosem.cut.vars' lays the variable. In a bare row this is a premise. The card (YtmkdamfdlkpjdaaDoorCards.lean) ties it to the program's text. -/
def laid_spool_level_first {H : Type} : DataW H := .agg [.lit (.int .i64 0), .lit (.int .i64 2), .lit (.int .i64 4), .lit (.int .i64 8), .lit (.int .i64 16)]

/-- 'spoollaw06.LevelLoud': WHATEVER THE INPUT: true; the input reads as it did. -/
def levelLoudSpec : ChangeSpec := { name := "levelLoud", fn := fun _ => fun
  | [d] => { results := [.lit (.bool true)], args := [d] }
  | _ => none }
def levelLoudRow : OpenClaim := { program := "ytmkdamfdlkpjdaadoor", sum := "b2f6f76d168d5357dd83c98fc98cc1b6602be23e61360cd5e4507ceb26113940", func := "spool/spoollaw06.LevelLoud", spec := "levelLoud", named := ["spool/level.first"], plainKeys := false, apart := false, laid := [("spool/level.first", laid_spool_level_first)] }
def LevelLoudSaid : Prop := levelLoudRow.holds Tryd.pinned (OpenSpec.ofChange levelLoudSpec)

/-- ITS FALSE NEIGHBOUR: 'it returns false'. Refute it at one input. -/
def levelLoudWrong : ChangeSpec := { name := "levelLoud", fn := fun _ => fun
  | [d] => { results := [.lit (.bool false)], args := [d] }
  | _ => none }
def LevelLoudWrongFalsely : Prop := levelLoudRow.holds Tryd.pinned (OpenSpec.ofChange levelLoudWrong)

/-- 'spoollaw06.LevelPuts': WHATEVER THE INPUT: true; the input reads as it did. -/
def levelPutsSpec : ChangeSpec := { name := "levelPuts", fn := fun _ => fun
  | [d1, d2, d3] => { results := [.lit (.bool true)], args := [d1, d2, d3] }
  | _ => none }
def levelPutsRow : OpenClaim := { program := "ytmkdamfdlkpjdaadoor", sum := "b2f6f76d168d5357dd83c98fc98cc1b6602be23e61360cd5e4507ceb26113940", func := "spool/spoollaw06.LevelPuts", spec := "levelPuts", named := ["spool/level.first"], plainKeys := false, apart := false, laid := [("spool/level.first", laid_spool_level_first)] }
def LevelPutsSaid : Prop := levelPutsRow.holds Tryd.pinned (OpenSpec.ofChange levelPutsSpec)

/-- ITS FALSE NEIGHBOUR: 'it returns false'. Refute it at one input. -/
def levelPutsWrong : ChangeSpec := { name := "levelPuts", fn := fun _ => fun
  | [d1, d2, d3] => { results := [.lit (.bool false)], args := [d1, d2, d3] }
  | _ => none }
def LevelPutsWrongFalsely : Prop := levelPutsRow.holds Tryd.pinned (OpenSpec.ofChange levelPutsWrong)

/-- 'spoollaw06.LevelParts': WHATEVER THE INPUT: true; the input reads as it did. -/
def levelPartsSpec : ChangeSpec := { name := "levelParts", fn := fun _ => fun
  | [d] => { results := [.lit (.bool true)], args := [d] }
  | _ => none }
def levelPartsRow : OpenClaim := { program := "ytmkdamfdlkpjdaadoor", sum := "b2f6f76d168d5357dd83c98fc98cc1b6602be23e61360cd5e4507ceb26113940", func := "spool/spoollaw06.LevelParts", spec := "levelParts", named := ["spool/level.first"], plainKeys := false, apart := false, laid := [("spool/level.first", laid_spool_level_first)] }
def LevelPartsSaid : Prop := levelPartsRow.holds Tryd.pinned (OpenSpec.ofChange levelPartsSpec)

/-- ITS FALSE NEIGHBOUR: 'it returns false'. Refute it at one input. -/
def levelPartsWrong : ChangeSpec := { name := "levelParts", fn := fun _ => fun
  | [d] => { results := [.lit (.bool false)], args := [d] }
  | _ => none }
def LevelPartsWrongFalsely : Prop := levelPartsRow.holds Tryd.pinned (OpenSpec.ofChange levelPartsWrong)

/-- 'spoollaw06.LevelFills': WHATEVER THE INPUT: true; the input reads as it did. -/
def levelFillsSpec : ChangeSpec := { name := "levelFills", fn := fun _ => fun
  | [d1, d2] => { results := [.lit (.bool true)], args := [d1, d2] }
  | _ => none }
def levelFillsRow : OpenClaim := { program := "ytmkdamfdlkpjdaadoor", sum := "b2f6f76d168d5357dd83c98fc98cc1b6602be23e61360cd5e4507ceb26113940", func := "spool/spoollaw06.LevelFills", spec := "levelFills", unfollowed := true, recurses := true, named := ["spool/level.first"], plainKeys := false, apart := false, laid := [("spool/level.first", laid_spool_level_first)] }
def LevelFillsSaid : Prop := levelFillsRow.holds Tryd.pinned (OpenSpec.ofChange levelFillsSpec)

/-- ITS FALSE NEIGHBOUR: 'it returns false'. Refute it at one input. -/
def levelFillsWrong : ChangeSpec := { name := "levelFills", fn := fun _ => fun
  | [d1, d2] => { results := [.lit (.bool false)], args := [d1, d2] }
  | _ => none }
def LevelFillsWrongFalsely : Prop := levelFillsRow.holds Tryd.pinned (OpenSpec.ofChange levelFillsWrong)

/-- 'spoollaw06.LevelPlays': WHATEVER THE INPUT: true; the input reads as it did. -/
def levelPlaysSpec : ChangeSpec := { name := "levelPlays", fn := fun _ => fun
  | [d1, d2, d3] => { results := [.lit (.bool true)], args := [d1, d2, d3] }
  | _ => none }
def levelPlaysRow : OpenClaim := { program := "ytmkdamfdlkpjdaadoor", sum := "b2f6f76d168d5357dd83c98fc98cc1b6602be23e61360cd5e4507ceb26113940", func := "spool/spoollaw06.LevelPlays", spec := "levelPlays", unfollowed := true, recurses := true, named := ["spool/level.first"], plainKeys := false, apart := false, laid := [("spool/level.first", laid_spool_level_first)] }
def LevelPlaysSaid : Prop := levelPlaysRow.holds Tryd.pinned (OpenSpec.ofChange levelPlaysSpec)

/-- ITS FALSE NEIGHBOUR: 'it returns false'. Refute it at one input. -/
def levelPlaysWrong : ChangeSpec := { name := "levelPlays", fn := fun _ => fun
  | [d1, d2, d3] => { results := [.lit (.bool false)], args := [d1, d2, d3] }
  | _ => none }
def LevelPlaysWrongFalsely : Prop := levelPlaysRow.holds Tryd.pinned (OpenSpec.ofChange levelPlaysWrong)

/-- 'spoollaw06.LevelSigns': WHATEVER THE INPUT: true; the input reads as it did. -/
def levelSignsSpec : ChangeSpec := { name := "levelSigns", fn := fun _ => fun
  | [d1, d2] => { results := [.lit (.bool true)], args := [d1, d2] }
  | _ => none }
def levelSignsRow : OpenClaim := { program := "ytmkdamfdlkpjdaadoor", sum := "b2f6f76d168d5357dd83c98fc98cc1b6602be23e61360cd5e4507ceb26113940", func := "spool/spoollaw06.LevelSigns", spec := "levelSigns", unfollowed := true, recurses := true, named := ["spool/level.first"], plainKeys := false, apart := false, laid := [("spool/level.first", laid_spool_level_first)] }
def LevelSignsSaid : Prop := levelSignsRow.holds Tryd.pinned (OpenSpec.ofChange levelSignsSpec)

/-- ITS FALSE NEIGHBOUR: 'it returns false'. Refute it at one input. -/
def levelSignsWrong : ChangeSpec := { name := "levelSigns", fn := fun _ => fun
  | [d1, d2] => { results := [.lit (.bool false)], args := [d1, d2] }
  | _ => none }
def LevelSignsWrongFalsely : Prop := levelSignsRow.holds Tryd.pinned (OpenSpec.ofChange levelSignsWrong)

/-- 'spoollaw11.SpareSame': WHATEVER THE INPUT: true; the input reads as it did. -/
def spareSameSpec : ChangeSpec := { name := "spareSame", fn := fun _ => fun
  | [d1, d2, d3] => { results := [.lit (.bool true)], args := [d1, d2, d3] }
  | _ => none }
def spareSameRow : OpenClaim := { program := "ytmkdamfdlkpjdaadoor", sum := "b2f6f76d168d5357dd83c98fc98cc1b6602be23e61360cd5e4507ceb26113940", func := "spool/spoollaw11.SpareSame", spec := "spareSame", recurses := true, named := ["spool/level.first"], plainKeys := false, apart := false, laid := [("spool/level.first", laid_spool_level_first)] }
def SpareSameSaid : Prop := spareSameRow.holds Tryd.pinned (OpenSpec.ofChange spareSameSpec)

/-- ITS FALSE NEIGHBOUR: 'it returns false'. Refute it at one input. -/
def spareSameWrong : ChangeSpec := { name := "spareSame", fn := fun _ => fun
  | [d1, d2, d3] => { results := [.lit (.bool false)], args := [d1, d2, d3] }
  | _ => none }
def SpareSameWrongFalsely : Prop := spareSameRow.holds Tryd.pinned (OpenSpec.ofChange spareSameWrong)

/-- 'spoollaw11.SpareAlone': WHATEVER THE INPUT: true; the input reads as it did. -/
def spareAloneSpec : ChangeSpec := { name := "spareAlone", fn := fun _ => fun
  | [d1, d2, d3] => { results := [.lit (.bool true)], args := [d1, d2, d3] }
  | _ => none }
def spareAloneRow : OpenClaim := { program := "ytmkdamfdlkpjdaadoor", sum := "b2f6f76d168d5357dd83c98fc98cc1b6602be23e61360cd5e4507ceb26113940", func := "spool/spoollaw11.SpareAlone", spec := "spareAlone", recurses := true, named := ["spool/level.first"], plainKeys := false, apart := false, laid := [("spool/level.first", laid_spool_level_first)] }
def SpareAloneSaid : Prop := spareAloneRow.holds Tryd.pinned (OpenSpec.ofChange spareAloneSpec)

/-- ITS FALSE NEIGHBOUR: 'it returns false'. Refute it at one input. -/
def spareAloneWrong : ChangeSpec := { name := "spareAlone", fn := fun _ => fun
  | [d1, d2, d3] => { results := [.lit (.bool false)], args := [d1, d2, d3] }
  | _ => none }
def SpareAloneWrongFalsely : Prop := spareAloneRow.holds Tryd.pinned (OpenSpec.ofChange spareAloneWrong)

/-- 'spoollaw11.SpareRooms': WHATEVER THE INPUT: true; the input reads as it did. -/
def spareRoomsSpec : ChangeSpec := { name := "spareRooms", fn := fun _ => fun
  | [d1, d2] => { results := [.lit (.bool true)], args := [d1, d2] }
  | _ => none }
def spareRoomsRow : OpenClaim := { program := "ytmkdamfdlkpjdaadoor", sum := "b2f6f76d168d5357dd83c98fc98cc1b6602be23e61360cd5e4507ceb26113940", func := "spool/spoollaw11.SpareRooms", spec := "spareRooms", recurses := true, named := ["spool/level.first"], plainKeys := false, apart := false, laid := [("spool/level.first", laid_spool_level_first)] }
def SpareRoomsSaid : Prop := spareRoomsRow.holds Tryd.pinned (OpenSpec.ofChange spareRoomsSpec)

/-- ITS FALSE NEIGHBOUR: 'it returns false'. Refute it at one input. -/
def spareRoomsWrong : ChangeSpec := { name := "spareRooms", fn := fun _ => fun
  | [d1, d2] => { results := [.lit (.bool false)], args := [d1, d2] }
  | _ => none }
def SpareRoomsWrongFalsely : Prop := spareRoomsRow.holds Tryd.pinned (OpenSpec.ofChange spareRoomsWrong)

/-- 'spoollaw11.SpareFits': WHATEVER THE INPUT: true; the input reads as it did. -/
def spareFitsSpec : ChangeSpec := { name := "spareFits", fn := fun _ => fun
  | [d1, d2] => { results := [.lit (.bool true)], args := [d1, d2] }
  | _ => none }
def spareFitsRow : OpenClaim := { program := "ytmkdamfdlkpjdaadoor", sum := "b2f6f76d168d5357dd83c98fc98cc1b6602be23e61360cd5e4507ceb26113940", func := "spool/spoollaw11.SpareFits", spec := "spareFits", recurses := true, named := ["spool/level.first"], plainKeys := false, apart := false, laid := [("spool/level.first", laid_spool_level_first)] }
def SpareFitsSaid : Prop := spareFitsRow.holds Tryd.pinned (OpenSpec.ofChange spareFitsSpec)

/-- ITS FALSE NEIGHBOUR: 'it returns false'. Refute it at one input. -/
def spareFitsWrong : ChangeSpec := { name := "spareFits", fn := fun _ => fun
  | [d1, d2] => { results := [.lit (.bool false)], args := [d1, d2] }
  | _ => none }
def SpareFitsWrongFalsely : Prop := spareFitsRow.holds Tryd.pinned (OpenSpec.ofChange spareFitsWrong)

/-- 'spoollaw11.SparePlays': WHATEVER THE INPUT: true; the input reads as it did. -/
def sparePlaysSpec : ChangeSpec := { name := "sparePlays", fn := fun _ => fun
  | [d1, d2, d3, d4] => { results := [.lit (.bool true)], args := [d1, d2, d3, d4] }
  | _ => none }
def sparePlaysRow : OpenClaim := { program := "ytmkdamfdlkpjdaadoor", sum := "b2f6f76d168d5357dd83c98fc98cc1b6602be23e61360cd5e4507ceb26113940", func := "spool/spoollaw11.SparePlays", spec := "sparePlays", recurses := true, named := ["spool/level.first"], plainKeys := false, apart := false, laid := [("spool/level.first", laid_spool_level_first)] }
def SparePlaysSaid : Prop := sparePlaysRow.holds Tryd.pinned (OpenSpec.ofChange sparePlaysSpec)

/-- ITS FALSE NEIGHBOUR: 'it returns false'. Refute it at one input. -/
def sparePlaysWrong : ChangeSpec := { name := "sparePlays", fn := fun _ => fun
  | [d1, d2, d3, d4] => { results := [.lit (.bool false)], args := [d1, d2, d3, d4] }
  | _ => none }
def SparePlaysWrongFalsely : Prop := sparePlaysRow.holds Tryd.pinned (OpenSpec.ofChange sparePlaysWrong)

/- THE SECOND FORM. 'bulk': how many values and letters a reading holds, each counted each time it is reached (what is shared counts as often as it is met; a slice's spare places count too). A statement '..UptoSaid' is the law's where the arguments, and the package variables that the reading takes, are together of bulk at most 1048576: NARROWER than '..Said'. Prove '..Said' where nothing that the law and all that it calls make is longer than what came in: it says more and counts as full. Else prove '..UptoSaid'. A law counts once. -/
mutual
def uptoBulk {H : Type} : DataW H → Nat
  | .lit (.string bytes) => bytes.length + 1
  | .lit _ => 1
  | .nil => 1
  | .ptr d => uptoBulk d + 1
  | .slice elems spare => uptoBulkAll elems + uptoBulkAll spare + 1
  | .agg parts => uptoBulkAll parts + 1
  | .iface _ d => uptoBulk d + 1
  | .map entries => uptoBulkEntries entries + 1
  | .held _ => 1
def uptoBulkAll {H : Type} : List (DataW H) → Nat
  | [] => 0
  | d :: r => uptoBulk d + uptoBulkAll r
def uptoBulkEntries {H : Type} : List (Lit × DataW H) → Nat
  | [] => 0
  | x :: r => uptoBulkEntry x + uptoBulkEntries r
def uptoBulkEntry {H : Type} : Lit × DataW H → Nat
  | (.string bytes, d) => bytes.length + uptoBulk d + 1
  | (_, d) => uptoBulk d + 1
 end
def uptoSmall : (H : Type) → List (DataW H) → Bool := fun _ ds => decide (uptoBulkAll ds ≤ 1048576)
def OpenSpec.upto (s : _root_.Go.ChangeSpec) : _root_.Go.OpenSpec := { _root_.Go.OpenSpec.ofChange s with cond := some uptoSmall }

/-- 'spoollaw06.LevelLoud', WHERE WHAT IT READS IS OF BULK AT MOST 1048576: true; the input reads as it did. -/
def levelLoudUptoRow : OpenClaim := { program := "ytmkdamfdlkpjdaadoor", sum := "b2f6f76d168d5357dd83c98fc98cc1b6602be23e61360cd5e4507ceb26113940", func := "spool/spoollaw06.LevelLoud", spec := "levelLoud", named := ["spool/level.first"], plainKeys := false, apart := false, laid := [("spool/level.first", laid_spool_level_first)], narrowed := true }
def LevelLoudUptoSaid : Prop := levelLoudUptoRow.holds Tryd.pinned (OpenSpec.upto levelLoudSpec)

/-- 'spoollaw06.LevelPuts', WHERE WHAT IT READS IS OF BULK AT MOST 1048576: true; the input reads as it did. -/
def levelPutsUptoRow : OpenClaim := { program := "ytmkdamfdlkpjdaadoor", sum := "b2f6f76d168d5357dd83c98fc98cc1b6602be23e61360cd5e4507ceb26113940", func := "spool/spoollaw06.LevelPuts", spec := "levelPuts", named := ["spool/level.first"], plainKeys := false, apart := false, laid := [("spool/level.first", laid_spool_level_first)], narrowed := true }
def LevelPutsUptoSaid : Prop := levelPutsUptoRow.holds Tryd.pinned (OpenSpec.upto levelPutsSpec)

/-- 'spoollaw06.LevelParts', WHERE WHAT IT READS IS OF BULK AT MOST 1048576: true; the input reads as it did. -/
def levelPartsUptoRow : OpenClaim := { program := "ytmkdamfdlkpjdaadoor", sum := "b2f6f76d168d5357dd83c98fc98cc1b6602be23e61360cd5e4507ceb26113940", func := "spool/spoollaw06.LevelParts", spec := "levelParts", named := ["spool/level.first"], plainKeys := false, apart := false, laid := [("spool/level.first", laid_spool_level_first)], narrowed := true }
def LevelPartsUptoSaid : Prop := levelPartsUptoRow.holds Tryd.pinned (OpenSpec.upto levelPartsSpec)

/-- 'spoollaw06.LevelFills', WHERE WHAT IT READS IS OF BULK AT MOST 1048576: true; the input reads as it did. -/
def levelFillsUptoRow : OpenClaim := { program := "ytmkdamfdlkpjdaadoor", sum := "b2f6f76d168d5357dd83c98fc98cc1b6602be23e61360cd5e4507ceb26113940", func := "spool/spoollaw06.LevelFills", spec := "levelFills", unfollowed := true, recurses := true, named := ["spool/level.first"], plainKeys := false, apart := false, laid := [("spool/level.first", laid_spool_level_first)], narrowed := true }
def LevelFillsUptoSaid : Prop := levelFillsUptoRow.holds Tryd.pinned (OpenSpec.upto levelFillsSpec)

/-- 'spoollaw06.LevelPlays', WHERE WHAT IT READS IS OF BULK AT MOST 1048576: true; the input reads as it did. -/
def levelPlaysUptoRow : OpenClaim := { program := "ytmkdamfdlkpjdaadoor", sum := "b2f6f76d168d5357dd83c98fc98cc1b6602be23e61360cd5e4507ceb26113940", func := "spool/spoollaw06.LevelPlays", spec := "levelPlays", unfollowed := true, recurses := true, named := ["spool/level.first"], plainKeys := false, apart := false, laid := [("spool/level.first", laid_spool_level_first)], narrowed := true }
def LevelPlaysUptoSaid : Prop := levelPlaysUptoRow.holds Tryd.pinned (OpenSpec.upto levelPlaysSpec)

/-- 'spoollaw06.LevelSigns', WHERE WHAT IT READS IS OF BULK AT MOST 1048576: true; the input reads as it did. -/
def levelSignsUptoRow : OpenClaim := { program := "ytmkdamfdlkpjdaadoor", sum := "b2f6f76d168d5357dd83c98fc98cc1b6602be23e61360cd5e4507ceb26113940", func := "spool/spoollaw06.LevelSigns", spec := "levelSigns", unfollowed := true, recurses := true, named := ["spool/level.first"], plainKeys := false, apart := false, laid := [("spool/level.first", laid_spool_level_first)], narrowed := true }
def LevelSignsUptoSaid : Prop := levelSignsUptoRow.holds Tryd.pinned (OpenSpec.upto levelSignsSpec)

/-- 'spoollaw11.SpareSame', WHERE WHAT IT READS IS OF BULK AT MOST 1048576: true; the input reads as it did. -/
def spareSameUptoRow : OpenClaim := { program := "ytmkdamfdlkpjdaadoor", sum := "b2f6f76d168d5357dd83c98fc98cc1b6602be23e61360cd5e4507ceb26113940", func := "spool/spoollaw11.SpareSame", spec := "spareSame", recurses := true, named := ["spool/level.first"], plainKeys := false, apart := false, laid := [("spool/level.first", laid_spool_level_first)], narrowed := true }
def SpareSameUptoSaid : Prop := spareSameUptoRow.holds Tryd.pinned (OpenSpec.upto spareSameSpec)

/-- 'spoollaw11.SpareAlone', WHERE WHAT IT READS IS OF BULK AT MOST 1048576: true; the input reads as it did. -/
def spareAloneUptoRow : OpenClaim := { program := "ytmkdamfdlkpjdaadoor", sum := "b2f6f76d168d5357dd83c98fc98cc1b6602be23e61360cd5e4507ceb26113940", func := "spool/spoollaw11.SpareAlone", spec := "spareAlone", recurses := true, named := ["spool/level.first"], plainKeys := false, apart := false, laid := [("spool/level.first", laid_spool_level_first)], narrowed := true }
def SpareAloneUptoSaid : Prop := spareAloneUptoRow.holds Tryd.pinned (OpenSpec.upto spareAloneSpec)

/-- 'spoollaw11.SpareRooms', WHERE WHAT IT READS IS OF BULK AT MOST 1048576: true; the input reads as it did. -/
def spareRoomsUptoRow : OpenClaim := { program := "ytmkdamfdlkpjdaadoor", sum := "b2f6f76d168d5357dd83c98fc98cc1b6602be23e61360cd5e4507ceb26113940", func := "spool/spoollaw11.SpareRooms", spec := "spareRooms", recurses := true, named := ["spool/level.first"], plainKeys := false, apart := false, laid := [("spool/level.first", laid_spool_level_first)], narrowed := true }
def SpareRoomsUptoSaid : Prop := spareRoomsUptoRow.holds Tryd.pinned (OpenSpec.upto spareRoomsSpec)

/-- 'spoollaw11.SpareFits', WHERE WHAT IT READS IS OF BULK AT MOST 1048576: true; the input reads as it did. -/
def spareFitsUptoRow : OpenClaim := { program := "ytmkdamfdlkpjdaadoor", sum := "b2f6f76d168d5357dd83c98fc98cc1b6602be23e61360cd5e4507ceb26113940", func := "spool/spoollaw11.SpareFits", spec := "spareFits", recurses := true, named := ["spool/level.first"], plainKeys := false, apart := false, laid := [("spool/level.first", laid_spool_level_first)], narrowed := true }
def SpareFitsUptoSaid : Prop := spareFitsUptoRow.holds Tryd.pinned (OpenSpec.upto spareFitsSpec)

/-- 'spoollaw11.SparePlays', WHERE WHAT IT READS IS OF BULK AT MOST 1048576: true; the input reads as it did. -/
def sparePlaysUptoRow : OpenClaim := { program := "ytmkdamfdlkpjdaadoor", sum := "b2f6f76d168d5357dd83c98fc98cc1b6602be23e61360cd5e4507ceb26113940", func := "spool/spoollaw11.SparePlays", spec := "sparePlays", recurses := true, named := ["spool/level.first"], plainKeys := false, apart := false, laid := [("spool/level.first", laid_spool_level_first)], narrowed := true }
def SparePlaysUptoSaid : Prop := sparePlaysUptoRow.holds Tryd.pinned (OpenSpec.upto sparePlaysSpec)

end Rows
end Go.Proofs.YtmkdamfdlkpjdaaDoor
