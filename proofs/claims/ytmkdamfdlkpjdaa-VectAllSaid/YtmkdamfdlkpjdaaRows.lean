/-
  No cell of these rows narrows 'for every input' (looked for: loops, veiled, ifaces, maps, wideKeys, modest, calm, conditions, laid).
  DERIVED. THE GIVEN ROWS OF THIS SEAT. 11 by the template 'for every input the law returns true; each argument reads behind the call as it read before'; 0 by the template 'total and deterministic' (their statements: YtmkdamfdlkpjdaaTotals.lean).
  GIVEN WITH THE SEED: the statements are not yours to turn. If you find one false, say at which input.
  Laid BY PROGRAM, IN A SANDBOX (cutbox-rows.mjs): the forced cells as the released guide's own fill.sh prints them over the translation 0633b504d7a0f795… (all of the seat's roots in one cut). By AI agents, Wed Nov 11 2026. No macro, syntax, notation, axiom, sorry.
-/
import Derived.Test.YtmkdamfdlkpjdaaChecked
import GoSem.Claim
import GoSem.ClaimJoined
import GoSem.ClaimMapViews
import Derived.JoinedTies
import Derived.KernelRfl
namespace Go.Proofs.Ytmkdamfdlkpjdaa
/- THE CELL 'sum', in the pinned program and in every row, IS THE sha256 OF THE DUMP (.gsa) THAT YtmkdamfdlkpjdaaProg.lean LOADS. Nothing in Lean hashes anything: it is a label: what it is worth is what the hold of that sum in a sandbox is worth. -/
noncomputable def Try.pinned : Pinned := { name := "ytmkdamfdlkpjdaa", sum := "0633b504d7a0f795a7899261dd4aac2936bccc4abb5c097747652c076b1f589b", checked := Try.checked }
namespace Rows
def none {H : Type} : Left H := { results := [], args := [] }

/-- 'spoollaw10.ShapeScales': WHATEVER THE INPUT: true; the input reads as it did. -/
def shapeScalesSpec : ChangeSpec := { name := "shapeScales", fn := fun _ => fun
  | [d1, d2, d3] => { results := [.lit (.bool true)], args := [d1, d2, d3] }
  | _ => none }
def shapeScalesRow : OpenClaim := { program := "ytmkdamfdlkpjdaa", sum := "0633b504d7a0f795a7899261dd4aac2936bccc4abb5c097747652c076b1f589b", func := "spool/spoollaw10.ShapeScales", spec := "shapeScales", unfollowed := true, recurses := true, plainKeys := false, apart := false }
def ShapeScalesSaid : Prop := shapeScalesRow.holds Try.pinned (OpenSpec.ofChange shapeScalesSpec)

/-- ITS FALSE NEIGHBOUR: 'it returns false'. Refute it at one input. -/
def shapeScalesWrong : ChangeSpec := { name := "shapeScales", fn := fun _ => fun
  | [d1, d2, d3] => { results := [.lit (.bool false)], args := [d1, d2, d3] }
  | _ => none }
def ShapeScalesWrongFalsely : Prop := shapeScalesRow.holds Try.pinned (OpenSpec.ofChange shapeScalesWrong)

/-- 'spoollaw10.ShapeMore': WHATEVER THE INPUT: true; the input reads as it did. -/
def shapeMoreSpec : ChangeSpec := { name := "shapeMore", fn := fun _ => fun
  | [d1, d2] => { results := [.lit (.bool true)], args := [d1, d2] }
  | _ => none }
def shapeMoreRow : OpenClaim := { program := "ytmkdamfdlkpjdaa", sum := "0633b504d7a0f795a7899261dd4aac2936bccc4abb5c097747652c076b1f589b", func := "spool/spoollaw10.ShapeMore", spec := "shapeMore", unfollowed := true, recurses := true, plainKeys := false, apart := false }
def ShapeMoreSaid : Prop := shapeMoreRow.holds Try.pinned (OpenSpec.ofChange shapeMoreSpec)

/-- ITS FALSE NEIGHBOUR: 'it returns false'. Refute it at one input. -/
def shapeMoreWrong : ChangeSpec := { name := "shapeMore", fn := fun _ => fun
  | [d1, d2] => { results := [.lit (.bool false)], args := [d1, d2] }
  | _ => none }
def ShapeMoreWrongFalsely : Prop := shapeMoreRow.holds Try.pinned (OpenSpec.ofChange shapeMoreWrong)

/-- 'spoollaw10.ShapeOne': WHATEVER THE INPUT: true; the input reads as it did. -/
def shapeOneSpec : ChangeSpec := { name := "shapeOne", fn := fun _ => fun
  | [d] => { results := [.lit (.bool true)], args := [d] }
  | _ => none }
def shapeOneRow : OpenClaim := { program := "ytmkdamfdlkpjdaa", sum := "0633b504d7a0f795a7899261dd4aac2936bccc4abb5c097747652c076b1f589b", func := "spool/spoollaw10.ShapeOne", spec := "shapeOne", unfollowed := true, recurses := true, plainKeys := false, apart := false }
def ShapeOneSaid : Prop := shapeOneRow.holds Try.pinned (OpenSpec.ofChange shapeOneSpec)

/-- ITS FALSE NEIGHBOUR: 'it returns false'. Refute it at one input. -/
def shapeOneWrong : ChangeSpec := { name := "shapeOne", fn := fun _ => fun
  | [d] => { results := [.lit (.bool false)], args := [d] }
  | _ => none }
def ShapeOneWrongFalsely : Prop := shapeOneRow.holds Try.pinned (OpenSpec.ofChange shapeOneWrong)

/-- 'spoollaw10.ShapePlays': WHATEVER THE INPUT: true; the input reads as it did. -/
def shapePlaysSpec : ChangeSpec := { name := "shapePlays", fn := fun _ => fun
  | [d1, d2, d3] => { results := [.lit (.bool true)], args := [d1, d2, d3] }
  | _ => none }
def shapePlaysRow : OpenClaim := { program := "ytmkdamfdlkpjdaa", sum := "0633b504d7a0f795a7899261dd4aac2936bccc4abb5c097747652c076b1f589b", func := "spool/spoollaw10.ShapePlays", spec := "shapePlays", unfollowed := true, recurses := true, plainKeys := false, apart := false }
def ShapePlaysSaid : Prop := shapePlaysRow.holds Try.pinned (OpenSpec.ofChange shapePlaysSpec)

/-- ITS FALSE NEIGHBOUR: 'it returns false'. Refute it at one input. -/
def shapePlaysWrong : ChangeSpec := { name := "shapePlays", fn := fun _ => fun
  | [d1, d2, d3] => { results := [.lit (.bool false)], args := [d1, d2, d3] }
  | _ => none }
def ShapePlaysWrongFalsely : Prop := shapePlaysRow.holds Try.pinned (OpenSpec.ofChange shapePlaysWrong)

/-- 'spoollaw10.ShapeFits': WHATEVER THE INPUT: true; the input reads as it did. -/
def shapeFitsSpec : ChangeSpec := { name := "shapeFits", fn := fun _ => fun
  | [d1, d2] => { results := [.lit (.bool true)], args := [d1, d2] }
  | _ => none }
def shapeFitsRow : OpenClaim := { program := "ytmkdamfdlkpjdaa", sum := "0633b504d7a0f795a7899261dd4aac2936bccc4abb5c097747652c076b1f589b", func := "spool/spoollaw10.ShapeFits", spec := "shapeFits", unfollowed := true, recurses := true, plainKeys := false, apart := false }
def ShapeFitsSaid : Prop := shapeFitsRow.holds Try.pinned (OpenSpec.ofChange shapeFitsSpec)

/-- ITS FALSE NEIGHBOUR: 'it returns false'. Refute it at one input. -/
def shapeFitsWrong : ChangeSpec := { name := "shapeFits", fn := fun _ => fun
  | [d1, d2] => { results := [.lit (.bool false)], args := [d1, d2] }
  | _ => none }
def ShapeFitsWrongFalsely : Prop := shapeFitsRow.holds Try.pinned (OpenSpec.ofChange shapeFitsWrong)

/-- 'spoollaw09.VectBack': WHATEVER THE INPUT: true; the input reads as it did. -/
def vectBackSpec : ChangeSpec := { name := "vectBack", fn := fun _ => fun
  | [d1, d2, d3, d4] => { results := [.lit (.bool true)], args := [d1, d2, d3, d4] }
  | _ => none }
def vectBackRow : OpenClaim := { program := "ytmkdamfdlkpjdaa", sum := "0633b504d7a0f795a7899261dd4aac2936bccc4abb5c097747652c076b1f589b", func := "spool/spoollaw09.VectBack", spec := "vectBack", recurses := true, plainKeys := false, apart := false }
def VectBackSaid : Prop := vectBackRow.holds Try.pinned (OpenSpec.ofChange vectBackSpec)

/-- ITS FALSE NEIGHBOUR: 'it returns false'. Refute it at one input. -/
def vectBackWrong : ChangeSpec := { name := "vectBack", fn := fun _ => fun
  | [d1, d2, d3, d4] => { results := [.lit (.bool false)], args := [d1, d2, d3, d4] }
  | _ => none }
def VectBackWrongFalsely : Prop := vectBackRow.holds Try.pinned (OpenSpec.ofChange vectBackWrong)

/-- 'spoollaw09.VectOrder': WHATEVER THE INPUT: true; the input reads as it did. -/
def vectOrderSpec : ChangeSpec := { name := "vectOrder", fn := fun _ => fun
  | [d1, d2, d3, d4] => { results := [.lit (.bool true)], args := [d1, d2, d3, d4] }
  | _ => none }
def vectOrderRow : OpenClaim := { program := "ytmkdamfdlkpjdaa", sum := "0633b504d7a0f795a7899261dd4aac2936bccc4abb5c097747652c076b1f589b", func := "spool/spoollaw09.VectOrder", spec := "vectOrder", recurses := true, plainKeys := false, apart := false }
def VectOrderSaid : Prop := vectOrderRow.holds Try.pinned (OpenSpec.ofChange vectOrderSpec)

/-- ITS FALSE NEIGHBOUR: 'it returns false'. Refute it at one input. -/
def vectOrderWrong : ChangeSpec := { name := "vectOrder", fn := fun _ => fun
  | [d1, d2, d3, d4] => { results := [.lit (.bool false)], args := [d1, d2, d3, d4] }
  | _ => none }
def VectOrderWrongFalsely : Prop := vectOrderRow.holds Try.pinned (OpenSpec.ofChange vectOrderWrong)

/-- 'spoollaw09.VectAll': WHATEVER THE INPUT: true; the input reads as it did. -/
def vectAllSpec : ChangeSpec := { name := "vectAll", fn := fun _ => fun
  | [d1, d2] => { results := [.lit (.bool true)], args := [d1, d2] }
  | _ => none }
def vectAllRow : OpenClaim := { program := "ytmkdamfdlkpjdaa", sum := "0633b504d7a0f795a7899261dd4aac2936bccc4abb5c097747652c076b1f589b", func := "spool/spoollaw09.VectAll", spec := "vectAll", recurses := true, plainKeys := false, apart := false }
def VectAllSaid : Prop := vectAllRow.holds Try.pinned (OpenSpec.ofChange vectAllSpec)

/-- ITS FALSE NEIGHBOUR: 'it returns false'. Refute it at one input. -/
def vectAllWrong : ChangeSpec := { name := "vectAll", fn := fun _ => fun
  | [d1, d2] => { results := [.lit (.bool false)], args := [d1, d2] }
  | _ => none }
def VectAllWrongFalsely : Prop := vectAllRow.holds Try.pinned (OpenSpec.ofChange vectAllWrong)

/-- 'spoollaw09.VectTurns': WHATEVER THE INPUT: true; the input reads as it did. -/
def vectTurnsSpec : ChangeSpec := { name := "vectTurns", fn := fun _ => fun
  | [d] => { results := [.lit (.bool true)], args := [d] }
  | _ => none }
def vectTurnsRow : OpenClaim := { program := "ytmkdamfdlkpjdaa", sum := "0633b504d7a0f795a7899261dd4aac2936bccc4abb5c097747652c076b1f589b", func := "spool/spoollaw09.VectTurns", spec := "vectTurns", recurses := true, plainKeys := false, apart := false }
def VectTurnsSaid : Prop := vectTurnsRow.holds Try.pinned (OpenSpec.ofChange vectTurnsSpec)

/-- ITS FALSE NEIGHBOUR: 'it returns false'. Refute it at one input. -/
def vectTurnsWrong : ChangeSpec := { name := "vectTurns", fn := fun _ => fun
  | [d] => { results := [.lit (.bool false)], args := [d] }
  | _ => none }
def VectTurnsWrongFalsely : Prop := vectTurnsRow.holds Try.pinned (OpenSpec.ofChange vectTurnsWrong)

/-- 'spoollaw09.VectCounts': WHATEVER THE INPUT: true; the input reads as it did. -/
def vectCountsSpec : ChangeSpec := { name := "vectCounts", fn := fun _ => fun
  | [d1, d2] => { results := [.lit (.bool true)], args := [d1, d2] }
  | _ => none }
def vectCountsRow : OpenClaim := { program := "ytmkdamfdlkpjdaa", sum := "0633b504d7a0f795a7899261dd4aac2936bccc4abb5c097747652c076b1f589b", func := "spool/spoollaw09.VectCounts", spec := "vectCounts", recurses := true, plainKeys := false, apart := false }
def VectCountsSaid : Prop := vectCountsRow.holds Try.pinned (OpenSpec.ofChange vectCountsSpec)

/-- ITS FALSE NEIGHBOUR: 'it returns false'. Refute it at one input. -/
def vectCountsWrong : ChangeSpec := { name := "vectCounts", fn := fun _ => fun
  | [d1, d2] => { results := [.lit (.bool false)], args := [d1, d2] }
  | _ => none }
def VectCountsWrongFalsely : Prop := vectCountsRow.holds Try.pinned (OpenSpec.ofChange vectCountsWrong)

/-- 'spoollaw09.VectPlays': WHATEVER THE INPUT: true; the input reads as it did. -/
def vectPlaysSpec : ChangeSpec := { name := "vectPlays", fn := fun _ => fun
  | [d1, d2, d3, d4] => { results := [.lit (.bool true)], args := [d1, d2, d3, d4] }
  | _ => none }
def vectPlaysRow : OpenClaim := { program := "ytmkdamfdlkpjdaa", sum := "0633b504d7a0f795a7899261dd4aac2936bccc4abb5c097747652c076b1f589b", func := "spool/spoollaw09.VectPlays", spec := "vectPlays", recurses := true, plainKeys := false, apart := false }
def VectPlaysSaid : Prop := vectPlaysRow.holds Try.pinned (OpenSpec.ofChange vectPlaysSpec)

/-- ITS FALSE NEIGHBOUR: 'it returns false'. Refute it at one input. -/
def vectPlaysWrong : ChangeSpec := { name := "vectPlays", fn := fun _ => fun
  | [d1, d2, d3, d4] => { results := [.lit (.bool false)], args := [d1, d2, d3, d4] }
  | _ => none }
def VectPlaysWrongFalsely : Prop := vectPlaysRow.holds Try.pinned (OpenSpec.ofChange vectPlaysWrong)

/- THE SECOND FORM. 'bulk': how many values and letters a reading holds, each counted each time it is reached (what is shared counts as often as it is met; a slice's spare places count too). A statement '..UptoSaid' is the law's where the arguments, and the package variables that the reading takes, are together of bulk at most 1048576: NARROWER than '..Said'. Prove '..Said' where nothing that the law and all that it calls make is longer than what came in: it says more and counts as full. Else prove '..UptoSaid'. A law counts once. -/
mutual
def uptoBulk {H : Type} : DataW H → Nat
  | .lit (.string bytes) => bytes.length + 1
  | .lit _ => 1
  | .nil => 1
  | .ptr d => uptoBulk d + 1
  | .slice elems spare => uptoBulkAll elems + uptoBulkAll spare + 1
  | .agg parts => uptoBulkAll parts + 1
  | .iface _ d => uptoBulk d + 1
  | .map entries => uptoBulkEntries entries + 1
  | .held _ => 1
def uptoBulkAll {H : Type} : List (DataW H) → Nat
  | [] => 0
  | d :: r => uptoBulk d + uptoBulkAll r
def uptoBulkEntries {H : Type} : List (Lit × DataW H) → Nat
  | [] => 0
  | x :: r => uptoBulkEntry x + uptoBulkEntries r
def uptoBulkEntry {H : Type} : Lit × DataW H → Nat
  | (.string bytes, d) => bytes.length + uptoBulk d + 1
  | (_, d) => uptoBulk d + 1
 end
def uptoSmall : (H : Type) → List (DataW H) → Bool := fun _ ds => decide (uptoBulkAll ds ≤ 1048576)
def OpenSpec.upto (s : _root_.Go.ChangeSpec) : _root_.Go.OpenSpec := { _root_.Go.OpenSpec.ofChange s with cond := some uptoSmall }

/-- 'spoollaw10.ShapeScales', WHERE WHAT IT READS IS OF BULK AT MOST 1048576: true; the input reads as it did. -/
def shapeScalesUptoRow : OpenClaim := { program := "ytmkdamfdlkpjdaa", sum := "0633b504d7a0f795a7899261dd4aac2936bccc4abb5c097747652c076b1f589b", func := "spool/spoollaw10.ShapeScales", spec := "shapeScales", unfollowed := true, recurses := true, plainKeys := false, apart := false, narrowed := true }
def ShapeScalesUptoSaid : Prop := shapeScalesUptoRow.holds Try.pinned (OpenSpec.upto shapeScalesSpec)

/-- 'spoollaw10.ShapeMore', WHERE WHAT IT READS IS OF BULK AT MOST 1048576: true; the input reads as it did. -/
def shapeMoreUptoRow : OpenClaim := { program := "ytmkdamfdlkpjdaa", sum := "0633b504d7a0f795a7899261dd4aac2936bccc4abb5c097747652c076b1f589b", func := "spool/spoollaw10.ShapeMore", spec := "shapeMore", unfollowed := true, recurses := true, plainKeys := false, apart := false, narrowed := true }
def ShapeMoreUptoSaid : Prop := shapeMoreUptoRow.holds Try.pinned (OpenSpec.upto shapeMoreSpec)

/-- 'spoollaw10.ShapeOne', WHERE WHAT IT READS IS OF BULK AT MOST 1048576: true; the input reads as it did. -/
def shapeOneUptoRow : OpenClaim := { program := "ytmkdamfdlkpjdaa", sum := "0633b504d7a0f795a7899261dd4aac2936bccc4abb5c097747652c076b1f589b", func := "spool/spoollaw10.ShapeOne", spec := "shapeOne", unfollowed := true, recurses := true, plainKeys := false, apart := false, narrowed := true }
def ShapeOneUptoSaid : Prop := shapeOneUptoRow.holds Try.pinned (OpenSpec.upto shapeOneSpec)

/-- 'spoollaw10.ShapePlays', WHERE WHAT IT READS IS OF BULK AT MOST 1048576: true; the input reads as it did. -/
def shapePlaysUptoRow : OpenClaim := { program := "ytmkdamfdlkpjdaa", sum := "0633b504d7a0f795a7899261dd4aac2936bccc4abb5c097747652c076b1f589b", func := "spool/spoollaw10.ShapePlays", spec := "shapePlays", unfollowed := true, recurses := true, plainKeys := false, apart := false, narrowed := true }
def ShapePlaysUptoSaid : Prop := shapePlaysUptoRow.holds Try.pinned (OpenSpec.upto shapePlaysSpec)

/-- 'spoollaw10.ShapeFits', WHERE WHAT IT READS IS OF BULK AT MOST 1048576: true; the input reads as it did. -/
def shapeFitsUptoRow : OpenClaim := { program := "ytmkdamfdlkpjdaa", sum := "0633b504d7a0f795a7899261dd4aac2936bccc4abb5c097747652c076b1f589b", func := "spool/spoollaw10.ShapeFits", spec := "shapeFits", unfollowed := true, recurses := true, plainKeys := false, apart := false, narrowed := true }
def ShapeFitsUptoSaid : Prop := shapeFitsUptoRow.holds Try.pinned (OpenSpec.upto shapeFitsSpec)

/-- 'spoollaw09.VectBack', WHERE WHAT IT READS IS OF BULK AT MOST 1048576: true; the input reads as it did. -/
def vectBackUptoRow : OpenClaim := { program := "ytmkdamfdlkpjdaa", sum := "0633b504d7a0f795a7899261dd4aac2936bccc4abb5c097747652c076b1f589b", func := "spool/spoollaw09.VectBack", spec := "vectBack", recurses := true, plainKeys := false, apart := false, narrowed := true }
def VectBackUptoSaid : Prop := vectBackUptoRow.holds Try.pinned (OpenSpec.upto vectBackSpec)

/-- 'spoollaw09.VectOrder', WHERE WHAT IT READS IS OF BULK AT MOST 1048576: true; the input reads as it did. -/
def vectOrderUptoRow : OpenClaim := { program := "ytmkdamfdlkpjdaa", sum := "0633b504d7a0f795a7899261dd4aac2936bccc4abb5c097747652c076b1f589b", func := "spool/spoollaw09.VectOrder", spec := "vectOrder", recurses := true, plainKeys := false, apart := false, narrowed := true }
def VectOrderUptoSaid : Prop := vectOrderUptoRow.holds Try.pinned (OpenSpec.upto vectOrderSpec)

/-- 'spoollaw09.VectAll', WHERE WHAT IT READS IS OF BULK AT MOST 1048576: true; the input reads as it did. -/
def vectAllUptoRow : OpenClaim := { program := "ytmkdamfdlkpjdaa", sum := "0633b504d7a0f795a7899261dd4aac2936bccc4abb5c097747652c076b1f589b", func := "spool/spoollaw09.VectAll", spec := "vectAll", recurses := true, plainKeys := false, apart := false, narrowed := true }
def VectAllUptoSaid : Prop := vectAllUptoRow.holds Try.pinned (OpenSpec.upto vectAllSpec)

/-- 'spoollaw09.VectTurns', WHERE WHAT IT READS IS OF BULK AT MOST 1048576: true; the input reads as it did. -/
def vectTurnsUptoRow : OpenClaim := { program := "ytmkdamfdlkpjdaa", sum := "0633b504d7a0f795a7899261dd4aac2936bccc4abb5c097747652c076b1f589b", func := "spool/spoollaw09.VectTurns", spec := "vectTurns", recurses := true, plainKeys := false, apart := false, narrowed := true }
def VectTurnsUptoSaid : Prop := vectTurnsUptoRow.holds Try.pinned (OpenSpec.upto vectTurnsSpec)

/-- 'spoollaw09.VectCounts', WHERE WHAT IT READS IS OF BULK AT MOST 1048576: true; the input reads as it did. -/
def vectCountsUptoRow : OpenClaim := { program := "ytmkdamfdlkpjdaa", sum := "0633b504d7a0f795a7899261dd4aac2936bccc4abb5c097747652c076b1f589b", func := "spool/spoollaw09.VectCounts", spec := "vectCounts", recurses := true, plainKeys := false, apart := false, narrowed := true }
def VectCountsUptoSaid : Prop := vectCountsUptoRow.holds Try.pinned (OpenSpec.upto vectCountsSpec)

/-- 'spoollaw09.VectPlays', WHERE WHAT IT READS IS OF BULK AT MOST 1048576: true; the input reads as it did. -/
def vectPlaysUptoRow : OpenClaim := { program := "ytmkdamfdlkpjdaa", sum := "0633b504d7a0f795a7899261dd4aac2936bccc4abb5c097747652c076b1f589b", func := "spool/spoollaw09.VectPlays", spec := "vectPlays", recurses := true, plainKeys := false, apart := false, narrowed := true }
def VectPlaysUptoSaid : Prop := vectPlaysUptoRow.holds Try.pinned (OpenSpec.upto vectPlaysSpec)

end Rows
end Go.Proofs.Ytmkdamfdlkpjdaa
