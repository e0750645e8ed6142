/-
  No cell of these rows narrows 'for every input' (looked for: loops, veiled, ifaces, maps, wideKeys, modest, calm, conditions, laid).
  DERIVED. THE GIVEN ROWS OF THIS SEAT. 25 by the template 'for every input the law returns true; each argument reads behind the call as it read before'; 0 by the template 'total and deterministic' (their statements: YtdimikmgkdcglaaTotals.lean).
  GIVEN WITH THE SEED: the statements are not yours to turn. If you find one false, say at which input.
  Laid BY PROGRAM, IN A SANDBOX (cutbox-rows.mjs): the forced cells as the released guide's own fill.sh prints them over the translation df71510f867c6a46… (all of the seat's roots in one cut). By AI agents, Wed Nov 11 2026. No macro, syntax, notation, axiom, sorry.
-/
import Derived.Test.YtdimikmgkdcglaaChecked
import GoSem.Claim
import GoSem.ClaimJoined
import GoSem.ClaimMapViews
import Derived.JoinedTies
import Derived.KernelRfl
namespace Go.Proofs.Ytdimikmgkdcglaa
/- THE CELL 'sum', in the pinned program and in every row, IS THE sha256 OF THE DUMP (.gsa) THAT YtdimikmgkdcglaaProg.lean LOADS. Nothing in Lean hashes anything: it is a label: what it is worth is what the hold of that sum in a sandbox is worth. -/
noncomputable def Try.pinned : Pinned := { name := "ytdimikmgkdcglaa", sum := "df71510f867c6a46ccbb3843c9feee0b64c8ce493c7cb9f192c934358e800fee", checked := Try.checked }
namespace Rows
def none {H : Type} : Left H := { results := [], args := [] }

/-- 'purflinglaw04.TreeLoops': WHATEVER THE INPUT: true; the input reads as it did. -/
def treeLoopsSpec : ChangeSpec := { name := "treeLoops", fn := fun _ => fun
  | [d1, d2, d3] => { results := [.lit (.bool true)], args := [d1, d2, d3] }
  | _ => none }
def treeLoopsRow : OpenClaim := { program := "ytdimikmgkdcglaa", sum := "df71510f867c6a46ccbb3843c9feee0b64c8ce493c7cb9f192c934358e800fee", func := "purfling/purflinglaw04.TreeLoops", spec := "treeLoops", unfollowed := true, recurses := true, plainKeys := false, apart := false }
def TreeLoopsSaid : Prop := treeLoopsRow.holds Try.pinned (OpenSpec.ofChange treeLoopsSpec)

/-- ITS FALSE NEIGHBOUR: 'it returns false'. Refute it at one input. -/
def treeLoopsWrong : ChangeSpec := { name := "treeLoops", fn := fun _ => fun
  | [d1, d2, d3] => { results := [.lit (.bool false)], args := [d1, d2, d3] }
  | _ => none }
def TreeLoopsWrongFalsely : Prop := treeLoopsRow.holds Try.pinned (OpenSpec.ofChange treeLoopsWrong)

/-- 'purflinglaw04.TreeMany': WHATEVER THE INPUT: true; the input reads as it did. -/
def treeManySpec : ChangeSpec := { name := "treeMany", fn := fun _ => fun
  | [d] => { results := [.lit (.bool true)], args := [d] }
  | _ => none }
def treeManyRow : OpenClaim := { program := "ytdimikmgkdcglaa", sum := "df71510f867c6a46ccbb3843c9feee0b64c8ce493c7cb9f192c934358e800fee", func := "purfling/purflinglaw04.TreeMany", spec := "treeMany", unfollowed := true, recurses := true, plainKeys := false, apart := false }
def TreeManySaid : Prop := treeManyRow.holds Try.pinned (OpenSpec.ofChange treeManySpec)

/-- ITS FALSE NEIGHBOUR: 'it returns false'. Refute it at one input. -/
def treeManyWrong : ChangeSpec := { name := "treeMany", fn := fun _ => fun
  | [d] => { results := [.lit (.bool false)], args := [d] }
  | _ => none }
def TreeManyWrongFalsely : Prop := treeManyRow.holds Try.pinned (OpenSpec.ofChange treeManyWrong)

/-- 'purflinglaw04.TreeOrders': WHATEVER THE INPUT: true; the input reads as it did. -/
def treeOrdersSpec : ChangeSpec := { name := "treeOrders", fn := fun _ => fun
  | [d] => { results := [.lit (.bool true)], args := [d] }
  | _ => none }
def treeOrdersRow : OpenClaim := { program := "ytdimikmgkdcglaa", sum := "df71510f867c6a46ccbb3843c9feee0b64c8ce493c7cb9f192c934358e800fee", func := "purfling/purflinglaw04.TreeOrders", spec := "treeOrders", unfollowed := true, recurses := true, plainKeys := false, apart := false }
def TreeOrdersSaid : Prop := treeOrdersRow.holds Try.pinned (OpenSpec.ofChange treeOrdersSpec)

/-- ITS FALSE NEIGHBOUR: 'it returns false'. Refute it at one input. -/
def treeOrdersWrong : ChangeSpec := { name := "treeOrders", fn := fun _ => fun
  | [d] => { results := [.lit (.bool false)], args := [d] }
  | _ => none }
def TreeOrdersWrongFalsely : Prop := treeOrdersRow.holds Try.pinned (OpenSpec.ofChange treeOrdersWrong)

/-- 'purflinglaw04.TreeComputes': WHATEVER THE INPUT: true; the input reads as it did. -/
def treeComputesSpec : ChangeSpec := { name := "treeComputes", fn := fun _ => fun
  | [d] => { results := [.lit (.bool true)], args := [d] }
  | _ => none }
def treeComputesRow : OpenClaim := { program := "ytdimikmgkdcglaa", sum := "df71510f867c6a46ccbb3843c9feee0b64c8ce493c7cb9f192c934358e800fee", func := "purfling/purflinglaw04.TreeComputes", spec := "treeComputes", unfollowed := true, recurses := true, plainKeys := false, apart := false }
def TreeComputesSaid : Prop := treeComputesRow.holds Try.pinned (OpenSpec.ofChange treeComputesSpec)

/-- ITS FALSE NEIGHBOUR: 'it returns false'. Refute it at one input. -/
def treeComputesWrong : ChangeSpec := { name := "treeComputes", fn := fun _ => fun
  | [d] => { results := [.lit (.bool false)], args := [d] }
  | _ => none }
def TreeComputesWrongFalsely : Prop := treeComputesRow.holds Try.pinned (OpenSpec.ofChange treeComputesWrong)

/-- 'purflinglaw04.TreeTells': WHATEVER THE INPUT: true; the input reads as it did. -/
def treeTellsSpec : ChangeSpec := { name := "treeTells", fn := fun _ => fun
  | [d] => { results := [.lit (.bool true)], args := [d] }
  | _ => none }
def treeTellsRow : OpenClaim := { program := "ytdimikmgkdcglaa", sum := "df71510f867c6a46ccbb3843c9feee0b64c8ce493c7cb9f192c934358e800fee", func := "purfling/purflinglaw04.TreeTells", spec := "treeTells", unfollowed := true, recurses := true, plainKeys := false, apart := false }
def TreeTellsSaid : Prop := treeTellsRow.holds Try.pinned (OpenSpec.ofChange treeTellsSpec)

/-- ITS FALSE NEIGHBOUR: 'it returns false'. Refute it at one input. -/
def treeTellsWrong : ChangeSpec := { name := "treeTells", fn := fun _ => fun
  | [d] => { results := [.lit (.bool false)], args := [d] }
  | _ => none }
def TreeTellsWrongFalsely : Prop := treeTellsRow.holds Try.pinned (OpenSpec.ofChange treeTellsWrong)

/-- 'purflinglaw05.FixupKinds': WHATEVER THE INPUT: true; the input reads as it did. -/
def fixupKindsSpec : ChangeSpec := { name := "fixupKinds", fn := fun _ => fun
  | [d1, d2] => { results := [.lit (.bool true)], args := [d1, d2] }
  | _ => none }
def fixupKindsRow : OpenClaim := { program := "ytdimikmgkdcglaa", sum := "df71510f867c6a46ccbb3843c9feee0b64c8ce493c7cb9f192c934358e800fee", func := "purfling/purflinglaw05.FixupKinds", spec := "fixupKinds", unfollowed := true, recurses := true, plainKeys := false, apart := false }
def FixupKindsSaid : Prop := fixupKindsRow.holds Try.pinned (OpenSpec.ofChange fixupKindsSpec)

/-- ITS FALSE NEIGHBOUR: 'it returns false'. Refute it at one input. -/
def fixupKindsWrong : ChangeSpec := { name := "fixupKinds", fn := fun _ => fun
  | [d1, d2] => { results := [.lit (.bool false)], args := [d1, d2] }
  | _ => none }
def FixupKindsWrongFalsely : Prop := fixupKindsRow.holds Try.pinned (OpenSpec.ofChange fixupKindsWrong)

/-- 'purflinglaw05.FixupStands': WHATEVER THE INPUT: true; the input reads as it did. -/
def fixupStandsSpec : ChangeSpec := { name := "fixupStands", fn := fun _ => fun
  | [d] => { results := [.lit (.bool true)], args := [d] }
  | _ => none }
def fixupStandsRow : OpenClaim := { program := "ytdimikmgkdcglaa", sum := "df71510f867c6a46ccbb3843c9feee0b64c8ce493c7cb9f192c934358e800fee", func := "purfling/purflinglaw05.FixupStands", spec := "fixupStands", unfollowed := true, recurses := true, plainKeys := false, apart := false }
def FixupStandsSaid : Prop := fixupStandsRow.holds Try.pinned (OpenSpec.ofChange fixupStandsSpec)

/-- ITS FALSE NEIGHBOUR: 'it returns false'. Refute it at one input. -/
def fixupStandsWrong : ChangeSpec := { name := "fixupStands", fn := fun _ => fun
  | [d] => { results := [.lit (.bool false)], args := [d] }
  | _ => none }
def FixupStandsWrongFalsely : Prop := fixupStandsRow.holds Try.pinned (OpenSpec.ofChange fixupStandsWrong)

/-- 'purflinglaw05.FixupKeeps': WHATEVER THE INPUT: true; the input reads as it did. -/
def fixupKeepsSpec : ChangeSpec := { name := "fixupKeeps", fn := fun _ => fun
  | [d] => { results := [.lit (.bool true)], args := [d] }
  | _ => none }
def fixupKeepsRow : OpenClaim := { program := "ytdimikmgkdcglaa", sum := "df71510f867c6a46ccbb3843c9feee0b64c8ce493c7cb9f192c934358e800fee", func := "purfling/purflinglaw05.FixupKeeps", spec := "fixupKeeps", unfollowed := true, recurses := true, plainKeys := false, apart := false }
def FixupKeepsSaid : Prop := fixupKeepsRow.holds Try.pinned (OpenSpec.ofChange fixupKeepsSpec)

/-- ITS FALSE NEIGHBOUR: 'it returns false'. Refute it at one input. -/
def fixupKeepsWrong : ChangeSpec := { name := "fixupKeeps", fn := fun _ => fun
  | [d] => { results := [.lit (.bool false)], args := [d] }
  | _ => none }
def FixupKeepsWrongFalsely : Prop := fixupKeepsRow.holds Try.pinned (OpenSpec.ofChange fixupKeepsWrong)

/-- 'purflinglaw05.FixupCells': WHATEVER THE INPUT: true; the input reads as it did. -/
def fixupCellsSpec : ChangeSpec := { name := "fixupCells", fn := fun _ => fun
  | [d] => { results := [.lit (.bool true)], args := [d] }
  | _ => none }
def fixupCellsRow : OpenClaim := { program := "ytdimikmgkdcglaa", sum := "df71510f867c6a46ccbb3843c9feee0b64c8ce493c7cb9f192c934358e800fee", func := "purfling/purflinglaw05.FixupCells", spec := "fixupCells", unfollowed := true, recurses := true, plainKeys := false, apart := false }
def FixupCellsSaid : Prop := fixupCellsRow.holds Try.pinned (OpenSpec.ofChange fixupCellsSpec)

/-- ITS FALSE NEIGHBOUR: 'it returns false'. Refute it at one input. -/
def fixupCellsWrong : ChangeSpec := { name := "fixupCells", fn := fun _ => fun
  | [d] => { results := [.lit (.bool false)], args := [d] }
  | _ => none }
def FixupCellsWrongFalsely : Prop := fixupCellsRow.holds Try.pinned (OpenSpec.ofChange fixupCellsWrong)

/-- 'purflinglaw05.FixupMore': WHATEVER THE INPUT: true; the input reads as it did. -/
def fixupMoreSpec : ChangeSpec := { name := "fixupMore", fn := fun _ => fun
  | [d] => { results := [.lit (.bool true)], args := [d] }
  | _ => none }
def fixupMoreRow : OpenClaim := { program := "ytdimikmgkdcglaa", sum := "df71510f867c6a46ccbb3843c9feee0b64c8ce493c7cb9f192c934358e800fee", func := "purfling/purflinglaw05.FixupMore", spec := "fixupMore", unfollowed := true, recurses := true, plainKeys := false, apart := false }
def FixupMoreSaid : Prop := fixupMoreRow.holds Try.pinned (OpenSpec.ofChange fixupMoreSpec)

/-- ITS FALSE NEIGHBOUR: 'it returns false'. Refute it at one input. -/
def fixupMoreWrong : ChangeSpec := { name := "fixupMore", fn := fun _ => fun
  | [d] => { results := [.lit (.bool false)], args := [d] }
  | _ => none }
def FixupMoreWrongFalsely : Prop := fixupMoreRow.holds Try.pinned (OpenSpec.ofChange fixupMoreWrong)

/-- 'purflinglaw05.FixupFixes': WHATEVER THE INPUT: true; the input reads as it did. -/
def fixupFixesSpec : ChangeSpec := { name := "fixupFixes", fn := fun _ => fun
  | [d] => { results := [.lit (.bool true)], args := [d] }
  | _ => none }
def fixupFixesRow : OpenClaim := { program := "ytdimikmgkdcglaa", sum := "df71510f867c6a46ccbb3843c9feee0b64c8ce493c7cb9f192c934358e800fee", func := "purfling/purflinglaw05.FixupFixes", spec := "fixupFixes", unfollowed := true, recurses := true, plainKeys := false, apart := false }
def FixupFixesSaid : Prop := fixupFixesRow.holds Try.pinned (OpenSpec.ofChange fixupFixesSpec)

/-- ITS FALSE NEIGHBOUR: 'it returns false'. Refute it at one input. -/
def fixupFixesWrong : ChangeSpec := { name := "fixupFixes", fn := fun _ => fun
  | [d] => { results := [.lit (.bool false)], args := [d] }
  | _ => none }
def FixupFixesWrongFalsely : Prop := fixupFixesRow.holds Try.pinned (OpenSpec.ofChange fixupFixesWrong)

/-- 'purflinglaw05.FixupAgain': WHATEVER THE INPUT: true; the input reads as it did. -/
def fixupAgainSpec : ChangeSpec := { name := "fixupAgain", fn := fun _ => fun
  | [d] => { results := [.lit (.bool true)], args := [d] }
  | _ => none }
def fixupAgainRow : OpenClaim := { program := "ytdimikmgkdcglaa", sum := "df71510f867c6a46ccbb3843c9feee0b64c8ce493c7cb9f192c934358e800fee", func := "purfling/purflinglaw05.FixupAgain", spec := "fixupAgain", unfollowed := true, recurses := true, plainKeys := false, apart := false }
def FixupAgainSaid : Prop := fixupAgainRow.holds Try.pinned (OpenSpec.ofChange fixupAgainSpec)

/-- ITS FALSE NEIGHBOUR: 'it returns false'. Refute it at one input. -/
def fixupAgainWrong : ChangeSpec := { name := "fixupAgain", fn := fun _ => fun
  | [d] => { results := [.lit (.bool false)], args := [d] }
  | _ => none }
def FixupAgainWrongFalsely : Prop := fixupAgainRow.holds Try.pinned (OpenSpec.ofChange fixupAgainWrong)

/-- 'purflinglaw06.LanesCols': WHATEVER THE INPUT: true; the input reads as it did. -/
def lanesColsSpec : ChangeSpec := { name := "lanesCols", fn := fun _ => fun
  | [d1, d2, d3] => { results := [.lit (.bool true)], args := [d1, d2, d3] }
  | _ => none }
def lanesColsRow : OpenClaim := { program := "ytdimikmgkdcglaa", sum := "df71510f867c6a46ccbb3843c9feee0b64c8ce493c7cb9f192c934358e800fee", func := "purfling/purflinglaw06.LanesCols", spec := "lanesCols", unfollowed := true, recurses := true, plainKeys := false, apart := false }
def LanesColsSaid : Prop := lanesColsRow.holds Try.pinned (OpenSpec.ofChange lanesColsSpec)

/-- ITS FALSE NEIGHBOUR: 'it returns false'. Refute it at one input. -/
def lanesColsWrong : ChangeSpec := { name := "lanesCols", fn := fun _ => fun
  | [d1, d2, d3] => { results := [.lit (.bool false)], args := [d1, d2, d3] }
  | _ => none }
def LanesColsWrongFalsely : Prop := lanesColsRow.holds Try.pinned (OpenSpec.ofChange lanesColsWrong)

/-- 'purflinglaw06.LanesOnce': WHATEVER THE INPUT: true; the input reads as it did. -/
def lanesOnceSpec : ChangeSpec := { name := "lanesOnce", fn := fun _ => fun
  | [d1, d2] => { results := [.lit (.bool true)], args := [d1, d2] }
  | _ => none }
def lanesOnceRow : OpenClaim := { program := "ytdimikmgkdcglaa", sum := "df71510f867c6a46ccbb3843c9feee0b64c8ce493c7cb9f192c934358e800fee", func := "purfling/purflinglaw06.LanesOnce", spec := "lanesOnce", unfollowed := true, recurses := true, plainKeys := false, apart := false }
def LanesOnceSaid : Prop := lanesOnceRow.holds Try.pinned (OpenSpec.ofChange lanesOnceSpec)

/-- ITS FALSE NEIGHBOUR: 'it returns false'. Refute it at one input. -/
def lanesOnceWrong : ChangeSpec := { name := "lanesOnce", fn := fun _ => fun
  | [d1, d2] => { results := [.lit (.bool false)], args := [d1, d2] }
  | _ => none }
def LanesOnceWrongFalsely : Prop := lanesOnceRow.holds Try.pinned (OpenSpec.ofChange lanesOnceWrong)

/-- 'purflinglaw06.LanesHeads': WHATEVER THE INPUT: true; the input reads as it did. -/
def lanesHeadsSpec : ChangeSpec := { name := "lanesHeads", fn := fun _ => fun
  | [d1, d2] => { results := [.lit (.bool true)], args := [d1, d2] }
  | _ => none }
def lanesHeadsRow : OpenClaim := { program := "ytdimikmgkdcglaa", sum := "df71510f867c6a46ccbb3843c9feee0b64c8ce493c7cb9f192c934358e800fee", func := "purfling/purflinglaw06.LanesHeads", spec := "lanesHeads", unfollowed := true, recurses := true, plainKeys := false, apart := false }
def LanesHeadsSaid : Prop := lanesHeadsRow.holds Try.pinned (OpenSpec.ofChange lanesHeadsSpec)

/-- ITS FALSE NEIGHBOUR: 'it returns false'. Refute it at one input. -/
def lanesHeadsWrong : ChangeSpec := { name := "lanesHeads", fn := fun _ => fun
  | [d1, d2] => { results := [.lit (.bool false)], args := [d1, d2] }
  | _ => none }
def LanesHeadsWrongFalsely : Prop := lanesHeadsRow.holds Try.pinned (OpenSpec.ofChange lanesHeadsWrong)

/-- 'purflinglaw06.LanesMany': WHATEVER THE INPUT: true; the input reads as it did. -/
def lanesManySpec : ChangeSpec := { name := "lanesMany", fn := fun _ => fun
  | [d1, d2] => { results := [.lit (.bool true)], args := [d1, d2] }
  | _ => none }
def lanesManyRow : OpenClaim := { program := "ytdimikmgkdcglaa", sum := "df71510f867c6a46ccbb3843c9feee0b64c8ce493c7cb9f192c934358e800fee", func := "purfling/purflinglaw06.LanesMany", spec := "lanesMany", unfollowed := true, recurses := true, plainKeys := false, apart := false }
def LanesManySaid : Prop := lanesManyRow.holds Try.pinned (OpenSpec.ofChange lanesManySpec)

/-- ITS FALSE NEIGHBOUR: 'it returns false'. Refute it at one input. -/
def lanesManyWrong : ChangeSpec := { name := "lanesMany", fn := fun _ => fun
  | [d1, d2] => { results := [.lit (.bool false)], args := [d1, d2] }
  | _ => none }
def LanesManyWrongFalsely : Prop := lanesManyRow.holds Try.pinned (OpenSpec.ofChange lanesManyWrong)

/-- 'purflinglaw06.LanesRows': WHATEVER THE INPUT: true; the input reads as it did. -/
def lanesRowsSpec : ChangeSpec := { name := "lanesRows", fn := fun _ => fun
  | [d1, d2] => { results := [.lit (.bool true)], args := [d1, d2] }
  | _ => none }
def lanesRowsRow : OpenClaim := { program := "ytdimikmgkdcglaa", sum := "df71510f867c6a46ccbb3843c9feee0b64c8ce493c7cb9f192c934358e800fee", func := "purfling/purflinglaw06.LanesRows", spec := "lanesRows", unfollowed := true, recurses := true, plainKeys := false, apart := false }
def LanesRowsSaid : Prop := lanesRowsRow.holds Try.pinned (OpenSpec.ofChange lanesRowsSpec)

/-- ITS FALSE NEIGHBOUR: 'it returns false'. Refute it at one input. -/
def lanesRowsWrong : ChangeSpec := { name := "lanesRows", fn := fun _ => fun
  | [d1, d2] => { results := [.lit (.bool false)], args := [d1, d2] }
  | _ => none }
def LanesRowsWrongFalsely : Prop := lanesRowsRow.holds Try.pinned (OpenSpec.ofChange lanesRowsWrong)

/-- 'purflinglaw06.LanesCaptions': WHATEVER THE INPUT: true; the input reads as it did. -/
def lanesCaptionsSpec : ChangeSpec := { name := "lanesCaptions", fn := fun _ => fun
  | [d1, d2] => { results := [.lit (.bool true)], args := [d1, d2] }
  | _ => none }
def lanesCaptionsRow : OpenClaim := { program := "ytdimikmgkdcglaa", sum := "df71510f867c6a46ccbb3843c9feee0b64c8ce493c7cb9f192c934358e800fee", func := "purfling/purflinglaw06.LanesCaptions", spec := "lanesCaptions", unfollowed := true, recurses := true, plainKeys := false, apart := false }
def LanesCaptionsSaid : Prop := lanesCaptionsRow.holds Try.pinned (OpenSpec.ofChange lanesCaptionsSpec)

/-- ITS FALSE NEIGHBOUR: 'it returns false'. Refute it at one input. -/
def lanesCaptionsWrong : ChangeSpec := { name := "lanesCaptions", fn := fun _ => fun
  | [d1, d2] => { results := [.lit (.bool false)], args := [d1, d2] }
  | _ => none }
def LanesCaptionsWrongFalsely : Prop := lanesCaptionsRow.holds Try.pinned (OpenSpec.ofChange lanesCaptionsWrong)

/-- 'purflinglaw06.LanesEnds': WHATEVER THE INPUT: true; the input reads as it did. -/
def lanesEndsSpec : ChangeSpec := { name := "lanesEnds", fn := fun _ => fun
  | [d] => { results := [.lit (.bool true)], args := [d] }
  | _ => none }
def lanesEndsRow : OpenClaim := { program := "ytdimikmgkdcglaa", sum := "df71510f867c6a46ccbb3843c9feee0b64c8ce493c7cb9f192c934358e800fee", func := "purfling/purflinglaw06.LanesEnds", spec := "lanesEnds", unfollowed := true, recurses := true, plainKeys := false, apart := false }
def LanesEndsSaid : Prop := lanesEndsRow.holds Try.pinned (OpenSpec.ofChange lanesEndsSpec)

/-- ITS FALSE NEIGHBOUR: 'it returns false'. Refute it at one input. -/
def lanesEndsWrong : ChangeSpec := { name := "lanesEnds", fn := fun _ => fun
  | [d] => { results := [.lit (.bool false)], args := [d] }
  | _ => none }
def LanesEndsWrongFalsely : Prop := lanesEndsRow.holds Try.pinned (OpenSpec.ofChange lanesEndsWrong)

/-- 'purflinglaw07.GridCells': WHATEVER THE INPUT: true; the input reads as it did. -/
def gridCellsSpec : ChangeSpec := { name := "gridCells", fn := fun _ => fun
  | [d1, d2] => { results := [.lit (.bool true)], args := [d1, d2] }
  | _ => none }
def gridCellsRow : OpenClaim := { program := "ytdimikmgkdcglaa", sum := "df71510f867c6a46ccbb3843c9feee0b64c8ce493c7cb9f192c934358e800fee", func := "purfling/purflinglaw07.GridCells", spec := "gridCells", unfollowed := true, recurses := true, plainKeys := false, apart := false }
def GridCellsSaid : Prop := gridCellsRow.holds Try.pinned (OpenSpec.ofChange gridCellsSpec)

/-- ITS FALSE NEIGHBOUR: 'it returns false'. Refute it at one input. -/
def gridCellsWrong : ChangeSpec := { name := "gridCells", fn := fun _ => fun
  | [d1, d2] => { results := [.lit (.bool false)], args := [d1, d2] }
  | _ => none }
def GridCellsWrongFalsely : Prop := gridCellsRow.holds Try.pinned (OpenSpec.ofChange gridCellsWrong)

/-- 'purflinglaw09.StackSums': WHATEVER THE INPUT: true; the input reads as it did. -/
def stackSumsSpec : ChangeSpec := { name := "stackSums", fn := fun _ => fun
  | [d1, d2] => { results := [.lit (.bool true)], args := [d1, d2] }
  | _ => none }
def stackSumsRow : OpenClaim := { program := "ytdimikmgkdcglaa", sum := "df71510f867c6a46ccbb3843c9feee0b64c8ce493c7cb9f192c934358e800fee", func := "purfling/purflinglaw09.StackSums", spec := "stackSums", unfollowed := true, recurses := true, plainKeys := false, apart := false }
def StackSumsSaid : Prop := stackSumsRow.holds Try.pinned (OpenSpec.ofChange stackSumsSpec)

/-- ITS FALSE NEIGHBOUR: 'it returns false'. Refute it at one input. -/
def stackSumsWrong : ChangeSpec := { name := "stackSums", fn := fun _ => fun
  | [d1, d2] => { results := [.lit (.bool false)], args := [d1, d2] }
  | _ => none }
def StackSumsWrongFalsely : Prop := stackSumsRow.holds Try.pinned (OpenSpec.ofChange stackSumsWrong)

/-- 'purflinglaw09.StackFrames': WHATEVER THE INPUT: true; the input reads as it did. -/
def stackFramesSpec : ChangeSpec := { name := "stackFrames", fn := fun _ => fun
  | [d1, d2] => { results := [.lit (.bool true)], args := [d1, d2] }
  | _ => none }
def stackFramesRow : OpenClaim := { program := "ytdimikmgkdcglaa", sum := "df71510f867c6a46ccbb3843c9feee0b64c8ce493c7cb9f192c934358e800fee", func := "purfling/purflinglaw09.StackFrames", spec := "stackFrames", unfollowed := true, recurses := true, plainKeys := false, apart := false }
def StackFramesSaid : Prop := stackFramesRow.holds Try.pinned (OpenSpec.ofChange stackFramesSpec)

/-- ITS FALSE NEIGHBOUR: 'it returns false'. Refute it at one input. -/
def stackFramesWrong : ChangeSpec := { name := "stackFrames", fn := fun _ => fun
  | [d1, d2] => { results := [.lit (.bool false)], args := [d1, d2] }
  | _ => none }
def StackFramesWrongFalsely : Prop := stackFramesRow.holds Try.pinned (OpenSpec.ofChange stackFramesWrong)

/-- 'purflinglaw09.StackAlone': WHATEVER THE INPUT: true; the input reads as it did. -/
def stackAloneSpec : ChangeSpec := { name := "stackAlone", fn := fun _ => fun
  | [d] => { results := [.lit (.bool true)], args := [d] }
  | _ => none }
def stackAloneRow : OpenClaim := { program := "ytdimikmgkdcglaa", sum := "df71510f867c6a46ccbb3843c9feee0b64c8ce493c7cb9f192c934358e800fee", func := "purfling/purflinglaw09.StackAlone", spec := "stackAlone", unfollowed := true, recurses := true, plainKeys := false, apart := false }
def StackAloneSaid : Prop := stackAloneRow.holds Try.pinned (OpenSpec.ofChange stackAloneSpec)

/-- ITS FALSE NEIGHBOUR: 'it returns false'. Refute it at one input. -/
def stackAloneWrong : ChangeSpec := { name := "stackAlone", fn := fun _ => fun
  | [d] => { results := [.lit (.bool false)], args := [d] }
  | _ => none }
def StackAloneWrongFalsely : Prop := stackAloneRow.holds Try.pinned (OpenSpec.ofChange stackAloneWrong)

/-- 'purflinglaw09.StackContents': WHATEVER THE INPUT: true; the input reads as it did. -/
def stackContentsSpec : ChangeSpec := { name := "stackContents", fn := fun _ => fun
  | [d1, d2, d3] => { results := [.lit (.bool true)], args := [d1, d2, d3] }
  | _ => none }
def stackContentsRow : OpenClaim := { program := "ytdimikmgkdcglaa", sum := "df71510f867c6a46ccbb3843c9feee0b64c8ce493c7cb9f192c934358e800fee", func := "purfling/purflinglaw09.StackContents", spec := "stackContents", unfollowed := true, recurses := true, plainKeys := false, apart := false }
def StackContentsSaid : Prop := stackContentsRow.holds Try.pinned (OpenSpec.ofChange stackContentsSpec)

/-- ITS FALSE NEIGHBOUR: 'it returns false'. Refute it at one input. -/
def stackContentsWrong : ChangeSpec := { name := "stackContents", fn := fun _ => fun
  | [d1, d2, d3] => { results := [.lit (.bool false)], args := [d1, d2, d3] }
  | _ => none }
def StackContentsWrongFalsely : Prop := stackContentsRow.holds Try.pinned (OpenSpec.ofChange stackContentsWrong)

/-- 'purflinglaw09.StackMore': WHATEVER THE INPUT: true; the input reads as it did. -/
def stackMoreSpec : ChangeSpec := { name := "stackMore", fn := fun _ => fun
  | [d1, d2, d3] => { results := [.lit (.bool true)], args := [d1, d2, d3] }
  | _ => none }
def stackMoreRow : OpenClaim := { program := "ytdimikmgkdcglaa", sum := "df71510f867c6a46ccbb3843c9feee0b64c8ce493c7cb9f192c934358e800fee", func := "purfling/purflinglaw09.StackMore", spec := "stackMore", unfollowed := true, recurses := true, plainKeys := false, apart := false }
def StackMoreSaid : Prop := stackMoreRow.holds Try.pinned (OpenSpec.ofChange stackMoreSpec)

/-- ITS FALSE NEIGHBOUR: 'it returns false'. Refute it at one input. -/
def stackMoreWrong : ChangeSpec := { name := "stackMore", fn := fun _ => fun
  | [d1, d2, d3] => { results := [.lit (.bool false)], args := [d1, d2, d3] }
  | _ => none }
def StackMoreWrongFalsely : Prop := stackMoreRow.holds Try.pinned (OpenSpec.ofChange stackMoreWrong)

/- THE SECOND FORM. 'bulk': how many values and letters a reading holds, each counted each time it is reached (what is shared counts as often as it is met; a slice's spare places count too). A statement '..UptoSaid' is the law's where the arguments, and the package variables that the reading takes, are together of bulk at most 1048576: NARROWER than '..Said'. Prove '..Said' where nothing that the law and all that it calls make is longer than what came in: it says more and counts as full. Else prove '..UptoSaid'. A law counts once. -/
mutual
def uptoBulk {H : Type} : DataW H → Nat
  | .lit (.string bytes) => bytes.length + 1
  | .lit _ => 1
  | .nil => 1
  | .ptr d => uptoBulk d + 1
  | .slice elems spare => uptoBulkAll elems + uptoBulkAll spare + 1
  | .agg parts => uptoBulkAll parts + 1
  | .iface _ d => uptoBulk d + 1
  | .map entries => uptoBulkEntries entries + 1
  | .held _ => 1
def uptoBulkAll {H : Type} : List (DataW H) → Nat
  | [] => 0
  | d :: r => uptoBulk d + uptoBulkAll r
def uptoBulkEntries {H : Type} : List (Lit × DataW H) → Nat
  | [] => 0
  | x :: r => uptoBulkEntry x + uptoBulkEntries r
def uptoBulkEntry {H : Type} : Lit × DataW H → Nat
  | (.string bytes, d) => bytes.length + uptoBulk d + 1
  | (_, d) => uptoBulk d + 1
 end
def uptoSmall : (H : Type) → List (DataW H) → Bool := fun _ ds => decide (uptoBulkAll ds ≤ 1048576)
def OpenSpec.upto (s : _root_.Go.ChangeSpec) : _root_.Go.OpenSpec := { _root_.Go.OpenSpec.ofChange s with cond := some uptoSmall }

/-- 'purflinglaw04.TreeLoops', WHERE WHAT IT READS IS OF BULK AT MOST 1048576: true; the input reads as it did. -/
def treeLoopsUptoRow : OpenClaim := { program := "ytdimikmgkdcglaa", sum := "df71510f867c6a46ccbb3843c9feee0b64c8ce493c7cb9f192c934358e800fee", func := "purfling/purflinglaw04.TreeLoops", spec := "treeLoops", unfollowed := true, recurses := true, plainKeys := false, apart := false, narrowed := true }
def TreeLoopsUptoSaid : Prop := treeLoopsUptoRow.holds Try.pinned (OpenSpec.upto treeLoopsSpec)

/-- 'purflinglaw04.TreeMany', WHERE WHAT IT READS IS OF BULK AT MOST 1048576: true; the input reads as it did. -/
def treeManyUptoRow : OpenClaim := { program := "ytdimikmgkdcglaa", sum := "df71510f867c6a46ccbb3843c9feee0b64c8ce493c7cb9f192c934358e800fee", func := "purfling/purflinglaw04.TreeMany", spec := "treeMany", unfollowed := true, recurses := true, plainKeys := false, apart := false, narrowed := true }
def TreeManyUptoSaid : Prop := treeManyUptoRow.holds Try.pinned (OpenSpec.upto treeManySpec)

/-- 'purflinglaw04.TreeOrders', WHERE WHAT IT READS IS OF BULK AT MOST 1048576: true; the input reads as it did. -/
def treeOrdersUptoRow : OpenClaim := { program := "ytdimikmgkdcglaa", sum := "df71510f867c6a46ccbb3843c9feee0b64c8ce493c7cb9f192c934358e800fee", func := "purfling/purflinglaw04.TreeOrders", spec := "treeOrders", unfollowed := true, recurses := true, plainKeys := false, apart := false, narrowed := true }
def TreeOrdersUptoSaid : Prop := treeOrdersUptoRow.holds Try.pinned (OpenSpec.upto treeOrdersSpec)

/-- 'purflinglaw04.TreeComputes', WHERE WHAT IT READS IS OF BULK AT MOST 1048576: true; the input reads as it did. -/
def treeComputesUptoRow : OpenClaim := { program := "ytdimikmgkdcglaa", sum := "df71510f867c6a46ccbb3843c9feee0b64c8ce493c7cb9f192c934358e800fee", func := "purfling/purflinglaw04.TreeComputes", spec := "treeComputes", unfollowed := true, recurses := true, plainKeys := false, apart := false, narrowed := true }
def TreeComputesUptoSaid : Prop := treeComputesUptoRow.holds Try.pinned (OpenSpec.upto treeComputesSpec)

/-- 'purflinglaw04.TreeTells', WHERE WHAT IT READS IS OF BULK AT MOST 1048576: true; the input reads as it did. -/
def treeTellsUptoRow : OpenClaim := { program := "ytdimikmgkdcglaa", sum := "df71510f867c6a46ccbb3843c9feee0b64c8ce493c7cb9f192c934358e800fee", func := "purfling/purflinglaw04.TreeTells", spec := "treeTells", unfollowed := true, recurses := true, plainKeys := false, apart := false, narrowed := true }
def TreeTellsUptoSaid : Prop := treeTellsUptoRow.holds Try.pinned (OpenSpec.upto treeTellsSpec)

/-- 'purflinglaw05.FixupKinds', WHERE WHAT IT READS IS OF BULK AT MOST 1048576: true; the input reads as it did. -/
def fixupKindsUptoRow : OpenClaim := { program := "ytdimikmgkdcglaa", sum := "df71510f867c6a46ccbb3843c9feee0b64c8ce493c7cb9f192c934358e800fee", func := "purfling/purflinglaw05.FixupKinds", spec := "fixupKinds", unfollowed := true, recurses := true, plainKeys := false, apart := false, narrowed := true }
def FixupKindsUptoSaid : Prop := fixupKindsUptoRow.holds Try.pinned (OpenSpec.upto fixupKindsSpec)

/-- 'purflinglaw05.FixupStands', WHERE WHAT IT READS IS OF BULK AT MOST 1048576: true; the input reads as it did. -/
def fixupStandsUptoRow : OpenClaim := { program := "ytdimikmgkdcglaa", sum := "df71510f867c6a46ccbb3843c9feee0b64c8ce493c7cb9f192c934358e800fee", func := "purfling/purflinglaw05.FixupStands", spec := "fixupStands", unfollowed := true, recurses := true, plainKeys := false, apart := false, narrowed := true }
def FixupStandsUptoSaid : Prop := fixupStandsUptoRow.holds Try.pinned (OpenSpec.upto fixupStandsSpec)

/-- 'purflinglaw05.FixupKeeps', WHERE WHAT IT READS IS OF BULK AT MOST 1048576: true; the input reads as it did. -/
def fixupKeepsUptoRow : OpenClaim := { program := "ytdimikmgkdcglaa", sum := "df71510f867c6a46ccbb3843c9feee0b64c8ce493c7cb9f192c934358e800fee", func := "purfling/purflinglaw05.FixupKeeps", spec := "fixupKeeps", unfollowed := true, recurses := true, plainKeys := false, apart := false, narrowed := true }
def FixupKeepsUptoSaid : Prop := fixupKeepsUptoRow.holds Try.pinned (OpenSpec.upto fixupKeepsSpec)

/-- 'purflinglaw05.FixupCells', WHERE WHAT IT READS IS OF BULK AT MOST 1048576: true; the input reads as it did. -/
def fixupCellsUptoRow : OpenClaim := { program := "ytdimikmgkdcglaa", sum := "df71510f867c6a46ccbb3843c9feee0b64c8ce493c7cb9f192c934358e800fee", func := "purfling/purflinglaw05.FixupCells", spec := "fixupCells", unfollowed := true, recurses := true, plainKeys := false, apart := false, narrowed := true }
def FixupCellsUptoSaid : Prop := fixupCellsUptoRow.holds Try.pinned (OpenSpec.upto fixupCellsSpec)

/-- 'purflinglaw05.FixupMore', WHERE WHAT IT READS IS OF BULK AT MOST 1048576: true; the input reads as it did. -/
def fixupMoreUptoRow : OpenClaim := { program := "ytdimikmgkdcglaa", sum := "df71510f867c6a46ccbb3843c9feee0b64c8ce493c7cb9f192c934358e800fee", func := "purfling/purflinglaw05.FixupMore", spec := "fixupMore", unfollowed := true, recurses := true, plainKeys := false, apart := false, narrowed := true }
def FixupMoreUptoSaid : Prop := fixupMoreUptoRow.holds Try.pinned (OpenSpec.upto fixupMoreSpec)

/-- 'purflinglaw05.FixupFixes', WHERE WHAT IT READS IS OF BULK AT MOST 1048576: true; the input reads as it did. -/
def fixupFixesUptoRow : OpenClaim := { program := "ytdimikmgkdcglaa", sum := "df71510f867c6a46ccbb3843c9feee0b64c8ce493c7cb9f192c934358e800fee", func := "purfling/purflinglaw05.FixupFixes", spec := "fixupFixes", unfollowed := true, recurses := true, plainKeys := false, apart := false, narrowed := true }
def FixupFixesUptoSaid : Prop := fixupFixesUptoRow.holds Try.pinned (OpenSpec.upto fixupFixesSpec)

/-- 'purflinglaw05.FixupAgain', WHERE WHAT IT READS IS OF BULK AT MOST 1048576: true; the input reads as it did. -/
def fixupAgainUptoRow : OpenClaim := { program := "ytdimikmgkdcglaa", sum := "df71510f867c6a46ccbb3843c9feee0b64c8ce493c7cb9f192c934358e800fee", func := "purfling/purflinglaw05.FixupAgain", spec := "fixupAgain", unfollowed := true, recurses := true, plainKeys := false, apart := false, narrowed := true }
def FixupAgainUptoSaid : Prop := fixupAgainUptoRow.holds Try.pinned (OpenSpec.upto fixupAgainSpec)

/-- 'purflinglaw06.LanesCols', WHERE WHAT IT READS IS OF BULK AT MOST 1048576: true; the input reads as it did. -/
def lanesColsUptoRow : OpenClaim := { program := "ytdimikmgkdcglaa", sum := "df71510f867c6a46ccbb3843c9feee0b64c8ce493c7cb9f192c934358e800fee", func := "purfling/purflinglaw06.LanesCols", spec := "lanesCols", unfollowed := true, recurses := true, plainKeys := false, apart := false, narrowed := true }
def LanesColsUptoSaid : Prop := lanesColsUptoRow.holds Try.pinned (OpenSpec.upto lanesColsSpec)

/-- 'purflinglaw06.LanesOnce', WHERE WHAT IT READS IS OF BULK AT MOST 1048576: true; the input reads as it did. -/
def lanesOnceUptoRow : OpenClaim := { program := "ytdimikmgkdcglaa", sum := "df71510f867c6a46ccbb3843c9feee0b64c8ce493c7cb9f192c934358e800fee", func := "purfling/purflinglaw06.LanesOnce", spec := "lanesOnce", unfollowed := true, recurses := true, plainKeys := false, apart := false, narrowed := true }
def LanesOnceUptoSaid : Prop := lanesOnceUptoRow.holds Try.pinned (OpenSpec.upto lanesOnceSpec)

/-- 'purflinglaw06.LanesHeads', WHERE WHAT IT READS IS OF BULK AT MOST 1048576: true; the input reads as it did. -/
def lanesHeadsUptoRow : OpenClaim := { program := "ytdimikmgkdcglaa", sum := "df71510f867c6a46ccbb3843c9feee0b64c8ce493c7cb9f192c934358e800fee", func := "purfling/purflinglaw06.LanesHeads", spec := "lanesHeads", unfollowed := true, recurses := true, plainKeys := false, apart := false, narrowed := true }
def LanesHeadsUptoSaid : Prop := lanesHeadsUptoRow.holds Try.pinned (OpenSpec.upto lanesHeadsSpec)

/-- 'purflinglaw06.LanesMany', WHERE WHAT IT READS IS OF BULK AT MOST 1048576: true; the input reads as it did. -/
def lanesManyUptoRow : OpenClaim := { program := "ytdimikmgkdcglaa", sum := "df71510f867c6a46ccbb3843c9feee0b64c8ce493c7cb9f192c934358e800fee", func := "purfling/purflinglaw06.LanesMany", spec := "lanesMany", unfollowed := true, recurses := true, plainKeys := false, apart := false, narrowed := true }
def LanesManyUptoSaid : Prop := lanesManyUptoRow.holds Try.pinned (OpenSpec.upto lanesManySpec)

/-- 'purflinglaw06.LanesRows', WHERE WHAT IT READS IS OF BULK AT MOST 1048576: true; the input reads as it did. -/
def lanesRowsUptoRow : OpenClaim := { program := "ytdimikmgkdcglaa", sum := "df71510f867c6a46ccbb3843c9feee0b64c8ce493c7cb9f192c934358e800fee", func := "purfling/purflinglaw06.LanesRows", spec := "lanesRows", unfollowed := true, recurses := true, plainKeys := false, apart := false, narrowed := true }
def LanesRowsUptoSaid : Prop := lanesRowsUptoRow.holds Try.pinned (OpenSpec.upto lanesRowsSpec)

/-- 'purflinglaw06.LanesCaptions', WHERE WHAT IT READS IS OF BULK AT MOST 1048576: true; the input reads as it did. -/
def lanesCaptionsUptoRow : OpenClaim := { program := "ytdimikmgkdcglaa", sum := "df71510f867c6a46ccbb3843c9feee0b64c8ce493c7cb9f192c934358e800fee", func := "purfling/purflinglaw06.LanesCaptions", spec := "lanesCaptions", unfollowed := true, recurses := true, plainKeys := false, apart := false, narrowed := true }
def LanesCaptionsUptoSaid : Prop := lanesCaptionsUptoRow.holds Try.pinned (OpenSpec.upto lanesCaptionsSpec)

/-- 'purflinglaw06.LanesEnds', WHERE WHAT IT READS IS OF BULK AT MOST 1048576: true; the input reads as it did. -/
def lanesEndsUptoRow : OpenClaim := { program := "ytdimikmgkdcglaa", sum := "df71510f867c6a46ccbb3843c9feee0b64c8ce493c7cb9f192c934358e800fee", func := "purfling/purflinglaw06.LanesEnds", spec := "lanesEnds", unfollowed := true, recurses := true, plainKeys := false, apart := false, narrowed := true }
def LanesEndsUptoSaid : Prop := lanesEndsUptoRow.holds Try.pinned (OpenSpec.upto lanesEndsSpec)

/-- 'purflinglaw07.GridCells', WHERE WHAT IT READS IS OF BULK AT MOST 1048576: true; the input reads as it did. -/
def gridCellsUptoRow : OpenClaim := { program := "ytdimikmgkdcglaa", sum := "df71510f867c6a46ccbb3843c9feee0b64c8ce493c7cb9f192c934358e800fee", func := "purfling/purflinglaw07.GridCells", spec := "gridCells", unfollowed := true, recurses := true, plainKeys := false, apart := false, narrowed := true }
def GridCellsUptoSaid : Prop := gridCellsUptoRow.holds Try.pinned (OpenSpec.upto gridCellsSpec)

/-- 'purflinglaw09.StackSums', WHERE WHAT IT READS IS OF BULK AT MOST 1048576: true; the input reads as it did. -/
def stackSumsUptoRow : OpenClaim := { program := "ytdimikmgkdcglaa", sum := "df71510f867c6a46ccbb3843c9feee0b64c8ce493c7cb9f192c934358e800fee", func := "purfling/purflinglaw09.StackSums", spec := "stackSums", unfollowed := true, recurses := true, plainKeys := false, apart := false, narrowed := true }
def StackSumsUptoSaid : Prop := stackSumsUptoRow.holds Try.pinned (OpenSpec.upto stackSumsSpec)

/-- 'purflinglaw09.StackFrames', WHERE WHAT IT READS IS OF BULK AT MOST 1048576: true; the input reads as it did. -/
def stackFramesUptoRow : OpenClaim := { program := "ytdimikmgkdcglaa", sum := "df71510f867c6a46ccbb3843c9feee0b64c8ce493c7cb9f192c934358e800fee", func := "purfling/purflinglaw09.StackFrames", spec := "stackFrames", unfollowed := true, recurses := true, plainKeys := false, apart := false, narrowed := true }
def StackFramesUptoSaid : Prop := stackFramesUptoRow.holds Try.pinned (OpenSpec.upto stackFramesSpec)

/-- 'purflinglaw09.StackAlone', WHERE WHAT IT READS IS OF BULK AT MOST 1048576: true; the input reads as it did. -/
def stackAloneUptoRow : OpenClaim := { program := "ytdimikmgkdcglaa", sum := "df71510f867c6a46ccbb3843c9feee0b64c8ce493c7cb9f192c934358e800fee", func := "purfling/purflinglaw09.StackAlone", spec := "stackAlone", unfollowed := true, recurses := true, plainKeys := false, apart := false, narrowed := true }
def StackAloneUptoSaid : Prop := stackAloneUptoRow.holds Try.pinned (OpenSpec.upto stackAloneSpec)

/-- 'purflinglaw09.StackContents', WHERE WHAT IT READS IS OF BULK AT MOST 1048576: true; the input reads as it did. -/
def stackContentsUptoRow : OpenClaim := { program := "ytdimikmgkdcglaa", sum := "df71510f867c6a46ccbb3843c9feee0b64c8ce493c7cb9f192c934358e800fee", func := "purfling/purflinglaw09.StackContents", spec := "stackContents", unfollowed := true, recurses := true, plainKeys := false, apart := false, narrowed := true }
def StackContentsUptoSaid : Prop := stackContentsUptoRow.holds Try.pinned (OpenSpec.upto stackContentsSpec)

/-- 'purflinglaw09.StackMore', WHERE WHAT IT READS IS OF BULK AT MOST 1048576: true; the input reads as it did. -/
def stackMoreUptoRow : OpenClaim := { program := "ytdimikmgkdcglaa", sum := "df71510f867c6a46ccbb3843c9feee0b64c8ce493c7cb9f192c934358e800fee", func := "purfling/purflinglaw09.StackMore", spec := "stackMore", unfollowed := true, recurses := true, plainKeys := false, apart := false, narrowed := true }
def StackMoreUptoSaid : Prop := stackMoreUptoRow.holds Try.pinned (OpenSpec.upto stackMoreSpec)

end Rows
end Go.Proofs.Ytdimikmgkdcglaa
