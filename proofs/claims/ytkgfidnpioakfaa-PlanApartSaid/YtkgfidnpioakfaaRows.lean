/-
  No cell of these rows narrows 'for every input' (looked for: loops, veiled, ifaces, maps, wideKeys, modest, calm, conditions, laid).
  DERIVED. THE GIVEN ROWS OF THIS SEAT. 21 by the template 'for every input the law returns true; each argument reads behind the call as it read before'; 0 by the template 'total and deterministic' (their statements: YtkgfidnpioakfaaTotals.lean).
  GIVEN WITH THE SEED: the statements are not yours to turn. If you find one false, say at which input.
  Laid BY PROGRAM, IN A SANDBOX (cutbox-rows.mjs): the forced cells as the released guide's own fill.sh prints them over the translation 157c84b791b83aeb… (all of the seat's roots in one cut). By AI agents, Wed Nov 11 2026. No macro, syntax, notation, axiom, sorry.
-/
import Derived.Test.YtkgfidnpioakfaaChecked
import GoSem.Claim
import GoSem.ClaimJoined
import GoSem.ClaimMapViews
import Derived.JoinedTies
import Derived.KernelRfl
namespace Go.Proofs.Ytkgfidnpioakfaa
/- THE CELL 'sum', in the pinned program and in every row, IS THE sha256 OF THE DUMP (.gsa) THAT YtkgfidnpioakfaaProg.lean LOADS. Nothing in Lean hashes anything: it is a label: what it is worth is what the hold of that sum in a sandbox is worth. -/
noncomputable def Try.pinned : Pinned := { name := "ytkgfidnpioakfaa", sum := "157c84b791b83aeb4a89ccc988f92594168b87638fb386cd546db4796c0f4357", checked := Try.checked }
namespace Rows
def none {H : Type} : Left H := { results := [], args := [] }

/-- 'flitlaw03.StampPacks': WHATEVER THE INPUT: true; the input reads as it did. -/
def stampPacksSpec : ChangeSpec := { name := "stampPacks", fn := fun _ => fun
  | [d1, d2, d3] => { results := [.lit (.bool true)], args := [d1, d2, d3] }
  | _ => none }
def stampPacksRow : OpenClaim := { program := "ytkgfidnpioakfaa", sum := "157c84b791b83aeb4a89ccc988f92594168b87638fb386cd546db4796c0f4357", func := "flit/flitlaw03.StampPacks", spec := "stampPacks", apart := false }
def StampPacksSaid : Prop := stampPacksRow.holds Try.pinned (OpenSpec.ofChange stampPacksSpec)

/-- ITS FALSE NEIGHBOUR: 'it returns false'. Refute it at one input. -/
def stampPacksWrong : ChangeSpec := { name := "stampPacks", fn := fun _ => fun
  | [d1, d2, d3] => { results := [.lit (.bool false)], args := [d1, d2, d3] }
  | _ => none }
def StampPacksWrongFalsely : Prop := stampPacksRow.holds Try.pinned (OpenSpec.ofChange stampPacksWrong)

/-- 'flitlaw03.StampNext': WHATEVER THE INPUT: true; the input reads as it did. -/
def stampNextSpec : ChangeSpec := { name := "stampNext", fn := fun _ => fun
  | [d1, d2] => { results := [.lit (.bool true)], args := [d1, d2] }
  | _ => none }
def stampNextRow : OpenClaim := { program := "ytkgfidnpioakfaa", sum := "157c84b791b83aeb4a89ccc988f92594168b87638fb386cd546db4796c0f4357", func := "flit/flitlaw03.StampNext", spec := "stampNext", apart := false }
def StampNextSaid : Prop := stampNextRow.holds Try.pinned (OpenSpec.ofChange stampNextSpec)

/-- ITS FALSE NEIGHBOUR: 'it returns false'. Refute it at one input. -/
def stampNextWrong : ChangeSpec := { name := "stampNext", fn := fun _ => fun
  | [d1, d2] => { results := [.lit (.bool false)], args := [d1, d2] }
  | _ => none }
def StampNextWrongFalsely : Prop := stampNextRow.holds Try.pinned (OpenSpec.ofChange stampNextWrong)

/-- 'flitlaw03.StampVersions': WHATEVER THE INPUT: true; the input reads as it did. -/
def stampVersionsSpec : ChangeSpec := { name := "stampVersions", fn := fun _ => fun
  | [d1, d2] => { results := [.lit (.bool true)], args := [d1, d2] }
  | _ => none }
def stampVersionsRow : OpenClaim := { program := "ytkgfidnpioakfaa", sum := "157c84b791b83aeb4a89ccc988f92594168b87638fb386cd546db4796c0f4357", func := "flit/flitlaw03.StampVersions", spec := "stampVersions", apart := false }
def StampVersionsSaid : Prop := stampVersionsRow.holds Try.pinned (OpenSpec.ofChange stampVersionsSpec)

/-- ITS FALSE NEIGHBOUR: 'it returns false'. Refute it at one input. -/
def stampVersionsWrong : ChangeSpec := { name := "stampVersions", fn := fun _ => fun
  | [d1, d2] => { results := [.lit (.bool false)], args := [d1, d2] }
  | _ => none }
def StampVersionsWrongFalsely : Prop := stampVersionsRow.holds Try.pinned (OpenSpec.ofChange stampVersionsWrong)

/-- 'flitlaw05.PlanMakes': WHATEVER THE INPUT: true; the input reads as it did. -/
def planMakesSpec : ChangeSpec := { name := "planMakes", fn := fun _ => fun
  | [d1, d2] => { results := [.lit (.bool true)], args := [d1, d2] }
  | _ => none }
def planMakesRow : OpenClaim := { program := "ytkgfidnpioakfaa", sum := "157c84b791b83aeb4a89ccc988f92594168b87638fb386cd546db4796c0f4357", func := "flit/flitlaw05.PlanMakes", spec := "planMakes", apart := false }
def PlanMakesSaid : Prop := planMakesRow.holds Try.pinned (OpenSpec.ofChange planMakesSpec)

/-- ITS FALSE NEIGHBOUR: 'it returns false'. Refute it at one input. -/
def planMakesWrong : ChangeSpec := { name := "planMakes", fn := fun _ => fun
  | [d1, d2] => { results := [.lit (.bool false)], args := [d1, d2] }
  | _ => none }
def PlanMakesWrongFalsely : Prop := planMakesRow.holds Try.pinned (OpenSpec.ofChange planMakesWrong)

/-- 'flitlaw05.PlanBlocks': WHATEVER THE INPUT: true; the input reads as it did. -/
def planBlocksSpec : ChangeSpec := { name := "planBlocks", fn := fun _ => fun
  | [d1, d2, d3] => { results := [.lit (.bool true)], args := [d1, d2, d3] }
  | _ => none }
def planBlocksRow : OpenClaim := { program := "ytkgfidnpioakfaa", sum := "157c84b791b83aeb4a89ccc988f92594168b87638fb386cd546db4796c0f4357", func := "flit/flitlaw05.PlanBlocks", spec := "planBlocks", apart := false }
def PlanBlocksSaid : Prop := planBlocksRow.holds Try.pinned (OpenSpec.ofChange planBlocksSpec)

/-- ITS FALSE NEIGHBOUR: 'it returns false'. Refute it at one input. -/
def planBlocksWrong : ChangeSpec := { name := "planBlocks", fn := fun _ => fun
  | [d1, d2, d3] => { results := [.lit (.bool false)], args := [d1, d2, d3] }
  | _ => none }
def PlanBlocksWrongFalsely : Prop := planBlocksRow.holds Try.pinned (OpenSpec.ofChange planBlocksWrong)

/-- 'flitlaw03.StampApart': WHATEVER THE INPUT: true; the input reads as it did. -/
def stampApartSpec : ChangeSpec := { name := "stampApart", fn := fun _ => fun
  | [d1, d2, d3] => { results := [.lit (.bool true)], args := [d1, d2, d3] }
  | _ => none }
def stampApartRow : OpenClaim := { program := "ytkgfidnpioakfaa", sum := "157c84b791b83aeb4a89ccc988f92594168b87638fb386cd546db4796c0f4357", func := "flit/flitlaw03.StampApart", spec := "stampApart", apart := false }
def StampApartSaid : Prop := stampApartRow.holds Try.pinned (OpenSpec.ofChange stampApartSpec)

/-- ITS FALSE NEIGHBOUR: 'it returns false'. Refute it at one input. -/
def stampApartWrong : ChangeSpec := { name := "stampApart", fn := fun _ => fun
  | [d1, d2, d3] => { results := [.lit (.bool false)], args := [d1, d2, d3] }
  | _ => none }
def StampApartWrongFalsely : Prop := stampApartRow.holds Try.pinned (OpenSpec.ofChange stampApartWrong)

/-- 'flitlaw02.HeadPacks': WHATEVER THE INPUT: true; the input reads as it did. -/
def headPacksSpec : ChangeSpec := { name := "headPacks", fn := fun _ => fun
  | [d] => { results := [.lit (.bool true)], args := [d] }
  | _ => none }
def headPacksRow : OpenClaim := { program := "ytkgfidnpioakfaa", sum := "157c84b791b83aeb4a89ccc988f92594168b87638fb386cd546db4796c0f4357", func := "flit/flitlaw02.HeadPacks", spec := "headPacks", apart := false }
def HeadPacksSaid : Prop := headPacksRow.holds Try.pinned (OpenSpec.ofChange headPacksSpec)

/-- ITS FALSE NEIGHBOUR: 'it returns false'. Refute it at one input. -/
def headPacksWrong : ChangeSpec := { name := "headPacks", fn := fun _ => fun
  | [d] => { results := [.lit (.bool false)], args := [d] }
  | _ => none }
def HeadPacksWrongFalsely : Prop := headPacksRow.holds Try.pinned (OpenSpec.ofChange headPacksWrong)

/-- 'flitlaw02.HeadReads': WHATEVER THE INPUT: true; the input reads as it did. -/
def headReadsSpec : ChangeSpec := { name := "headReads", fn := fun _ => fun
  | [d1, d2] => { results := [.lit (.bool true)], args := [d1, d2] }
  | _ => none }
def headReadsRow : OpenClaim := { program := "ytkgfidnpioakfaa", sum := "157c84b791b83aeb4a89ccc988f92594168b87638fb386cd546db4796c0f4357", func := "flit/flitlaw02.HeadReads", spec := "headReads", apart := false }
def HeadReadsSaid : Prop := headReadsRow.holds Try.pinned (OpenSpec.ofChange headReadsSpec)

/-- ITS FALSE NEIGHBOUR: 'it returns false'. Refute it at one input. -/
def headReadsWrong : ChangeSpec := { name := "headReads", fn := fun _ => fun
  | [d1, d2] => { results := [.lit (.bool false)], args := [d1, d2] }
  | _ => none }
def HeadReadsWrongFalsely : Prop := headReadsRow.holds Try.pinned (OpenSpec.ofChange headReadsWrong)

/-- 'flitlaw02.HeadBack': WHATEVER THE INPUT: true; the input reads as it did. -/
def headBackSpec : ChangeSpec := { name := "headBack", fn := fun _ => fun
  | [d] => { results := [.lit (.bool true)], args := [d] }
  | _ => none }
def headBackRow : OpenClaim := { program := "ytkgfidnpioakfaa", sum := "157c84b791b83aeb4a89ccc988f92594168b87638fb386cd546db4796c0f4357", func := "flit/flitlaw02.HeadBack", spec := "headBack", apart := false }
def HeadBackSaid : Prop := headBackRow.holds Try.pinned (OpenSpec.ofChange headBackSpec)

/-- ITS FALSE NEIGHBOUR: 'it returns false'. Refute it at one input. -/
def headBackWrong : ChangeSpec := { name := "headBack", fn := fun _ => fun
  | [d] => { results := [.lit (.bool false)], args := [d] }
  | _ => none }
def HeadBackWrongFalsely : Prop := headBackRow.holds Try.pinned (OpenSpec.ofChange headBackWrong)

/-- 'flitlaw02.HeadApart': WHATEVER THE INPUT: true; the input reads as it did. -/
def headApartSpec : ChangeSpec := { name := "headApart", fn := fun _ => fun
  | [d1, d2] => { results := [.lit (.bool true)], args := [d1, d2] }
  | _ => none }
def headApartRow : OpenClaim := { program := "ytkgfidnpioakfaa", sum := "157c84b791b83aeb4a89ccc988f92594168b87638fb386cd546db4796c0f4357", func := "flit/flitlaw02.HeadApart", spec := "headApart", apart := false }
def HeadApartSaid : Prop := headApartRow.holds Try.pinned (OpenSpec.ofChange headApartSpec)

/-- ITS FALSE NEIGHBOUR: 'it returns false'. Refute it at one input. -/
def headApartWrong : ChangeSpec := { name := "headApart", fn := fun _ => fun
  | [d1, d2] => { results := [.lit (.bool false)], args := [d1, d2] }
  | _ => none }
def HeadApartWrongFalsely : Prop := headApartRow.holds Try.pinned (OpenSpec.ofChange headApartWrong)

/-- 'flitlaw02.HeadLow': WHATEVER THE INPUT: true; the input reads as it did. -/
def headLowSpec : ChangeSpec := { name := "headLow", fn := fun _ => fun
  | [d] => { results := [.lit (.bool true)], args := [d] }
  | _ => none }
def headLowRow : OpenClaim := { program := "ytkgfidnpioakfaa", sum := "157c84b791b83aeb4a89ccc988f92594168b87638fb386cd546db4796c0f4357", func := "flit/flitlaw02.HeadLow", spec := "headLow", apart := false }
def HeadLowSaid : Prop := headLowRow.holds Try.pinned (OpenSpec.ofChange headLowSpec)

/-- ITS FALSE NEIGHBOUR: 'it returns false'. Refute it at one input. -/
def headLowWrong : ChangeSpec := { name := "headLow", fn := fun _ => fun
  | [d] => { results := [.lit (.bool false)], args := [d] }
  | _ => none }
def HeadLowWrongFalsely : Prop := headLowRow.holds Try.pinned (OpenSpec.ofChange headLowWrong)

/-- 'flitlaw02.HeadMoves': WHATEVER THE INPUT: true; the input reads as it did. -/
def headMovesSpec : ChangeSpec := { name := "headMoves", fn := fun _ => fun
  | [d1, d2] => { results := [.lit (.bool true)], args := [d1, d2] }
  | _ => none }
def headMovesRow : OpenClaim := { program := "ytkgfidnpioakfaa", sum := "157c84b791b83aeb4a89ccc988f92594168b87638fb386cd546db4796c0f4357", func := "flit/flitlaw02.HeadMoves", spec := "headMoves", apart := false }
def HeadMovesSaid : Prop := headMovesRow.holds Try.pinned (OpenSpec.ofChange headMovesSpec)

/-- ITS FALSE NEIGHBOUR: 'it returns false'. Refute it at one input. -/
def headMovesWrong : ChangeSpec := { name := "headMoves", fn := fun _ => fun
  | [d1, d2] => { results := [.lit (.bool false)], args := [d1, d2] }
  | _ => none }
def HeadMovesWrongFalsely : Prop := headMovesRow.holds Try.pinned (OpenSpec.ofChange headMovesWrong)

/-- 'flitlaw02.HeadTags': WHATEVER THE INPUT: true; the input reads as it did. -/
def headTagsSpec : ChangeSpec := { name := "headTags", fn := fun _ => fun
  | [d1, d2] => { results := [.lit (.bool true)], args := [d1, d2] }
  | _ => none }
def headTagsRow : OpenClaim := { program := "ytkgfidnpioakfaa", sum := "157c84b791b83aeb4a89ccc988f92594168b87638fb386cd546db4796c0f4357", func := "flit/flitlaw02.HeadTags", spec := "headTags", apart := false }
def HeadTagsSaid : Prop := headTagsRow.holds Try.pinned (OpenSpec.ofChange headTagsSpec)

/-- ITS FALSE NEIGHBOUR: 'it returns false'. Refute it at one input. -/
def headTagsWrong : ChangeSpec := { name := "headTags", fn := fun _ => fun
  | [d1, d2] => { results := [.lit (.bool false)], args := [d1, d2] }
  | _ => none }
def HeadTagsWrongFalsely : Prop := headTagsRow.holds Try.pinned (OpenSpec.ofChange headTagsWrong)

/-- 'flitlaw02.HeadRanges': WHATEVER THE INPUT: true; the input reads as it did. -/
def headRangesSpec : ChangeSpec := { name := "headRanges", fn := fun _ => fun
  | [d] => { results := [.lit (.bool true)], args := [d] }
  | _ => none }
def headRangesRow : OpenClaim := { program := "ytkgfidnpioakfaa", sum := "157c84b791b83aeb4a89ccc988f92594168b87638fb386cd546db4796c0f4357", func := "flit/flitlaw02.HeadRanges", spec := "headRanges", apart := false }
def HeadRangesSaid : Prop := headRangesRow.holds Try.pinned (OpenSpec.ofChange headRangesSpec)

/-- ITS FALSE NEIGHBOUR: 'it returns false'. Refute it at one input. -/
def headRangesWrong : ChangeSpec := { name := "headRanges", fn := fun _ => fun
  | [d] => { results := [.lit (.bool false)], args := [d] }
  | _ => none }
def HeadRangesWrongFalsely : Prop := headRangesRow.holds Try.pinned (OpenSpec.ofChange headRangesWrong)

/-- 'flitlaw05.PlanApart': WHATEVER THE INPUT: true; the input reads as it did. -/
def planApartSpec : ChangeSpec := { name := "planApart", fn := fun _ => fun
  | [d1, d2, d3] => { results := [.lit (.bool true)], args := [d1, d2, d3] }
  | _ => none }
def planApartRow : OpenClaim := { program := "ytkgfidnpioakfaa", sum := "157c84b791b83aeb4a89ccc988f92594168b87638fb386cd546db4796c0f4357", func := "flit/flitlaw05.PlanApart", spec := "planApart", apart := false }
def PlanApartSaid : Prop := planApartRow.holds Try.pinned (OpenSpec.ofChange planApartSpec)

/-- ITS FALSE NEIGHBOUR: 'it returns false'. Refute it at one input. -/
def planApartWrong : ChangeSpec := { name := "planApart", fn := fun _ => fun
  | [d1, d2, d3] => { results := [.lit (.bool false)], args := [d1, d2, d3] }
  | _ => none }
def PlanApartWrongFalsely : Prop := planApartRow.holds Try.pinned (OpenSpec.ofChange planApartWrong)

/-- 'flitlaw03.StampReads': WHATEVER THE INPUT: true; the input reads as it did. -/
def stampReadsSpec : ChangeSpec := { name := "stampReads", fn := fun _ => fun
  | [d1, d2] => { results := [.lit (.bool true)], args := [d1, d2] }
  | _ => none }
def stampReadsRow : OpenClaim := { program := "ytkgfidnpioakfaa", sum := "157c84b791b83aeb4a89ccc988f92594168b87638fb386cd546db4796c0f4357", func := "flit/flitlaw03.StampReads", spec := "stampReads", apart := false }
def StampReadsSaid : Prop := stampReadsRow.holds Try.pinned (OpenSpec.ofChange stampReadsSpec)

/-- ITS FALSE NEIGHBOUR: 'it returns false'. Refute it at one input. -/
def stampReadsWrong : ChangeSpec := { name := "stampReads", fn := fun _ => fun
  | [d1, d2] => { results := [.lit (.bool false)], args := [d1, d2] }
  | _ => none }
def StampReadsWrongFalsely : Prop := stampReadsRow.holds Try.pinned (OpenSpec.ofChange stampReadsWrong)

/-- 'flitlaw03.StampBack': WHATEVER THE INPUT: true; the input reads as it did. -/
def stampBackSpec : ChangeSpec := { name := "stampBack", fn := fun _ => fun
  | [d1, d2, d3] => { results := [.lit (.bool true)], args := [d1, d2, d3] }
  | _ => none }
def stampBackRow : OpenClaim := { program := "ytkgfidnpioakfaa", sum := "157c84b791b83aeb4a89ccc988f92594168b87638fb386cd546db4796c0f4357", func := "flit/flitlaw03.StampBack", spec := "stampBack", apart := false }
def StampBackSaid : Prop := stampBackRow.holds Try.pinned (OpenSpec.ofChange stampBackSpec)

/-- ITS FALSE NEIGHBOUR: 'it returns false'. Refute it at one input. -/
def stampBackWrong : ChangeSpec := { name := "stampBack", fn := fun _ => fun
  | [d1, d2, d3] => { results := [.lit (.bool false)], args := [d1, d2, d3] }
  | _ => none }
def StampBackWrongFalsely : Prop := stampBackRow.holds Try.pinned (OpenSpec.ofChange stampBackWrong)

/-- 'flitlaw03.StampLow': WHATEVER THE INPUT: true; the input reads as it did. -/
def stampLowSpec : ChangeSpec := { name := "stampLow", fn := fun _ => fun
  | [d] => { results := [.lit (.bool true)], args := [d] }
  | _ => none }
def stampLowRow : OpenClaim := { program := "ytkgfidnpioakfaa", sum := "157c84b791b83aeb4a89ccc988f92594168b87638fb386cd546db4796c0f4357", func := "flit/flitlaw03.StampLow", spec := "stampLow", apart := false }
def StampLowSaid : Prop := stampLowRow.holds Try.pinned (OpenSpec.ofChange stampLowSpec)

/-- ITS FALSE NEIGHBOUR: 'it returns false'. Refute it at one input. -/
def stampLowWrong : ChangeSpec := { name := "stampLow", fn := fun _ => fun
  | [d] => { results := [.lit (.bool false)], args := [d] }
  | _ => none }
def StampLowWrongFalsely : Prop := stampLowRow.holds Try.pinned (OpenSpec.ofChange stampLowWrong)

/-- 'flitlaw05.PlanPlaces': WHATEVER THE INPUT: true; the input reads as it did. -/
def planPlacesSpec : ChangeSpec := { name := "planPlaces", fn := fun _ => fun
  | [d1, d2, d3] => { results := [.lit (.bool true)], args := [d1, d2, d3] }
  | _ => none }
def planPlacesRow : OpenClaim := { program := "ytkgfidnpioakfaa", sum := "157c84b791b83aeb4a89ccc988f92594168b87638fb386cd546db4796c0f4357", func := "flit/flitlaw05.PlanPlaces", spec := "planPlaces", apart := false }
def PlanPlacesSaid : Prop := planPlacesRow.holds Try.pinned (OpenSpec.ofChange planPlacesSpec)

/-- ITS FALSE NEIGHBOUR: 'it returns false'. Refute it at one input. -/
def planPlacesWrong : ChangeSpec := { name := "planPlaces", fn := fun _ => fun
  | [d1, d2, d3] => { results := [.lit (.bool false)], args := [d1, d2, d3] }
  | _ => none }
def PlanPlacesWrongFalsely : Prop := planPlacesRow.holds Try.pinned (OpenSpec.ofChange planPlacesWrong)

/-- 'flitlaw05.PlanClasses': WHATEVER THE INPUT: true; the input reads as it did. -/
def planClassesSpec : ChangeSpec := { name := "planClasses", fn := fun _ => fun
  | [d] => { results := [.lit (.bool true)], args := [d] }
  | _ => none }
def planClassesRow : OpenClaim := { program := "ytkgfidnpioakfaa", sum := "157c84b791b83aeb4a89ccc988f92594168b87638fb386cd546db4796c0f4357", func := "flit/flitlaw05.PlanClasses", spec := "planClasses", apart := false }
def PlanClassesSaid : Prop := planClassesRow.holds Try.pinned (OpenSpec.ofChange planClassesSpec)

/-- ITS FALSE NEIGHBOUR: 'it returns false'. Refute it at one input. -/
def planClassesWrong : ChangeSpec := { name := "planClasses", fn := fun _ => fun
  | [d] => { results := [.lit (.bool false)], args := [d] }
  | _ => none }
def PlanClassesWrongFalsely : Prop := planClassesRow.holds Try.pinned (OpenSpec.ofChange planClassesWrong)

/-- 'flitlaw05.PlanSizes': WHATEVER THE INPUT: true; the input reads as it did. -/
def planSizesSpec : ChangeSpec := { name := "planSizes", fn := fun _ => fun
  | [d] => { results := [.lit (.bool true)], args := [d] }
  | _ => none }
def planSizesRow : OpenClaim := { program := "ytkgfidnpioakfaa", sum := "157c84b791b83aeb4a89ccc988f92594168b87638fb386cd546db4796c0f4357", func := "flit/flitlaw05.PlanSizes", spec := "planSizes", apart := false }
def PlanSizesSaid : Prop := planSizesRow.holds Try.pinned (OpenSpec.ofChange planSizesSpec)

/-- ITS FALSE NEIGHBOUR: 'it returns false'. Refute it at one input. -/
def planSizesWrong : ChangeSpec := { name := "planSizes", fn := fun _ => fun
  | [d] => { results := [.lit (.bool false)], args := [d] }
  | _ => none }
def PlanSizesWrongFalsely : Prop := planSizesRow.holds Try.pinned (OpenSpec.ofChange planSizesWrong)

/- THE SECOND FORM. 'bulk': how many values and letters a reading holds, each counted each time it is reached (what is shared counts as often as it is met; a slice's spare places count too). A statement '..UptoSaid' is the law's where the arguments, and the package variables that the reading takes, are together of bulk at most 1048576: NARROWER than '..Said'. Prove '..Said' where nothing that the law and all that it calls make is longer than what came in: it says more and counts as full. Else prove '..UptoSaid'. A law counts once. -/
mutual
def uptoBulk {H : Type} : DataW H → Nat
  | .lit (.string bytes) => bytes.length + 1
  | .lit _ => 1
  | .nil => 1
  | .ptr d => uptoBulk d + 1
  | .slice elems spare => uptoBulkAll elems + uptoBulkAll spare + 1
  | .agg parts => uptoBulkAll parts + 1
  | .iface _ d => uptoBulk d + 1
  | .map entries => uptoBulkEntries entries + 1
  | .held _ => 1
def uptoBulkAll {H : Type} : List (DataW H) → Nat
  | [] => 0
  | d :: r => uptoBulk d + uptoBulkAll r
def uptoBulkEntries {H : Type} : List (Lit × DataW H) → Nat
  | [] => 0
  | x :: r => uptoBulkEntry x + uptoBulkEntries r
def uptoBulkEntry {H : Type} : Lit × DataW H → Nat
  | (.string bytes, d) => bytes.length + uptoBulk d + 1
  | (_, d) => uptoBulk d + 1
 end
def uptoSmall : (H : Type) → List (DataW H) → Bool := fun _ ds => decide (uptoBulkAll ds ≤ 1048576)
def OpenSpec.upto (s : _root_.Go.ChangeSpec) : _root_.Go.OpenSpec := { _root_.Go.OpenSpec.ofChange s with cond := some uptoSmall }

/-- 'flitlaw03.StampPacks', WHERE WHAT IT READS IS OF BULK AT MOST 1048576: true; the input reads as it did. -/
def stampPacksUptoRow : OpenClaim := { program := "ytkgfidnpioakfaa", sum := "157c84b791b83aeb4a89ccc988f92594168b87638fb386cd546db4796c0f4357", func := "flit/flitlaw03.StampPacks", spec := "stampPacks", apart := false, narrowed := true }
def StampPacksUptoSaid : Prop := stampPacksUptoRow.holds Try.pinned (OpenSpec.upto stampPacksSpec)

/-- 'flitlaw03.StampNext', WHERE WHAT IT READS IS OF BULK AT MOST 1048576: true; the input reads as it did. -/
def stampNextUptoRow : OpenClaim := { program := "ytkgfidnpioakfaa", sum := "157c84b791b83aeb4a89ccc988f92594168b87638fb386cd546db4796c0f4357", func := "flit/flitlaw03.StampNext", spec := "stampNext", apart := false, narrowed := true }
def StampNextUptoSaid : Prop := stampNextUptoRow.holds Try.pinned (OpenSpec.upto stampNextSpec)

/-- 'flitlaw03.StampVersions', WHERE WHAT IT READS IS OF BULK AT MOST 1048576: true; the input reads as it did. -/
def stampVersionsUptoRow : OpenClaim := { program := "ytkgfidnpioakfaa", sum := "157c84b791b83aeb4a89ccc988f92594168b87638fb386cd546db4796c0f4357", func := "flit/flitlaw03.StampVersions", spec := "stampVersions", apart := false, narrowed := true }
def StampVersionsUptoSaid : Prop := stampVersionsUptoRow.holds Try.pinned (OpenSpec.upto stampVersionsSpec)

/-- 'flitlaw05.PlanMakes', WHERE WHAT IT READS IS OF BULK AT MOST 1048576: true; the input reads as it did. -/
def planMakesUptoRow : OpenClaim := { program := "ytkgfidnpioakfaa", sum := "157c84b791b83aeb4a89ccc988f92594168b87638fb386cd546db4796c0f4357", func := "flit/flitlaw05.PlanMakes", spec := "planMakes", apart := false, narrowed := true }
def PlanMakesUptoSaid : Prop := planMakesUptoRow.holds Try.pinned (OpenSpec.upto planMakesSpec)

/-- 'flitlaw05.PlanBlocks', WHERE WHAT IT READS IS OF BULK AT MOST 1048576: true; the input reads as it did. -/
def planBlocksUptoRow : OpenClaim := { program := "ytkgfidnpioakfaa", sum := "157c84b791b83aeb4a89ccc988f92594168b87638fb386cd546db4796c0f4357", func := "flit/flitlaw05.PlanBlocks", spec := "planBlocks", apart := false, narrowed := true }
def PlanBlocksUptoSaid : Prop := planBlocksUptoRow.holds Try.pinned (OpenSpec.upto planBlocksSpec)

/-- 'flitlaw03.StampApart', WHERE WHAT IT READS IS OF BULK AT MOST 1048576: true; the input reads as it did. -/
def stampApartUptoRow : OpenClaim := { program := "ytkgfidnpioakfaa", sum := "157c84b791b83aeb4a89ccc988f92594168b87638fb386cd546db4796c0f4357", func := "flit/flitlaw03.StampApart", spec := "stampApart", apart := false, narrowed := true }
def StampApartUptoSaid : Prop := stampApartUptoRow.holds Try.pinned (OpenSpec.upto stampApartSpec)

/-- 'flitlaw02.HeadPacks', WHERE WHAT IT READS IS OF BULK AT MOST 1048576: true; the input reads as it did. -/
def headPacksUptoRow : OpenClaim := { program := "ytkgfidnpioakfaa", sum := "157c84b791b83aeb4a89ccc988f92594168b87638fb386cd546db4796c0f4357", func := "flit/flitlaw02.HeadPacks", spec := "headPacks", apart := false, narrowed := true }
def HeadPacksUptoSaid : Prop := headPacksUptoRow.holds Try.pinned (OpenSpec.upto headPacksSpec)

/-- 'flitlaw02.HeadReads', WHERE WHAT IT READS IS OF BULK AT MOST 1048576: true; the input reads as it did. -/
def headReadsUptoRow : OpenClaim := { program := "ytkgfidnpioakfaa", sum := "157c84b791b83aeb4a89ccc988f92594168b87638fb386cd546db4796c0f4357", func := "flit/flitlaw02.HeadReads", spec := "headReads", apart := false, narrowed := true }
def HeadReadsUptoSaid : Prop := headReadsUptoRow.holds Try.pinned (OpenSpec.upto headReadsSpec)

/-- 'flitlaw02.HeadBack', WHERE WHAT IT READS IS OF BULK AT MOST 1048576: true; the input reads as it did. -/
def headBackUptoRow : OpenClaim := { program := "ytkgfidnpioakfaa", sum := "157c84b791b83aeb4a89ccc988f92594168b87638fb386cd546db4796c0f4357", func := "flit/flitlaw02.HeadBack", spec := "headBack", apart := false, narrowed := true }
def HeadBackUptoSaid : Prop := headBackUptoRow.holds Try.pinned (OpenSpec.upto headBackSpec)

/-- 'flitlaw02.HeadApart', WHERE WHAT IT READS IS OF BULK AT MOST 1048576: true; the input reads as it did. -/
def headApartUptoRow : OpenClaim := { program := "ytkgfidnpioakfaa", sum := "157c84b791b83aeb4a89ccc988f92594168b87638fb386cd546db4796c0f4357", func := "flit/flitlaw02.HeadApart", spec := "headApart", apart := false, narrowed := true }
def HeadApartUptoSaid : Prop := headApartUptoRow.holds Try.pinned (OpenSpec.upto headApartSpec)

/-- 'flitlaw02.HeadLow', WHERE WHAT IT READS IS OF BULK AT MOST 1048576: true; the input reads as it did. -/
def headLowUptoRow : OpenClaim := { program := "ytkgfidnpioakfaa", sum := "157c84b791b83aeb4a89ccc988f92594168b87638fb386cd546db4796c0f4357", func := "flit/flitlaw02.HeadLow", spec := "headLow", apart := false, narrowed := true }
def HeadLowUptoSaid : Prop := headLowUptoRow.holds Try.pinned (OpenSpec.upto headLowSpec)

/-- 'flitlaw02.HeadMoves', WHERE WHAT IT READS IS OF BULK AT MOST 1048576: true; the input reads as it did. -/
def headMovesUptoRow : OpenClaim := { program := "ytkgfidnpioakfaa", sum := "157c84b791b83aeb4a89ccc988f92594168b87638fb386cd546db4796c0f4357", func := "flit/flitlaw02.HeadMoves", spec := "headMoves", apart := false, narrowed := true }
def HeadMovesUptoSaid : Prop := headMovesUptoRow.holds Try.pinned (OpenSpec.upto headMovesSpec)

/-- 'flitlaw02.HeadTags', WHERE WHAT IT READS IS OF BULK AT MOST 1048576: true; the input reads as it did. -/
def headTagsUptoRow : OpenClaim := { program := "ytkgfidnpioakfaa", sum := "157c84b791b83aeb4a89ccc988f92594168b87638fb386cd546db4796c0f4357", func := "flit/flitlaw02.HeadTags", spec := "headTags", apart := false, narrowed := true }
def HeadTagsUptoSaid : Prop := headTagsUptoRow.holds Try.pinned (OpenSpec.upto headTagsSpec)

/-- 'flitlaw02.HeadRanges', WHERE WHAT IT READS IS OF BULK AT MOST 1048576: true; the input reads as it did. -/
def headRangesUptoRow : OpenClaim := { program := "ytkgfidnpioakfaa", sum := "157c84b791b83aeb4a89ccc988f92594168b87638fb386cd546db4796c0f4357", func := "flit/flitlaw02.HeadRanges", spec := "headRanges", apart := false, narrowed := true }
def HeadRangesUptoSaid : Prop := headRangesUptoRow.holds Try.pinned (OpenSpec.upto headRangesSpec)

/-- 'flitlaw05.PlanApart', WHERE WHAT IT READS IS OF BULK AT MOST 1048576: true; the input reads as it did. -/
def planApartUptoRow : OpenClaim := { program := "ytkgfidnpioakfaa", sum := "157c84b791b83aeb4a89ccc988f92594168b87638fb386cd546db4796c0f4357", func := "flit/flitlaw05.PlanApart", spec := "planApart", apart := false, narrowed := true }
def PlanApartUptoSaid : Prop := planApartUptoRow.holds Try.pinned (OpenSpec.upto planApartSpec)

/-- 'flitlaw03.StampReads', WHERE WHAT IT READS IS OF BULK AT MOST 1048576: true; the input reads as it did. -/
def stampReadsUptoRow : OpenClaim := { program := "ytkgfidnpioakfaa", sum := "157c84b791b83aeb4a89ccc988f92594168b87638fb386cd546db4796c0f4357", func := "flit/flitlaw03.StampReads", spec := "stampReads", apart := false, narrowed := true }
def StampReadsUptoSaid : Prop := stampReadsUptoRow.holds Try.pinned (OpenSpec.upto stampReadsSpec)

/-- 'flitlaw03.StampBack', WHERE WHAT IT READS IS OF BULK AT MOST 1048576: true; the input reads as it did. -/
def stampBackUptoRow : OpenClaim := { program := "ytkgfidnpioakfaa", sum := "157c84b791b83aeb4a89ccc988f92594168b87638fb386cd546db4796c0f4357", func := "flit/flitlaw03.StampBack", spec := "stampBack", apart := false, narrowed := true }
def StampBackUptoSaid : Prop := stampBackUptoRow.holds Try.pinned (OpenSpec.upto stampBackSpec)

/-- 'flitlaw03.StampLow', WHERE WHAT IT READS IS OF BULK AT MOST 1048576: true; the input reads as it did. -/
def stampLowUptoRow : OpenClaim := { program := "ytkgfidnpioakfaa", sum := "157c84b791b83aeb4a89ccc988f92594168b87638fb386cd546db4796c0f4357", func := "flit/flitlaw03.StampLow", spec := "stampLow", apart := false, narrowed := true }
def StampLowUptoSaid : Prop := stampLowUptoRow.holds Try.pinned (OpenSpec.upto stampLowSpec)

/-- 'flitlaw05.PlanPlaces', WHERE WHAT IT READS IS OF BULK AT MOST 1048576: true; the input reads as it did. -/
def planPlacesUptoRow : OpenClaim := { program := "ytkgfidnpioakfaa", sum := "157c84b791b83aeb4a89ccc988f92594168b87638fb386cd546db4796c0f4357", func := "flit/flitlaw05.PlanPlaces", spec := "planPlaces", apart := false, narrowed := true }
def PlanPlacesUptoSaid : Prop := planPlacesUptoRow.holds Try.pinned (OpenSpec.upto planPlacesSpec)

/-- 'flitlaw05.PlanClasses', WHERE WHAT IT READS IS OF BULK AT MOST 1048576: true; the input reads as it did. -/
def planClassesUptoRow : OpenClaim := { program := "ytkgfidnpioakfaa", sum := "157c84b791b83aeb4a89ccc988f92594168b87638fb386cd546db4796c0f4357", func := "flit/flitlaw05.PlanClasses", spec := "planClasses", apart := false, narrowed := true }
def PlanClassesUptoSaid : Prop := planClassesUptoRow.holds Try.pinned (OpenSpec.upto planClassesSpec)

/-- 'flitlaw05.PlanSizes', WHERE WHAT IT READS IS OF BULK AT MOST 1048576: true; the input reads as it did. -/
def planSizesUptoRow : OpenClaim := { program := "ytkgfidnpioakfaa", sum := "157c84b791b83aeb4a89ccc988f92594168b87638fb386cd546db4796c0f4357", func := "flit/flitlaw05.PlanSizes", spec := "planSizes", apart := false, narrowed := true }
def PlanSizesUptoSaid : Prop := planSizesUptoRow.holds Try.pinned (OpenSpec.upto planSizesSpec)

end Rows
end Go.Proofs.Ytkgfidnpioakfaa
