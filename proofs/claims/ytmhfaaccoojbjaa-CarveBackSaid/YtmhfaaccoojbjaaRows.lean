/-
  No cell of these rows narrows 'for every input' (looked for: loops, veiled, ifaces, maps, wideKeys, modest, calm, conditions, laid).
  DERIVED. THE GIVEN ROWS OF THIS SEAT. 5 by the template 'for every input the law returns true; each argument reads behind the call as it read before'; 0 by the template 'total and deterministic' (their statements: YtmhfaaccoojbjaaTotals.lean).
  GIVEN WITH THE SEED: the statements are not yours to turn. If you find one false, say at which input.
  Laid BY PROGRAM, IN A SANDBOX (cutbox-rows.mjs): the forced cells as the released guide's own fill.sh prints them over the translation 7c72b391640c4cac… (all of the seat's roots in one cut). By AI agents, Wed Nov 11 2026. No macro, syntax, notation, axiom, sorry.
-/
import Derived.Test.YtmhfaaccoojbjaaChecked
import GoSem.Claim
import GoSem.ClaimJoined
import GoSem.ClaimMapViews
import Derived.JoinedTies
import Derived.KernelRfl
namespace Go.Proofs.Ytmhfaaccoojbjaa
/- THE CELL 'sum', in the pinned program and in every row, IS THE sha256 OF THE DUMP (.gsa) THAT YtmhfaaccoojbjaaProg.lean LOADS. Nothing in Lean hashes anything: it is a label: what it is worth is what the hold of that sum in a sandbox is worth. -/
noncomputable def Try.pinned : Pinned := { name := "ytmhfaaccoojbjaa", sum := "7c72b391640c4cac2deec575f7305dde4124d047301692f42069ab659220800b", checked := Try.checked }
namespace Rows
def none {H : Type} : Left H := { results := [], args := [] }

/-- 'flitlaw09.CarveCells': WHATEVER THE INPUT: true; the input reads as it did. -/
def carveCellsSpec : ChangeSpec := { name := "carveCells", fn := fun _ => fun
  | [d1, d2, d3] => { results := [.lit (.bool true)], args := [d1, d2, d3] }
  | _ => none }
def carveCellsRow : OpenClaim := { program := "ytmhfaaccoojbjaa", sum := "7c72b391640c4cac2deec575f7305dde4124d047301692f42069ab659220800b", func := "flit/flitlaw09.CarveCells", spec := "carveCells", unfollowed := true, recurses := true, apart := false }
def CarveCellsSaid : Prop := carveCellsRow.holds Try.pinned (OpenSpec.ofChange carveCellsSpec)

/-- ITS FALSE NEIGHBOUR: 'it returns false'. Refute it at one input. -/
def carveCellsWrong : ChangeSpec := { name := "carveCells", fn := fun _ => fun
  | [d1, d2, d3] => { results := [.lit (.bool false)], args := [d1, d2, d3] }
  | _ => none }
def CarveCellsWrongFalsely : Prop := carveCellsRow.holds Try.pinned (OpenSpec.ofChange carveCellsWrong)

/-- 'flitlaw09.CarveBack': WHATEVER THE INPUT: true; the input reads as it did. -/
def carveBackSpec : ChangeSpec := { name := "carveBack", fn := fun _ => fun
  | [d1, d2, d3] => { results := [.lit (.bool true)], args := [d1, d2, d3] }
  | _ => none }
def carveBackRow : OpenClaim := { program := "ytmhfaaccoojbjaa", sum := "7c72b391640c4cac2deec575f7305dde4124d047301692f42069ab659220800b", func := "flit/flitlaw09.CarveBack", spec := "carveBack", unfollowed := true, recurses := true, apart := false }
def CarveBackSaid : Prop := carveBackRow.holds Try.pinned (OpenSpec.ofChange carveBackSpec)

/-- ITS FALSE NEIGHBOUR: 'it returns false'. Refute it at one input. -/
def carveBackWrong : ChangeSpec := { name := "carveBack", fn := fun _ => fun
  | [d1, d2, d3] => { results := [.lit (.bool false)], args := [d1, d2, d3] }
  | _ => none }
def CarveBackWrongFalsely : Prop := carveBackRow.holds Try.pinned (OpenSpec.ofChange carveBackWrong)

/-- 'flitlaw09.CarvePlays': WHATEVER THE INPUT: true; the input reads as it did. -/
def carvePlaysSpec : ChangeSpec := { name := "carvePlays", fn := fun _ => fun
  | [d1, d2] => { results := [.lit (.bool true)], args := [d1, d2] }
  | _ => none }
def carvePlaysRow : OpenClaim := { program := "ytmhfaaccoojbjaa", sum := "7c72b391640c4cac2deec575f7305dde4124d047301692f42069ab659220800b", func := "flit/flitlaw09.CarvePlays", spec := "carvePlays", unfollowed := true, recurses := true, apart := false }
def CarvePlaysSaid : Prop := carvePlaysRow.holds Try.pinned (OpenSpec.ofChange carvePlaysSpec)

/-- ITS FALSE NEIGHBOUR: 'it returns false'. Refute it at one input. -/
def carvePlaysWrong : ChangeSpec := { name := "carvePlays", fn := fun _ => fun
  | [d1, d2] => { results := [.lit (.bool false)], args := [d1, d2] }
  | _ => none }
def CarvePlaysWrongFalsely : Prop := carvePlaysRow.holds Try.pinned (OpenSpec.ofChange carvePlaysWrong)

/-- 'flitlaw10.AllocAll': WHATEVER THE INPUT: true; the input reads as it did. -/
def allocAllSpec : ChangeSpec := { name := "allocAll", fn := fun _ => fun
  | [d1, d2] => { results := [.lit (.bool true)], args := [d1, d2] }
  | _ => none }
def allocAllRow : OpenClaim := { program := "ytmhfaaccoojbjaa", sum := "7c72b391640c4cac2deec575f7305dde4124d047301692f42069ab659220800b", func := "flit/flitlaw10.AllocAll", spec := "allocAll", unfollowed := true, recurses := true, apart := false }
def AllocAllSaid : Prop := allocAllRow.holds Try.pinned (OpenSpec.ofChange allocAllSpec)

/-- ITS FALSE NEIGHBOUR: 'it returns false'. Refute it at one input. -/
def allocAllWrong : ChangeSpec := { name := "allocAll", fn := fun _ => fun
  | [d1, d2] => { results := [.lit (.bool false)], args := [d1, d2] }
  | _ => none }
def AllocAllWrongFalsely : Prop := allocAllRow.holds Try.pinned (OpenSpec.ofChange allocAllWrong)

/-- 'flitlaw10.AllocSteps': WHATEVER THE INPUT: true; the input reads as it did. -/
def allocStepsSpec : ChangeSpec := { name := "allocSteps", fn := fun _ => fun
  | [d1, d2] => { results := [.lit (.bool true)], args := [d1, d2] }
  | _ => none }
def allocStepsRow : OpenClaim := { program := "ytmhfaaccoojbjaa", sum := "7c72b391640c4cac2deec575f7305dde4124d047301692f42069ab659220800b", func := "flit/flitlaw10.AllocSteps", spec := "allocSteps", unfollowed := true, recurses := true, apart := false }
def AllocStepsSaid : Prop := allocStepsRow.holds Try.pinned (OpenSpec.ofChange allocStepsSpec)

/-- ITS FALSE NEIGHBOUR: 'it returns false'. Refute it at one input. -/
def allocStepsWrong : ChangeSpec := { name := "allocSteps", fn := fun _ => fun
  | [d1, d2] => { results := [.lit (.bool false)], args := [d1, d2] }
  | _ => none }
def AllocStepsWrongFalsely : Prop := allocStepsRow.holds Try.pinned (OpenSpec.ofChange allocStepsWrong)

/- THE SECOND FORM. 'bulk': how many values and letters a reading holds, each counted each time it is reached (what is shared counts as often as it is met; a slice's spare places count too). A statement '..UptoSaid' is the law's where the arguments, and the package variables that the reading takes, are together of bulk at most 1048576: NARROWER than '..Said'. Prove '..Said' where nothing that the law and all that it calls make is longer than what came in: it says more and counts as full. Else prove '..UptoSaid'. A law counts once. -/
mutual
def uptoBulk {H : Type} : DataW H → Nat
  | .lit (.string bytes) => bytes.length + 1
  | .lit _ => 1
  | .nil => 1
  | .ptr d => uptoBulk d + 1
  | .slice elems spare => uptoBulkAll elems + uptoBulkAll spare + 1
  | .agg parts => uptoBulkAll parts + 1
  | .iface _ d => uptoBulk d + 1
  | .map entries => uptoBulkEntries entries + 1
  | .held _ => 1
def uptoBulkAll {H : Type} : List (DataW H) → Nat
  | [] => 0
  | d :: r => uptoBulk d + uptoBulkAll r
def uptoBulkEntries {H : Type} : List (Lit × DataW H) → Nat
  | [] => 0
  | x :: r => uptoBulkEntry x + uptoBulkEntries r
def uptoBulkEntry {H : Type} : Lit × DataW H → Nat
  | (.string bytes, d) => bytes.length + uptoBulk d + 1
  | (_, d) => uptoBulk d + 1
 end
def uptoSmall : (H : Type) → List (DataW H) → Bool := fun _ ds => decide (uptoBulkAll ds ≤ 1048576)
def OpenSpec.upto (s : _root_.Go.ChangeSpec) : _root_.Go.OpenSpec := { _root_.Go.OpenSpec.ofChange s with cond := some uptoSmall }

/-- 'flitlaw09.CarveCells', WHERE WHAT IT READS IS OF BULK AT MOST 1048576: true; the input reads as it did. -/
def carveCellsUptoRow : OpenClaim := { program := "ytmhfaaccoojbjaa", sum := "7c72b391640c4cac2deec575f7305dde4124d047301692f42069ab659220800b", func := "flit/flitlaw09.CarveCells", spec := "carveCells", unfollowed := true, recurses := true, apart := false, narrowed := true }
def CarveCellsUptoSaid : Prop := carveCellsUptoRow.holds Try.pinned (OpenSpec.upto carveCellsSpec)

/-- 'flitlaw09.CarveBack', WHERE WHAT IT READS IS OF BULK AT MOST 1048576: true; the input reads as it did. -/
def carveBackUptoRow : OpenClaim := { program := "ytmhfaaccoojbjaa", sum := "7c72b391640c4cac2deec575f7305dde4124d047301692f42069ab659220800b", func := "flit/flitlaw09.CarveBack", spec := "carveBack", unfollowed := true, recurses := true, apart := false, narrowed := true }
def CarveBackUptoSaid : Prop := carveBackUptoRow.holds Try.pinned (OpenSpec.upto carveBackSpec)

/-- 'flitlaw09.CarvePlays', WHERE WHAT IT READS IS OF BULK AT MOST 1048576: true; the input reads as it did. -/
def carvePlaysUptoRow : OpenClaim := { program := "ytmhfaaccoojbjaa", sum := "7c72b391640c4cac2deec575f7305dde4124d047301692f42069ab659220800b", func := "flit/flitlaw09.CarvePlays", spec := "carvePlays", unfollowed := true, recurses := true, apart := false, narrowed := true }
def CarvePlaysUptoSaid : Prop := carvePlaysUptoRow.holds Try.pinned (OpenSpec.upto carvePlaysSpec)

/-- 'flitlaw10.AllocAll', WHERE WHAT IT READS IS OF BULK AT MOST 1048576: true; the input reads as it did. -/
def allocAllUptoRow : OpenClaim := { program := "ytmhfaaccoojbjaa", sum := "7c72b391640c4cac2deec575f7305dde4124d047301692f42069ab659220800b", func := "flit/flitlaw10.AllocAll", spec := "allocAll", unfollowed := true, recurses := true, apart := false, narrowed := true }
def AllocAllUptoSaid : Prop := allocAllUptoRow.holds Try.pinned (OpenSpec.upto allocAllSpec)

/-- 'flitlaw10.AllocSteps', WHERE WHAT IT READS IS OF BULK AT MOST 1048576: true; the input reads as it did. -/
def allocStepsUptoRow : OpenClaim := { program := "ytmhfaaccoojbjaa", sum := "7c72b391640c4cac2deec575f7305dde4124d047301692f42069ab659220800b", func := "flit/flitlaw10.AllocSteps", spec := "allocSteps", unfollowed := true, recurses := true, apart := false, narrowed := true }
def AllocStepsUptoSaid : Prop := allocStepsUptoRow.holds Try.pinned (OpenSpec.upto allocStepsSpec)

end Rows
end Go.Proofs.Ytmhfaaccoojbjaa
