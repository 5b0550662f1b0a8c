/-
  No cell of these rows narrows 'for every input' (looked for: loops, veiled, ifaces, maps, wideKeys, modest, calm, conditions, laid).
  DERIVED. THE GIVEN ROWS OF THIS SEAT. 4 by the template 'for every input the law returns true; each argument reads behind the call as it read before'; 0 by the template 'total and deterministic' (their statements: YtpbodklmbahahaaTotals.lean).
  GIVEN WITH THE SEED: the statements are not yours to turn. If you find one false, say at which input.
  Laid BY PROGRAM, IN A SANDBOX (cutbox-rows.mjs): the forced cells as the released guide's own fill.sh prints them over the translation e8c1368837a50d61… (all of the seat's roots in one cut). By AI agents, Wed Nov 11 2026. No macro, syntax, notation, axiom, sorry.
-/
import Derived.Test.YtpbodklmbahahaaChecked
import GoSem.Claim
import GoSem.ClaimJoined
import GoSem.ClaimMapViews
import Derived.JoinedTies
import Derived.KernelRfl
namespace Go.Proofs.Ytpbodklmbahahaa
/- THE CELL 'sum', in the pinned program and in every row, IS THE sha256 OF THE DUMP (.gsa) THAT YtpbodklmbahahaaProg.lean LOADS. Nothing in Lean hashes anything: it is a label: what it is worth is what the hold of that sum in a sandbox is worth. -/
noncomputable def Try.pinned : Pinned := { name := "ytpbodklmbahahaa", sum := "e8c1368837a50d61e3216060b6e78a3441c648fbf1de974a77dc0426926f575f", checked := Try.checked }
namespace Rows
def none {H : Type} : Left H := { results := [], args := [] }

/-- 'flitlaw10.AllocAll': WHATEVER THE INPUT: true; the input reads as it did. -/
def allocAllSpec : ChangeSpec := { name := "allocAll", fn := fun _ => fun
  | [d1, d2] => { results := [.lit (.bool true)], args := [d1, d2] }
  | _ => none }
def allocAllRow : OpenClaim := { program := "ytpbodklmbahahaa", sum := "e8c1368837a50d61e3216060b6e78a3441c648fbf1de974a77dc0426926f575f", func := "flit/flitlaw10.AllocAll", spec := "allocAll", unfollowed := true, recurses := true, apart := false }
def AllocAllSaid : Prop := allocAllRow.holds Try.pinned (OpenSpec.ofChange allocAllSpec)

/-- ITS FALSE NEIGHBOUR: 'it returns false'. Refute it at one input. -/
def allocAllWrong : ChangeSpec := { name := "allocAll", fn := fun _ => fun
  | [d1, d2] => { results := [.lit (.bool false)], args := [d1, d2] }
  | _ => none }
def AllocAllWrongFalsely : Prop := allocAllRow.holds Try.pinned (OpenSpec.ofChange allocAllWrong)

/-- 'flitlaw10.AllocSteps': WHATEVER THE INPUT: true; the input reads as it did. -/
def allocStepsSpec : ChangeSpec := { name := "allocSteps", fn := fun _ => fun
  | [d1, d2] => { results := [.lit (.bool true)], args := [d1, d2] }
  | _ => none }
def allocStepsRow : OpenClaim := { program := "ytpbodklmbahahaa", sum := "e8c1368837a50d61e3216060b6e78a3441c648fbf1de974a77dc0426926f575f", func := "flit/flitlaw10.AllocSteps", spec := "allocSteps", unfollowed := true, recurses := true, apart := false }
def AllocStepsSaid : Prop := allocStepsRow.holds Try.pinned (OpenSpec.ofChange allocStepsSpec)

/-- ITS FALSE NEIGHBOUR: 'it returns false'. Refute it at one input. -/
def allocStepsWrong : ChangeSpec := { name := "allocSteps", fn := fun _ => fun
  | [d1, d2] => { results := [.lit (.bool false)], args := [d1, d2] }
  | _ => none }
def AllocStepsWrongFalsely : Prop := allocStepsRow.holds Try.pinned (OpenSpec.ofChange allocStepsWrong)

/-- 'flitlaw10.AllocSets': WHATEVER THE INPUT: true; the input reads as it did. -/
def allocSetsSpec : ChangeSpec := { name := "allocSets", fn := fun _ => fun
  | [d] => { results := [.lit (.bool true)], args := [d] }
  | _ => none }
def allocSetsRow : OpenClaim := { program := "ytpbodklmbahahaa", sum := "e8c1368837a50d61e3216060b6e78a3441c648fbf1de974a77dc0426926f575f", func := "flit/flitlaw10.AllocSets", spec := "allocSets", unfollowed := true, recurses := true, apart := false }
def AllocSetsSaid : Prop := allocSetsRow.holds Try.pinned (OpenSpec.ofChange allocSetsSpec)

/-- ITS FALSE NEIGHBOUR: 'it returns false'. Refute it at one input. -/
def allocSetsWrong : ChangeSpec := { name := "allocSets", fn := fun _ => fun
  | [d] => { results := [.lit (.bool false)], args := [d] }
  | _ => none }
def AllocSetsWrongFalsely : Prop := allocSetsRow.holds Try.pinned (OpenSpec.ofChange allocSetsWrong)

/-- 'flitlaw10.AllocOwn': WHATEVER THE INPUT: true; the input reads as it did. -/
def allocOwnSpec : ChangeSpec := { name := "allocOwn", fn := fun _ => fun
  | [d1, d2] => { results := [.lit (.bool true)], args := [d1, d2] }
  | _ => none }
def allocOwnRow : OpenClaim := { program := "ytpbodklmbahahaa", sum := "e8c1368837a50d61e3216060b6e78a3441c648fbf1de974a77dc0426926f575f", func := "flit/flitlaw10.AllocOwn", spec := "allocOwn", unfollowed := true, recurses := true, apart := false }
def AllocOwnSaid : Prop := allocOwnRow.holds Try.pinned (OpenSpec.ofChange allocOwnSpec)

/-- ITS FALSE NEIGHBOUR: 'it returns false'. Refute it at one input. -/
def allocOwnWrong : ChangeSpec := { name := "allocOwn", fn := fun _ => fun
  | [d1, d2] => { results := [.lit (.bool false)], args := [d1, d2] }
  | _ => none }
def AllocOwnWrongFalsely : Prop := allocOwnRow.holds Try.pinned (OpenSpec.ofChange allocOwnWrong)

/- THE SECOND FORM. 'bulk': how many values and letters a reading holds, each counted each time it is reached (what is shared counts as often as it is met; a slice's spare places count too). A statement '..UptoSaid' is the law's where the arguments, and the package variables that the reading takes, are together of bulk at most 1048576: NARROWER than '..Said'. Prove '..Said' where nothing that the law and all that it calls make is longer than what came in: it says more and counts as full. Else prove '..UptoSaid'. A law counts once. -/
mutual
def uptoBulk {H : Type} : DataW H → Nat
  | .lit (.string bytes) => bytes.length + 1
  | .lit _ => 1
  | .nil => 1
  | .ptr d => uptoBulk d + 1
  | .slice elems spare => uptoBulkAll elems + uptoBulkAll spare + 1
  | .agg parts => uptoBulkAll parts + 1
  | .iface _ d => uptoBulk d + 1
  | .map entries => uptoBulkEntries entries + 1
  | .held _ => 1
def uptoBulkAll {H : Type} : List (DataW H) → Nat
  | [] => 0
  | d :: r => uptoBulk d + uptoBulkAll r
def uptoBulkEntries {H : Type} : List (Lit × DataW H) → Nat
  | [] => 0
  | x :: r => uptoBulkEntry x + uptoBulkEntries r
def uptoBulkEntry {H : Type} : Lit × DataW H → Nat
  | (.string bytes, d) => bytes.length + uptoBulk d + 1
  | (_, d) => uptoBulk d + 1
 end
def uptoSmall : (H : Type) → List (DataW H) → Bool := fun _ ds => decide (uptoBulkAll ds ≤ 1048576)
def OpenSpec.upto (s : _root_.Go.ChangeSpec) : _root_.Go.OpenSpec := { _root_.Go.OpenSpec.ofChange s with cond := some uptoSmall }

/-- 'flitlaw10.AllocAll', WHERE WHAT IT READS IS OF BULK AT MOST 1048576: true; the input reads as it did. -/
def allocAllUptoRow : OpenClaim := { program := "ytpbodklmbahahaa", sum := "e8c1368837a50d61e3216060b6e78a3441c648fbf1de974a77dc0426926f575f", func := "flit/flitlaw10.AllocAll", spec := "allocAll", unfollowed := true, recurses := true, apart := false, narrowed := true }
def AllocAllUptoSaid : Prop := allocAllUptoRow.holds Try.pinned (OpenSpec.upto allocAllSpec)

/-- 'flitlaw10.AllocSteps', WHERE WHAT IT READS IS OF BULK AT MOST 1048576: true; the input reads as it did. -/
def allocStepsUptoRow : OpenClaim := { program := "ytpbodklmbahahaa", sum := "e8c1368837a50d61e3216060b6e78a3441c648fbf1de974a77dc0426926f575f", func := "flit/flitlaw10.AllocSteps", spec := "allocSteps", unfollowed := true, recurses := true, apart := false, narrowed := true }
def AllocStepsUptoSaid : Prop := allocStepsUptoRow.holds Try.pinned (OpenSpec.upto allocStepsSpec)

/-- 'flitlaw10.AllocSets', WHERE WHAT IT READS IS OF BULK AT MOST 1048576: true; the input reads as it did. -/
def allocSetsUptoRow : OpenClaim := { program := "ytpbodklmbahahaa", sum := "e8c1368837a50d61e3216060b6e78a3441c648fbf1de974a77dc0426926f575f", func := "flit/flitlaw10.AllocSets", spec := "allocSets", unfollowed := true, recurses := true, apart := false, narrowed := true }
def AllocSetsUptoSaid : Prop := allocSetsUptoRow.holds Try.pinned (OpenSpec.upto allocSetsSpec)

/-- 'flitlaw10.AllocOwn', WHERE WHAT IT READS IS OF BULK AT MOST 1048576: true; the input reads as it did. -/
def allocOwnUptoRow : OpenClaim := { program := "ytpbodklmbahahaa", sum := "e8c1368837a50d61e3216060b6e78a3441c648fbf1de974a77dc0426926f575f", func := "flit/flitlaw10.AllocOwn", spec := "allocOwn", unfollowed := true, recurses := true, apart := false, narrowed := true }
def AllocOwnUptoSaid : Prop := allocOwnUptoRow.holds Try.pinned (OpenSpec.upto allocOwnSpec)

end Rows
end Go.Proofs.Ytpbodklmbahahaa
