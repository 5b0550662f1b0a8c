/-
  No cell of these rows narrows 'for every input' (looked for: loops, veiled, ifaces, maps, wideKeys, modest, calm, conditions, laid).
  DERIVED. THE GIVEN ROWS OF THIS SEAT. 3 by the template 'for every input the law returns true; each argument reads behind the call as it read before'; 0 by the template 'total and deterministic' (their statements: YtdongoplhnpdiaaTotals.lean).
  GIVEN WITH THE SEED: the statements are not yours to turn. If you find one false, say at which input.
  Laid BY PROGRAM, IN A SANDBOX (cutbox-rows.mjs): the forced cells as the released guide's own fill.sh prints them over the translation dd4af8ae1b4b5066… (all of the seat's roots in one cut). By AI agents, Wed Nov 11 2026. No macro, syntax, notation, axiom, sorry.
-/
import Derived.Test.YtdongoplhnpdiaaChecked
import GoSem.Claim
import GoSem.ClaimJoined
import GoSem.ClaimMapViews
import Derived.JoinedTies
import Derived.KernelRfl
namespace Go.Proofs.Ytdongoplhnpdiaa
/- THE CELL 'sum', in the pinned program and in every row, IS THE sha256 OF THE DUMP (.gsa) THAT YtdongoplhnpdiaaProg.lean LOADS. Nothing in Lean hashes anything: it is a label: what it is worth is what the hold of that sum in a sandbox is worth. -/
noncomputable def Try.pinned : Pinned := { name := "ytdongoplhnpdiaa", sum := "dd4af8ae1b4b50661767771c3e533d3a96bd349e2a86f7467767c4d06cda11b7", checked := Try.checked }
namespace Rows
def none {H : Type} : Left H := { results := [], args := [] }

/-- 'flitlaw16.ShakeRoots': WHATEVER THE INPUT: true; the input reads as it did. -/
def shakeRootsSpec : ChangeSpec := { name := "shakeRoots", fn := fun _ => fun
  | [d1, d2, d3] => { results := [.lit (.bool true)], args := [d1, d2, d3] }
  | _ => none }
def shakeRootsRow : OpenClaim := { program := "ytdongoplhnpdiaa", sum := "dd4af8ae1b4b50661767771c3e533d3a96bd349e2a86f7467767c4d06cda11b7", func := "flit/flitlaw16.ShakeRoots", spec := "shakeRoots", unfollowed := true, recurses := true, apart := false }
def ShakeRootsSaid : Prop := shakeRootsRow.holds Try.pinned (OpenSpec.ofChange shakeRootsSpec)

/-- ITS FALSE NEIGHBOUR: 'it returns false'. Refute it at one input. -/
def shakeRootsWrong : ChangeSpec := { name := "shakeRoots", fn := fun _ => fun
  | [d1, d2, d3] => { results := [.lit (.bool false)], args := [d1, d2, d3] }
  | _ => none }
def ShakeRootsWrongFalsely : Prop := shakeRootsRow.holds Try.pinned (OpenSpec.ofChange shakeRootsWrong)

/-- 'flitlaw16.ShakeAll': WHATEVER THE INPUT: true; the input reads as it did. -/
def shakeAllSpec : ChangeSpec := { name := "shakeAll", fn := fun _ => fun
  | [d1, d2] => { results := [.lit (.bool true)], args := [d1, d2] }
  | _ => none }
def shakeAllRow : OpenClaim := { program := "ytdongoplhnpdiaa", sum := "dd4af8ae1b4b50661767771c3e533d3a96bd349e2a86f7467767c4d06cda11b7", func := "flit/flitlaw16.ShakeAll", spec := "shakeAll", unfollowed := true, recurses := true, apart := false }
def ShakeAllSaid : Prop := shakeAllRow.holds Try.pinned (OpenSpec.ofChange shakeAllSpec)

/-- ITS FALSE NEIGHBOUR: 'it returns false'. Refute it at one input. -/
def shakeAllWrong : ChangeSpec := { name := "shakeAll", fn := fun _ => fun
  | [d1, d2] => { results := [.lit (.bool false)], args := [d1, d2] }
  | _ => none }
def ShakeAllWrongFalsely : Prop := shakeAllRow.holds Try.pinned (OpenSpec.ofChange shakeAllWrong)

/-- 'flitlaw16.ShakePlays': WHATEVER THE INPUT: true; the input reads as it did. -/
def shakePlaysSpec : ChangeSpec := { name := "shakePlays", fn := fun _ => fun
  | [d1, d2, d3] => { results := [.lit (.bool true)], args := [d1, d2, d3] }
  | _ => none }
def shakePlaysRow : OpenClaim := { program := "ytdongoplhnpdiaa", sum := "dd4af8ae1b4b50661767771c3e533d3a96bd349e2a86f7467767c4d06cda11b7", func := "flit/flitlaw16.ShakePlays", spec := "shakePlays", unfollowed := true, recurses := true, apart := false }
def ShakePlaysSaid : Prop := shakePlaysRow.holds Try.pinned (OpenSpec.ofChange shakePlaysSpec)

/-- ITS FALSE NEIGHBOUR: 'it returns false'. Refute it at one input. -/
def shakePlaysWrong : ChangeSpec := { name := "shakePlays", fn := fun _ => fun
  | [d1, d2, d3] => { results := [.lit (.bool false)], args := [d1, d2, d3] }
  | _ => none }
def ShakePlaysWrongFalsely : Prop := shakePlaysRow.holds Try.pinned (OpenSpec.ofChange shakePlaysWrong)

/- THE SECOND FORM. 'bulk': how many values and letters a reading holds, each counted each time it is reached (what is shared counts as often as it is met; a slice's spare places count too). A statement '..UptoSaid' is the law's where the arguments, and the package variables that the reading takes, are together of bulk at most 1048576: NARROWER than '..Said'. Prove '..Said' where nothing that the law and all that it calls make is longer than what came in: it says more and counts as full. Else prove '..UptoSaid'. A law counts once. -/
mutual
def uptoBulk {H : Type} : DataW H → Nat
  | .lit (.string bytes) => bytes.length + 1
  | .lit _ => 1
  | .nil => 1
  | .ptr d => uptoBulk d + 1
  | .slice elems spare => uptoBulkAll elems + uptoBulkAll spare + 1
  | .agg parts => uptoBulkAll parts + 1
  | .iface _ d => uptoBulk d + 1
  | .map entries => uptoBulkEntries entries + 1
  | .held _ => 1
def uptoBulkAll {H : Type} : List (DataW H) → Nat
  | [] => 0
  | d :: r => uptoBulk d + uptoBulkAll r
def uptoBulkEntries {H : Type} : List (Lit × DataW H) → Nat
  | [] => 0
  | x :: r => uptoBulkEntry x + uptoBulkEntries r
def uptoBulkEntry {H : Type} : Lit × DataW H → Nat
  | (.string bytes, d) => bytes.length + uptoBulk d + 1
  | (_, d) => uptoBulk d + 1
 end
def uptoSmall : (H : Type) → List (DataW H) → Bool := fun _ ds => decide (uptoBulkAll ds ≤ 1048576)
def OpenSpec.upto (s : _root_.Go.ChangeSpec) : _root_.Go.OpenSpec := { _root_.Go.OpenSpec.ofChange s with cond := some uptoSmall }

/-- 'flitlaw16.ShakeRoots', WHERE WHAT IT READS IS OF BULK AT MOST 1048576: true; the input reads as it did. -/
def shakeRootsUptoRow : OpenClaim := { program := "ytdongoplhnpdiaa", sum := "dd4af8ae1b4b50661767771c3e533d3a96bd349e2a86f7467767c4d06cda11b7", func := "flit/flitlaw16.ShakeRoots", spec := "shakeRoots", unfollowed := true, recurses := true, apart := false, narrowed := true }
def ShakeRootsUptoSaid : Prop := shakeRootsUptoRow.holds Try.pinned (OpenSpec.upto shakeRootsSpec)

/-- 'flitlaw16.ShakeAll', WHERE WHAT IT READS IS OF BULK AT MOST 1048576: true; the input reads as it did. -/
def shakeAllUptoRow : OpenClaim := { program := "ytdongoplhnpdiaa", sum := "dd4af8ae1b4b50661767771c3e533d3a96bd349e2a86f7467767c4d06cda11b7", func := "flit/flitlaw16.ShakeAll", spec := "shakeAll", unfollowed := true, recurses := true, apart := false, narrowed := true }
def ShakeAllUptoSaid : Prop := shakeAllUptoRow.holds Try.pinned (OpenSpec.upto shakeAllSpec)

/-- 'flitlaw16.ShakePlays', WHERE WHAT IT READS IS OF BULK AT MOST 1048576: true; the input reads as it did. -/
def shakePlaysUptoRow : OpenClaim := { program := "ytdongoplhnpdiaa", sum := "dd4af8ae1b4b50661767771c3e533d3a96bd349e2a86f7467767c4d06cda11b7", func := "flit/flitlaw16.ShakePlays", spec := "shakePlays", unfollowed := true, recurses := true, apart := false, narrowed := true }
def ShakePlaysUptoSaid : Prop := shakePlaysUptoRow.holds Try.pinned (OpenSpec.upto shakePlaysSpec)

end Rows
end Go.Proofs.Ytdongoplhnpdiaa
