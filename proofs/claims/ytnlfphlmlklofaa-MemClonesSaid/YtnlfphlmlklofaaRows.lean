/-
  No cell of these rows narrows 'for every input' (looked for: loops, veiled, ifaces, maps, wideKeys, modest, calm, conditions, laid).
  DERIVED. THE GIVEN ROWS OF THIS SEAT. 7 by the template 'for every input the law returns true; each argument reads behind the call as it read before'; 0 by the template 'total and deterministic' (their statements: YtnlfphlmlklofaaTotals.lean).
  GIVEN WITH THE SEED: the statements are not yours to turn. If you find one false, say at which input.
  Laid BY PROGRAM, IN A SANDBOX (cutbox-rows.mjs): the forced cells as the released guide's own fill.sh prints them over the translation 343356e1a2573766… (all of the seat's roots in one cut). By AI agents, Wed Nov 11 2026. No macro, syntax, notation, axiom, sorry.
-/
import Derived.Test.YtnlfphlmlklofaaChecked
import GoSem.Claim
import GoSem.ClaimJoined
import GoSem.ClaimMapViews
import Derived.JoinedTies
import Derived.KernelRfl
namespace Go.Proofs.Ytnlfphlmlklofaa
/- THE CELL 'sum', in the pinned program and in every row, IS THE sha256 OF THE DUMP (.gsa) THAT YtnlfphlmlklofaaProg.lean LOADS. Nothing in Lean hashes anything: it is a label: what it is worth is what the hold of that sum in a sandbox is worth. -/
noncomputable def Try.pinned : Pinned := { name := "ytnlfphlmlklofaa", sum := "343356e1a257376634ee2fff55469afe09297ba7ff8076cdf30ed173a413e76f", checked := Try.checked }
namespace Rows
def none {H : Type} : Left H := { results := [], args := [] }

/-- 'flitlaw04.MemChanges': WHATEVER THE INPUT: true; the input reads as it did. -/
def memChangesSpec : ChangeSpec := { name := "memChanges", fn := fun _ => fun
  | [d] => { results := [.lit (.bool true)], args := [d] }
  | _ => none }
def memChangesRow : OpenClaim := { program := "ytnlfphlmlklofaa", sum := "343356e1a257376634ee2fff55469afe09297ba7ff8076cdf30ed173a413e76f", func := "flit/flitlaw04.MemChanges", spec := "memChanges", unfollowed := true, recurses := true, apart := false }
def MemChangesSaid : Prop := memChangesRow.holds Try.pinned (OpenSpec.ofChange memChangesSpec)

/-- ITS FALSE NEIGHBOUR: 'it returns false'. Refute it at one input. -/
def memChangesWrong : ChangeSpec := { name := "memChanges", fn := fun _ => fun
  | [d] => { results := [.lit (.bool false)], args := [d] }
  | _ => none }
def MemChangesWrongFalsely : Prop := memChangesRow.holds Try.pinned (OpenSpec.ofChange memChangesWrong)

/-- 'flitlaw04.MemCounts': WHATEVER THE INPUT: true; the input reads as it did. -/
def memCountsSpec : ChangeSpec := { name := "memCounts", fn := fun _ => fun
  | [d1, d2] => { results := [.lit (.bool true)], args := [d1, d2] }
  | _ => none }
def memCountsRow : OpenClaim := { program := "ytnlfphlmlklofaa", sum := "343356e1a257376634ee2fff55469afe09297ba7ff8076cdf30ed173a413e76f", func := "flit/flitlaw04.MemCounts", spec := "memCounts", unfollowed := true, recurses := true, apart := false }
def MemCountsSaid : Prop := memCountsRow.holds Try.pinned (OpenSpec.ofChange memCountsSpec)

/-- ITS FALSE NEIGHBOUR: 'it returns false'. Refute it at one input. -/
def memCountsWrong : ChangeSpec := { name := "memCounts", fn := fun _ => fun
  | [d1, d2] => { results := [.lit (.bool false)], args := [d1, d2] }
  | _ => none }
def MemCountsWrongFalsely : Prop := memCountsRow.holds Try.pinned (OpenSpec.ofChange memCountsWrong)

/-- 'flitlaw04.MemClones': WHATEVER THE INPUT: true; the input reads as it did. -/
def memClonesSpec : ChangeSpec := { name := "memClones", fn := fun _ => fun
  | [d1, d2] => { results := [.lit (.bool true)], args := [d1, d2] }
  | _ => none }
def memClonesRow : OpenClaim := { program := "ytnlfphlmlklofaa", sum := "343356e1a257376634ee2fff55469afe09297ba7ff8076cdf30ed173a413e76f", func := "flit/flitlaw04.MemClones", spec := "memClones", unfollowed := true, recurses := true, apart := false }
def MemClonesSaid : Prop := memClonesRow.holds Try.pinned (OpenSpec.ofChange memClonesSpec)

/-- ITS FALSE NEIGHBOUR: 'it returns false'. Refute it at one input. -/
def memClonesWrong : ChangeSpec := { name := "memClones", fn := fun _ => fun
  | [d1, d2] => { results := [.lit (.bool false)], args := [d1, d2] }
  | _ => none }
def MemClonesWrongFalsely : Prop := memClonesRow.holds Try.pinned (OpenSpec.ofChange memClonesWrong)

/-- 'flitlaw08.ListChains': WHATEVER THE INPUT: true; the input reads as it did. -/
def listChainsSpec : ChangeSpec := { name := "listChains", fn := fun _ => fun
  | [d1, d2] => { results := [.lit (.bool true)], args := [d1, d2] }
  | _ => none }
def listChainsRow : OpenClaim := { program := "ytnlfphlmlklofaa", sum := "343356e1a257376634ee2fff55469afe09297ba7ff8076cdf30ed173a413e76f", func := "flit/flitlaw08.ListChains", spec := "listChains", unfollowed := true, recurses := true, apart := false }
def ListChainsSaid : Prop := listChainsRow.holds Try.pinned (OpenSpec.ofChange listChainsSpec)

/-- ITS FALSE NEIGHBOUR: 'it returns false'. Refute it at one input. -/
def listChainsWrong : ChangeSpec := { name := "listChains", fn := fun _ => fun
  | [d1, d2] => { results := [.lit (.bool false)], args := [d1, d2] }
  | _ => none }
def ListChainsWrongFalsely : Prop := listChainsRow.holds Try.pinned (OpenSpec.ofChange listChainsWrong)

/-- 'flitlaw08.ListOwn': WHATEVER THE INPUT: true; the input reads as it did. -/
def listOwnSpec : ChangeSpec := { name := "listOwn", fn := fun _ => fun
  | [d1, d2] => { results := [.lit (.bool true)], args := [d1, d2] }
  | _ => none }
def listOwnRow : OpenClaim := { program := "ytnlfphlmlklofaa", sum := "343356e1a257376634ee2fff55469afe09297ba7ff8076cdf30ed173a413e76f", func := "flit/flitlaw08.ListOwn", spec := "listOwn", unfollowed := true, recurses := true, apart := false }
def ListOwnSaid : Prop := listOwnRow.holds Try.pinned (OpenSpec.ofChange listOwnSpec)

/-- ITS FALSE NEIGHBOUR: 'it returns false'. Refute it at one input. -/
def listOwnWrong : ChangeSpec := { name := "listOwn", fn := fun _ => fun
  | [d1, d2] => { results := [.lit (.bool false)], args := [d1, d2] }
  | _ => none }
def ListOwnWrongFalsely : Prop := listOwnRow.holds Try.pinned (OpenSpec.ofChange listOwnWrong)

/-- 'flitlaw08.ListOrder': WHATEVER THE INPUT: true; the input reads as it did. -/
def listOrderSpec : ChangeSpec := { name := "listOrder", fn := fun _ => fun
  | [d] => { results := [.lit (.bool true)], args := [d] }
  | _ => none }
def listOrderRow : OpenClaim := { program := "ytnlfphlmlklofaa", sum := "343356e1a257376634ee2fff55469afe09297ba7ff8076cdf30ed173a413e76f", func := "flit/flitlaw08.ListOrder", spec := "listOrder", unfollowed := true, recurses := true, apart := false }
def ListOrderSaid : Prop := listOrderRow.holds Try.pinned (OpenSpec.ofChange listOrderSpec)

/-- ITS FALSE NEIGHBOUR: 'it returns false'. Refute it at one input. -/
def listOrderWrong : ChangeSpec := { name := "listOrder", fn := fun _ => fun
  | [d] => { results := [.lit (.bool false)], args := [d] }
  | _ => none }
def ListOrderWrongFalsely : Prop := listOrderRow.holds Try.pinned (OpenSpec.ofChange listOrderWrong)

/-- 'flitlaw08.ListPlays': WHATEVER THE INPUT: true; the input reads as it did. -/
def listPlaysSpec : ChangeSpec := { name := "listPlays", fn := fun _ => fun
  | [d1, d2] => { results := [.lit (.bool true)], args := [d1, d2] }
  | _ => none }
def listPlaysRow : OpenClaim := { program := "ytnlfphlmlklofaa", sum := "343356e1a257376634ee2fff55469afe09297ba7ff8076cdf30ed173a413e76f", func := "flit/flitlaw08.ListPlays", spec := "listPlays", unfollowed := true, recurses := true, apart := false }
def ListPlaysSaid : Prop := listPlaysRow.holds Try.pinned (OpenSpec.ofChange listPlaysSpec)

/-- ITS FALSE NEIGHBOUR: 'it returns false'. Refute it at one input. -/
def listPlaysWrong : ChangeSpec := { name := "listPlays", fn := fun _ => fun
  | [d1, d2] => { results := [.lit (.bool false)], args := [d1, d2] }
  | _ => none }
def ListPlaysWrongFalsely : Prop := listPlaysRow.holds Try.pinned (OpenSpec.ofChange listPlaysWrong)

/- THE SECOND FORM. 'bulk': how many values and letters a reading holds, each counted each time it is reached (what is shared counts as often as it is met; a slice's spare places count too). A statement '..UptoSaid' is the law's where the arguments, and the package variables that the reading takes, are together of bulk at most 1048576: NARROWER than '..Said'. Prove '..Said' where nothing that the law and all that it calls make is longer than what came in: it says more and counts as full. Else prove '..UptoSaid'. A law counts once. -/
mutual
def uptoBulk {H : Type} : DataW H → Nat
  | .lit (.string bytes) => bytes.length + 1
  | .lit _ => 1
  | .nil => 1
  | .ptr d => uptoBulk d + 1
  | .slice elems spare => uptoBulkAll elems + uptoBulkAll spare + 1
  | .agg parts => uptoBulkAll parts + 1
  | .iface _ d => uptoBulk d + 1
  | .map entries => uptoBulkEntries entries + 1
  | .held _ => 1
def uptoBulkAll {H : Type} : List (DataW H) → Nat
  | [] => 0
  | d :: r => uptoBulk d + uptoBulkAll r
def uptoBulkEntries {H : Type} : List (Lit × DataW H) → Nat
  | [] => 0
  | x :: r => uptoBulkEntry x + uptoBulkEntries r
def uptoBulkEntry {H : Type} : Lit × DataW H → Nat
  | (.string bytes, d) => bytes.length + uptoBulk d + 1
  | (_, d) => uptoBulk d + 1
 end
def uptoSmall : (H : Type) → List (DataW H) → Bool := fun _ ds => decide (uptoBulkAll ds ≤ 1048576)
def OpenSpec.upto (s : _root_.Go.ChangeSpec) : _root_.Go.OpenSpec := { _root_.Go.OpenSpec.ofChange s with cond := some uptoSmall }

/-- 'flitlaw04.MemChanges', WHERE WHAT IT READS IS OF BULK AT MOST 1048576: true; the input reads as it did. -/
def memChangesUptoRow : OpenClaim := { program := "ytnlfphlmlklofaa", sum := "343356e1a257376634ee2fff55469afe09297ba7ff8076cdf30ed173a413e76f", func := "flit/flitlaw04.MemChanges", spec := "memChanges", unfollowed := true, recurses := true, apart := false, narrowed := true }
def MemChangesUptoSaid : Prop := memChangesUptoRow.holds Try.pinned (OpenSpec.upto memChangesSpec)

/-- 'flitlaw04.MemCounts', WHERE WHAT IT READS IS OF BULK AT MOST 1048576: true; the input reads as it did. -/
def memCountsUptoRow : OpenClaim := { program := "ytnlfphlmlklofaa", sum := "343356e1a257376634ee2fff55469afe09297ba7ff8076cdf30ed173a413e76f", func := "flit/flitlaw04.MemCounts", spec := "memCounts", unfollowed := true, recurses := true, apart := false, narrowed := true }
def MemCountsUptoSaid : Prop := memCountsUptoRow.holds Try.pinned (OpenSpec.upto memCountsSpec)

/-- 'flitlaw04.MemClones', WHERE WHAT IT READS IS OF BULK AT MOST 1048576: true; the input reads as it did. -/
def memClonesUptoRow : OpenClaim := { program := "ytnlfphlmlklofaa", sum := "343356e1a257376634ee2fff55469afe09297ba7ff8076cdf30ed173a413e76f", func := "flit/flitlaw04.MemClones", spec := "memClones", unfollowed := true, recurses := true, apart := false, narrowed := true }
def MemClonesUptoSaid : Prop := memClonesUptoRow.holds Try.pinned (OpenSpec.upto memClonesSpec)

/-- 'flitlaw08.ListChains', WHERE WHAT IT READS IS OF BULK AT MOST 1048576: true; the input reads as it did. -/
def listChainsUptoRow : OpenClaim := { program := "ytnlfphlmlklofaa", sum := "343356e1a257376634ee2fff55469afe09297ba7ff8076cdf30ed173a413e76f", func := "flit/flitlaw08.ListChains", spec := "listChains", unfollowed := true, recurses := true, apart := false, narrowed := true }
def ListChainsUptoSaid : Prop := listChainsUptoRow.holds Try.pinned (OpenSpec.upto listChainsSpec)

/-- 'flitlaw08.ListOwn', WHERE WHAT IT READS IS OF BULK AT MOST 1048576: true; the input reads as it did. -/
def listOwnUptoRow : OpenClaim := { program := "ytnlfphlmlklofaa", sum := "343356e1a257376634ee2fff55469afe09297ba7ff8076cdf30ed173a413e76f", func := "flit/flitlaw08.ListOwn", spec := "listOwn", unfollowed := true, recurses := true, apart := false, narrowed := true }
def ListOwnUptoSaid : Prop := listOwnUptoRow.holds Try.pinned (OpenSpec.upto listOwnSpec)

/-- 'flitlaw08.ListOrder', WHERE WHAT IT READS IS OF BULK AT MOST 1048576: true; the input reads as it did. -/
def listOrderUptoRow : OpenClaim := { program := "ytnlfphlmlklofaa", sum := "343356e1a257376634ee2fff55469afe09297ba7ff8076cdf30ed173a413e76f", func := "flit/flitlaw08.ListOrder", spec := "listOrder", unfollowed := true, recurses := true, apart := false, narrowed := true }
def ListOrderUptoSaid : Prop := listOrderUptoRow.holds Try.pinned (OpenSpec.upto listOrderSpec)

/-- 'flitlaw08.ListPlays', WHERE WHAT IT READS IS OF BULK AT MOST 1048576: true; the input reads as it did. -/
def listPlaysUptoRow : OpenClaim := { program := "ytnlfphlmlklofaa", sum := "343356e1a257376634ee2fff55469afe09297ba7ff8076cdf30ed173a413e76f", func := "flit/flitlaw08.ListPlays", spec := "listPlays", unfollowed := true, recurses := true, apart := false, narrowed := true }
def ListPlaysUptoSaid : Prop := listPlaysUptoRow.holds Try.pinned (OpenSpec.upto listPlaysSpec)

end Rows
end Go.Proofs.Ytnlfphlmlklofaa
