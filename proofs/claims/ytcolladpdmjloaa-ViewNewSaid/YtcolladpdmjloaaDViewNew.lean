/-
  ViewNew: what its first statements come to, told by a test that the kernel does.
-/
import Derived.Test.YtcolladpdmjloaaTViewNew1
import Derived.Test.YtcolladpdmjloaaEvK
import Derived.Test.YtcolladpdmjloaaEngV
namespace Go.Proofs.Ytcolladpdmjloaa.ViewNew
open Go Go.RowKit Go.Proofs.Ytcolladpdmjloaa.Eng
set_option linter.unusedVariables false
set_option linter.unusedSimpArgs false
set_option linter.unusedSectionVars false
set_option maxRecDepth 20000
noncomputable abbrev st0 (a0 a1 : Int) : St MObj := ⟨[.v (ii a0), .v (ii a1)] ++ List.replicate (nt - 2) .undef, [], 0, []⟩
/-- What the rest of the law asks of two objects. -/
def goodH (st : St MObj) (P Q : Nat) (n : SN) : Option (VObj MObj) → Option (VObj MObj) → Bool
  | some (.cells [.int .i64 s0, .int .i64 s1, .int .i64 s2, .int .i64 s3, .int .i64 s4] ty0), some (.tab [.int .i64] rows ty1) =>
    (decide (ty0 = 24) && decide (ty1 = 3)) && ((Nat.beq st.tm.length 100 && (Nat.ble st.nid 200 && renChk [(P, 0), (Q, 1)] st.hp 0 st.nid 2)) && ((decide (n.val = rows.length) && (decide (0 ≤ s4.val) && (decide (s4.val ≤ rows.length) && decide (rows.length ≤ 4000)))) &&
      (List.range rows.length).all fun a => decide (tabAt rows a 0 = if (a : Int) < s3.val then 0 else 3)))
  | _, _ => false
noncomputable def goodS (st : St MObj) : Bool := match nth st.tm 4, nth st.tm 6, nth st.tm 11 with
  | some (.s (.one (.bool (.lit false)))), some (.s (.one (.ptr P 0))), some (.s (.one (.ts Q (.lit 0) n none))) => !(Nat.beq P Q) && goodH st P Q n (hget st.hp P) (hget st.hp Q)
  | _, _, _ => false
noncomputable def good (r : VX × St MObj) : Bool := match r.1 with
  | .normal => goodS r.2
  | _ => false
noncomputable abbrev t (a0 a1 : Int) : Tr Bool := (evl (Eng.spine 9 body).1 (st0 a0 a1)).vmap good
end Go.Proofs.Ytcolladpdmjloaa.ViewNew
