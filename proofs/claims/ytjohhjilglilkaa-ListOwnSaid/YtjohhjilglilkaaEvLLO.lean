/-
  The table of contracts for ListOwn.
-/
import Derived.Test.YtjohhjilglilkaaEv8
import Derived.Test.YtjohhjilglilkaaEvKS
namespace Go.Proofs.Ytjohhjilglilkaa.Eng
open Go Go.RowKit
set_option maxRecDepth 100000
set_option linter.unusedVariables false
namespace LLO
theorem k0 (f : FuncId) : FunOK MS Try.prog f (evF Try.prog (fun _ => none) 100 20 f) := evF_sound progOK (fun _ _ h => by cases h) 100 20 f
/-- Of thirteen kinds: by cases; else as a sign. -/
def gK : List SV → Tr SV
  | [c, .s (.one (.int .i64 (.lit 13)))] => gKind [c, .s (.one (.int .i64 (.lit 13)))]
  | l => gKindS l
theorem gK_or (l : List SV) : gK l = gKind l ∨ gK l = gKindS l := by
  unfold gK
  split
  · exact .inl rfl
  · exact .inr rfl
theorem kindT_ok : FunOK MS Try.prog 5 (pureT MObj gKind) := kind_of (k0 _) (fun c n => by kernel_rfl)
theorem kindS_ok : FunOK MS Try.prog 5 (pureT MObj gKindS) := kindS_of (k0 _) (fun c n => by kernel_rfl)
theorem kind_ok : FunOK MS Try.prog 5 (pureT MObj gK) := by
  intro args hp nid r hrun
  have : pureT MObj gK args hp nid = pureT MObj gKind args hp nid ∨ pureT MObj gK args hp nid = pureT MObj gKindS args hp nid := by
    unfold pureT
    rcases gK_or args with e | e <;> rw [e]
    · exact .inl rfl
    · exact .inr rfl
  rcases this with e | e
  · exact kindT_ok args hp nid r (e ▸ hrun)
  · exact kindS_ok args hp nid r (e ▸ hrun)
def tabS : List (Nat × Intr MObj) := (9, L8.iPop) :: (11, L8.iPush) :: L8.tabP
theorem tabS_ok : ∀ p ∈ tabS, FunOK MS Try.prog p.1 p.2 := tab_cons L8.iPop_ok (tab_cons L8.iPush_ok L8.tabP_ok)
theorem ok (f : FuncId) : FunOK MS Try.prog f (evF Try.prog (lookH MObj tabS) 100 20 f) := evF_sound progOK (lookH_ok tabS_ok) 100 20 f
theorem shown_ok : FunOK MS Try.prog 4 (pureI MObj gTrue) := shown_of (ok _) (by kernel_rfl)
def tabL : List (Nat × Intr MObj) := (4, pureI MObj gTrue) :: (5, pureT MObj gK) :: tabS
theorem tabL_ok : ∀ p ∈ tabL, FunOK MS Try.prog p.1 p.2 := tab_cons shown_ok (tab_cons kind_ok tabS_ok)
end LLO
end Go.Proofs.Ytjohhjilglilkaa.Eng
