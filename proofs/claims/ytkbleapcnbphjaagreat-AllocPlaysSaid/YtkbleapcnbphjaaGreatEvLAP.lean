/-
  The table of contracts for AllocPlays.
-/
import Derived.Test.YtkbleapcnbphjaaGreatEv9
import Derived.Test.YtkbleapcnbphjaaGreatEvKS
import Derived.Test.YtkbleapcnbphjaaGreatEvF101
import Derived.Test.YtkbleapcnbphjaaGreatEvF104
import Derived.Test.YtkbleapcnbphjaaGreatEvSame11
namespace Go.Proofs.YtkbleapcnbphjaaGreat.Eng
open Go Go.RowKit
set_option maxRecDepth 100000
set_option linter.unusedVariables false
namespace LAP
theorem k0 (f : FuncId) : FunOK MS Tryz.prog f (evF Tryz.prog (fun _ => none) 100 20 f) := evF_sound progOK (fun _ _ h => by cases h) 100 20 f
/-- Of four kinds: by cases; else as a sign. -/
def gK : List SV → Tr SV
  | [c, .s (.one (.int .i64 (.lit 4)))] => gKind [c, .s (.one (.int .i64 (.lit 4)))]
  | l => gKindS l
theorem gK_or (l : List SV) : gK l = gKind l ∨ gK l = gKindS l := by
  unfold gK
  split
  · exact .inl rfl
  · exact .inr rfl
theorem kindT_ok : FunOK MS Tryz.prog 6 (pureT MObj gKind) := kind_of (k0 _) (fun c n => by kernel_rfl)
theorem kindS_ok : FunOK MS Tryz.prog 6 (pureT MObj gKindS) := kindS_of (k0 _) (fun c n => by kernel_rfl)
theorem kind_ok : FunOK MS Tryz.prog 6 (pureT MObj gK) := by
  intro args hp nid r hrun
  have : pureT MObj gK args hp nid = pureT MObj gKind args hp nid ∨ pureT MObj gK args hp nid = pureT MObj gKindS args hp nid := by
    unfold pureT
    rcases gK_or args with e | e <;> rw [e]
    · exact .inl rfl
    · exact .inr rfl
  rcases this with e | e
  · exact kindT_ok args hp nid r (e ▸ hrun)
  · exact kindS_ok args hp nid r (e ▸ hrun)
def tabS : List (Nat × Intr MObj) := (6, pureT MObj gKind) :: (7, renI LF101.freshI) :: (36, L9.iCarve) :: (32, L8.iPop) :: (103, L8.iPush) :: LF101.tabT
theorem tabS_ok : ∀ p ∈ tabS, FunOK MS Tryz.prog p.1 p.2 := tab_cons kindT_ok (tab_cons LF101.freshI_ok (tab_cons L9.iCarve_ok (tab_cons L8.iPop_ok (tab_cons L8.iPush_ok LF101.tabT_ok))))
theorem ok (f : FuncId) : FunOK MS Tryz.prog f (evF Tryz.prog (lookH MObj tabS) 100 20 f) := evF_sound progOK (lookH_ok tabS_ok) 100 20 f
theorem shown_ok : FunOK MS Tryz.prog 4 (pureI MObj gTrue) := shown_of (ok _) (by kernel_rfl)
def tabL : List (Nat × Intr MObj) := (4, pureI MObj gTrue) :: (6, pureT MObj gK) :: (7, renI LF104.freshI) :: (18, renI Same.sI) :: (36, L9.iCarve) :: L9.tabP
theorem tabL_ok : ∀ p ∈ tabL, FunOK MS Tryz.prog p.1 p.2 := tab_cons shown_ok (tab_cons kind_ok (tab_cons LF104.freshI_ok (tab_cons Same.ok (tab_cons L9.iCarve_ok L9.tabP_ok))))
end LAP
end Go.Proofs.YtkbleapcnbphjaaGreat.Eng
