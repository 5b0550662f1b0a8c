/-
  The table of contracts for the laws of layer 4.
-/
import Derived.Test.YtnlfphlmlklofaaEvK
namespace Go.Proofs.Ytnlfphlmlklofaa.Eng
open Go Go.RowKit
set_option maxRecDepth 20000
namespace L4
theorem ok (f : FuncId) : FunOK MS Try.prog f (evF Try.prog (lookH MObj tabM) 100 20 f) := evF_sound progOK (lookH_ok tabM_ok) 100 20 f
theorem shown_ok : FunOK MS Try.prog 10 (pureI MObj gTrue) := shown_of (ok _) (by kernel_rfl)
theorem kind_ok : FunOK MS Try.prog 12 (pureT MObj gKind) := kind_of (ok _) (fun c n => by kernel_rfl)
def tabL : List (Nat × Intr MObj) := (10, pureI MObj gTrue) :: (12, pureT MObj gKind) :: tabM
theorem tabL_ok : ∀ p ∈ tabL, FunOK MS Try.prog p.1 p.2 := tab_cons shown_ok (tab_cons kind_ok tabM_ok)
end L4
end Go.Proofs.Ytnlfphlmlklofaa.Eng
