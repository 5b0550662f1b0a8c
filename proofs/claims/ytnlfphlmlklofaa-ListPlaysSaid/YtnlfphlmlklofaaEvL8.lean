/-
  The table of contracts for the laws of layer 8.
-/
import Derived.Test.YtnlfphlmlklofaaEv8
import Derived.Test.YtnlfphlmlklofaaEvK
namespace Go.Proofs.Ytnlfphlmlklofaa.Eng
open Go Go.RowKit
set_option maxRecDepth 20000
namespace L8
def tab0 : List (Nat × Intr MObj) := tab ++ tabP
theorem tab0_ok : ∀ p ∈ tab0, FunOK MS Try.prog p.1 p.2 := tab_append tab_ok tabP_ok
theorem ok (f : FuncId) : FunOK MS Try.prog f (evF Try.prog (lookH MObj tab0) 100 20 f) := evF_sound progOK (lookH_ok tab0_ok) 100 20 f
theorem shown_ok : FunOK MS Try.prog 23 (pureI MObj gTrue) := shown_of (ok _) (by kernel_rfl)
theorem kind_ok : FunOK MS Try.prog 24 (pureT MObj gKind) := kind_of (ok _) (fun c n => by kernel_rfl)
def tabL : List (Nat × Intr MObj) := (23, pureI MObj gTrue) :: (24, pureT MObj gKind) :: tab0
theorem tabL_ok : ∀ p ∈ tabL, FunOK MS Try.prog p.1 p.2 := tab_cons shown_ok (tab_cons kind_ok tab0_ok)
end L8
end Go.Proofs.Ytnlfphlmlklofaa.Eng
