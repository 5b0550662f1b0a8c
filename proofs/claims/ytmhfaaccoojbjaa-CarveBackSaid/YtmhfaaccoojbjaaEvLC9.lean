/-
  The table of contracts for the laws of layer 9 that are checked case by case: the memory alone is abstract.
-/
import Derived.Test.YtmhfaaccoojbjaaEv9
import Derived.Test.YtmhfaaccoojbjaaEvK
import Derived.Test.YtmhfaaccoojbjaaEvF09
namespace Go.Proofs.Ytmhfaaccoojbjaa.Eng
open Go Go.RowKit
set_option maxRecDepth 100000
namespace LC9
theorem k0 (f : FuncId) : FunOK MS Try.prog f (evF Try.prog (fun _ => none) 100 20 f) := evF_sound progOK (fun _ _ h => by cases h) 100 20 f
def tab0 : List (Nat × Intr MObj) := (10, pureT MObj gKind) :: (11, renI LF09.freshI) :: (14, L9.iCarve) :: (19, L8.iPop) :: (36, L8.iPush) :: LF09.tabT
theorem kind_ok : FunOK MS Try.prog 10 (pureT MObj gKind) := kind_of (k0 _) (fun c n => by kernel_rfl)
theorem tab0_ok : ∀ p ∈ tab0, FunOK MS Try.prog p.1 p.2 := tab_cons kind_ok (tab_cons LF09.freshI_ok (tab_cons L9.iCarve_ok (tab_cons L8.iPop_ok (tab_cons L8.iPush_ok LF09.tabT_ok))))
theorem ok (f : FuncId) : FunOK MS Try.prog f (evF Try.prog (lookH MObj tab0) 100 20 f) := evF_sound progOK (lookH_ok tab0_ok) 100 20 f
theorem shown_ok : FunOK MS Try.prog 8 (pureI MObj gTrue) := shown_of (ok _) (by kernel_rfl)
def tabL : List (Nat × Intr MObj) := (8, pureI MObj gTrue) :: tab0
theorem tabL_ok : ∀ p ∈ tabL, FunOK MS Try.prog p.1 p.2 := tab_cons shown_ok tab0_ok
end LC9
end Go.Proofs.Ytmhfaaccoojbjaa.Eng
