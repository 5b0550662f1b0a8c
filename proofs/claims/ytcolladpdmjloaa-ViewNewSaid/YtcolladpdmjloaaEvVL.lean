/-
  The table of contracts for ViewNew's cases.
-/
import Derived.Test.YtcolladpdmjloaaEvView
namespace Go.Proofs.Ytcolladpdmjloaa.ViewC
open Go Go.RowKit Go.Proofs.Ytcolladpdmjloaa.Eng
set_option maxRecDepth 100000
set_option linter.unusedVariables false
def tabF : List (Nat × Intr MObj) := (4, pureI MObj gTrue) :: (7, renI (symI cI)) :: (25, renI (symI mI)) :: V25.tabN
theorem tabF_ok : ∀ p ∈ tabF, FunOK MS Try.prog p.1 p.2 := tab_cons V25.shown_ok (tab_cons okC (tab_cons okM V25.tabN_ok))
end Go.Proofs.Ytcolladpdmjloaa.ViewC
