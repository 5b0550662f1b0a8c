/-
  The table for MemCounts: the memory's functions are evaluated themselves.
-/
import Derived.Test.YtnlfphlmlklofaaEvL4
import Derived.Test.YtnlfphlmlklofaaEvKS
namespace Go.Proofs.Ytnlfphlmlklofaa.Eng
open Go Go.RowKit
set_option maxRecDepth 20000
namespace L4
theorem kindS_ok : FunOK MS Try.prog 12 (pureT MObj gKindS) := kindS_of (ok _) (fun c n => by kernel_rfl)
def tabC : List (Nat × Intr MObj) := [(10, pureI MObj gTrue), (12, pureT MObj gKindS)]
theorem tabC_ok : ∀ p ∈ tabC, FunOK MS Try.prog p.1 p.2 := tab_cons shown_ok (tab_cons kindS_ok (fun _ h => by cases h))
end L4
end Go.Proofs.Ytnlfphlmlklofaa.Eng
