/-
  The table for AllocAll: the steps of an Alloc as contracts, too.
-/
import Derived.Test.YtmhfaaccoojbjaaEvLC10
import Derived.Test.YtmhfaaccoojbjaaEv10
namespace Go.Proofs.Ytmhfaaccoojbjaa.Eng
open Go Go.RowKit
namespace LA
def tabL : List (Nat × Intr MObj) := (39, L10s.iAlloc) :: LC10.tabL
theorem tabL_ok : ∀ p ∈ tabL, FunOK MS Try.prog p.1 p.2 := tab_cons L10s.iAlloc_ok LC10.tabL_ok
end LA
end Go.Proofs.Ytmhfaaccoojbjaa.Eng
