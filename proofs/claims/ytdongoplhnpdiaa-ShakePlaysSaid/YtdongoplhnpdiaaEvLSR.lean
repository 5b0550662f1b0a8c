/-
  The table of contracts for ShakeRoots.
-/
import Derived.Test.YtdongoplhnpdiaaEvSome16
import Derived.Test.YtdongoplhnpdiaaEvFrom
namespace Go.Proofs.Ytdongoplhnpdiaa.Eng
open Go Go.RowKit
set_option maxRecDepth 100000
namespace LSR
noncomputable def tabL : List (Nat × Intr MObj) := (7, renI (symI Laid.cI)) :: (10, renI Some16.cI) :: (35, renI (orI (From.midS From.c1) (From.midS From.c2))) :: L16.tabL
theorem tabL_ok : ∀ p ∈ tabL, FunOK MS Try.prog p.1 p.2 := tab_cons Laid.ok (tab_cons Some16.ok (tab_cons From.ok L16.tabL_ok))
end LSR
end Go.Proofs.Ytdongoplhnpdiaa.Eng
