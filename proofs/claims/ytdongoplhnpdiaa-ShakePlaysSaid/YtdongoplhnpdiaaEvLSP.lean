/-
  The table of contracts for ShakePlays.
-/
import Derived.Test.YtdongoplhnpdiaaEvLSR
import Derived.Test.YtdongoplhnpdiaaEvNext
import Derived.Test.YtdongoplhnpdiaaEvSame11
namespace Go.Proofs.Ytdongoplhnpdiaa.Eng
open Go Go.RowKit
set_option maxRecDepth 100000
namespace LSP
noncomputable def tabL : List (Nat × Intr MObj) := (24, renI Same.sI) :: (44, renI (orI (Next.midS Next.c1) (Next.midS Next.c2))) :: (tabM ++ LSR.tabL)
theorem tabL_ok : ∀ p ∈ tabL, FunOK MS Try.prog p.1 p.2 := tab_cons Same.ok (tab_cons Next.ok (tab_append tabM_ok LSR.tabL_ok))
end LSP
end Go.Proofs.Ytdongoplhnpdiaa.Eng
