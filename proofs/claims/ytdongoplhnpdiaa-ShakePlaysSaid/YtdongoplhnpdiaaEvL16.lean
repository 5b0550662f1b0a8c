/-
  The table of contracts for the laws of flitlaw16.
-/
import Derived.Test.YtdongoplhnpdiaaEv4
import Derived.Test.YtdongoplhnpdiaaEv5r
import Derived.Test.YtdongoplhnpdiaaEv2r
import Derived.Test.YtdongoplhnpdiaaEvKS
namespace Go.Proofs.Ytdongoplhnpdiaa.Eng
open Go Go.RowKit
set_option maxRecDepth 100000
set_option linter.unusedVariables false
namespace L16
def tab2p : List (Nat × Intr MObj) := tab2.map fun p => (p.1, pureI MObj p.2)
theorem tab2p_ok : ∀ p ∈ tab2p, FunOK MS Try.prog p.1 p.2 := fun p hp => by
  obtain ⟨q, hq, rfl⟩ := List.mem_map.1 hp
  exact tab2_ok q hq
def tab5p : List (Nat × Intr MObj) := tab5b.map fun p => (p.1, pureI MObj p.2)
theorem tab5p_ok : ∀ p ∈ tab5p, FunOK MS Try.prog p.1 p.2 := fun p hp => by
  obtain ⟨q, hq, rfl⟩ := List.mem_map.1 hp
  exact tab5b_ok q hq
theorem k0 (f : FuncId) : FunOK MS Try.prog f (evF Try.prog (fun _ => none) 100 20 f) := evF_sound progOK (fun _ _ h => by cases h) 100 20 f
theorem kind_ok : FunOK MS Try.prog 18 (pureT MObj gKindS) := kindS_of (k0 _) (fun c n => by kernel_rfl)
def tabT : List (Nat × Intr MObj) := (18, pureT MObj gKindS) :: (tabMm ++ (tab2p ++ tab5p))
theorem tabT_ok : ∀ p ∈ tabT, FunOK MS Try.prog p.1 p.2 := tab_cons kind_ok (tab_append tabMm_ok (tab_append tab2p_ok tab5p_ok))
theorem ok (f : FuncId) : FunOK MS Try.prog f (evF Try.prog (lookH MObj tabT) 100 20 f) := evF_sound progOK (lookH_ok tabT_ok) 100 20 f
theorem shown_ok : FunOK MS Try.prog 6 (pureI MObj gTrue) := shown_of (ok _) (by kernel_rfl)
def tabL : List (Nat × Intr MObj) := (6, pureI MObj gTrue) :: tabT
theorem tabL_ok : ∀ p ∈ tabL, FunOK MS Try.prog p.1 p.2 := tab_cons shown_ok tabT_ok
end L16
end Go.Proofs.Ytdongoplhnpdiaa.Eng
