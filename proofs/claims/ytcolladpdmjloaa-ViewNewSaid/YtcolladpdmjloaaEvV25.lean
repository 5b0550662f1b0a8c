/-
  The table of contracts for ViewNew: the memory alone is abstract.
-/
import Derived.Test.YtcolladpdmjloaaEv4
import Derived.Test.YtcolladpdmjloaaEv5r
import Derived.Test.YtcolladpdmjloaaEvKS
namespace Go.Proofs.Ytcolladpdmjloaa.Eng
open Go Go.RowKit
set_option maxRecDepth 100000
set_option linter.unusedVariables false
namespace V25
def tab2p : List (Nat × Intr MObj) := tab2.map fun p => (p.1, pureI MObj p.2)
theorem tab2p_ok : ∀ p ∈ tab2p, FunOK MS Try.prog p.1 p.2 := fun p hp => by
  obtain ⟨q, hq, rfl⟩ := List.mem_map.1 hp
  exact tab2_ok q hq
def tab5p : List (Nat × Intr MObj) := tab5b.map fun p => (p.1, pureI MObj p.2)
theorem tab5p_ok : ∀ p ∈ tab5p, FunOK MS Try.prog p.1 p.2 := fun p hp => by
  obtain ⟨q, hq, rfl⟩ := List.mem_map.1 hp
  exact tab5b_ok q hq
def tabT : List (Nat × Intr MObj) := tabMm ++ (tab2p ++ tab5p)
theorem tabT_ok : ∀ p ∈ tabT, FunOK MS Try.prog p.1 p.2 := tab_append tabMm_ok (tab_append tab2p_ok tab5p_ok)
theorem k0 (f : FuncId) : FunOK MS Try.prog f (evF Try.prog (fun _ => none) 100 20 f) := evF_sound progOK (fun _ _ h => by cases h) 100 20 f
theorem num_ok : FunOK MS Try.prog 6 (pureT MObj gKind) := kind_of (k0 _) (fun c n => by kernel_rfl)
def tabN : List (Nat × Intr MObj) := (6, pureT MObj gKind) :: tabT
theorem tabN_ok : ∀ p ∈ tabN, FunOK MS Try.prog p.1 p.2 := tab_cons num_ok tabT_ok
theorem okN (f : FuncId) : FunOK MS Try.prog f (evF Try.prog (lookH MObj tabN) 400 20 f) := evF_sound progOK (lookH_ok tabN_ok) 400 20 f
theorem shown_ok : FunOK MS Try.prog 4 (pureI MObj gTrue) := shown_of (okN _) (by kernel_rfl)
def tabL : List (Nat × Intr MObj) := (4, pureI MObj gTrue) :: tabN
theorem tabL_ok : ∀ p ∈ tabL, FunOK MS Try.prog p.1 p.2 := tab_cons shown_ok tabN_ok
end V25
end Go.Proofs.Ytcolladpdmjloaa.Eng
