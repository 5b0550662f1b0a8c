/-
  The table of contracts for the laws of layer 11.
-/
import Derived.Test.YtlkanbgcghjhnaaEvK
namespace Go.Proofs.Ytlkanbgcghjhnaa.Eng
open Go Go.RowKit
set_option maxRecDepth 100000
namespace L11
def tab2p : List (Nat × Intr MObj) := tab2.map fun p => (p.1, pureI MObj p.2)
theorem tab2p_ok : ∀ p ∈ tab2p, FunOK MS Try.prog p.1 p.2 := fun p hp => by
  obtain ⟨q, hq, rfl⟩ := List.mem_map.1 hp
  exact tab2_ok q hq
def tab0 : List (Nat × Intr MObj) := (7, pureT MObj gKind) :: (tabM ++ tab2p)
theorem k0 (f : FuncId) : FunOK MS Try.prog f (evF Try.prog (fun _ => none) 100 20 f) := evF_sound progOK (fun _ _ h => by cases h) 100 20 f
theorem kind_ok : FunOK MS Try.prog 7 (pureT MObj gKind) := kind_of (k0 _) (fun c n => by kernel_rfl)
theorem tab0_ok : ∀ p ∈ tab0, FunOK MS Try.prog p.1 p.2 := tab_cons kind_ok (tab_append tabM_ok tab2p_ok)
theorem ok (f : FuncId) : FunOK MS Try.prog f (evF Try.prog (lookH MObj tab0) 100 20 f) := evF_sound progOK (lookH_ok tab0_ok) 100 20 f
theorem shown_ok : FunOK MS Try.prog 5 (pureI MObj gTrue) := shown_of (ok _) (by kernel_rfl)
def tabL : List (Nat × Intr MObj) := (5, pureI MObj gTrue) :: tab0
theorem tabL_ok : ∀ p ∈ tabL, FunOK MS Try.prog p.1 p.2 := tab_cons shown_ok tab0_ok
end L11
end Go.Proofs.Ytlkanbgcghjhnaa.Eng
