/-
  The engine, part V: one path through a tree.
-/
import Derived.Test.YtcolladpdmjloaaEngU
namespace Go.Proofs.Ytcolladpdmjloaa.Eng
open Go Go.RowKit
namespace Tr
variable {α : Type}
def path : Tr α → List Bool → Tr α
  | t, [] => t
  | .ite _ t e, b :: p => match b with
    | true => t.path p
    | false => e.path p
  | t, _ :: _ => t
def conds : Tr α → List Bool → List Bool
  | _, [] => []
  | .ite c t e, b :: p => c :: (match b with
    | true => t.conds p
    | false => e.conds p)
  | _, _ :: _ => []
theorem run_path : ∀ {t : Tr α} {p : List Bool}, t.conds p = p → t.run = (t.path p).run
  | t, [], _ => by cases t <;> rfl
  | .ite c t e, b :: p, h => by
    simp only [conds] at h
    injection h with h1 h2
    subst h1
    cases c with
    | true => exact run_path (t := t) h2
    | false => exact run_path (t := e) h2
  | .ok a, _ :: _, h => by cases h
  | .no s, _ :: _, h => by cases h
theorem run_at {t : Tr α} {p cs : List Bool} {l : α} (h1 : t.conds p = cs) (h2 : cs = p) (h3 : t.path p = .ok l) : t.run = some l := by
  rw [run_path (h1.trans h2), h3]
  rfl
end Tr
end Go.Proofs.Ytcolladpdmjloaa.Eng
