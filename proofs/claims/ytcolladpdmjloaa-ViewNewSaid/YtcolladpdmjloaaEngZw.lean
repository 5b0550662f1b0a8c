/-
  The engine, part Zw: a tree walked through as a whole: what was decided, what was not, and the leaves that are left.
-/
import Derived.Test.YtcolladpdmjloaaEngV
namespace Go.Proofs.Ytcolladpdmjloaa.Eng
open Go Go.RowKit
/-- How to walk: a test that is decided, one that is not, a leaf. -/
inductive Sc where
  | d (v : Bool) (r : Sc)
  | i (a b : Sc)
  | l
/-- What was met: a test and what it comes to; a test that stays; a leaf. -/
inductive WT (α : Type) where
  | dec (c v : Bool) (r : WT α)
  | ite (c : Bool) (a b : WT α)
  | ok (x : α)
  | bad
namespace WT
variable {α : Type}
def sc : WT α → Sc
  | .dec _ v r => .d v r.sc
  | .ite _ a b => .i a.sc b.sc
  | _ => .l
def Valid : WT α → Prop
  | .dec c v r => c = v ∧ r.Valid
  | .ite c a b => (c = true → a.Valid) ∧ (c = false → b.Valid)
  | .ok _ => True
  | .bad => False
theorem vd {c v : Bool} {r : WT α} (h1 : c = v) (h2 : r.Valid) : (WT.dec c v r).Valid := ⟨h1, h2⟩
theorem vi {c : Bool} {a b : WT α} (h1 : c = true → a.Valid) (h2 : c = false → b.Valid) : (WT.ite c a b).Valid := ⟨h1, h2⟩
theorem vo {x : α} : (WT.ok x).Valid := trivial
def prune : WT α → Tr α
  | .dec _ _ r => r.prune
  | .ite c a b => .ite c a.prune b.prune
  | .ok x => .ok x
  | .bad => .no ""
end WT
namespace Tr
variable {α : Type}
def walk : Sc → Tr α → WT α
  | .d v r, .ite c t e => .dec c v (match v with
    | true => walk r t
    | false => walk r e)
  | .i a b, .ite c t e => .ite c (walk a t) (walk b e)
  | .l, .ok x => .ok x
  | _, _ => .bad
theorem run_of_walk : ∀ (s : Sc) (t : Tr α), (walk s t).Valid → t.run = (walk s t).prune.run
  | .d v r, .ite c t e, h => by
    obtain ⟨h1, h2⟩ := h
    subst h1
    cases c with
    | true => exact run_of_walk r t h2
    | false => exact run_of_walk r e h2
  | .i a b, .ite c t e, h => by
    obtain ⟨h1, h2⟩ := h
    cases c with
    | true => exact run_of_walk a t (h1 rfl)
    | false => exact run_of_walk b e (h2 rfl)
  | .l, .ok x, _ => rfl
  | .d .., .ok _, h => h.elim
  | .d .., .no _, h => h.elim
  | .i .., .ok _, h => h.elim
  | .i .., .no _, h => h.elim
  | .l, .ite .., h => h.elim
  | .l, .no _, h => h.elim
theorem run_walk {t : Tr α} {w : WT α} {T : Tr α} (h1 : walk w.sc t = w) (h2 : w.Valid) (h3 : w.prune = T) : t.run = T.run := by
  rw [run_of_walk w.sc t (by rw [h1]; exact h2), h1, h3]
/-- The same, behind some tests. -/
theorem run_part {t : Tr α} {p cs : List Bool} {w : WT α} {T : Tr α} (h1 : t.conds p = cs) (h2 : cs = p) (h3 : walk w.sc (t.path p) = w) (h4 : w.Valid) (h5 : w.prune = T) : t.run = T.run :=
  (run_path (h1.trans h2)).trans (run_walk h3 h4 h5)
end Tr
end Go.Proofs.Ytcolladpdmjloaa.Eng
