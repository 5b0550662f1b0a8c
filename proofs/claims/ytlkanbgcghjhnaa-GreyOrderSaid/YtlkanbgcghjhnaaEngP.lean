/-
  The engine, part P: values with their numbers as signs; laws over plain arguments.
-/
import Derived.Test.YtlkanbgcghjhnaaEngN
import Derived.Test.YtlkanbgcghjhnaaEngO
namespace Go.Proofs.Ytlkanbgcghjhnaa.Eng
open Go Go.RowKit

def symVV : VV → VV
  | .int k s => .int k (.sym s.val)
  | .bool b => .bool (.sym b.val)
  | v => v
def symS1 : S1 → S1
  | .one v => .one (symVV v)
  | .agg l => .agg (l.map symVV)
def symSV : SV → SV
  | .s x => .s (symS1 x)
  | .t l => .t (l.map symS1)
theorem RV_sym {ρ : Rho} {x : VV} {v : Value} : RV ρ (symVV x) v ↔ RV ρ x v := by cases x <;> rfl
theorem F2_map {α β : Type} {R : α → β → Prop} {f : α → α} (hf : ∀ a b, R (f a) b ↔ R a b) : ∀ {l : List α} {m : List β}, F2 R (l.map f) m ↔ F2 R l m
  | [], [] => Iff.rfl
  | _ :: _, _ :: _ => and_congr (hf _ _) (F2_map hf)
  | [], _ :: _ => Iff.rfl
  | _ :: _, [] => Iff.rfl
theorem R1_sym {ρ : Rho} {x : S1} {v : Value} : R1 ρ (symS1 x) v ↔ R1 ρ x v := by
  cases x with
  | one x => exact RV_sym
  | agg l => exact exists_congr fun cs => and_congr Iff.rfl (F2_map fun _ _ => RV_sym)
theorem RS_sym {ρ : Rho} {x : SV} {v : Value} : RS ρ (symSV x) v ↔ RS ρ x v := by
  cases x with
  | s x => exact R1_sym
  | t l => exact exists_congr fun cs => and_congr Iff.rfl (F2_map fun _ _ => R1_sym)

section
variable {A : Type} {S : Sys A} {P : Program}
/-- A function of numbers that comes to one value. -/
theorem funOK_one {f : FuncId} {g : List SV → Option SV} {ev : List SV → HP A → Nat → Tr (CR A)} (hev : FunOK S P f ev)
    (h : ∀ args v vargs ρ, g args = some v → F2 (RS ρ) args vargs → plainSV v = true ∧ (ev (args.map symSV) [] 0).vmap (·.val) = .ok (symSV v)) :
    FunOK S P f (pureI A g) :=
  funOK_tree hev fun args v vargs ρ hg ha => by
    obtain ⟨h1, h2⟩ := h args v vargs ρ hg ha
    exact ⟨h1, args.map symSV, symSV v, _, (F2_map fun _ _ => RS_sym).2 ha, h2, rfl, fun ρ x hx => RS_sym.1 hx⟩
/-- A function of numbers that comes to a tree. -/
theorem funOK_many {f : FuncId} {g : List SV → Option SV} {ev : List SV → HP A → Nat → Tr (CR A)} (hev : FunOK S P f ev)
    (h : ∀ args v vargs ρ, g args = some v → F2 (RS ρ) args vargs → plainSV v = true ∧ ∃ t, (ev (args.map symSV) [] 0).vmap (·.val) = t ∧ ∃ v', t.run = some v' ∧ symSV v' = symSV v) :
    FunOK S P f (pureI A g) :=
  funOK_tree hev fun args v vargs ρ hg ha => by
    obtain ⟨h1, t, h2, v', h3, h4⟩ := h args v vargs ρ hg ha
    exact ⟨h1, args.map symSV, v', t, (F2_map fun _ _ => RS_sym).2 ha, h2, h3, fun ρ x hx => RS_sym.1 (h4 ▸ RS_sym.2 hx)⟩

/-! ### Laws over plain arguments -/
def Fits : List CK → List Int → Prop
  | [], [] => True
  | k :: ks, n :: ns => k.fits n ∧ Fits ks ns
  | _, _ => False
def FitsAll : List (List CK) → List (List Int) → Prop
  | [], [] => True
  | ks :: kss, ns :: nss => Fits ks ns ∧ FitsAll kss nss
  | _, _ => False
def mkArgs (P : Program) : List TypeId → List (List CK) → List (List Int) → List SV
  | t :: ts, ks :: kss, ns :: nss => .s (mkS1 P t ks ns) :: mkArgs P ts kss nss
  | _, _, _ => []
def shapesK (P : Program) : List TypeId → List (List CK) → Prop
  | [], [] => True
  | t :: ts, ks :: kss => shapeK P 8 t = some ks ∧ shapesK P ts kss
  | _, _ => False
theorem Cells.fits' : ∀ {ks : List CK} {ns : List Int} {cs : List Value}, Cells ks ns cs → Fits ks ns
  | [], [], [], _ => trivial
  | _ :: _, _ :: _, _ :: _, h => ⟨h.1, fits' h.2.2⟩
  | [], [], _ :: _, h => h.elim
  | [], _ :: _, _, h => h.elim
  | _ :: _, [], _, h => h.elim
  | _ :: _, _ :: _, [], h => h.elim
theorem args_plain {W : World} : ∀ {ts : List TypeId} {kss : List (List CK)} {vals : List Value}, shapesK P ts kss → F2 (ArgOK P W) ts vals →
    ∃ nss, FitsAll kss nss ∧ F2 (RS fun _ => none) (mkArgs P ts kss nss) vals
  | [], [], [], _, _ => ⟨[], trivial, trivial⟩
  | t :: ts, ks :: kss, v :: vals, hs, h => by
    obtain ⟨ns, cs, hc, hr⟩ := arg_plain h.1 hs.1
    obtain ⟨nss, h1, h2⟩ := args_plain hs.2 h.2
    exact ⟨ns :: nss, ⟨hc.fits', h1⟩, hr _, h2⟩
  | [], [], _ :: _, _, h => h.elim
  | [], _ :: _, _, h, _ => h.elim
  | _ :: _, [], _, h, _ => h.elim
  | _ :: _, _ :: _, [], _, h => h.elim

/-- The value of a law that holds. -/
def IsTrue : SV → Prop
  | .s (.one (.bool b)) => b.val = true
  | _ => False
theorem IsTrue.value {x : SV} {ρ : Rho} {v : Value} (h : IsTrue x) (hr : RS ρ x v) : v = .bool true := by
  unfold IsTrue at h
  split at h
  · rename_i b
    have : v = .bool b.val := hr
    rw [this, h]
  · exact h.elim
theorem Tr.all_vmap {α β : Type} {f : α → β} {t : Tr α} {Q : β → Prop} : (t.vmap f).All Q ↔ t.All fun a => Q (f a) := by
  induction t with
  | ok a => rfl
  | ite c t e iht ihe => simp [vmap, All, iht, ihe]
  | no s => rfl
/-- All leaves are true. -/
structure Holds (t : Tr SV) : Prop where
  all : t.All IsTrue
theorem Holds.of {t t' : Tr SV} (h : t = t') (h' : t'.All IsTrue) : Holds t := ⟨h ▸ h'⟩
theorem core_plain (hP : ProgOK P) {I : FuncId → Option (Intr A)} (hI : ∀ f i, I f = some i → FunOK S P f i) (rounds d : Nat) {f : FuncId} {ts : List TypeId} (kss : List (List CK)) (hs : shapesK P ts kss)
    (h : ∀ nss, FitsAll kss nss → Holds ((evF P I rounds d f (mkArgs P ts kss nss) [] 0).vmap (·.val))) (W : World) (vals : List Value) (ha : F2 (ArgOK P W) ts vals) :
    Calls P f vals.toArray W fun e W' => ∃ v, e = .returned v ∧ v = .bool true ∧ Below W.heap.size W W' := by
  obtain ⟨nss, hf, hr⟩ := args_plain hs ha
  exact calls_of_ev hP hI rounds d (by
    have := Tr.all_vmap.1 (h nss hf).all
    obtain ⟨r, hr, hq⟩ := Tr.all_iff.1 this
    exact Tr.all_iff.2 ⟨r, hr, fun ρ v hv => hq.value hv⟩) hr
end
end Go.Proofs.Ytlkanbgcghjhnaa.Eng
