/-
  The engine, part O: functions that only compute, by a function of our own.
-/
import Derived.Test.YtlkanbgcghjhnaaEngL
namespace Go.Proofs.Ytlkanbgcghjhnaa.Eng
open Go

def Tr.vmap {α β : Type} (f : α → β) : Tr α → Tr β
  | .ok a => .ok (f a)
  | .ite c t e => .ite c (t.vmap f) (e.vmap f)
  | .no s => .no s
theorem Tr.run_vmap {α β : Type} {f : α → β} {t : Tr α} {b : β} : (t.vmap f).run = some b ↔ ∃ a, t.run = some a ∧ f a = b := by
  induction t with
  | ok a => simp [vmap, run]
  | ite c t e iht ihe => cases c <;> simp [vmap, run, iht, ihe]
  | no s => simp [vmap, run]

/-- A value without a pointer. -/
def plainVV : VV → Bool
  | .int _ _ | .bool _ | .nilp | .nils | .nilf | .raw _ => true
  | _ => false
def plainS1 : S1 → Bool
  | .one v => plainVV v
  | .agg l => l.all plainVV
def plainSV : SV → Bool
  | .s x => plainS1 x
  | .t l => l.all plainS1
theorem plainVV_any {ρ ρ' : Rho} {x : VV} {v : Value} (h : plainVV x = true) (hr : RV ρ x v) : RV ρ' x v := by
  cases x <;> first | exact hr | (simp [plainVV] at h)
theorem F2.all_any {α β : Type} {R R' : α → β → Prop} {p : α → Bool} (hp : ∀ a b, p a = true → R a b → R' a b) : ∀ {l : List α} {m : List β}, l.all p = true → F2 R l m → F2 R' l m
  | [], [], _, _ => trivial
  | a :: l, b :: m, h, hr => by
    rw [List.all_cons, Bool.and_eq_true] at h
    exact ⟨hp a b h.1 hr.1, all_any hp h.2 hr.2⟩
  | [], _ :: _, _, h => h.elim
  | _ :: _, [], _, h => h.elim
theorem plainS1_any {ρ ρ' : Rho} {x : S1} {v : Value} (h : plainS1 x = true) (hr : R1 ρ x v) : R1 ρ' x v := by
  cases x with
  | one x => exact plainVV_any h hr
  | agg l =>
    obtain ⟨cs, hv, hl⟩ := hr
    exact ⟨cs, hv, F2.all_any (fun _ _ => plainVV_any) h hl⟩
theorem plainSV_any {ρ ρ' : Rho} {x : SV} {v : Value} (h : plainSV x = true) (hr : RS ρ x v) : RS ρ' x v := by
  cases x with
  | s x => exact plainS1_any (x := x) h hr
  | t l =>
    obtain ⟨vs, hv, hl⟩ := hr
    exact ⟨vs, hv, F2.all_any (fun _ _ => plainS1_any) h hl⟩

section
variable {A : Type} {S : Sys A} {P : Program}
/-- The evaluation by a function of our own: nothing is written or made. -/
def pureI (A : Type) (g : List SV → Option SV) : Intr A := fun args hp nid => match args.all plainSV with
  | true => match g args with
    | some v => .ok ⟨v, hp, [], nid⟩
    | none => .no "no such arguments"
  | false => .no "arguments with pointers"

theorem funOK_pure {f : FuncId} {g : List SV → Option SV} {ev : List SV → HP A → Nat → Tr (CR A)} (hev : FunOK S P f ev)
    (h : ∀ args v vargs ρ, g args = some v → F2 (RS ρ) args vargs → plainSV v = true ∧ ∃ args' r, F2 (RS ρ) args' vargs ∧ (ev args' [] 0).run = some r ∧ ∀ ρ x, RS ρ r.val x → RS ρ v x) :
    FunOK S P f (pureI A g) := by
  intro args hp nid r hrun B Z ρ F w vargs hhr hz hargs
  unfold pureI at hrun
  split at hrun
  · rename_i hplain
    split at hrun
    · rename_i v hg
      rw [Tr.run_ok] at hrun
      subst hrun
      obtain ⟨hpv, args', r', h1, h2, h3⟩ := h args v vargs (fun _ => none) hg (F2.all_any (fun _ _ => plainSV_any) hplain hargs)
      have h0 : HR S B (fun _ => True) (fun _ => none) (fun _ _ => False) (hget ([] : HP A)) w :=
        ⟨fun b o ho => by simp [hget] at ho, fun _ _ _ h => h, fun _ _ h => h.elim, fun _ _ _ h => h.elim, fun _ _ => rfl, hhr.base⟩
      refine (hev args' [] 0 r' h2 B _ _ _ w vargs h0 (fun _ _ _ => trivial) h1).mono ?_
      rintro e w' ⟨x, ρ', F', he, hx, _, hc⟩
      have hc' : Chg (fun _ => False) ρ F w ρ F w' := ⟨Rho.le_refl ρ, fun _ _ => rfl, fun _ _ h _ => h.elim, hc.same, fun k hk _ => hc.heap k hk fun _ _ h => h⟩
      refine ⟨x, ρ, F, he, plainSV_any hpv (h3 ρ' x hx), ?_, hc'.mono fun _ h => h.elim⟩
      rw [Zm_self]
      exact hhr.step hc' (fun _ _ => rfl) (fun _ _ h => h.elim) (fun _ h => h.elim) (fun _ _ h => h.elim) (fun _ _ _ h => h.elim) hhr.fresh
    · simp [Tr.run] at hrun
  · simp [Tr.run] at hrun
/-- The same, by a tree of values that the evaluation comes to. -/
theorem funOK_tree {f : FuncId} {g : List SV → Option SV} {ev : List SV → HP A → Nat → Tr (CR A)} (hev : FunOK S P f ev)
    (h : ∀ args v vargs ρ, g args = some v → F2 (RS ρ) args vargs → plainSV v = true ∧ ∃ args' v' t, F2 (RS ρ) args' vargs ∧ (ev args' [] 0).vmap (·.val) = t ∧ t.run = some v' ∧ ∀ ρ x, RS ρ v' x → RS ρ v x) :
    FunOK S P f (pureI A g) :=
  funOK_pure hev fun args v vargs ρ hg ha => by
    obtain ⟨h1, args', v', t, h2, h3, h4, h5⟩ := h args v vargs ρ hg ha
    rw [← h3, Tr.run_vmap] at h4
    obtain ⟨r, hr, rfl⟩ := h4
    exact ⟨h1, args', r, h2, hr, h5⟩
end

/-! ### Literals stay literals -/
def SI.op3 (f : Int → Int → Int → Int) : SI → SI → SI → SI
  | .lit a, .lit b, .lit c => .lit (f a b c)
  | a, b, c => .sym (f a.val b.val c.val)
def SI.op4 (f : Int → Int → Int → Int → Int) : SI → SI → SI → SI → SI
  | .lit a, .lit b, .lit c, .lit d => .lit (f a b c d)
  | a, b, c, d => .sym (f a.val b.val c.val d.val)
def SI.op7 (f : Int → Int → Int → Int → Int → Int → Int → Int) : SI → SI → SI → SI → SI → SI → SI → SI
  | .lit a, .lit b, .lit c, .lit d, .lit e, .lit g, .lit h => .lit (f a b c d e g h)
  | a, b, c, d, e, g, h => .sym (f a.val b.val c.val d.val e.val g.val h.val)
theorem val_op3 (f) (a b c : SI) : (SI.op3 f a b c).val = f a.val b.val c.val := by cases a <;> cases b <;> cases c <;> rfl
theorem val_op4 (f) (a b c d : SI) : (SI.op4 f a b c d).val = f a.val b.val c.val d.val := by cases a <;> cases b <;> cases c <;> cases d <;> rfl
theorem val_op7 (f) (a b c d e g h : SI) : (SI.op7 f a b c d e g h).val = f a.val b.val c.val d.val e.val g.val h.val := by
  cases a <;> cases b <;> cases c <;> cases d <;> cases e <;> cases g <;> cases h <;> rfl
end Go.Proofs.Ytlkanbgcghjhnaa.Eng
