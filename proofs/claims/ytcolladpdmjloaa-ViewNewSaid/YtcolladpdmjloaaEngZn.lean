/-
  The engine, part Zn: slots that are kept, the others without names; first statements whose outcome is known by some facts alone.
-/
import Derived.Test.YtcolladpdmjloaaEngZh
import Derived.Test.YtcolladpdmjloaaEngZd
namespace Go.Proofs.Ytcolladpdmjloaa.Eng
open Go Go.RowKit
set_option linter.unusedVariables false
set_option linter.unusedSimpArgs false
/-- Some slots as they are, the others given anew. -/
def mixS (keep : Nat → Bool) (js : Nat → SV) : List SV → Nat → List SV
  | [], _ => []
  | x :: l, k => (match keep k with | true => x | false => js k) :: mixS keep js l (k + 1)
theorem mixS_get (keep : Nat → Bool) (js : Nat → SV) : ∀ (l : List SV) (k i : Nat), (mixS keep js l k)[i]? = (l[i]?).map fun x => match keep (k + i) with | true => x | false => js (k + i)
  | [], k, i => by simp [mixS]
  | x :: l, k, 0 => by simp [mixS]
  | x :: l, k, i + 1 => by
    simp only [mixS, List.getElem?_cons_succ]
    rw [mixS_get keep js l (k + 1) i, show k + 1 + i = k + (i + 1) by omega]
theorem mixS_len (keep : Nat → Bool) (js : Nat → SV) : ∀ (l : List SV) (k : Nat), (mixS keep js l k).length = l.length
  | [], _ => rfl
  | x :: l, k => by simp [mixS, mixS_len keep js l (k + 1)]
section
variable {A : Type} {S : Sys A} {E : Ctx A}
theorem at_keep (keep : Nat → Bool) {tm : List SV} {hp : HP A} {nid : Nat} {d : List Nat} {a : Act} {w : World} (h : At S E ⟨tm, hp, nid, d⟩ a w) :
    ∃ js, (∀ t, NoName (js t)) ∧ At S E ⟨mixS keep js tm 0, hp, nid, d⟩ a w := by
  obtain ⟨h0, h1, ρ, F, ha, hr, hch⟩ := h
  have hslot : ∀ t : Nat, ∃ x' : SV, NoName x' ∧ ∀ v, a.tmps[t]? = some v → RS ρ x' v := fun t => by
    have := ha.tmps t
    cases hv : a.tmps[t]? with
    | none => exact ⟨.undef, fun r => rfl, fun v hv => by cases hv⟩
    | some v =>
      rw [hv] at this
      cases ht : tm[t]? with
      | none =>
        have this : RT ρ tm[t]? (some v) := this
        rw [ht] at this
        exact this.elim
      | some x =>
        have this : RT ρ tm[t]? (some v) := this
        rw [ht] at this
        obtain ⟨x', hx, gx⟩ := plainSn (show RS ρ x v from this)
        exact ⟨x', gx, fun v2 hv2 => by injection hv2 with hv2; subst hv2; exact hx ρ⟩
  refine ⟨fun t => Classical.choose (hslot t), fun t => (Classical.choose_spec (hslot t)).1, h0, h1, ρ, F, ⟨ha.defers, fun t => ?_⟩, hr, hch⟩
  have hat : RT ρ tm[t]? a.tmps[t]? := ha.tmps t
  show RT ρ (mixS keep (fun t => Classical.choose (hslot t)) tm 0)[t]? a.tmps[t]?
  rw [mixS_get]
  cases ht : tm[t]? with
  | none => rw [ht] at hat; exact hat
  | some x =>
    rw [ht] at hat
    simp only [Option.map_some, Nat.zero_add]
    cases keep t with
    | true => exact hat
    | false =>
      have key : ∀ o, a.tmps[t]? = o → RT ρ (some x) o → RT ρ (some (Classical.choose (hslot t))) o := fun o ho hat => by
        cases o with
        | none => exact hat.elim
        | some v => exact (Classical.choose_spec (hslot t)).2 v ho
      exact key _ rfl hat
end
section
variable {A : Type} {S : Sys A} {P : Program} {E : Ctx A}
/-- First statements, whatever they come to. -/
theorem Tri.listE {call : FuncId → List SV → HP A → Nat → Tr (CR A)} {R : Nat} (hc : ∀ c, CodeOK S P c (evCode P call R c)) (k : Nat) {c c' : Code} {st st1 : St A} {Q : VX → St A → Prop}
    (hs : (Eng.spine k c).2 = c') (h : (evList (P := P) call R (Eng.spine k c).1 st).run = some (.normal, st1)) (ht : st1.nid ≤ E.top) (hd : ∀ b, b ∈ st1.dirty → E.D b)
    (next : Tri S P E c' ⟨st1.tm, st1.hp, st1.nid, []⟩ Q) : Tri S P E c st Q := by
  have hl : ((evList (P := P) call R (Eng.spine k c).1 st).vmap (Eng.leaf st1.tm.length)).run = some (Eng.leaf st1.tm.length (.normal, st1)) := by
    rw [Tr.run_vmap]
    exact ⟨_, h, rfl⟩
  refine Tri.lead (m := st1.tm.length) (n := 0) hc k hs hl rfl rfl ht hd fun js => ?_
  intro a w ha
  have e : (Eng.leaf st1.tm.length (VX.normal, st1)).pre ++ junk js 0 st1.tm.length = st1.tm := by
    show st1.tm.take st1.tm.length ++ [] = st1.tm
    rw [List.append_nil, List.take_length]
  have ha' : At S E ⟨st1.tm, st1.hp, st1.nid, []⟩ a w := by
    rw [e] at ha
    exact ha
  exact next a w ha'
end
end Go.Proofs.Ytcolladpdmjloaa.Eng
