/-
  The engine, part Zh: slots that nobody needs hold values without names: they stay as they are under any renaming.
-/
import Derived.Test.YtcolladpdmjloaaEngS
namespace Go.Proofs.Ytcolladpdmjloaa.Eng
open Go Go.RowKit
def NoName (x : SV) : Prop := ∀ r, renSV r x = some x
theorem ren_raws (r : List (Nat × Nat)) : ∀ vs : List Value, renVVs r (vs.map .raw) = some (vs.map .raw)
  | [] => rfl
  | v :: vs => by
    have := ren_raws r vs
    simp only [List.map_cons, renVVs, this, renVV]
theorem plain1n {ρ : Rho} {x : S1} {v : Value} (h : R1 ρ x v) : ∃ x', (∀ ρ', R1 ρ' x' v) ∧ ∀ r, renS1 r x' = some x' := by
  cases x with
  | one x => exact ⟨.one (.raw v), fun ρ' => ⟨rfl, RV.one h⟩, fun r => rfl⟩
  | agg l =>
    obtain ⟨cs, h1, h2⟩ := h
    exact ⟨.agg (cs.map .raw), fun ρ' => ⟨cs, h1, raws h2 ρ'⟩, fun r => by simp only [renS1, ren_raws, Option.map_some]⟩
theorem plain1sn : ∀ {ρ : Rho} {l : List S1} {vs : List Value}, F2 (R1 ρ) l vs → ∃ l', (∀ ρ', F2 (R1 ρ') l' vs) ∧ ∀ r, renS1s r l' = some l'
  | _, [], [], _ => ⟨[], fun _ => trivial, fun _ => rfl⟩
  | _, _ :: _, _ :: _, h => by
    obtain ⟨x, hx, gx⟩ := plain1n h.1
    obtain ⟨l, hl, gl⟩ := plain1sn h.2
    exact ⟨x :: l, fun ρ' => ⟨hx ρ', hl ρ'⟩, fun r => by simp only [renS1s, gx, gl]⟩
  | _, [], _ :: _, h => h.elim
  | _, _ :: _, [], h => h.elim
theorem plainSn {ρ : Rho} {x : SV} {v : Value} (h : RS ρ x v) : ∃ x', (∀ ρ', RS ρ' x' v) ∧ NoName x' := by
  cases x with
  | s x =>
    obtain ⟨x', hx, gx⟩ := plain1n h
    exact ⟨.s x', hx, fun r => by simp only [renSV, gx, Option.map_some]⟩
  | t l =>
    obtain ⟨vs, h1, h2⟩ := h
    obtain ⟨l', hl, gl⟩ := plain1sn h2
    exact ⟨.t l', fun ρ' => ⟨vs, h1, hl ρ'⟩, fun r => by simp only [renSV, gl, Option.map_some]⟩
section
variable {A : Type} {S : Sys A} {E : Ctx A}
theorem at_plain {pre : List SV} {js : Nat → SV} {n m : Nat} {hp : HP A} {nid : Nat} {d : List Nat} {a : Act} {w : World} (hm : pre.length = m) (h : At S E ⟨pre ++ junk js n m, hp, nid, d⟩ a w) :
    ∃ js', (∀ t, NoName (js' t)) ∧ At S E ⟨pre ++ junk js' n m, hp, nid, d⟩ a w := by
  obtain ⟨h0, h1, ρ, F, ha, hr, hch⟩ := h
  have hslot : ∀ t : Nat, ∃ x' : SV, NoName x' ∧ ∀ v, a.tmps[t]? = some v → RS ρ x' v := fun t => by
    have := ha.tmps t
    cases hv : a.tmps[t]? with
    | none => exact ⟨.undef, fun r => rfl, fun v hv => by cases hv⟩
    | some v =>
      rw [hv] at this
      cases ht : (pre ++ junk js n m)[t]? with
      | none =>
        have this : RT ρ (pre ++ junk js n m)[t]? (some v) := this
        rw [ht] at this
        exact this.elim
      | some x =>
        have this : RT ρ (pre ++ junk js n m)[t]? (some v) := this
        rw [ht] at this
        obtain ⟨x', hx, gx⟩ := plainSn (show RS ρ x v from this)
        exact ⟨x', gx, fun v2 hv2 => by injection hv2 with hv2; subst hv2; exact hx ρ⟩
  refine ⟨fun t => Classical.choose (hslot t), fun t => (Classical.choose_spec (hslot t)).1, h0, h1, ρ, F, ⟨ha.defers, fun t => ?_⟩, hr, hch⟩
  have hat : RT ρ (pre ++ junk js n m)[t]? a.tmps[t]? := ha.tmps t
  show RT ρ (pre ++ junk (fun t => Classical.choose (hslot t)) n m)[t]? a.tmps[t]?
  rcases Nat.lt_or_ge t m with htm | htm
  · rw [List.getElem?_append_left (by omega)] at hat ⊢
    exact hat
  · rw [List.getElem?_append_right (by omega), hm] at hat ⊢
    rcases Nat.lt_or_ge (t - m) n with hn | hn
    · rw [junk_get _ n m _ hn] at hat ⊢
      cases hv : a.tmps[t]? with
      | none => rw [hv] at hat; exact hat.elim
      | some v =>
        rw [show m + (t - m) = t by omega]
        exact (Classical.choose_spec (hslot t)).2 v hv
    · rw [List.getElem?_eq_none (by rw [length_junk]; exact hn)] at hat ⊢
      exact hat
end
end Go.Proofs.Ytcolladpdmjloaa.Eng
