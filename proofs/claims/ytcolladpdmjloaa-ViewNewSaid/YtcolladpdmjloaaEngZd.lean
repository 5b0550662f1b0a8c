/-
  The engine: several of its parts in one text.
-/
import Derived.Test.YtcolladpdmjloaaEngZ
/-
  The engine, part Za: groups: an object that hides objects of its own; a part of it is opened, worked with, and hidden again.
-/
namespace Go.Proofs.Ytcolladpdmjloaa.Eng
open Go Go.RowKit
set_option linter.unusedVariables false

/-! ### Masks -/
def rawAt (vs : Nat → Value) : List Bool → Nat → List VV → List VV
  | m :: ms, i, x :: xs => (match m with | true => .raw (vs i) | false => x) :: rawAt vs ms (i + 1) xs
  | _, _, _ => []
def mixAt : List Bool → List VV → List VV → List VV
  | m :: ms, x :: xs, y :: ys => (match m with | true => x | false => y) :: mixAt ms xs ys
  | _, _, _ => []
def renMask (r : List (Nat × Nat)) : List Bool → List VV → Option (List VV)
  | true :: ms, _ :: xs => (renMask r ms xs).map (.nilp :: ·)
  | false :: ms, x :: xs => match renVV r x, renMask r ms xs with
    | some y, some l => some (y :: l)
    | _, _ => none
  | [], [] => some []
  | _, _ => none
theorem rawAt_ok {r : List (Nat × Nat)} {ρ ρ' : Rho} (hr : Renames r ρ ρ') {vs : Nat → Value} : ∀ {mask : List Bool} {L Lr : List VV} {cs : List Value} {i : Nat}, renMask r mask L = some Lr → F2 (RV ρ) L cs → (∀ n v, cs[n]? = some v → vs (i + n) = v) →
    F2 (RV ρ') (rawAt vs mask i Lr) cs
  | [], [], Lr, [], i, h, _, _ => by simp [rawAt, F2]
  | [], [], _, _ :: _, _, _, h, _ => h.elim
  | [], _ :: _, _, _, _, h, _, _ => by simp [renMask] at h
  | true :: _, [], _, _, _, h, _, _ => by simp [renMask] at h
  | false :: _, [], _, _, _, h, _, _ => by simp [renMask] at h
  | true :: ms, x :: xs, Lr, [], i, h, hv, _ => hv.elim
  | false :: ms, x :: xs, Lr, [], i, h, hv, _ => hv.elim
  | true :: ms, x :: xs, Lr, c :: cs, i, h, hv, hvs => by
    simp only [renMask, Option.map_eq_some_iff] at h
    obtain ⟨l, hl, rfl⟩ := h
    have h0 := hvs 0 c rfl
    refine ⟨?_, rawAt_ok hr hl hv.2 fun n v hn => ?_⟩
    · show RV ρ' (.raw (vs i)) c
      exact ⟨h0.symm, by rw [show vs i = c from h0]; exact RV.one hv.1⟩
    · rw [show i + 1 + n = i + (n + 1) by omega]; exact hvs (n + 1) v (by simpa using hn)
  | false :: ms, x :: xs, Lr, c :: cs, i, h, hv, hvs => by
    simp only [renMask] at h
    split at h
    · rename_i y l hy hl
      injection h with h
      subst h
      refine ⟨renVV_ok hr hy hv.1, rawAt_ok hr hl hv.2 fun n v hn => ?_⟩
      rw [show i + 1 + n = i + (n + 1) by omega]; exact hvs (n + 1) v (by simpa using hn)
    · cases h
theorem mixAt_ok {r : List (Nat × Nat)} {ρ0 ρ ρ' : Rho} (hr : Renames r ρ ρ') {vs : Nat → Value} : ∀ {mask : List Bool} {L L1 Lr : List VV} {cs ds : List Value} {i : Nat}, renMask r mask L1 = some Lr → F2 (RV ρ0) L cs → (∀ n v, cs[n]? = some v → vs (i + n) = v) →
    F2 (RV ρ) (rawAt vs mask i L1) ds → mask.length = L.length → (∀ (n : Nat) x v, mask[n]? = some true → L[n]? = some x → RV ρ0 x v → RV ρ' x v) → F2 (RV ρ') (mixAt mask L Lr) ds
  | [], [], L1, Lr, cs, ds, i, h, h0, hvs, hd, hm, hx => by
    cases L1 with
    | nil => injection h with h; subst h; cases ds with
      | nil => trivial
      | cons d ds => exact hd.elim
    | cons x xs => simp [renMask] at h
  | [], _ :: _, _, _, _, _, _, _, _, _, _, hm, _ => by simp at hm
  | _ :: _, [], _, _, _, _, _, _, _, _, _, hm, _ => by simp at hm
  | m :: ms, x :: xs, [], Lr, cs, ds, i, h, _, _, _, _, _ => by cases m <;> simp [renMask] at h
  | m :: ms, x :: xs, y :: ys, Lr, [], ds, i, h, h0, hvs, hd, hm, hx => h0.elim
  | m :: ms, x :: xs, y :: ys, Lr, c :: cs, [], i, h, h0, hvs, hd, hm, hx => by cases m <;> exact hd.elim
  | true :: ms, x :: xs, y :: ys, Lr, c :: cs, d :: ds, i, h, h0, hvs, hd, hm, hx => by
    simp only [renMask, Option.map_eq_some_iff] at h
    obtain ⟨l, hl, rfl⟩ := h
    have e0 := hvs 0 c rfl
    have hd1 : d = vs i := hd.1.1
    refine ⟨?_, mixAt_ok hr hl h0.2 (fun n v hn => by rw [show i + 1 + n = i + (n + 1) by omega]; exact hvs (n + 1) v (by simpa using hn)) hd.2 (by simpa using hm) fun n z v hn hz => hx (n + 1) z v (by simpa using hn) (by simpa using hz)⟩
    show RV ρ' x d
    rw [hd1, show vs i = c from e0]
    exact hx 0 x c rfl rfl h0.1
  | false :: ms, x :: xs, y :: ys, Lr, c :: cs, d :: ds, i, h, h0, hvs, hd, hm, hx => by
    simp only [renMask] at h
    split at h
    · rename_i z l hz hl
      injection h with h
      subst h
      refine ⟨renVV_ok hr hz hd.1, mixAt_ok hr hl h0.2 (fun n v hn => by rw [show i + 1 + n = i + (n + 1) by omega]; exact hvs (n + 1) v (by simpa using hn)) hd.2 (by simpa using hm) fun n z v hn hz => hx (n + 1) z v (by simpa using hn) (by simpa using hz)⟩
    · cases h

/-! ### Places that are the same for the names that a value has -/
theorem RP_agree {ρ ρ' : Rho} {q : Nat × Nat} {v : Value} (h : ρ' q.1 = ρ q.1) : RP ρ q v → RP ρ' q v
  | ⟨p, hp, hv⟩ => ⟨p, h.trans hp, hv⟩
theorem RPs_agree {ρ ρ' : Rho} : ∀ {l : List (Nat × Nat)} {vs : List Value}, (∀ n ∈ l.map (·.1), ρ' n = ρ n) → F2 (RP ρ) l vs → F2 (RP ρ') l vs
  | [], [], _, _ => trivial
  | q :: l, v :: vs, h, hv => ⟨RP_agree (h q.1 (by simp)) hv.1, RPs_agree (fun n hn => h n (by simp at hn ⊢; exact .inr hn)) hv.2⟩
  | [], _ :: _, _, hv => hv.elim
  | _ :: _, [], _, hv => hv.elim
theorem RV_agree {ρ ρ' : Rho} {x : VV} {v : Value} (h : ∀ n ∈ vvIds x, ρ' n = ρ n) (hv : RV ρ x v) : RV ρ' x v := by
  cases x with
  | ptr b off => exact RP_agree (h b (by simp [vvIds])) hv
  | tptr b r c => obtain ⟨p, hp, hx⟩ := hv; exact ⟨p, (h b (by simp [vvIds])).trans hp, hx⟩
  | sl b off len cap => obtain ⟨p, hp, hx⟩ := hv; exact ⟨p, (h b (by simp [vvIds])).trans hp, hx⟩
  | ts b r len cap => obtain ⟨p, hp, hx⟩ := hv; exact ⟨p, (h b (by simp [vvIds])).trans hp, hx⟩
  | an b len =>
    obtain ⟨o, cap, h1, h2, h3, h4⟩ := hv
    exact ⟨o, cap, h1, h2, h3, fun hl => by obtain ⟨p, hp, ho⟩ := h4 hl; exact ⟨p, (h b (by simp [vvIds])).trans hp, ho⟩⟩
  | fn f a c =>
    obtain ⟨va, vc, h1, h2, h3⟩ := hv
    simp only [vvIds] at h
    exact ⟨va, vc, RPs_agree (fun n hn => h n (by rw [List.map_append]; exact List.mem_append_left _ hn)) h1, RPs_agree (fun n hn => h n (by rw [List.map_append]; exact List.mem_append_right _ hn)) h2, h3⟩
  | int k n => exact hv
  | bool b => exact hv
  | nilp => exact hv
  | nils => exact hv
  | es f => exact hv
  | nilf => exact hv
  | any => exact hv
  | raw y => exact hv
theorem RVs_agree {ρ ρ' : Rho} : ∀ {l : List VV} {vs : List Value}, (∀ n ∈ l.flatMap vvIds, ρ' n = ρ n) → F2 (RV ρ) l vs → F2 (RV ρ') l vs
  | [], [], _, _ => trivial
  | x :: l, v :: vs, h, hv => ⟨RV_agree (fun n hn => h n (by rw [List.flatMap_cons]; exact List.mem_append_left _ hn)) hv.1, RVs_agree (fun n hn => h n (by rw [List.flatMap_cons]; exact List.mem_append_right _ hn)) hv.2⟩
  | [], _ :: _, _, hv => hv.elim
  | _ :: _, [], _, hv => hv.elim
theorem OK_agree {A : Type} {S : Sys A} {B : Nat} {ρ ρ' : Rho} {F : Nat → Prop} {b : Nat} {o : VObj A} {w : World} (hb : ρ' b = ρ b) (h : ∀ n ∈ objIds o, ρ' n = ρ n) (ho : OK S B ρ F b o w) : OK S B ρ' F b o w := by
  cases o with
  | cells l ty =>
    obtain ⟨p, arr, hp, hf, hw, hl⟩ := ho
    exact ⟨p, arr, hb.trans hp, hf, hw, RVs_agree h hl⟩
  | tab ks xs ty => obtain ⟨p, arr, hp, rest⟩ := ho; exact ⟨p, arr, hb.trans hp, rest⟩
  | rotab ks xs => obtain ⟨p, hp, rest⟩ := ho; exact ⟨p, hb.trans hp, rest⟩
  | abs a => obtain ⟨p, hp, rest⟩ := ho; exact ⟨p, hb.trans hp, rest⟩

/-! ### Heaps as lists -/
section
variable {A : Type}
def oor {α : Type} (a b : Option α) : Option α := match a with
  | some x => some x
  | none => b
theorem hget_ne {k n : Nat} (h : n ≠ k) (o : Option (VObj A)) (l : HP A) : hget ((k, o) :: l) n = hget l n := by
  have h3 : Nat.beq k n = false := by
    cases h4 : Nat.beq k n with
    | false => rfl
    | true => exact absurd (Nat.eq_of_beq_eq_true h4).symm h
  simp only [hget, h3]
theorem hget_app {l : HP A} (hl : ∀ p ∈ l, p.2.isSome = true) (m : HP A) (n : Nat) : hget (l ++ m) n = oor (hget l n) (hget m n) := by
  induction l with
  | nil => rfl
  | cons p l ih =>
    obtain ⟨k, o⟩ := p
    simp only [List.cons_append, hget]
    cases hb : Nat.beq k n with
    | true =>
      have := hl (k, o) (List.mem_cons_self ..)
      cases o with
      | none => cases this
      | some o => rfl
    | false => exact ih fun p hp => hl p (List.mem_cons_of_mem _ hp)
theorem renHP_some {r : List (Nat × Nat)} {hp : HP A} : ∀ {l : List (Nat × Nat)} {hp' : HP A}, renHP r hp l = some hp' → ∀ p ∈ hp', p.2.isSome = true
  | [], hp', h, p, hp => by injection h with h; subst h; cases hp
  | (o, n) :: l, hp', h, p, hp => by
    unfold renHP at h
    split at h
    · exact renHP_some h p hp
    · split at h
      · rename_i x' l' h1 h2
        injection h with h
        subst h
        rcases List.mem_cons.1 hp with rfl | hp
        · rfl
        · exact renHP_some h2 p hp
      · cases h
end
def upHP : HP Unit → HP MObj
  | [] => []
  | (k, o) :: l => (k, o.map ofU) :: upHP l
theorem hget_upHP : ∀ (g : HP Unit) (n : Nat), hget (upHP g) n = (hget g n).map ofU
  | [], _ => rfl
  | (k, o) :: l, n => by
    simp only [upHP, hget]
    cases Nat.beq k n with
    | true => rfl
    | false => exact hget_upHP l n
def dnHP : HP MObj → HP Unit
  | [] => []
  | (k, o) :: l => (k, o.map toU) :: dnHP l
theorem hget_dnHP : ∀ (g : HP MObj) (n : Nat), hget (dnHP g) n = (hget g n).map toU
  | [], _ => rfl
  | (k, o) :: l, n => by
    simp only [dnHP, hget]
    cases Nat.beq k n with
    | true => rfl
    | false => exact hget_dnHP l n
theorem dnHP_some : ∀ {g : HP MObj}, (∀ p ∈ g, p.2.isSome = true) → ∀ p ∈ dnHP g, p.2.isSome = true
  | [], _, p, hp => by cases hp
  | (k, o) :: l, h, p, hp => by
    simp only [dnHP, List.mem_cons] at hp
    rcases hp with rfl | hp
    · have := h (k, o) (List.mem_cons_self ..)
      simp only [Option.isSome_map]
      exact this
    · exact dnHP_some (fun q hq => h q (List.mem_cons_of_mem _ hq)) p hp
/-- Objects of cells and tables alone. -/
def plainO : Option (VObj MObj) → Bool
  | some (.cells _ _) => true
  | some (.tab _ _ _) => true
  | _ => false
theorem ofU_ok {tyW tyA : TypeId} {B : Nat} {ρ : Rho} {F : Nat → Prop} {b : Nat} {o : VObj Unit} {w : World} (h : OK emptySys 0 ρ F b o w) : OK (memSys tyW tyA) B ρ F b (ofU o) w := by
  cases o with
  | cells l ty => exact h
  | tab ks xs ty => exact h
  | rotab ks xs =>
    obtain ⟨p, h1, h2, h3, h4⟩ := h
    exact ⟨p, h1, h2, h3, fun hn => by obtain ⟨_, _, _, h5, _⟩ := h4 hn; exact absurd h5 (Nat.not_lt_zero _)⟩
  | abs a =>
    obtain ⟨p, h1, h2⟩ := h
    exact h2.elim
theorem toU_ok {tyW tyA : TypeId} {B : Nat} {ρ : Rho} {F : Nat → Prop} {b : Nat} {o : VObj MObj} {w : World} (hp : plainO (some o) = true) (h : OK (memSys tyW tyA) B ρ F b o w) : OK emptySys 0 ρ F b (toU o) w := by
  cases o with
  | cells l ty => exact h
  | tab ks xs ty => exact h
  | rotab ks xs => cases hp
  | abs a => cases hp
def closeH (b : Nat) (g' : HP Unit) (pubs : List Nat) : HP MObj → HP MObj
  | [] => []
  | (n, o) :: l => match Nat.beq n b with
    | true => (b, some (.abs (.grp g'))) :: closeH b g' pubs l
    | false => match memN n pubs with
      | true => closeH b g' pubs l
      | false => (n, o) :: closeH b g' pubs l
theorem hget_closeH {b : Nat} {g' : HP Unit} {pubs : List Nat} : ∀ {hp : HP MObj} (n : Nat), hget (closeH b g' pubs hp) n = if n = b then (if n ∈ hp.map (·.1) then some (.abs (.grp g')) else none) else if n ∈ pubs then none else hget hp n
  | [], n => by
    simp only [closeH, hget, List.map_nil, List.not_mem_nil, if_false]
    split <;> (try split) <;> rfl
  | (k, o) :: l, n => by
    have ih := hget_closeH (b := b) (g' := g') (pubs := pubs) (hp := l) n
    simp only [closeH]
    cases hb : Nat.beq k b with
    | true =>
      have := Nat.eq_of_beq_eq_true hb
      subst this
      simp only [hget]
      cases hn : Nat.beq k n with
      | true =>
        have := Nat.eq_of_beq_eq_true hn
        subst this
        simp
      | false =>
        have hne := Nat.ne_of_beq_eq_false hn
        simp only
        rw [ih, if_neg (Ne.symm hne), if_neg (Ne.symm hne)]
    | false =>
      have hkb := Nat.ne_of_beq_eq_false hb
      simp only
      cases hm : memN k pubs with
      | true =>
        have hm := (memN_iff _ _).1 hm
        simp only
        rw [ih]
        by_cases e : n = b
        · subst e
          rw [if_pos rfl, if_pos rfl]
          have : (n ∈ l.map (·.1)) = (n ∈ ((k, o) :: l).map (·.1)) := propext ⟨fun h => List.mem_cons_of_mem _ h, fun h => by
            rcases List.mem_cons.1 h with h | h
            · exact absurd h.symm hkb
            · exact h⟩
          simp only [this]
        · rw [if_neg e, if_neg e]
          by_cases e2 : n ∈ pubs
          · rw [if_pos e2, if_pos e2]
          · rw [if_neg e2, if_neg e2]
            have : k ≠ n := fun h => e2 (h ▸ hm)
            have h3 : Nat.beq k n = false := by
              cases h4 : Nat.beq k n with
              | false => rfl
              | true => exact absurd (Nat.eq_of_beq_eq_true h4) this
            simp only [hget, h3]
      | false =>
        simp only [hget]
        cases hn : Nat.beq k n with
        | true =>
          have := Nat.eq_of_beq_eq_true hn
          subst this
          have : ¬ k ∈ pubs := fun h => by rw [(memN_iff _ _).2 h] at hm; cases hm
          rw [if_neg hkb, if_neg this]
        | false =>
          have hne := Nat.ne_of_beq_eq_false hn
          simp only
          rw [ih]
          by_cases e : n = b
          · subst e
            rw [if_pos rfl, if_pos rfl]
            have : (n ∈ l.map (·.1)) = (n ∈ ((k, o) :: l).map (·.1)) := propext ⟨fun h => List.mem_cons_of_mem _ h, fun h => by
              rcases List.mem_cons.1 h with h | h
              · exact absurd h.symm hne
              · exact h⟩
            simp only [this]
          · rw [if_neg e, if_neg e]
end Go.Proofs.Ytcolladpdmjloaa.Eng

/-
  The engine, part Zb: a group is opened, a code runs, the group is closed.
-/
namespace Go.Proofs.Ytcolladpdmjloaa.Eng
open Go Go.RowKit
set_option linter.unusedVariables false

section
variable {A : Type} {S : Sys A} {P : Program} {E : Ctx A}
abbrev XF := (Exit → Act → World → Prop) → Act → World → Prop
def Mono (X : XF) : Prop := ∀ (Q Q' : Exit → Act → World → Prop) (a : Act) (w : World), X Q a w → (∀ e a w, Q e a w → Q' e a w) → X Q' a w
/-- What leads from states that fit to states that are told: a code, or the first statements of one. -/
def TriX (S : Sys A) (X : XF) (E : Ctx A) (st : St A) (Q : VX → St A → Prop) : Prop :=
  ∀ a w, At S E st a w → X (fun e a' w' => ∃ x st', e = VX.real x ∧ Q x st' ∧ At S E st' a' w') a w
theorem mono_wp (c : Code) : Mono (c.wp P) := fun _ _ _ _ h hq => wp_mono h hq
def seqs : List Code → Code → Code
  | [], c => c
  | a :: l, c => .seq a (seqs l c)
/-- Statements that stand first, whatever follows. -/
def listX (P : Program) (l : List Code) : XF := fun Q a w =>
  ∀ (rest : Code) (R : Exit → Act → World → Prop), (∀ a' w', Q .normal a' w' → rest.wp P R a' w') → (∀ e a' w', e ≠ .normal → Q e a' w' → R e a' w') → (seqs l rest).wp P R a w
theorem mono_list (l : List Code) : Mono (listX P l) := fun _ _ _ _ h hq rest R h1 h2 => h rest R (fun a w hw => h1 a w (hq _ _ _ hw)) fun e a w he hw => h2 e a w he (hq _ _ _ hw)
theorem TriX.rest {l : List Code} {c : Code} {st : St A} {Q R : VX → St A → Prop} (h : TriX S (listX P l) E st R) (hn : ∀ s, R .normal s → Tri S P E c s Q) (hx : ∀ x s, x ≠ .normal → R x s → Q x s) : Tri S P E (seqs l c) st Q := by
  intro a w ha
  refine h a w ha c _ ?_ ?_
  · rintro a' w' ⟨x, s, e, h2, h3⟩
    cases x with
    | normal => exact hn s h2 a' w' h3
    | exit id => cases e
    | ret => cases e
  · rintro e a' w' he ⟨x, s, rfl, h2, h3⟩
    exact ⟨x, s, rfl, hx x s (fun h => he (by rw [h]; rfl)) h2, h3⟩
theorem TriX.mono {X : XF} (hX : Mono X) {st : St A} {Q Q' : VX → St A → Prop} (h : TriX S X E st Q) (hq : ∀ x s, Q x s → Q' x s) : TriX S X E st Q' :=
  fun a w ha => hX _ _ _ _ (h a w ha) fun _ _ _ ⟨x, st', h1, h2, h3⟩ => ⟨x, st', h1, hq _ _ h2, h3⟩
theorem TriX.postE {X : XF} (hX : Mono X) {st : St A} {Q Q' : VX → St A → Prop} (h : TriX S X E st Q) (hq : ∀ x s a w, Q x s → At S E s a w → ∃ s', At S E s' a w ∧ Q' x s') : TriX S X E st Q' :=
  fun a w ha => hX _ _ _ _ (h a w ha) fun _ a' w' ⟨x, st', h1, h2, h3⟩ => by
    obtain ⟨s', h4, h5⟩ := hq x st' a' w' h2 h3
    exact ⟨x, s', h1, h5, h4⟩
/-- First statements by their evaluation. -/
theorem triX_list {call : FuncId → List SV → HP A → Nat → Tr (CR A)} {n : Nat} (hc : ∀ c, CodeOK S P c (evCode P call n c)) : ∀ {l : List Code} {st st1 : St A}, (evList (P := P) call n l st).run = some (.normal, st1) → st1.nid ≤ E.top → (∀ b, b ∈ st1.dirty → E.D b) →
    TriX S (listX P l) E st fun x s => x = .normal ∧ s = st1
  | [], st, st1, h, ht, hd, a, w, ha, rest, R, h1, h2 => by
    rw [evList, Tr.run_ok] at h
    cases h
    exact h1 a w ⟨.normal, st, rfl, ⟨rfl, rfl⟩, ha⟩
  | c :: l, st, st1, h, ht, hd, a, w, ha, rest, R, h1, h2 => by
    rw [evList, Tr.run_bind] at h
    obtain ⟨⟨x, st'⟩, g1, g2⟩ := h
    cases x with
    | normal =>
      have l2 := list_later hc g2
      refine wp_seq (wp_mono (Tri.ev (hc c) g1 (Nat.le_trans l2.nid ht) (fun b hb => hd b (l2.dirty b hb)) a w ha) ?_)
      rintro e a' w' ⟨y, s, rfl, ⟨rfl, rfl⟩, h3⟩
      exact triX_list hc g2 ht hd a' w' h3 rest R h1 h2
    | exit k => rw [Tr.run_ok] at g2; cases g2
    | ret => rw [Tr.run_ok] at g2; cases g2
end
section
variable {tyW tyA : TypeId} {E : Ctx MObj}
/-- What is asked of the objects that are hidden again: names of their own. -/
def grpChk (Zr : Nat → Bool) (nid snid b : Nat) (r2 : List (Nat × Nat)) (gN : HP MObj) : Bool :=
  nodupB (r2.map (·.1)) && nodupB (r2.map (·.2)) && r2.all (fun p => Nat.ble nid p.1 && Nat.blt p.1 snid && !(Nat.beq p.1 b) && Zr p.2 && !(Nat.beq p.2 0)) && gN.all (fun p => plainO p.2)
theorem tri_group {X : XF} (hX : Mono X) {tm : List SV} {hp : HP MObj} {nid : Nat} {dirty : List Nat} {Q : VX → St MObj → Prop} (b : Nat) (g gK gF : HP Unit) (mask : List Bool) (L Lr : List VV) (ty : TypeId) (hpK : HP MObj) (Zr : Nat → Bool)
    (hb : hget hp b = some (.abs (.grp g))) (hg : ∀ n, hget g n = hget ((0, some (.cells L ty)) :: (gK ++ gF)) n)
    (hk : ∀ p ∈ gK, p.1 ≠ 0 ∧ Zr p.1 = true ∧ p.2.isSome = true) (hnd : (gK.map (·.1)).Nodup) (hm : mask.length = L.length) (h0Z : Zr 0 = true)
    (hZL : ∀ (i : Nat) x, mask[i]? = some true → L[i]? = some x → ∀ n ∈ vvIds x, Zr n = false) (hZF : ∀ n o, hget gF n = some o → Zr n = false ∧ ∀ m ∈ objIds o, Zr m = false)
    (hLr : renMask (numb (gK.map (·.1)) nid) mask L = some Lr) (hhK : renHP (numb (gK.map (·.1)) nid) (upHP gK) (numb (gK.map (·.1)) nid) = some hpK)
    (htop : nid + gK.length ≤ E.top) (hDb : E.D b)
    (inner : ∀ (vs : Nat → Value) (E1 : Ctx MObj), E1.nid0 = nid + gK.length → E1.top = E.top → (∀ n, E.D n → E1.D n) →
      TriX (memSys tyW tyA) X E1 ⟨tm, hpK ++ hset hp b (.cells (rawAt vs mask 0 Lr) ty), nid + gK.length, []⟩ fun x s =>
        ∃ (L1 Lr1 : List VV) (r2 : List (Nat × Nat)) (gN : HP MObj) (g' : HP Unit), hget s.hp b = some (.cells (rawAt vs mask 0 L1) ty) ∧ renMask r2 mask L1 = some Lr1 ∧ renHP r2 s.hp r2 = some gN ∧ grpChk Zr nid s.nid b r2 gN = true ∧
          (∀ n, hget g' n = hget ((0, some (.cells (mixAt mask L Lr1) ty)) :: (dnHP gN ++ gF)) n) ∧ Q x ⟨s.tm, closeH b g' (r2.map (·.1)) s.hp, s.nid, []⟩) :
    TriX (memSys tyW tyA) X E ⟨tm, hp, nid, dirty⟩ Q := by
  rintro a w ⟨h0, h1, ρ, F, ha, hr, hch⟩
  have h0 : E.nid0 ≤ nid := h0
  have h1 : nid ≤ E.top := h1
  have hr : HR (memSys tyW tyA) E.B (Zm E.Z0 E.nid0 nid) ρ F (hget hp) w := hr
  obtain ⟨p, hpb, ρg, Gg, pg, hpg, hblk, hlive, hdead, hdisj, hFx⟩ := hr.live b _ hb
  have hgK : ∀ q ∈ gK, q.2.isSome = true := fun q hq => (hk q hq).2.2
  generalize hKdef : gK.map (·.1) = K at hnd hLr hhK
  generalize hjdef : gK.length = j at htop inner
  have hKlen : K.length = j := by rw [← hKdef, ← hjdef]; simp
  have hKm : ∀ k ∈ K, k ≠ 0 ∧ Zr k = true := fun k hk' => by
    rw [← hKdef] at hk'
    obtain ⟨q, hq, rfl⟩ := List.mem_map.1 hk'
    exact ⟨(hk q hq).1, (hk q hq).2.1⟩
  have hrf : ∀ n k, rfind (numb K nid) n = some k → nid ≤ n ∧ n < nid + j ∧ K[n - nid]? = some k ∧ k ∈ K := fun n k h => by
    rw [rfind_numb] at h
    split at h
    · rename_i hle
      have h2 := List.getElem?_eq_some_iff.1 h
      obtain ⟨h3, _⟩ := h2
      exact ⟨hle, by omega, h, List.mem_of_getElem? h⟩
    · cases h
  have hrn : ∀ n, rfind (numb K nid) n = none → ¬(nid ≤ n ∧ n < nid + j) := fun n h hh => by
    rw [rfind_numb, if_pos hh.1, List.getElem?_eq_none_iff] at h
    omega
  have hfz : ∀ n, nid ≤ n → n < nid + j → ρ n = none ∧ hget hp n = none ∧ F n = fun _ => False := fun n h2 h3 => by
    have hz : ρ n = none := hr.fresh n ⟨(E.own n (by omega) (by omega)).2, by omega⟩
    have hn : hget hp n = none := by
      cases ho : hget hp n with
      | none => rfl
      | some o => obtain ⟨q, hq⟩ := OK_rho (hr.live n o ho); rw [hz] at hq; cases hq
    exact ⟨hz, hn, funext fun x => propext ⟨fun hx => hr.dead n hn x hx, fun hx => hx.elim⟩⟩
  have hbr : rfind (numb K nid) b = none := by
    cases h : rfind (numb K nid) b with
    | none => rfl
    | some k => obtain ⟨h2, h3, _⟩ := hrf b k h; rw [(hfz b h2 h3).1] at hpb; cases hpb
  -- the group's objects
  have hg0 : hget g 0 = some (.cells L ty) := by rw [hg]; rfl
  have hgn : ∀ n, n ≠ 0 → hget g n = oor (hget gK n) (hget gF n) := fun n hn => by
    rw [hg, hget_ne hn, hget_app hgK]
  have hKF : ∀ k ∈ K, hget gF k = none := fun k hk' => by
    cases ho : hget gF k with
    | none => rfl
    | some o => have := (hZF k o ho).1; rw [(hKm k hk').2] at this; cases this
  have hFne : ∀ n o, hget gF n = some o → n ≠ 0 ∧ n ∉ K := fun n o ho => by
    refine ⟨fun e => ?_, fun hm => ?_⟩
    · subst e; have := (hZF 0 o ho).1; rw [h0Z] at this; cases this
    · rw [hKF n hm] at ho; cases ho
  have hgKn : ∀ n o, hget gK n = some o → n ∈ K := fun n o ho => by
    obtain ⟨q, hq, h2, _⟩ := hget_mem ho
    rw [← hKdef, ← h2]
    exact List.mem_map.2 ⟨q, hq, rfl⟩
  have hgF : ∀ n o, hget gF n = some o → hget g n = some o := fun n o ho => by
    obtain ⟨h2, h3⟩ := hFne n o ho
    rw [hgn n h2]
    cases hgk : hget gK n with
    | none => exact ho
    | some o' => exact absurd (hgKn n o' hgk) h3
  obtain ⟨pg', arr, hpg', hGf, hwp, hLa⟩ := hlive 0 _ hg0
  rw [hpg] at hpg'
  injection hpg' with hpg'
  subst hpg'
  -- the names that are opened
  let ρo : Rho := fun n => match rfind (numb K nid) n with | some k => ρg k | none => ρ n
  let Fo : Fm := fun n => if n = b then Gg 0 else match rfind (numb K nid) n with | some k => Gg k | none => F n
  have eo : ∀ {n k}, rfind (numb K nid) n = some k → ρo n = ρg k ∧ Fo n = Gg k := fun {n k} h => by
    have hnb : n ≠ b := fun e => by subst e; rw [hbr] at h; cases h
    constructor
    · simp only [ρo, h]
    · simp only [Fo, if_neg hnb, h]
  have en : ∀ {n}, rfind (numb K nid) n = none → ρo n = ρ n := fun {n} h => by simp only [ρo, h]
  have enF : ∀ {n}, rfind (numb K nid) n = none → n ≠ b → Fo n = F n := fun {n} h hn => by simp only [Fo, if_neg hn, h]
  have eb : Fo b = Gg 0 := by simp only [Fo, if_pos]
  have hren : Renames (numb K nid) ρg ρo := fun o n hl => by
    have := rlook_numb K nid o n hl
    have h2 : rfind (numb K nid) n = some o := by rw [rfind_numb, if_pos this.1]; exact this.2
    exact (eo h2).1
  have hle : ρ.le ρo := fun n q hq => by
    cases h : rfind (numb K nid) n with
    | none => rw [en h]; exact hq
    | some k => obtain ⟨h2, h3, _⟩ := hrf n k h; rw [(hfz n h2 h3).1] at hq; cases hq
  let vs : Nat → Value := fun i => arr.toList.getD i (.bool false)
  have hvs : ∀ (n : Nat) v, arr.toList[n]? = some v → vs (0 + n) = v := fun n v hv => by
    simp only [vs, Nat.zero_add, List.getD_eq_getElem?_getD, hv, Option.getD_some]
  have hgK2 := fun n => hget_ren (b := n) hhK (numb_snd K nid).1
  have hsK := renHP_some hhK
  generalize hH1 : hpK ++ hset hp b (.cells (rawAt vs mask 0 Lr) ty) = hp1 at *
  have hl1 : ∀ n, hget hp1 n = oor (hget hpK n) (if n = b then some (.cells (rawAt vs mask 0 Lr) ty) else hget hp n) := fun n => by
    rw [← hH1, hget_app hsK, hget_hset]
  have hl1n : ∀ n, rfind (numb K nid) n = none → hget hp1 n = if n = b then some (.cells (rawAt vs mask 0 Lr) ty) else hget hp n := fun n h => by
    rw [hl1, (hgK2 n).2 h]
    rfl
  have hl1s : ∀ n k, rfind (numb K nid) n = some k → ∃ x x', hget gK k = some x ∧ renObj (numb K nid) (ofU x) = some x' ∧ hget hp1 n = some x' := fun n k h => by
    have hk2 := (hrf n k h).2.2.2
    rw [← hKdef] at hk2
    obtain ⟨q, hq, hqk⟩ := List.mem_map.1 hk2
    cases ho : hget gK k with
    | none =>
      exfalso
      have : ∀ (l : HP Unit), (∀ q ∈ l, q.2.isSome = true) → hget l k = none → k ∉ l.map (·.1) := by
        intro l
        induction l with
        | nil => intro _ _ h; cases h
        | cons y l ih =>
          obtain ⟨c, o⟩ := y
          intro hs hn hm
          simp only [hget] at hn
          cases hb : Nat.beq c k with
          | true =>
            rw [hb] at hn
            have := hs (c, o) (List.mem_cons_self ..)
            simp only at hn
            rw [hn] at this
            cases this
          | false =>
            rw [hb] at hn
            rcases List.mem_cons.1 hm with h | h
            · exact absurd h.symm (Nat.ne_of_beq_eq_false hb)
            · exact ih (fun q hq => hs q (List.mem_cons_of_mem _ hq)) hn h
      exact this gK hgK ho hk2
    | some x =>
      obtain ⟨x', h2, h3⟩ := ((hgK2 n).1 k h).1 (ofU x) (by rw [hget_upHP, ho]; rfl)
      exact ⟨x, x', rfl, h2, by rw [hl1, h3]; rfl⟩
  have hgk : ∀ k x, hget gK k = some x → hget g k = some x := fun k x hx => by
    rw [hgn k (hKm k (hgKn k x hx)).1, hx]
    rfl
  have hFsub : ∀ n x, Fo n x → ∃ d, F d x ∧ ((rfind (numb K nid) n = none ∧ d = n) ∨ ∃ k, rfind (numb K nid) n = some k ∧ d = b ∧ Gg k x) := fun n x hx => by
    by_cases e : n = b
    · subst e
      rw [eb] at hx
      exact ⟨n, (hFx x).2 ⟨0, hx⟩, .inl ⟨hbr, rfl⟩⟩
    · cases h : rfind (numb K nid) n with
      | none => rw [enF h e] at hx; exact ⟨n, hx, .inl ⟨rfl, rfl⟩⟩
      | some k => rw [(eo h).2] at hx; exact ⟨b, (hFx x).2 ⟨k, hx⟩, .inr ⟨k, rfl, rfl, hx⟩⟩
  have hnid0 : E.nid0 ≤ nid := h0
  have hpub : ∀ {n k}, rfind (numb K nid) n = some k → E.D n := fun {n k} h => by
    obtain ⟨h2, h3, _⟩ := hrf n k h
    exact (E.own n (by omega) (by omega)).1
  let E1 : Ctx MObj := {
    B := E.B, Z0 := Zm E.Z0 E.nid0 (nid + j), nid0 := nid + j, top := E.top, ρ0 := ρo, F0 := Fo, w0 := w, D := E.D
    own := fun n h2 h3 => ⟨(E.own n (by omega) h3).1, (E.own n (by omega) h3).2, by omega⟩
    new := fun n hn => by
      have h2 : rfind (numb K nid) n = none := by
        cases h : rfind (numb K nid) n with
        | none => rfl
        | some k => obtain ⟨h3, h4, _⟩ := hrf n k h; exact absurd ⟨Nat.le_trans hnid0 h3, h4⟩ hn.2
      rw [en h2]
      refine hr.fresh n ⟨hn.1, fun hh => hn.2 ⟨hh.1, ?_⟩⟩
      have : n < nid := hh.2
      omega }
  have hHR1 : HR (memSys tyW tyA) E.B (Zm E1.Z0 E1.nid0 (nid + j)) ρo Fo (hget hp1) w := by
    rw [show E1.nid0 = nid + j from rfl, Zm_self]
    refine ⟨fun n o ho => ?_, fun n hn x hx => ?_, fun n x hx => ?_, fun n n' x hx hx' => ?_, fun n hn => E1.new n hn, hr.base⟩
    · cases h : rfind (numb K nid) n with
      | some k =>
        obtain ⟨x, x', g1, g2, g3⟩ := hl1s n k h
        rw [g3] at ho
        injection ho with ho
        subst ho
        rw [(eo h).2]
        exact renObj_ok hren (eo h).1 g2 (ofU_ok (hlive k x (hgk k x g1)))
      | none =>
        rw [hl1n n h] at ho
        by_cases e : n = b
        · subst e
          rw [if_pos rfl] at ho
          injection ho with ho
          subst ho
          rw [eb]
          refine ⟨p, arr, (en hbr).trans hpb, fun x => by rw [← hblk]; exact hGf x, by rw [← hblk]; exact hwp, rawAt_ok hren hLr hLa hvs⟩
        · rw [if_neg e] at ho
          rw [enF h e]
          exact (hr.live n o ho).frame _ hle rfl (fun _ _ => rfl) (fun _ _ => rfl)
    · cases h : rfind (numb K nid) n with
      | some k =>
        obtain ⟨y, y', _, _, g3⟩ := hl1s n k h
        rw [g3] at hn
        cases hn
      | none =>
        rw [hl1n n h] at hn
        by_cases e : n = b
        · rw [if_pos e] at hn; cases hn
        · rw [if_neg e] at hn
          rw [enF h e] at hx
          exact hr.dead n hn x hx
    · obtain ⟨d, hd, _⟩ := hFsub n x hx
      exact hr.bound d x hd
    · by_cases e : n = b
      · by_cases e' : n' = b
        · rw [e, e']
        · subst e
          rw [eb] at hx
          cases h' : rfind (numb K nid) n' with
          | none =>
            rw [enF h' e'] at hx'
            exact hr.disj n n' x ((hFx x).2 ⟨0, hx⟩) hx'
          | some k =>
            rw [(eo h').2] at hx'
            have := hdisj 0 k x hx hx'
            exact absurd this.symm (hKm k (hrf n' k h').2.2.2).1
      · cases h : rfind (numb K nid) n with
        | none =>
          rw [enF h e] at hx
          obtain ⟨d, hd, hd2⟩ := hFsub n' x hx'
          have := hr.disj n d x hx hd
          rcases hd2 with ⟨_, rfl⟩ | ⟨k, _, rfl, _⟩
          · exact this
          · exact absurd this e
        | some k =>
          rw [(eo h).2] at hx
          by_cases e' : n' = b
          · subst e'
            rw [eb] at hx'
            have := hdisj k 0 x hx hx'
            exact absurd this (hKm k (hrf n k h).2.2.2).1
          · cases h' : rfind (numb K nid) n' with
            | none =>
              rw [enF h' e'] at hx'
              have := hr.disj b n' x ((hFx x).2 ⟨k, hx⟩) hx'
              exact absurd this.symm e'
            | some k' =>
              rw [(eo h').2] at hx'
              have := hdisj k k' x hx hx'
              subst this
              obtain ⟨g1, g2, g3, _⟩ := hrf n k h
              obtain ⟨g1', g2', g3', _⟩ := hrf n' k h'
              obtain ⟨i1, i2⟩ := List.getElem?_eq_some_iff.1 g3
              obtain ⟨i1', i2'⟩ := List.getElem?_eq_some_iff.1 g3'
              have := (List.getElem_inj hnd (h₀ := i1) (h₁ := i1')).1 (i2.trans i2'.symm)
              omega
  have hHR1 : HR (memSys tyW tyA) E.B (Zm E1.Z0 E1.nid0 (nid + j)) ρo Fo (hget (hpK ++ hset hp b (.cells (rawAt vs mask 0 Lr) ty))) w := by rw [hH1]; exact hHR1
  refine hX _ _ _ _ (inner vs E1 rfl rfl (fun _ h => h) a w ⟨Nat.le_refl _, htop, ρo, Fo, ⟨ha.defers, fun t => RT.mono hle (ha.tmps t)⟩, hHR1, Chg.refl _ _ _ _⟩) ?_
  rintro e a' w' ⟨x, s, rfl, ⟨L1, Lr1, r2, gN, g', hsb, hLr1, hgN, hchk, hg', hQ⟩, i0, i1, ρ1, F1, ha', hr', hch'⟩
  have i0 : nid + j ≤ s.nid := i0
  have i1 : s.nid ≤ E.top := i1
  simp only [grpChk, Bool.and_eq_true] at hchk
  obtain ⟨⟨⟨c1, c2⟩, c3⟩, c4⟩ := hchk
  have c1 := nodup_iff c1
  have c2 := nodup_iff c2
  have c3 : ∀ q n, (q, n) ∈ r2 → nid ≤ q ∧ q < s.nid ∧ q ≠ b ∧ Zr n = true ∧ n ≠ 0 := fun q n hm => by
    have := List.all_eq_true.1 c3 _ hm
    simp only [Bool.and_eq_true, Nat.blt_eq, Bool.not_eq_true'] at this
    obtain ⟨⟨⟨⟨d1, d2⟩, d3⟩, d4⟩, d5⟩ := this
    exact ⟨Nat.le_of_ble_eq_true d1, d2, Nat.ne_of_beq_eq_false d3, d4, Nat.ne_of_beq_eq_false d5⟩
  have c4 : ∀ n o, hget gN n = some o → plainO (some o) = true := fun n o ho => by
    obtain ⟨q, hq, _, h2⟩ := hget_mem ho
    have := List.all_eq_true.1 c4 _ hq
    rw [h2] at this
    exact this
  have hsN := renHP_some hgN
  have hgN2 := fun n => hget_ren (b := n) hgN c2
  refine ⟨x, _, rfl, hQ, Nat.le_trans hnid0 (Nat.le_trans (Nat.le_add_right _ _) i0), i1, ρ1, ?_⟩
  have hpubD : ∀ q n, (q, n) ∈ r2 → E.D q := fun q n hm => by
    obtain ⟨d1, d2, _⟩ := c3 q n hm
    exact (E.own q (Nat.le_trans hnid0 d1) (Nat.lt_of_lt_of_le d2 i1)).1
  have hpm : ∀ q, q ∈ r2.map (·.1) → ∃ n, (q, n) ∈ r2 := fun q hq => by
    obtain ⟨y, hy, rfl⟩ := List.mem_map.1 hq
    exact ⟨y.2, hy⟩
  -- what is framed: blocks of the group's other objects
  have hfr : ∀ n o x, hget gF n = some o → Gg n x → ∀ d, ¬Fo d x := fun n o x ho hx d hd => by
    obtain ⟨d', h2, h3⟩ := hFsub d x hd
    have hFb : F b x := (hFx x).2 ⟨n, hx⟩
    have := hr.disj b d' x hFb h2
    subst this
    rcases h3 with ⟨h4, h5⟩ | ⟨k, h4, _, h5⟩
    · have hdb : d = b := h5.symm
      subst hdb
      rw [eb] at hd
      exact (hFne n o ho).1 (hdisj n 0 x hx hd)
    · have := hdisj n k x hx h5
      subst this
      exact (hFne n o ho).2 (hrf d n h4).2.2.2
  have hfr1 : ∀ n o x, hget gF n = some o → Gg n x → ∀ d, ¬F1 d x := fun n o x ho hx d hd => by
    have hlt := (hr.bound b x ((hFx x).2 ⟨n, hx⟩)).2
    by_cases hD : E.D d
    · rcases hch'.own d x hD hd with h2 | ⟨c, _, h3⟩
      · have h2 : w.heap.size ≤ x := h2
        omega
      · exact hfr n o x ho hx c h3
    · have := hch'.keep d hD
      rw [this] at hd
      exact hfr n o x ho hx d hd
  have hfw : ∀ n o x, hget gF n = some o → Gg n x → w'.heap[x]? = w.heap[x]? := fun n o x ho hx =>
    hch'.heap x (hr.bound b x ((hFx x).2 ⟨n, hx⟩)).2 fun c _ hc => hfr n o x ho hx c hc
  have hρb : ρ1 b = some p := hch'.rho b p ((en hbr).trans hpb)
  let F3 : Fm := fun n => if n = b then (fun x => F1 b x ∨ (∃ q, q ∈ r2.map (·.1) ∧ F1 q x) ∨ ∃ k, (∃ o, hget gF k = some o) ∧ Gg k x) else if n ∈ r2.map (·.1) then (fun _ => False) else F1 n
  have f3b : F3 b = fun x => F1 b x ∨ (∃ q, q ∈ r2.map (·.1) ∧ F1 q x) ∨ ∃ k, (∃ o, hget gF k = some o) ∧ Gg k x := by simp only [F3, if_pos]
  have f3p : ∀ {n}, n ≠ b → n ∈ r2.map (·.1) → F3 n = fun _ => False := fun {n} h2 h3 => by simp only [F3, if_neg h2, if_pos h3]
  have f3n : ∀ {n}, n ≠ b → n ∉ r2.map (·.1) → F3 n = F1 n := fun {n} h2 h3 => by simp only [F3, if_neg h2, if_neg h3]
  let ρ2 : Rho := fun n => if n = 0 then ρ1 b else match rfind r2 n with | some q => ρ1 q | none => ρg n
  let G2 : Fm := fun n => if n = 0 then F1 b else match rfind r2 n with | some q => F1 q | none => fun x => (∃ o, hget gF n = some o) ∧ Gg n x
  have z0 : ρ2 0 = ρ1 b ∧ G2 0 = F1 b := by constructor <;> simp only [ρ2, G2, if_pos]
  have zs : ∀ {n q}, n ≠ 0 → rfind r2 n = some q → ρ2 n = ρ1 q ∧ G2 n = F1 q := fun {n q} h2 h3 => by constructor <;> simp only [ρ2, G2, if_neg h2, h3]
  have zn : ∀ {n}, n ≠ 0 → rfind r2 n = none → ρ2 n = ρg n ∧ G2 n = fun x => (∃ o, hget gF n = some o) ∧ Gg n x := fun {n} h2 h3 => by constructor <;> simp only [ρ2, G2, if_neg h2, h3]
  have hZn : ∀ n, Zr n = false → n ≠ 0 ∧ rfind r2 n = none := fun n hn => by
    refine ⟨fun e => (by subst e; rw [h0Z] at hn; cases hn), ?_⟩
    cases h : rfind r2 n with
    | none => rfl
    | some q => have := (c3 q n (rfind_mem h)).2.2.2.1; rw [hn] at this; cases this
  have hren2 : Renames r2 ρ1 ρ2 := fun q n hl => by
    have hm := rlook_mem hl
    exact (zs (c3 q n hm).2.2.2.2 (mem_rfind c2 hm)).1
  have hg'0 : hget g' 0 = some (.cells (mixAt mask L Lr1) ty) := by rw [hg']; rfl
  have hg'n : ∀ n, n ≠ 0 → hget g' n = oor ((hget gN n).map toU) (hget gF n) := fun n hn => by
    rw [hg', hget_ne hn, hget_app (dnHP_some hsN), hget_dnHP]
  have hsbl := hr'.live b _ hsb
  obtain ⟨p1, arr1, hp1, hf1, hw1, hl1'⟩ := hsbl
  have hgrp : OK (memSys tyW tyA) E.B ρ1 (F3 b) b (.abs (.grp g')) w' := by
    refine ⟨p, hρb, ρ2, G2, p, z0.1.trans hρb, rfl, fun n o ho => ?_, fun n hn x hx => ?_, fun n n' x hx hx' => ?_, fun x => ?_⟩
    · by_cases e : n = 0
      · subst e
        rw [hg'0] at ho
        injection ho with ho
        subst ho
        rw [z0.2]
        refine ⟨p1, arr1, z0.1.trans hp1, hf1, hw1, mixAt_ok (ρ0 := ρg) hren2 hLr1 hLa hvs hl1' hm fun i y v hi hy hv => RV_agree (fun m hm' => ?_) hv⟩
        obtain ⟨d1, d2⟩ := hZn m (hZL i y hi hy m hm')
        exact (zn d1 d2).1
      · rw [hg'n n e] at ho
        cases h : rfind r2 n with
        | some q =>
          cases hq : hget s.hp q with
          | none =>
            rw [((hgN2 n).1 q h).2 hq] at ho
            have := (c3 q n (rfind_mem h)).2.2.2.1
            have h2 := (hZF n o (by exact ho)).1
            rw [this] at h2
            cases h2
          | some y =>
            obtain ⟨y', k1, k2⟩ := ((hgN2 n).1 q h).1 y hq
            rw [k2] at ho
            have ho : toU y' = o := by injection ho
            subst ho
            rw [(zs e h).2]
            exact toU_ok (c4 n y' k2) (renObj_ok hren2 (zs e h).1 k1 (hr'.live q y hq))
        | none =>
          rw [(hgN2 n).2 h] at ho
          have ho : hget gF n = some o := ho
          have hGe : G2 n = Gg n := by
            rw [(zn e h).2]
            funext x
            exact propext ⟨fun hx => hx.2, fun hx => ⟨⟨o, ho⟩, hx⟩⟩
          rw [hGe]
          refine OK_agree (ρ := ρg) (zn e h).1 (fun m hm' => ?_) ((hlive n o (hgF n o ho)).frame emptySys (Rho.le_refl ρg) rfl (fun x hx => hfw n o x ho hx) (fun x hx => absurd hx (Nat.not_lt_zero x)))
          obtain ⟨d1, d2⟩ := hZn m ((hZF n o ho).2 m hm')
          exact (zn d1 d2).1
    · by_cases e : n = 0
      · subst e; rw [hg'0] at hn; cases hn
      · rw [hg'n n e] at hn
        cases h : rfind r2 n with
        | some q =>
          rw [(zs e h).2] at hx
          cases hq : hget s.hp q with
          | none => exact hr'.dead q hq x hx
          | some y =>
            obtain ⟨y', _, k2⟩ := ((hgN2 n).1 q h).1 y hq
            rw [k2] at hn
            cases hn
        | none =>
          rw [(hgN2 n).2 h] at hn
          rw [(zn e h).2] at hx
          obtain ⟨⟨o, ho⟩, _⟩ := hx
          have hn : hget gF n = none := hn
          rw [hn] at ho
          cases ho
    · -- each comes of one object that is known outside, or is framed
      have src : ∀ m y, G2 m y → (m = 0 ∧ F1 b y) ∨ (∃ q, m ≠ 0 ∧ rfind r2 m = some q ∧ F1 q y) ∨ (m ≠ 0 ∧ rfind r2 m = none ∧ (∃ o, hget gF m = some o) ∧ Gg m y) := fun m y hy => by
        by_cases e : m = 0
        · subst e; rw [z0.2] at hy; exact .inl ⟨rfl, hy⟩
        · cases h : rfind r2 m with
          | some q => rw [(zs e h).2] at hy; exact .inr (.inl ⟨q, e, rfl, hy⟩)
          | none => rw [(zn e h).2] at hy; exact .inr (.inr ⟨e, rfl, hy⟩)
      rcases src n x hx with ⟨rfl, k1⟩ | ⟨q, _, k2, k3⟩ | ⟨_, _, ⟨o, k4⟩, k5⟩ <;> rcases src n' x hx' with ⟨rfl, k1'⟩ | ⟨q', _, k2', k3'⟩ | ⟨_, _, ⟨o', k4'⟩, k5'⟩
      · rfl
      · have := hr'.disj b q' x k1 k3'
        exact absurd this.symm (c3 q' n' (rfind_mem k2')).2.2.1
      · exact absurd k1 (hfr1 n' o' x k4' k5' b)
      · have := hr'.disj q b x k3 k1'
        exact absurd this (c3 q n (rfind_mem k2)).2.2.1
      · have := hr'.disj q q' x k3 k3'
        subst this
        exact pair_unique c1 (rfind_mem k2) (rfind_mem k2')
      · exact absurd k3 (hfr1 n' o' x k4' k5' q)
      · exact absurd k1' (hfr1 n o x k4 k5 b)
      · exact absurd k3' (hfr1 n o x k4 k5 q')
      · exact hdisj n n' x k5 k5'
    · rw [f3b]
      constructor
      · rintro (k1 | ⟨q, k1, k2⟩ | ⟨k, ⟨o, k1⟩, k2⟩)
        · exact ⟨0, by rw [z0.2]; exact k1⟩
        · obtain ⟨n, hn⟩ := hpm q k1
          exact ⟨n, by rw [(zs (c3 q n hn).2.2.2.2 (mem_rfind c2 hn)).2]; exact k2⟩
        · obtain ⟨d1, d2⟩ := hZn k (hZF k o k1).1
          exact ⟨k, by rw [(zn d1 d2).2]; exact ⟨⟨o, k1⟩, k2⟩⟩
      · rintro ⟨n, hn⟩
        by_cases e : n = 0
        · subst e; rw [z0.2] at hn; exact .inl hn
        · cases h : rfind r2 n with
          | some q => rw [(zs e h).2] at hn; exact .inr (.inl ⟨q, List.mem_map.2 ⟨_, rfind_mem h, rfl⟩, hn⟩)
          | none => rw [(zn e h).2] at hn; exact .inr (.inr ⟨n, hn.1, hn.2⟩)
  have hbin : b ∈ s.hp.map (·.1) := by
    obtain ⟨q, hq, h2, _⟩ := hget_mem hsb
    exact List.mem_map.2 ⟨q, hq, h2⟩
  have hl3 : ∀ n, hget (closeH b g' (r2.map (·.1)) s.hp) n = if n = b then some (.abs (.grp g')) else if n ∈ r2.map (·.1) then none else hget s.hp n := fun n => by
    rw [hget_closeH]
    by_cases e : n = b
    · rw [if_pos e, if_pos e, if_pos (e ▸ hbin)]
    · rw [if_neg e, if_neg e]
  have hF3 : ∀ n x, F3 n x → (∃ d, F1 d x ∧ (d = n ∨ n = b)) ∨ (n = b ∧ ∃ k o, hget gF k = some o ∧ Gg k x) := fun n x hx => by
    by_cases e : n = b
    · subst e
      rw [f3b] at hx
      rcases hx with k1 | ⟨q, _, k2⟩ | ⟨k, ⟨o, k1⟩, k2⟩
      · exact .inl ⟨n, k1, .inl rfl⟩
      · exact .inl ⟨q, k2, .inr rfl⟩
      · exact .inr ⟨rfl, k, o, k1, k2⟩
    · by_cases e2 : n ∈ r2.map (·.1)
      · rw [f3p e e2] at hx; exact hx.elim
      · rw [f3n e e2] at hx; exact .inl ⟨n, hx, .inl rfl⟩
  refine ⟨F3, ha', ⟨fun n o ho => ?_, fun n hn x hx => ?_, fun n x hx => ?_, fun n n' x hx hx' => ?_, fun n hn => ?_, hr'.base⟩, ?_⟩
  · have ho : hget (closeH b g' (r2.map (·.1)) s.hp) n = some o := ho
    rw [hl3] at ho
    by_cases e : n = b
    · subst e
      rw [if_pos rfl] at ho
      injection ho with ho
      subst ho
      exact hgrp
    · rw [if_neg e] at ho
      by_cases e2 : n ∈ r2.map (·.1)
      · rw [if_pos e2] at ho; cases ho
      · rw [if_neg e2] at ho
        rw [f3n e e2]
        exact hr'.live n o ho
  · have hn : hget (closeH b g' (r2.map (·.1)) s.hp) n = none := hn
    rw [hl3] at hn
    by_cases e : n = b
    · rw [if_pos e] at hn; cases hn
    · rw [if_neg e] at hn
      by_cases e2 : n ∈ r2.map (·.1)
      · rw [f3p e e2] at hx; exact hx
      · rw [if_neg e2] at hn
        rw [f3n e e2] at hx
        exact hr'.dead n hn x hx
  · rcases hF3 n x hx with ⟨d, hd, _⟩ | ⟨_, k, o, k1, k2⟩
    · exact hr'.bound d x hd
    · have := hr.bound b x ((hFx x).2 ⟨k, k2⟩)
      exact ⟨this.1, Nat.lt_of_lt_of_le this.2 hch'.same.size⟩
  · have key : ∀ m y, m ≠ b → F3 m y → F1 m y ∧ m ∉ r2.map (·.1) := fun m y hm' hy => by
      by_cases e2 : m ∈ r2.map (·.1)
      · rw [f3p hm' e2] at hy; exact hy.elim
      · rw [f3n hm' e2] at hy; exact ⟨hy, e2⟩
    have key2 : ∀ m y, m ≠ b → F3 m y → F3 b y → False := fun m y hm' hy hb' => by
      obtain ⟨k1, k2⟩ := key m y hm' hy
      rw [f3b] at hb'
      rcases hb' with k3 | ⟨q, k3, k4⟩ | ⟨k, ⟨o, k3⟩, k4⟩
      · exact hm' (hr'.disj m b y k1 k3)
      · have := hr'.disj m q y k1 k4
        subst this
        exact k2 k3
      · exact hfr1 k o y k3 k4 m k1
    by_cases e : n = b
    · by_cases e' : n' = b
      · rw [e, e']
      · subst e; exact (key2 n' x e' hx' hx).elim
    · by_cases e' : n' = b
      · subst e'; exact (key2 n x e hx hx').elim
      · exact hr'.disj n n' x (key n x e hx).1 (key n' x e' hx').1
  · refine hr'.fresh n ?_
    show Zm (Zm E.Z0 E.nid0 (nid + j)) (nid + j) s.nid n
    rw [Zm_trans E.Z0 (by omega) i0]
    exact hn
  · refine ⟨Rho.le_trans hch.rho (Rho.le_trans hle hch'.rho), fun n hn => ?_, fun n x hD hx => ?_, hch.same.trans hch'.same, fun k hk' hck => ?_⟩
    · have e : n ≠ b := fun e => hn (e ▸ hDb)
      have e2 : n ∉ r2.map (·.1) := fun hm' => by
        obtain ⟨m, hm'⟩ := hpm n hm'
        exact hn (hpubD n m hm')
      rw [f3n e e2, show F1 n = Fo n from hch'.keep n hn]
      have h2 : rfind (numb K nid) n = none := by
        cases h : rfind (numb K nid) n with
        | none => rfl
        | some k => exact absurd (hpub h) hn
      rw [enF h2 e]
      exact hch.keep n hn
    · have back : ∀ c, Fo c x → (E.D c) → E.w0.heap.size ≤ x ∨ ∃ c, E.D c ∧ E.F0 c x := fun c hc hDc => by
        obtain ⟨d, h2, h3⟩ := hFsub c x hc
        have hDd : E.D d := by
          rcases h3 with ⟨_, rfl⟩ | ⟨_, _, rfl, _⟩
          · exact hDc
          · exact hDb
        exact hch.own d x hDd h2
      have one : ∀ d, E.D d → F1 d x → E.w0.heap.size ≤ x ∨ ∃ c, E.D c ∧ E.F0 c x := fun d hd hx' => by
        rcases hch'.own d x hd hx' with h2 | ⟨c, h2, h3⟩
        · exact .inl (Nat.le_trans hch.same.size h2)
        · exact back c h3 h2
      by_cases e : n = b
      · subst e
        rw [f3b] at hx
        rcases hx with k1 | ⟨q, k1, k2⟩ | ⟨k, _, k2⟩
        · exact one n hD k1
        · obtain ⟨m, hm'⟩ := hpm q k1
          exact one q (hpubD q m hm') k2
        · exact hch.own n x hD ((hFx x).2 ⟨k, k2⟩)
      · by_cases e2 : n ∈ r2.map (·.1)
        · rw [f3p e e2] at hx; exact hx.elim
        · rw [f3n e e2] at hx; exact one n hD hx
    · have h2 : w'.heap[k]? = w.heap[k]? := hch'.heap k (Nat.lt_of_lt_of_le hk' hch.same.size) fun c hc hx => by
        obtain ⟨d, h2, h3⟩ := hFsub c k hx
        have hDd : E.D d := by
          rcases h3 with ⟨_, rfl⟩ | ⟨_, _, rfl, _⟩
          · exact hc
          · exact hDb
        rcases hch.own d k hDd h2 with h4 | ⟨c', h4, h5⟩
        · omega
        · exact hck c' h4 h5
      rw [h2]
      exact hch.heap k hk' hck
end
end Go.Proofs.Ytcolladpdmjloaa.Eng

/-
  The engine, part Zc: pieces of code by trees all of whose leaves are as they should be; functions over objects by the logic; memories that are opened and closed in a state.
-/
namespace Go.Proofs.Ytcolladpdmjloaa.Eng
open Go Go.RowKit
set_option linter.unusedVariables false

section
variable {A : Type} {S : Sys A} {P : Program} {E : Ctx A}
theorem Tri.all {c : Code} {ev : St A → Tr (VX × St A)} (hc : CodeOK S P c ev) {st : St A} {m n : Nat} {T : Tr (Lf A)} {Q : VX → St A → Prop} (h : (ev st).vmap (Eng.leaf m) = T)
    (hT : T.All fun l => l.len = m + n ∧ l.nid ≤ E.top ∧ (∀ b, b ∈ l.dirty → E.D b) ∧ ∀ js, Q l.x ⟨l.pre ++ junk js n m, l.hp, l.nid, l.dirty⟩) : Tri S P E c st Q := by
  obtain ⟨l, hl, h1, h2, h3, h4⟩ := Tr.all_iff.1 hT
  refine (Tri.leaf (m := m) (n := n) hc ((congrArg Tr.run h).trans hl) h1 h2 h3).mono ?_
  rintro y s ⟨rfl, js, rfl⟩
  exact h4 js
theorem Tri.list {call : FuncId → List SV → HP A → Nat → Tr (CR A)} {R : Nat} (hc : ∀ c, CodeOK S P c (evCode P call R c)) (k : Nat) {c c' : Code} {st : St A} {Q : VX → St A → Prop} {m n : Nat} {T : Tr (Lf A)}
    (hs : (Eng.spine k c).2 = c') (h : (evList (P := P) call R (Eng.spine k c).1 st).vmap (Eng.leaf m) = T)
    (hT : T.All fun l => l.x = .normal ∧ l.len = m + n ∧ l.nid ≤ E.top ∧ (∀ b, b ∈ l.dirty → E.D b) ∧ ∀ js, Tri S P E c' ⟨l.pre ++ junk js n m, l.hp, l.nid, l.dirty⟩ Q) : Tri S P E c st Q := by
  obtain ⟨l, hl, h0, h1, h2, h3, h4⟩ := Tr.all_iff.1 hT
  exact Tri.lead hc k hs ((congrArg Tr.run h).trans hl) h0 h1 h2 h3 h4
/-- Names are given anew, garbage is dropped, ahead of a code. -/
theorem Tri.ren {c : Code} {tm pre pre' : List SV} {hp hp' : HP A} {nid nid' m n : Nat} {dirty : List Nat} {Q : VX → St A → Prop} (r : List (Nat × Nat)) (hpre : tm.take m = pre) (hlen : tm.length = m + n)
    (h1 : renSVs r pre = some pre') (h2 : renHP r hp r = some hp') (hchk : renChk r hp E.nid0 nid nid' = true) (hn0 : E.nid0 ≤ nid') (hn1 : nid' ≤ E.top)
    (next : ∀ js, Tri S P E c ⟨pre' ++ junk js n m, hp', nid', []⟩ Q) : Tri S P E c ⟨tm, hp, nid, dirty⟩ Q := by
  refine Tri.preE fun a w hat => ?_
  obtain ⟨js, h⟩ := at_rename (dirty' := []) r hpre hlen h1 h2 hchk hn0 hn1 hat
  exact ⟨_, h, next js⟩
/-- The same behind a code. -/
theorem Tri.postRen {c : Code} {st : St A} {Q Q' : VX → St A → Prop} (h : Tri S P E c st Q)
    (hq : ∀ x s, Q x s → ∃ (r : List (Nat × Nat)) (pre pre' : List SV) (hp' : HP A) (nid' m n : Nat), s.tm.take m = pre ∧ s.tm.length = m + n ∧ renSVs r pre = some pre' ∧ renHP r s.hp r = some hp' ∧ renChk r s.hp E.nid0 s.nid nid' = true ∧ E.nid0 ≤ nid' ∧ nid' ≤ E.top ∧
      ∀ js, Q' x ⟨pre' ++ junk js n m, hp', nid', []⟩) : Tri S P E c st Q' :=
  Tri.postE h fun x s a w hx hat => by
    obtain ⟨r, pre, pre', hp', nid', m, n, h1, h2, h3, h4, h5, h6, h7, h8⟩ := hq x s hx
    obtain ⟨js, h9⟩ := at_rename (dirty' := []) r h1 h2 h3 h4 h5 h6 h7 hat
    exact ⟨_, h9, h8 js⟩
end
theorem cons_eq {α : Type} {a b : α} {l m : List α} (h : a = b) (k : l = m) : a :: l = b :: m := by rw [h, k]
section
variable {A : Type} {S : Sys A} {P : Program} {E : Ctx A}
theorem Tri.allR {c : Code} {ev : St A → Tr (VX × St A)} (hc : CodeOK S P c ev) {st : St A} {m n : Nat} {T : Tr (Lf A)} {Q : VX → St A → Prop} (h : ((ev st).vmap (Eng.leaf m)).run = T.run)
    (hT : T.All fun l => l.len = m + n ∧ l.nid ≤ E.top ∧ (∀ b, b ∈ l.dirty → E.D b) ∧ ∀ js, Q l.x ⟨l.pre ++ junk js n m, l.hp, l.nid, []⟩) : Tri S P E c st Q := by
  obtain ⟨l, hl, h1, h2, h3, h4⟩ := Tr.all_iff.1 hT
  refine (Tri.leaf (m := m) (n := n) hc (h.trans hl) h1 h2 h3).post ?_
  rintro y s ⟨rfl, js, rfl⟩
  exact ⟨⟨l.pre ++ junk js n m, l.hp, l.nid, []⟩, fun _ _ h => h, h4 js⟩
theorem Tri.listR {call : FuncId → List SV → HP A → Nat → Tr (CR A)} {R : Nat} (hc : ∀ c, CodeOK S P c (evCode P call R c)) (k : Nat) {c c' : Code} {l : List Code} {st : St A} {Q : VX → St A → Prop} {m n : Nat} {T : Tr (Lf A)}
    (hs1 : (Eng.spine k c).1 = l) (hs2 : (Eng.spine k c).2 = c') (h : ((evList (P := P) call R l st).vmap (Eng.leaf m)).run = T.run)
    (hT : T.All fun l => l.x = .normal ∧ l.len = m + n ∧ l.nid ≤ E.top ∧ (∀ b, b ∈ l.dirty → E.D b) ∧ ∀ js, Tri S P E c' ⟨l.pre ++ junk js n m, l.hp, l.nid, []⟩ Q) : Tri S P E c st Q := by
  subst hs1
  obtain ⟨l, hl, h0, h1, h2, h3, h4⟩ := Tr.all_iff.1 hT
  exact Tri.lead hc k hs2 (h.trans hl) h0 h1 h2 h3 fun js a w ha => h4 js a w ha
end
section
variable {A : Type} {S : Sys A} {P : Program} {E : Ctx A}
theorem Tri.preWk {c : Code} {pre pre' l : List SV} {hp hp' : HP A} {nid : Nat} {d : List Nat} {Q : VX → St A → Prop} (h1 : wkSs pre pre') (h2 : wkH hp hp') (h : Tri S P E c ⟨pre' ++ l, hp', nid, []⟩ Q) : Tri S P E c ⟨pre ++ l, hp, nid, d⟩ Q :=
  Tri.preE fun a w hat => ⟨_, at_wk h1 h2 hat, h⟩
end
section
variable {A : Type} {S : Sys A} {P : Program} {E : Ctx A}
theorem TriX.listR {call : FuncId → List SV → HP A → Nat → Tr (CR A)} {R : Nat} (hc : ∀ c, CodeOK S P c (evCode P call R c)) {l : List Code} {st : St A} {Q : VX → St A → Prop} {m n : Nat} {T : Tr (Lf A)}
    (h : ((evList (P := P) call R l st).vmap (Eng.leaf m)).run = T.run)
    (hT : T.All fun l => l.x = .normal ∧ l.len = m + n ∧ l.nid ≤ E.top ∧ (∀ b, b ∈ l.dirty → E.D b) ∧ ∀ js, Q .normal ⟨l.pre ++ junk js n m, l.hp, l.nid, []⟩) : TriX S (listX P l) E st Q := by
  obtain ⟨l, hl, h0, h1, h2, h3, h4⟩ := Tr.all_iff.1 hT
  obtain ⟨js, hr⟩ := run_of_leaf (n := n) (h.trans hl) h1
  have hm : l.pre.length = m := by
    rw [hl] at h
    rw [Tr.run_vmap] at h
    obtain ⟨a, _, rfl⟩ := h
    have h1 : a.2.tm.length = m + n := h1
    show (a.2.tm.take m).length = m
    rw [List.length_take]
    omega
  rw [h0] at hr
  refine TriX.postE (mono_list _) (triX_list hc hr h2 h3) ?_
  rintro x s a w ⟨rfl, rfl⟩ hat
  refine ⟨⟨l.pre ++ junk js n m, l.hp, l.nid, []⟩, ?_, h4 js⟩
  unfold stJ at hat
  rw [hm] at hat
  exact hat
theorem TriX.preWk {X : XF} {pre pre' l : List SV} {hp hp' : HP A} {nid : Nat} {d : List Nat} {Q : VX → St A → Prop} (h1 : wkSs pre pre') (h2 : wkH hp hp') (h : TriX S X E ⟨pre' ++ l, hp', nid, []⟩ Q) : TriX S X E ⟨pre ++ l, hp, nid, d⟩ Q :=
  fun a w ha => h a w (at_wk h1 h2 ha)
end
theorem Tr.all_ite {α : Type} {Q : α → Prop} {c : Bool} {t e : Tr α} (h1 : c = true → t.All Q) (h2 : c = false → e.All Q) : (Tr.ite c t e).All Q := ⟨h1, h2⟩
theorem Tr.all_ok {α : Type} {Q : α → Prop} {a : α} (h : Q a) : (Tr.ok a).All Q := h
/-- What is read of a row. -/
theorem tab_fits {ks : List CK} {xs : List (List Int)} (h : RFits ks xs) {i j : Nat} {k : CK} (hi : i < xs.length) (hk : ks[j]? = some k) : k.fits (tabAt xs i j) := by
  obtain ⟨n, h1, h2⟩ := h i xs[i] (List.getElem?_eq_getElem hi) j k hk
  unfold tabAt
  have : xs.getD i [] = xs[i] := by rw [List.getD_eq_getElem?_getD, List.getElem?_eq_getElem hi]; rfl
  rw [this, List.getD_eq_getElem?_getD, h1]
  exact h2
theorem take_junk {α : Type} (pre l : List α) : (pre ++ l).take pre.length = pre := List.take_left' rfl
theorem len_junk (pre : List SV) (js : Nat → SV) (n m : Nat) : (pre ++ junk js n m).length = pre.length + n := by rw [List.length_append, length_junk]
end Go.Proofs.Ytcolladpdmjloaa.Eng

/-
  The engine, part Zd: functions over objects by the logic; memories that are opened and closed in a state.
-/
namespace Go.Proofs.Ytcolladpdmjloaa.Eng
open Go Go.RowKit
set_option linter.unusedVariables false

section
variable {A : Type} {S : Sys A} {P : Program}
theorem funOK_tri {f : FuncId} {fn : Func} {c : Code} {i : Intr A} (hf : P.funcs[f]? = some fn) (hb : fn.body = some c)
    (h : ∀ args hp nid r, (i args hp nid).run = some r → nid ≤ r.nid ∧ (∀ b o, nid ≤ b → hget r.hp b = some o → b ∈ r.dirty) ∧ ∃ N, r.nid ≤ N ∧ ∀ (E : Ctx A), E.nid0 = nid → E.top = N → (∀ b, nid ≤ b → E.D b) → (∀ b, b ∈ r.dirty → E.D b) →
      Tri S P E c ⟨args ++ List.replicate (fn.ntmps - args.length) .undef, hp, nid, []⟩ fun x st => (x = .normal ∨ x = .ret) ∧ (∀ b, hget st.hp b = hget r.hp b) ∧ st.nid = r.nid ∧ ∃ l, (vresults P st fn.results.toList).run = some l ∧ tupleOf l = r.val) : FunOKz S P f i := by
  intro args hp nid r hrun B ρ F w vargs hhr hargs
  obtain ⟨hle, hdr, N, hN, ht⟩ := h args hp nid r hrun
  have hz : ∀ b, nid ≤ b → ρ b = none := fun b hb => hhr.fresh b hb
  have hn : ∀ b, nid ≤ b → hget hp b = none := fun b hb => by
    cases ho : hget hp b with
    | none => rfl
    | some o => obtain ⟨q, hq⟩ := OK_rho (hhr.live b o ho); rw [hz b hb] at hq; cases hq
  have hF : ∀ b, nid ≤ b → ∀ x, ¬F b x := fun b hb x hx => hhr.dead b (hn b hb) x hx
  let E : Ctx A := { B := B, Z0 := fun k => nid ≤ k, nid0 := nid, top := N, ρ0 := ρ, F0 := F, w0 := w, D := fun b => nid ≤ b ∨ b ∈ r.dirty, own := fun b h1 h2 => ⟨.inl h1, h1⟩, new := hz }
  refine calls_of_wp hf hb ?_
  have hlen : args.length = vargs.length := hargs.length
  have hat : At S E ⟨args ++ List.replicate (fn.ntmps - args.length) .undef, hp, nid, []⟩ ⟨vargs.toArray ++ Array.replicate (fn.ntmps - vargs.toArray.size) undef, []⟩ w := by
    refine ⟨Nat.le_refl _, Nat.le_trans hle hN, ρ, F, ⟨rfl, fun t => ?_⟩, by rw [show E.Z0 = fun k => nid ≤ k from rfl, show E.nid0 = nid from rfl, Zm_self]; exact hhr, Chg.refl _ _ _ _⟩
    have h2 : F2 (RS ρ) (args ++ List.replicate (fn.ntmps - args.length) .undef) (vargs ++ List.replicate (fn.ntmps - vargs.toArray.size) undef) := by
      rw [show vargs.toArray.size = args.length by simp [hlen]]
      exact hargs.append (F2.replicate _ (RS_undef _))
    have h3 : (vargs.toArray ++ Array.replicate (fn.ntmps - vargs.toArray.size) undef)[t]? = (vargs ++ List.replicate (fn.ntmps - vargs.toArray.size) undef)[t]? := by
      rw [← Array.getElem?_toList]
      simp
    show RT _ (args ++ List.replicate (fn.ntmps - args.length) SV.undef)[t]? (vargs.toArray ++ Array.replicate (fn.ntmps - vargs.toArray.size) undef)[t]?
    rw [h3]
    cases hg : (args ++ List.replicate (fn.ntmps - args.length) SV.undef)[t]? with
    | none => rw [h2.getNone t hg]; trivial
    | some v =>
      obtain ⟨u, hu, huv⟩ := h2.get t hg
      rw [hu]
      exact huv
  refine wp_mono (ht E rfl rfl (fun b hb => .inl hb) (fun b hb => .inr hb) _ _ hat) ?_
  rintro e a' w' ⟨x, st, rfl, ⟨hx, hhp, hnid, l, hl, hR⟩, h0, h1, ρ', F', ha, hr, hc⟩
  obtain ⟨vs, hvs, hrs⟩ := vresults_sound ha hr hl
  have hq := results_run hvs
  have hhp' : hget st.hp = hget r.hp := funext hhp
  rw [hnid, hhp'] at hr
  have hc' : Chg (fun b => b ∈ r.dirty) ρ F w ρ' F' w' := by
    refine ⟨hc.rho, fun b hb => ?_, fun b x hb hx => ?_, hc.same, fun k hk hck => hc.heap k hk fun c hc hx => ?_⟩
    · by_cases hbn : nid ≤ b
      · have hrb : hget r.hp b = none := by
          cases ho : hget r.hp b with
          | none => rfl
          | some o => exact absurd (hdr b o hbn ho) hb
        funext x
        exact propext ⟨fun hx => (hr.dead b hrb x hx).elim, fun hx => (hF b hbn x hx).elim⟩
      · exact hc.keep b fun hd => hd.elim hbn hb
    · rcases hc.own b x (.inr hb) hx with h2 | ⟨c, h2, h3⟩
      · exact .inl h2
      · rcases h2 with h2 | h2
        · exact (hF c h2 x h3).elim
        · exact .inr ⟨c, h2, h3⟩
    · rcases hc with h2 | h2
      · exact hF c h2 k hx
      · exact hck c h2 hx
  have : bodyPost P fn (fun e w' => ∃ v ρ' F', e = .returned v ∧ RS ρ' r.val v ∧ HR S B (Zm (fun k => nid ≤ k) nid r.nid) ρ' F' (hget r.hp) w' ∧ Chg (fun b => b ∈ r.dirty) ρ F w ρ' F' w') .normal a' w' :=
    ⟨ha.defers, _, hq, _, ρ', F', rfl, hR ▸ tupleOf_RS hrs, hr, hc'⟩
  rcases hx with rfl | rfl <;> exact this
end

theorem beq_of_pos {n : Nat} (h : 0 < n) : Nat.beq n 0 = false := by
  cases n with
  | zero => omega
  | succ n => rfl
/-! ### Memories in a state -/
def putH (b : Nat) (o : VObj MObj) (dead : List Nat) : HP MObj → HP MObj
  | [] => []
  | (n, q) :: l => match Nat.beq n b with
    | true => (b, some o) :: putH b o dead l
    | false => match memN n dead with
      | true => putH b o dead l
      | false => (n, q) :: putH b o dead l
theorem hget_putH {b : Nat} {o : VObj MObj} {dead : List Nat} : ∀ {hp : HP MObj} (n : Nat), hget (putH b o dead hp) n = if n = b then (if n ∈ hp.map (·.1) then some o else none) else if n ∈ dead then none else hget hp n
  | [], n => by
    simp only [putH, hget, List.map_nil, List.not_mem_nil, if_false]
    split <;> (try split) <;> rfl
  | (k, q) :: l, n => by
    have ih := hget_putH (b := b) (o := o) (dead := dead) (hp := l) n
    simp only [putH]
    cases hb : Nat.beq k b with
    | true =>
      have := Nat.eq_of_beq_eq_true hb
      subst this
      by_cases e : n = k
      · subst e
        simp [hget]
      · rw [hget_ne e, ih, if_neg e, if_neg e, hget_ne e]
    | false =>
      have hkb := Nat.ne_of_beq_eq_false hb
      simp only
      by_cases e : n = b
      · subst e
        have hm : (n ∈ l.map (·.1)) = (n ∈ ((k, q) :: l).map (·.1)) := propext ⟨fun h => List.mem_cons_of_mem _ h, fun h => by
          rcases List.mem_cons.1 h with h | h
          · exact absurd h.symm hkb
          · exact h⟩
        cases memN k dead with
        | true => simp only; rw [ih, if_pos rfl]; simp only [if_true, hm]
        | false => simp only; rw [hget_ne (Ne.symm hkb), ih, if_pos rfl]; simp only [if_true, hm]
      · cases hm : memN k dead with
        | true =>
          have hm := (memN_iff _ _).1 hm
          simp only
          rw [ih, if_neg e, if_neg e]
          by_cases e2 : n ∈ dead
          · rw [if_pos e2, if_pos e2]
          · rw [if_neg e2, if_neg e2, hget_ne (fun h : n = k => e2 (by rw [h]; exact hm))]
        | false =>
          simp only
          by_cases ek : n = k
          · subst ek
            have : n ∉ dead := fun h => by rw [(memN_iff _ _).2 h] at hm; cases hm
            simp [hget, e, this]
          · rw [hget_ne ek, ih, if_neg e, if_neg e, hget_ne ek]
section
variable {tyW tyA : TypeId} {P : Program} {E : Ctx MObj}
/-- Three objects of a state are one memory. -/
theorem at_memfold {tm : List SV} {hp : HP MObj} {nid : Nat} {dirty : List Nat} {a : Act} {w : World} {b x1 x2 : Nat} {ty : TypeId} {xs : List Int} {c t : Int} (hm : IsMem tyW tyA (hget hp) b x1 x2 ty xs c t) (hb : E.D b) (h1 : E.D x1) (h2 : E.D x2)
    (h : At (memSys tyW tyA) E ⟨tm, hp, nid, dirty⟩ a w) : At (memSys tyW tyA) E ⟨tm, putH b (.abs (.mem ty xs c t)) [x1, x2] hp, nid, []⟩ a w := by
  obtain ⟨h0, ht, ρ, F, ha, hr, hch⟩ := h
  have hr : HR (memSys tyW tyA) E.B (Zm E.Z0 E.nid0 nid) ρ F (hget hp) w := hr
  let F' : Fm := fun n => if n = b then (fun x => F b x ∨ F x1 x ∨ F x2 x) else if n = x1 ∨ n = x2 then (fun _ => False) else F n
  have fb : F' b = fun x => F b x ∨ F x1 x ∨ F x2 x := by simp only [F', if_pos]
  have fx : ∀ {n}, n ≠ b → (n = x1 ∨ n = x2) → F' n = fun _ => False := fun {n} e1 e2 => by simp only [F', if_neg e1, if_pos e2]
  have fn : ∀ {n}, n ≠ b → ¬(n = x1 ∨ n = x2) → F' n = F n := fun {n} e1 e2 => by simp only [F', if_neg e1, if_neg e2]
  have hok := mem_fold hr hm (F' b) (fun x => by rw [fb])
  obtain ⟨n1, n2, n3, ⟨n, tr, cs, ts, hob, _⟩, hw⟩ := hm
  have hbin : b ∈ hp.map (·.1) := by
    obtain ⟨q, hq, e, _⟩ := hget_mem hob
    exact List.mem_map.2 ⟨q, hq, e⟩
  have hl : ∀ n, hget (putH b (.abs (.mem ty xs c t)) [x1, x2] hp) n = if n = b then some (.abs (.mem ty xs c t)) else if n = x1 ∨ n = x2 then none else hget hp n := fun n => by
    rw [hget_putH]
    by_cases e : n = b
    · rw [if_pos e, if_pos e, if_pos (e ▸ hbin)]
    · rw [if_neg e, if_neg e]
      by_cases e2 : n = x1 ∨ n = x2
      · rw [if_pos e2, if_pos (by simpa using e2)]
      · rw [if_neg e2, if_neg (by simpa using e2)]
  have src : ∀ m y, F' m y → ∃ d, F d y ∧ ((d = m ∧ ¬(m ≠ b ∧ (m = x1 ∨ m = x2))) ∨ (m = b ∧ (d = x1 ∨ d = x2))) := fun m y hy => by
    by_cases e : m = b
    · subst e
      rw [fb] at hy
      rcases hy with k | k | k
      · exact ⟨_, k, .inl ⟨rfl, fun h => h.1 rfl⟩⟩
      · exact ⟨_, k, .inr ⟨rfl, .inl rfl⟩⟩
      · exact ⟨_, k, .inr ⟨rfl, .inr rfl⟩⟩
    · by_cases e2 : m = x1 ∨ m = x2
      · rw [fx e e2] at hy; exact hy.elim
      · rw [fn e e2] at hy; exact ⟨m, hy, .inl ⟨rfl, fun h => e2 h.2⟩⟩
  refine ⟨h0, ht, ρ, F', ha, ⟨fun n o ho => ?_, fun n hn x hx => ?_, fun n x hx => ?_, fun n n' x hx hx' => ?_, hr.fresh, hr.base⟩, ?_⟩
  · have ho : hget (putH b (.abs (.mem ty xs c t)) [x1, x2] hp) n = some o := ho
    rw [hl] at ho
    by_cases e : n = b
    · rw [if_pos e] at ho
      injection ho with ho
      subst ho e
      exact hok
    · rw [if_neg e] at ho
      by_cases e2 : n = x1 ∨ n = x2
      · rw [if_pos e2] at ho; cases ho
      · rw [if_neg e2] at ho
        rw [fn e e2]
        exact hr.live n o ho
  · have hn : hget (putH b (.abs (.mem ty xs c t)) [x1, x2] hp) n = none := hn
    rw [hl] at hn
    by_cases e : n = b
    · rw [if_pos e] at hn; cases hn
    · rw [if_neg e] at hn
      by_cases e2 : n = x1 ∨ n = x2
      · rw [fx e e2] at hx; exact hx
      · rw [if_neg e2] at hn
        rw [fn e e2] at hx
        exact hr.dead n hn x hx
  · obtain ⟨d, hd, _⟩ := src n x hx
    exact hr.bound d x hd
  · obtain ⟨d, hd, k⟩ := src n x hx
    obtain ⟨d', hd', k'⟩ := src n' x hx'
    have := hr.disj d d' x hd hd'
    subst this
    rcases k with ⟨rfl, k⟩ | ⟨rfl, k⟩ <;> rcases k' with ⟨k1, k'⟩ | ⟨k1, k'⟩
    · exact k1
    · by_cases e : d = n'
      · exact e
      · rw [← k1] at k
        exact absurd ⟨e, k'⟩ k
    · by_cases e : n' = n
      · exact e.symm
      · subst k1
        exact absurd ⟨e, k⟩ k'
    · exact k1.symm
  · refine ⟨hch.rho, fun n hn => ?_, fun n x hD hx => ?_, hch.same, hch.heap⟩
    · have e : n ≠ b := fun e => hn (e ▸ hb)
      have e2 : ¬(n = x1 ∨ n = x2) := fun e2 => hn (e2.elim (fun e => e ▸ h1) fun e => e ▸ h2)
      rw [fn e e2]
      exact hch.keep n hn
    · obtain ⟨d, hd, k⟩ := src n x hx
      refine hch.own d x ?_ hd
      rcases k with ⟨rfl, _⟩ | ⟨_, rfl | rfl⟩
      · exact hD
      · exact h1
      · exact h2
/-- The heap with a memory's three objects. -/
def openH (b : Nat) (ty tyW : TypeId) (xs : List Int) (c t : Int) (nid : Nat) (tr : VV) (o2 : Option (VObj MObj)) (hp : HP MObj) : HP MObj :=
  (match o2 with | none => [] | some o => [(nid + 1, some o)]) ++ (nid, some (.tab [.int .u64] (rowsW xs) tyW)) :: hset hp b (memO ty xs.length c t nid tr)
/-- A memory of a state becomes three objects. -/
theorem at_memopen {tm : List SV} {hp : HP MObj} {nid : Nat} {dirty : List Nat} {a : Act} {w : World} {b : Nat} {ty : TypeId} {xs : List Int} {c t : Int} (hb : hget hp b = some (.abs (.mem ty xs c t))) (hD : E.D b) (htop : nid + 2 ≤ E.top)
    (h : At (memSys tyW tyA) E ⟨tm, hp, nid, dirty⟩ a w) : ∃ tr o2, TrIn tyA (nid + 1) c.toNat tr o2 ∧ (inK .i64 c ∧ inK .i64 t ∧ xs.length ≤ 9223372036854775807 ∧ ∀ x ∈ xs, inK .u64 x) ∧ At (memSys tyW tyA) E ⟨tm, openH b ty tyW xs c t nid tr o2 hp, nid + 2, []⟩ a w := by
  obtain ⟨h0, ht, ρ, F, ha, hr, hch⟩ := h
  have h0 : E.nid0 ≤ nid := h0
  have hr : HR (memSys tyW tyA) E.B (Zm E.Z0 E.nid0 nid) ρ F (hget hp) w := hr
  have hz : ∀ n, nid ≤ n → n < nid + 2 → Zm E.Z0 E.nid0 nid n := fun n h1 h2 => ⟨(E.own n (by omega) (by omega)).2, by omega⟩
  have hDn : ∀ n, nid ≤ n → n < nid + 2 → E.D n := fun n h1 h2 => (E.own n (by omega) (by omega)).1
  obtain ⟨ρ', F', tr, o2, htr, hle, hρ, hhr, hF1, hF2, g1, g2, g3, g4⟩ := mem_unfold (a := b) (y1 := nid) (y2 := nid + 1) (ty := ty) (xs := xs) (c := c) (t := t) hr hb (hz nid (Nat.le_refl _) (by omega)) (hz (nid + 1) (by omega) (by omega)) (by omega)
  have hbn : b ≠ nid ∧ b ≠ nid + 1 := by
    obtain ⟨p, hp⟩ := OK_rho (hr.live b _ hb)
    refine ⟨fun e => ?_, fun e => ?_⟩
    · subst e; rw [hr.fresh b (hz b (Nat.le_refl _) (by omega))] at hp; cases hp
    · subst e; rw [hr.fresh (nid + 1) (hz (nid + 1) (by omega) (by omega))] at hp; cases hp
  have hfree : ∀ n, nid ≤ n → n < nid + 2 → hget hp n = none ∧ ∀ x, ¬F n x := fun n h1 h2 => by
    have hn : hget hp n = none := by
      cases ho : hget hp n with
      | none => rfl
      | some o =>
        obtain ⟨p, hp⟩ := OK_rho (hr.live n o ho)
        rw [hr.fresh n (hz n h1 h2)] at hp
        cases hp
    exact ⟨hn, fun x hx => hr.dead n hn x hx⟩
  have hl : memH (hget hp) b nid (nid + 1) ty tyW xs c t tr o2 = hget (openH b ty tyW xs c t nid tr o2 hp) := by
    funext n
    have key : ∀ m, hget ((nid, some (.tab [.int .u64] (rowsW xs) tyW)) :: hset hp b (memO ty xs.length c t nid tr)) m = if m = nid then some (.tab [.int .u64] (rowsW xs) tyW) else if m = b then some (memO ty xs.length c t nid tr) else hget hp m := fun m => by
      by_cases e : m = nid
      · subst e; simp [hget]
      · rw [hget_ne e, hget_hset, if_neg e]
    unfold openH memH
    have hk1 := hfree (nid + 1) (by omega) (by omega)
    by_cases e0 : n = b
    · subst e0
      rw [if_pos rfl]
      cases o2 with
      | none => simp only [List.nil_append]; rw [key, if_neg hbn.1, if_pos rfl]
      | some o => simp only [List.cons_append, List.nil_append]; rw [hget_ne hbn.2, key, if_neg hbn.1, if_pos rfl]
    · rw [if_neg e0]
      by_cases e1 : n = nid
      · subst e1
        rw [if_pos rfl]
        cases o2 with
        | none => simp only [List.nil_append]; rw [key, if_pos rfl]
        | some o => simp only [List.cons_append, List.nil_append]; rw [hget_ne (by omega), key, if_pos rfl]
      · rw [if_neg e1]
        by_cases e2 : n = nid + 1
        · subst e2
          rw [if_pos rfl]
          cases o2 with
          | none => simp only [List.nil_append]; rw [key, if_neg e1, if_neg e0, hk1.1]
          | some o => simp only [List.cons_append, List.nil_append]; simp [hget]
        · rw [if_neg e2]
          cases o2 with
          | none => simp only [List.nil_append]; rw [key, if_neg e1, if_neg e0]
          | some o => simp only [List.cons_append, List.nil_append]; rw [hget_ne e2, key, if_neg e1, if_neg e0]
  rw [hl] at hhr
  refine ⟨tr, o2, htr, ⟨g1, g2, g3, g4⟩, Nat.le_trans h0 (Nat.le_add_right _ _), htop, ρ', F', ⟨ha.defers, fun t => RT.mono hle (ha.tmps t)⟩, hhr.mono fun n hn => ?_, ?_⟩
  · have h3 : E.Z0 n := hn.1
    have h4 : ¬(E.nid0 ≤ n ∧ n < nid + 2) := hn.2
    exact ⟨⟨h3, by omega⟩, by omega, by omega⟩
  · refine ⟨Rho.le_trans hch.rho hle, fun n hn => ?_, fun n x hDn' hx => ?_, hch.same, hch.heap⟩
    · rw [hF1 n (fun e => hn (e ▸ hD)) (fun e => hn (e ▸ hDn nid (Nat.le_refl _) (by omega))) (fun e => hn (e ▸ hDn (nid + 1) (by omega) (by omega)))]
      exact hch.keep n hn
    · by_cases e0 : n = b
      · subst e0; exact hch.own n x hD ((hF2 x).2 (.inl hx))
      · by_cases e1 : n = nid
        · subst e1; exact hch.own b x hD ((hF2 x).2 (.inr (.inl hx)))
        · by_cases e2 : n = nid + 1
          · subst e2; exact hch.own b x hD ((hF2 x).2 (.inr (.inr hx)))
          · rw [hF1 n e0 e1 e2] at hx
            exact hch.own n x hDn' hx
end
end Go.Proofs.Ytcolladpdmjloaa.Eng
