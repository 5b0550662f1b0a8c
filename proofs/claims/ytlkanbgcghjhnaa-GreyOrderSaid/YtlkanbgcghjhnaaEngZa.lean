/-
  The engine, part Za: groups: an object that hides objects of its own; a part of it is opened, worked with, and hidden again.
-/
import Derived.Test.YtlkanbgcghjhnaaEngZ
namespace Go.Proofs.Ytlkanbgcghjhnaa.Eng
open Go Go.RowKit
set_option linter.unusedVariables false

/-! ### Masks -/
def rawAt (vs : Nat → Value) : List Bool → Nat → List VV → List VV
  | m :: ms, i, x :: xs => (match m with | true => .raw (vs i) | false => x) :: rawAt vs ms (i + 1) xs
  | _, _, _ => []
def mixAt : List Bool → List VV → List VV → List VV
  | m :: ms, x :: xs, y :: ys => (match m with | true => x | false => y) :: mixAt ms xs ys
  | _, _, _ => []
def renMask (r : List (Nat × Nat)) : List Bool → List VV → Option (List VV)
  | true :: ms, _ :: xs => (renMask r ms xs).map (.nilp :: ·)
  | false :: ms, x :: xs => match renVV r x, renMask r ms xs with
    | some y, some l => some (y :: l)
    | _, _ => none
  | [], [] => some []
  | _, _ => none
theorem rawAt_ok {r : List (Nat × Nat)} {ρ ρ' : Rho} (hr : Renames r ρ ρ') {vs : Nat → Value} : ∀ {mask : List Bool} {L Lr : List VV} {cs : List Value} {i : Nat}, renMask r mask L = some Lr → F2 (RV ρ) L cs → (∀ n v, cs[n]? = some v → vs (i + n) = v) →
    F2 (RV ρ') (rawAt vs mask i Lr) cs
  | [], [], Lr, [], i, h, _, _ => by simp [rawAt, F2]
  | [], [], _, _ :: _, _, _, h, _ => h.elim
  | [], _ :: _, _, _, _, h, _, _ => by simp [renMask] at h
  | true :: _, [], _, _, _, h, _, _ => by simp [renMask] at h
  | false :: _, [], _, _, _, h, _, _ => by simp [renMask] at h
  | true :: ms, x :: xs, Lr, [], i, h, hv, _ => hv.elim
  | false :: ms, x :: xs, Lr, [], i, h, hv, _ => hv.elim
  | true :: ms, x :: xs, Lr, c :: cs, i, h, hv, hvs => by
    simp only [renMask, Option.map_eq_some_iff] at h
    obtain ⟨l, hl, rfl⟩ := h
    have h0 := hvs 0 c rfl
    refine ⟨?_, rawAt_ok hr hl hv.2 fun n v hn => ?_⟩
    · show RV ρ' (.raw (vs i)) c
      exact ⟨h0.symm, by rw [show vs i = c from h0]; exact RV.one hv.1⟩
    · rw [show i + 1 + n = i + (n + 1) by omega]; exact hvs (n + 1) v (by simpa using hn)
  | false :: ms, x :: xs, Lr, c :: cs, i, h, hv, hvs => by
    simp only [renMask] at h
    split at h
    · rename_i y l hy hl
      injection h with h
      subst h
      refine ⟨renVV_ok hr hy hv.1, rawAt_ok hr hl hv.2 fun n v hn => ?_⟩
      rw [show i + 1 + n = i + (n + 1) by omega]; exact hvs (n + 1) v (by simpa using hn)
    · cases h
theorem mixAt_ok {r : List (Nat × Nat)} {ρ0 ρ ρ' : Rho} (hr : Renames r ρ ρ') {vs : Nat → Value} : ∀ {mask : List Bool} {L L1 Lr : List VV} {cs ds : List Value} {i : Nat}, renMask r mask L1 = some Lr → F2 (RV ρ0) L cs → (∀ n v, cs[n]? = some v → vs (i + n) = v) →
    F2 (RV ρ) (rawAt vs mask i L1) ds → mask.length = L.length → (∀ (n : Nat) x v, mask[n]? = some true → L[n]? = some x → RV ρ0 x v → RV ρ' x v) → F2 (RV ρ') (mixAt mask L Lr) ds
  | [], [], L1, Lr, cs, ds, i, h, h0, hvs, hd, hm, hx => by
    cases L1 with
    | nil => injection h with h; subst h; cases ds with
      | nil => trivial
      | cons d ds => exact hd.elim
    | cons x xs => simp [renMask] at h
  | [], _ :: _, _, _, _, _, _, _, _, _, _, hm, _ => by simp at hm
  | _ :: _, [], _, _, _, _, _, _, _, _, _, hm, _ => by simp at hm
  | m :: ms, x :: xs, [], Lr, cs, ds, i, h, _, _, _, _, _ => by cases m <;> simp [renMask] at h
  | m :: ms, x :: xs, y :: ys, Lr, [], ds, i, h, h0, hvs, hd, hm, hx => h0.elim
  | m :: ms, x :: xs, y :: ys, Lr, c :: cs, [], i, h, h0, hvs, hd, hm, hx => by cases m <;> exact hd.elim
  | true :: ms, x :: xs, y :: ys, Lr, c :: cs, d :: ds, i, h, h0, hvs, hd, hm, hx => by
    simp only [renMask, Option.map_eq_some_iff] at h
    obtain ⟨l, hl, rfl⟩ := h
    have e0 := hvs 0 c rfl
    have hd1 : d = vs i := hd.1.1
    refine ⟨?_, mixAt_ok hr hl h0.2 (fun n v hn => by rw [show i + 1 + n = i + (n + 1) by omega]; exact hvs (n + 1) v (by simpa using hn)) hd.2 (by simpa using hm) fun n z v hn hz => hx (n + 1) z v (by simpa using hn) (by simpa using hz)⟩
    show RV ρ' x d
    rw [hd1, show vs i = c from e0]
    exact hx 0 x c rfl rfl h0.1
  | false :: ms, x :: xs, y :: ys, Lr, c :: cs, d :: ds, i, h, h0, hvs, hd, hm, hx => by
    simp only [renMask] at h
    split at h
    · rename_i z l hz hl
      injection h with h
      subst h
      refine ⟨renVV_ok hr hz hd.1, mixAt_ok hr hl h0.2 (fun n v hn => by rw [show i + 1 + n = i + (n + 1) by omega]; exact hvs (n + 1) v (by simpa using hn)) hd.2 (by simpa using hm) fun n z v hn hz => hx (n + 1) z v (by simpa using hn) (by simpa using hz)⟩
    · cases h

/-! ### Places that are the same for the names that a value has -/
theorem RP_agree {ρ ρ' : Rho} {q : Nat × Nat} {v : Value} (h : ρ' q.1 = ρ q.1) : RP ρ q v → RP ρ' q v
  | ⟨p, hp, hv⟩ => ⟨p, h.trans hp, hv⟩
theorem RPs_agree {ρ ρ' : Rho} : ∀ {l : List (Nat × Nat)} {vs : List Value}, (∀ n ∈ l.map (·.1), ρ' n = ρ n) → F2 (RP ρ) l vs → F2 (RP ρ') l vs
  | [], [], _, _ => trivial
  | q :: l, v :: vs, h, hv => ⟨RP_agree (h q.1 (by simp)) hv.1, RPs_agree (fun n hn => h n (by simp at hn ⊢; exact .inr hn)) hv.2⟩
  | [], _ :: _, _, hv => hv.elim
  | _ :: _, [], _, hv => hv.elim
theorem RV_agree {ρ ρ' : Rho} {x : VV} {v : Value} (h : ∀ n ∈ vvIds x, ρ' n = ρ n) (hv : RV ρ x v) : RV ρ' x v := by
  cases x with
  | ptr b off => exact RP_agree (h b (by simp [vvIds])) hv
  | tptr b r c => obtain ⟨p, hp, hx⟩ := hv; exact ⟨p, (h b (by simp [vvIds])).trans hp, hx⟩
  | sl b off len cap => obtain ⟨p, hp, hx⟩ := hv; exact ⟨p, (h b (by simp [vvIds])).trans hp, hx⟩
  | ts b r len cap => obtain ⟨p, hp, hx⟩ := hv; exact ⟨p, (h b (by simp [vvIds])).trans hp, hx⟩
  | an b len =>
    obtain ⟨o, cap, h1, h2, h3, h4⟩ := hv
    exact ⟨o, cap, h1, h2, h3, fun hl => by obtain ⟨p, hp, ho⟩ := h4 hl; exact ⟨p, (h b (by simp [vvIds])).trans hp, ho⟩⟩
  | fn f a c =>
    obtain ⟨va, vc, h1, h2, h3⟩ := hv
    simp only [vvIds] at h
    exact ⟨va, vc, RPs_agree (fun n hn => h n (by rw [List.map_append]; exact List.mem_append_left _ hn)) h1, RPs_agree (fun n hn => h n (by rw [List.map_append]; exact List.mem_append_right _ hn)) h2, h3⟩
  | int k n => exact hv
  | bool b => exact hv
  | nilp => exact hv
  | nils => exact hv
  | es f => exact hv
  | nilf => exact hv
  | raw y => exact hv
theorem RVs_agree {ρ ρ' : Rho} : ∀ {l : List VV} {vs : List Value}, (∀ n ∈ l.flatMap vvIds, ρ' n = ρ n) → F2 (RV ρ) l vs → F2 (RV ρ') l vs
  | [], [], _, _ => trivial
  | x :: l, v :: vs, h, hv => ⟨RV_agree (fun n hn => h n (by rw [List.flatMap_cons]; exact List.mem_append_left _ hn)) hv.1, RVs_agree (fun n hn => h n (by rw [List.flatMap_cons]; exact List.mem_append_right _ hn)) hv.2⟩
  | [], _ :: _, _, hv => hv.elim
  | _ :: _, [], _, hv => hv.elim
theorem OK_agree {A : Type} {S : Sys A} {B : Nat} {ρ ρ' : Rho} {F : Nat → Prop} {b : Nat} {o : VObj A} {w : World} (hb : ρ' b = ρ b) (h : ∀ n ∈ objIds o, ρ' n = ρ n) (ho : OK S B ρ F b o w) : OK S B ρ' F b o w := by
  cases o with
  | cells l ty =>
    obtain ⟨p, arr, hp, hf, hw, hl⟩ := ho
    exact ⟨p, arr, hb.trans hp, hf, hw, RVs_agree h hl⟩
  | tab ks xs ty => obtain ⟨p, arr, hp, rest⟩ := ho; exact ⟨p, arr, hb.trans hp, rest⟩
  | rotab ks xs => obtain ⟨p, hp, rest⟩ := ho; exact ⟨p, hb.trans hp, rest⟩
  | abs a => obtain ⟨p, hp, rest⟩ := ho; exact ⟨p, hb.trans hp, rest⟩

/-! ### Heaps as lists -/
section
variable {A : Type}
def oor {α : Type} (a b : Option α) : Option α := match a with
  | some x => some x
  | none => b
theorem hget_ne {k n : Nat} (h : n ≠ k) (o : Option (VObj A)) (l : HP A) : hget ((k, o) :: l) n = hget l n := by
  have h3 : Nat.beq k n = false := by
    cases h4 : Nat.beq k n with
    | false => rfl
    | true => exact absurd (Nat.eq_of_beq_eq_true h4).symm h
  simp only [hget, h3]
theorem hget_app {l : HP A} (hl : ∀ p ∈ l, p.2.isSome = true) (m : HP A) (n : Nat) : hget (l ++ m) n = oor (hget l n) (hget m n) := by
  induction l with
  | nil => rfl
  | cons p l ih =>
    obtain ⟨k, o⟩ := p
    simp only [List.cons_append, hget]
    cases hb : Nat.beq k n with
    | true =>
      have := hl (k, o) (List.mem_cons_self ..)
      cases o with
      | none => cases this
      | some o => rfl
    | false => exact ih fun p hp => hl p (List.mem_cons_of_mem _ hp)
theorem renHP_some {r : List (Nat × Nat)} {hp : HP A} : ∀ {l : List (Nat × Nat)} {hp' : HP A}, renHP r hp l = some hp' → ∀ p ∈ hp', p.2.isSome = true
  | [], hp', h, p, hp => by injection h with h; subst h; cases hp
  | (o, n) :: l, hp', h, p, hp => by
    unfold renHP at h
    split at h
    · exact renHP_some h p hp
    · split at h
      · rename_i x' l' h1 h2
        injection h with h
        subst h
        rcases List.mem_cons.1 hp with rfl | hp
        · rfl
        · exact renHP_some h2 p hp
      · cases h
end
def upHP : HP Unit → HP MObj
  | [] => []
  | (k, o) :: l => (k, o.map ofU) :: upHP l
theorem hget_upHP : ∀ (g : HP Unit) (n : Nat), hget (upHP g) n = (hget g n).map ofU
  | [], _ => rfl
  | (k, o) :: l, n => by
    simp only [upHP, hget]
    cases Nat.beq k n with
    | true => rfl
    | false => exact hget_upHP l n
def dnHP : HP MObj → HP Unit
  | [] => []
  | (k, o) :: l => (k, o.map toU) :: dnHP l
theorem hget_dnHP : ∀ (g : HP MObj) (n : Nat), hget (dnHP g) n = (hget g n).map toU
  | [], _ => rfl
  | (k, o) :: l, n => by
    simp only [dnHP, hget]
    cases Nat.beq k n with
    | true => rfl
    | false => exact hget_dnHP l n
theorem dnHP_some : ∀ {g : HP MObj}, (∀ p ∈ g, p.2.isSome = true) → ∀ p ∈ dnHP g, p.2.isSome = true
  | [], _, p, hp => by cases hp
  | (k, o) :: l, h, p, hp => by
    simp only [dnHP, List.mem_cons] at hp
    rcases hp with rfl | hp
    · have := h (k, o) (List.mem_cons_self ..)
      simp only [Option.isSome_map]
      exact this
    · exact dnHP_some (fun q hq => h q (List.mem_cons_of_mem _ hq)) p hp
/-- Objects of cells and tables alone. -/
def plainO : Option (VObj MObj) → Bool
  | some (.cells _ _) => true
  | some (.tab _ _ _) => true
  | _ => false
theorem ofU_ok {tyW tyA : TypeId} {B : Nat} {ρ : Rho} {F : Nat → Prop} {b : Nat} {o : VObj Unit} {w : World} (h : OK emptySys 0 ρ F b o w) : OK (memSys tyW tyA) B ρ F b (ofU o) w := by
  cases o with
  | cells l ty => exact h
  | tab ks xs ty => exact h
  | rotab ks xs =>
    obtain ⟨p, h1, h2, h3, h4⟩ := h
    exact ⟨p, h1, h2, h3, fun hn => by obtain ⟨_, _, _, h5, _⟩ := h4 hn; exact absurd h5 (Nat.not_lt_zero _)⟩
  | abs a =>
    obtain ⟨p, h1, h2⟩ := h
    exact h2.elim
theorem toU_ok {tyW tyA : TypeId} {B : Nat} {ρ : Rho} {F : Nat → Prop} {b : Nat} {o : VObj MObj} {w : World} (hp : plainO (some o) = true) (h : OK (memSys tyW tyA) B ρ F b o w) : OK emptySys 0 ρ F b (toU o) w := by
  cases o with
  | cells l ty => exact h
  | tab ks xs ty => exact h
  | rotab ks xs => cases hp
  | abs a => cases hp
def closeH (b : Nat) (g' : HP Unit) (pubs : List Nat) : HP MObj → HP MObj
  | [] => []
  | (n, o) :: l => match Nat.beq n b with
    | true => (b, some (.abs (.grp g'))) :: closeH b g' pubs l
    | false => match memN n pubs with
      | true => closeH b g' pubs l
      | false => (n, o) :: closeH b g' pubs l
theorem hget_closeH {b : Nat} {g' : HP Unit} {pubs : List Nat} : ∀ {hp : HP MObj} (n : Nat), hget (closeH b g' pubs hp) n = if n = b then (if n ∈ hp.map (·.1) then some (.abs (.grp g')) else none) else if n ∈ pubs then none else hget hp n
  | [], n => by
    simp only [closeH, hget, List.map_nil, List.not_mem_nil, if_false]
    split <;> (try split) <;> rfl
  | (k, o) :: l, n => by
    have ih := hget_closeH (b := b) (g' := g') (pubs := pubs) (hp := l) n
    simp only [closeH]
    cases hb : Nat.beq k b with
    | true =>
      have := Nat.eq_of_beq_eq_true hb
      subst this
      simp only [hget]
      cases hn : Nat.beq k n with
      | true =>
        have := Nat.eq_of_beq_eq_true hn
        subst this
        simp
      | false =>
        have hne := Nat.ne_of_beq_eq_false hn
        simp only
        rw [ih, if_neg (Ne.symm hne), if_neg (Ne.symm hne)]
    | false =>
      have hkb := Nat.ne_of_beq_eq_false hb
      simp only
      cases hm : memN k pubs with
      | true =>
        have hm := (memN_iff _ _).1 hm
        simp only
        rw [ih]
        by_cases e : n = b
        · subst e
          rw [if_pos rfl, if_pos rfl]
          have : (n ∈ l.map (·.1)) = (n ∈ ((k, o) :: l).map (·.1)) := propext ⟨fun h => List.mem_cons_of_mem _ h, fun h => by
            rcases List.mem_cons.1 h with h | h
            · exact absurd h.symm hkb
            · exact h⟩
          simp only [this]
        · rw [if_neg e, if_neg e]
          by_cases e2 : n ∈ pubs
          · rw [if_pos e2, if_pos e2]
          · rw [if_neg e2, if_neg e2]
            have : k ≠ n := fun h => e2 (h ▸ hm)
            have h3 : Nat.beq k n = false := by
              cases h4 : Nat.beq k n with
              | false => rfl
              | true => exact absurd (Nat.eq_of_beq_eq_true h4) this
            simp only [hget, h3]
      | false =>
        simp only [hget]
        cases hn : Nat.beq k n with
        | true =>
          have := Nat.eq_of_beq_eq_true hn
          subst this
          have : ¬ k ∈ pubs := fun h => by rw [(memN_iff _ _).2 h] at hm; cases hm
          rw [if_neg hkb, if_neg this]
        | false =>
          have hne := Nat.ne_of_beq_eq_false hn
          simp only
          rw [ih]
          by_cases e : n = b
          · subst e
            rw [if_pos rfl, if_pos rfl]
            have : (n ∈ l.map (·.1)) = (n ∈ ((k, o) :: l).map (·.1)) := propext ⟨fun h => List.mem_cons_of_mem _ h, fun h => by
              rcases List.mem_cons.1 h with h | h
              · exact absurd h.symm hne
              · exact h⟩
            simp only [this]
          · rw [if_neg e, if_neg e]
end Go.Proofs.Ytlkanbgcghjhnaa.Eng
