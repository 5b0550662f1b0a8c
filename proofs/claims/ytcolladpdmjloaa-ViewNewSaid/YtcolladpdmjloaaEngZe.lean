/-
  The engine, part Ze: cells whose names are forgotten; a group is made of one object.
-/
import Derived.Test.YtcolladpdmjloaaEngZd
namespace Go.Proofs.Ytcolladpdmjloaa.Eng
open Go Go.RowKit
set_option linter.unusedVariables false

theorem rawAt_raw {ρ : Rho} {vs : Nat → Value} : ∀ {mask : List Bool} {L : List VV} {cs : List Value} {i : Nat}, mask.length = L.length → F2 (RV ρ) L cs → (∀ n v, cs[n]? = some v → vs (i + n) = v) → F2 (RV ρ) (rawAt vs mask i L) cs
  | [], [], [], i, _, _, _ => by simp [rawAt, F2]
  | [], [], _ :: _, _, _, h, _ => h.elim
  | [], _ :: _, _, _, h, _, _ => by simp at h
  | _ :: _, [], _, _, h, _, _ => by simp at h
  | m :: ms, x :: xs, [], i, _, h, _ => by cases m <;> exact h.elim
  | true :: ms, x :: xs, c :: cs, i, hl, h, hvs => by
    have h0 := hvs 0 c rfl
    refine ⟨?_, rawAt_raw (by simpa using hl) h.2 fun n v hn => by rw [show i + 1 + n = i + (n + 1) by omega]; exact hvs (n + 1) v (by simpa using hn)⟩
    show RV ρ (.raw (vs i)) c
    exact ⟨h0.symm, by rw [show vs i = c from h0]; exact RV.one h.1⟩
  | false :: ms, x :: xs, c :: cs, i, hl, h, hvs => ⟨h.1, rawAt_raw (by simpa using hl) h.2 fun n v hn => by rw [show i + 1 + n = i + (n + 1) by omega]; exact hvs (n + 1) v (by simpa using hn)⟩
section
variable {A : Type} {S : Sys A} {E : Ctx A}
/-- Some cells of an object are values without names. -/
theorem at_forget {tm : List SV} {hp : HP A} {nid : Nat} {dirty : List Nat} {a : Act} {w : World} (b : Nat) (mask : List Bool) {L : List VV} {ty : TypeId} (hb : hget hp b = some (.cells L ty)) (hm : mask.length = L.length)
    (h : At S E ⟨tm, hp, nid, dirty⟩ a w) : ∃ vs : Nat → Value, At S E ⟨tm, hset hp b (.cells (rawAt vs mask 0 L) ty), nid, []⟩ a w := by
  obtain ⟨h0, ht, ρ, F, ha, hr, hch⟩ := h
  have hr : HR S E.B (Zm E.Z0 E.nid0 nid) ρ F (hget hp) w := hr
  obtain ⟨p, arr, hp1, hf, hw, hl⟩ := hr.live b _ hb
  refine ⟨fun i => arr.toList.getD i (.bool false), h0, ht, ρ, F, ha, ⟨fun n o ho => ?_, fun n hn => ?_, hr.bound, hr.disj, hr.fresh, hr.base⟩, hch⟩
  · have ho : hget (hset hp b _) n = some o := ho
    rw [hget_hset] at ho
    by_cases e : n = b
    · rw [if_pos e] at ho
      injection ho with ho
      subst ho e
      refine ⟨p, arr, hp1, hf, hw, rawAt_raw hm hl fun n v hv => ?_⟩
      simp only [Nat.zero_add, List.getD_eq_getElem?_getD, hv, Option.getD_some]
    · rw [if_neg e] at ho
      exact hr.live n o ho
  · have hn : hget (hset hp b _) n = none := hn
    rw [hget_hset] at hn
    by_cases e : n = b
    · rw [if_pos e] at hn; cases hn
    · rw [if_neg e] at hn
      exact hr.dead n hn
end
/-! ### Values in one form -/
def canV : VV → VV
  | .int k s => .int k (.sym s.val)
  | .bool b => .bool (.sym b.val)
  | .sl b off len cap => match len with
    | 0 => .es (Nat.beq cap 0)
    | n + 1 => .sl b off (n + 1) cap
  | .ts b r len cap => .ts b r (.sym len.val) cap
  | v => v
theorem canV_ok {ρ : Rho} {x : VV} {v : Value} (h : RV ρ x v) : RV ρ (canV x) v := by
  cases x with
  | sl b off len cap =>
    cases len with
    | zero =>
      obtain ⟨p, _, hv⟩ := h
      exact ⟨_, _, hv, fun hc => Nat.eq_of_beq_eq_true hc⟩
    | succ n => exact h
  | _ => exact h
def canO {A : Type} : VObj A → VObj A
  | .cells l ty => .cells (l.map canV) ty
  | o => o
def canHP {A : Type} : HP A → HP A
  | [] => []
  | (b, o) :: r => (b, o.map canO) :: canHP r
theorem hget_canHP {A : Type} : ∀ (hp : HP A) (b : Nat), hget (canHP hp) b = (hget hp b).map canO
  | [], _ => rfl
  | (k, o) :: r, b => by
    simp only [canHP, hget]
    cases Nat.beq k b with
    | true => rfl
    | false => exact hget_canHP r b
theorem canVs_ok {ρ : Rho} : ∀ {l : List VV} {vs : List Value}, F2 (RV ρ) l vs → F2 (RV ρ) (l.map canV) vs
  | [], [], _ => trivial
  | _ :: _, _ :: _, h => ⟨canV_ok h.1, canVs_ok h.2⟩
  | [], _ :: _, h => h.elim
  | _ :: _, [], h => h.elim
theorem at_can {A : Type} {S : Sys A} {E : Ctx A} {tm : List SV} {hp : HP A} {nid : Nat} {dirty : List Nat} {a : Act} {w : World} (h : At S E ⟨tm, hp, nid, dirty⟩ a w) : At S E ⟨tm, canHP hp, nid, []⟩ a w := by
  obtain ⟨h0, ht, ρ, F, ha, hr, hch⟩ := h
  have hr : HR S E.B (Zm E.Z0 E.nid0 nid) ρ F (hget hp) w := hr
  refine ⟨h0, ht, ρ, F, ha, ⟨fun n o ho => ?_, fun n hn => ?_, hr.bound, hr.disj, hr.fresh, hr.base⟩, hch⟩
  · have ho : hget (canHP hp) n = some o := ho
    rw [hget_canHP] at ho
    obtain ⟨o', ho', rfl⟩ := Option.map_eq_some_iff.1 ho
    have := hr.live n o' ho'
    cases o' with
    | cells l ty =>
      obtain ⟨p, arr, h1, h2, h3, h4⟩ := this
      exact ⟨p, arr, h1, h2, h3, canVs_ok h4⟩
    | tab ks xs ty => exact this
    | rotab ks xs => exact this
    | abs a => exact this
  · have hn : hget (canHP hp) n = none := hn
    rw [hget_canHP] at hn
    exact hr.dead n (Option.map_eq_none_iff.1 hn)
section
variable {tyW tyA : TypeId} {E : Ctx MObj}
/-- An object of cells that have no names is a group. -/
theorem at_grpfold {tm : List SV} {hp : HP MObj} {nid : Nat} {dirty : List Nat} {a : Act} {w : World} {b : Nat} {L : List VV} {ty : TypeId} {g : HP Unit} (hb : hget hp b = some (.cells L ty)) (hL : L.flatMap vvIds = []) (hg : ∀ n, hget g n = hget [(0, some (VObj.cells L ty))] n)
    (h : At (memSys tyW tyA) E ⟨tm, hp, nid, dirty⟩ a w) : At (memSys tyW tyA) E ⟨tm, hset hp b (.abs (.grp g)), nid, []⟩ a w := by
  obtain ⟨h0, ht, ρ, F, ha, hr, hch⟩ := h
  have hr : HR (memSys tyW tyA) E.B (Zm E.Z0 E.nid0 nid) ρ F (hget hp) w := hr
  obtain ⟨p, arr, hp1, hf, hw, hl⟩ := hr.live b _ hb
  refine ⟨h0, ht, ρ, F, ha, ⟨fun n o ho => ?_, fun n hn => ?_, hr.bound, hr.disj, hr.fresh, hr.base⟩, hch⟩
  · have ho : hget (hset hp b _) n = some o := ho
    rw [hget_hset] at ho
    by_cases e : n = b
    · rw [if_pos e] at ho
      injection ho with ho
      subst ho e
      refine ⟨p, hp1, fun _ => some p, fun m => if m = 0 then F n else fun _ => False, p, rfl, rfl, fun m o hm => ?_, fun m hm x hx => ?_, fun m m' x hx hx' => ?_, fun x => ?_⟩
      · rw [hg] at hm
        match m, hm with
        | 0, hm =>
          injection hm with hm
          subst hm
          refine ⟨p, arr, rfl, ?_, hw, RVs_agree (ρ := ρ) (fun n hn => by rw [hL] at hn; cases hn) hl⟩
          simpa using hf
        | m + 1, hm => cases hm
      · rw [hg] at hm
        match m, hm, hx with
        | 0, hm, _ => cases hm
        | m + 1, _, hx => simp at hx
      · match m, m', hx, hx' with
        | 0, 0, _, _ => rfl
        | 0, m' + 1, _, hx' => simp at hx'
        | m + 1, _, hx, _ => simp at hx
      · constructor
        · intro hx; exact ⟨0, by simpa using hx⟩
        · rintro ⟨m, hx⟩
          match m, hx with
          | 0, hx => simpa using hx
          | m + 1, hx => simp at hx
    · rw [if_neg e] at ho
      exact hr.live n o ho
  · have hn : hget (hset hp b _) n = none := hn
    rw [hget_hset] at hn
    by_cases e : n = b
    · rw [if_pos e] at hn; cases hn
    · rw [if_neg e] at hn
      exact hr.dead n hn
end
end Go.Proofs.Ytcolladpdmjloaa.Eng
