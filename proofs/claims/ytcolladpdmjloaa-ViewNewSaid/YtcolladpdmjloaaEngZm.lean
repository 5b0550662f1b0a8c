/-
  The engine, part Zm: slots given another form one by one; a group of one object without names is laid open.
-/
import Derived.Test.YtcolladpdmjloaaEngZe
import Derived.Test.YtcolladpdmjloaaEngZh
namespace Go.Proofs.Ytcolladpdmjloaa.Eng
open Go Go.RowKit
set_option linter.unusedVariables false
set_option linter.unusedSimpArgs false
theorem wkV_refl : ∀ x : VV, wkV x x
  | .int _ _ => ⟨rfl, rfl⟩
  | .bool _ => rfl
  | .sl _ _ _ _ => rfl
  | .ts _ _ _ _ => ⟨rfl, rfl, rfl, rfl⟩
  | .ptr _ _ => rfl
  | .nilp => rfl
  | .tptr _ _ _ => rfl
  | .nils => rfl
  | .es _ => rfl
  | .an _ _ => rfl
  | .fn _ _ _ => rfl
  | .nilf => rfl
  | .raw _ => rfl
  | .any => rfl
theorem wkVs_refl : ∀ l : List VV, wkVs l l
  | [] => trivial
  | x :: l => ⟨wkV_refl x, wkVs_refl l⟩
theorem wk1_refl : ∀ x : S1, wk1 x x
  | .one x => wkV_refl x
  | .agg l => wkVs_refl l
theorem wk1s_refl : ∀ l : List S1, wk1s l l
  | [] => trivial
  | x :: l => ⟨wk1_refl x, wk1s_refl l⟩
theorem wkS_refl : ∀ x : SV, wkS x x
  | .s x => wk1_refl x
  | .t l => wk1s_refl l
theorem wkSs_refl : ∀ l : List SV, wkSs l l
  | [] => trivial
  | x :: l => ⟨wkS_refl x, wkSs_refl l⟩
theorem wkSs_app : ∀ {a b c d : List SV}, wkSs a b → wkSs c d → wkSs (a ++ c) (b ++ d)
  | [], [], _, _, _, h => h
  | _ :: _, _ :: _, _, _, h, k => ⟨h.1, wkSs_app h.2 k⟩
  | [], _ :: _, _, _, h, _ => h.elim
  | _ :: _, [], _, _, h, _ => h.elim
section
variable {A : Type} {S : Sys A} {E : Ctx A}
theorem at_slots {p p' l : List SV} {hp : HP A} {nid : Nat} {d d' : List Nat} {a : Act} {w : World} (h : wkSs p p') (hat : At S E ⟨p ++ l, hp, nid, d⟩ a w) : At S E ⟨p' ++ l, hp, nid, d'⟩ a w :=
  weak_tm (tm_weak h) a w hat
/-- A branch whose test is known. -/
theorem Tri.cond {P : Program} {t : Nat} {a b : Code} {st : St A} {Q : VX → St A → Prop} (y : Bool) (h : st.tm[t]? = some (.v (.bool (.lit y)))) (ht : Tri S P E (_root_.cond y a b) st Q) : Tri S P E (.cond (.tmp t) a b) st Q := by
  intro ac w ha
  have ha' := ha
  obtain ⟨h0, h1, ρ, F, hra, hr, hch⟩ := ha
  have he := hra.tmps t
  have he : RT ρ st.tm[t]? ac.tmps[t]? := he
  rw [h] at he
  have e : ac.eval (.tmp t) = .bool y := by
    unfold Act.eval
    cases hv : ac.tmps[t]? with
    | none => rw [hv] at he; exact he.elim
    | some v =>
      rw [hv] at he
      have he : v = .bool (SB.lit y).val := he
      simp [Array.getD_eq_getD_getElem?, hv, he, SB.val]
  cases y with
  | true => exact wp_cond_true e (ht ac w ha')
  | false => exact wp_cond_false e (ht ac w ha')
/-- One slot in another form. -/
theorem at_slot (p : List SV) {x y : SV} {l : List SV} {hp : HP A} {nid : Nat} {d d' : List Nat} {a : Act} {w : World} (h : wkS x y) (hat : At S E ⟨p ++ (x :: l), hp, nid, d⟩ a w) : At S E ⟨p ++ (y :: l), hp, nid, d'⟩ a w := by
  have h1 : At S E ⟨(p ++ [x]) ++ l, hp, nid, d⟩ a w := by rw [List.append_assoc]; exact hat
  have h2 := at_slots (d' := d') (wkSs_app (wkSs_refl p) (show wkSs [x] [y] from ⟨h, trivial⟩)) h1
  rw [List.append_assoc] at h2
  exact h2
end
section
variable {tyW tyA : TypeId} {E : Ctx MObj}
/-- A group of one object whose cells have no names. -/
theorem at_grpopen0 {tm : List SV} {hp : HP MObj} {nid : Nat} {dirty : List Nat} {a : Act} {w : World} {b : Nat} {L : List VV} {ty : TypeId} {g : HP Unit} (hb : hget hp b = some (.abs (.grp g))) (hL : L.flatMap vvIds = []) (hg : ∀ n, hget g n = hget [(0, some (VObj.cells L ty))] n)
    (h : At (memSys tyW tyA) E ⟨tm, hp, nid, dirty⟩ a w) : At (memSys tyW tyA) E ⟨tm, hset hp b (.cells L ty), nid, []⟩ a w := by
  obtain ⟨h0, ht, ρ, F, ha, hr, hch⟩ := h
  have hr : HR (memSys tyW tyA) E.B (Zm E.Z0 E.nid0 nid) ρ F (hget hp) w := hr
  obtain ⟨p, hpb, ρg, Gg, pg, hpg, hblk, hlive, hdead, hdisj, hFx⟩ := hr.live b _ hb
  obtain ⟨pg', arr, hpg', hGf, hwp, hLa⟩ := hlive 0 _ ((hg 0).trans rfl)
  rw [hpg] at hpg'
  injection hpg' with hpg'
  subst hpg'
  refine ⟨h0, ht, ρ, F, ha, ⟨fun n o ho => ?_, fun n hn => ?_, hr.bound, hr.disj, hr.fresh, hr.base⟩, hch⟩
  · have ho : hget (hset hp b _) n = some o := ho
    rw [hget_hset] at ho
    by_cases e : n = b
    · rw [if_pos e] at ho
      injection ho with ho
      subst ho e
      refine ⟨p, arr, hpb, fun x => ?_, by rw [← hblk]; exact hwp, RVs_agree (ρ := ρg) (fun n hn => by rw [hL] at hn; cases hn) hLa⟩
      rw [hFx, ← hblk, ← hGf]
      constructor
      · rintro ⟨m, hx⟩
        match m, hx with
        | 0, hx => exact hx
        | m + 1, hx => exact (hdead (m + 1) ((hg (m + 1)).trans rfl) x hx).elim
      · intro hx; exact ⟨0, hx⟩
    · rw [if_neg e] at ho
      exact hr.live n o ho
  · have hn : hget (hset hp b _) n = none := hn
    rw [hget_hset] at hn
    by_cases e : n = b
    · rw [if_pos e] at hn; cases hn
    · rw [if_neg e] at hn
      exact hr.dead n hn
end
end Go.Proofs.Ytcolladpdmjloaa.Eng
