/-
  The engine: several of its parts in one text.
-/
import Derived.Test.YtcolladpdmjloaaEngV
/-
  The engine, part X: a function's contract for objects with given names holds for objects with any names.
-/
namespace Go.Proofs.Ytcolladpdmjloaa.Eng
open Go Go.RowKit

def numb : List Nat → Nat → List (Nat × Nat)
  | [], _ => []
  | b :: r, k => (b, k) :: numb r (k + 1)
def bmun : List Nat → Nat → List (Nat × Nat)
  | [], _ => []
  | b :: r, k => (k, b) :: bmun r (k + 1)
def news : Nat → Nat → Nat → List (Nat × Nat)
  | 0, _, _ => []
  | n + 1, a, b => (a, b) :: news n (a + 1) (b + 1)
section
variable {A : Type}
def backD (r : List (Nat × Nat)) (hp : HP A) : List Nat → Option (HP A)
  | [] => some []
  | k :: l => match rlook r k, backD r hp l with
    | some b, some rest => match hget hp k with
      | none => some ((b, none) :: rest)
      | some x => match renObj r x with
        | some x' => some ((b, some x') :: rest)
        | none => none
    | _, _ => none
/-- A function of objects 0, 1, 2.. as a function of objects with any names: the names are given in the order in which the arguments lead to them. -/
def renI (i : Intr A) : Intr A := fun args hp nid =>
  let R := reach hp 1000 (args.flatMap svIds) []
  .chk (nodupB R && R.all (fun b => Nat.blt b nid && (hget hp b).isSome)) "contract: names" <|
  .opt "contract: arguments" (renSVs (numb R 0) args) fun args' =>
  .opt "contract: heap" (renHP (numb R 0) hp (numb R 0)) fun hp' =>
  (i args' hp' R.length).bind fun c =>
  .chk (Nat.ble R.length c.nid) "contract: next name" <|
  .opt "contract: value" (renSV (bmun R 0 ++ news (c.nid - R.length) R.length nid) c.val) fun v =>
  .opt "contract: objects" (backD (bmun R 0 ++ news (c.nid - R.length) R.length nid) c.hp c.dirty) fun as =>
  .ok ⟨v, hputs hp as, as.map (·.1), nid + (c.nid - R.length)⟩

theorem rlook_append (l m : List (Nat × Nat)) (k : Nat) : rlook (l ++ m) k = match rlook l k with | some b => some b | none => rlook m k := by
  induction l with
  | nil => rfl
  | cons p l ih =>
    obtain ⟨o, n⟩ := p
    simp only [List.cons_append, rlook]
    cases Nat.beq o k with
    | true => rfl
    | false => exact ih
theorem rlook_bmun : ∀ (R : List Nat) (a k : Nat), rlook (bmun R a) k = if a ≤ k then R[k - a]? else none
  | [], a, k => by simp [bmun, rlook]
  | b :: R, a, k => by
    simp only [bmun, rlook]
    cases h : Nat.beq a k with
    | true =>
      have := Nat.eq_of_beq_eq_true h
      subst this
      simp
    | false =>
      have hne := Nat.ne_of_beq_eq_false h
      simp only
      rw [rlook_bmun R (a + 1) k]
      by_cases hk : a ≤ k
      · rw [if_pos hk, if_pos (by omega)]
        rw [show k - a = (k - (a + 1)) + 1 by omega, List.getElem?_cons_succ]
      · rw [if_neg hk, if_neg (by omega)]
theorem rlook_news : ∀ (n a b k : Nat), rlook (news n a b) k = if a ≤ k ∧ k < a + n then some (b + (k - a)) else none
  | 0, a, b, k => by
    rw [if_neg (by omega)]
    rfl
  | n + 1, a, b, k => by
    simp only [news, rlook]
    cases h : Nat.beq a k with
    | true =>
      have := Nat.eq_of_beq_eq_true h
      subst this
      simp
    | false =>
      have hne := Nat.ne_of_beq_eq_false h
      simp only
      rw [rlook_news n (a + 1) (b + 1) k]
      by_cases hk : a ≤ k ∧ k < a + (n + 1)
      · rw [if_pos hk, if_pos (by omega)]
        congr 1
        omega
      · rw [if_neg hk, if_neg (by omega)]
theorem rfind_numb : ∀ (R : List Nat) (a k : Nat), rfind (numb R a) k = if a ≤ k then R[k - a]? else none
  | [], a, k => by simp [numb, rfind]
  | b :: R, a, k => by
    simp only [numb, rfind]
    cases h : Nat.beq a k with
    | true =>
      have := Nat.eq_of_beq_eq_true h
      subst this
      simp
    | false =>
      have hne := Nat.ne_of_beq_eq_false h
      simp only
      rw [rfind_numb R (a + 1) k]
      by_cases hk : a ≤ k
      · rw [if_pos hk, if_pos (by omega)]
        rw [show k - a = (k - (a + 1)) + 1 by omega, List.getElem?_cons_succ]
      · rw [if_neg hk, if_neg (by omega)]
theorem rlook_numb : ∀ (R : List Nat) (a b k : Nat), rlook (numb R a) b = some k → a ≤ k ∧ R[k - a]? = some b
  | [], a, b, k, h => by cases h
  | c :: R, a, b, k, h => by
    simp only [numb, rlook] at h
    split at h
    · rename_i hb
      injection h with h
      subst h
      rw [Nat.eq_of_beq_eq_true hb]
      simp
    · obtain ⟨h1, h2⟩ := rlook_numb R (a + 1) b k h
      refine ⟨by omega, ?_⟩
      rw [show k - a = (k - (a + 1)) + 1 by omega, List.getElem?_cons_succ]
      exact h2
theorem numb_snd : ∀ (R : List Nat) (a : Nat), ((numb R a).map (·.2)).Nodup ∧ ∀ x ∈ (numb R a).map (·.2), a ≤ x
  | [], a => ⟨List.nodup_nil, fun x h => by cases h⟩
  | b :: R, a => by
    obtain ⟨h1, h2⟩ := numb_snd R (a + 1)
    refine ⟨?_, fun x hx => ?_⟩
    · simp only [numb, List.map_cons, List.nodup_cons]
      exact ⟨fun hm => by have := h2 _ hm; omega, h1⟩
    · simp only [numb, List.map_cons, List.mem_cons] at hx
      rcases hx with rfl | hx
      · exact Nat.le_refl _
      · have := h2 x hx
        omega

variable {S : Sys A} {P : Program}
theorem renSVs_ok {r : List (Nat × Nat)} {ρ ρ' : Rho} (hr : Renames r ρ ρ') : ∀ {l l' : List SV} {vs : List Value}, renSVs r l = some l' → F2 (RS ρ) l vs → F2 (RS ρ') l' vs
  | [], l', [], h, _ => by injection h with h; subst h; trivial
  | [], _, _ :: _, _, hv => hv.elim
  | x :: l, l', v :: vs, h, hv => by
    unfold renSVs at h
    split at h
    · rename_i h1 h2
      injection h with h
      subst h
      exact ⟨renSV_ok hr h1 hv.1, renSVs_ok hr h2 hv.2⟩
    · cases h
  | _ :: _, _, [], _, hv => hv.elim
theorem backD_spec {r : List (Nat × Nat)} {hp : HP A} : ∀ {l : List Nat} {as : HP A}, backD r hp l = some as →
    (∀ b, b ∈ as.map (·.1) ↔ ∃ k ∈ l, rlook r k = some b) ∧ ∀ H : Nat → Option (VObj A), (∀ k k' b, rlook r k = some b → rlook r k' = some b → k = k') → ∀ k ∈ l, ∀ b, rlook r k = some b →
      (hget hp k = none → over H as b = none) ∧ ∀ x, hget hp k = some x → ∃ x', renObj r x = some x' ∧ over H as b = some x'
  | [], as, h => by
    injection h with h
    subst h
    exact ⟨fun b => by simp, fun H _ k hk => by cases hk⟩
  | k0 :: l, as, h => by
    unfold backD at h
    split at h
    · rename_i b0 rest hb0 hrest
      obtain ⟨i1, i2⟩ := backD_spec hrest
      have key : ∀ (o : Option (VObj A)), as = (b0, o) :: rest → (hget hp k0 = none → o = none) → (∀ x, hget hp k0 = some x → ∃ x', renObj r x = some x' ∧ o = some x') →
          (∀ b, b ∈ as.map (·.1) ↔ ∃ k ∈ k0 :: l, rlook r k = some b) ∧ ∀ H : Nat → Option (VObj A), (∀ k k' b, rlook r k = some b → rlook r k' = some b → k = k') → ∀ k ∈ k0 :: l, ∀ b, rlook r k = some b →
            (hget hp k = none → over H as b = none) ∧ ∀ x, hget hp k = some x → ∃ x', renObj r x = some x' ∧ over H as b = some x' := by
        rintro o rfl ho1 ho2
        refine ⟨fun b => ?_, fun H hinj k hk b hb => ?_⟩
        · simp only [List.map_cons, List.mem_cons, i1]
          constructor
          · rintro (rfl | ⟨k, hk, hkb⟩)
            · exact ⟨k0, .inl rfl, hb0⟩
            · exact ⟨k, .inr hk, hkb⟩
          · rintro ⟨k, rfl | hk, hkb⟩
            · rw [hb0] at hkb
              injection hkb with hkb
              exact .inl hkb.symm
            · exact .inr ⟨k, hk, hkb⟩
        · by_cases hkl : k ∈ l
          · simp only [over]
            exact i2 _ hinj k hkl b hb
          · have hk0 : k = k0 := by
              rcases List.mem_cons.1 hk with h | h
              · exact h
              · exact absurd h hkl
            subst hk0
            rw [hb0] at hb
            injection hb with hb
            subst hb
            have hout : b0 ∉ rest.map (·.1) := fun hm => by
              obtain ⟨k', hk', hkb'⟩ := (i1 b0).1 hm
              exact hkl (hinj k' k b0 hkb' hb0 ▸ hk')
            simp only [over]
            rw [over_out hout, if_pos rfl]
            exact ⟨ho1, ho2⟩
      split at h
      · rename_i hn
        injection h with h
        exact key none h.symm (fun _ => rfl) (fun x hx => by rw [hn] at hx; cases hx)
      · rename_i x hx
        split at h
        · rename_i x' hx'
          injection h with h
          exact key (some x') h.symm (fun hn => by rw [hx] at hn; cases hn) (fun y hy => by rw [hx] at hy; injection hy with hy; subst hy; exact ⟨x', hx', rfl⟩)
        · cases h
    · cases h

theorem OK_rho {B : Nat} {ρ : Rho} {F : Nat → Prop} {b : Nat} {o : VObj A} {w : World} (h : OK S B ρ F b o w) : ∃ p, ρ b = some p := by
  cases o with
  | cells l ty => obtain ⟨p, _, h, _⟩ := h; exact ⟨p, h⟩
  | tab ks xs ty => obtain ⟨p, _, h, _⟩ := h; exact ⟨p, h⟩
  | rotab ks xs => obtain ⟨p, h, _⟩ := h; exact ⟨p, h⟩
  | abs a => obtain ⟨p, h, _⟩ := h; exact ⟨p, h⟩

/-- A contract where all names from the next one on are free. -/
def FunOKz (S : Sys A) (P : Program) (f : FuncId) (ev : List SV → HP A → Nat → Tr (CR A)) : Prop :=
  ∀ args hp nid r, (ev args hp nid).run = some r → ∀ B ρ F w (vargs : List Value), HR S B (fun k => nid ≤ k) ρ F (hget hp) w → F2 (RS ρ) args vargs →
    Calls P f vargs.toArray w fun e w' => ∃ v ρ' F', e = .returned v ∧ RS ρ' r.val v ∧ HR S B (Zm (fun k => nid ≤ k) nid r.nid) ρ' F' (hget r.hp) w' ∧ Chg (fun b => b ∈ r.dirty) ρ F w ρ' F' w'
theorem FunOK.z {f : FuncId} {i : Intr A} (hi : FunOK S P f i) : FunOKz S P f i := fun args hp nid r hrun B ρ F w vargs hhr hargs =>
  hi args hp nid r hrun B _ ρ F w vargs hhr (fun _ h _ => h) hargs
theorem funOK_ren {f : FuncId} {i : Intr A} (hi : FunOKz S P f i) : FunOK S P f (renI i) := by
  intro args hp nid r hrun B Z ρ F w vargs hhr hz hargs
  unfold renI at hrun
  simp only [Tr.run_chk, Tr.run_opt, Tr.run_bind, Tr.run_ok, Bool.and_eq_true] at hrun
  generalize hR : reach hp 1000 (args.flatMap svIds) [] = R at hrun
  obtain ⟨⟨hnd, hall⟩, args', ha', hp', hh', c, hc, hle, v, hv, as, has, rfl⟩ := hrun
  have hnd := nodup_iff hnd
  have hle := Nat.le_of_ble_eq_true hle
  have hRl : ∀ b ∈ R, b < nid ∧ ∃ o, hget hp b = some o := fun b hb => by
    have := List.all_eq_true.1 hall b hb
    simp only [Bool.and_eq_true, Nat.blt_eq, Option.isSome_iff_exists] at this
    exact this
  generalize hq : bmun R 0 ++ news (c.nid - R.length) R.length nid = q at hv has
  have hlook : ∀ k b, rlook q k = some b ↔ R[k]? = some b ∨ (R.length ≤ k ∧ k < c.nid ∧ b = nid + (k - R.length)) := fun k b => by
    rw [← hq, rlook_append, rlook_bmun, rlook_news]
    simp only [Nat.zero_le, if_true, Nat.sub_zero]
    rcases Nat.lt_or_ge k R.length with hk | hk
    · rw [List.getElem?_eq_getElem hk]
      simp only
      constructor
      · exact .inl
      · rintro (h | h)
        · exact h
        · omega
    · rw [List.getElem?_eq_none hk]
      simp only
      by_cases hk2 : k < c.nid
      · rw [if_pos (by omega)]
        constructor
        · intro h
          injection h with h
          exact .inr ⟨hk, hk2, h.symm⟩
        · rintro (h | ⟨_, _, h⟩)
          · cases h
          · rw [h]
      · rw [if_neg (by omega)]
        constructor
        · intro h; cases h
        · rintro (h | ⟨_, h, _⟩)
          · cases h
          · omega
  have hRR : ∀ {k b}, R[k]? = some b → b ∈ R := fun h => List.mem_of_getElem? h
  have hinjR : ∀ {k k' b}, R[k]? = some b → R[k']? = some b → k = k' := fun {k k' b} h h' => by
    obtain ⟨hk, h1⟩ := List.getElem?_eq_some_iff.1 h
    obtain ⟨hk', h2⟩ := List.getElem?_eq_some_iff.1 h'
    exact (List.getElem_inj hnd (h₀ := hk) (h₁ := hk')).1 (h1.trans h2.symm)
  have hinj : ∀ k k' b, rlook q k = some b → rlook q k' = some b → k = k' := fun k k' b h h' => by
    rw [hlook] at h h'
    rcases h with h | ⟨h1, h2, h3⟩ <;> rcases h' with h' | ⟨h1', h2', h3'⟩
    · exact hinjR h h'
    · have := (hRl b (hRR h)).1
      omega
    · have := (hRl b (hRR h')).1
      omega
    · omega
  -- the given names
  let ρ0 : Rho := fun k => match R[k]? with | some b => ρ b | none => none
  let F0 : Fm := fun k => match R[k]? with | some b => F b | none => fun _ => False
  have e0 : ∀ {k b}, R[k]? = some b → ρ0 k = ρ b ∧ F0 k = F b := fun {k b} h => by constructor <;> simp only [ρ0, F0, h]
  have f0 : ∀ {k}, R[k]? = none → ρ0 k = none ∧ F0 k = fun _ => False := fun {k} h => by constructor <;> simp only [ρ0, F0, h]
  have hF0 : ∀ k x, F0 k x → ∃ b, R[k]? = some b ∧ F b x := fun k x hx => by
    cases hk : R[k]? with
    | none => rw [(f0 hk).2] at hx; exact hx.elim
    | some b => rw [(e0 hk).2] at hx; exact ⟨b, rfl, hx⟩
  have hren0 : Renames (numb R 0) ρ ρ0 := fun o n hl => (e0 (rlook_numb R 0 o n hl).2).1
  have hg := fun k => hget_ren (b := k) hh' (numb_snd R 0).1
  have hHR0 : HR S B (fun k => R.length ≤ k) ρ0 F0 (hget hp') w := by
    refine ⟨fun k x' hx' => ?_, fun k hk x hx => ?_, fun k x hx => ?_, fun k k' x hx hx' => ?_, fun k hk => ?_, hhr.base⟩
    · cases hk : R[k]? with
      | none =>
        have := (hg k).2 (by rw [rfind_numb]; simpa using hk)
        rw [this] at hx'; cases hx'
      | some b =>
        have hf : rfind (numb R 0) k = some b := by rw [rfind_numb]; simpa using hk
        obtain ⟨o, ho⟩ := (hRl b (hRR hk)).2
        obtain ⟨y, hy1, hy2⟩ := ((hg k).1 b hf).1 o ho
        rw [hy2] at hx'
        injection hx' with hx'
        subst hx'
        rw [(e0 hk).2]
        exact renObj_ok hren0 (e0 hk).1 hy1 (hhr.live b o ho)
    · obtain ⟨b, hb, hx⟩ := hF0 k x hx
      have hf : rfind (numb R 0) k = some b := by rw [rfind_numb]; simpa using hb
      obtain ⟨o, ho⟩ := (hRl b (hRR hb)).2
      obtain ⟨y, _, hy2⟩ := ((hg k).1 b hf).1 o ho
      rw [hy2] at hk
      cases hk
    · obtain ⟨b, _, hx⟩ := hF0 k x hx
      exact hhr.bound b x hx
    · obtain ⟨b, hb, hx⟩ := hF0 k x hx
      obtain ⟨b', hb', hx'⟩ := hF0 k' x hx'
      have := hhr.disj b b' x hx hx'
      subst this
      exact hinjR hb hb'
    · exact (f0 (List.getElem?_eq_none hk)).1
  refine (hi args' hp' R.length c hc B ρ0 F0 w vargs hHR0 (renSVs_ok hren0 ha' hargs)).mono ?_
  rintro en w' ⟨u, ρ1, F1, rfl, hu, hHR1, hch⟩
  -- back
  have hfresh : ∀ k, R.length ≤ k → k < c.nid → ρ (nid + (k - R.length)) = none ∧ hget hp (nid + (k - R.length)) = none ∧ F (nid + (k - R.length)) = fun _ => False := fun k h1 h2 => by
    have h3 := hhr.fresh _ (hz (nid + (k - R.length)) (Nat.le_add_right _ _) (by show _ < nid + (c.nid - R.length); omega))
    have h4 : hget hp (nid + (k - R.length)) = none := by
      cases ho : hget hp (nid + (k - R.length)) with
      | none => rfl
      | some o =>
        obtain ⟨p, hp1⟩ := OK_rho (hhr.live _ o ho)
        rw [h3] at hp1
        cases hp1
    refine ⟨h3, h4, ?_⟩
    funext x
    exact propext ⟨fun hx => hhr.dead _ h4 x hx, fun hx => hx.elim⟩
  have hex : ∀ b : Nat, (∃ k, rlook q k = some b) ∨ ∀ k, rlook q k ≠ some b := fun b => by
    by_cases h : ∃ k, rlook q k = some b
    · exact .inl h
    · exact .inr fun k hk => h ⟨k, hk⟩
  obtain ⟨ρ2, F2, e2, f2⟩ : ∃ (ρ2 : Rho) (F2 : Fm), (∀ k b, rlook q k = some b → ρ2 b = ρ1 k ∧ F2 b = F1 k) ∧ ∀ b, (∀ k, rlook q k ≠ some b) → ρ2 b = ρ b ∧ F2 b = F b := by
    refine ⟨fun b => open Classical in if h : ∃ k, rlook q k = some b then ρ1 (Classical.choose h) else ρ b, fun b => open Classical in if h : ∃ k, rlook q k = some b then F1 (Classical.choose h) else F b, fun k b hk => ?_, fun b hb => ?_⟩
    · have h : ∃ k, rlook q k = some b := ⟨k, hk⟩
      have := hinj _ _ b (Classical.choose_spec h) hk
      simp only [dif_pos h, this, and_self]
    · have h : ¬∃ k, rlook q k = some b := fun ⟨k, hk⟩ => hb k hk
      simp only [dif_neg h, and_self]
  have hren2 : Renames q ρ1 ρ2 := fun o n hl => (e2 o n hl).1
  obtain ⟨hD, hov⟩ := backD_spec has
  have hle2 : ρ.le ρ2 := fun b p hp => by
    rcases hex b with ⟨k, hk⟩ | hb
    · rw [(e2 k b hk).1]
      rcases (hlook k b).1 hk with h | ⟨h1, h2, h3⟩
      · exact hch.rho k p ((e0 h).1.trans hp)
      · rw [h3, (hfresh k h1 h2).1] at hp
        cases hp
    · rw [(f2 b hb).1]
      exact hp
  have hc2 : Chg (fun b => b ∈ as.map (·.1)) ρ F w ρ2 F2 w' := by
    refine ⟨hle2, fun b hb => ?_, fun b x hb hx => ?_, hch.same, fun k hk hck => hch.heap k hk fun d hd hdx => ?_⟩
    · rcases hex b with ⟨k, hk⟩ | hb2
      · rw [(e2 k b hk).2]
        have hkd : k ∉ c.dirty := fun hm => hb ((hD b).2 ⟨k, hm, hk⟩)
        rw [hch.keep k hkd]
        rcases (hlook k b).1 hk with h | ⟨h1, h2, h3⟩
        · exact (e0 h).2
        · rw [(f0 (List.getElem?_eq_none h1)).2, h3, (hfresh k h1 h2).2.2]
      · exact (f2 b hb2).2
    · obtain ⟨k, hk, hkb⟩ := (hD b).1 hb
      rw [(e2 k b hkb).2] at hx
      rcases hch.own k x hk hx with h | ⟨d, hd, hdx⟩
      · exact .inl h
      · obtain ⟨b', hb', hx'⟩ := hF0 d x hdx
        exact .inr ⟨b', (hD b').2 ⟨d, hd, (hlook d b').2 (.inl hb')⟩, hx'⟩
    · obtain ⟨b', hb', hx'⟩ := hF0 d k hdx
      exact hck b' ((hD b').2 ⟨d, hd, (hlook d b').2 (.inl hb')⟩) hx'
  refine ⟨u, ρ2, F2, rfl, renSV_ok hren2 hv hu, ?_, hc2⟩
  refine hhr.step hc2 (fun b hb => ?_) (fun b o hb ho => ?_) (fun b hb ho x hx => ?_) (fun b x hb hx => ?_) (fun b b' x hb hb' hx hx' => ?_) (fun b hb => ?_)
  · rw [hget_hputs]
    exact over_out hb
  · obtain ⟨k, hk, hkb⟩ := (hD b).1 hb
    obtain ⟨g1, g2⟩ := hov (hget hp) hinj k hk b hkb
    rw [hget_hputs] at ho
    cases hx : hget c.hp k with
    | none => rw [g1 hx] at ho; cases ho
    | some x =>
      obtain ⟨x', hx1, hx2⟩ := g2 x hx
      rw [hx2] at ho
      injection ho with ho
      subst ho
      rw [(e2 k b hkb).2]
      exact renObj_ok hren2 (e2 k b hkb).1 hx1 (hHR1.live k x hx)
  · obtain ⟨k, hk, hkb⟩ := (hD b).1 hb
    obtain ⟨g1, g2⟩ := hov (hget hp) hinj k hk b hkb
    rw [hget_hputs] at ho
    rw [(e2 k b hkb).2] at hx
    cases hy : hget c.hp k with
    | none => exact hHR1.dead k hy x hx
    | some y =>
      obtain ⟨x', _, hx2⟩ := g2 y hy
      rw [hx2] at ho
      cases ho
  · obtain ⟨k, hk, hkb⟩ := (hD b).1 hb
    rw [(e2 k b hkb).2] at hx
    exact (hHR1.bound k x hx).2
  · obtain ⟨k, hk, hkb⟩ := (hD b).1 hb
    obtain ⟨k', hk', hkb'⟩ := (hD b').1 hb'
    rw [(e2 k b hkb).2] at hx
    rw [(e2 k' b' hkb').2] at hx'
    have := hHR1.disj k k' x hx hx'
    subst this
    rw [hkb] at hkb'
    injection hkb'
  · obtain ⟨hb1, hb2⟩ := hb
    have hρ := hhr.fresh b hb1
    rcases hex b with ⟨k, hk⟩ | hbn
    · rcases (hlook k b).1 hk with h | ⟨h1, h2, h3⟩
      · obtain ⟨o, ho⟩ := (hRl b (hRR h)).2
        obtain ⟨p, hp1⟩ := OK_rho (hhr.live b o ho)
        rw [hρ] at hp1
        cases hp1
      · exact absurd ⟨by omega, by show b < nid + (c.nid - R.length); omega⟩ hb2
    · rw [(f2 b hbn).1]
      exact hρ

/-! ### Numbers as signs, in objects too -/
def symSN (n : SN) : SN := .sym n.val
def symW : VV → VV
  | .int k s => .int k (.sym s.val)
  | .bool b => .bool (.sym b.val)
  | .ts b r len cap => .ts b r (.sym len.val) (cap.map symSN)
  | v => v
def symW1 : S1 → S1
  | .one v => .one (symW v)
  | .agg l => .agg (l.map symW)
def symWS : SV → SV
  | .s x => .s (symW1 x)
  | .t l => .t (l.map symW1)
def symO : VObj A → VObj A
  | .cells l ty => .cells (l.map symW) ty
  | o => o
def symHP : HP A → HP A
  | [] => []
  | (b, o) :: r => (b, o.map symO) :: symHP r
theorem RV_symW {ρ : Rho} {x : VV} {v : Value} : RV ρ (symW x) v ↔ RV ρ x v := by
  cases x with
  | ts b r len cap =>
    cases cap with
    | none => rfl
    | some c => rfl
  | _ => rfl
theorem R1_symW {ρ : Rho} {x : S1} {v : Value} : R1 ρ (symW1 x) v ↔ R1 ρ x v := by
  cases x with
  | one x => exact RV_symW
  | agg l => exact exists_congr fun cs => and_congr Iff.rfl (F2_map fun _ _ => RV_symW)
theorem RS_symW {ρ : Rho} {x : SV} {v : Value} : RS ρ (symWS x) v ↔ RS ρ x v := by
  cases x with
  | s x => exact R1_symW
  | t l => exact exists_congr fun cs => and_congr Iff.rfl (F2_map fun _ _ => R1_symW)
theorem OK_symO {B : Nat} {ρ : Rho} {F : Nat → Prop} {b : Nat} {o : VObj A} {w : World} : OK S B ρ F b (symO o) w ↔ OK S B ρ F b o w := by
  cases o with
  | cells l ty => exact exists_congr fun p => exists_congr fun arr => and_congr Iff.rfl (and_congr Iff.rfl (and_congr Iff.rfl (F2_map fun _ _ => RV_symW)))
  | _ => rfl
theorem hget_symHP : ∀ (hp : HP A) (b : Nat), hget (symHP hp) b = (hget hp b).map symO
  | [], _ => rfl
  | (k, o) :: r, b => by
    simp only [symHP, hget]
    cases Nat.beq k b with
    | true => rfl
    | false => exact hget_symHP r b
theorem HR_symHP {B : Nat} {Z : Nat → Prop} {ρ : Rho} {F : Fm} {hp : HP A} {w : World} (h : HR S B Z ρ F (hget hp) w) : HR S B Z ρ F (hget (symHP hp)) w := by
  refine ⟨fun b o ho => ?_, fun b hb => ?_, h.bound, h.disj, h.fresh, h.base⟩
  · rw [hget_symHP] at ho
    obtain ⟨o', ho', rfl⟩ := Option.map_eq_some_iff.1 ho
    exact OK_symO.2 (h.live b o' ho')
  · rw [hget_symHP] at hb
    refine h.dead b ?_
    cases hg : hget hp b with
    | none => rfl
    | some o => rw [hg] at hb; cases hb
/-- A contract for signs holds for numbers. -/
def symI (i : Intr A) : Intr A := fun args hp nid => i (args.map symWS) (symHP hp) nid
theorem funOK_sym {f : FuncId} {i : Intr A} (hi : FunOK S P f i) : FunOK S P f (symI i) := by
  intro args hp nid r hrun B Z ρ F w vargs hhr hz hargs
  exact hi _ _ _ r hrun B Z ρ F w vargs (HR_symHP hhr) hz ((F2_map fun _ _ => RS_symW).2 hargs)

/-- What a call comes to at its place: what it made and is not led to is dropped. -/
noncomputable def dropI (P : Program) (call : FuncId → List SV → HP A → Nat → Tr (CR A)) (f : FuncId) : Intr A := fun args hp nid =>
  (vcall P call f args hp nid).bind fun e => .ok ⟨e.val, hputs hp e.asg, e.asg.map (·.1), e.nid⟩
theorem funOK_drop {call : FuncId → List SV → HP A → Nat → Tr (CR A)} (hcall : CallOK S P call) (f : FuncId) : FunOK S P f (dropI P call f) := by
  intro args hp nid r hrun B Z ρ F w vargs hhr hz hargs
  unfold dropI at hrun
  rw [Tr.run_bind] at hrun
  obtain ⟨e, he, hrun⟩ := hrun
  rw [Tr.run_ok] at hrun
  subst hrun
  obtain ⟨_, _, h3⟩ := vcall_sound hcall he hhr (fun _ _ => rfl) hz hargs
  refine h3.mono ?_
  rintro en w' ⟨v, rfl, ρ', F', g1, g2, g3⟩
  refine ⟨v, ρ', F', rfl, g1, ?_, g3⟩
  rw [hget_hputs]
  exact g2
/-- A contract by what the evaluation comes to. -/
theorem funOK_of {f : FuncId} {i ev : Intr A} (hev : FunOK S P f ev) (h : ∀ args hp nid r, (i args hp nid).run = some r → (ev args hp nid).run = some r) : FunOK S P f i :=
  fun args hp nid r hrun => hev args hp nid r (h args hp nid r hrun)
def lookH (A : Type) : List (Nat × Intr A) → FuncId → Option (Intr A)
  | [], _ => none
  | p :: l, f => match Nat.beq p.1 f with
    | true => some p.2
    | false => lookH A l f
theorem lookH_ok {l : List (Nat × Intr A)} (h : ∀ p ∈ l, FunOK S P p.1 p.2) : ∀ f i, lookH A l f = some i → FunOK S P f i := by
  induction l with
  | nil => intro f i h; cases h
  | cons p l ih =>
    intro f i hi
    unfold lookH at hi
    split at hi
    · rename_i hb
      injection hi with hi
      subst hi
      have := Nat.eq_of_beq_eq_true hb
      subst this
      exact h p (List.mem_cons_self ..)
    · exact ih (fun p hp => h p (List.mem_cons_of_mem _ hp)) f i hi
/-- The first of two contracts that fits. -/
def orI (a b : Intr A) : Intr A := fun args hp nid => match a args hp nid with
  | .no _ => b args hp nid
  | t => t
theorem funOK_or {f : FuncId} {a b : Intr A} (ha : FunOK S P f a) (hb : FunOK S P f b) : FunOK S P f (orI a b) := by
  intro args hp nid r hrun
  unfold orI at hrun
  split at hrun
  · exact hb args hp nid r hrun
  · exact ha args hp nid r hrun
theorem funOK_obj {f : FuncId} {i : Intr A} (h : FunOK S P f i) : FunOK S P f (renI (symI i)) := funOK_ren (funOK_sym h).z
theorem tab_cons {f : FuncId} {i : Intr A} {l : List (Nat × Intr A)} (h : FunOK S P f i) (hl : ∀ p ∈ l, FunOK S P p.1 p.2) : ∀ p ∈ (f, i) :: l, FunOK S P p.1 p.2 := fun p hp => by
  rcases List.mem_cons.1 hp with rfl | hp
  · exact h
  · exact hl p hp
theorem tab_append {l m : List (Nat × Intr A)} (hl : ∀ p ∈ l, FunOK S P p.1 p.2) (hm : ∀ p ∈ m, FunOK S P p.1 p.2) : ∀ p ∈ l ++ m, FunOK S P p.1 p.2 := fun p hp => by
  rcases List.mem_append.1 hp with hp | hp
  · exact hl p hp
  · exact hm p hp
theorem tab_nil : ∀ p ∈ ([] : List (Nat × Intr A)), FunOK S P p.1 p.2 := fun p hp => by cases hp
end
end Go.Proofs.Ytcolladpdmjloaa.Eng

/-
  The engine, part Y: a memory (a struct of words, two counts, a trace) as one abstract object.
-/
namespace Go.Proofs.Ytcolladpdmjloaa.Eng
open Go Go.RowKit

/-- A memory: which struct it is, its words, how many accesses and traps there were. A group: objects with names of their own behind one that is named 0. -/
inductive MObj where
  | mem (ty : TypeId) (xs : List Int) (c t : Int)
  | grp (hp : HP Unit)
def emptySys : Sys Unit := ⟨fun _ _ _ _ => False, fun _ h => h⟩
abbrev ckA : List CK := [.int .i64, .int .i64, .bool]
def rowsW (xs : List Int) : List (List Int) := xs.map fun x => [x]
/-- The trace: none, or a table. -/
def TrOK {A : Type} (tyA : TypeId) (H : Nat → Option (VObj A)) (tr : VV) (x2 : Nat) (k : Nat) : Prop :=
  (tr = .nils ∧ H x2 = none) ∨ ∃ m ls, tr = .ts x2 (.lit 0) m none ∧ H x2 = some (.tab ckA ls tyA) ∧ m.val = ls.length ∧ (0 < ls.length ∧ ls.length ≤ k)
def grpHolds (g : HP Unit) (k : Nat) (F : Nat → Prop) (w : World) : Prop :=
  ∃ (ρ : Rho) (G : Fm) (p : Pl), ρ 0 = some p ∧ p.blk = k ∧ (∀ b o, hget g b = some o → OK emptySys 0 ρ (G b) b o w) ∧ (∀ b, hget g b = none → ∀ x, ¬G b x) ∧ (∀ b c x, G b x → G c x → b = c) ∧ ∀ x, F x ↔ ∃ b, G b x
theorem grpHolds.frame {g : HP Unit} {k : Nat} {F : Nat → Prop} {w w' : World} (hk : ∀ x, F x → w'.heap[x]? = w.heap[x]?) : grpHolds g k F w → grpHolds g k F w' := by
  rintro ⟨ρ, G, p, h1, h2, h3, h4, h5, h6⟩
  exact ⟨ρ, G, p, h1, h2, fun b o ho => (h3 b o ho).frame emptySys (Rho.le_refl ρ) rfl (fun x hx => hk x ((h6 x).2 ⟨b, hx⟩)) (fun x hx => absurd hx (Nat.not_lt_zero x)), h4, h5, h6⟩
def memHolds (tyW tyA : TypeId) : MObj → Nat → (Nat → Prop) → World → Prop
  | .grp g, k, F, w => grpHolds g k F w
  | .mem ty xs c t, k, F, w => ∃ (ρ : Rho) (G : Fm) (H : Nat → Option (VObj Unit)) (a x1 x2 : Nat) (p : Pl) (n : SN) (tr : VV) (cs ts : SI), cs.val = c ∧ ts.val = t ∧
    (∀ b o, H b = some o → OK emptySys 0 ρ (G b) b o w) ∧ (∀ b, H b = none → ∀ x, ¬G b x) ∧ (∀ b c x, G b x → G c x → b = c) ∧ a ≠ x1 ∧ a ≠ x2 ∧ x1 ≠ x2 ∧
    ρ a = some p ∧ p.blk = k ∧ H a = some (.cells [.ts x1 (.lit 0) n none, .int .i64 cs, .int .i64 ts, tr] ty) ∧ H x1 = some (.tab [.int .u64] (rowsW xs) tyW) ∧ n.val = xs.length ∧ TrOK tyA H tr x2 c.toNat ∧
    (∀ x, F x ↔ G a x ∨ G x1 x ∨ G x2 x)
def memSys (tyW tyA : TypeId) : Sys MObj where
  holds := memHolds tyW tyA
  frame := by
    intro a0 k F w w' hk hm
    cases a0 with
    | grp g => exact grpHolds.frame hk hm
    | mem ty xs c t =>
    obtain ⟨ρ, G, H, a, x1, x2, p, n, tr, cs, ts, hcs, hts, h1, h2, h3, n1, n2, n3, h5, h6, h7, h8, h9, h10, h11⟩ := hm
    -- only the three names matter
    let H' : Nat → Option (VObj Unit) := fun b => if b = a ∨ b = x1 ∨ b = x2 then H b else none
    let G' : Fm := fun b => if b = a ∨ b = x1 ∨ b = x2 then G b else fun _ => False
    have hH : ∀ {b}, (b = a ∨ b = x1 ∨ b = x2) → H' b = H b ∧ G' b = G b := fun {b} h => by constructor <;> simp only [H', G', if_pos h]
    have hN : ∀ {b}, ¬(b = a ∨ b = x1 ∨ b = x2) → H' b = none ∧ G' b = fun _ => False := fun {b} h => by constructor <;> simp only [H', G', if_neg h]
    have hG : ∀ b x, G' b x → (b = a ∨ b = x1 ∨ b = x2) ∧ G b x := fun b x hx => by
      by_cases hb : b = a ∨ b = x1 ∨ b = x2
      · rw [(hH hb).2] at hx; exact ⟨hb, hx⟩
      · rw [(hN hb).2] at hx; exact hx.elim
    have hF : ∀ b x, G' b x → F x := fun b x hx => by
      obtain ⟨hb, hy⟩ := hG b x hx
      rw [h11]
      rcases hb with hb | hb | hb
      · exact .inl (hb ▸ hy)
      · exact .inr (.inl (hb ▸ hy))
      · exact .inr (.inr (hb ▸ hy))
    refine ⟨ρ, G', H', a, x1, x2, p, n, tr, cs, ts, hcs, hts, fun b o ho => ?_, fun b hb x hx => ?_, fun b c x hb hc => h3 b c x (hG b x hb).2 (hG c x hc).2, n1, n2, n3, h5, h6,
      (hH (.inl rfl)).1.trans h7, (hH (.inr (.inl rfl))).1.trans h8, h9, ?_, fun x => ?_⟩
    · by_cases hb : b = a ∨ b = x1 ∨ b = x2
      · rw [(hH hb).1] at ho
        refine (h1 b o ho).frame emptySys (Rho.le_refl ρ) (hH hb).2 (fun x hx => hk x (hF b x (by rw [(hH hb).2]; exact hx))) (fun x hx => absurd hx (Nat.not_lt_zero x))
      · rw [(hN hb).1] at ho; cases ho
    · obtain ⟨hb', hx⟩ := hG b x hx
      rw [(hH hb').1] at hb
      exact h2 b hb x hx
    · unfold TrOK
      rw [(hH (.inr (.inr rfl))).1]
      exact h10
    · rw [h11, (hH (.inl rfl)).2, (hH (.inr (.inl rfl))).2, (hH (.inr (.inr rfl))).2]

section
variable {tyW tyA : TypeId} {P : Program}
/-- An object without abstract parts. -/
def toU : VObj MObj → VObj Unit
  | .cells l ty => .cells l ty
  | .tab ks xs ty => .tab ks xs ty
  | .rotab ks xs => .rotab ks xs
  | .abs _ => .abs ()
def ofU : VObj Unit → VObj MObj
  | .cells l ty => .cells l ty
  | .tab ks xs ty => .tab ks xs ty
  | .rotab ks xs => .rotab ks xs
  | .abs _ => .cells [] 0
theorem tab_toU {B : Nat} {ρ : Rho} {F : Nat → Prop} {b : Nat} {ks : List CK} {xs : List (List Int)} {ty : TypeId} {w : World} :
    OK (memSys tyW tyA) B ρ F b (.tab ks xs ty) w ↔ OK emptySys 0 ρ F b (.tab ks xs ty) w := Iff.rfl
theorem cells_toU {B : Nat} {ρ : Rho} {F : Nat → Prop} {b : Nat} {l : List VV} {ty : TypeId} {w : World} :
    OK (memSys tyW tyA) B ρ F b (.cells l ty) w ↔ OK emptySys 0 ρ F b (.cells l ty) w := Iff.rfl

/-- What of a heap is a memory. -/
structure IsMem (tyW tyA : TypeId) (H : Nat → Option (VObj MObj)) (a x1 x2 : Nat) (ty : TypeId) (xs : List Int) (c t : Int) : Prop where
  ne1 : a ≠ x1
  ne2 : a ≠ x2
  ne3 : x1 ≠ x2
  obj : ∃ n tr cs ts, H a = some (.cells [.ts x1 (.lit 0) n none, .int .i64 cs, .int .i64 ts, tr] ty) ∧ n.val = xs.length ∧ TrOK tyA H tr x2 c.toNat ∧ cs.val = c ∧ ts.val = t
  words : H x1 = some (.tab [.int .u64] (rowsW xs) tyW)

theorem mem_fold {B : Nat} {Z : Nat → Prop} {ρ : Rho} {F : Fm} {H : Nat → Option (VObj MObj)} {w : World} {a x1 x2 : Nat} {ty : TypeId} {xs : List Int} {c t : Int}
    (h : HR (memSys tyW tyA) B Z ρ F H w) (hm : IsMem tyW tyA H a x1 x2 ty xs c t) (G : Nat → Prop) (hG : ∀ x, G x ↔ F a x ∨ F x1 x ∨ F x2 x) :
    OK (memSys tyW tyA) B ρ G a (.abs (.mem ty xs c t)) w := by
  obtain ⟨n1, n2, n3, ⟨n, tr, cs, ts, ha, hn, htr, hcs, hts⟩, hw⟩ := hm
  obtain ⟨p, arr, hp, hf, hr, hl⟩ := h.live _ _ ha
  let H' : Nat → Option (VObj Unit) := fun b => if b = a ∨ b = x1 ∨ b = x2 then (H b).map toU else none
  let G' : Fm := fun b => if b = a ∨ b = x1 ∨ b = x2 then F b else fun _ => False
  have hH : ∀ {b}, (b = a ∨ b = x1 ∨ b = x2) → H' b = (H b).map toU ∧ G' b = F b := fun {b} h => by constructor <;> simp only [H', G', if_pos h]
  have hN : ∀ {b}, ¬(b = a ∨ b = x1 ∨ b = x2) → H' b = none ∧ G' b = fun _ => False := fun {b} h => by constructor <;> simp only [H', G', if_neg h]
  have hGG : ∀ b x, G' b x → (b = a ∨ b = x1 ∨ b = x2) ∧ F b x := fun b x hx => by
    by_cases hb : b = a ∨ b = x1 ∨ b = x2
    · rw [(hH hb).2] at hx; exact ⟨hb, hx⟩
    · rw [(hN hb).2] at hx; exact hx.elim
  refine ⟨p, hp, ρ, G', H', a, x1, x2, p, n, tr, cs, ts, hcs, hts, fun b o ho => ?_, fun b hb x hx => ?_, fun b c x hb hc => h.disj b c x (hGG b x hb).2 (hGG c x hc).2, n1, n2, n3, hp, rfl,
    by rw [(hH (.inl rfl)).1, ha]; rfl, by rw [(hH (.inr (.inl rfl))).1, hw]; rfl, hn, ?_, fun x => by rw [hG, (hH (.inl rfl)).2, (hH (.inr (.inl rfl))).2, (hH (.inr (.inr rfl))).2]⟩
  · by_cases hb : b = a ∨ b = x1 ∨ b = x2
    · rw [(hH hb).1] at ho
      obtain ⟨o', ho', rfl⟩ := Option.map_eq_some_iff.1 ho
      rw [(hH hb).2]
      rcases hb with rfl | rfl | rfl
      · rw [ha] at ho'; injection ho' with ho'; subst ho'; exact cells_toU.1 (h.live _ _ ha)
      · rw [hw] at ho'; injection ho' with ho'; subst ho'; exact tab_toU.1 (h.live _ _ hw)
      · rcases htr with ⟨_, hx2⟩ | ⟨m, ls, _, hx2, _⟩
        · rw [hx2] at ho'; cases ho'
        · rw [hx2] at ho'; injection ho' with ho'; subst ho'; exact tab_toU.1 (h.live _ _ hx2)
    · rw [(hN hb).1] at ho; cases ho
  · obtain ⟨hb', hx⟩ := hGG b x hx
    rw [(hH hb').1] at hb
    exact h.dead b (Option.map_eq_none_iff.1 hb) x hx
  · unfold TrOK
    rw [(hH (.inr (.inr rfl))).1]
    rcases htr with ⟨h1, h2⟩ | ⟨m, ls, h1, h2, h3, h4⟩
    · exact .inl ⟨h1, by rw [h2]; rfl⟩
    · exact .inr ⟨m, ls, h1, by rw [h2]; rfl, h3, h4⟩

/-- The three objects of a memory. -/
def memO (ty : TypeId) (n : Nat) (c t : Int) (x1 : Nat) (tr : VV) : VObj MObj := .cells [.ts x1 (.lit 0) (.sym n) none, .int .i64 (.sym c), .int .i64 (.sym t), tr] ty
/-- Its trace: none, or a table. -/
def TrIn (tyA : TypeId) (y2 : Nat) (k : Nat) (tr : VV) (o2 : Option (VObj MObj)) : Prop :=
  (tr = .nils ∧ o2 = none) ∨ ∃ ls : List (List Int), tr = .ts y2 (.lit 0) (.sym ls.length) none ∧ o2 = some (.tab ckA ls tyA) ∧ (0 < ls.length ∧ ls.length ≤ k)
def memH (H : Nat → Option (VObj MObj)) (a y1 y2 : Nat) (ty tyW : TypeId) (xs : List Int) (c t : Int) (tr : VV) (o2 : Option (VObj MObj)) : Nat → Option (VObj MObj) := fun b =>
  if b = a then some (memO ty xs.length c t y1 tr) else if b = y1 then some (.tab [.int .u64] (rowsW xs) tyW) else if b = y2 then o2 else H b
/-- A memory at the name 'a' becomes three objects, with two new names. -/
theorem mem_unfold {B : Nat} {Z : Nat → Prop} {ρ : Rho} {F : Fm} {H : Nat → Option (VObj MObj)} {w : World} {a y1 y2 : Nat} {ty : TypeId} {xs : List Int} {c t : Int}
    (h : HR (memSys tyW tyA) B Z ρ F H w) (ha : H a = some (.abs (.mem ty xs c t))) (hz1 : Z y1) (hz2 : Z y2) (hne : y1 ≠ y2) :
    ∃ (ρ' : Rho) (F' : Fm) (tr : VV) (o2 : Option (VObj MObj)), TrIn tyA y2 c.toNat tr o2 ∧ ρ.le ρ' ∧ (∀ b, b ≠ y1 → b ≠ y2 → ρ' b = ρ b) ∧ HR (memSys tyW tyA) B (fun b => Z b ∧ b ≠ y1 ∧ b ≠ y2) ρ' F' (memH H a y1 y2 ty tyW xs c t tr o2) w ∧ (∀ b, b ≠ a → b ≠ y1 → b ≠ y2 → F' b = F b) ∧
      (∀ x, F a x ↔ F' a x ∨ F' y1 x ∨ F' y2 x) ∧ inK .i64 c ∧ inK .i64 t ∧ xs.length ≤ 9223372036854775807 ∧ ∀ x ∈ xs, inK .u64 x := by
  obtain ⟨p, hp, ρl, G, Hl, al, xl1, xl2, pl, n, tr, cs', ts', rfl, rfl, h1, h2, h3, n1, n2, n3, h5, h6, h7, h8, h9, h10, h11⟩ := h.live _ _ ha
  have r1 := h.fresh y1 hz1
  have r2 := h.fresh y2 hz2
  have a1 : a ≠ y1 := fun e => by rw [← e, hp] at r1; cases r1
  have a2 : a ≠ y2 := fun e => by rw [← e, hp] at r2; cases r2
  let σ : Nat → Option Nat := fun b => if b = a then some al else if b = y1 then some xl1 else if b = y2 then some xl2 else none
  have s0 : σ a = some al := by simp [σ]
  have s1 : σ y1 = some xl1 := by simp [σ, Ne.symm a1]
  have s2 : σ y2 = some xl2 := by simp [σ, Ne.symm a2, Ne.symm hne]
  have sn : ∀ b, b ≠ a → b ≠ y1 → b ≠ y2 → σ b = none := fun b e1 e2 e3 => by simp [σ, e1, e2, e3]
  have sc : ∀ b l, σ b = some l → (b = a ∧ l = al) ∨ (b = y1 ∧ l = xl1) ∨ (b = y2 ∧ l = xl2) := fun b l hb => by
    simp only [σ] at hb
    split at hb
    · rename_i e; injection hb with hb; exact .inl ⟨e, hb.symm⟩
    · split at hb
      · rename_i e; injection hb with hb; exact .inr (.inl ⟨e, hb.symm⟩)
      · split at hb
        · rename_i e; injection hb with hb; exact .inr (.inr ⟨e, hb.symm⟩)
        · cases hb
  have sinj : ∀ b b' l, σ b = some l → σ b' = some l → b = b' := fun b b' l hb hb' => by
    rcases sc b l hb with ⟨rfl, rfl⟩ | ⟨rfl, rfl⟩ | ⟨rfl, rfl⟩ <;> rcases sc b' _ hb' with ⟨rfl, e⟩ | ⟨rfl, e⟩ | ⟨rfl, e⟩ <;> first | rfl | exact absurd e n1 | exact absurd e n2 | exact absurd e n3 | exact absurd e.symm n1 | exact absurd e.symm n2 | exact absurd e.symm n3
  have sF : ∀ b l x, σ b = some l → G l x → F a x := fun b l x hb hx => by
    rw [h11]
    rcases sc b l hb with ⟨_, rfl⟩ | ⟨_, rfl⟩ | ⟨_, rfl⟩
    · exact .inl hx
    · exact .inr (.inl hx)
    · exact .inr (.inr hx)
  let ρ' : Rho := fun b => if b = y1 then ρl xl1 else if b = y2 then ρl xl2 else ρ b
  let F' : Fm := fun b => match σ b with | some l => G l | none => F b
  have q0 : ρ' a = some p := by simp [ρ', a1, a2, hp]
  have q1 : ρ' y1 = ρl xl1 := by simp [ρ']
  have q2 : ρ' y2 = ρl xl2 := by simp [ρ', Ne.symm hne]
  have qn : ∀ b, b ≠ y1 → b ≠ y2 → ρ' b = ρ b := fun b e1 e2 => by simp [ρ', e1, e2]
  have hle : ρ.le ρ' := fun b q hq => by
    have e1 : b ≠ y1 := fun e => by rw [e, r1] at hq; cases hq
    have e2 : b ≠ y2 := fun e => by rw [e, r2] at hq; cases hq
    rw [qn b e1 e2]
    exact hq
  have fs : ∀ {b l}, σ b = some l → F' b = G l := fun {b l} hb => by simp only [F', hb]
  have fn : ∀ {b}, σ b = none → F' b = F b := fun {b} hb => by simp only [F', hb]
  obtain ⟨pc, arr, hpc, hfc, hwc, hlc⟩ := h1 _ _ h7
  rw [h5] at hpc
  injection hpc with hpc
  subst hpc
  have hpb : pl.blk = p.blk := h6
  obtain ⟨pw, arw, hpw, h0w, hfw, hww, hsw, htw⟩ := h1 _ _ h8
  -- the cells
  obtain ⟨v1, v2, v3, v4, hcs, g1, g2, g3, g4⟩ : ∃ v1 v2 v3 v4, arr.toList = [v1, v2, v3, v4] ∧ RV ρl (.ts xl1 (.lit 0) n none) v1 ∧ RV ρl (.int .i64 cs') v2 ∧ RV ρl (.int .i64 ts') v3 ∧ RV ρl tr v4 := by
    generalize arr.toList = cs at hlc
    match cs, hlc with
    | [v1, v2, v3, v4], hh => exact ⟨v1, v2, v3, v4, rfl, hh.1, hh.2.1, hh.2.2.1, hh.2.2.2.1⟩
    | [], hh => exact hh.elim
    | [_], hh => exact hh.2.elim
    | [_, _], hh => exact hh.2.2.elim
    | [_, _, _], hh => exact hh.2.2.2.elim
    | _ :: _ :: _ :: _ :: _ :: _, hh => exact hh.2.2.2.2.elim
  have hlen : xs.length ≤ 9223372036854775807 := by
    obtain ⟨pp, z1, z2, z3, z4⟩ := g1
    rw [h9] at z2
    exact z2
  have hin : ∀ x ∈ xs, inK .u64 x := fun x hx => by
    obtain ⟨i, hi⟩ := List.getElem?_of_mem hx
    obtain ⟨n', q1', q2', _⟩ := htw.2.2.2 i [x] (by unfold rowsW; rw [List.getElem?_map, hi]; rfl) 0 (.int .u64) rfl
    simp only [List.getElem?_cons_zero, Option.some.injEq] at q1'
    subst q1'
    exact q2'
  -- both kinds of traces
  have fin : ∀ (tr' : VV) (o2 : Option (VObj MObj)), RV ρ' tr' v4 → TrIn tyA y2 cs'.val.toNat tr' o2 → (∀ o, o2 = some o → OK (memSys tyW tyA) B ρ' (G xl2) y2 o w) → (o2 = none → ∀ x, ¬G xl2 x) →
      ∃ (ρ' : Rho) (F' : Fm) (tr : VV) (o2 : Option (VObj MObj)), TrIn tyA y2 cs'.val.toNat tr o2 ∧ ρ.le ρ' ∧ (∀ b, b ≠ y1 → b ≠ y2 → ρ' b = ρ b) ∧ HR (memSys tyW tyA) B (fun b => Z b ∧ b ≠ y1 ∧ b ≠ y2) ρ' F' (memH H a y1 y2 ty tyW xs cs'.val ts'.val tr o2) w ∧ (∀ b, b ≠ a → b ≠ y1 → b ≠ y2 → F' b = F b) ∧
      (∀ x, F a x ↔ F' a x ∨ F' y1 x ∨ F' y2 x) ∧ inK .i64 cs'.val ∧ inK .i64 ts'.val ∧ xs.length ≤ 9223372036854775807 ∧ ∀ x ∈ xs, inK .u64 x := by
    intro tr' o2 k1 k2 k3 k4
    generalize hH' : memH H a y1 y2 ty tyW xs cs'.val ts'.val tr' o2 = H'
    have t0 : H' a = some (memO ty xs.length cs'.val ts'.val y1 tr') := by simp [← hH', memH]
    have t1 : H' y1 = some (.tab [.int .u64] (rowsW xs) tyW) := by simp [← hH', memH, Ne.symm a1]
    have t2 : H' y2 = o2 := by simp [← hH', memH, Ne.symm a2, Ne.symm hne]
    have tn : ∀ b, b ≠ a → b ≠ y1 → b ≠ y2 → H' b = H b := fun b e1 e2 e3 => by simp [← hH', memH, e1, e2, e3]
    refine ⟨ρ', F', tr', o2, k2, hle, qn, ?_, fun b e1 e2 e3 => fn (sn b e1 e2 e3), fun x => ?_, g2.2, g3.2, hlen, hin⟩
    rotate_left
    · rw [h11, fs s0, fs s1, fs s2]
    rw [hH']
    refine ⟨fun b o ho => ?_, fun b hb x hx => ?_, fun b x hx => ?_, fun b b' x hx hx' => ?_, fun b hb => ?_, h.base⟩
    · by_cases e0 : b = a
      · subst e0
        rw [t0] at ho
        injection ho with ho
        subst ho
        rw [fs s0]
        refine ⟨p, arr, q0, fun x => by rw [← hpb]; exact hfc x, by rw [← hpb]; exact hwc, ?_⟩
        rw [hcs]
        refine ⟨?_, g2, g3, k1, trivial⟩
        obtain ⟨pp, z1, z2, z3, z4⟩ := g1
        rw [h9] at z2 z3 z4
        exact ⟨pp, q1.trans z1, z2, z3, z4⟩
      · by_cases e1 : b = y1
        · subst e1
          rw [t1] at ho
          injection ho with ho
          subst ho
          rw [fs s1]
          exact ⟨pw, arw, q1.trans hpw, h0w, hfw, hww, hsw, htw⟩
        · by_cases e2 : b = y2
          · subst e2
            rw [t2] at ho
            rw [fs s2]
            exact k3 o ho
          · rw [tn b e0 e1 e2] at ho
            rw [fn (sn b e0 e1 e2)]
            exact (h.live b o ho).frame _ hle rfl (fun _ _ => rfl) (fun _ _ => rfl)
    · by_cases e0 : b = a
      · subst e0; rw [t0] at hb; cases hb
      · by_cases e1 : b = y1
        · subst e1; rw [t1] at hb; cases hb
        · by_cases e2 : b = y2
          · subst e2
            rw [t2] at hb
            rw [fs s2] at hx
            exact k4 hb x hx
          · rw [tn b e0 e1 e2] at hb
            rw [fn (sn b e0 e1 e2)] at hx
            exact h.dead b hb x hx
    · cases hs : σ b with
      | some l => rw [fs hs] at hx; exact h.bound a x (sF b l x hs hx)
      | none => rw [fn hs] at hx; exact h.bound b x hx
    · cases hs : σ b with
      | some l =>
        rw [fs hs] at hx
        cases hs' : σ b' with
        | some l' =>
          rw [fs hs'] at hx'
          have := h3 l l' x hx hx'
          subst this
          exact sinj b b' l hs hs'
        | none =>
          rw [fn hs'] at hx'
          have := h.disj a b' x (sF b l x hs hx) hx'
          subst this
          rw [s0] at hs'; cases hs'
      | none =>
        rw [fn hs] at hx
        cases hs' : σ b' with
        | some l' =>
          rw [fs hs'] at hx'
          have := h.disj b a x hx (sF b' l' x hs' hx')
          subst this
          rw [s0] at hs; cases hs
        | none =>
          rw [fn hs'] at hx'
          exact h.disj b b' x hx hx'
    · rw [qn b hb.2.1 hb.2.2]
      exact h.fresh b hb.1
  rcases h10 with ⟨rfl, hx2⟩ | ⟨m, ls, rfl, hx2, hm, hlc2⟩
  · exact fin .nils none g4 (.inl ⟨rfl, rfl⟩) (fun o ho => by cases ho) (fun _ => h2 _ hx2)
  · obtain ⟨pp, z1, z2, z3, z4⟩ := g4
    obtain ⟨pt, art, hpt, h0t, hft, hwt, hst, htt⟩ := h1 _ _ hx2
    rw [hm] at z2 z3 z4
    refine fin (.ts y2 (.lit 0) (.sym ls.length) none) (some (.tab ckA ls tyA)) ⟨pp, q2.trans z1, z2, z3, z4⟩ (.inr ⟨ls, rfl, rfl, hlc2⟩) (fun o ho => ?_) (fun h => by cases h)
    injection ho with ho
    subst ho
    exact ⟨pt, art, q2.trans hpt, h0t, hft, hwt, hst, htt⟩

def memIn (ty tyW : TypeId) (xs : List Int) (c t : Int) (tr : VV) (o2 : Option (VObj MObj)) : HP MObj :=
  (0, some (memO ty xs.length c t 1 tr)) :: (1, some (.tab [.int .u64] (rowsW xs) tyW)) :: (match o2 with | none => [] | some o => [(2, some o)])
theorem hget_memIn {ty : TypeId} {xs : List Int} {c t : Int} {tr : VV} {o2 : Option (VObj MObj)} {H : Nat → Option (VObj MObj)} (hH : ∀ b, b ≠ 0 → H b = none) : memH H 0 1 2 ty tyW xs c t tr o2 = hget (memIn ty tyW xs c t tr o2) := by
  funext b
  match b with
  | 0 => cases o2 <;> rfl
  | 1 => cases o2 <;> rfl
  | 2 =>
    cases o2 with
    | none => rfl
    | some o => rfl
  | b + 3 =>
    have h1 : memH H 0 1 2 ty tyW xs c t tr o2 (b + 3) = H (b + 3) := by simp [memH]
    rw [h1, hH _ (by omega)]
    cases o2 <;> rfl
/-- A method of a memory, by what it does to the three objects. -/
theorem abs_calls {f : FuncId} {ev : Intr MObj} (hev : FunOKz (memSys tyW tyA) P f ev) {ty : TypeId} {rest : List SV} {xs xs' : List Int} {c t c' t' : Int} {v : SV} (hv : plainSV v = true)
    (hrun : inK .i64 c → inK .i64 t → xs.length ≤ 9223372036854775807 → (∀ x ∈ xs, inK .u64 x) → ∀ tr o2, TrIn tyA 2 c.toNat tr o2 →
      ∃ r x1 x2, (ev (.v (.ptr 0 0) :: rest.map symWS) (memIn ty tyW xs c t tr o2) 3).run = some r ∧ (∀ ρ x, RS ρ r.val x → RS ρ v x) ∧ IsMem tyW tyA (hget r.hp) 0 x1 x2 ty xs' c' t')
    {B : Nat} {ρ : Rho} {F : Fm} {w : World} {vargs : List Value} (h : HR (memSys tyW tyA) B (fun k => 1 ≤ k) ρ F (hget [(0, some (.abs (.mem ty xs c t)))]) w) (ha : F2 (RS ρ) (.v (.ptr 0 0) :: rest) vargs) :
    Calls P f vargs.toArray w fun e w' => ∃ x F', e = .returned x ∧ RS ρ v x ∧ HR (memSys tyW tyA) B (fun k => 1 ≤ k) ρ F' (hget [(0, some (.abs (.mem ty xs' c' t')))]) w' ∧ Chg (fun b => b ∈ [0]) ρ F w ρ F' w' := by
  obtain ⟨v0, vs, rfl, ha1, ha2⟩ : ∃ v0 vs, vargs = v0 :: vs ∧ RS ρ (.v (.ptr 0 0)) v0 ∧ F2 (RS ρ) rest vs := by
    cases vargs with
    | nil => exact ha.elim
    | cons v0 vs => exact ⟨v0, vs, rfl, ha.1, ha.2⟩
  have hnil : ∀ b, b ≠ 0 → hget [(0, some (VObj.abs (MObj.mem ty xs c t)))] b = none := fun b hb => by
    match b, hb with
    | b + 1, _ => rfl
  obtain ⟨ρu, Fu, tr, o2, htr, hle, hρu, hhr, hFu, hF, hc, ht, hn, hxs⟩ := mem_unfold (a := 0) (y1 := 1) (y2 := 2) (ty := ty) (xs := xs) (c := c) (t := t) h rfl (Nat.le_refl 1) (by show 1 ≤ 2; omega) (by decide)
  obtain ⟨r, x1, x2, hr, hval, hm⟩ := hrun hc ht hn hxs tr o2 htr
  rw [hget_memIn hnil] at hhr
  have hFe : ∀ b, b ≠ 0 → F b = fun _ => False := fun b hb => by
    funext x
    exact propext ⟨fun hx => h.dead b (hnil b hb) x hx, fun hx => hx.elim⟩
  have hFu0 : ∀ b x, Fu b x → F 0 x := fun b x hx => by
    rw [hF]
    by_cases e0 : b = 0
    · exact .inl (e0 ▸ hx)
    · by_cases e1 : b = 1
      · exact .inr (.inl (e1 ▸ hx))
      · by_cases e2 : b = 2
        · exact .inr (.inr (e2 ▸ hx))
        · rw [hFu b e0 e1 e2, hFe b e0] at hx
          exact hx.elim
  refine (hev _ _ 3 r hr B ρu Fu w (v0 :: vs) (hhr.mono fun b hb => ⟨by omega, by omega, by omega⟩) ⟨RS.mono hle ha1, (F2_map fun _ _ => RS_symW).2 (ha2.mono fun _ _ => RS.mono hle)⟩).mono ?_
  rintro e w' ⟨x, ρ1, F1, rfl, hx, h1, hch⟩
  let F' : Fm := fun b => if b = 0 then (fun x => F1 0 x ∨ F1 x1 x ∨ F1 x2 x) else fun _ => False
  have f0 : F' 0 = fun x => F1 0 x ∨ F1 x1 x ∨ F1 x2 x := by simp [F']
  have fn : ∀ b, b ≠ 0 → F' b = fun _ => False := fun b hb => by simp [F', hb]
  obtain ⟨p, hp, _⟩ := h.live 0 _ rfl
  have hp1 : ρ1 0 = some p := hch.rho 0 p (hle 0 p hp)
  have hok := mem_fold h1 hm (F' 0) (fun x => by rw [f0])
  have hown : ∀ x, F' 0 x → w.heap.size ≤ x ∨ F 0 x := fun x hx => by
    have key : ∀ d, F1 d x → w.heap.size ≤ x ∨ F 0 x := fun d hd => by
      by_cases hdd : d ∈ r.dirty
      · exact (hch.own d x hdd hd).imp id fun ⟨c, _, hcx⟩ => hFu0 c x hcx
      · rw [hch.keep d hdd] at hd
        exact .inr (hFu0 d x hd)
    rw [f0] at hx
    rcases hx with hx | hx | hx <;> exact key _ hx
  have hc' : Chg (fun b => b ∈ [0]) ρ F w ρ F' w' := by
    refine ⟨Rho.le_refl ρ, fun b hb => ?_, fun b x hb hx => ?_, hch.same, fun k hk hck => hch.heap k hk fun d _ hdx => hck 0 (by simp) (hFu0 d k hdx)⟩
    · have hb : b ≠ 0 := fun e => hb (by simp [e])
      rw [fn b hb, hFe b hb]
    · have hb : b = 0 := by simpa using hb
      subst hb
      exact (hown x hx).imp id fun h => ⟨0, by simp, h⟩
  refine ⟨x, F', rfl, plainSV_any hv (hval _ _ hx), ⟨fun b o ho => ?_, fun b hb x hx => ?_, fun b x hx => ?_, fun b b' x hx hx' => ?_, h.fresh, Nat.le_trans h.base hch.same.size⟩, hc'⟩
  · match b with
    | 0 =>
      injection ho with ho
      subst ho
      obtain ⟨q, hq, hh⟩ := hok
      rw [hp1] at hq
      injection hq with hq
      subst hq
      exact ⟨p, hp, hh⟩
    | b + 1 => cases ho
  · match b with
    | 0 => cases hb
    | b + 1 => rw [fn _ (by omega)] at hx; exact hx
  · match b with
    | 0 =>
      rw [f0] at hx
      rcases hx with hx | hx | hx <;> exact h1.bound _ x hx
    | b + 1 => rw [fn _ (by omega)] at hx; exact hx.elim
  · match b, b' with
    | 0, 0 => rfl
    | 0, b' + 1 => rw [fn _ (by omega)] at hx'; exact hx'.elim
    | b + 1, _ => rw [fn _ (by omega)] at hx; exact hx.elim
/-- A memory is made. -/
theorem abs_new {f : FuncId} {ev : Intr MObj} (hev : FunOKz (memSys tyW tyA) P f ev) {ty : TypeId} {args : List SV} {xs : List Int} {c t : Int} {r : CR MObj} {a x1 x2 : Nat} {e : VV}
    (hr : (ev args [] 0).run = some r) (hval : r.val = .t [.one (.ptr a 0), .one e]) (hpl : plainVV e = true) (hm : IsMem tyW tyA (hget r.hp) a x1 x2 ty xs c t)
    {B : Nat} {ρ : Rho} {F : Fm} {w : World} {vargs : List Value} (h : HR (memSys tyW tyA) B (fun k => 0 ≤ k) ρ F (hget []) w) (ha : F2 (RS ρ) args vargs) :
    Calls P f vargs.toArray w fun en w' => ∃ x ρ' F', en = .returned x ∧ RS ρ' (.t [.one (.ptr 0 0), .one e]) x ∧ HR (memSys tyW tyA) B (Zm (fun k => 0 ≤ k) 0 1) ρ' F' (hget [(0, some (.abs (.mem ty xs c t)))]) w' ∧ Chg (fun b => b ∈ [0]) ρ F w ρ' F' w' := by
  refine (hev args [] 0 r hr B ρ F w vargs h ha).mono ?_
  rintro en w' ⟨x, ρ1, F1, rfl, hx, h1, hch⟩
  have hρ : ∀ b, ρ b = none := fun b => h.fresh b (Nat.zero_le b)
  have hFe : ∀ b, F b = fun _ => False := fun b => by
    funext x
    exact propext ⟨fun hx => h.dead b rfl x hx, fun hx => hx.elim⟩
  let ρ' : Rho := fun b => if b = 0 then ρ1 a else none
  let F' : Fm := fun b => if b = 0 then (fun x => F1 a x ∨ F1 x1 x ∨ F1 x2 x) else fun _ => False
  have r0 : ρ' 0 = ρ1 a := by simp [ρ']
  have rn : ∀ b, b ≠ 0 → ρ' b = none := fun b hb => by simp [ρ', hb]
  have f0 : F' 0 = fun x => F1 a x ∨ F1 x1 x ∨ F1 x2 x := by simp [F']
  have fn : ∀ b, b ≠ 0 → F' b = fun _ => False := fun b hb => by simp [F', hb]
  have hok := mem_fold h1 hm (F' 0) (fun x => by rw [f0])
  have hsz : ∀ d x, F1 d x → w.heap.size ≤ x := fun d x hx => by
    by_cases hd : d ∈ r.dirty
    · rcases hch.own d x hd hx with h2 | ⟨c, _, hc⟩
      · exact h2
      · rw [hFe] at hc; exact hc.elim
    · rw [hch.keep d hd, hFe] at hx; exact hx.elim
  have hc' : Chg (fun b => b ∈ [0]) ρ F w ρ' F' w' := by
    refine ⟨fun b p hp => (by rw [hρ] at hp; cases hp), fun b hb => ?_, fun b x hb hx => .inl ?_, hch.same, fun k hk hck => hch.heap k hk fun d _ hdx => by rw [hFe] at hdx; exact hdx⟩
    · have hb : b ≠ 0 := fun e => hb (by simp [e])
      rw [fn b hb, hFe b]
    · have hb : b = 0 := by simpa using hb
      subst hb
      rw [f0] at hx
      rcases hx with hx | hx | hx <;> exact hsz _ x hx
  rw [hval] at hx
  obtain ⟨vs, hvs, hx1, hx2, hx3⟩ : ∃ vs : List Value, x = .tuple vs.toArray ∧ ∃ v1 v2, vs = [v1, v2] ∧ RV ρ1 (.ptr a 0) v1 ∧ RV ρ1 e v2 := by
    obtain ⟨vs, hvs, hl⟩ := hx
    match vs, hl with
    | [v1, v2], hl => exact ⟨_, hvs, v1, v2, rfl, hl.1, hl.2.1⟩
    | [], hl => exact hl.elim
    | [_], hl => exact hl.2.elim
    | _ :: _ :: _ :: _, hl => exact hl.2.2.elim
  obtain ⟨rfl, g1, g2⟩ := hx3
  refine ⟨x, ρ', F', rfl, ⟨_, hvs, ?_, plainVV_any hpl g2, trivial⟩, ⟨fun b o ho => ?_, fun b hb x hx => ?_, fun b x hx => ?_, fun b b' x hx hx' => ?_, fun b hb => ?_, Nat.le_trans h.base hch.same.size⟩, hc'⟩
  · obtain ⟨p, hp, hv⟩ := g1
    exact ⟨p, r0.trans hp, hv⟩
  · match b with
    | 0 =>
      injection ho with ho
      subst ho
      obtain ⟨q, hq, hh⟩ := hok
      exact ⟨q, r0.trans hq, hh⟩
    | b + 1 => cases ho
  · match b with
    | 0 => cases hb
    | b + 1 => rw [fn _ (by omega)] at hx; exact hx
  · match b with
    | 0 =>
      rw [f0] at hx
      rcases hx with hx | hx | hx <;> exact h1.bound _ x hx
    | b + 1 => rw [fn _ (by omega)] at hx; exact hx.elim
  · match b, b' with
    | 0, 0 => rfl
    | 0, b' + 1 => rw [fn _ (by omega)] at hx'; exact hx'.elim
    | b + 1, _ => rw [fn _ (by omega)] at hx; exact hx.elim
  · have : b ≠ 0 := fun e => hb.2 (by omega)
    exact rn b this
/-- What a method of a memory comes to: the answer, the words, the counts. -/
structure MR where
  v : SV
  xs : List Int
  c : Int
  t : Int
def methI (T : TypeId) (g : List SV → List Int → Int → Int → Tr MR) : Intr MObj := fun args hp nid => match args, hp, nid with
  | .s (.one (.ptr 0 0)) :: rest, [(0, some (.abs (.mem ty xs c t)))], 1 => .chk (Nat.beq ty T) "memory: type" <| (g rest xs c t).bind fun q => .ok ⟨q.v, [(0, some (.abs (.mem ty q.xs q.c q.t)))], [0], 1⟩
  | _, _, _ => .no "memory: arguments"
theorem funOK_meth {f : FuncId} {T : TypeId} {g : List SV → List Int → Int → Int → Tr MR} {ev : Intr MObj} (hev : FunOKz (memSys tyW tyA) P f ev)
    (h : ∀ rest xs c t q, (g rest xs c t).run = some q → plainSV q.v = true ∧ (inK .i64 c → inK .i64 t → xs.length ≤ 9223372036854775807 → (∀ x ∈ xs, inK .u64 x) → ∀ tr o2, TrIn tyA 2 c.toNat tr o2 →
      ∃ r x1 x2, (ev (.v (.ptr 0 0) :: rest.map symWS) (memIn T tyW xs c t tr o2) 3).run = some r ∧ (∀ ρ x, RS ρ r.val x → RS ρ q.v x) ∧ IsMem tyW tyA (hget r.hp) 0 x1 x2 T q.xs q.c q.t)) :
    FunOK (memSys tyW tyA) P f (renI (methI T g)) := by
  refine funOK_ren ?_
  intro args hp nid r hrun B ρ F w vargs hhr hargs
  unfold methI at hrun
  split at hrun
  · rename_i rest ty xs c t
    rw [Tr.run_chk, Tr.run_bind] at hrun
    obtain ⟨hT, q, hq, hrun⟩ := hrun
    obtain rfl := Nat.eq_of_beq_eq_true hT
    rw [Tr.run_ok] at hrun
    subst hrun
    obtain ⟨h1, h2⟩ := h rest xs c t q hq
    refine (abs_calls hev h1 h2 hhr hargs).mono ?_
    rintro e w' ⟨x, F', rfl, g1, g2, g3⟩
    refine ⟨x, ρ, F', rfl, g1, ?_, g3⟩
    rw [Zm_self]
    exact g2
  · cases hrun
theorem tabAt_rowsW (xs : List Int) (i : Nat) : tabAt (rowsW xs) i 0 = xs.getD i 0 := by
  unfold tabAt rowsW
  have : (xs.map fun x => [x]).getD i [] = match xs[i]? with | some x => [x] | none => [] := by
    rw [List.getD_eq_getElem?_getD, List.getElem?_map]
    cases xs[i]? <;> rfl
  rw [this, List.getD_eq_getElem?_getD (l := xs)]
  cases xs[i]? <;> rfl
theorem rowsW_length (xs : List Int) : (rowsW xs).length = xs.length := by simp [rowsW]
theorem rowsW_set (xs : List Int) (i : Nat) (w : Int) (h : i < xs.length) : (rowsW xs).set i (splice ((rowsW xs).getD i []) 0 [w]) = rowsW (xs.set i w) := by
  have : (rowsW xs).getD i [] = [xs[i]] := by
    unfold rowsW
    rw [List.getD_eq_getElem?_getD, List.getElem?_map, List.getElem?_eq_getElem h]
    rfl
  rw [this]
  unfold rowsW
  rw [List.map_set]
  rfl
end
end Go.Proofs.Ytcolladpdmjloaa.Eng
