/-
  The engine, part X: a function's contract for objects with given names holds for objects with any names.
-/
import Derived.Test.YtlkanbgcghjhnaaEngV
namespace Go.Proofs.Ytlkanbgcghjhnaa.Eng
open Go Go.RowKit

def numb : List Nat → Nat → List (Nat × Nat)
  | [], _ => []
  | b :: r, k => (b, k) :: numb r (k + 1)
def bmun : List Nat → Nat → List (Nat × Nat)
  | [], _ => []
  | b :: r, k => (k, b) :: bmun r (k + 1)
def news : Nat → Nat → Nat → List (Nat × Nat)
  | 0, _, _ => []
  | n + 1, a, b => (a, b) :: news n (a + 1) (b + 1)
section
variable {A : Type}
def backD (r : List (Nat × Nat)) (hp : HP A) : List Nat → Option (HP A)
  | [] => some []
  | k :: l => match rlook r k, backD r hp l with
    | some b, some rest => match hget hp k with
      | none => some ((b, none) :: rest)
      | some x => match renObj r x with
        | some x' => some ((b, some x') :: rest)
        | none => none
    | _, _ => none
/-- A function of objects 0, 1, 2.. as a function of objects with any names: the names are given in the order in which the arguments lead to them. -/
def renI (i : Intr A) : Intr A := fun args hp nid =>
  let R := reach hp 1000 (args.flatMap svIds) []
  .chk (nodupB R && R.all (fun b => Nat.blt b nid && (hget hp b).isSome)) "contract: names" <|
  .opt "contract: arguments" (renSVs (numb R 0) args) fun args' =>
  .opt "contract: heap" (renHP (numb R 0) hp (numb R 0)) fun hp' =>
  (i args' hp' R.length).bind fun c =>
  .chk (Nat.ble R.length c.nid) "contract: next name" <|
  .opt "contract: value" (renSV (bmun R 0 ++ news (c.nid - R.length) R.length nid) c.val) fun v =>
  .opt "contract: objects" (backD (bmun R 0 ++ news (c.nid - R.length) R.length nid) c.hp c.dirty) fun as =>
  .ok ⟨v, hputs hp as, as.map (·.1), nid + (c.nid - R.length)⟩

theorem rlook_append (l m : List (Nat × Nat)) (k : Nat) : rlook (l ++ m) k = match rlook l k with | some b => some b | none => rlook m k := by
  induction l with
  | nil => rfl
  | cons p l ih =>
    obtain ⟨o, n⟩ := p
    simp only [List.cons_append, rlook]
    cases Nat.beq o k with
    | true => rfl
    | false => exact ih
theorem rlook_bmun : ∀ (R : List Nat) (a k : Nat), rlook (bmun R a) k = if a ≤ k then R[k - a]? else none
  | [], a, k => by simp [bmun, rlook]
  | b :: R, a, k => by
    simp only [bmun, rlook]
    cases h : Nat.beq a k with
    | true =>
      have := Nat.eq_of_beq_eq_true h
      subst this
      simp
    | false =>
      have hne := Nat.ne_of_beq_eq_false h
      simp only
      rw [rlook_bmun R (a + 1) k]
      by_cases hk : a ≤ k
      · rw [if_pos hk, if_pos (by omega)]
        rw [show k - a = (k - (a + 1)) + 1 by omega, List.getElem?_cons_succ]
      · rw [if_neg hk, if_neg (by omega)]
theorem rlook_news : ∀ (n a b k : Nat), rlook (news n a b) k = if a ≤ k ∧ k < a + n then some (b + (k - a)) else none
  | 0, a, b, k => by
    rw [if_neg (by omega)]
    rfl
  | n + 1, a, b, k => by
    simp only [news, rlook]
    cases h : Nat.beq a k with
    | true =>
      have := Nat.eq_of_beq_eq_true h
      subst this
      simp
    | false =>
      have hne := Nat.ne_of_beq_eq_false h
      simp only
      rw [rlook_news n (a + 1) (b + 1) k]
      by_cases hk : a ≤ k ∧ k < a + (n + 1)
      · rw [if_pos hk, if_pos (by omega)]
        congr 1
        omega
      · rw [if_neg hk, if_neg (by omega)]
theorem rfind_numb : ∀ (R : List Nat) (a k : Nat), rfind (numb R a) k = if a ≤ k then R[k - a]? else none
  | [], a, k => by simp [numb, rfind]
  | b :: R, a, k => by
    simp only [numb, rfind]
    cases h : Nat.beq a k with
    | true =>
      have := Nat.eq_of_beq_eq_true h
      subst this
      simp
    | false =>
      have hne := Nat.ne_of_beq_eq_false h
      simp only
      rw [rfind_numb R (a + 1) k]
      by_cases hk : a ≤ k
      · rw [if_pos hk, if_pos (by omega)]
        rw [show k - a = (k - (a + 1)) + 1 by omega, List.getElem?_cons_succ]
      · rw [if_neg hk, if_neg (by omega)]
theorem rlook_numb : ∀ (R : List Nat) (a b k : Nat), rlook (numb R a) b = some k → a ≤ k ∧ R[k - a]? = some b
  | [], a, b, k, h => by cases h
  | c :: R, a, b, k, h => by
    simp only [numb, rlook] at h
    split at h
    · rename_i hb
      injection h with h
      subst h
      rw [Nat.eq_of_beq_eq_true hb]
      simp
    · obtain ⟨h1, h2⟩ := rlook_numb R (a + 1) b k h
      refine ⟨by omega, ?_⟩
      rw [show k - a = (k - (a + 1)) + 1 by omega, List.getElem?_cons_succ]
      exact h2
theorem numb_snd : ∀ (R : List Nat) (a : Nat), ((numb R a).map (·.2)).Nodup ∧ ∀ x ∈ (numb R a).map (·.2), a ≤ x
  | [], a => ⟨List.nodup_nil, fun x h => by cases h⟩
  | b :: R, a => by
    obtain ⟨h1, h2⟩ := numb_snd R (a + 1)
    refine ⟨?_, fun x hx => ?_⟩
    · simp only [numb, List.map_cons, List.nodup_cons]
      exact ⟨fun hm => by have := h2 _ hm; omega, h1⟩
    · simp only [numb, List.map_cons, List.mem_cons] at hx
      rcases hx with rfl | hx
      · exact Nat.le_refl _
      · have := h2 x hx
        omega

variable {S : Sys A} {P : Program}
theorem renSVs_ok {r : List (Nat × Nat)} {ρ ρ' : Rho} (hr : Renames r ρ ρ') : ∀ {l l' : List SV} {vs : List Value}, renSVs r l = some l' → F2 (RS ρ) l vs → F2 (RS ρ') l' vs
  | [], l', [], h, _ => by injection h with h; subst h; trivial
  | [], _, _ :: _, _, hv => hv.elim
  | x :: l, l', v :: vs, h, hv => by
    unfold renSVs at h
    split at h
    · rename_i h1 h2
      injection h with h
      subst h
      exact ⟨renSV_ok hr h1 hv.1, renSVs_ok hr h2 hv.2⟩
    · cases h
  | _ :: _, _, [], _, hv => hv.elim
theorem backD_spec {r : List (Nat × Nat)} {hp : HP A} : ∀ {l : List Nat} {as : HP A}, backD r hp l = some as →
    (∀ b, b ∈ as.map (·.1) ↔ ∃ k ∈ l, rlook r k = some b) ∧ ∀ H : Nat → Option (VObj A), (∀ k k' b, rlook r k = some b → rlook r k' = some b → k = k') → ∀ k ∈ l, ∀ b, rlook r k = some b →
      (hget hp k = none → over H as b = none) ∧ ∀ x, hget hp k = some x → ∃ x', renObj r x = some x' ∧ over H as b = some x'
  | [], as, h => by
    injection h with h
    subst h
    exact ⟨fun b => by simp, fun H _ k hk => by cases hk⟩
  | k0 :: l, as, h => by
    unfold backD at h
    split at h
    · rename_i b0 rest hb0 hrest
      obtain ⟨i1, i2⟩ := backD_spec hrest
      have key : ∀ (o : Option (VObj A)), as = (b0, o) :: rest → (hget hp k0 = none → o = none) → (∀ x, hget hp k0 = some x → ∃ x', renObj r x = some x' ∧ o = some x') →
          (∀ b, b ∈ as.map (·.1) ↔ ∃ k ∈ k0 :: l, rlook r k = some b) ∧ ∀ H : Nat → Option (VObj A), (∀ k k' b, rlook r k = some b → rlook r k' = some b → k = k') → ∀ k ∈ k0 :: l, ∀ b, rlook r k = some b →
            (hget hp k = none → over H as b = none) ∧ ∀ x, hget hp k = some x → ∃ x', renObj r x = some x' ∧ over H as b = some x' := by
        rintro o rfl ho1 ho2
        refine ⟨fun b => ?_, fun H hinj k hk b hb => ?_⟩
        · simp only [List.map_cons, List.mem_cons, i1]
          constructor
          · rintro (rfl | ⟨k, hk, hkb⟩)
            · exact ⟨k0, .inl rfl, hb0⟩
            · exact ⟨k, .inr hk, hkb⟩
          · rintro ⟨k, rfl | hk, hkb⟩
            · rw [hb0] at hkb
              injection hkb with hkb
              exact .inl hkb.symm
            · exact .inr ⟨k, hk, hkb⟩
        · by_cases hkl : k ∈ l
          · simp only [over]
            exact i2 _ hinj k hkl b hb
          · have hk0 : k = k0 := by
              rcases List.mem_cons.1 hk with h | h
              · exact h
              · exact absurd h hkl
            subst hk0
            rw [hb0] at hb
            injection hb with hb
            subst hb
            have hout : b0 ∉ rest.map (·.1) := fun hm => by
              obtain ⟨k', hk', hkb'⟩ := (i1 b0).1 hm
              exact hkl (hinj k' k b0 hkb' hb0 ▸ hk')
            simp only [over]
            rw [over_out hout, if_pos rfl]
            exact ⟨ho1, ho2⟩
      split at h
      · rename_i hn
        injection h with h
        exact key none h.symm (fun _ => rfl) (fun x hx => by rw [hn] at hx; cases hx)
      · rename_i x hx
        split at h
        · rename_i x' hx'
          injection h with h
          exact key (some x') h.symm (fun hn => by rw [hx] at hn; cases hn) (fun y hy => by rw [hx] at hy; injection hy with hy; subst hy; exact ⟨x', hx', rfl⟩)
        · cases h
    · cases h

theorem OK_rho {B : Nat} {ρ : Rho} {F : Nat → Prop} {b : Nat} {o : VObj A} {w : World} (h : OK S B ρ F b o w) : ∃ p, ρ b = some p := by
  cases o with
  | cells l ty => obtain ⟨p, _, h, _⟩ := h; exact ⟨p, h⟩
  | tab ks xs ty => obtain ⟨p, _, h, _⟩ := h; exact ⟨p, h⟩
  | rotab ks xs => obtain ⟨p, h, _⟩ := h; exact ⟨p, h⟩
  | abs a => obtain ⟨p, h, _⟩ := h; exact ⟨p, h⟩

/-- A contract where all names from the next one on are free. -/
def FunOKz (S : Sys A) (P : Program) (f : FuncId) (ev : List SV → HP A → Nat → Tr (CR A)) : Prop :=
  ∀ args hp nid r, (ev args hp nid).run = some r → ∀ B ρ F w (vargs : List Value), HR S B (fun k => nid ≤ k) ρ F (hget hp) w → F2 (RS ρ) args vargs →
    Calls P f vargs.toArray w fun e w' => ∃ v ρ' F', e = .returned v ∧ RS ρ' r.val v ∧ HR S B (Zm (fun k => nid ≤ k) nid r.nid) ρ' F' (hget r.hp) w' ∧ Chg (fun b => b ∈ r.dirty) ρ F w ρ' F' w'
theorem FunOK.z {f : FuncId} {i : Intr A} (hi : FunOK S P f i) : FunOKz S P f i := fun args hp nid r hrun B ρ F w vargs hhr hargs =>
  hi args hp nid r hrun B _ ρ F w vargs hhr (fun _ h _ => h) hargs
theorem funOK_ren {f : FuncId} {i : Intr A} (hi : FunOKz S P f i) : FunOK S P f (renI i) := by
  intro args hp nid r hrun B Z ρ F w vargs hhr hz hargs
  unfold renI at hrun
  simp only [Tr.run_chk, Tr.run_opt, Tr.run_bind, Tr.run_ok, Bool.and_eq_true] at hrun
  generalize hR : reach hp 1000 (args.flatMap svIds) [] = R at hrun
  obtain ⟨⟨hnd, hall⟩, args', ha', hp', hh', c, hc, hle, v, hv, as, has, rfl⟩ := hrun
  have hnd := nodup_iff hnd
  have hle := Nat.le_of_ble_eq_true hle
  have hRl : ∀ b ∈ R, b < nid ∧ ∃ o, hget hp b = some o := fun b hb => by
    have := List.all_eq_true.1 hall b hb
    simp only [Bool.and_eq_true, Nat.blt_eq, Option.isSome_iff_exists] at this
    exact this
  generalize hq : bmun R 0 ++ news (c.nid - R.length) R.length nid = q at hv has
  have hlook : ∀ k b, rlook q k = some b ↔ R[k]? = some b ∨ (R.length ≤ k ∧ k < c.nid ∧ b = nid + (k - R.length)) := fun k b => by
    rw [← hq, rlook_append, rlook_bmun, rlook_news]
    simp only [Nat.zero_le, if_true, Nat.sub_zero]
    rcases Nat.lt_or_ge k R.length with hk | hk
    · rw [List.getElem?_eq_getElem hk]
      simp only
      constructor
      · exact .inl
      · rintro (h | h)
        · exact h
        · omega
    · rw [List.getElem?_eq_none hk]
      simp only
      by_cases hk2 : k < c.nid
      · rw [if_pos (by omega)]
        constructor
        · intro h
          injection h with h
          exact .inr ⟨hk, hk2, h.symm⟩
        · rintro (h | ⟨_, _, h⟩)
          · cases h
          · rw [h]
      · rw [if_neg (by omega)]
        constructor
        · intro h; cases h
        · rintro (h | ⟨_, h, _⟩)
          · cases h
          · omega
  have hRR : ∀ {k b}, R[k]? = some b → b ∈ R := fun h => List.mem_of_getElem? h
  have hinjR : ∀ {k k' b}, R[k]? = some b → R[k']? = some b → k = k' := fun {k k' b} h h' => by
    obtain ⟨hk, h1⟩ := List.getElem?_eq_some_iff.1 h
    obtain ⟨hk', h2⟩ := List.getElem?_eq_some_iff.1 h'
    exact (List.getElem_inj hnd (h₀ := hk) (h₁ := hk')).1 (h1.trans h2.symm)
  have hinj : ∀ k k' b, rlook q k = some b → rlook q k' = some b → k = k' := fun k k' b h h' => by
    rw [hlook] at h h'
    rcases h with h | ⟨h1, h2, h3⟩ <;> rcases h' with h' | ⟨h1', h2', h3'⟩
    · exact hinjR h h'
    · have := (hRl b (hRR h)).1
      omega
    · have := (hRl b (hRR h')).1
      omega
    · omega
  -- the given names
  let ρ0 : Rho := fun k => match R[k]? with | some b => ρ b | none => none
  let F0 : Fm := fun k => match R[k]? with | some b => F b | none => fun _ => False
  have e0 : ∀ {k b}, R[k]? = some b → ρ0 k = ρ b ∧ F0 k = F b := fun {k b} h => by constructor <;> simp only [ρ0, F0, h]
  have f0 : ∀ {k}, R[k]? = none → ρ0 k = none ∧ F0 k = fun _ => False := fun {k} h => by constructor <;> simp only [ρ0, F0, h]
  have hF0 : ∀ k x, F0 k x → ∃ b, R[k]? = some b ∧ F b x := fun k x hx => by
    cases hk : R[k]? with
    | none => rw [(f0 hk).2] at hx; exact hx.elim
    | some b => rw [(e0 hk).2] at hx; exact ⟨b, rfl, hx⟩
  have hren0 : Renames (numb R 0) ρ ρ0 := fun o n hl => (e0 (rlook_numb R 0 o n hl).2).1
  have hg := fun k => hget_ren (b := k) hh' (numb_snd R 0).1
  have hHR0 : HR S B (fun k => R.length ≤ k) ρ0 F0 (hget hp') w := by
    refine ⟨fun k x' hx' => ?_, fun k hk x hx => ?_, fun k x hx => ?_, fun k k' x hx hx' => ?_, fun k hk => ?_, hhr.base⟩
    · cases hk : R[k]? with
      | none =>
        have := (hg k).2 (by rw [rfind_numb]; simpa using hk)
        rw [this] at hx'; cases hx'
      | some b =>
        have hf : rfind (numb R 0) k = some b := by rw [rfind_numb]; simpa using hk
        obtain ⟨o, ho⟩ := (hRl b (hRR hk)).2
        obtain ⟨y, hy1, hy2⟩ := ((hg k).1 b hf).1 o ho
        rw [hy2] at hx'
        injection hx' with hx'
        subst hx'
        rw [(e0 hk).2]
        exact renObj_ok hren0 (e0 hk).1 hy1 (hhr.live b o ho)
    · obtain ⟨b, hb, hx⟩ := hF0 k x hx
      have hf : rfind (numb R 0) k = some b := by rw [rfind_numb]; simpa using hb
      obtain ⟨o, ho⟩ := (hRl b (hRR hb)).2
      obtain ⟨y, _, hy2⟩ := ((hg k).1 b hf).1 o ho
      rw [hy2] at hk
      cases hk
    · obtain ⟨b, _, hx⟩ := hF0 k x hx
      exact hhr.bound b x hx
    · obtain ⟨b, hb, hx⟩ := hF0 k x hx
      obtain ⟨b', hb', hx'⟩ := hF0 k' x hx'
      have := hhr.disj b b' x hx hx'
      subst this
      exact hinjR hb hb'
    · exact (f0 (List.getElem?_eq_none hk)).1
  refine (hi args' hp' R.length c hc B ρ0 F0 w vargs hHR0 (renSVs_ok hren0 ha' hargs)).mono ?_
  rintro en w' ⟨u, ρ1, F1, rfl, hu, hHR1, hch⟩
  -- back
  have hfresh : ∀ k, R.length ≤ k → k < c.nid → ρ (nid + (k - R.length)) = none ∧ hget hp (nid + (k - R.length)) = none ∧ F (nid + (k - R.length)) = fun _ => False := fun k h1 h2 => by
    have h3 := hhr.fresh _ (hz (nid + (k - R.length)) (Nat.le_add_right _ _) (by show _ < nid + (c.nid - R.length); omega))
    have h4 : hget hp (nid + (k - R.length)) = none := by
      cases ho : hget hp (nid + (k - R.length)) with
      | none => rfl
      | some o =>
        obtain ⟨p, hp1⟩ := OK_rho (hhr.live _ o ho)
        rw [h3] at hp1
        cases hp1
    refine ⟨h3, h4, ?_⟩
    funext x
    exact propext ⟨fun hx => hhr.dead _ h4 x hx, fun hx => hx.elim⟩
  have hex : ∀ b : Nat, (∃ k, rlook q k = some b) ∨ ∀ k, rlook q k ≠ some b := fun b => by
    by_cases h : ∃ k, rlook q k = some b
    · exact .inl h
    · exact .inr fun k hk => h ⟨k, hk⟩
  obtain ⟨ρ2, F2, e2, f2⟩ : ∃ (ρ2 : Rho) (F2 : Fm), (∀ k b, rlook q k = some b → ρ2 b = ρ1 k ∧ F2 b = F1 k) ∧ ∀ b, (∀ k, rlook q k ≠ some b) → ρ2 b = ρ b ∧ F2 b = F b := by
    refine ⟨fun b => open Classical in if h : ∃ k, rlook q k = some b then ρ1 (Classical.choose h) else ρ b, fun b => open Classical in if h : ∃ k, rlook q k = some b then F1 (Classical.choose h) else F b, fun k b hk => ?_, fun b hb => ?_⟩
    · have h : ∃ k, rlook q k = some b := ⟨k, hk⟩
      have := hinj _ _ b (Classical.choose_spec h) hk
      simp only [dif_pos h, this, and_self]
    · have h : ¬∃ k, rlook q k = some b := fun ⟨k, hk⟩ => hb k hk
      simp only [dif_neg h, and_self]
  have hren2 : Renames q ρ1 ρ2 := fun o n hl => (e2 o n hl).1
  obtain ⟨hD, hov⟩ := backD_spec has
  have hle2 : ρ.le ρ2 := fun b p hp => by
    rcases hex b with ⟨k, hk⟩ | hb
    · rw [(e2 k b hk).1]
      rcases (hlook k b).1 hk with h | ⟨h1, h2, h3⟩
      · exact hch.rho k p ((e0 h).1.trans hp)
      · rw [h3, (hfresh k h1 h2).1] at hp
        cases hp
    · rw [(f2 b hb).1]
      exact hp
  have hc2 : Chg (fun b => b ∈ as.map (·.1)) ρ F w ρ2 F2 w' := by
    refine ⟨hle2, fun b hb => ?_, fun b x hb hx => ?_, hch.same, fun k hk hck => hch.heap k hk fun d hd hdx => ?_⟩
    · rcases hex b with ⟨k, hk⟩ | hb2
      · rw [(e2 k b hk).2]
        have hkd : k ∉ c.dirty := fun hm => hb ((hD b).2 ⟨k, hm, hk⟩)
        rw [hch.keep k hkd]
        rcases (hlook k b).1 hk with h | ⟨h1, h2, h3⟩
        · exact (e0 h).2
        · rw [(f0 (List.getElem?_eq_none h1)).2, h3, (hfresh k h1 h2).2.2]
      · exact (f2 b hb2).2
    · obtain ⟨k, hk, hkb⟩ := (hD b).1 hb
      rw [(e2 k b hkb).2] at hx
      rcases hch.own k x hk hx with h | ⟨d, hd, hdx⟩
      · exact .inl h
      · obtain ⟨b', hb', hx'⟩ := hF0 d x hdx
        exact .inr ⟨b', (hD b').2 ⟨d, hd, (hlook d b').2 (.inl hb')⟩, hx'⟩
    · obtain ⟨b', hb', hx'⟩ := hF0 d k hdx
      exact hck b' ((hD b').2 ⟨d, hd, (hlook d b').2 (.inl hb')⟩) hx'
  refine ⟨u, ρ2, F2, rfl, renSV_ok hren2 hv hu, ?_, hc2⟩
  refine hhr.step hc2 (fun b hb => ?_) (fun b o hb ho => ?_) (fun b hb ho x hx => ?_) (fun b x hb hx => ?_) (fun b b' x hb hb' hx hx' => ?_) (fun b hb => ?_)
  · rw [hget_hputs]
    exact over_out hb
  · obtain ⟨k, hk, hkb⟩ := (hD b).1 hb
    obtain ⟨g1, g2⟩ := hov (hget hp) hinj k hk b hkb
    rw [hget_hputs] at ho
    cases hx : hget c.hp k with
    | none => rw [g1 hx] at ho; cases ho
    | some x =>
      obtain ⟨x', hx1, hx2⟩ := g2 x hx
      rw [hx2] at ho
      injection ho with ho
      subst ho
      rw [(e2 k b hkb).2]
      exact renObj_ok hren2 (e2 k b hkb).1 hx1 (hHR1.live k x hx)
  · obtain ⟨k, hk, hkb⟩ := (hD b).1 hb
    obtain ⟨g1, g2⟩ := hov (hget hp) hinj k hk b hkb
    rw [hget_hputs] at ho
    rw [(e2 k b hkb).2] at hx
    cases hy : hget c.hp k with
    | none => exact hHR1.dead k hy x hx
    | some y =>
      obtain ⟨x', _, hx2⟩ := g2 y hy
      rw [hx2] at ho
      cases ho
  · obtain ⟨k, hk, hkb⟩ := (hD b).1 hb
    rw [(e2 k b hkb).2] at hx
    exact (hHR1.bound k x hx).2
  · obtain ⟨k, hk, hkb⟩ := (hD b).1 hb
    obtain ⟨k', hk', hkb'⟩ := (hD b').1 hb'
    rw [(e2 k b hkb).2] at hx
    rw [(e2 k' b' hkb').2] at hx'
    have := hHR1.disj k k' x hx hx'
    subst this
    rw [hkb] at hkb'
    injection hkb'
  · obtain ⟨hb1, hb2⟩ := hb
    have hρ := hhr.fresh b hb1
    rcases hex b with ⟨k, hk⟩ | hbn
    · rcases (hlook k b).1 hk with h | ⟨h1, h2, h3⟩
      · obtain ⟨o, ho⟩ := (hRl b (hRR h)).2
        obtain ⟨p, hp1⟩ := OK_rho (hhr.live b o ho)
        rw [hρ] at hp1
        cases hp1
      · exact absurd ⟨by omega, by show b < nid + (c.nid - R.length); omega⟩ hb2
    · rw [(f2 b hbn).1]
      exact hρ

/-! ### Numbers as signs, in objects too -/
def symSN (n : SN) : SN := .sym n.val
def symW : VV → VV
  | .int k s => .int k (.sym s.val)
  | .bool b => .bool (.sym b.val)
  | .ts b r len cap => .ts b r (.sym len.val) (cap.map symSN)
  | v => v
def symW1 : S1 → S1
  | .one v => .one (symW v)
  | .agg l => .agg (l.map symW)
def symWS : SV → SV
  | .s x => .s (symW1 x)
  | .t l => .t (l.map symW1)
def symO : VObj A → VObj A
  | .cells l ty => .cells (l.map symW) ty
  | o => o
def symHP : HP A → HP A
  | [] => []
  | (b, o) :: r => (b, o.map symO) :: symHP r
theorem RV_symW {ρ : Rho} {x : VV} {v : Value} : RV ρ (symW x) v ↔ RV ρ x v := by
  cases x with
  | ts b r len cap =>
    cases cap with
    | none => rfl
    | some c => rfl
  | _ => rfl
theorem R1_symW {ρ : Rho} {x : S1} {v : Value} : R1 ρ (symW1 x) v ↔ R1 ρ x v := by
  cases x with
  | one x => exact RV_symW
  | agg l => exact exists_congr fun cs => and_congr Iff.rfl (F2_map fun _ _ => RV_symW)
theorem RS_symW {ρ : Rho} {x : SV} {v : Value} : RS ρ (symWS x) v ↔ RS ρ x v := by
  cases x with
  | s x => exact R1_symW
  | t l => exact exists_congr fun cs => and_congr Iff.rfl (F2_map fun _ _ => R1_symW)
theorem OK_symO {B : Nat} {ρ : Rho} {F : Nat → Prop} {b : Nat} {o : VObj A} {w : World} : OK S B ρ F b (symO o) w ↔ OK S B ρ F b o w := by
  cases o with
  | cells l ty => exact exists_congr fun p => exists_congr fun arr => and_congr Iff.rfl (and_congr Iff.rfl (and_congr Iff.rfl (F2_map fun _ _ => RV_symW)))
  | _ => rfl
theorem hget_symHP : ∀ (hp : HP A) (b : Nat), hget (symHP hp) b = (hget hp b).map symO
  | [], _ => rfl
  | (k, o) :: r, b => by
    simp only [symHP, hget]
    cases Nat.beq k b with
    | true => rfl
    | false => exact hget_symHP r b
theorem HR_symHP {B : Nat} {Z : Nat → Prop} {ρ : Rho} {F : Fm} {hp : HP A} {w : World} (h : HR S B Z ρ F (hget hp) w) : HR S B Z ρ F (hget (symHP hp)) w := by
  refine ⟨fun b o ho => ?_, fun b hb => ?_, h.bound, h.disj, h.fresh, h.base⟩
  · rw [hget_symHP] at ho
    obtain ⟨o', ho', rfl⟩ := Option.map_eq_some_iff.1 ho
    exact OK_symO.2 (h.live b o' ho')
  · rw [hget_symHP] at hb
    refine h.dead b ?_
    cases hg : hget hp b with
    | none => rfl
    | some o => rw [hg] at hb; cases hb
/-- A contract for signs holds for numbers. -/
def symI (i : Intr A) : Intr A := fun args hp nid => i (args.map symWS) (symHP hp) nid
theorem funOK_sym {f : FuncId} {i : Intr A} (hi : FunOK S P f i) : FunOK S P f (symI i) := by
  intro args hp nid r hrun B Z ρ F w vargs hhr hz hargs
  exact hi _ _ _ r hrun B Z ρ F w vargs (HR_symHP hhr) hz ((F2_map fun _ _ => RS_symW).2 hargs)

/-- What a call comes to at its place: what it made and is not led to is dropped. -/
noncomputable def dropI (P : Program) (call : FuncId → List SV → HP A → Nat → Tr (CR A)) (f : FuncId) : Intr A := fun args hp nid =>
  (vcall P call f args hp nid).bind fun e => .ok ⟨e.val, hputs hp e.asg, e.asg.map (·.1), e.nid⟩
theorem funOK_drop {call : FuncId → List SV → HP A → Nat → Tr (CR A)} (hcall : CallOK S P call) (f : FuncId) : FunOK S P f (dropI P call f) := by
  intro args hp nid r hrun B Z ρ F w vargs hhr hz hargs
  unfold dropI at hrun
  rw [Tr.run_bind] at hrun
  obtain ⟨e, he, hrun⟩ := hrun
  rw [Tr.run_ok] at hrun
  subst hrun
  obtain ⟨_, _, h3⟩ := vcall_sound hcall he hhr (fun _ _ => rfl) hz hargs
  refine h3.mono ?_
  rintro en w' ⟨v, rfl, ρ', F', g1, g2, g3⟩
  refine ⟨v, ρ', F', rfl, g1, ?_, g3⟩
  rw [hget_hputs]
  exact g2
/-- A contract by what the evaluation comes to. -/
theorem funOK_of {f : FuncId} {i ev : Intr A} (hev : FunOK S P f ev) (h : ∀ args hp nid r, (i args hp nid).run = some r → (ev args hp nid).run = some r) : FunOK S P f i :=
  fun args hp nid r hrun => hev args hp nid r (h args hp nid r hrun)
def lookH (A : Type) : List (Nat × Intr A) → FuncId → Option (Intr A)
  | [], _ => none
  | p :: l, f => match Nat.beq p.1 f with
    | true => some p.2
    | false => lookH A l f
theorem lookH_ok {l : List (Nat × Intr A)} (h : ∀ p ∈ l, FunOK S P p.1 p.2) : ∀ f i, lookH A l f = some i → FunOK S P f i := by
  induction l with
  | nil => intro f i h; cases h
  | cons p l ih =>
    intro f i hi
    unfold lookH at hi
    split at hi
    · rename_i hb
      injection hi with hi
      subst hi
      have := Nat.eq_of_beq_eq_true hb
      subst this
      exact h p (List.mem_cons_self ..)
    · exact ih (fun p hp => h p (List.mem_cons_of_mem _ hp)) f i hi
/-- The first of two contracts that fits. -/
def orI (a b : Intr A) : Intr A := fun args hp nid => match a args hp nid with
  | .no _ => b args hp nid
  | t => t
theorem funOK_or {f : FuncId} {a b : Intr A} (ha : FunOK S P f a) (hb : FunOK S P f b) : FunOK S P f (orI a b) := by
  intro args hp nid r hrun
  unfold orI at hrun
  split at hrun
  · exact hb args hp nid r hrun
  · exact ha args hp nid r hrun
theorem funOK_obj {f : FuncId} {i : Intr A} (h : FunOK S P f i) : FunOK S P f (renI (symI i)) := funOK_ren (funOK_sym h).z
theorem tab_cons {f : FuncId} {i : Intr A} {l : List (Nat × Intr A)} (h : FunOK S P f i) (hl : ∀ p ∈ l, FunOK S P p.1 p.2) : ∀ p ∈ (f, i) :: l, FunOK S P p.1 p.2 := fun p hp => by
  rcases List.mem_cons.1 hp with rfl | hp
  · exact h
  · exact hl p hp
theorem tab_append {l m : List (Nat × Intr A)} (hl : ∀ p ∈ l, FunOK S P p.1 p.2) (hm : ∀ p ∈ m, FunOK S P p.1 p.2) : ∀ p ∈ l ++ m, FunOK S P p.1 p.2 := fun p hp => by
  rcases List.mem_append.1 hp with hp | hp
  · exact hl p hp
  · exact hm p hp
theorem tab_nil : ∀ p ∈ ([] : List (Nat × Intr A)), FunOK S P p.1 p.2 := fun p hp => by cases hp
end
end Go.Proofs.Ytlkanbgcghjhnaa.Eng
