/-
  The engine, part R: a program logic over the evaluator: states that fit, loops by what is kept, states that are weakened.
-/
import Derived.Test.YtcolladpdmjloaaEngQ
namespace Go.Proofs.Ytcolladpdmjloaa.Eng
open Go Go.RowKit

section
variable {A : Type} {S : Sys A} {P : Program}

/-- Where a function was entered: names from 'nid0' up to 'top' are its own. -/
structure Ctx (A : Type) where
  B : Nat
  Z0 : Nat → Prop
  nid0 : Nat
  top : Nat
  ρ0 : Rho
  F0 : Fm
  w0 : World
  D : Nat → Prop
  own : ∀ b, nid0 ≤ b → b < top → D b ∧ Z0 b
  new : ∀ b, Z0 b → ρ0 b = none
/-- A state fits an activation and a world. -/
def At (S : Sys A) (E : Ctx A) (st : St A) (a : Act) (w : World) : Prop :=
  E.nid0 ≤ st.nid ∧ st.nid ≤ E.top ∧ ∃ ρ F, RA ρ (fun t => st.tm[t]?) a ∧ HR S E.B (Zm E.Z0 E.nid0 st.nid) ρ F (hget st.hp) w ∧ Chg E.D E.ρ0 E.F0 E.w0 ρ F w
/-- From a state that fits, a code leads to one that is told. -/
def Tri (S : Sys A) (P : Program) (E : Ctx A) (c : Code) (st : St A) (Q : VX → St A → Prop) : Prop :=
  ∀ a w, At S E st a w → c.wp P (fun e a' w' => ∃ x st', e = VX.real x ∧ Q x st' ∧ At S E st' a' w') a w
variable {E : Ctx A}
theorem Tri.mono {c : Code} {st : St A} {Q Q' : VX → St A → Prop} (h : Tri S P E c st Q) (hq : ∀ x s, Q x s → Q' x s) : Tri S P E c st Q' :=
  fun a w ha => wp_mono (h a w ha) fun _ _ _ ⟨x, st', h1, h2, h3⟩ => ⟨x, st', h1, hq _ _ h2, h3⟩
/-- Weaker states. -/
def Weak (S : Sys A) (E : Ctx A) (st st' : St A) : Prop := ∀ a w, At S E st a w → At S E st' a w
theorem Tri.weak {c : Code} {st st' : St A} {Q : VX → St A → Prop} (hw : Weak S E st st') (h : Tri S P E c st' Q) : Tri S P E c st Q :=
  fun a w ha => h a w (hw a w ha)
theorem Tri.post {c : Code} {st : St A} {Q Q' : VX → St A → Prop} (h : Tri S P E c st Q) (hq : ∀ x s, Q x s → ∃ s', Weak S E s s' ∧ Q' x s') : Tri S P E c st Q' :=
  fun a w ha => wp_mono (h a w ha) fun _ a' w' ⟨x, st', h1, h2, h3⟩ => by
    obtain ⟨s', hw, hq'⟩ := hq _ _ h2
    exact ⟨x, s', h1, hq', hw _ _ h3⟩
/-- What is evaluated. -/
theorem Tri.ev {c : Code} {ev : St A → Tr (VX × St A)} (hc : CodeOK S P c ev) {st st' : St A} {x : VX} (h : (ev st).run = some (x, st')) (ht : st'.nid ≤ E.top) (hd : ∀ b, b ∈ st'.dirty → E.D b) :
    Tri S P E c st fun y s => y = x ∧ s = st' := by
  rintro a w ⟨h0, h1, ρ, F, ha, hr, hch⟩
  obtain ⟨hl, hwp⟩ := hc st x st' h
  refine hwp E.B _ ρ F a w ha hr (fun b hb1 hb2 => ⟨(E.own b (Nat.le_trans h0 hb1) (Nat.lt_of_lt_of_le hb2 ht)).2, by omega⟩) _ fun a' w' ρ' F' ha' hr' hc' => ?_
  rw [Zm_trans _ h0 hl.nid] at hr'
  exact ⟨x, st', rfl, ⟨rfl, rfl⟩, Nat.le_trans h0 hl.nid, ht, ρ', F', ha', hr', hch.trans (hc'.mono hd)⟩
theorem Tri.seq {c d : Code} {st : St A} {Q R : VX → St A → Prop} (h : Tri S P E c st R) (hn : ∀ s, R .normal s → Tri S P E d s Q) (hx : ∀ x s, x ≠ .normal → R x s → Q x s) : Tri S P E (.seq c d) st Q := by
  intro a w ha
  refine wp_seq (wp_mono (h a w ha) ?_)
  rintro e a' w' ⟨x, s, rfl, h2, h3⟩
  cases x with
  | normal => exact hn s h2 a' w' h3
  | exit id => exact ⟨.exit id, s, rfl, hx _ _ (by simp) h2, h3⟩
  | ret => exact ⟨.ret, s, rfl, hx _ _ (by simp) h2, h3⟩
theorem Tri.block {id : Nat} {c : Code} {st : St A} {Q R : VX → St A → Prop} (h : Tri S P E c st R) (hn : ∀ s, R .normal s ∨ R (.exit id) s → Q .normal s) (hx : ∀ x s, x ≠ .normal → x ≠ .exit id → R x s → Q x s) : Tri S P E (.block id c) st Q := by
  intro a w ha
  refine wp_block (wp_mono (h a w ha) ?_)
  rintro e a' w' ⟨x, s, rfl, h2, h3⟩
  cases x with
  | normal => exact ⟨.normal, s, rfl, hn s (.inl h2), h3⟩
  | exit k =>
    show (if k = id then _ else _)
    by_cases hk : k = id
    · rw [if_pos hk]
      subst hk
      exact ⟨.normal, s, rfl, hn s (.inr h2), h3⟩
    · rw [if_neg hk]
      exact ⟨.exit k, s, rfl, hx _ _ (by simp) (by intro h; injection h with h; exact hk h) h2, h3⟩
  | ret => exact ⟨.ret, s, rfl, hx _ _ (by simp) (by simp) h2, h3⟩
/-- A loop, by what is kept: k rounds at the most are left. -/
theorem Tri.loop {c : Code} {Q : VX → St A → Prop} (J : Nat → St A → Prop)
    (step : ∀ k st, J k st → Tri S P E c st fun x s => match x with | .normal => ∃ k', k' < k ∧ J k' s | x => Q x s) {k : Nat} {st : St A} (h : J k st) : Tri S P E (.loop c) st Q := by
  intro a w ha
  let I : Nat → Act → World → Prop := fun m a' w' => ∃ s, J m s ∧ At S E s a' w'
  have hex : ∀ a' w', (∃ m, I m a' w') → ∃ m, I m a' w' ∧ ∀ k, k < m → ¬I k a' w' := by
    rintro a' w' ⟨m, hm⟩
    induction m using Nat.strongRecOn with
    | _ m ih =>
      by_cases hk : ∃ k, k < m ∧ I k a' w'
      · obtain ⟨k, hk1, hk2⟩ := hk
        exact ih k hk1 hk2
      · exact ⟨m, hm, fun k hk1 hk2 => hk ⟨k, hk1, hk2⟩⟩
  let μ : Act → World → Nat := fun a' w' => open Classical in if h : ∃ m, I m a' w' then Classical.choose (hex a' w' h) else 0
  have hμ : ∀ a' w' m, I m a' w' → I (μ a' w') a' w' ∧ μ a' w' ≤ m := fun a' w' m hm => by
    have hh : ∃ m, I m a' w' := ⟨m, hm⟩
    have hs := Classical.choose_spec (hex a' w' hh)
    have he : μ a' w' = Classical.choose (hex a' w' hh) := by simp only [μ]; rw [dif_pos hh]
    rw [he]
    refine ⟨hs.1, ?_⟩
    rcases Nat.lt_or_ge m (Classical.choose (hex a' w' hh)) with hlt | hge
    · exact absurd hm (hs.2 m hlt)
    · exact hge
  refine wp_loop (fun a' w' => ∃ m, I m a' w') μ ⟨k, st, h, ha⟩ ?_
  rintro a' w' ⟨m, hm⟩
  obtain ⟨⟨s, hs, hat⟩, _⟩ := hμ a' w' m hm
  refine wp_mono (step _ s hs a' w' hat) ?_
  rintro e a'' w'' ⟨x, s', rfl, h2, h3⟩
  cases x with
  | normal =>
    obtain ⟨k', hk', hJ⟩ := h2
    refine ⟨⟨k', s', hJ, h3⟩, ?_⟩
    have := (hμ a'' w'' k' ⟨s', hJ, h3⟩).2
    omega
  | exit id => exact ⟨.exit id, s', rfl, h2, h3⟩
  | ret => exact ⟨.ret, s', rfl, h2, h3⟩
theorem Tri.false {c : Code} {st : St A} {Q : VX → St A → Prop} (h : ∀ a w, ¬At S E st a w) : Tri S P E c st Q := fun a w ha => (h a w ha).elim

/-! ### Weaker states -/
/-- Slot by slot. -/
theorem weak_tm {tm tm' : List SV} {hp : HP A} {nid : Nat} {dirty dirty' : List Nat} (h : ∀ (ρ : Rho) (t : Nat) (v : Option Value), RT ρ tm[t]? v → RT ρ tm'[t]? v) : Weak S E ⟨tm, hp, nid, dirty⟩ ⟨tm', hp, nid, dirty'⟩ := by
  rintro a w ⟨h0, h1, ρ, F, ha, hr, hch⟩
  exact ⟨h0, h1, ρ, F, ⟨ha.defers, fun t => h ρ t _ (ha.tmps t)⟩, hr, hch⟩
/-- Numbers as signs. -/
theorem weak_sym {tm : List SV} {hp : HP A} {nid : Nat} {dirty dirty' : List Nat} : Weak S E ⟨tm, hp, nid, dirty⟩ ⟨tm.map symSV, hp, nid, dirty'⟩ :=
  weak_tm fun ρ t v h => by
    rw [List.getElem?_map]
    cases ht : tm[t]? with
    | none => rw [ht] at h; exact h
    | some x =>
      rw [ht] at h
      cases v with
      | none => exact h
      | some v => exact RS_sym.2 h

/-! ### Names anew -/
def rlook : List (Nat × Nat) → Nat → Option Nat
  | [], _ => none
  | (o, n) :: r, b => match Nat.beq o b with
    | true => some n
    | false => rlook r b
def rfind : List (Nat × Nat) → Nat → Option Nat
  | [], _ => none
  | (o, n) :: r, b => match Nat.beq n b with
    | true => some o
    | false => rfind r b
theorem rlook_mem : ∀ {r : List (Nat × Nat)} {o n : Nat}, rlook r o = some n → (o, n) ∈ r
  | (o', n') :: r, o, n, h => by
    unfold rlook at h
    split at h
    · rename_i hb
      injection h with h
      have := Nat.eq_of_beq_eq_true hb
      subst h this
      exact List.mem_cons_self ..
    · exact List.mem_cons_of_mem _ (rlook_mem h)
theorem rfind_mem : ∀ {r : List (Nat × Nat)} {o n : Nat}, rfind r n = some o → (o, n) ∈ r
  | (o', n') :: r, o, n, h => by
    unfold rfind at h
    split at h
    · rename_i hb
      injection h with h
      have := Nat.eq_of_beq_eq_true hb
      subst h this
      exact List.mem_cons_self ..
    · exact List.mem_cons_of_mem _ (rfind_mem h)
theorem mem_rfind : ∀ {r : List (Nat × Nat)} {o n : Nat}, (r.map (·.2)).Nodup → (o, n) ∈ r → rfind r n = some o
  | (o', n') :: r, o, n, hd, h => by
    rw [List.map_cons, List.nodup_cons] at hd
    unfold rfind
    split
    · rename_i hb
      have := Nat.eq_of_beq_eq_true hb
      subst this
      rcases List.mem_cons.1 h with h | h
      · injection h with h1 h2
        rw [h1]
      · exact absurd (List.mem_map.2 ⟨_, h, rfl⟩) hd.1
    · rename_i hb
      rcases List.mem_cons.1 h with h | h
      · injection h with h1 h2
        subst h2
        exact absurd rfl (Nat.ne_of_beq_eq_false hb)
      · exact mem_rfind hd.2 h
def renVV (r : List (Nat × Nat)) : VV → Option VV
  | .ptr b off => (rlook r b).map fun n => .ptr n off
  | .tptr b x c => (rlook r b).map fun n => .tptr n x c
  | .sl b off len cap => (rlook r b).map fun n => .sl n off len cap
  | .ts b x len cap => (rlook r b).map fun n => .ts n x len cap
  | .an b len => (rlook r b).map fun n => .an n len
  | .fn f a c => match renPs r a, renPs r c with
    | some a', some c' => some (.fn f a' c')
    | _, _ => none
  | v => some v
where
  renPs (r : List (Nat × Nat)) : List (Nat × Nat) → Option (List (Nat × Nat))
    | [] => some []
    | (b, off) :: l => match rlook r b, renPs r l with
      | some n, some l' => some ((n, off) :: l')
      | _, _ => none
def renVVs (r : List (Nat × Nat)) : List VV → Option (List VV)
  | [] => some []
  | v :: l => match renVV r v, renVVs r l with
    | some v', some l' => some (v' :: l')
    | _, _ => none
def renS1 (r : List (Nat × Nat)) : S1 → Option S1
  | .one v => (renVV r v).map .one
  | .agg l => (renVVs r l).map .agg
def renS1s (r : List (Nat × Nat)) : List S1 → Option (List S1)
  | [] => some []
  | v :: l => match renS1 r v, renS1s r l with
    | some v', some l' => some (v' :: l')
    | _, _ => none
def renSV (r : List (Nat × Nat)) : SV → Option SV
  | .s x => (renS1 r x).map .s
  | .t l => (renS1s r l).map .t
def renSVs (r : List (Nat × Nat)) : List SV → Option (List SV)
  | [] => some []
  | v :: l => match renSV r v, renSVs r l with
    | some v', some l' => some (v' :: l')
    | _, _ => none
def renObj (r : List (Nat × Nat)) : VObj A → Option (VObj A)
  | .cells l ty => (renVVs r l).map fun l' => .cells l' ty
  | o => some o
/-- The heap under new names; what has none is dropped. -/
def renHP (r : List (Nat × Nat)) (hp : HP A) : List (Nat × Nat) → Option (HP A)
  | [] => some []
  | (o, n) :: l => match hget hp o with
    | none => renHP r hp l
    | some x => match renObj r x, renHP r hp l with
      | some x', some l' => some ((n, some x') :: l')
      | _, _ => none

/-- The places go with their names. -/
def Renames (r : List (Nat × Nat)) (ρ ρ' : Rho) : Prop := ∀ o n, rlook r o = some n → ρ' n = ρ o
theorem renPs_ok {r : List (Nat × Nat)} {ρ ρ' : Rho} (hr : Renames r ρ ρ') : ∀ {l l' : List (Nat × Nat)} {vs : List Value}, renVV.renPs r l = some l' → F2 (RP ρ) l vs → F2 (RP ρ') l' vs
  | [], l', [], h, _ => by
    injection h with h
    subst h
    trivial
  | [], _, _ :: _, _, hv => hv.elim
  | (b, off) :: l, l', v :: vs, h, hv => by
    unfold renVV.renPs at h
    split at h
    · rename_i n l2 h1 h2
      injection h with h
      subst h
      obtain ⟨p, hp, hx⟩ := hv.1
      exact ⟨⟨p, (hr _ _ h1).trans hp, hx⟩, renPs_ok hr h2 hv.2⟩
    · cases h
  | _ :: _, _, [], _, hv => hv.elim
theorem renVV_ok {r : List (Nat × Nat)} {ρ ρ' : Rho} (hr : Renames r ρ ρ') {x x' : VV} {v : Value} (h : renVV r x = some x') (hv : RV ρ x v) : RV ρ' x' v := by
  cases x with
  | ptr b off =>
    obtain ⟨n, hn, rfl⟩ := Option.map_eq_some_iff.1 h
    obtain ⟨p, hp, hx⟩ := hv
    exact ⟨p, (hr _ _ hn).trans hp, hx⟩
  | tptr b x c =>
    obtain ⟨n, hn, rfl⟩ := Option.map_eq_some_iff.1 h
    obtain ⟨p, hp, hx⟩ := hv
    exact ⟨p, (hr _ _ hn).trans hp, hx⟩
  | sl b off len cap =>
    obtain ⟨n, hn, rfl⟩ := Option.map_eq_some_iff.1 h
    obtain ⟨p, hp, hx⟩ := hv
    exact ⟨p, (hr _ _ hn).trans hp, hx⟩
  | ts b x len cap =>
    obtain ⟨n, hn, rfl⟩ := Option.map_eq_some_iff.1 h
    obtain ⟨p, hp, hx⟩ := hv
    exact ⟨p, (hr _ _ hn).trans hp, hx⟩
  | fn f a c =>
    simp only [renVV] at h
    cases h1 : renVV.renPs r a with
    | none => rw [h1] at h; cases h
    | some a' =>
      cases h2 : renVV.renPs r c with
      | none => rw [h1, h2] at h; cases h
      | some c' =>
        rw [h1, h2] at h
        injection h with h
        subst h
        obtain ⟨va, vc, h3, h4, h5⟩ := hv
        exact ⟨va, vc, renPs_ok hr h1 h3, renPs_ok hr h2 h4, h5⟩
  | int k n => injection h with h; subst h; exact hv
  | bool b => injection h with h; subst h; exact hv
  | nilp => injection h with h; subst h; exact hv
  | nils => injection h with h; subst h; exact hv
  | es => injection h with h; subst h; exact hv
  | an b len =>
    obtain ⟨n, hn, rfl⟩ := Option.map_eq_some_iff.1 h
    obtain ⟨o, cap, h1, h2, h3, h4⟩ := hv
    exact ⟨o, cap, h1, h2, h3, fun hl => by obtain ⟨p, hp, ho⟩ := h4 hl; exact ⟨p, (hr _ _ hn).trans hp, ho⟩⟩
  | nilf => injection h with h; subst h; exact hv
  | any => injection h with h; subst h; exact hv
  | raw v => injection h with h; subst h; exact hv
theorem renVVs_ok {r : List (Nat × Nat)} {ρ ρ' : Rho} (hr : Renames r ρ ρ') : ∀ {l l' : List VV} {vs : List Value}, renVVs r l = some l' → F2 (RV ρ) l vs → F2 (RV ρ') l' vs
  | [], l', [], h, _ => by injection h with h; subst h; trivial
  | [], _, _ :: _, _, hv => hv.elim
  | x :: l, l', v :: vs, h, hv => by
    unfold renVVs at h
    split at h
    · rename_i h1 h2
      injection h with h
      subst h
      exact ⟨renVV_ok hr h1 hv.1, renVVs_ok hr h2 hv.2⟩
    · cases h
  | _ :: _, _, [], _, hv => hv.elim
theorem renS1_ok {r : List (Nat × Nat)} {ρ ρ' : Rho} (hr : Renames r ρ ρ') {x x' : S1} {v : Value} (h : renS1 r x = some x') (hv : R1 ρ x v) : R1 ρ' x' v := by
  cases x with
  | one x =>
    obtain ⟨n, hn, rfl⟩ := Option.map_eq_some_iff.1 h
    exact renVV_ok hr hn hv
  | agg l =>
    obtain ⟨n, hn, rfl⟩ := Option.map_eq_some_iff.1 h
    obtain ⟨cs, h1, h2⟩ := hv
    exact ⟨cs, h1, renVVs_ok hr hn h2⟩
theorem renS1s_ok {r : List (Nat × Nat)} {ρ ρ' : Rho} (hr : Renames r ρ ρ') : ∀ {l l' : List S1} {vs : List Value}, renS1s r l = some l' → F2 (R1 ρ) l vs → F2 (R1 ρ') l' vs
  | [], l', [], h, _ => by injection h with h; subst h; trivial
  | [], _, _ :: _, _, hv => hv.elim
  | x :: l, l', v :: vs, h, hv => by
    unfold renS1s at h
    split at h
    · rename_i h1 h2
      injection h with h
      subst h
      exact ⟨renS1_ok hr h1 hv.1, renS1s_ok hr h2 hv.2⟩
    · cases h
  | _ :: _, _, [], _, hv => hv.elim
theorem renSV_ok {r : List (Nat × Nat)} {ρ ρ' : Rho} (hr : Renames r ρ ρ') {x x' : SV} {v : Value} (h : renSV r x = some x') (hv : RS ρ x v) : RS ρ' x' v := by
  cases x with
  | s x =>
    obtain ⟨n, hn, rfl⟩ := Option.map_eq_some_iff.1 h
    exact renS1_ok hr hn hv
  | t l =>
    obtain ⟨n, hn, rfl⟩ := Option.map_eq_some_iff.1 h
    obtain ⟨cs, h1, h2⟩ := hv
    exact ⟨cs, h1, renS1s_ok hr hn h2⟩
end
end Go.Proofs.Ytcolladpdmjloaa.Eng
