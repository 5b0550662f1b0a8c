/-
  The engine, part S: a state under new names.
-/
import Derived.Test.YtcolladpdmjloaaEngR
namespace Go.Proofs.Ytcolladpdmjloaa.Eng
open Go Go.RowKit

section
variable {A : Type} {S : Sys A} {P : Program} {E : Ctx A}
def nodupB : List Nat → Bool
  | [] => true
  | n :: l => !memN n l && nodupB l
theorem nodup_iff : ∀ {l : List Nat}, nodupB l = true → l.Nodup
  | [], _ => List.nodup_nil
  | n :: l, h => by
    simp only [nodupB, Bool.and_eq_true, Bool.not_eq_true'] at h
    rw [List.nodup_cons]
    refine ⟨fun hm => ?_, nodup_iff h.2⟩
    rw [(memN_iff _ _).2 hm] at h
    cases h.1
def renChk (r : List (Nat × Nat)) (hp : HP A) (nid0 nid nid' : Nat) : Bool :=
  nodupB (r.map (·.2)) && nodupB (r.map (·.1)) && r.all (fun p => Nat.blt p.1 nid && (match Nat.blt p.1 nid0 || Nat.blt p.2 nid0 with | true => Nat.beq p.1 p.2 | false => Nat.blt p.2 nid')) &&
    hp.all (fun p => match p.2 with | none => true | some _ => Nat.blt p.1 nid && (Nat.ble nid0 p.1 || (match rfind r p.1 with | some o => Nat.beq o p.1 | none => false)))
theorem hget_mem {b : Nat} {o : VObj A} : ∀ {hp : HP A}, hget hp b = some o → ∃ p ∈ hp, p.1 = b ∧ p.2 = some o
  | (k, q) :: r, h => by
    unfold hget at h
    split at h
    · rename_i hb
      exact ⟨(k, q), List.mem_cons_self .., Nat.eq_of_beq_eq_true hb, h⟩
    · obtain ⟨p, hp, h1, h2⟩ := hget_mem h
      exact ⟨p, List.mem_cons_of_mem _ hp, h1, h2⟩
theorem hget_ren {r : List (Nat × Nat)} {hp : HP A} {b : Nat} : ∀ {l : List (Nat × Nat)} {hp' : HP A}, renHP r hp l = some hp' → (l.map (·.2)).Nodup →
    (∀ o, rfind l b = some o → (∀ x, hget hp o = some x → ∃ x', renObj r x = some x' ∧ hget hp' b = some x') ∧ (hget hp o = none → hget hp' b = none)) ∧ (rfind l b = none → hget hp' b = none)
  | [], hp', h, _ => by
    injection h with h
    subst h
    exact ⟨fun o h => (by cases h), fun _ => rfl⟩
  | (o', n') :: l, hp', h, hd => by
    rw [List.map_cons, List.nodup_cons] at hd
    have hno : rfind l n' = none := by
      cases hf : rfind l n' with
      | none => rfl
      | some o => exact absurd (List.mem_map.2 ⟨_, rfind_mem hf, rfl⟩) hd.1
    unfold renHP at h
    cases ho : hget hp o' with
    | none =>
      rw [ho] at h
      obtain ⟨h1, h2⟩ := hget_ren (b := b) h hd.2
      unfold rfind
      cases hb : Nat.beq n' b with
      | true =>
        have := Nat.eq_of_beq_eq_true hb
        subst this
        refine ⟨fun o hoo => ?_, fun hoo => by cases hoo⟩
        injection hoo with hoo
        subst hoo
        exact ⟨fun x hx => (by rw [ho] at hx; cases hx), fun _ => h2 hno⟩
      | false => exact ⟨fun o hoo => h1 o hoo, fun hoo => h2 hoo⟩
    | some x =>
      rw [ho] at h
      simp only at h
      cases hx : renObj r x with
      | none => rw [hx] at h; cases h
      | some x' =>
        cases hl : renHP r hp l with
        | none => rw [hx, hl] at h; cases h
        | some l' =>
          rw [hx, hl] at h
          injection h with h
          subst h
          obtain ⟨h1, h2⟩ := hget_ren (b := b) hl hd.2
          unfold rfind
          cases hb : Nat.beq n' b with
          | true =>
            refine ⟨fun o hoo => ?_, fun hoo => by cases hoo⟩
            injection hoo with hoo
            subst hoo
            refine ⟨fun y hy => ?_, fun hy => by rw [ho] at hy; cases hy⟩
            rw [ho] at hy
            injection hy with hy
            subst hy
            exact ⟨x', hx, by simp [hget, hb]⟩
          | false =>
            refine ⟨fun o hoo => ?_, fun hoo => ?_⟩
            · simpa [hget, hb] using h1 o hoo
            · simpa [hget, hb] using h2 hoo

theorem renObj_ok {r : List (Nat × Nat)} {ρ ρ' : Rho} (hr : Renames r ρ ρ') {B o n : Nat} {F : Nat → Prop} {x x' : VObj A} {w : World} (hn : ρ' n = ρ o) (h : renObj r x = some x') (hx : OK S B ρ F o x w) : OK S B ρ' F n x' w := by
  cases x with
  | cells l ty =>
    obtain ⟨l', hl, rfl⟩ := Option.map_eq_some_iff.1 h
    obtain ⟨p, arr, hp, hf, hw, hc⟩ := hx
    exact ⟨p, arr, hn.trans hp, hf, hw, renVVs_ok hr hl hc⟩
  | tab ks xs ty =>
    injection h with h
    subst h
    obtain ⟨p, arr, hp, rest⟩ := hx
    exact ⟨p, arr, hn.trans hp, rest⟩
  | rotab ks xs =>
    injection h with h
    subst h
    obtain ⟨p, hp, rest⟩ := hx
    exact ⟨p, hn.trans hp, rest⟩
  | abs a =>
    injection h with h
    subst h
    obtain ⟨p, hp, rest⟩ := hx
    exact ⟨p, hn.trans hp, rest⟩

/-! ### Values without names -/
theorem raws : ∀ {ρ : Rho} {l : List VV} {vs : List Value}, F2 (RV ρ) l vs → ∀ ρ', F2 (RV ρ') (vs.map .raw) vs
  | _, [], [], _, _ => trivial
  | _, _ :: _, _ :: _, h, ρ' => ⟨⟨rfl, h.1.one⟩, raws h.2 ρ'⟩
  | _, [], _ :: _, h, _ => h.elim
  | _, _ :: _, [], h, _ => h.elim
theorem plain1 {ρ : Rho} {x : S1} {v : Value} (h : R1 ρ x v) : ∃ x', ∀ ρ', R1 ρ' x' v := by
  cases x with
  | one x => exact ⟨.one (.raw v), fun ρ' => ⟨rfl, RV.one h⟩⟩
  | agg l =>
    obtain ⟨cs, h1, h2⟩ := h
    exact ⟨.agg (cs.map .raw), fun ρ' => ⟨cs, h1, raws h2 ρ'⟩⟩
theorem plain1s : ∀ {ρ : Rho} {l : List S1} {vs : List Value}, F2 (R1 ρ) l vs → ∃ l', ∀ ρ', F2 (R1 ρ') l' vs
  | _, [], [], _ => ⟨[], fun _ => trivial⟩
  | _, _ :: _, _ :: _, h => by
    obtain ⟨x, hx⟩ := plain1 h.1
    obtain ⟨l, hl⟩ := plain1s h.2
    exact ⟨x :: l, fun ρ' => ⟨hx ρ', hl ρ'⟩⟩
  | _, [], _ :: _, h => h.elim
  | _, _ :: _, [], h => h.elim
theorem plainS {ρ : Rho} {x : SV} {v : Value} (h : RS ρ x v) : ∃ x', ∀ ρ', RS ρ' x' v := by
  cases x with
  | s x =>
    obtain ⟨x', hx⟩ := plain1 h
    exact ⟨.s x', hx⟩
  | t l =>
    obtain ⟨vs, h1, h2⟩ := h
    obtain ⟨l', hl⟩ := plain1s h2
    exact ⟨.t l', fun ρ' => ⟨vs, h1, hl ρ'⟩⟩

theorem junk_get (js : Nat → SV) : ∀ (n k i : Nat), i < n → (junk js n k)[i]? = some (js (k + i))
  | n + 1, k, 0, _ => rfl
  | n + 1, k, i + 1, h => by
    rw [junk, List.getElem?_cons_succ, junk_get js n (k + 1) i (by omega)]
    congr 2
    omega
theorem renSVs_get {r : List (Nat × Nat)} : ∀ {l l' : List SV}, renSVs r l = some l' → l'.length = l.length ∧ ∀ (i : Nat) (x : SV), l[i]? = some x → ∃ x', l'[i]? = some x' ∧ renSV r x = some x'
  | [], l', h => by injection h with h; subst h; exact ⟨rfl, fun i x hx => by simp at hx⟩
  | y :: l, l', h => by
    unfold renSVs at h
    split at h
    · rename_i y' l2 h1 h2
      injection h with h
      subst h
      obtain ⟨h3, h4⟩ := renSVs_get h2
      refine ⟨by simp [h3], fun i x hx => ?_⟩
      cases i with
      | zero =>
        simp only [List.getElem?_cons_zero, Option.some.injEq] at hx
        subst hx
        exact ⟨y', rfl, h1⟩
      | succ i => exact h4 i x (by simpa using hx)
    · cases h

theorem pair_unique {r : List (Nat × Nat)} (h : (r.map (·.1)).Nodup) {o b c : Nat} (h1 : (o, b) ∈ r) (h2 : (o, c) ∈ r) : b = c := by
  induction r with
  | nil => cases h1
  | cons p r ih =>
    rw [List.map_cons, List.nodup_cons] at h
    rcases List.mem_cons.1 h1 with e1 | e1 <;> rcases List.mem_cons.1 h2 with e2 | e2
    · rw [← e1] at e2; injection e2 with _ e2; exact e2.symm
    · exact absurd (List.mem_map.2 ⟨_, e2, by rw [← e1]⟩) h.1
    · exact absurd (List.mem_map.2 ⟨_, e1, by rw [← e2]⟩) h.1
    · exact ih h.2 e1 e2
/-- A state under new names: the first slots and the named objects are kept, the other slots are any values without names. -/
theorem at_rename {tm pre pre' : List SV} {hp hp' : HP A} {nid nid' m n : Nat} {dirty dirty' : List Nat} {a : Act} {w : World} (r : List (Nat × Nat)) (hpre : tm.take m = pre) (hlen : tm.length = m + n)
    (h1 : renSVs r pre = some pre') (h2 : renHP r hp r = some hp') (hchk : renChk r hp E.nid0 nid nid' = true) (hn0 : E.nid0 ≤ nid') (hn1 : nid' ≤ E.top) (h : At S E ⟨tm, hp, nid, dirty⟩ a w) :
    ∃ js, At S E ⟨pre' ++ junk js n m, hp', nid', dirty'⟩ a w := by
  obtain ⟨b0, b1, ρ, F, ha, hr, hch⟩ := h
  simp only [renChk, Bool.and_eq_true] at hchk
  obtain ⟨⟨⟨c1, c2⟩, c3⟩, c4⟩ := hchk
  have c1 := nodup_iff c1
  have c2 := nodup_iff c2
  have c3 : ∀ o n, (o, n) ∈ r → o < nid ∧ ((o < E.nid0 ∨ n < E.nid0) → o = n) ∧ (E.nid0 ≤ n → n < nid') := fun o n hm => by
    have := List.all_eq_true.1 c3 _ hm
    simp only [Bool.and_eq_true, Nat.blt_eq] at this
    obtain ⟨d1, d2⟩ := this
    cases hb : (Nat.blt o E.nid0 || Nat.blt n E.nid0) with
    | true =>
      rw [hb] at d2
      have := Nat.eq_of_beq_eq_true d2
      subst this
      refine ⟨d1, fun _ => rfl, fun hge => ?_⟩
      simp only [Bool.or_eq_true, Nat.blt_eq] at hb
      omega
    | false =>
      rw [hb] at d2
      simp only [Bool.or_eq_false_iff] at hb
      have e1 : ¬ o < E.nid0 := fun hlt => by have := hb.1; rw [← Nat.blt_eq] at hlt; rw [hlt] at this; cases this
      have e2 : ¬ n < E.nid0 := fun hlt => by have := hb.2; rw [← Nat.blt_eq] at hlt; rw [hlt] at this; cases this
      exact ⟨d1, fun h => (by omega), fun _ => (by rw [← Nat.blt_eq]; exact d2)⟩
  have c4 : ∀ b o, hget hp b = some o → b < nid ∧ (E.nid0 ≤ b ∨ rfind r b = some b) := fun b o hb => by
    obtain ⟨p, hp1, rfl, hp3⟩ := hget_mem hb
    have := List.all_eq_true.1 c4 _ hp1
    rw [hp3] at this
    simp only [Bool.and_eq_true, Nat.blt_eq, Bool.or_eq_true] at this
    refine ⟨this.1, this.2.imp (fun h => Nat.le_of_ble_eq_true h) fun h => ?_⟩
    cases hf : rfind r p.1 with
    | none => rw [hf] at h; cases h
    | some o' =>
      rw [hf] at h
      have := Nat.eq_of_beq_eq_true h
      rw [this]
  let ρ' : Rho := fun b => match rfind r b with
    | some o => ρ o
    | none => if E.nid0 ≤ b ∧ b < nid then none else ρ b
  let F' : Fm := fun b => match rfind r b with
    | some o => F o
    | none => if E.nid0 ≤ b ∧ b < nid then (fun _ => False) else F b
  have e1 : ∀ {b o}, rfind r b = some o → ρ' b = ρ o ∧ F' b = F o := fun {b o} h => by constructor <;> simp only [ρ', F', h]
  have e2 : ∀ {b}, rfind r b = none → E.nid0 ≤ b ∧ b < nid → ρ' b = none ∧ F' b = fun _ => False := fun {b} h h' => by constructor <;> simp only [ρ', F', h, if_pos h']
  have e3 : ∀ {b}, rfind r b = none → ¬(E.nid0 ≤ b ∧ b < nid) → ρ' b = ρ b ∧ F' b = F b := fun {b} h h' => by constructor <;> simp only [ρ', F', h, if_neg h']
  have hren : Renames r ρ ρ' := fun o n hl => (e1 (mem_rfind c1 (rlook_mem hl))).1
  have hg : ∀ b, (∀ o, rfind r b = some o → (∀ x, hget hp o = some x → ∃ x', renObj r x = some x' ∧ hget hp' b = some x') ∧ (hget hp o = none → hget hp' b = none)) ∧ (rfind r b = none → hget hp' b = none) := fun b => hget_ren h2 c1
  have hlow : ∀ b o, rfind r b = some o → b < E.nid0 → o = b := fun b o h hlt => (c3 o b (rfind_mem h)).2.1 (.inr hlt)
  have hF : ∀ b x, F' b x → (∃ o, rfind r b = some o ∧ F o x) ∨ (rfind r b = none ∧ ¬(E.nid0 ≤ b ∧ b < nid) ∧ F b x) := fun b x hx => by
    cases hf : rfind r b with
    | some o => rw [(e1 hf).2] at hx; exact .inl ⟨o, rfl, hx⟩
    | none =>
      by_cases hb : E.nid0 ≤ b ∧ b < nid
      · rw [(e2 hf hb).2] at hx; exact hx.elim
      · rw [(e3 hf hb).2] at hx; exact .inr ⟨rfl, hb, hx⟩
  have hHR : HR S E.B (Zm E.Z0 E.nid0 nid') ρ' F' (hget hp') w := by
    refine ⟨fun b x' hx' => ?_, fun b hb x hx => ?_, fun b x hx => ?_, fun b c x hb hc => ?_, fun b hb => ?_, hr.base⟩
    · cases hf : rfind r b with
      | none => rw [(hg b).2 hf] at hx'; cases hx'
      | some o =>
        cases ho : hget hp o with
        | none => rw [((hg b).1 o hf).2 ho] at hx'; cases hx'
        | some x =>
          obtain ⟨y, hy1, hy2⟩ := ((hg b).1 o hf).1 x ho
          rw [hy2] at hx'
          injection hx' with hx'
          subst hx'
          rw [(e1 hf).2]
          exact renObj_ok hren (e1 hf).1 hy1 (hr.live o x ho)
    · rcases hF b x hx with ⟨o, ho, hfx⟩ | ⟨hf, hnb, hfx⟩
      · cases hgo : hget hp o with
        | none => exact hr.dead o hgo x hfx
        | some y =>
          obtain ⟨y', _, hy2⟩ := ((hg b).1 o ho).1 y hgo
          have hb : hget hp' b = none := hb
          rw [hb] at hy2
          cases hy2
      · cases hgo : hget hp b with
        | none => exact hr.dead b hgo x hfx
        | some y =>
          obtain ⟨d1, d2⟩ := c4 b y hgo
          rcases d2 with d2 | d2
          · exact hnb ⟨d2, d1⟩
          · rw [hf] at d2; cases d2
    · rcases hF b x hx with ⟨o, _, hfx⟩ | ⟨_, _, hfx⟩ <;> exact hr.bound _ x hfx
    · rcases hF b x hb with ⟨o, ho, hfx⟩ | ⟨hf, hnb, hfx⟩ <;> rcases hF c x hc with ⟨o', ho', hfx'⟩ | ⟨hf', hnb', hfx'⟩
      · have := hr.disj o o' x hfx hfx'
        subst this
        have m1 := rfind_mem ho
        have m2 := rfind_mem ho'
        exact pair_unique c2 m1 m2
      · have := hr.disj o c x hfx hfx'
        subst this
        have m1 := c3 o b (rfind_mem ho)
        exact (m1.2.1 (.inl (by omega))).symm
      · have := hr.disj b o' x hfx hfx'
        subst this
        have m1 := c3 b c (rfind_mem ho')
        exact m1.2.1 (.inl (by omega))
      · exact hr.disj b c x hfx hfx'
    · obtain ⟨hz, hnot⟩ := hb
      cases hf : rfind r b with
      | some o =>
        rw [(e1 hf).1]
        have m1 := c3 o b (rfind_mem hf)
        have hlt : b < E.nid0 := by
          rcases Nat.lt_or_ge b E.nid0 with h | h
          · exact h
          · exact absurd ⟨h, m1.2.2 h⟩ hnot
        rw [hlow b o hf hlt]
        exact hr.fresh b ⟨hz, by omega⟩
      | none =>
        by_cases hb : E.nid0 ≤ b ∧ b < nid
        · exact (e2 hf hb).1
        · rw [(e3 hf hb).1]
          exact hr.fresh b ⟨hz, hb⟩
  have hCh : Chg E.D E.ρ0 E.F0 E.w0 ρ' F' w := by
    refine ⟨fun b p hp => ?_, fun b hb => ?_, fun b x hb hx => ?_, hch.same, hch.heap⟩
    · have hb := hch.rho b p hp
      have hlow' : ¬(E.nid0 ≤ b ∧ b < E.top) := fun h => by
        rw [E.new b (E.own b h.1 h.2).2] at hp
        cases hp
      cases hf : rfind r b with
      | some o =>
        have m1 := c3 o b (rfind_mem hf)
        have hlt : b < E.nid0 := by
          rcases Nat.lt_or_ge b E.nid0 with h | h
          · exact h
          · exact absurd ⟨h, Nat.lt_of_lt_of_le (m1.2.2 h) hn1⟩ hlow'
        rw [(e1 hf).1, hlow b o hf hlt]
        exact hb
      | none => rw [(e3 hf fun h => hlow' ⟨h.1, Nat.lt_of_lt_of_le h.2 b1⟩).1]; exact hb
    · have hlow' : ¬(E.nid0 ≤ b ∧ b < E.top) := fun h => hb (E.own b h.1 h.2).1
      rw [← hch.keep b hb]
      cases hf : rfind r b with
      | some o =>
        have m1 := c3 o b (rfind_mem hf)
        have hlt : b < E.nid0 := by
          rcases Nat.lt_or_ge b E.nid0 with h | h
          · exact h
          · exact absurd ⟨h, Nat.lt_of_lt_of_le (m1.2.2 h) hn1⟩ hlow'
        rw [(e1 hf).2, hlow b o hf hlt]
      | none => exact (e3 hf fun h => hlow' ⟨h.1, Nat.lt_of_lt_of_le h.2 b1⟩).2
    · rcases hF b x hx with ⟨o, ho, hfx⟩ | ⟨hf, hnb, hfx⟩
      · by_cases hDo : E.D o
        · exact hch.own o x hDo hfx
        · exfalso
          have m1 := c3 o b (rfind_mem ho)
          have hlt : o < E.nid0 := by
            rcases Nat.lt_or_ge o E.nid0 with h | h
            · exact h
            · exact absurd (E.own o h (Nat.lt_of_lt_of_le m1.1 b1)).1 hDo
          rw [m1.2.1 (.inl hlt)] at hDo
          exact hDo hb
      · exact hch.own b x hb hfx
  -- the slots
  have hslot : ∀ t : Nat, ∃ x' : SV, ∀ x, tm[t]? = some x → ∀ ρ2 v, a.tmps[t]? = some v → RS ρ2 x' v := fun t => by
    have := ha.tmps t
    cases ht : tm[t]? with
    | none => exact ⟨.undef, fun x hx => by cases hx⟩
    | some x =>
      rw [ht] at this
      cases hv : a.tmps[t]? with
      | none => exact ⟨.undef, fun _ _ _ v hv => by cases hv⟩
      | some v =>
        rw [hv] at this
        obtain ⟨x', hx'⟩ := plainS (show RS ρ x v from this)
        refine ⟨x', fun _ _ ρ2 v2 hv2 => ?_⟩
        injection hv2 with hv2
        subst hv2
        exact hx' ρ2
  obtain ⟨js, hjs⟩ : ∃ js : Nat → SV, ∀ t x, tm[t]? = some x → ∀ ρ2 v, a.tmps[t]? = some v → RS ρ2 (js t) v := ⟨fun t => Classical.choose (hslot t), fun t => Classical.choose_spec (hslot t)⟩
  refine ⟨js, hn0, hn1, ρ', F', ⟨ha.defers, fun t => ?_⟩, hHR, hCh⟩
  obtain ⟨g1, g2⟩ := renSVs_get h1
  have hprelen : pre.length = m := by rw [← hpre, List.length_take]; omega
  have hat := ha.tmps t
  show RT ρ' (pre' ++ junk js n m)[t]? a.tmps[t]?
  rcases Nat.lt_or_ge t m with htm | htm
  · have htlt : t < tm.length := by omega
    have hx : tm[t]? = some tm[t] := List.getElem?_eq_getElem htlt
    have hx' : pre[t]? = some tm[t] := by rw [← hpre, List.getElem?_take, if_pos htm]; exact hx
    obtain ⟨x', hx1, hx2⟩ := g2 t _ hx'
    rw [List.getElem?_append_left (by omega), hx1]
    have hat : RT ρ tm[t]? a.tmps[t]? := hat
    rw [hx] at hat
    cases hv : a.tmps[t]? with
    | none => rw [hv] at hat; exact hat.elim
    | some v =>
      rw [hv] at hat
      exact renSV_ok hren hx2 hat
  · rw [List.getElem?_append_right (by omega)]
    have hat : RT ρ tm[t]? a.tmps[t]? := hat
    rcases Nat.lt_or_ge t (m + n) with htn | htn
    · have hx : tm[t]? = some tm[t] := List.getElem?_eq_getElem (by omega)
      rw [junk_get _ n m _ (by omega), g1, hprelen, show m + (t - m) = t by omega]
      cases hv : a.tmps[t]? with
      | none => rw [hx, hv] at hat; exact hat.elim
      | some v => exact hjs t _ hx ρ' v hv
    · rw [List.getElem?_eq_none (by rw [length_junk]; omega)]
      rw [List.getElem?_eq_none (by omega)] at hat
      cases hv : a.tmps[t]? with
      | none => trivial
      | some v => rw [hv] at hat; exact hat.elim
end
end Go.Proofs.Ytcolladpdmjloaa.Eng
