/-
  The engine, part Zb: a group is opened, a code runs, the group is closed.
-/
import Derived.Test.YtlkanbgcghjhnaaEngZa
namespace Go.Proofs.Ytlkanbgcghjhnaa.Eng
open Go Go.RowKit
set_option linter.unusedVariables false

section
variable {A : Type} {S : Sys A} {P : Program} {E : Ctx A}
abbrev XF := (Exit → Act → World → Prop) → Act → World → Prop
def Mono (X : XF) : Prop := ∀ (Q Q' : Exit → Act → World → Prop) (a : Act) (w : World), X Q a w → (∀ e a w, Q e a w → Q' e a w) → X Q' a w
/-- What leads from states that fit to states that are told: a code, or the first statements of one. -/
def TriX (S : Sys A) (X : XF) (E : Ctx A) (st : St A) (Q : VX → St A → Prop) : Prop :=
  ∀ a w, At S E st a w → X (fun e a' w' => ∃ x st', e = VX.real x ∧ Q x st' ∧ At S E st' a' w') a w
theorem mono_wp (c : Code) : Mono (c.wp P) := fun _ _ _ _ h hq => wp_mono h hq
def seqs : List Code → Code → Code
  | [], c => c
  | a :: l, c => .seq a (seqs l c)
/-- Statements that stand first, whatever follows. -/
def listX (P : Program) (l : List Code) : XF := fun Q a w =>
  ∀ (rest : Code) (R : Exit → Act → World → Prop), (∀ a' w', Q .normal a' w' → rest.wp P R a' w') → (∀ e a' w', e ≠ .normal → Q e a' w' → R e a' w') → (seqs l rest).wp P R a w
theorem mono_list (l : List Code) : Mono (listX P l) := fun _ _ _ _ h hq rest R h1 h2 => h rest R (fun a w hw => h1 a w (hq _ _ _ hw)) fun e a w he hw => h2 e a w he (hq _ _ _ hw)
theorem TriX.rest {l : List Code} {c : Code} {st : St A} {Q R : VX → St A → Prop} (h : TriX S (listX P l) E st R) (hn : ∀ s, R .normal s → Tri S P E c s Q) (hx : ∀ x s, x ≠ .normal → R x s → Q x s) : Tri S P E (seqs l c) st Q := by
  intro a w ha
  refine h a w ha c _ ?_ ?_
  · rintro a' w' ⟨x, s, e, h2, h3⟩
    cases x with
    | normal => exact hn s h2 a' w' h3
    | exit id => cases e
    | ret => cases e
  · rintro e a' w' he ⟨x, s, rfl, h2, h3⟩
    exact ⟨x, s, rfl, hx x s (fun h => he (by rw [h]; rfl)) h2, h3⟩
theorem TriX.mono {X : XF} (hX : Mono X) {st : St A} {Q Q' : VX → St A → Prop} (h : TriX S X E st Q) (hq : ∀ x s, Q x s → Q' x s) : TriX S X E st Q' :=
  fun a w ha => hX _ _ _ _ (h a w ha) fun _ _ _ ⟨x, st', h1, h2, h3⟩ => ⟨x, st', h1, hq _ _ h2, h3⟩
theorem TriX.postE {X : XF} (hX : Mono X) {st : St A} {Q Q' : VX → St A → Prop} (h : TriX S X E st Q) (hq : ∀ x s a w, Q x s → At S E s a w → ∃ s', At S E s' a w ∧ Q' x s') : TriX S X E st Q' :=
  fun a w ha => hX _ _ _ _ (h a w ha) fun _ a' w' ⟨x, st', h1, h2, h3⟩ => by
    obtain ⟨s', h4, h5⟩ := hq x st' a' w' h2 h3
    exact ⟨x, s', h1, h5, h4⟩
/-- First statements by their evaluation. -/
theorem triX_list {call : FuncId → List SV → HP A → Nat → Tr (CR A)} {n : Nat} (hc : ∀ c, CodeOK S P c (evCode P call n c)) : ∀ {l : List Code} {st st1 : St A}, (evList (P := P) call n l st).run = some (.normal, st1) → st1.nid ≤ E.top → (∀ b, b ∈ st1.dirty → E.D b) →
    TriX S (listX P l) E st fun x s => x = .normal ∧ s = st1
  | [], st, st1, h, ht, hd, a, w, ha, rest, R, h1, h2 => by
    rw [evList, Tr.run_ok] at h
    cases h
    exact h1 a w ⟨.normal, st, rfl, ⟨rfl, rfl⟩, ha⟩
  | c :: l, st, st1, h, ht, hd, a, w, ha, rest, R, h1, h2 => by
    rw [evList, Tr.run_bind] at h
    obtain ⟨⟨x, st'⟩, g1, g2⟩ := h
    cases x with
    | normal =>
      have l2 := list_later hc g2
      refine wp_seq (wp_mono (Tri.ev (hc c) g1 (Nat.le_trans l2.nid ht) (fun b hb => hd b (l2.dirty b hb)) a w ha) ?_)
      rintro e a' w' ⟨y, s, rfl, ⟨rfl, rfl⟩, h3⟩
      exact triX_list hc g2 ht hd a' w' h3 rest R h1 h2
    | exit k => rw [Tr.run_ok] at g2; cases g2
    | ret => rw [Tr.run_ok] at g2; cases g2
end
section
variable {tyW tyA : TypeId} {E : Ctx MObj}
/-- What is asked of the objects that are hidden again: names of their own. -/
def grpChk (Zr : Nat → Bool) (nid snid b : Nat) (r2 : List (Nat × Nat)) (gN : HP MObj) : Bool :=
  nodupB (r2.map (·.1)) && nodupB (r2.map (·.2)) && r2.all (fun p => Nat.ble nid p.1 && Nat.blt p.1 snid && !(Nat.beq p.1 b) && Zr p.2 && !(Nat.beq p.2 0)) && gN.all (fun p => plainO p.2)
theorem tri_group {X : XF} (hX : Mono X) {tm : List SV} {hp : HP MObj} {nid : Nat} {dirty : List Nat} {Q : VX → St MObj → Prop} (b : Nat) (g gK gF : HP Unit) (mask : List Bool) (L Lr : List VV) (ty : TypeId) (hpK : HP MObj) (Zr : Nat → Bool)
    (hb : hget hp b = some (.abs (.grp g))) (hg : ∀ n, hget g n = hget ((0, some (.cells L ty)) :: (gK ++ gF)) n)
    (hk : ∀ p ∈ gK, p.1 ≠ 0 ∧ Zr p.1 = true ∧ p.2.isSome = true) (hnd : (gK.map (·.1)).Nodup) (hm : mask.length = L.length) (h0Z : Zr 0 = true)
    (hZL : ∀ (i : Nat) x, mask[i]? = some true → L[i]? = some x → ∀ n ∈ vvIds x, Zr n = false) (hZF : ∀ n o, hget gF n = some o → Zr n = false ∧ ∀ m ∈ objIds o, Zr m = false)
    (hLr : renMask (numb (gK.map (·.1)) nid) mask L = some Lr) (hhK : renHP (numb (gK.map (·.1)) nid) (upHP gK) (numb (gK.map (·.1)) nid) = some hpK)
    (htop : nid + gK.length ≤ E.top) (hDb : E.D b)
    (inner : ∀ (vs : Nat → Value) (E1 : Ctx MObj), E1.nid0 = nid + gK.length → E1.top = E.top → (∀ n, E.D n → E1.D n) →
      TriX (memSys tyW tyA) X E1 ⟨tm, hpK ++ hset hp b (.cells (rawAt vs mask 0 Lr) ty), nid + gK.length, []⟩ fun x s =>
        ∃ (L1 Lr1 : List VV) (r2 : List (Nat × Nat)) (gN : HP MObj) (g' : HP Unit), hget s.hp b = some (.cells (rawAt vs mask 0 L1) ty) ∧ renMask r2 mask L1 = some Lr1 ∧ renHP r2 s.hp r2 = some gN ∧ grpChk Zr nid s.nid b r2 gN = true ∧
          (∀ n, hget g' n = hget ((0, some (.cells (mixAt mask L Lr1) ty)) :: (dnHP gN ++ gF)) n) ∧ Q x ⟨s.tm, closeH b g' (r2.map (·.1)) s.hp, s.nid, []⟩) :
    TriX (memSys tyW tyA) X E ⟨tm, hp, nid, dirty⟩ Q := by
  rintro a w ⟨h0, h1, ρ, F, ha, hr, hch⟩
  have h0 : E.nid0 ≤ nid := h0
  have h1 : nid ≤ E.top := h1
  have hr : HR (memSys tyW tyA) E.B (Zm E.Z0 E.nid0 nid) ρ F (hget hp) w := hr
  obtain ⟨p, hpb, ρg, Gg, pg, hpg, hblk, hlive, hdead, hdisj, hFx⟩ := hr.live b _ hb
  have hgK : ∀ q ∈ gK, q.2.isSome = true := fun q hq => (hk q hq).2.2
  generalize hKdef : gK.map (·.1) = K at hnd hLr hhK
  generalize hjdef : gK.length = j at htop inner
  have hKlen : K.length = j := by rw [← hKdef, ← hjdef]; simp
  have hKm : ∀ k ∈ K, k ≠ 0 ∧ Zr k = true := fun k hk' => by
    rw [← hKdef] at hk'
    obtain ⟨q, hq, rfl⟩ := List.mem_map.1 hk'
    exact ⟨(hk q hq).1, (hk q hq).2.1⟩
  have hrf : ∀ n k, rfind (numb K nid) n = some k → nid ≤ n ∧ n < nid + j ∧ K[n - nid]? = some k ∧ k ∈ K := fun n k h => by
    rw [rfind_numb] at h
    split at h
    · rename_i hle
      have h2 := List.getElem?_eq_some_iff.1 h
      obtain ⟨h3, _⟩ := h2
      exact ⟨hle, by omega, h, List.mem_of_getElem? h⟩
    · cases h
  have hrn : ∀ n, rfind (numb K nid) n = none → ¬(nid ≤ n ∧ n < nid + j) := fun n h hh => by
    rw [rfind_numb, if_pos hh.1, List.getElem?_eq_none_iff] at h
    omega
  have hfz : ∀ n, nid ≤ n → n < nid + j → ρ n = none ∧ hget hp n = none ∧ F n = fun _ => False := fun n h2 h3 => by
    have hz : ρ n = none := hr.fresh n ⟨(E.own n (by omega) (by omega)).2, by omega⟩
    have hn : hget hp n = none := by
      cases ho : hget hp n with
      | none => rfl
      | some o => obtain ⟨q, hq⟩ := OK_rho (hr.live n o ho); rw [hz] at hq; cases hq
    exact ⟨hz, hn, funext fun x => propext ⟨fun hx => hr.dead n hn x hx, fun hx => hx.elim⟩⟩
  have hbr : rfind (numb K nid) b = none := by
    cases h : rfind (numb K nid) b with
    | none => rfl
    | some k => obtain ⟨h2, h3, _⟩ := hrf b k h; rw [(hfz b h2 h3).1] at hpb; cases hpb
  -- the group's objects
  have hg0 : hget g 0 = some (.cells L ty) := by rw [hg]; rfl
  have hgn : ∀ n, n ≠ 0 → hget g n = oor (hget gK n) (hget gF n) := fun n hn => by
    rw [hg, hget_ne hn, hget_app hgK]
  have hKF : ∀ k ∈ K, hget gF k = none := fun k hk' => by
    cases ho : hget gF k with
    | none => rfl
    | some o => have := (hZF k o ho).1; rw [(hKm k hk').2] at this; cases this
  have hFne : ∀ n o, hget gF n = some o → n ≠ 0 ∧ n ∉ K := fun n o ho => by
    refine ⟨fun e => ?_, fun hm => ?_⟩
    · subst e; have := (hZF 0 o ho).1; rw [h0Z] at this; cases this
    · rw [hKF n hm] at ho; cases ho
  have hgKn : ∀ n o, hget gK n = some o → n ∈ K := fun n o ho => by
    obtain ⟨q, hq, h2, _⟩ := hget_mem ho
    rw [← hKdef, ← h2]
    exact List.mem_map.2 ⟨q, hq, rfl⟩
  have hgF : ∀ n o, hget gF n = some o → hget g n = some o := fun n o ho => by
    obtain ⟨h2, h3⟩ := hFne n o ho
    rw [hgn n h2]
    cases hgk : hget gK n with
    | none => exact ho
    | some o' => exact absurd (hgKn n o' hgk) h3
  obtain ⟨pg', arr, hpg', hGf, hwp, hLa⟩ := hlive 0 _ hg0
  rw [hpg] at hpg'
  injection hpg' with hpg'
  subst hpg'
  -- the names that are opened
  let ρo : Rho := fun n => match rfind (numb K nid) n with | some k => ρg k | none => ρ n
  let Fo : Fm := fun n => if n = b then Gg 0 else match rfind (numb K nid) n with | some k => Gg k | none => F n
  have eo : ∀ {n k}, rfind (numb K nid) n = some k → ρo n = ρg k ∧ Fo n = Gg k := fun {n k} h => by
    have hnb : n ≠ b := fun e => by subst e; rw [hbr] at h; cases h
    constructor
    · simp only [ρo, h]
    · simp only [Fo, if_neg hnb, h]
  have en : ∀ {n}, rfind (numb K nid) n = none → ρo n = ρ n := fun {n} h => by simp only [ρo, h]
  have enF : ∀ {n}, rfind (numb K nid) n = none → n ≠ b → Fo n = F n := fun {n} h hn => by simp only [Fo, if_neg hn, h]
  have eb : Fo b = Gg 0 := by simp only [Fo, if_pos]
  have hren : Renames (numb K nid) ρg ρo := fun o n hl => by
    have := rlook_numb K nid o n hl
    have h2 : rfind (numb K nid) n = some o := by rw [rfind_numb, if_pos this.1]; exact this.2
    exact (eo h2).1
  have hle : ρ.le ρo := fun n q hq => by
    cases h : rfind (numb K nid) n with
    | none => rw [en h]; exact hq
    | some k => obtain ⟨h2, h3, _⟩ := hrf n k h; rw [(hfz n h2 h3).1] at hq; cases hq
  let vs : Nat → Value := fun i => arr.toList.getD i (.bool false)
  have hvs : ∀ (n : Nat) v, arr.toList[n]? = some v → vs (0 + n) = v := fun n v hv => by
    simp only [vs, Nat.zero_add, List.getD_eq_getElem?_getD, hv, Option.getD_some]
  have hgK2 := fun n => hget_ren (b := n) hhK (numb_snd K nid).1
  have hsK := renHP_some hhK
  generalize hH1 : hpK ++ hset hp b (.cells (rawAt vs mask 0 Lr) ty) = hp1 at *
  have hl1 : ∀ n, hget hp1 n = oor (hget hpK n) (if n = b then some (.cells (rawAt vs mask 0 Lr) ty) else hget hp n) := fun n => by
    rw [← hH1, hget_app hsK, hget_hset]
  have hl1n : ∀ n, rfind (numb K nid) n = none → hget hp1 n = if n = b then some (.cells (rawAt vs mask 0 Lr) ty) else hget hp n := fun n h => by
    rw [hl1, (hgK2 n).2 h]
    rfl
  have hl1s : ∀ n k, rfind (numb K nid) n = some k → ∃ x x', hget gK k = some x ∧ renObj (numb K nid) (ofU x) = some x' ∧ hget hp1 n = some x' := fun n k h => by
    have hk2 := (hrf n k h).2.2.2
    rw [← hKdef] at hk2
    obtain ⟨q, hq, hqk⟩ := List.mem_map.1 hk2
    cases ho : hget gK k with
    | none =>
      exfalso
      have : ∀ (l : HP Unit), (∀ q ∈ l, q.2.isSome = true) → hget l k = none → k ∉ l.map (·.1) := by
        intro l
        induction l with
        | nil => intro _ _ h; cases h
        | cons y l ih =>
          obtain ⟨c, o⟩ := y
          intro hs hn hm
          simp only [hget] at hn
          cases hb : Nat.beq c k with
          | true =>
            rw [hb] at hn
            have := hs (c, o) (List.mem_cons_self ..)
            simp only at hn
            rw [hn] at this
            cases this
          | false =>
            rw [hb] at hn
            rcases List.mem_cons.1 hm with h | h
            · exact absurd h.symm (Nat.ne_of_beq_eq_false hb)
            · exact ih (fun q hq => hs q (List.mem_cons_of_mem _ hq)) hn h
      exact this gK hgK ho hk2
    | some x =>
      obtain ⟨x', h2, h3⟩ := ((hgK2 n).1 k h).1 (ofU x) (by rw [hget_upHP, ho]; rfl)
      exact ⟨x, x', rfl, h2, by rw [hl1, h3]; rfl⟩
  have hgk : ∀ k x, hget gK k = some x → hget g k = some x := fun k x hx => by
    rw [hgn k (hKm k (hgKn k x hx)).1, hx]
    rfl
  have hFsub : ∀ n x, Fo n x → ∃ d, F d x ∧ ((rfind (numb K nid) n = none ∧ d = n) ∨ ∃ k, rfind (numb K nid) n = some k ∧ d = b ∧ Gg k x) := fun n x hx => by
    by_cases e : n = b
    · subst e
      rw [eb] at hx
      exact ⟨n, (hFx x).2 ⟨0, hx⟩, .inl ⟨hbr, rfl⟩⟩
    · cases h : rfind (numb K nid) n with
      | none => rw [enF h e] at hx; exact ⟨n, hx, .inl ⟨rfl, rfl⟩⟩
      | some k => rw [(eo h).2] at hx; exact ⟨b, (hFx x).2 ⟨k, hx⟩, .inr ⟨k, rfl, rfl, hx⟩⟩
  have hnid0 : E.nid0 ≤ nid := h0
  have hpub : ∀ {n k}, rfind (numb K nid) n = some k → E.D n := fun {n k} h => by
    obtain ⟨h2, h3, _⟩ := hrf n k h
    exact (E.own n (by omega) (by omega)).1
  let E1 : Ctx MObj := {
    B := E.B, Z0 := Zm E.Z0 E.nid0 (nid + j), nid0 := nid + j, top := E.top, ρ0 := ρo, F0 := Fo, w0 := w, D := E.D
    own := fun n h2 h3 => ⟨(E.own n (by omega) h3).1, (E.own n (by omega) h3).2, by omega⟩
    new := fun n hn => by
      have h2 : rfind (numb K nid) n = none := by
        cases h : rfind (numb K nid) n with
        | none => rfl
        | some k => obtain ⟨h3, h4, _⟩ := hrf n k h; exact absurd ⟨Nat.le_trans hnid0 h3, h4⟩ hn.2
      rw [en h2]
      refine hr.fresh n ⟨hn.1, fun hh => hn.2 ⟨hh.1, ?_⟩⟩
      have : n < nid := hh.2
      omega }
  have hHR1 : HR (memSys tyW tyA) E.B (Zm E1.Z0 E1.nid0 (nid + j)) ρo Fo (hget hp1) w := by
    rw [show E1.nid0 = nid + j from rfl, Zm_self]
    refine ⟨fun n o ho => ?_, fun n hn x hx => ?_, fun n x hx => ?_, fun n n' x hx hx' => ?_, fun n hn => E1.new n hn, hr.base⟩
    · cases h : rfind (numb K nid) n with
      | some k =>
        obtain ⟨x, x', g1, g2, g3⟩ := hl1s n k h
        rw [g3] at ho
        injection ho with ho
        subst ho
        rw [(eo h).2]
        exact renObj_ok hren (eo h).1 g2 (ofU_ok (hlive k x (hgk k x g1)))
      | none =>
        rw [hl1n n h] at ho
        by_cases e : n = b
        · subst e
          rw [if_pos rfl] at ho
          injection ho with ho
          subst ho
          rw [eb]
          refine ⟨p, arr, (en hbr).trans hpb, fun x => by rw [← hblk]; exact hGf x, by rw [← hblk]; exact hwp, rawAt_ok hren hLr hLa hvs⟩
        · rw [if_neg e] at ho
          rw [enF h e]
          exact (hr.live n o ho).frame _ hle rfl (fun _ _ => rfl) (fun _ _ => rfl)
    · cases h : rfind (numb K nid) n with
      | some k =>
        obtain ⟨y, y', _, _, g3⟩ := hl1s n k h
        rw [g3] at hn
        cases hn
      | none =>
        rw [hl1n n h] at hn
        by_cases e : n = b
        · rw [if_pos e] at hn; cases hn
        · rw [if_neg e] at hn
          rw [enF h e] at hx
          exact hr.dead n hn x hx
    · obtain ⟨d, hd, _⟩ := hFsub n x hx
      exact hr.bound d x hd
    · by_cases e : n = b
      · by_cases e' : n' = b
        · rw [e, e']
        · subst e
          rw [eb] at hx
          cases h' : rfind (numb K nid) n' with
          | none =>
            rw [enF h' e'] at hx'
            exact hr.disj n n' x ((hFx x).2 ⟨0, hx⟩) hx'
          | some k =>
            rw [(eo h').2] at hx'
            have := hdisj 0 k x hx hx'
            exact absurd this.symm (hKm k (hrf n' k h').2.2.2).1
      · cases h : rfind (numb K nid) n with
        | none =>
          rw [enF h e] at hx
          obtain ⟨d, hd, hd2⟩ := hFsub n' x hx'
          have := hr.disj n d x hx hd
          rcases hd2 with ⟨_, rfl⟩ | ⟨k, _, rfl, _⟩
          · exact this
          · exact absurd this e
        | some k =>
          rw [(eo h).2] at hx
          by_cases e' : n' = b
          · subst e'
            rw [eb] at hx'
            have := hdisj k 0 x hx hx'
            exact absurd this (hKm k (hrf n k h).2.2.2).1
          · cases h' : rfind (numb K nid) n' with
            | none =>
              rw [enF h' e'] at hx'
              have := hr.disj b n' x ((hFx x).2 ⟨k, hx⟩) hx'
              exact absurd this.symm e'
            | some k' =>
              rw [(eo h').2] at hx'
              have := hdisj k k' x hx hx'
              subst this
              obtain ⟨g1, g2, g3, _⟩ := hrf n k h
              obtain ⟨g1', g2', g3', _⟩ := hrf n' k h'
              obtain ⟨i1, i2⟩ := List.getElem?_eq_some_iff.1 g3
              obtain ⟨i1', i2'⟩ := List.getElem?_eq_some_iff.1 g3'
              have := (List.getElem_inj hnd (h₀ := i1) (h₁ := i1')).1 (i2.trans i2'.symm)
              omega
  have hHR1 : HR (memSys tyW tyA) E.B (Zm E1.Z0 E1.nid0 (nid + j)) ρo Fo (hget (hpK ++ hset hp b (.cells (rawAt vs mask 0 Lr) ty))) w := by rw [hH1]; exact hHR1
  refine hX _ _ _ _ (inner vs E1 rfl rfl (fun _ h => h) a w ⟨Nat.le_refl _, htop, ρo, Fo, ⟨ha.defers, fun t => RT.mono hle (ha.tmps t)⟩, hHR1, Chg.refl _ _ _ _⟩) ?_
  rintro e a' w' ⟨x, s, rfl, ⟨L1, Lr1, r2, gN, g', hsb, hLr1, hgN, hchk, hg', hQ⟩, i0, i1, ρ1, F1, ha', hr', hch'⟩
  have i0 : nid + j ≤ s.nid := i0
  have i1 : s.nid ≤ E.top := i1
  simp only [grpChk, Bool.and_eq_true] at hchk
  obtain ⟨⟨⟨c1, c2⟩, c3⟩, c4⟩ := hchk
  have c1 := nodup_iff c1
  have c2 := nodup_iff c2
  have c3 : ∀ q n, (q, n) ∈ r2 → nid ≤ q ∧ q < s.nid ∧ q ≠ b ∧ Zr n = true ∧ n ≠ 0 := fun q n hm => by
    have := List.all_eq_true.1 c3 _ hm
    simp only [Bool.and_eq_true, Nat.blt_eq, Bool.not_eq_true'] at this
    obtain ⟨⟨⟨⟨d1, d2⟩, d3⟩, d4⟩, d5⟩ := this
    exact ⟨Nat.le_of_ble_eq_true d1, d2, Nat.ne_of_beq_eq_false d3, d4, Nat.ne_of_beq_eq_false d5⟩
  have c4 : ∀ n o, hget gN n = some o → plainO (some o) = true := fun n o ho => by
    obtain ⟨q, hq, _, h2⟩ := hget_mem ho
    have := List.all_eq_true.1 c4 _ hq
    rw [h2] at this
    exact this
  have hsN := renHP_some hgN
  have hgN2 := fun n => hget_ren (b := n) hgN c2
  refine ⟨x, _, rfl, hQ, Nat.le_trans hnid0 (Nat.le_trans (Nat.le_add_right _ _) i0), i1, ρ1, ?_⟩
  have hpubD : ∀ q n, (q, n) ∈ r2 → E.D q := fun q n hm => by
    obtain ⟨d1, d2, _⟩ := c3 q n hm
    exact (E.own q (Nat.le_trans hnid0 d1) (Nat.lt_of_lt_of_le d2 i1)).1
  have hpm : ∀ q, q ∈ r2.map (·.1) → ∃ n, (q, n) ∈ r2 := fun q hq => by
    obtain ⟨y, hy, rfl⟩ := List.mem_map.1 hq
    exact ⟨y.2, hy⟩
  -- what is framed: blocks of the group's other objects
  have hfr : ∀ n o x, hget gF n = some o → Gg n x → ∀ d, ¬Fo d x := fun n o x ho hx d hd => by
    obtain ⟨d', h2, h3⟩ := hFsub d x hd
    have hFb : F b x := (hFx x).2 ⟨n, hx⟩
    have := hr.disj b d' x hFb h2
    subst this
    rcases h3 with ⟨h4, h5⟩ | ⟨k, h4, _, h5⟩
    · have hdb : d = b := h5.symm
      subst hdb
      rw [eb] at hd
      exact (hFne n o ho).1 (hdisj n 0 x hx hd)
    · have := hdisj n k x hx h5
      subst this
      exact (hFne n o ho).2 (hrf d n h4).2.2.2
  have hfr1 : ∀ n o x, hget gF n = some o → Gg n x → ∀ d, ¬F1 d x := fun n o x ho hx d hd => by
    have hlt := (hr.bound b x ((hFx x).2 ⟨n, hx⟩)).2
    by_cases hD : E.D d
    · rcases hch'.own d x hD hd with h2 | ⟨c, _, h3⟩
      · have h2 : w.heap.size ≤ x := h2
        omega
      · exact hfr n o x ho hx c h3
    · have := hch'.keep d hD
      rw [this] at hd
      exact hfr n o x ho hx d hd
  have hfw : ∀ n o x, hget gF n = some o → Gg n x → w'.heap[x]? = w.heap[x]? := fun n o x ho hx =>
    hch'.heap x (hr.bound b x ((hFx x).2 ⟨n, hx⟩)).2 fun c _ hc => hfr n o x ho hx c hc
  have hρb : ρ1 b = some p := hch'.rho b p ((en hbr).trans hpb)
  let F3 : Fm := fun n => if n = b then (fun x => F1 b x ∨ (∃ q, q ∈ r2.map (·.1) ∧ F1 q x) ∨ ∃ k, (∃ o, hget gF k = some o) ∧ Gg k x) else if n ∈ r2.map (·.1) then (fun _ => False) else F1 n
  have f3b : F3 b = fun x => F1 b x ∨ (∃ q, q ∈ r2.map (·.1) ∧ F1 q x) ∨ ∃ k, (∃ o, hget gF k = some o) ∧ Gg k x := by simp only [F3, if_pos]
  have f3p : ∀ {n}, n ≠ b → n ∈ r2.map (·.1) → F3 n = fun _ => False := fun {n} h2 h3 => by simp only [F3, if_neg h2, if_pos h3]
  have f3n : ∀ {n}, n ≠ b → n ∉ r2.map (·.1) → F3 n = F1 n := fun {n} h2 h3 => by simp only [F3, if_neg h2, if_neg h3]
  let ρ2 : Rho := fun n => if n = 0 then ρ1 b else match rfind r2 n with | some q => ρ1 q | none => ρg n
  let G2 : Fm := fun n => if n = 0 then F1 b else match rfind r2 n with | some q => F1 q | none => fun x => (∃ o, hget gF n = some o) ∧ Gg n x
  have z0 : ρ2 0 = ρ1 b ∧ G2 0 = F1 b := by constructor <;> simp only [ρ2, G2, if_pos]
  have zs : ∀ {n q}, n ≠ 0 → rfind r2 n = some q → ρ2 n = ρ1 q ∧ G2 n = F1 q := fun {n q} h2 h3 => by constructor <;> simp only [ρ2, G2, if_neg h2, h3]
  have zn : ∀ {n}, n ≠ 0 → rfind r2 n = none → ρ2 n = ρg n ∧ G2 n = fun x => (∃ o, hget gF n = some o) ∧ Gg n x := fun {n} h2 h3 => by constructor <;> simp only [ρ2, G2, if_neg h2, h3]
  have hZn : ∀ n, Zr n = false → n ≠ 0 ∧ rfind r2 n = none := fun n hn => by
    refine ⟨fun e => (by subst e; rw [h0Z] at hn; cases hn), ?_⟩
    cases h : rfind r2 n with
    | none => rfl
    | some q => have := (c3 q n (rfind_mem h)).2.2.2.1; rw [hn] at this; cases this
  have hren2 : Renames r2 ρ1 ρ2 := fun q n hl => by
    have hm := rlook_mem hl
    exact (zs (c3 q n hm).2.2.2.2 (mem_rfind c2 hm)).1
  have hg'0 : hget g' 0 = some (.cells (mixAt mask L Lr1) ty) := by rw [hg']; rfl
  have hg'n : ∀ n, n ≠ 0 → hget g' n = oor ((hget gN n).map toU) (hget gF n) := fun n hn => by
    rw [hg', hget_ne hn, hget_app (dnHP_some hsN), hget_dnHP]
  have hsbl := hr'.live b _ hsb
  obtain ⟨p1, arr1, hp1, hf1, hw1, hl1'⟩ := hsbl
  have hgrp : OK (memSys tyW tyA) E.B ρ1 (F3 b) b (.abs (.grp g')) w' := by
    refine ⟨p, hρb, ρ2, G2, p, z0.1.trans hρb, rfl, fun n o ho => ?_, fun n hn x hx => ?_, fun n n' x hx hx' => ?_, fun x => ?_⟩
    · by_cases e : n = 0
      · subst e
        rw [hg'0] at ho
        injection ho with ho
        subst ho
        rw [z0.2]
        refine ⟨p1, arr1, z0.1.trans hp1, hf1, hw1, mixAt_ok (ρ0 := ρg) hren2 hLr1 hLa hvs hl1' hm fun i y v hi hy hv => RV_agree (fun m hm' => ?_) hv⟩
        obtain ⟨d1, d2⟩ := hZn m (hZL i y hi hy m hm')
        exact (zn d1 d2).1
      · rw [hg'n n e] at ho
        cases h : rfind r2 n with
        | some q =>
          cases hq : hget s.hp q with
          | none =>
            rw [((hgN2 n).1 q h).2 hq] at ho
            have := (c3 q n (rfind_mem h)).2.2.2.1
            have h2 := (hZF n o (by exact ho)).1
            rw [this] at h2
            cases h2
          | some y =>
            obtain ⟨y', k1, k2⟩ := ((hgN2 n).1 q h).1 y hq
            rw [k2] at ho
            have ho : toU y' = o := by injection ho
            subst ho
            rw [(zs e h).2]
            exact toU_ok (c4 n y' k2) (renObj_ok hren2 (zs e h).1 k1 (hr'.live q y hq))
        | none =>
          rw [(hgN2 n).2 h] at ho
          have ho : hget gF n = some o := ho
          have hGe : G2 n = Gg n := by
            rw [(zn e h).2]
            funext x
            exact propext ⟨fun hx => hx.2, fun hx => ⟨⟨o, ho⟩, hx⟩⟩
          rw [hGe]
          refine OK_agree (ρ := ρg) (zn e h).1 (fun m hm' => ?_) ((hlive n o (hgF n o ho)).frame emptySys (Rho.le_refl ρg) rfl (fun x hx => hfw n o x ho hx) (fun x hx => absurd hx (Nat.not_lt_zero x)))
          obtain ⟨d1, d2⟩ := hZn m ((hZF n o ho).2 m hm')
          exact (zn d1 d2).1
    · by_cases e : n = 0
      · subst e; rw [hg'0] at hn; cases hn
      · rw [hg'n n e] at hn
        cases h : rfind r2 n with
        | some q =>
          rw [(zs e h).2] at hx
          cases hq : hget s.hp q with
          | none => exact hr'.dead q hq x hx
          | some y =>
            obtain ⟨y', _, k2⟩ := ((hgN2 n).1 q h).1 y hq
            rw [k2] at hn
            cases hn
        | none =>
          rw [(hgN2 n).2 h] at hn
          rw [(zn e h).2] at hx
          obtain ⟨⟨o, ho⟩, _⟩ := hx
          have hn : hget gF n = none := hn
          rw [hn] at ho
          cases ho
    · -- each comes of one object that is known outside, or is framed
      have src : ∀ m y, G2 m y → (m = 0 ∧ F1 b y) ∨ (∃ q, m ≠ 0 ∧ rfind r2 m = some q ∧ F1 q y) ∨ (m ≠ 0 ∧ rfind r2 m = none ∧ (∃ o, hget gF m = some o) ∧ Gg m y) := fun m y hy => by
        by_cases e : m = 0
        · subst e; rw [z0.2] at hy; exact .inl ⟨rfl, hy⟩
        · cases h : rfind r2 m with
          | some q => rw [(zs e h).2] at hy; exact .inr (.inl ⟨q, e, rfl, hy⟩)
          | none => rw [(zn e h).2] at hy; exact .inr (.inr ⟨e, rfl, hy⟩)
      rcases src n x hx with ⟨rfl, k1⟩ | ⟨q, _, k2, k3⟩ | ⟨_, _, ⟨o, k4⟩, k5⟩ <;> rcases src n' x hx' with ⟨rfl, k1'⟩ | ⟨q', _, k2', k3'⟩ | ⟨_, _, ⟨o', k4'⟩, k5'⟩
      · rfl
      · have := hr'.disj b q' x k1 k3'
        exact absurd this.symm (c3 q' n' (rfind_mem k2')).2.2.1
      · exact absurd k1 (hfr1 n' o' x k4' k5' b)
      · have := hr'.disj q b x k3 k1'
        exact absurd this (c3 q n (rfind_mem k2)).2.2.1
      · have := hr'.disj q q' x k3 k3'
        subst this
        exact pair_unique c1 (rfind_mem k2) (rfind_mem k2')
      · exact absurd k3 (hfr1 n' o' x k4' k5' q)
      · exact absurd k1' (hfr1 n o x k4 k5 b)
      · exact absurd k3' (hfr1 n o x k4 k5 q')
      · exact hdisj n n' x k5 k5'
    · rw [f3b]
      constructor
      · rintro (k1 | ⟨q, k1, k2⟩ | ⟨k, ⟨o, k1⟩, k2⟩)
        · exact ⟨0, by rw [z0.2]; exact k1⟩
        · obtain ⟨n, hn⟩ := hpm q k1
          exact ⟨n, by rw [(zs (c3 q n hn).2.2.2.2 (mem_rfind c2 hn)).2]; exact k2⟩
        · obtain ⟨d1, d2⟩ := hZn k (hZF k o k1).1
          exact ⟨k, by rw [(zn d1 d2).2]; exact ⟨⟨o, k1⟩, k2⟩⟩
      · rintro ⟨n, hn⟩
        by_cases e : n = 0
        · subst e; rw [z0.2] at hn; exact .inl hn
        · cases h : rfind r2 n with
          | some q => rw [(zs e h).2] at hn; exact .inr (.inl ⟨q, List.mem_map.2 ⟨_, rfind_mem h, rfl⟩, hn⟩)
          | none => rw [(zn e h).2] at hn; exact .inr (.inr ⟨n, hn.1, hn.2⟩)
  have hbin : b ∈ s.hp.map (·.1) := by
    obtain ⟨q, hq, h2, _⟩ := hget_mem hsb
    exact List.mem_map.2 ⟨q, hq, h2⟩
  have hl3 : ∀ n, hget (closeH b g' (r2.map (·.1)) s.hp) n = if n = b then some (.abs (.grp g')) else if n ∈ r2.map (·.1) then none else hget s.hp n := fun n => by
    rw [hget_closeH]
    by_cases e : n = b
    · rw [if_pos e, if_pos e, if_pos (e ▸ hbin)]
    · rw [if_neg e, if_neg e]
  have hF3 : ∀ n x, F3 n x → (∃ d, F1 d x ∧ (d = n ∨ n = b)) ∨ (n = b ∧ ∃ k o, hget gF k = some o ∧ Gg k x) := fun n x hx => by
    by_cases e : n = b
    · subst e
      rw [f3b] at hx
      rcases hx with k1 | ⟨q, _, k2⟩ | ⟨k, ⟨o, k1⟩, k2⟩
      · exact .inl ⟨n, k1, .inl rfl⟩
      · exact .inl ⟨q, k2, .inr rfl⟩
      · exact .inr ⟨rfl, k, o, k1, k2⟩
    · by_cases e2 : n ∈ r2.map (·.1)
      · rw [f3p e e2] at hx; exact hx.elim
      · rw [f3n e e2] at hx; exact .inl ⟨n, hx, .inl rfl⟩
  refine ⟨F3, ha', ⟨fun n o ho => ?_, fun n hn x hx => ?_, fun n x hx => ?_, fun n n' x hx hx' => ?_, fun n hn => ?_, hr'.base⟩, ?_⟩
  · have ho : hget (closeH b g' (r2.map (·.1)) s.hp) n = some o := ho
    rw [hl3] at ho
    by_cases e : n = b
    · subst e
      rw [if_pos rfl] at ho
      injection ho with ho
      subst ho
      exact hgrp
    · rw [if_neg e] at ho
      by_cases e2 : n ∈ r2.map (·.1)
      · rw [if_pos e2] at ho; cases ho
      · rw [if_neg e2] at ho
        rw [f3n e e2]
        exact hr'.live n o ho
  · have hn : hget (closeH b g' (r2.map (·.1)) s.hp) n = none := hn
    rw [hl3] at hn
    by_cases e : n = b
    · rw [if_pos e] at hn; cases hn
    · rw [if_neg e] at hn
      by_cases e2 : n ∈ r2.map (·.1)
      · rw [f3p e e2] at hx; exact hx
      · rw [if_neg e2] at hn
        rw [f3n e e2] at hx
        exact hr'.dead n hn x hx
  · rcases hF3 n x hx with ⟨d, hd, _⟩ | ⟨_, k, o, k1, k2⟩
    · exact hr'.bound d x hd
    · have := hr.bound b x ((hFx x).2 ⟨k, k2⟩)
      exact ⟨this.1, Nat.lt_of_lt_of_le this.2 hch'.same.size⟩
  · have key : ∀ m y, m ≠ b → F3 m y → F1 m y ∧ m ∉ r2.map (·.1) := fun m y hm' hy => by
      by_cases e2 : m ∈ r2.map (·.1)
      · rw [f3p hm' e2] at hy; exact hy.elim
      · rw [f3n hm' e2] at hy; exact ⟨hy, e2⟩
    have key2 : ∀ m y, m ≠ b → F3 m y → F3 b y → False := fun m y hm' hy hb' => by
      obtain ⟨k1, k2⟩ := key m y hm' hy
      rw [f3b] at hb'
      rcases hb' with k3 | ⟨q, k3, k4⟩ | ⟨k, ⟨o, k3⟩, k4⟩
      · exact hm' (hr'.disj m b y k1 k3)
      · have := hr'.disj m q y k1 k4
        subst this
        exact k2 k3
      · exact hfr1 k o y k3 k4 m k1
    by_cases e : n = b
    · by_cases e' : n' = b
      · rw [e, e']
      · subst e; exact (key2 n' x e' hx' hx).elim
    · by_cases e' : n' = b
      · subst e'; exact (key2 n x e hx hx').elim
      · exact hr'.disj n n' x (key n x e hx).1 (key n' x e' hx').1
  · refine hr'.fresh n ?_
    show Zm (Zm E.Z0 E.nid0 (nid + j)) (nid + j) s.nid n
    rw [Zm_trans E.Z0 (by omega) i0]
    exact hn
  · refine ⟨Rho.le_trans hch.rho (Rho.le_trans hle hch'.rho), fun n hn => ?_, fun n x hD hx => ?_, hch.same.trans hch'.same, fun k hk' hck => ?_⟩
    · have e : n ≠ b := fun e => hn (e ▸ hDb)
      have e2 : n ∉ r2.map (·.1) := fun hm' => by
        obtain ⟨m, hm'⟩ := hpm n hm'
        exact hn (hpubD n m hm')
      rw [f3n e e2, show F1 n = Fo n from hch'.keep n hn]
      have h2 : rfind (numb K nid) n = none := by
        cases h : rfind (numb K nid) n with
        | none => rfl
        | some k => exact absurd (hpub h) hn
      rw [enF h2 e]
      exact hch.keep n hn
    · have back : ∀ c, Fo c x → (E.D c) → E.w0.heap.size ≤ x ∨ ∃ c, E.D c ∧ E.F0 c x := fun c hc hDc => by
        obtain ⟨d, h2, h3⟩ := hFsub c x hc
        have hDd : E.D d := by
          rcases h3 with ⟨_, rfl⟩ | ⟨_, _, rfl, _⟩
          · exact hDc
          · exact hDb
        exact hch.own d x hDd h2
      have one : ∀ d, E.D d → F1 d x → E.w0.heap.size ≤ x ∨ ∃ c, E.D c ∧ E.F0 c x := fun d hd hx' => by
        rcases hch'.own d x hd hx' with h2 | ⟨c, h2, h3⟩
        · exact .inl (Nat.le_trans hch.same.size h2)
        · exact back c h3 h2
      by_cases e : n = b
      · subst e
        rw [f3b] at hx
        rcases hx with k1 | ⟨q, k1, k2⟩ | ⟨k, _, k2⟩
        · exact one n hD k1
        · obtain ⟨m, hm'⟩ := hpm q k1
          exact one q (hpubD q m hm') k2
        · exact hch.own n x hD ((hFx x).2 ⟨k, k2⟩)
      · by_cases e2 : n ∈ r2.map (·.1)
        · rw [f3p e e2] at hx; exact hx.elim
        · rw [f3n e e2] at hx; exact one n hD hx
    · have h2 : w'.heap[k]? = w.heap[k]? := hch'.heap k (Nat.lt_of_lt_of_le hk' hch.same.size) fun c hc hx => by
        obtain ⟨d, h2, h3⟩ := hFsub c k hx
        have hDd : E.D d := by
          rcases h3 with ⟨_, rfl⟩ | ⟨_, _, rfl, _⟩
          · exact hc
          · exact hDb
        rcases hch.own d k hDd h2 with h4 | ⟨c', h4, h5⟩
        · omega
        · exact hck c' h4 h5
      rw [h2]
      exact hch.heap k hk' hck
end
end Go.Proofs.Ytlkanbgcghjhnaa.Eng
