/-
  The engine, part Zi: a rename where some objects are not known: what the heap has under the new names is told by hget alone.
-/
import Derived.Test.YtcolladpdmjloaaEngU
namespace Go.Proofs.Ytcolladpdmjloaa.Eng
open Go Go.RowKit
section
variable {A : Type}
theorem hget_none {n : Nat} {l2 : HP A} (h : hget l2 n = none) : ∀ (l1 : HP A) (b : Nat), hget (l1 ++ (n, none) :: l2) b = hget (l1 ++ l2) b
  | [], b => by
    simp only [List.nil_append, hget]
    cases hb : Nat.beq n b with
    | true => rw [← Nat.eq_of_beq_eq_true hb, h]
    | false => rfl
  | (k, o) :: l1, b => by
    simp only [List.cons_append, hget]
    cases Nat.beq k b with
    | true => rfl
    | false => exact hget_none h l1 b
theorem ren_exists {r : List (Nat × Nat)} {hp : HP A} : ∀ {l : List (Nat × Nat)}, (∀ p ∈ l, ∀ x, hget hp p.1 = some x → ∃ x', renObj r x = some x') → ∃ hp', renHP r hp l = some hp'
  | [], _ => ⟨[], rfl⟩
  | (o, n) :: l, h => by
    obtain ⟨l', hl⟩ := ren_exists (l := l) fun p hp x hx => h p (List.mem_cons_of_mem _ hp) x hx
    unfold renHP
    cases ho : hget hp o with
    | none => exact ⟨l', hl⟩
    | some x =>
      obtain ⟨x', hx⟩ := h (o, n) (List.mem_cons_self ..) x ho
      simp only [hx, hl]
      exact ⟨_, rfl⟩
/-- The names alone. -/
def chkN (r : List (Nat × Nat)) (ns : List Nat) (nid0 nid nid' : Nat) : Bool :=
  nodupB (r.map (·.2)) && nodupB (r.map (·.1)) && r.all (fun p => Nat.blt p.1 nid && (match Nat.blt p.1 nid0 || Nat.blt p.2 nid0 with | true => Nat.beq p.1 p.2 | false => Nat.blt p.2 nid')) &&
    ns.all (fun k => Nat.blt k nid && (Nat.ble nid0 k || (match rfind r k with | some o => Nat.beq o k | none => false)))
theorem renChk_of {r : List (Nat × Nat)} {hp : HP A} {nid0 nid nid' : Nat} (h : chkN r (hp.map (·.1)) nid0 nid nid' = true) : renChk r hp nid0 nid nid' = true := by
  unfold chkN at h
  unfold renChk
  simp only [Bool.and_eq_true] at h ⊢
  obtain ⟨h1, h2⟩ := h
  refine ⟨h1, List.all_eq_true.2 fun p hp => ?_⟩
  have := List.all_eq_true.1 h2 p.1 (List.mem_map_of_mem hp)
  split
  · rfl
  · exact this
variable {S : Sys A} {E : Ctx A}
theorem at_ext {tm : List SV} {hp hp' : HP A} {nid : Nat} {d : List Nat} {a : Act} {w : World} (h : ∀ b, hget hp b = hget hp' b) (hat : At S E ⟨tm, hp, nid, d⟩ a w) : At S E ⟨tm, hp', nid, d⟩ a w := by
  obtain ⟨h0, h1, ρ, F, ha, hr, hch⟩ := hat
  exact ⟨h0, h1, ρ, F, ha, by rw [show hget hp' = hget hp from (funext h).symm]; exact hr, hch⟩
theorem at_rename2 {tm pre pre' : List SV} {hp hpC : HP A} {nid nid' m n : Nat} {dirty dirty' : List Nat} {a : Act} {w : World} (r : List (Nat × Nat)) (hpre : tm.take m = pre) (hlen : tm.length = m + n)
    (h1 : renSVs r pre = some pre') (hobj : ∀ p ∈ r, ∀ x, hget hp p.1 = some x → ∃ x', renObj r x = some x' ∧ hget hpC p.2 = some x') (hno : ∀ p ∈ r, hget hp p.1 = none → hget hpC p.2 = none)
    (hrest : ∀ b, (∀ p ∈ r, p.2 ≠ b) → hget hpC b = none) (hchk : chkN r (hp.map (·.1)) E.nid0 nid nid' = true) (hn0 : E.nid0 ≤ nid') (hn1 : nid' ≤ E.top) (h : At S E ⟨tm, hp, nid, dirty⟩ a w) :
    ∃ js, At S E ⟨pre' ++ junk js n m, hpC, nid', dirty'⟩ a w := by
  obtain ⟨hp', h2⟩ := ren_exists (r := r) (hp := hp) (l := r) fun p hp x hx => let ⟨x', hx', _⟩ := hobj p hp x hx; ⟨x', hx'⟩
  have hck := renChk_of hchk
  obtain ⟨js, hat⟩ := at_rename (dirty' := dirty') r hpre hlen h1 h2 hck hn0 hn1 h
  refine ⟨js, at_ext (fun b => ?_) hat⟩
  have hnd : (r.map (·.2)).Nodup := by
    simp only [renChk, Bool.and_eq_true] at hck
    exact nodup_iff hck.1.1.1
  obtain ⟨g1, g2⟩ := hget_ren (b := b) h2 hnd
  cases hf : rfind r b with
  | none =>
    rw [g2 hf, hrest b fun p hp hpb => ?_]
    subst hpb
    have := mem_rfind hnd hp
    rw [hf] at this
    cases this
  | some o =>
    have hm := rfind_mem hf
    cases ho : hget hp o with
    | none => rw [(g1 o hf).2 ho, hno (o, b) hm ho]
    | some x =>
      obtain ⟨x', hx1, hx2⟩ := (g1 o hf).1 x ho
      obtain ⟨x2, hx3, hx4⟩ := hobj (o, b) hm x ho
      rw [hx1] at hx3
      injection hx3 with hx3
      rw [hx2, hx4, hx3]
/-- Weaker objects, where some entries are not known (they stay). -/
def wkL : HP A → HP A → Prop
  | [], [] => True
  | p :: l, q :: m => (p = q ∨ ∃ b x y, p = (b, some x) ∧ q = (b, some y) ∧ wkO x y) ∧ wkL l m
  | _, _ => False
theorem wkL_get {B : Nat} {ρ : Rho} {w : World} : ∀ {x y : HP A}, wkL x y → ∀ b, (∀ o F, hget y b = some o → ∃ o', hget x b = some o' ∧ (OK S B ρ F b o' w → OK S B ρ F b o w)) ∧ (hget y b = none → hget x b = none)
  | [], [], _, b => ⟨fun o F h => by simp [hget] at h, fun _ => rfl⟩
  | [], _ :: _, h, _ => h.elim
  | _ :: _, [], h, _ => h.elim
  | p :: l, q :: m, ⟨h1, h2⟩, b => by
    rcases h1 with rfl | ⟨k, x, y, rfl, rfl, hxy⟩
    · obtain ⟨k, o⟩ := p
      simp only [hget]
      cases Nat.beq k b with
      | true => exact ⟨fun o' F h => ⟨o', h, id⟩, id⟩
      | false => exact wkL_get h2 b
    · simp only [hget]
      cases Nat.beq k b with
      | true => exact ⟨fun o F h => by injection h with h; subst h; exact ⟨x, rfl, wkO_ok hxy⟩, fun h => by cases h⟩
      | false => exact wkL_get h2 b
theorem at_wk2 {tm : List SV} {hp hp' : HP A} {nid : Nat} {dirty dirty' : List Nat} {a : Act} {w : World} (hh : wkL hp hp') (h : At S E ⟨tm, hp, nid, dirty⟩ a w) : At S E ⟨tm, hp', nid, dirty'⟩ a w := by
  obtain ⟨h0, h1, ρ, F, ha, hr, hc⟩ := h
  refine ⟨h0, h1, ρ, F, ha, ⟨fun b o ho => ?_, fun b hb => ?_, hr.bound, hr.disj, hr.fresh, hr.base⟩, hc⟩
  · obtain ⟨o', h1, h2⟩ := (wkL_get (S := S) (B := E.B) (ρ := ρ) (w := w) hh b).1 o (F b) ho
    exact h2 (hr.live b o' h1)
  · exact hr.dead b ((wkL_get (S := S) (B := E.B) (ρ := ρ) (w := w) hh b).2 hb)
theorem wkL_refl : ∀ l : HP A, wkL l l
  | [] => trivial
  | p :: l => ⟨.inl rfl, wkL_refl l⟩
end
end Go.Proofs.Ytcolladpdmjloaa.Eng
