/-
  The engine, part U: steps of the logic by evaluation, and weaker values.
-/
import Derived.Test.YtcolladpdmjloaaEngT
namespace Go.Proofs.Ytcolladpdmjloaa.Eng
open Go Go.RowKit

section
variable {A : Type} {S : Sys A} {P : Program} {E : Ctx A}
theorem Tri.postE {c : Code} {st : St A} {Q Q' : VX → St A → Prop} (h : Tri S P E c st Q) (hq : ∀ x s a w, Q x s → At S E s a w → ∃ s', At S E s' a w ∧ Q' x s') : Tri S P E c st Q' :=
  fun a w ha => wp_mono (h a w ha) fun _ a' w' ⟨x, st', h1, h2, h3⟩ => by
    obtain ⟨s', h4, h5⟩ := hq x st' a' w' h2 h3
    exact ⟨x, s', h1, h5, h4⟩
theorem Tri.preE {c : Code} {st : St A} {Q : VX → St A → Prop} (h : ∀ a w, At S E st a w → ∃ s, At S E s a w ∧ Tri S P E c s Q) : Tri S P E c st Q := fun a w ha => by
  obtain ⟨s, h1, h2⟩ := h a w ha
  exact h2 a w h1
/-- A piece of code by its evaluation: what is known of the state behind it. -/
theorem Tri.leaf {c : Code} {ev : St A → Tr (VX × St A)} (hc : CodeOK S P c ev) {st : St A} {m n : Nat} {l : Lf A} (h : ((ev st).vmap (leaf m)).run = some l) (hl : l.len = m + n) (ht : l.nid ≤ E.top) (hd : ∀ b, b ∈ l.dirty → E.D b) :
    Tri S P E c st fun y s => y = l.x ∧ ∃ js, s = ⟨l.pre ++ junk js n m, l.hp, l.nid, l.dirty⟩ := by
  rw [Tr.run_vmap] at h
  obtain ⟨⟨x, st'⟩, h1, rfl⟩ := h
  refine (Tri.ev hc h1 ht hd).mono ?_
  rintro y s ⟨rfl, rfl⟩
  have hs : s.tm.length = m + n := hl
  refine ⟨rfl, fun i => s.tm.getD i .undef, ?_⟩
  obtain ⟨tm, hp, nid, dirty⟩ := s
  show (⟨tm, hp, nid, dirty⟩ : St A) = ⟨tm.take m ++ _, hp, nid, dirty⟩
  rw [← junk_drop n m tm hs, List.take_append_drop]

theorem list_later {call : FuncId → List SV → HP A → Nat → Tr (CR A)} {R : Nat} (hc : ∀ c, CodeOK S P c (evCode P call R c)) : ∀ {l : List Code} {st st1 : St A} {x : VX}, (evList (P := P) call R l st).run = some (x, st1) → Later st st1
  | [], st, st1, x, h => by
    rw [evList, Tr.run_ok] at h
    cases h
    exact Later.refl _
  | c :: l, st, st1, x, h => by
    rw [evList, Tr.run_bind] at h
    obtain ⟨⟨y, st'⟩, h1, h2⟩ := h
    have l1 := (hc c st y st' h1).1
    cases y with
    | normal => exact l1.trans (list_later hc h2)
    | exit k => rw [Tr.run_ok] at h2; cases h2; exact l1
    | ret => rw [Tr.run_ok] at h2; cases h2; exact l1
/-- The first statements by their evaluation, then the rest. -/
theorem Tri.spine {call : FuncId → List SV → HP A → Nat → Tr (CR A)} {R : Nat} (hc : ∀ c, CodeOK S P c (evCode P call R c)) : ∀ (n : Nat) {c : Code} {st st1 : St A} {Q : VX → St A → Prop},
    (evList (P := P) call R (spine n c).1 st).run = some (.normal, st1) → st1.nid ≤ E.top → (∀ b, b ∈ st1.dirty → E.D b) → Tri S P E (spine n c).2 st1 Q → Tri S P E c st Q
  | 0, c, st, st1, Q, h, _, _, k => by
    simp only [Eng.spine, evList, Tr.run_ok] at h k
    cases h
    exact k
  | n + 1, c, st, st1, Q, h, ht, hd, k => by
    cases c
    case seq a b =>
      simp only [Eng.spine, evList] at h k
      rw [Tr.run_bind] at h
      obtain ⟨⟨x, st'⟩, h1, h2⟩ := h
      cases x with
      | normal =>
        have l2 := list_later hc h2
        refine Tri.seq (Tri.ev (hc a) h1 (Nat.le_trans l2.nid ht) fun b hb => hd b (l2.dirty b hb)) ?_ (fun x s hx hh => absurd hh.1 hx)
        rintro s ⟨_, rfl⟩
        exact Tri.spine hc n h2 ht hd k
      | exit k => rw [Tr.run_ok] at h2; cases h2
      | ret => rw [Tr.run_ok] at h2; cases h2
    all_goals
      simp only [Eng.spine, evList, Tr.run_ok] at h k
      cases h
      exact k
/-- The same, with what is known of the state between. -/
theorem Tri.lead {call : FuncId → List SV → HP A → Nat → Tr (CR A)} {R : Nat} (hc : ∀ c, CodeOK S P c (evCode P call R c)) (k : Nat) {c c' : Code} {st : St A} {Q : VX → St A → Prop} {m n : Nat} {l : Lf A}
    (hs : (Eng.spine k c).2 = c') (h : ((evList (P := P) call R (Eng.spine k c).1 st).vmap (Eng.leaf m)).run = some l) (hx : l.x = .normal) (hl : l.len = m + n) (ht : l.nid ≤ E.top) (hd : ∀ b, b ∈ l.dirty → E.D b)
    (next : ∀ js, Tri S P E c' ⟨l.pre ++ junk js n m, l.hp, l.nid, l.dirty⟩ Q) : Tri S P E c st Q := by
  obtain ⟨js, hr⟩ := run_of_leaf (n := n) h hl
  have hm : l.pre.length = m := by
    rw [Tr.run_vmap] at h
    obtain ⟨a, _, rfl⟩ := h
    have hl : a.2.tm.length = m + n := hl
    show (a.2.tm.take m).length = m
    rw [List.length_take]
    omega
  rw [hx] at hr
  refine Tri.spine hc k hr ht hd ?_
  rw [hs]
  have := next js
  unfold stJ
  rw [hm]
  exact this

/-! ### Weaker values -/
def wkV : VV → VV → Prop
  | .int k a, .int k' b => k = k' ∧ a.val = b.val
  | .bool a, .bool b => a.val = b.val
  | .sl _ _ len cap, .es f => len = 0 ∧ (f = true → cap = 0)
  | .ts b r l c, .ts b' r' l' c' => b = b' ∧ r.val = r'.val ∧ l.val = l'.val ∧ c = c'
  | x, y => x = y
def wkVs : List VV → List VV → Prop
  | [], [] => True
  | x :: l, y :: m => wkV x y ∧ wkVs l m
  | _, _ => False
def wk1 : S1 → S1 → Prop
  | .one x, .one y => wkV x y
  | .agg l, .agg m => wkVs l m
  | _, _ => False
def wk1s : List S1 → List S1 → Prop
  | [], [] => True
  | x :: l, y :: m => wk1 x y ∧ wk1s l m
  | _, _ => False
def wkS : SV → SV → Prop
  | .s x, .s y => wk1 x y
  | .t l, .t m => wk1s l m
  | _, _ => False
def wkSs : List SV → List SV → Prop
  | [], [] => True
  | x :: l, y :: m => wkS x y ∧ wkSs l m
  | _, _ => False
def wkO : VObj A → VObj A → Prop
  | .cells l ty, .cells m ty' => wkVs l m ∧ ty = ty'
  | x, y => x = y
def wkH : HP A → HP A → Prop
  | [], [] => True
  | (b, some x) :: l, (c, some y) :: m => b = c ∧ wkO x y ∧ wkH l m
  | (b, none) :: l, (c, none) :: m => b = c ∧ wkH l m
  | _, _ => False
theorem wkV_ok {ρ : Rho} : ∀ {x y : VV} {v : Value}, wkV x y → RV ρ x v → RV ρ y v := by
  intro x y v h hv
  unfold wkV at h
  split at h
  · obtain ⟨rfl, h⟩ := h
    obtain ⟨h1, h2⟩ := hv
    rw [h] at h1 h2
    exact ⟨h1, h2⟩
  · have hv : v = _ := hv
    rw [h] at hv
    exact hv
  · obtain ⟨rfl, h⟩ := h
    obtain ⟨p, _, hv⟩ := hv
    exact ⟨_, _, hv, h⟩
  · rename_i b r l c b' r' l' c'
    obtain ⟨rfl, h1, h2, rfl⟩ := h
    obtain ⟨p, g1, g2, g3, g4⟩ := hv
    have e : tsCap p r c = tsCap p r' c := by unfold tsCap; rw [h1]
    rw [h2] at g2 g3 g4
    rw [e] at g3 g4
    rw [h1] at g4
    exact ⟨p, g1, g2, g3, g4⟩
  · subst h
    exact hv
theorem wkVs_ok {ρ : Rho} : ∀ {x y : List VV} {v : List Value}, wkVs x y → F2 (RV ρ) x v → F2 (RV ρ) y v
  | [], [], _, _, h => h
  | _ :: _, _ :: _, _ :: _, h, hv => ⟨wkV_ok h.1 hv.1, wkVs_ok h.2 hv.2⟩
  | _ :: _, _ :: _, [], _, hv => hv.elim
  | [], _ :: _, _, h, _ => h.elim
  | _ :: _, [], _, h, _ => h.elim
theorem wk1_ok {ρ : Rho} {x y : S1} {v : Value} (h : wk1 x y) (hv : R1 ρ x v) : R1 ρ y v := by
  cases x <;> cases y
  · exact wkV_ok h hv
  · exact h.elim
  · exact h.elim
  · obtain ⟨cs, h1, h2⟩ := hv
    exact ⟨cs, h1, wkVs_ok h h2⟩
theorem wk1s_ok {ρ : Rho} : ∀ {x y : List S1} {v : List Value}, wk1s x y → F2 (R1 ρ) x v → F2 (R1 ρ) y v
  | [], [], _, _, h => h
  | _ :: _, _ :: _, _ :: _, h, hv => ⟨wk1_ok h.1 hv.1, wk1s_ok h.2 hv.2⟩
  | _ :: _, _ :: _, [], _, hv => hv.elim
  | [], _ :: _, _, h, _ => h.elim
  | _ :: _, [], _, h, _ => h.elim
theorem wkS_ok {ρ : Rho} {x y : SV} {v : Value} (h : wkS x y) (hv : RS ρ x v) : RS ρ y v := by
  cases x <;> cases y
  · exact wk1_ok h hv
  · exact h.elim
  · exact h.elim
  · obtain ⟨cs, h1, h2⟩ := hv
    exact ⟨cs, h1, wk1s_ok h h2⟩
theorem wkSs_get : ∀ {x y : List SV}, wkSs x y → x.length = y.length ∧ ∀ (i : Nat) (u : SV), x[i]? = some u → ∃ u', y[i]? = some u' ∧ wkS u u'
  | [], [], _ => ⟨rfl, fun i u h => by simp at h⟩
  | x :: l, y :: m, h => by
    obtain ⟨h1, h2⟩ := wkSs_get h.2
    refine ⟨by simp [h1], fun i u hu => ?_⟩
    cases i with
    | zero =>
      simp only [List.getElem?_cons_zero, Option.some.injEq] at hu
      subst hu
      exact ⟨y, rfl, h.1⟩
    | succ i => exact h2 i u (by simpa using hu)
  | [], _ :: _, h => h.elim
  | _ :: _, [], h => h.elim
theorem wkO_ok {B : Nat} {ρ : Rho} {F : Nat → Prop} {b : Nat} {x y : VObj A} {w : World} (h : wkO x y) (hx : OK S B ρ F b x w) : OK S B ρ F b y w := by
  unfold wkO at h
  split at h
  · obtain ⟨h, rfl⟩ := h
    obtain ⟨p, arr, h1, h2, h3, h4⟩ := hx
    exact ⟨p, arr, h1, h2, h3, wkVs_ok h h4⟩
  · subst h
    exact hx
theorem wkH_get {B : Nat} {ρ : Rho} {w : World} : ∀ {x y : HP A}, wkH x y → ∀ b, (∀ o F, hget y b = some o → ∃ o', hget x b = some o' ∧ (OK S B ρ F b o' w → OK S B ρ F b o w)) ∧ (hget y b = none → hget x b = none)
  | [], [], _, b => ⟨fun _ _ h => (by cases h), fun _ => rfl⟩
  | (k, some u) :: l, (k', some u') :: m, h, b => by
    obtain ⟨rfl, h1, h2⟩ := h
    unfold hget
    cases hb : Nat.beq k b with
    | true =>
      have := Nat.eq_of_beq_eq_true hb
      subst this
      refine ⟨fun o F ho => ⟨u, rfl, fun hx => ?_⟩, fun ho => (by cases ho)⟩
      injection ho with ho
      subst ho
      exact wkO_ok h1 hx
    | false => exact wkH_get h2 b
  | (k, none) :: l, (k', none) :: m, h, b => by
    obtain ⟨rfl, h2⟩ := h
    unfold hget
    cases hb : Nat.beq k b with
    | true => exact ⟨fun o F ho => (by cases ho), fun _ => rfl⟩
    | false => exact wkH_get h2 b
  | [], (_, some _) :: _, h, _ => h.elim
  | [], (_, none) :: _, h, _ => h.elim
  | (_, some _) :: _, [], h, _ => h.elim
  | (_, none) :: _, [], h, _ => h.elim
  | (_, some _) :: _, (_, none) :: _, h, _ => h.elim
  | (_, none) :: _, (_, some _) :: _, h, _ => h.elim
theorem at_weak {tm tm' : List SV} {hp hp' : HP A} {nid : Nat} {dirty dirty' : List Nat} {a : Act} {w : World} (ht : ∀ (ρ : Rho) (t : Nat) (v : Option Value), RT ρ tm[t]? v → RT ρ tm'[t]? v) (hh : wkH hp hp') (h : At S E ⟨tm, hp, nid, dirty⟩ a w) :
    At S E ⟨tm', hp', nid, dirty'⟩ a w := by
  obtain ⟨h0, h1, ρ, F, ha, hr, hc⟩ := h
  refine ⟨h0, h1, ρ, F, ⟨ha.defers, fun t => ht ρ t _ (ha.tmps t)⟩, ⟨fun b o ho => ?_, fun b hb => ?_, hr.bound, hr.disj, hr.fresh, hr.base⟩, hc⟩
  · obtain ⟨o', h1, h2⟩ := (wkH_get (S := S) (B := E.B) (ρ := ρ) (w := w) hh b).1 o (F b) ho
    exact h2 (hr.live b o' h1)
  · exact hr.dead b ((wkH_get (S := S) (B := E.B) (ρ := ρ) (w := w) hh b).2 hb)
theorem tm_weak {pre pre' : List SV} {l : List SV} (h : wkSs pre pre') : ∀ (ρ : Rho) (t : Nat) (v : Option Value), RT ρ (pre ++ l)[t]? v → RT ρ (pre' ++ l)[t]? v := by
  intro ρ t v hv
  obtain ⟨h1, h2⟩ := wkSs_get h
  rcases Nat.lt_or_ge t pre.length with ht | ht
  · rw [List.getElem?_append_left ht, List.getElem?_eq_getElem ht] at hv
    obtain ⟨u', hu, hw⟩ := h2 t _ (List.getElem?_eq_getElem ht)
    rw [List.getElem?_append_left (by omega), hu]
    cases v with
    | none => exact hv.elim
    | some v => exact wkS_ok hw hv
  · rw [List.getElem?_append_right ht] at hv
    rw [List.getElem?_append_right (by omega), ← h1]
    exact hv
/-- A state that fits fits as well with weaker first slots and weaker objects. -/
theorem at_wk {pre pre' : List SV} {l : List SV} {hp hp' : HP A} {nid : Nat} {dirty dirty' : List Nat} {a : Act} {w : World} (ht : wkSs pre pre') (hh : wkH hp hp') (h : At S E ⟨pre ++ l, hp, nid, dirty⟩ a w) : At S E ⟨pre' ++ l, hp', nid, dirty'⟩ a w :=
  at_weak (tm_weak ht) hh h
end
end Go.Proofs.Ytcolladpdmjloaa.Eng
