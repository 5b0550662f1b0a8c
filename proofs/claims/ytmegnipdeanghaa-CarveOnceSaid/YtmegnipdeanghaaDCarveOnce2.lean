/-
  CarveOnce, the plain law: what is kept from round to round, and that each step keeps it and comes nearer to the end.
-/
import Derived.Test.YtmegnipdeanghaaDCarveOnce
import Derived.Test.YtmegnipdeanghaaMod5
namespace Go.Proofs.Ytmegnipdeanghaa.CarveOnce
open Go Go.Proofs.Ytmegnipdeanghaa.Eng
set_option linter.unusedVariables false
set_option linter.unusedSimpArgs false
def setI (T : Int → Int) (b v : Int) : Int → Int := fun j => if j = b then v else T j
def upd {α : Type} (s : Nat → α) (k : Nat) (x : α) : Nat → α := fun j => if j = k then x else s j
theorem upd_eq {α : Type} (s : Nat → α) (k : Nat) (x : α) : upd s k x k = x := if_pos rfl
theorem upd_ne {α : Type} (s : Nat → α) {j k : Nat} (x : α) (h : j ≠ k) : upd s k x j = s j := if_neg h
theorem setI_eq (T : Int → Int) (b v : Int) : setI T b v b = v := if_pos rfl
theorem setI_ne (T : Int → Int) {b j : Int} (v : Int) (h : j ≠ b) : setI T b v j = T j := if_neg h
def hn (t : TK) : Int := match t.held with | some _ => 1 | none => 0
structure Inv (B d f : Int) (xs : List Int) (T : Int → Int) (s : Nat → TK) (z : Nat → Bool) : Prop where
  mem : Mem xs B d
  ok : ∀ k, k < 3 → (s k).ok xs B d k
  free : ∀ k, k < 3 → ∀ b, (s k).held = some b → T b = 0
  apart : ∀ j, j < 3 → ∀ k, k < 3 → j ≠ k → ∀ b, (s j).held = some b → (s k).held ≠ some b
  above : ∀ b, d ≤ b → T b = 0
  found : f + hn (s 0) + hn (s 1) + hn (s 2) = d
  none : ∀ k, k < 3 → z k = true → s k = .nil ∧ d = B
/-- Whose step it was comes nearer to the end, the others don't go back. -/
def Rel (B : Int) (k : Nat) (d : Int) (s : Nat → TK) (z : Nat → Bool) (d' : Int) (s' : Nat → TK) (z' : Nat → Bool) : Prop :=
  ∀ j, j < 3 → z' j = true ∨ (z j = false ∧ (s' j).left B d' j + (if j = k then 1 else 0) ≤ (s j).left B d j)
theorem hn_sum (s : Nat → TK) {k : Nat} (hk : k < 3) (x : TK) : hn (upd s k x 0) + hn (upd s k x 1) + hn (upd s k x 2) = hn (s 0) + hn (s 1) + hn (s 2) - hn (s k) + hn x := by
  match k, hk with
  | 0, _ => simp only [upd]; simp <;> omega
  | 1, _ => simp only [upd]; simp <;> omega
  | 2, _ => simp only [upd]; simp <;> omega
theorem held_lt {xs : List Int} {B d : Int} {k : Nat} {t : TK} (h : t.ok xs B d k) {b : Int} (hb : t.held = some b) : 0 ≤ b ∧ b < d := by
  cases t with
  | use w b' e kk => cases hb; exact ⟨h.1, h.2⟩
  | link w b' e kk => cases hb; exact ⟨h.1, h.2.1⟩
  | lay j w b' e kk fi la pw => cases hb; exact ⟨h.1, h.2.1⟩
  | _ => cases hb
theorem left_pos {xs : List Int} {B d : Int} (hd : 0 ≤ d ∧ d ≤ B) (hB : 1 ≤ B ∧ B ≤ 8) {k : Nat} (hk : k < 3) {t : TK} (h : t.ok xs B d k) : 1 ≤ t.left B d k ∧ t.left B d k ≤ 140 := by
  cases t with
  | nil => simp only [TK.left]; omega
  | load => simp only [TK.left]; omega
  | look w b e kk =>
    have h1 := h.1; have h2 := h.2.1; have h3 := h.2.2.1
    simp only [TK.left]
    split <;> omega
  | swap w b e kk =>
    have h1 := h.1; have h2 := h.2.1; have h3 := h.2.2.1
    simp only [TK.left]
    split <;> omega
  | use w b e kk => have h1 := h.1; have h2 := h.2; simp only [TK.left]; omega
  | link w b e kk =>
    have h1 := h.1; have h2 := h.2.1; have h3 := h.2.2.1; have h4 := h.2.2.2
    have : last k ≤ 7 := by unfold last; split <;> (try split) <;> omega
    simp only [TK.left]; omega
  | lay j w b e kk fi la pw =>
    have h1 := h.1; have h2 := h.2.1; have h5 := h.2.2.2.2.1
    simp only [TK.left]; omega
section
variable {B d f : Int} {xs : List Int} {T : Int → Int} {s : Nat → TK} {z : Nat → Bool} {k : Nat}
theorem Inv.skip (h : Inv B d f xs T s z) (hz : z k = true) : Rel B k d s z d s z := fun j hj => by
  by_cases hjk : j = k
  · subst hjk; exact .inl hz
  · rw [if_neg hjk]
    cases hzj : z j with
    | true => exact .inl rfl
    | false => exact .inr ⟨rfl, by omega⟩
/-- A step that takes no block and leaves none. -/
theorem Inv.step (h : Inv B d f xs T s z) (hk : k < 3) (hz : z k = false) {x : TK} {xs' : List Int} (hm : Mem xs' B d) (hoth : ∀ j, j < 3 → j ≠ k → (s j).ok xs' B d j) (hok : x.ok xs' B d k) (hh : x.held = (s k).held) (hl : x.left B d k + 1 ≤ (s k).left B d k) :
    Inv B d f xs' T (upd s k x) z ∧ Rel B k d s z d (upd s k x) z := by
  refine ⟨⟨hm, fun j hj => ?_, fun j hj b hb => ?_, fun i hi j hj hij b h1 h2 => ?_, h.above, ?_, fun j hj hzj => ?_⟩, fun j hj => ?_⟩
  · by_cases hjk : j = k
    · subst hjk; rw [upd_eq]; exact hok
    · rw [upd_ne _ _ hjk]; exact hoth j hj hjk
  · by_cases hjk : j = k
    · subst hjk; rw [upd_eq, hh] at hb; exact h.free j hj b hb
    · rw [upd_ne _ _ hjk] at hb; exact h.free j hj b hb
  · have e : ∀ j, (upd s k x j).held = (s j).held := fun j => by
      by_cases hjk : j = k
      · subst hjk; rw [upd_eq, hh]
      · rw [upd_ne _ _ hjk]
    rw [e] at h1 h2
    exact h.apart i hi j hj hij b h1 h2
  · have e : hn x = hn (s k) := by unfold hn; rw [hh]
    have := hn_sum s hk x
    have := h.found
    omega
  · have hjk : j ≠ k := fun hjk => by subst hjk; rw [hz] at hzj; cases hzj
    rw [upd_ne _ _ hjk]; exact h.none j hj hzj
  · by_cases hjk : j = k
    · subst hjk; rw [upd_eq, if_pos rfl]; exact .inr ⟨hz, hl⟩
    · rw [upd_ne _ _ hjk, if_neg hjk]
      cases hzj : z j with
      | true => exact .inl rfl
      | false => exact .inr ⟨rfl, by omega⟩
/-- No word changes. -/
theorem Inv.quiet (h : Inv B d f xs T s z) (hk : k < 3) (hz : z k = false) {x : TK} (hok : x.ok xs B d k) (hh : x.held = (s k).held) (hl : x.left B d k + 1 ≤ (s k).left B d k) :
    Inv B d f xs T (upd s k x) z ∧ Rel B k d s z d (upd s k x) z :=
  h.step hk hz h.mem (fun j hj _ => h.ok j hj) hok hh hl
/-- It writes elsewhere. -/
theorem Inv.write (h : Inv B d f xs T s z) (hB : 1 ≤ B ∧ B ≤ 8) (hk : k < 3) (hz : z k = false) {x : TK} {a : Nat} (v : Int) (ha : a = 3 + k ∨ 32 ≤ a ∨ (13 ≤ a ∧ (a : Int) < 13 + d)) (hok : x.ok (xs.set a v) B d k) (hh : x.held = (s k).held) (hl : x.left B d k + 1 ≤ (s k).left B d k) :
    Inv B d f (xs.set a v) T (upd s k x) z ∧ Rel B k d s z d (upd s k x) z := by
  refine h.step hk hz (h.mem.other hB v (by omega)) (fun j hj hjk => TK.ok_other (by omega) v (h.ok j hj)) hok hh hl
/-- A block is taken. -/
theorem Inv.take (h : Inv B d f xs T s z) (hB : 1 ≤ B ∧ B ≤ 8) (hk : k < 3) (hz : z k = false) {w b e kk : Int} (hs : s k = .swap w b e kk) (hw0 : xs.getD 2 0 = w) :
    Inv B (d + 1) f (xs.set 2 (mNext w (mBNext e))) T (upd s k (.use w b e kk)) z ∧ Rel B k d s z (d + 1) (upd s k (.use w b e kk)) z := by
  have hok := h.ok k hk
  rw [hs] at hok
  obtain ⟨h1, h2, h3, h4, h5⟩ := hok
  have hd := h.mem.dd
  have hbd : b = d := by
    have := h.mem.head
    rw [hw0, h4] at this
    exact hw_inj hB ⟨h1, by omega⟩ hd this
  subst hbd
  have he := h5 rfl
  have hlt : ∀ j, j < 3 → ∀ c, (s j).held = some c → c < b := fun j hj c hc => (held_lt (h.ok j hj) hc).2
  have hnk : (s k).held = Option.none := by rw [hs]; rfl
  refine ⟨⟨h.mem.take hB h3 h4 he, fun j hj => ?_, fun j hj c hc => ?_, fun i hi j hj hij c g1 g2 => ?_, fun c hc => h.above c (by omega), ?_, fun j hj hzj => ?_⟩, fun j hj => ?_⟩
  · by_cases hjk : j = k
    · subst hjk; rw [upd_eq]; exact ⟨h1, by omega⟩
    · rw [upd_ne _ _ hjk]; exact TK.ok_take hB ⟨hd.1, h3⟩ _ (h.ok j hj)
  · by_cases hjk : j = k
    · subst hjk; rw [upd_eq] at hc; cases hc; exact h.above b (by omega)
    · rw [upd_ne _ _ hjk] at hc; exact h.free j hj c hc
  · by_cases hik : i = k
    · subst hik
      rw [upd_eq] at g1; cases g1
      rw [upd_ne _ _ (Ne.symm hij)] at g2
      have := hlt j hj _ g2; omega
    · rw [upd_ne _ _ hik] at g1
      by_cases hjk : j = k
      · subst hjk; rw [upd_eq] at g2; cases g2
        have := hlt i hi _ g1; omega
      · rw [upd_ne _ _ hjk] at g2
        exact h.apart i hi j hj hij c g1 g2
  · have e1 : hn (s k) = 0 := by unfold hn; rw [hnk]
    have e2 : hn (.use w b e kk) = 1 := rfl
    have := hn_sum s hk (.use w b e kk)
    have := h.found
    omega
  · have hjk : j ≠ k := fun hjk => by subst hjk; rw [hz] at hzj; cases hzj
    rw [upd_ne _ _ hjk]
    have := (h.none j hj hzj).2
    omega
  · by_cases hjk : j = k
    · subst hjk; rw [upd_eq, if_pos rfl]
      refine .inr ⟨hz, ?_⟩
      rw [hs]
      simp only [TK.left]
      rw [if_pos trivial]
      omega
    · rw [upd_ne _ _ hjk, if_neg hjk]
      cases hzj : z j with
      | true => exact .inl rfl
      | false =>
        refine .inr ⟨rfl, ?_⟩
        have := TK.left_take (B := B) (d := b) (k := j) (s j) fun w' b' e' kk' hh => by
          have := h.ok j hj
          rcases hh with hh | hh
          · rw [hh] at this; exact this.2.1
          · rw [hh] at this; exact this.2.1
        omega
/-- A taker is done, with a block. -/
theorem Inv.done (h : Inv B d f xs T s z) (hB : 1 ≤ B ∧ B ≤ 8) (hk : k < 3) (hz : z k = false) {w b e kk fi la pw : Int} (hs : s k = .lay 2 w b e kk fi la pw) (v : Int) :
    Inv B d (f + 1) (xs.set (3 + k) v) (setI T b 1) (upd s k .nil) z ∧ Rel B k d s z d (upd s k .nil) z := by
  have hok := h.ok k hk
  rw [hs] at hok
  obtain ⟨h1, h2, -⟩ := hok
  have hhk : (s k).held = some b := by rw [hs]; rfl
  refine ⟨⟨h.mem.other hB v (by omega), fun j hj => ?_, fun j hj c hc => ?_, fun i hi j hj hij c g1 g2 => ?_, fun c hc => ?_, ?_, fun j hj hzj => ?_⟩, fun j hj => ?_⟩
  · by_cases hjk : j = k
    · subst hjk; rw [upd_eq]; trivial
    · rw [upd_ne _ _ hjk]; exact TK.ok_other (by omega) v (h.ok j hj)
  · by_cases hjk : j = k
    · subst hjk; rw [upd_eq] at hc; cases hc
    · rw [upd_ne _ _ hjk] at hc
      have : c ≠ b := fun e => by subst e; exact h.apart j hj k hk hjk c hc hhk
      rw [setI_ne _ _ this]
      exact h.free j hj c hc
  · by_cases hik : i = k
    · subst hik; rw [upd_eq] at g1; cases g1
    · rw [upd_ne _ _ hik] at g1
      by_cases hjk : j = k
      · subst hjk; rw [upd_eq] at g2; cases g2
      · rw [upd_ne _ _ hjk] at g2
        exact h.apart i hi j hj hij c g1 g2
  · rw [setI_ne _ _ (by omega)]; exact h.above c hc
  · have e1 : hn (s k) = 1 := by unfold hn; rw [hhk]
    have e2 : hn .nil = 0 := rfl
    have := hn_sum s hk .nil
    have := h.found
    omega
  · have hjk : j ≠ k := fun hjk => by subst hjk; rw [hz] at hzj; cases hzj
    rw [upd_ne _ _ hjk]
    exact h.none j hj hzj
  · by_cases hjk : j = k
    · subst hjk; rw [upd_eq, if_pos rfl]
      refine .inr ⟨hz, ?_⟩
      rw [hs]
      simp only [TK.left]
      omega
    · rw [upd_ne _ _ hjk, if_neg hjk]
      cases hzj : z j with
      | true => exact .inl rfl
      | false => exact .inr ⟨rfl, by omega⟩
/-- There is none. -/
theorem Inv.over (h : Inv B d f xs T s z) (hk : k < 3) (hd : d = B) (hh : (s k).held = Option.none) :
    Inv B d f xs T (upd s k .nil) (upd z k true) ∧ Rel B k d s z d (upd s k .nil) (upd z k true) := by
  refine ⟨⟨h.mem, fun j hj => ?_, fun j hj c hc => ?_, fun i hi j hj hij c g1 g2 => ?_, h.above, ?_, fun j hj hzj => ?_⟩, fun j hj => ?_⟩
  · by_cases hjk : j = k
    · subst hjk; rw [upd_eq]; trivial
    · rw [upd_ne _ _ hjk]; exact h.ok j hj
  · by_cases hjk : j = k
    · subst hjk; rw [upd_eq] at hc; cases hc
    · rw [upd_ne _ _ hjk] at hc; exact h.free j hj c hc
  · by_cases hik : i = k
    · subst hik; rw [upd_eq] at g1; cases g1
    · rw [upd_ne _ _ hik] at g1
      by_cases hjk : j = k
      · subst hjk; rw [upd_eq] at g2; cases g2
      · rw [upd_ne _ _ hjk] at g2
        exact h.apart i hi j hj hij c g1 g2
  · have e1 : hn (s k) = 0 := by unfold hn; rw [hh]
    have e2 : hn .nil = 0 := rfl
    have := hn_sum s hk .nil
    have := h.found
    omega
  · by_cases hjk : j = k
    · subst hjk; rw [upd_eq]; exact ⟨rfl, hd⟩
    · rw [upd_ne _ _ hjk] at hzj ⊢; exact h.none j hj hzj
  · by_cases hjk : j = k
    · subst hjk; rw [upd_eq]; exact .inl rfl
    · rw [upd_ne _ _ hjk, upd_ne _ _ hjk, if_neg hjk]
      cases hzj : z j with
      | true => exact .inl rfl
      | false => exact .inr ⟨rfl, by omega⟩
end
/-- The rounds in which k is in turn, of those from 400 on. -/
def cnt (k : Nat) (i : Int) : Int := if k = 0 then (i + 2) / 3 - 134 else if k = 1 then (i + 1) / 3 - 133 else i / 3 - 133
/-- How near the end is. -/
def Near (B d i : Int) (s : Nat → TK) (z : Nat → Bool) : Prop := ∀ j, j < 3 → z j = true ∨ (s j).left B d j + cnt j i ≤ 154
theorem Near.step {B d d' i f : Int} {xs : List Int} {T : Int → Int} {s s' : Nat → TK} {z z' : Nat → Bool} {k : Nat} (hB : 1 ≤ B ∧ B ≤ 8) (hi : 0 ≤ i) (hk : 400 ≤ i → i % 3 = k) (h : Near B d i s z) (hr : Rel B k d s z d' s' z') (hv : Inv B d' f xs T s' z') : Near B d' (i + 1) s' z' := fun j hj => by
  rcases hr j hj with g | ⟨g1, g2⟩
  · exact .inl g
  · refine .inr ?_
    rcases h j hj with g | g
    · rw [g1] at g; cases g
    · have hl := left_pos hv.mem.dd hB hj (hv.ok j hj)
      by_cases h400 : 400 ≤ i
      · have hk := hk h400
        by_cases hjk : j = k
        · rw [if_pos hjk] at g2
          subst hjk
          unfold cnt at g ⊢
          match j, hj with
          | 0, _ => simp at g ⊢; omega
          | 1, _ => simp at g ⊢; omega
          | 2, _ => simp at g ⊢; omega
        · rw [if_neg hjk] at g2
          unfold cnt at g ⊢
          match j, hj with
          | 0, _ => simp at g ⊢; omega
          | 1, _ => simp at g ⊢; omega
          | 2, _ => simp at g ⊢; omega
      · unfold cnt
        match j, hj with
        | 0, _ => simp; omega
        | 1, _ => simp; omega
        | 2, _ => simp; omega
theorem Near.fin {B d f : Int} {xs : List Int} {T : Int → Int} {s : Nat → TK} {z : Nat → Bool} (hB : 1 ≤ B ∧ B ≤ 8) (h : Near B d 1200 s z) (hv : Inv B d f xs T s z) : z 0 = true ∧ z 1 = true ∧ z 2 = true ∧ f = B := by
  have hz : ∀ j, j < 3 → z j = true := fun j hj => by
    rcases h j hj with g | g
    · exact g
    · have hl := left_pos hv.mem.dd hB hj (hv.ok j hj)
      unfold cnt at g
      match j, hj with
      | 0, _ => simp at g; omega
      | 1, _ => simp at g; omega
      | 2, _ => simp at g; omega
  refine ⟨hz 0 (by decide), hz 1 (by decide), hz 2 (by decide), ?_⟩
  have h0 := hv.none 0 (by decide) (hz 0 (by decide)); have h1 := hv.none 1 (by decide) (hz 1 (by decide)); have h2 := hv.none 2 (by decide) (hz 2 (by decide))
  have := hv.found
  rw [h0.1, h1.1, h2.1] at this
  have e : hn .nil = 0 := rfl
  omega
end Go.Proofs.Ytmegnipdeanghaa.CarveOnce
