/-
  The engine, part Zc: pieces of code by trees all of whose leaves are as they should be; functions over objects by the logic; memories that are opened and closed in a state.
-/
import Derived.Test.YtlkanbgcghjhnaaEngZb
namespace Go.Proofs.Ytlkanbgcghjhnaa.Eng
open Go Go.RowKit
set_option linter.unusedVariables false

section
variable {A : Type} {S : Sys A} {P : Program} {E : Ctx A}
theorem Tri.all {c : Code} {ev : St A → Tr (VX × St A)} (hc : CodeOK S P c ev) {st : St A} {m n : Nat} {T : Tr (Lf A)} {Q : VX → St A → Prop} (h : (ev st).vmap (Eng.leaf m) = T)
    (hT : T.All fun l => l.len = m + n ∧ l.nid ≤ E.top ∧ (∀ b, b ∈ l.dirty → E.D b) ∧ ∀ js, Q l.x ⟨l.pre ++ junk js n m, l.hp, l.nid, l.dirty⟩) : Tri S P E c st Q := by
  obtain ⟨l, hl, h1, h2, h3, h4⟩ := Tr.all_iff.1 hT
  refine (Tri.leaf (m := m) (n := n) hc ((congrArg Tr.run h).trans hl) h1 h2 h3).mono ?_
  rintro y s ⟨rfl, js, rfl⟩
  exact h4 js
theorem Tri.list {call : FuncId → List SV → HP A → Nat → Tr (CR A)} {R : Nat} (hc : ∀ c, CodeOK S P c (evCode P call R c)) (k : Nat) {c c' : Code} {st : St A} {Q : VX → St A → Prop} {m n : Nat} {T : Tr (Lf A)}
    (hs : (Eng.spine k c).2 = c') (h : (evList (P := P) call R (Eng.spine k c).1 st).vmap (Eng.leaf m) = T)
    (hT : T.All fun l => l.x = .normal ∧ l.len = m + n ∧ l.nid ≤ E.top ∧ (∀ b, b ∈ l.dirty → E.D b) ∧ ∀ js, Tri S P E c' ⟨l.pre ++ junk js n m, l.hp, l.nid, l.dirty⟩ Q) : Tri S P E c st Q := by
  obtain ⟨l, hl, h0, h1, h2, h3, h4⟩ := Tr.all_iff.1 hT
  exact Tri.lead hc k hs ((congrArg Tr.run h).trans hl) h0 h1 h2 h3 h4
/-- Names are given anew, garbage is dropped, ahead of a code. -/
theorem Tri.ren {c : Code} {tm pre pre' : List SV} {hp hp' : HP A} {nid nid' m n : Nat} {dirty : List Nat} {Q : VX → St A → Prop} (r : List (Nat × Nat)) (hpre : tm.take m = pre) (hlen : tm.length = m + n)
    (h1 : renSVs r pre = some pre') (h2 : renHP r hp r = some hp') (hchk : renChk r hp E.nid0 nid nid' = true) (hn0 : E.nid0 ≤ nid') (hn1 : nid' ≤ E.top)
    (next : ∀ js, Tri S P E c ⟨pre' ++ junk js n m, hp', nid', []⟩ Q) : Tri S P E c ⟨tm, hp, nid, dirty⟩ Q := by
  refine Tri.preE fun a w hat => ?_
  obtain ⟨js, h⟩ := at_rename (dirty' := []) r hpre hlen h1 h2 hchk hn0 hn1 hat
  exact ⟨_, h, next js⟩
/-- The same behind a code. -/
theorem Tri.postRen {c : Code} {st : St A} {Q Q' : VX → St A → Prop} (h : Tri S P E c st Q)
    (hq : ∀ x s, Q x s → ∃ (r : List (Nat × Nat)) (pre pre' : List SV) (hp' : HP A) (nid' m n : Nat), s.tm.take m = pre ∧ s.tm.length = m + n ∧ renSVs r pre = some pre' ∧ renHP r s.hp r = some hp' ∧ renChk r s.hp E.nid0 s.nid nid' = true ∧ E.nid0 ≤ nid' ∧ nid' ≤ E.top ∧
      ∀ js, Q' x ⟨pre' ++ junk js n m, hp', nid', []⟩) : Tri S P E c st Q' :=
  Tri.postE h fun x s a w hx hat => by
    obtain ⟨r, pre, pre', hp', nid', m, n, h1, h2, h3, h4, h5, h6, h7, h8⟩ := hq x s hx
    obtain ⟨js, h9⟩ := at_rename (dirty' := []) r h1 h2 h3 h4 h5 h6 h7 hat
    exact ⟨_, h9, h8 js⟩
end
theorem cons_eq {α : Type} {a b : α} {l m : List α} (h : a = b) (k : l = m) : a :: l = b :: m := by rw [h, k]
section
variable {A : Type} {S : Sys A} {P : Program} {E : Ctx A}
theorem Tri.allR {c : Code} {ev : St A → Tr (VX × St A)} (hc : CodeOK S P c ev) {st : St A} {m n : Nat} {T : Tr (Lf A)} {Q : VX → St A → Prop} (h : ((ev st).vmap (Eng.leaf m)).run = T.run)
    (hT : T.All fun l => l.len = m + n ∧ l.nid ≤ E.top ∧ (∀ b, b ∈ l.dirty → E.D b) ∧ ∀ js, Q l.x ⟨l.pre ++ junk js n m, l.hp, l.nid, []⟩) : Tri S P E c st Q := by
  obtain ⟨l, hl, h1, h2, h3, h4⟩ := Tr.all_iff.1 hT
  refine (Tri.leaf (m := m) (n := n) hc (h.trans hl) h1 h2 h3).post ?_
  rintro y s ⟨rfl, js, rfl⟩
  exact ⟨⟨l.pre ++ junk js n m, l.hp, l.nid, []⟩, fun _ _ h => h, h4 js⟩
theorem Tri.listR {call : FuncId → List SV → HP A → Nat → Tr (CR A)} {R : Nat} (hc : ∀ c, CodeOK S P c (evCode P call R c)) (k : Nat) {c c' : Code} {l : List Code} {st : St A} {Q : VX → St A → Prop} {m n : Nat} {T : Tr (Lf A)}
    (hs1 : (Eng.spine k c).1 = l) (hs2 : (Eng.spine k c).2 = c') (h : ((evList (P := P) call R l st).vmap (Eng.leaf m)).run = T.run)
    (hT : T.All fun l => l.x = .normal ∧ l.len = m + n ∧ l.nid ≤ E.top ∧ (∀ b, b ∈ l.dirty → E.D b) ∧ ∀ js, Tri S P E c' ⟨l.pre ++ junk js n m, l.hp, l.nid, []⟩ Q) : Tri S P E c st Q := by
  subst hs1
  obtain ⟨l, hl, h0, h1, h2, h3, h4⟩ := Tr.all_iff.1 hT
  exact Tri.lead hc k hs2 (h.trans hl) h0 h1 h2 h3 fun js a w ha => h4 js a w ha
end
section
variable {A : Type} {S : Sys A} {P : Program} {E : Ctx A}
theorem Tri.preWk {c : Code} {pre pre' l : List SV} {hp hp' : HP A} {nid : Nat} {d : List Nat} {Q : VX → St A → Prop} (h1 : wkSs pre pre') (h2 : wkH hp hp') (h : Tri S P E c ⟨pre' ++ l, hp', nid, []⟩ Q) : Tri S P E c ⟨pre ++ l, hp, nid, d⟩ Q :=
  Tri.preE fun a w hat => ⟨_, at_wk h1 h2 hat, h⟩
end
section
variable {A : Type} {S : Sys A} {P : Program} {E : Ctx A}
theorem TriX.listR {call : FuncId → List SV → HP A → Nat → Tr (CR A)} {R : Nat} (hc : ∀ c, CodeOK S P c (evCode P call R c)) {l : List Code} {st : St A} {Q : VX → St A → Prop} {m n : Nat} {T : Tr (Lf A)}
    (h : ((evList (P := P) call R l st).vmap (Eng.leaf m)).run = T.run)
    (hT : T.All fun l => l.x = .normal ∧ l.len = m + n ∧ l.nid ≤ E.top ∧ (∀ b, b ∈ l.dirty → E.D b) ∧ ∀ js, Q .normal ⟨l.pre ++ junk js n m, l.hp, l.nid, []⟩) : TriX S (listX P l) E st Q := by
  obtain ⟨l, hl, h0, h1, h2, h3, h4⟩ := Tr.all_iff.1 hT
  obtain ⟨js, hr⟩ := run_of_leaf (n := n) (h.trans hl) h1
  have hm : l.pre.length = m := by
    rw [hl] at h
    rw [Tr.run_vmap] at h
    obtain ⟨a, _, rfl⟩ := h
    have h1 : a.2.tm.length = m + n := h1
    show (a.2.tm.take m).length = m
    rw [List.length_take]
    omega
  rw [h0] at hr
  refine TriX.postE (mono_list _) (triX_list hc hr h2 h3) ?_
  rintro x s a w ⟨rfl, rfl⟩ hat
  refine ⟨⟨l.pre ++ junk js n m, l.hp, l.nid, []⟩, ?_, h4 js⟩
  unfold stJ at hat
  rw [hm] at hat
  exact hat
theorem TriX.preWk {X : XF} {pre pre' l : List SV} {hp hp' : HP A} {nid : Nat} {d : List Nat} {Q : VX → St A → Prop} (h1 : wkSs pre pre') (h2 : wkH hp hp') (h : TriX S X E ⟨pre' ++ l, hp', nid, []⟩ Q) : TriX S X E ⟨pre ++ l, hp, nid, d⟩ Q :=
  fun a w ha => h a w (at_wk h1 h2 ha)
end
theorem Tr.all_ite {α : Type} {Q : α → Prop} {c : Bool} {t e : Tr α} (h1 : c = true → t.All Q) (h2 : c = false → e.All Q) : (Tr.ite c t e).All Q := ⟨h1, h2⟩
theorem Tr.all_ok {α : Type} {Q : α → Prop} {a : α} (h : Q a) : (Tr.ok a).All Q := h
/-- What is read of a row. -/
theorem tab_fits {ks : List CK} {xs : List (List Int)} (h : RFits ks xs) {i j : Nat} {k : CK} (hi : i < xs.length) (hk : ks[j]? = some k) : k.fits (tabAt xs i j) := by
  obtain ⟨n, h1, h2⟩ := h i xs[i] (List.getElem?_eq_getElem hi) j k hk
  unfold tabAt
  have : xs.getD i [] = xs[i] := by rw [List.getD_eq_getElem?_getD, List.getElem?_eq_getElem hi]; rfl
  rw [this, List.getD_eq_getElem?_getD, h1]
  exact h2
theorem take_junk {α : Type} (pre l : List α) : (pre ++ l).take pre.length = pre := List.take_left' rfl
theorem len_junk (pre : List SV) (js : Nat → SV) (n m : Nat) : (pre ++ junk js n m).length = pre.length + n := by rw [List.length_append, length_junk]
end Go.Proofs.Ytlkanbgcghjhnaa.Eng
