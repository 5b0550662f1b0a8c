/-
  The engine, part Q: functions of our own that test; loops whose bounds are signs, by what is kept from round to round.
-/
import Derived.Test.YtcolladpdmjloaaEngP
namespace Go.Proofs.Ytcolladpdmjloaa.Eng
open Go Go.RowKit

section
variable {A : Type} {S : Sys A} {P : Program}

/-! ### Functions of our own with tests -/
def pureT (A : Type) (g : List SV → Tr SV) : Intr A := fun args hp nid => match args.all plainSV with
  | true => (g args).bind fun v => .ok ⟨v, hp, [], nid⟩
  | false => .no "arguments with pointers"
theorem funOK_pureT {f : FuncId} {g : List SV → Tr SV} {ev : List SV → HP A → Nat → Tr (CR A)} (hev : FunOK S P f ev)
    (h : ∀ args v vargs ρ, (g args).run = some v → F2 (RS ρ) args vargs → plainSV v = true ∧ ∃ r, (ev (args.map symSV) [] 0).run = some r ∧ symSV r.val = symSV v) :
    FunOK S P f (pureT A g) := by
  intro args hp nid r hrun
  have key : FunOK S P f (pureI A fun a => (g a).run) := funOK_pure hev fun args v vargs ρ hg ha => by
    obtain ⟨h1, r, h2, h3⟩ := h args v vargs ρ hg ha
    exact ⟨h1, args.map symSV, r, (F2_map fun _ _ => RS_sym).2 ha, h2, fun ρ x hx => RS_sym.1 (h3 ▸ RS_sym.2 hx)⟩
  refine key args hp nid r ?_
  unfold pureT at hrun
  unfold pureI
  split at hrun
  · rename_i hp'
    rw [hp']
    rw [Tr.run_bind] at hrun
    obtain ⟨v, hv, hrun⟩ := hrun
    simp only
    rw [hv]
    exact hrun
  · simp [Tr.run] at hrun

/-! ### Pieces of a code -/
def codeAt : Code → List Bool → Code
  | c, [] => c
  | .seq a _, false :: p => codeAt a p
  | .seq _ b, true :: p => codeAt b p
  | .cond _ a _, false :: p => codeAt a p
  | .cond _ _ b, true :: p => codeAt b p
  | .block _ c, false :: p => codeAt c p
  | .loop c, false :: p => codeAt c p
  | .scope c, false :: p => codeAt c p
  | c, _ :: _ => c
/-- The n statements that stand first. -/
def spine : Nat → Code → List Code × Code
  | 0, c => ([], c)
  | n + 1, .seq a b => (a :: (spine n b).1, (spine n b).2)
  | _ + 1, c => ([], c)
section
variable (call : FuncId → List SV → HP A → Nat → Tr (CR A)) (R : Nat)
noncomputable def evList : List Code → St A → Tr (VX × St A)
  | [], st => .ok (.normal, st)
  | c :: cs, st => (evCode P call R c st).bind fun r => match r.1 with
    | .normal => evList cs r.2
    | _ => .ok r
end
variable {call : FuncId → List SV → HP A → Nat → Tr (CR A)} {R : Nat}
/-- A code's run, part by part: the first statements end as they should, then the rest. -/
theorem run_spine : ∀ (n : Nat) {c : Code} {st st1 : St A} {r : VX × St A}, (evList (P := P) call R (spine n c).1 st).run = some (.normal, st1) → (evCode P call R (spine n c).2 st1).run = some r → (evCode P call R c st).run = some r
  | 0, c, st, st1, r, h1, h2 => by
    rw [spine, evList, Tr.run_ok] at h1
    cases h1
    exact h2
  | n + 1, c, st, st1, r, h1, h2 => by
    cases c
    case seq a b =>
      simp only [spine, evList] at h1 h2
      rw [Tr.run_bind] at h1
      obtain ⟨⟨x, st'⟩, h3, h4⟩ := h1
      rw [evCode, Tr.run_bind]
      refine ⟨(x, st'), h3, ?_⟩
      cases x with
      | normal => exact run_spine n h4 h2
      | exit k => rw [Tr.run_ok] at h4; cases h4
      | ret => rw [Tr.run_ok] at h4; cases h4
    all_goals
      simp only [spine, evList] at h1 h2
      rw [Tr.run_ok] at h1
      cases h1
      exact h2
theorem run_then {a b : Code} {st st1 : St A} {r : VX × St A} (h1 : (evCode P call R a st).run = some (.normal, st1)) (h2 : (evCode P call R b st1).run = some r) : (evCode P call R (.seq a b) st).run = some r := by
  rw [evCode, Tr.run_bind]
  exact ⟨_, h1, h2⟩
/-- A loop of Go's: a block round a loop that is left by the block's own exit. -/
theorem run_loop {id : Nat} {c : Code} {st : St A} {r : VX × St A} (h : (iter (evCode P call R c) R st).run = some r) (hr : r.1 = .exit id ∨ r.1 = .ret) :
    (evCode P call R (.block id (.loop c)) st).run = some (match r.1 with | .exit _ => (.normal, r.2) | x => (x, r.2)) := by
  rw [evCode, Tr.run_bind]
  refine ⟨r, by rw [evCode]; exact h, ?_⟩
  rcases hr with hr | hr <;> rw [hr] <;> simp [Tr.run]
  obtain ⟨x, y⟩ := r
  subst hr
  rfl

/-! ### What is kept of a state -/
structure Lf (A : Type) where
  x : VX
  pre : List SV
  len : Nat
  hp : HP A
  nid : Nat
  dirty : List Nat
def leaf (m : Nat) (r : VX × St A) : Lf A := ⟨r.1, r.2.tm.take m, r.2.tm.length, r.2.hp, r.2.nid, r.2.dirty⟩
def junk (js : Nat → SV) : Nat → Nat → List SV
  | 0, _ => []
  | n + 1, k => js k :: junk js n (k + 1)
theorem length_junk (js : Nat → SV) : ∀ n k, (junk js n k).length = n
  | 0, _ => rfl
  | n + 1, k => by simp [junk, length_junk js n (k + 1)]
theorem junk_drop : ∀ (n k : Nat) (l : List SV), l.length = k + n → l.drop k = junk (fun i => l.getD i .undef) n k
  | 0, k, l, h => by rw [junk, List.drop_eq_nil_of_le (by omega)]
  | n + 1, k, l, h => by
    rw [junk, ← junk_drop n (k + 1) l (by omega)]
    rw [List.drop_eq_getElem_cons (by omega)]
    congr 1
    simp [List.getD, List.getElem?_eq_getElem (show k < l.length by omega)]
/-- A state whose first slots are known. -/
def stJ (pre : List SV) (js : Nat → SV) (n : Nat) (hp : HP A) (nid : Nat) (dirty : List Nat) : St A := ⟨pre ++ junk js n pre.length, hp, nid, dirty⟩
theorem st_of_leaf {m n : Nat} {st : St A} (h : st.tm.length = m + n) : ∃ js, st = stJ (st.tm.take m) js n st.hp st.nid st.dirty := by
  refine ⟨fun i => st.tm.getD i .undef, ?_⟩
  unfold stJ
  have hm : (st.tm.take m).length = m := by simp; omega
  rw [hm, ← junk_drop n m st.tm h, List.take_append_drop]
theorem run_of_leaf {m n : Nat} {t : Tr (VX × St A)} {l : Lf A} (h : (t.vmap (leaf m)).run = some l) (hl : l.len = m + n) : ∃ js, t.run = some (l.x, stJ l.pre js n l.hp l.nid l.dirty) := by
  rw [Tr.run_vmap] at h
  obtain ⟨⟨x, st⟩, h1, rfl⟩ := h
  obtain ⟨js, hj⟩ := st_of_leaf (m := m) (n := n) (st := st) hl
  exact ⟨js, h1.trans (congrArg some (congrArg (Prod.mk x) hj))⟩

/-- A loop, by what is kept: k rounds at the most are left. -/
theorem iter_inv {f : St A → Tr (VX × St A)} {m n : Nat} {hp : HP A} {nid : Nat} {dirty : List Nat} (J : Nat → List SV → Prop) (Q : VX → List SV → Prop)
    (step : ∀ k pre, J k pre → pre.length = m → ∀ js, ∃ l, ((f (stJ pre js n hp nid dirty)).vmap (leaf m)).run = some l ∧ l.len = m + n ∧ l.hp = hp ∧ l.nid = nid ∧ l.dirty = dirty ∧
      ((l.x = .normal ∧ ∃ k', k = k' + 1 ∧ J k' l.pre) ∨ (l.x ≠ .normal ∧ Q l.x l.pre))) :
    ∀ k R pre js, J k pre → pre.length = m → k < R → ∃ x pre' js', (iter f R (stJ pre js n hp nid dirty)).run = some (x, stJ pre' js' n hp nid dirty) ∧ pre'.length = m ∧ x ≠ .normal ∧ Q x pre' := by
  intro k
  induction k with
  | zero =>
    intro R pre js hJ hm hR
    obtain ⟨R, rfl⟩ : ∃ R', R = R' + 1 := ⟨R - 1, by omega⟩
    obtain ⟨l, h1, h2, h3, h4, h5, h6⟩ := step 0 pre hJ hm js
    rcases h6 with ⟨_, k', hk, _⟩ | ⟨hx, hQ⟩
    · omega
    · obtain ⟨js', hr⟩ := run_of_leaf h1 h2
      rw [h3, h4, h5] at hr
      have hlen : l.pre.length = m := by
        rw [Tr.run_vmap] at h1
        obtain ⟨a, _, rfl⟩ := h1
        have h2 : a.2.tm.length = m + n := h2
        show (a.2.tm.take m).length = m
        rw [List.length_take]
        omega
      refine ⟨l.x, l.pre, js', ?_, hlen, hx, hQ⟩
      rw [iter, Tr.run_bind]
      refine ⟨_, hr, ?_⟩
      obtain ⟨x, pre2, _, _, _, _⟩ := l
      cases x <;> first | exact absurd rfl hx | simp [Tr.run]
  | succ k ih =>
    intro R pre js hJ hm hR
    obtain ⟨R, rfl⟩ : ∃ R', R = R' + 1 := ⟨R - 1, by omega⟩
    obtain ⟨l, h1, h2, h3, h4, h5, h6⟩ := step (k + 1) pre hJ hm js
    obtain ⟨js', hr⟩ := run_of_leaf h1 h2
    rw [h3, h4, h5] at hr
    have hlen : l.pre.length = m := by
      rw [Tr.run_vmap] at h1
      obtain ⟨a, _, rfl⟩ := h1
      have h2 : a.2.tm.length = m + n := h2
      show (a.2.tm.take m).length = m
      rw [List.length_take]
      omega
    rcases h6 with ⟨hx, k', hk, hJ'⟩ | ⟨hx, hQ⟩
    · obtain rfl : k = k' := by omega
      obtain ⟨x, pre', js2, h7, h8, h9, h10⟩ := ih R l.pre js' hJ' hlen (by omega)
      refine ⟨x, pre', js2, ?_, h8, h9, h10⟩
      rw [iter, Tr.run_bind]
      refine ⟨_, hr, ?_⟩
      rw [hx]
      exact h7
    · refine ⟨l.x, l.pre, js', ?_, hlen, hx, hQ⟩
      rw [iter, Tr.run_bind]
      refine ⟨_, hr, ?_⟩
      obtain ⟨x, pre2, _, _, _, _⟩ := l
      cases x <;> first | exact absurd rfl hx | simp [Tr.run]

/-! ### A function's own run -/
theorem evF_run {I : FuncId → Option (Intr A)} {R d : Nat} {f : FuncId} {fn : Func} {c : Code} {args : List SV} {hp : HP A} {nid : Nat} (hI : I f = none) (hf : P.funcs[f]? = some fn) (hb : fn.body = some c)
    {x : VX} {st : St A} {l : List S1} (h : (evCode P (evF P I R d) R c ⟨args ++ List.replicate (fn.ntmps - args.length) .undef, hp, nid, []⟩).run = some (x, st)) (hx : x = .normal ∨ x = .ret)
    (hl : (vresults P st fn.results.toList).run = some l) : (evF P I R (d + 1) f args hp nid).run = some ⟨tupleOf l, st.hp, st.dirty, st.nid⟩ := by
  rw [evF, hI]
  simp only
  rw [hf]
  simp only
  unfold evBody
  rw [hb]
  simp only
  rw [Tr.run_bind]
  refine ⟨_, h, ?_⟩
  rcases hx with rfl | rfl <;> (simp only; rw [Tr.run_bind]; exact ⟨l, hl, rfl⟩)
end
end Go.Proofs.Ytcolladpdmjloaa.Eng
