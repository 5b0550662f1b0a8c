/-
  Laws whose arguments matter only by small remainders: 'kind' as a tree of literals, 'shown' as a truth.
-/
import Derived.Test.YtcolladpdmjloaaEv4
import Derived.Test.YtcolladpdmjloaaEv2r
namespace Go.Proofs.Ytcolladpdmjloaa.Eng
open Go Go.RowKit

/-- Is it a bool that is true? -/
def isT (o : Option SV) : Bool := match o with
  | some (.s (.one (.bool b))) => b.val
  | _ => false
theorem isT_spec {o : Option SV} (h : isT o = true) : ∃ b, o = some (.v (.bool b)) ∧ b.val = true := by
  unfold isT at h
  split at h
  · exact ⟨_, rfl, h⟩
  · cases h
/-- A law by one path. -/
theorem Holds.path {t : Tr SV} {p cs : List Bool} (h1 : t.conds p = cs) (h2 : cs = p) (h3 : isT (t.path p).run = true) : Holds t := by
  obtain ⟨b, hb, hv⟩ := isT_spec h3
  exact ⟨Tr.all_iff.2 ⟨_, (Tr.run_path (h1.trans h2)).trans hb, hv⟩⟩
/-- The first n tests, all of which are decided, are passed. -/
def Tr.skip {α : Type} : Nat → Tr α → Tr α
  | 0, t => t
  | n + 1, .ite c t e => match c with
    | true => t.skip n
    | false => e.skip n
  | _ + 1, t => t
theorem Tr.run_skip {α : Type} : ∀ (n : Nat) (t : Tr α), (t.skip n).run = t.run
  | 0, _ => by unfold Tr.skip; rfl
  | n + 1, .ite true t e => Tr.run_skip n t
  | n + 1, .ite false t e => Tr.run_skip n e
  | n + 1, .ok a => rfl
  | n + 1, .no s => rfl
/-- How many tests are decided (to look, not to prove). -/
def Tr.count {α : Type} : Tr α → Nat → Nat
  | .ite c t e, k => match c with
    | true => t.count (k + 1)
    | false => e.count (k + 1)
  | _, k => k
theorem Holds.then {t t' : Tr SV} (h : t'.run = t.run) (h' : Holds t') : Holds t := by
  obtain ⟨a, ha, hq⟩ := Tr.all_iff.1 h'.all
  exact ⟨Tr.all_iff.2 ⟨a, h.symm.trans ha, hq⟩⟩
theorem Holds.ofT {t : Tr SV} (h3 : isT t.run = true) : Holds t := by
  obtain ⟨b, hb, hv⟩ := isT_spec h3
  exact ⟨Tr.all_iff.2 ⟨_, hb, hv⟩⟩
theorem Holds.at {t : Tr SV} {p cs : List Bool} (h1 : t.conds p = cs) (h2 : cs = p) (h3 : Holds (t.path p)) : Holds t :=
  Holds.then (Tr.run_path (h1.trans h2)).symm h3
theorem shown_of {f : FuncId} {ev : List SV → HP MObj → Nat → Tr (CR MObj)} (hev : FunOK MS Try.prog f ev) (h : isT ((ev [] [] 0).vmap (·.val)).run = true) : FunOK MS Try.prog f (pureI MObj gTrue) := by
  obtain ⟨b, hb, hv⟩ := isT_spec h
  refine funOK_tree hev fun args v vargs ρ hg ha => ?_
  unfold gTrue at hg
  split at hg
  · injection hg with hg
    subst hg
    refine ⟨rfl, [], _, _, ha, rfl, hb, fun ρ x hx => ?_⟩
    have hx : x = .bool b.val := hx
    rw [hv] at hx
    exact hx
  · cases hg
/-- Which of n kinds. -/
def kM (c n : Int) : Int := if c < 0 then (W (0 - W (c + 1))).tmod n else c.tmod n
def enumT (k : Int) : Nat → Nat → Tr SV
  | 0, _ => .no "kind"
  | m + 1, j => .ite (k == j) (.ok (.v (.int .i64 (.lit j)))) (enumT k m (j + 1))
def gKind : List SV → Tr SV
  | [.s (.one (.int .i64 c)), .s (.one (.int .i64 (.lit n)))] => enumT (kM c.val n) n.toNat 0
  | _ => .no "kind: arguments"
theorem enumT_spec {k : Int} : ∀ {m j : Nat} {v : SV}, (enumT k m j).run = some v → ∃ i : Nat, k = i ∧ v = .v (.int .i64 (.lit i)) ∧ 0 < m
  | 0, _, _, h => by cases h
  | m + 1, j, v, h => by
    rw [enumT, Tr.run_ite] at h
    rcases h with ⟨h1, h2⟩ | ⟨_, h2⟩
    · rw [Tr.run_ok] at h2
      exact ⟨j, by simpa using h1, h2.symm, Nat.succ_pos m⟩
    · obtain ⟨i, h3, h4, _⟩ := enumT_spec h2
      exact ⟨i, h3, h4, Nat.succ_pos m⟩
theorem kind_of {f : FuncId} {ev : List SV → HP MObj → Nat → Tr (CR MObj)} (hev : FunOK MS Try.prog f ev)
    (h : ∀ c n : Int, (ev [.v (ii c), .v (ii n)] [] 0).vmap (·.val) = .ite (decide (c < 0)) (.ite (n == 0) (.no "% 0") (.ok (.v (ii ((W (0 - W (c + 1))).tmod n))))) (.ite (n == 0) (.no "% 0") (.ok (.v (ii (c.tmod n)))))) :
    FunOK MS Try.prog f (pureT MObj gKind) := by
  refine funOK_pureT hev fun args v vargs ρ hg ha => ?_
  unfold gKind at hg
  split at hg
  · rename_i c n
    obtain ⟨i, h1, h2, h3⟩ := enumT_spec hg
    subst h2
    refine ⟨rfl, ?_⟩
    have hn : ¬ n = 0 := by omega
    have key : ∀ t : Tr SV, t.run = some (.v (ii i)) → (ev [.v (ii c.val), .v (ii n)] [] 0).vmap (·.val) = t → ∃ r, (ev [.v (ii c.val), .v (ii n)] [] 0).run = some r ∧ symSV r.val = symSV (.v (.int .i64 (.lit i))) := by
      intro t ht he
      rw [← he, Tr.run_vmap] at ht
      obtain ⟨r, hr, hv⟩ := ht
      exact ⟨r, hr, by rw [hv]; rfl⟩
    unfold kM at h1
    refine key _ ?_ (h c.val n)
    have hn' : (n == 0) = false := by simpa using hn
    by_cases hc : c.val < 0
    · rw [if_pos hc] at h1
      have hc' : decide (c.val < 0) = true := decide_eq_true hc
      simp only [Tr.run, hc', hn', h1]
    · rw [if_neg hc] at h1
      have hc' : decide (c.val < 0) = false := decide_eq_false hc
      simp only [Tr.run, hc', hn', h1]
  · cases hg
theorem kM_range {c n : Int} (hn : 0 < n) (h : -9223372036854775808 ≤ c ∧ c ≤ 9223372036854775807) : 0 ≤ kM c n ∧ kM c n < n := by
  unfold kM
  split
  · have e1 : W (c + 1) = c + 1 := wrap_i64_of (by omega) (by omega)
    have e2 : W (0 - (c + 1)) = 0 - (c + 1) := wrap_i64_of (by omega) (by omega)
    rw [e1, e2]
    exact ⟨Int.tmod_nonneg _ (by omega), Int.tmod_lt_of_pos _ hn⟩
  · exact ⟨Int.tmod_nonneg _ (by omega), Int.tmod_lt_of_pos _ hn⟩
end Go.Proofs.Ytcolladpdmjloaa.Eng
