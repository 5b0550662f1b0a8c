/-
  Which of n kinds, as a sign.
-/
import Derived.Test.YtcolladpdmjloaaEvK
namespace Go.Proofs.Ytcolladpdmjloaa.Eng
open Go Go.RowKit
def gKindS : List SV → Tr SV
  | [.s (.one (.int .i64 c)), .s (.one (.int .i64 (.lit n)))] => .ite (n == 0) (.no "kind") (.ok (.v (ii (kM c.val n))))
  | _ => .no "kind: arguments"
theorem kindS_of {f : FuncId} {ev : List SV → HP MObj → Nat → Tr (CR MObj)} (hev : FunOK MS Try.prog f ev)
    (h : ∀ c n : Int, (ev [.v (ii c), .v (ii n)] [] 0).vmap (·.val) = .ite (decide (c < 0)) (.ite (n == 0) (.no "% 0") (.ok (.v (ii ((W (0 - W (c + 1))).tmod n))))) (.ite (n == 0) (.no "% 0") (.ok (.v (ii (c.tmod n)))))) :
    FunOK MS Try.prog f (pureT MObj gKindS) := by
  refine funOK_pureT hev fun args v vargs ρ hg ha => ?_
  unfold gKindS at hg
  split at hg
  · rename_i c n
    rw [Tr.run_ite] at hg
    rcases hg with ⟨_, hg⟩ | ⟨hn, hg⟩
    · cases hg
    · rw [Tr.run_ok] at hg
      subst hg
      refine ⟨rfl, ?_⟩
      have key : ∀ t : Tr SV, t.run = some (.v (ii (kM c.val n))) → (ev [.v (ii c.val), .v (ii n)] [] 0).vmap (·.val) = t → ∃ r, (ev [.v (ii c.val), .v (ii n)] [] 0).run = some r ∧ symSV r.val = symSV (.v (ii (kM c.val n))) := by
        intro t ht he
        rw [← he, Tr.run_vmap] at ht
        obtain ⟨r, hr, hv⟩ := ht
        exact ⟨r, hr, by rw [hv]⟩
      refine key _ ?_ (h c.val n)
      unfold kM
      by_cases hc : c.val < 0
      · have hc' : decide (c.val < 0) = true := decide_eq_true hc
        simp only [Tr.run, hc', hn, if_pos hc]
      · have hc' : decide (c.val < 0) = false := decide_eq_false hc
        simp only [Tr.run, hc', hn, if_neg hc]
  · cases hg
end Go.Proofs.Ytcolladpdmjloaa.Eng
