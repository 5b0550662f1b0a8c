/-
  The table of contracts for CarveOnce.
-/
import Derived.Test.YtmegnipdeanghaaEv9
import Derived.Test.YtmegnipdeanghaaEvK
import Derived.Test.YtmegnipdeanghaaEvF091
import Derived.Test.YtmegnipdeanghaaEvF093
import Derived.Test.YtmegnipdeanghaaEv5br
namespace Go.Proofs.Ytmegnipdeanghaa.Eng
open Go Go.RowKit
set_option maxRecDepth 100000
namespace LCO
theorem k0 (f : FuncId) : FunOK MS Try.prog f (evF Try.prog (fun _ => none) 100 20 f) := evF_sound progOK (fun _ _ h => by cases h) 100 20 f
theorem kind_ok : FunOK MS Try.prog 6 (pureT MObj gKind) := kind_of (k0 _) (fun c n => by kernel_rfl)
def tabS : List (Nat × Intr MObj) := (6, pureT MObj gKind) :: (7, renI LF091.freshI) :: (9, L9.iCarve) :: (15, L8.iPop) :: (63, L8.iPush) :: LF091.tabT
theorem tabS_ok : ∀ p ∈ tabS, FunOK MS Try.prog p.1 p.2 := tab_cons kind_ok (tab_cons LF091.freshI_ok (tab_cons L9.iCarve_ok (tab_cons L8.iPop_ok (tab_cons L8.iPush_ok LF091.tabT_ok))))
theorem ok (f : FuncId) : FunOK MS Try.prog f (evF Try.prog (lookH MObj tabS) 100 20 f) := evF_sound progOK (lookH_ok tabS_ok) 100 20 f
theorem shown_ok : FunOK MS Try.prog 4 (pureI MObj gTrue) := shown_of (ok _) (by kernel_rfl)
def gBlk : List SV → Tr SV
  | [.s (.agg [.int .i64 t, .int .i64 b, .int .i64 u, .int .i64 h, .int .i64 s]), .s (.one (.int .i64 a))] => .ite ((decide (0 ≤ b.val) && decide (b.val ≤ 64)) && (decide (0 ≤ h.val) && decide (h.val ≤ 100000)) && decide (s.val = h.val + 32 * b.val)) (.ok (.v (.int .i64 (.sym (RB.mBlk h.val s.val a.val))))) (.no "Block: plan")
  | _ => .no "Block: arguments"
theorem gBlk_ok : FunOK MS Try.prog 10 (pureT MObj gBlk) := funOK_calls fun args v hv => by
  unfold gBlk at hv
  split at hv
  · rename_i t b u h s a
    rw [Tr.run_ite] at hv
    rcases hv with ⟨hc, hv⟩ | ⟨_, hv⟩
    · rw [Tr.run_ok] at hv
      subst hv
      simp only [Bool.and_eq_true, decide_eq_true_eq] at hc
      exact ⟨rfl, RB.calls hc.1.1 hc.1.2 hc.2⟩
    · cases hv
  · cases hv
def tabL : List (Nat × Intr MObj) := (4, pureI MObj gTrue) :: (6, pureT MObj gKind) :: (7, renI LF093.freshI) :: (9, L9.iCarve) :: (10, pureT MObj gBlk) :: LF093.tabT
theorem tabL_ok : ∀ p ∈ tabL, FunOK MS Try.prog p.1 p.2 := tab_cons shown_ok (tab_cons kind_ok (tab_cons LF093.freshI_ok (tab_cons L9.iCarve_ok (tab_cons gBlk_ok LF093.tabT_ok))))
end LCO
end Go.Proofs.Ytmegnipdeanghaa.Eng
