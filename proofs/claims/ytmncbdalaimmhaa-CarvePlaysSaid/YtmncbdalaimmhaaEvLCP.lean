/-
  The table of contracts for CarvePlays.
-/
import Derived.Test.YtmncbdalaimmhaaEv9
import Derived.Test.YtmncbdalaimmhaaEvKS
import Derived.Test.YtmncbdalaimmhaaEvF091
import Derived.Test.YtmncbdalaimmhaaEvF094
import Derived.Test.YtmncbdalaimmhaaEv5br
import Derived.Test.YtmncbdalaimmhaaEvSame11
namespace Go.Proofs.Ytmncbdalaimmhaa.Eng
open Go Go.RowKit
set_option maxRecDepth 100000
set_option linter.unusedVariables false
namespace LCP
theorem k0 (f : FuncId) : FunOK MS Try.prog f (evF Try.prog (fun _ => none) 100 20 f) := evF_sound progOK (fun _ _ h => by cases h) 100 20 f
/-- Of eight kinds: by cases; else as a sign. -/
def gK : List SV → Tr SV
  | [c, .s (.one (.int .i64 (.lit 8)))] => gKind [c, .s (.one (.int .i64 (.lit 8)))]
  | l => gKindS l
theorem gK_or (l : List SV) : gK l = gKind l ∨ gK l = gKindS l := by
  unfold gK
  split
  · exact .inl rfl
  · exact .inr rfl
theorem kindT_ok : FunOK MS Try.prog 6 (pureT MObj gKind) := kind_of (k0 _) (fun c n => by kernel_rfl)
theorem kindS_ok : FunOK MS Try.prog 6 (pureT MObj gKindS) := kindS_of (k0 _) (fun c n => by kernel_rfl)
theorem kind_ok : FunOK MS Try.prog 6 (pureT MObj gK) := by
  intro args hp nid r hrun
  have : pureT MObj gK args hp nid = pureT MObj gKind args hp nid ∨ pureT MObj gK args hp nid = pureT MObj gKindS args hp nid := by
    unfold pureT
    rcases gK_or args with e | e <;> rw [e]
    · exact .inl rfl
    · exact .inr rfl
  rcases this with e | e
  · exact kindT_ok args hp nid r (e ▸ hrun)
  · exact kindS_ok args hp nid r (e ▸ hrun)
def tabS : List (Nat × Intr MObj) := (6, pureT MObj gKind) :: (7, renI LF091.freshI) :: (12, L9.iCarve) :: (15, L8.iPop) :: (93, L8.iPush) :: LF091.tabT
theorem tabS_ok : ∀ p ∈ tabS, FunOK MS Try.prog p.1 p.2 := tab_cons kindT_ok (tab_cons LF091.freshI_ok (tab_cons L9.iCarve_ok (tab_cons L8.iPop_ok (tab_cons L8.iPush_ok LF091.tabT_ok))))
theorem ok (f : FuncId) : FunOK MS Try.prog f (evF Try.prog (lookH MObj tabS) 100 20 f) := evF_sound progOK (lookH_ok tabS_ok) 100 20 f
theorem shown_ok : FunOK MS Try.prog 4 (pureI MObj gTrue) := shown_of (ok _) (by kernel_rfl)
def gBlk : List SV → Tr SV
  | [.s (.agg [.int .i64 t, .int .i64 b, .int .i64 u, .int .i64 h, .int .i64 s]), .s (.one (.int .i64 a))] => .ite ((decide (0 ≤ b.val) && decide (b.val ≤ 64)) && (decide (0 ≤ h.val) && decide (h.val ≤ 100000)) && decide (s.val = h.val + 32 * b.val)) (.ok (.v (.int .i64 (.sym (RB.mBlk h.val s.val a.val))))) (.no "Block: plan")
  | _ => .no "Block: arguments"
theorem gBlk_ok : FunOK MS Try.prog 25 (pureT MObj gBlk) := funOK_calls fun args v hv => by
  unfold gBlk at hv
  split at hv
  · rename_i t b u h s a
    rw [Tr.run_ite] at hv
    rcases hv with ⟨hc, hv⟩ | ⟨_, hv⟩
    · rw [Tr.run_ok] at hv
      subst hv
      simp only [Bool.and_eq_true, decide_eq_true_eq] at hc
      exact ⟨rfl, RB.calls hc.1.1 hc.1.2 hc.2⟩
    · cases hv
  · cases hv
def tabL : List (Nat × Intr MObj) := (4, pureI MObj gTrue) :: (6, pureT MObj gK) :: (7, renI LF094.freshI) :: (10, renI Same.sI) :: (12, L9.iCarve) :: (25, pureT MObj gBlk) :: L9.tabP
theorem tabL_ok : ∀ p ∈ tabL, FunOK MS Try.prog p.1 p.2 := tab_cons shown_ok (tab_cons kind_ok (tab_cons LF094.freshI_ok (tab_cons Same.ok (tab_cons L9.iCarve_ok (tab_cons gBlk_ok L9.tabP_ok)))))
end LCP
end Go.Proofs.Ytmncbdalaimmhaa.Eng
