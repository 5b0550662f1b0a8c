/-
  fresh of flitlaw10: its result at literal plans of 1 thread(s), as a contract. Printed by genF.py.
-/
import Derived.Test.YtkbleapcnbphjaaGreatEv4
import Derived.Test.YtkbleapcnbphjaaGreatEv5r
import Derived.Test.YtkbleapcnbphjaaGreatEvK
namespace Go.Proofs.YtkbleapcnbphjaaGreat.Eng
open Go Go.RowKit
set_option linter.unusedVariables false
set_option maxRecDepth 100000
namespace LF101
def tab2p : List (Nat × Intr MObj) := tab2.map fun p => (p.1, pureI MObj p.2)
theorem tab2p_ok : ∀ p ∈ tab2p, FunOK MS Tryz.prog p.1 p.2 := fun p hp => by
  obtain ⟨q, hq, rfl⟩ := List.mem_map.1 hp
  exact tab2_ok q hq
def tab5p : List (Nat × Intr MObj) := tab5b.map fun p => (p.1, pureI MObj p.2)
theorem tab5p_ok : ∀ p ∈ tab5p, FunOK MS Tryz.prog p.1 p.2 := fun p hp => by
  obtain ⟨q, hq, rfl⟩ := List.mem_map.1 hp
  exact tab5b_ok q hq
def tabT : List (Nat × Intr MObj) := tabMm ++ (tab2p ++ tab5p)
theorem tabT_ok : ∀ p ∈ tabT, FunOK MS Tryz.prog p.1 p.2 := tab_append tabMm_ok (tab_append tab2p_ok tab5p_ok)
noncomputable def callT : FuncId → List SV → HP MObj → Nat → Tr (CR MObj) := evF Tryz.prog (lookH MObj tabT) 400 20
theorem callT_ok : CallOK MS Tryz.prog callT := fun f args hp nid r h _ => evF_sound progOK (lookH_ok tabT_ok) 400 20 f args hp nid r h
def isPlan (t b tab heap n : Int) (t' b' tab' heap' n' : Int) : Bool := decide (t = t') && decide (b = b') && decide (tab = tab') && decide (heap = heap') && decide (n = n')
def ws1 : List Int := [0, 0, 1, 0, 0, 0, 0, 0, 0, 0, 0, 0, 0, 0, 0, 0, 0, 0, 0, 0, 0, 0, 0, 0, 0, 0, 0, 0, 0, 0, 0, 0, 0, 0, 0, 0, 0, 0, 0, 0, 0, 0, 0, 0, 0, 0, 0, 0, 0, 0, 0, 0, 0, 0, 0, 0, 0, 0, 0, 0, 0, 0, 0, 0]
def rows1 : List (List Int) := [[0], [0], [1], [0], [0], [0], [0], [0], [0], [0], [0], [0], [0], [0], [0], [0], [0], [0], [0], [0], [0], [0], [0], [0], [0], [0], [0], [0], [0], [0], [0], [0], [0], [0], [0], [0], [0], [0], [0], [0], [0], [0], [0], [0], [0], [0], [0], [0], [0], [0], [0], [0], [0], [0], [0], [0], [0], [0], [0], [0], [0], [0], [0], [0]]
theorem fr1 : (dropI Tryz.prog callT 7 [.s (.agg [.int .i64 (.lit 1), .int .i64 (.lit 1), .int .i64 (.lit 11), .int .i64 (.lit 32), .int .i64 (.lit 64)])] [] 0).run = some ⟨.t [.one (.ptr 4 0), .one (.ptr 3 0)], [(2, some (.tab [.int .u64] rows1 57)), (3, some (.cells [.ts 2 (.lit 0) (.lit 64) none, .int .i64 (.lit 0), .int .i64 (.lit 0), .nils] 66)), (4, some (.abs (.mem 110 ws1 64 0)))], [2, 3, 4], 5⟩ := by kernel_rfl
def c1 : Intr MObj := fun args hp nid => match args, hp, nid with
  | [.s (.agg [.int .i64 (.lit x0), .int .i64 (.lit x1), .int .i64 (.lit x2), .int .i64 (.lit x3), .int .i64 (.lit x4)])], [], 0 => .chk (isPlan x0 x1 x2 x3 x4 1 1 11 32 64) "plan" (.ok ⟨.t [.one (.ptr 4 0), .one (.ptr 3 0)], [(2, some (.tab [.int .u64] rows1 57)), (3, some (.cells [.ts 2 (.lit 0) (.lit 64) none, .int .i64 (.lit 0), .int .i64 (.lit 0), .nils] 66)), (4, some (.abs (.mem 110 ws1 64 0)))], [2, 3, 4], 5⟩)
  | _, _, _ => .no "contract"
theorem f1 : FunOK MS Tryz.prog 7 c1 := funOK_of (funOK_drop callT_ok 7) fun args hp nid r h => by
  unfold c1 at h
  split at h
  · rw [Tr.run_chk] at h
    obtain ⟨h1, h2⟩ := h
    simp only [isPlan, Bool.and_eq_true, decide_eq_true_eq] at h1
    obtain ⟨⟨⟨⟨e0, e1⟩, e2⟩, e3⟩, e4⟩ := h1
    subst e0 e1 e2 e3 e4
    exact fr1.trans h2
  · cases h
def which (b : Int) : Intr MObj :=  c1
theorem which_ok (b : Int) : FunOK MS Tryz.prog 7 (which b) := by
  unfold which
  
  exact f1
def freshI : Intr MObj := fun args hp nid => match args with
  | [.s (.agg [_, .int .i64 (.lit b), _, _, _])] => which b args hp nid
  | _ => .no "fresh: plan"
theorem freshI_ok : FunOK MS Tryz.prog 7 (renI freshI) := funOK_ren (FunOK.z fun args hp nid r hr => by
  unfold freshI at hr
  split at hr
  · exact which_ok _ _ _ _ _ hr
  · cases hr)
end LF101
end Go.Proofs.YtkbleapcnbphjaaGreat.Eng
