/-
  fresh of flitlaw09: its result at literal plans of 4 thread(s), as a contract. Printed by genF.py.
-/
import Derived.Test.YtmncbdalaimmhaaEv4
import Derived.Test.YtmncbdalaimmhaaEv5r
import Derived.Test.YtmncbdalaimmhaaEvK
namespace Go.Proofs.Ytmncbdalaimmhaa.Eng
open Go Go.RowKit
set_option linter.unusedVariables false
set_option maxRecDepth 100000
namespace LF094
def tab2p : List (Nat × Intr MObj) := tab2.map fun p => (p.1, pureI MObj p.2)
theorem tab2p_ok : ∀ p ∈ tab2p, FunOK MS Try.prog p.1 p.2 := fun p hp => by
  obtain ⟨q, hq, rfl⟩ := List.mem_map.1 hp
  exact tab2_ok q hq
def tab5p : List (Nat × Intr MObj) := tab5b.map fun p => (p.1, pureI MObj p.2)
theorem tab5p_ok : ∀ p ∈ tab5p, FunOK MS Try.prog p.1 p.2 := fun p hp => by
  obtain ⟨q, hq, rfl⟩ := List.mem_map.1 hp
  exact tab5b_ok q hq
def tabT : List (Nat × Intr MObj) := tabMm ++ (tab2p ++ tab5p)
theorem tabT_ok : ∀ p ∈ tabT, FunOK MS Try.prog p.1 p.2 := tab_append tabMm_ok (tab_append tab2p_ok tab5p_ok)
noncomputable def callT : FuncId → List SV → HP MObj → Nat → Tr (CR MObj) := evF Try.prog (lookH MObj tabT) 400 20
theorem callT_ok : CallOK MS Try.prog callT := fun f args hp nid r h _ => evF_sound progOK (lookH_ok tabT_ok) 400 20 f args hp nid r h
def isPlan (t b tab heap n : Int) (t' b' tab' heap' n' : Int) : Bool := decide (t = t') && decide (b = b') && decide (tab = tab') && decide (heap = heap') && decide (n = n')
def ws1 : List Int := [0, 0, 1, 0, 0, 0, 0, 0, 0, 0, 0, 0, 0, 0, 0, 0, 0, 0, 0, 0, 0, 0, 0, 0, 0, 0, 0, 0, 0, 0, 0, 0, 0, 0, 0, 0, 0, 0, 0, 0, 0, 0, 0, 0, 0, 0, 0, 0, 0, 0, 0, 0, 0, 0, 0, 0, 0, 0, 0, 0, 0, 0, 0, 0]
def rows1 : List (List Int) := [[0], [0], [1], [0], [0], [0], [0], [0], [0], [0], [0], [0], [0], [0], [0], [0], [0], [0], [0], [0], [0], [0], [0], [0], [0], [0], [0], [0], [0], [0], [0], [0], [0], [0], [0], [0], [0], [0], [0], [0], [0], [0], [0], [0], [0], [0], [0], [0], [0], [0], [0], [0], [0], [0], [0], [0], [0], [0], [0], [0], [0], [0], [0], [0]]
theorem fr1 : (dropI Try.prog callT 7 [.s (.agg [.int .i64 (.lit 4), .int .i64 (.lit 1), .int .i64 (.lit 14), .int .i64 (.lit 32), .int .i64 (.lit 64)])] [] 0).run = some ⟨.t [.one (.ptr 4 0), .one (.ptr 3 0)], [(2, some (.tab [.int .u64] rows1 52)), (3, some (.cells [.ts 2 (.lit 0) (.lit 64) none, .int .i64 (.lit 0), .int .i64 (.lit 0), .nils] 68)), (4, some (.abs (.mem 95 ws1 64 0)))], [2, 3, 4], 5⟩ := by kernel_rfl
def c1 : Intr MObj := fun args hp nid => match args, hp, nid with
  | [.s (.agg [.int .i64 (.lit x0), .int .i64 (.lit x1), .int .i64 (.lit x2), .int .i64 (.lit x3), .int .i64 (.lit x4)])], [], 0 => .chk (isPlan x0 x1 x2 x3 x4 4 1 14 32 64) "plan" (.ok ⟨.t [.one (.ptr 4 0), .one (.ptr 3 0)], [(2, some (.tab [.int .u64] rows1 52)), (3, some (.cells [.ts 2 (.lit 0) (.lit 64) none, .int .i64 (.lit 0), .int .i64 (.lit 0), .nils] 68)), (4, some (.abs (.mem 95 ws1 64 0)))], [2, 3, 4], 5⟩)
  | _, _, _ => .no "contract"
theorem f1 : FunOK MS Try.prog 7 c1 := funOK_of (funOK_drop callT_ok 7) fun args hp nid r h => by
  unfold c1 at h
  split at h
  · rw [Tr.run_chk] at h
    obtain ⟨h1, h2⟩ := h
    simp only [isPlan, Bool.and_eq_true, decide_eq_true_eq] at h1
    obtain ⟨⟨⟨⟨e0, e1⟩, e2⟩, e3⟩, e4⟩ := h1
    subst e0 e1 e2 e3 e4
    exact fr1.trans h2
  · cases h
def ws2 : List Int := [0, 0, 1, 0, 0, 0, 0, 0, 0, 0, 0, 0, 0, 0, 64, 0, 0, 0, 0, 0, 0, 0, 0, 0, 0, 0, 0, 0, 0, 0, 0, 0, 0, 0, 0, 0, 0, 0, 0, 0, 0, 0, 0, 0, 0, 0, 0, 0, 0, 0, 0, 0, 0, 0, 0, 0, 0, 0, 0, 0, 0, 0, 0, 0, 0, 0, 0, 0, 0, 0, 0, 0, 0, 0, 0, 0, 0, 0, 0, 0, 0, 0, 0, 0, 0, 0, 0, 0, 0, 0, 0, 0, 0, 0, 0, 0]
def rows2 : List (List Int) := [[0], [0], [1], [0], [0], [0], [0], [0], [0], [0], [0], [0], [0], [0], [64], [0], [0], [0], [0], [0], [0], [0], [0], [0], [0], [0], [0], [0], [0], [0], [0], [0], [0], [0], [0], [0], [0], [0], [0], [0], [0], [0], [0], [0], [0], [0], [0], [0], [0], [0], [0], [0], [0], [0], [0], [0], [0], [0], [0], [0], [0], [0], [0], [0], [0], [0], [0], [0], [0], [0], [0], [0], [0], [0], [0], [0], [0], [0], [0], [0], [0], [0], [0], [0], [0], [0], [0], [0], [0], [0], [0], [0], [0], [0], [0], [0]]
theorem fr2 : (dropI Try.prog callT 7 [.s (.agg [.int .i64 (.lit 4), .int .i64 (.lit 2), .int .i64 (.lit 14), .int .i64 (.lit 32), .int .i64 (.lit 96)])] [] 0).run = some ⟨.t [.one (.ptr 4 0), .one (.ptr 3 0)], [(2, some (.tab [.int .u64] rows2 52)), (3, some (.cells [.ts 2 (.lit 0) (.lit 96) none, .int .i64 (.lit 0), .int .i64 (.lit 0), .nils] 68)), (4, some (.abs (.mem 95 ws2 96 0)))], [2, 3, 4], 5⟩ := by kernel_rfl
def c2 : Intr MObj := fun args hp nid => match args, hp, nid with
  | [.s (.agg [.int .i64 (.lit x0), .int .i64 (.lit x1), .int .i64 (.lit x2), .int .i64 (.lit x3), .int .i64 (.lit x4)])], [], 0 => .chk (isPlan x0 x1 x2 x3 x4 4 2 14 32 96) "plan" (.ok ⟨.t [.one (.ptr 4 0), .one (.ptr 3 0)], [(2, some (.tab [.int .u64] rows2 52)), (3, some (.cells [.ts 2 (.lit 0) (.lit 96) none, .int .i64 (.lit 0), .int .i64 (.lit 0), .nils] 68)), (4, some (.abs (.mem 95 ws2 96 0)))], [2, 3, 4], 5⟩)
  | _, _, _ => .no "contract"
theorem f2 : FunOK MS Try.prog 7 c2 := funOK_of (funOK_drop callT_ok 7) fun args hp nid r h => by
  unfold c2 at h
  split at h
  · rw [Tr.run_chk] at h
    obtain ⟨h1, h2⟩ := h
    simp only [isPlan, Bool.and_eq_true, decide_eq_true_eq] at h1
    obtain ⟨⟨⟨⟨e0, e1⟩, e2⟩, e3⟩, e4⟩ := h1
    subst e0 e1 e2 e3 e4
    exact fr2.trans h2
  · cases h
def ws3 : List Int := [0, 0, 1, 0, 0, 0, 0, 0, 0, 0, 0, 0, 0, 0, 64, 96, 0, 0, 0, 0, 0, 0, 0, 0, 0, 0, 0, 0, 0, 0, 0, 0, 0, 0, 0, 0, 0, 0, 0, 0, 0, 0, 0, 0, 0, 0, 0, 0, 0, 0, 0, 0, 0, 0, 0, 0, 0, 0, 0, 0, 0, 0, 0, 0, 0, 0, 0, 0, 0, 0, 0, 0, 0, 0, 0, 0, 0, 0, 0, 0, 0, 0, 0, 0, 0, 0, 0, 0, 0, 0, 0, 0, 0, 0, 0, 0, 0, 0, 0, 0, 0, 0, 0, 0, 0, 0, 0, 0, 0, 0, 0, 0, 0, 0, 0, 0, 0, 0, 0, 0, 0, 0, 0, 0, 0, 0, 0, 0]
def rows3 : List (List Int) := [[0], [0], [1], [0], [0], [0], [0], [0], [0], [0], [0], [0], [0], [0], [64], [96], [0], [0], [0], [0], [0], [0], [0], [0], [0], [0], [0], [0], [0], [0], [0], [0], [0], [0], [0], [0], [0], [0], [0], [0], [0], [0], [0], [0], [0], [0], [0], [0], [0], [0], [0], [0], [0], [0], [0], [0], [0], [0], [0], [0], [0], [0], [0], [0], [0], [0], [0], [0], [0], [0], [0], [0], [0], [0], [0], [0], [0], [0], [0], [0], [0], [0], [0], [0], [0], [0], [0], [0], [0], [0], [0], [0], [0], [0], [0], [0], [0], [0], [0], [0], [0], [0], [0], [0], [0], [0], [0], [0], [0], [0], [0], [0], [0], [0], [0], [0], [0], [0], [0], [0], [0], [0], [0], [0], [0], [0], [0], [0]]
theorem fr3 : (dropI Try.prog callT 7 [.s (.agg [.int .i64 (.lit 4), .int .i64 (.lit 3), .int .i64 (.lit 14), .int .i64 (.lit 32), .int .i64 (.lit 128)])] [] 0).run = some ⟨.t [.one (.ptr 4 0), .one (.ptr 3 0)], [(2, some (.tab [.int .u64] rows3 52)), (3, some (.cells [.ts 2 (.lit 0) (.lit 128) none, .int .i64 (.lit 0), .int .i64 (.lit 0), .nils] 68)), (4, some (.abs (.mem 95 ws3 128 0)))], [2, 3, 4], 5⟩ := by kernel_rfl
def c3 : Intr MObj := fun args hp nid => match args, hp, nid with
  | [.s (.agg [.int .i64 (.lit x0), .int .i64 (.lit x1), .int .i64 (.lit x2), .int .i64 (.lit x3), .int .i64 (.lit x4)])], [], 0 => .chk (isPlan x0 x1 x2 x3 x4 4 3 14 32 128) "plan" (.ok ⟨.t [.one (.ptr 4 0), .one (.ptr 3 0)], [(2, some (.tab [.int .u64] rows3 52)), (3, some (.cells [.ts 2 (.lit 0) (.lit 128) none, .int .i64 (.lit 0), .int .i64 (.lit 0), .nils] 68)), (4, some (.abs (.mem 95 ws3 128 0)))], [2, 3, 4], 5⟩)
  | _, _, _ => .no "contract"
theorem f3 : FunOK MS Try.prog 7 c3 := funOK_of (funOK_drop callT_ok 7) fun args hp nid r h => by
  unfold c3 at h
  split at h
  · rw [Tr.run_chk] at h
    obtain ⟨h1, h2⟩ := h
    simp only [isPlan, Bool.and_eq_true, decide_eq_true_eq] at h1
    obtain ⟨⟨⟨⟨e0, e1⟩, e2⟩, e3⟩, e4⟩ := h1
    subst e0 e1 e2 e3 e4
    exact fr3.trans h2
  · cases h
def ws4 : List Int := [0, 0, 1, 0, 0, 0, 0, 0, 0, 0, 0, 0, 0, 0, 64, 96, 128, 0, 0, 0, 0, 0, 0, 0, 0, 0, 0, 0, 0, 0, 0, 0, 0, 0, 0, 0, 0, 0, 0, 0, 0, 0, 0, 0, 0, 0, 0, 0, 0, 0, 0, 0, 0, 0, 0, 0, 0, 0, 0, 0, 0, 0, 0, 0, 0, 0, 0, 0, 0, 0, 0, 0, 0, 0, 0, 0, 0, 0, 0, 0, 0, 0, 0, 0, 0, 0, 0, 0, 0, 0, 0, 0, 0, 0, 0, 0, 0, 0, 0, 0, 0, 0, 0, 0, 0, 0, 0, 0, 0, 0, 0, 0, 0, 0, 0, 0, 0, 0, 0, 0, 0, 0, 0, 0, 0, 0, 0, 0, 0, 0, 0, 0, 0, 0, 0, 0, 0, 0, 0, 0, 0, 0, 0, 0, 0, 0, 0, 0, 0, 0, 0, 0, 0, 0, 0, 0, 0, 0, 0, 0]
def rows4 : List (List Int) := [[0], [0], [1], [0], [0], [0], [0], [0], [0], [0], [0], [0], [0], [0], [64], [96], [128], [0], [0], [0], [0], [0], [0], [0], [0], [0], [0], [0], [0], [0], [0], [0], [0], [0], [0], [0], [0], [0], [0], [0], [0], [0], [0], [0], [0], [0], [0], [0], [0], [0], [0], [0], [0], [0], [0], [0], [0], [0], [0], [0], [0], [0], [0], [0], [0], [0], [0], [0], [0], [0], [0], [0], [0], [0], [0], [0], [0], [0], [0], [0], [0], [0], [0], [0], [0], [0], [0], [0], [0], [0], [0], [0], [0], [0], [0], [0], [0], [0], [0], [0], [0], [0], [0], [0], [0], [0], [0], [0], [0], [0], [0], [0], [0], [0], [0], [0], [0], [0], [0], [0], [0], [0], [0], [0], [0], [0], [0], [0], [0], [0], [0], [0], [0], [0], [0], [0], [0], [0], [0], [0], [0], [0], [0], [0], [0], [0], [0], [0], [0], [0], [0], [0], [0], [0], [0], [0], [0], [0], [0], [0]]
theorem fr4 : (dropI Try.prog callT 7 [.s (.agg [.int .i64 (.lit 4), .int .i64 (.lit 4), .int .i64 (.lit 14), .int .i64 (.lit 32), .int .i64 (.lit 160)])] [] 0).run = some ⟨.t [.one (.ptr 4 0), .one (.ptr 3 0)], [(2, some (.tab [.int .u64] rows4 52)), (3, some (.cells [.ts 2 (.lit 0) (.lit 160) none, .int .i64 (.lit 0), .int .i64 (.lit 0), .nils] 68)), (4, some (.abs (.mem 95 ws4 160 0)))], [2, 3, 4], 5⟩ := by kernel_rfl
def c4 : Intr MObj := fun args hp nid => match args, hp, nid with
  | [.s (.agg [.int .i64 (.lit x0), .int .i64 (.lit x1), .int .i64 (.lit x2), .int .i64 (.lit x3), .int .i64 (.lit x4)])], [], 0 => .chk (isPlan x0 x1 x2 x3 x4 4 4 14 32 160) "plan" (.ok ⟨.t [.one (.ptr 4 0), .one (.ptr 3 0)], [(2, some (.tab [.int .u64] rows4 52)), (3, some (.cells [.ts 2 (.lit 0) (.lit 160) none, .int .i64 (.lit 0), .int .i64 (.lit 0), .nils] 68)), (4, some (.abs (.mem 95 ws4 160 0)))], [2, 3, 4], 5⟩)
  | _, _, _ => .no "contract"
theorem f4 : FunOK MS Try.prog 7 c4 := funOK_of (funOK_drop callT_ok 7) fun args hp nid r h => by
  unfold c4 at h
  split at h
  · rw [Tr.run_chk] at h
    obtain ⟨h1, h2⟩ := h
    simp only [isPlan, Bool.and_eq_true, decide_eq_true_eq] at h1
    obtain ⟨⟨⟨⟨e0, e1⟩, e2⟩, e3⟩, e4⟩ := h1
    subst e0 e1 e2 e3 e4
    exact fr4.trans h2
  · cases h
def ws5 : List Int := [0, 0, 1, 0, 0, 0, 0, 0, 0, 0, 0, 0, 0, 0, 64, 96, 128, 160, 0, 0, 0, 0, 0, 0, 0, 0, 0, 0, 0, 0, 0, 0, 0, 0, 0, 0, 0, 0, 0, 0, 0, 0, 0, 0, 0, 0, 0, 0, 0, 0, 0, 0, 0, 0, 0, 0, 0, 0, 0, 0, 0, 0, 0, 0, 0, 0, 0, 0, 0, 0, 0, 0, 0, 0, 0, 0, 0, 0, 0, 0, 0, 0, 0, 0, 0, 0, 0, 0, 0, 0, 0, 0, 0, 0, 0, 0, 0, 0, 0, 0, 0, 0, 0, 0, 0, 0, 0, 0, 0, 0, 0, 0, 0, 0, 0, 0, 0, 0, 0, 0, 0, 0, 0, 0, 0, 0, 0, 0, 0, 0, 0, 0, 0, 0, 0, 0, 0, 0, 0, 0, 0, 0, 0, 0, 0, 0, 0, 0, 0, 0, 0, 0, 0, 0, 0, 0, 0, 0, 0, 0, 0, 0, 0, 0, 0, 0, 0, 0, 0, 0, 0, 0, 0, 0, 0, 0, 0, 0, 0, 0, 0, 0, 0, 0, 0, 0, 0, 0, 0, 0, 0, 0]
def rows5 : List (List Int) := [[0], [0], [1], [0], [0], [0], [0], [0], [0], [0], [0], [0], [0], [0], [64], [96], [128], [160], [0], [0], [0], [0], [0], [0], [0], [0], [0], [0], [0], [0], [0], [0], [0], [0], [0], [0], [0], [0], [0], [0], [0], [0], [0], [0], [0], [0], [0], [0], [0], [0], [0], [0], [0], [0], [0], [0], [0], [0], [0], [0], [0], [0], [0], [0], [0], [0], [0], [0], [0], [0], [0], [0], [0], [0], [0], [0], [0], [0], [0], [0], [0], [0], [0], [0], [0], [0], [0], [0], [0], [0], [0], [0], [0], [0], [0], [0], [0], [0], [0], [0], [0], [0], [0], [0], [0], [0], [0], [0], [0], [0], [0], [0], [0], [0], [0], [0], [0], [0], [0], [0], [0], [0], [0], [0], [0], [0], [0], [0], [0], [0], [0], [0], [0], [0], [0], [0], [0], [0], [0], [0], [0], [0], [0], [0], [0], [0], [0], [0], [0], [0], [0], [0], [0], [0], [0], [0], [0], [0], [0], [0], [0], [0], [0], [0], [0], [0], [0], [0], [0], [0], [0], [0], [0], [0], [0], [0], [0], [0], [0], [0], [0], [0], [0], [0], [0], [0], [0], [0], [0], [0], [0], [0]]
theorem fr5 : (dropI Try.prog callT 7 [.s (.agg [.int .i64 (.lit 4), .int .i64 (.lit 5), .int .i64 (.lit 14), .int .i64 (.lit 32), .int .i64 (.lit 192)])] [] 0).run = some ⟨.t [.one (.ptr 4 0), .one (.ptr 3 0)], [(2, some (.tab [.int .u64] rows5 52)), (3, some (.cells [.ts 2 (.lit 0) (.lit 192) none, .int .i64 (.lit 0), .int .i64 (.lit 0), .nils] 68)), (4, some (.abs (.mem 95 ws5 192 0)))], [2, 3, 4], 5⟩ := by kernel_rfl
def c5 : Intr MObj := fun args hp nid => match args, hp, nid with
  | [.s (.agg [.int .i64 (.lit x0), .int .i64 (.lit x1), .int .i64 (.lit x2), .int .i64 (.lit x3), .int .i64 (.lit x4)])], [], 0 => .chk (isPlan x0 x1 x2 x3 x4 4 5 14 32 192) "plan" (.ok ⟨.t [.one (.ptr 4 0), .one (.ptr 3 0)], [(2, some (.tab [.int .u64] rows5 52)), (3, some (.cells [.ts 2 (.lit 0) (.lit 192) none, .int .i64 (.lit 0), .int .i64 (.lit 0), .nils] 68)), (4, some (.abs (.mem 95 ws5 192 0)))], [2, 3, 4], 5⟩)
  | _, _, _ => .no "contract"
theorem f5 : FunOK MS Try.prog 7 c5 := funOK_of (funOK_drop callT_ok 7) fun args hp nid r h => by
  unfold c5 at h
  split at h
  · rw [Tr.run_chk] at h
    obtain ⟨h1, h2⟩ := h
    simp only [isPlan, Bool.and_eq_true, decide_eq_true_eq] at h1
    obtain ⟨⟨⟨⟨e0, e1⟩, e2⟩, e3⟩, e4⟩ := h1
    subst e0 e1 e2 e3 e4
    exact fr5.trans h2
  · cases h
def ws6 : List Int := [0, 0, 1, 0, 0, 0, 0, 0, 0, 0, 0, 0, 0, 0, 64, 96, 128, 160, 192, 0, 0, 0, 0, 0, 0, 0, 0, 0, 0, 0, 0, 0, 0, 0, 0, 0, 0, 0, 0, 0, 0, 0, 0, 0, 0, 0, 0, 0, 0, 0, 0, 0, 0, 0, 0, 0, 0, 0, 0, 0, 0, 0, 0, 0, 0, 0, 0, 0, 0, 0, 0, 0, 0, 0, 0, 0, 0, 0, 0, 0, 0, 0, 0, 0, 0, 0, 0, 0, 0, 0, 0, 0, 0, 0, 0, 0, 0, 0, 0, 0, 0, 0, 0, 0, 0, 0, 0, 0, 0, 0, 0, 0, 0, 0, 0, 0, 0, 0, 0, 0, 0, 0, 0, 0, 0, 0, 0, 0, 0, 0, 0, 0, 0, 0, 0, 0, 0, 0, 0, 0, 0, 0, 0, 0, 0, 0, 0, 0, 0, 0, 0, 0, 0, 0, 0, 0, 0, 0, 0, 0, 0, 0, 0, 0, 0, 0, 0, 0, 0, 0, 0, 0, 0, 0, 0, 0, 0, 0, 0, 0, 0, 0, 0, 0, 0, 0, 0, 0, 0, 0, 0, 0, 0, 0, 0, 0, 0, 0, 0, 0, 0, 0, 0, 0, 0, 0, 0, 0, 0, 0, 0, 0, 0, 0, 0, 0, 0, 0, 0, 0, 0, 0, 0, 0]
def rows6 : List (List Int) := [[0], [0], [1], [0], [0], [0], [0], [0], [0], [0], [0], [0], [0], [0], [64], [96], [128], [160], [192], [0], [0], [0], [0], [0], [0], [0], [0], [0], [0], [0], [0], [0], [0], [0], [0], [0], [0], [0], [0], [0], [0], [0], [0], [0], [0], [0], [0], [0], [0], [0], [0], [0], [0], [0], [0], [0], [0], [0], [0], [0], [0], [0], [0], [0], [0], [0], [0], [0], [0], [0], [0], [0], [0], [0], [0], [0], [0], [0], [0], [0], [0], [0], [0], [0], [0], [0], [0], [0], [0], [0], [0], [0], [0], [0], [0], [0], [0], [0], [0], [0], [0], [0], [0], [0], [0], [0], [0], [0], [0], [0], [0], [0], [0], [0], [0], [0], [0], [0], [0], [0], [0], [0], [0], [0], [0], [0], [0], [0], [0], [0], [0], [0], [0], [0], [0], [0], [0], [0], [0], [0], [0], [0], [0], [0], [0], [0], [0], [0], [0], [0], [0], [0], [0], [0], [0], [0], [0], [0], [0], [0], [0], [0], [0], [0], [0], [0], [0], [0], [0], [0], [0], [0], [0], [0], [0], [0], [0], [0], [0], [0], [0], [0], [0], [0], [0], [0], [0], [0], [0], [0], [0], [0], [0], [0], [0], [0], [0], [0], [0], [0], [0], [0], [0], [0], [0], [0], [0], [0], [0], [0], [0], [0], [0], [0], [0], [0], [0], [0], [0], [0], [0], [0], [0], [0]]
theorem fr6 : (dropI Try.prog callT 7 [.s (.agg [.int .i64 (.lit 4), .int .i64 (.lit 6), .int .i64 (.lit 14), .int .i64 (.lit 32), .int .i64 (.lit 224)])] [] 0).run = some ⟨.t [.one (.ptr 4 0), .one (.ptr 3 0)], [(2, some (.tab [.int .u64] rows6 52)), (3, some (.cells [.ts 2 (.lit 0) (.lit 224) none, .int .i64 (.lit 0), .int .i64 (.lit 0), .nils] 68)), (4, some (.abs (.mem 95 ws6 224 0)))], [2, 3, 4], 5⟩ := by kernel_rfl
def c6 : Intr MObj := fun args hp nid => match args, hp, nid with
  | [.s (.agg [.int .i64 (.lit x0), .int .i64 (.lit x1), .int .i64 (.lit x2), .int .i64 (.lit x3), .int .i64 (.lit x4)])], [], 0 => .chk (isPlan x0 x1 x2 x3 x4 4 6 14 32 224) "plan" (.ok ⟨.t [.one (.ptr 4 0), .one (.ptr 3 0)], [(2, some (.tab [.int .u64] rows6 52)), (3, some (.cells [.ts 2 (.lit 0) (.lit 224) none, .int .i64 (.lit 0), .int .i64 (.lit 0), .nils] 68)), (4, some (.abs (.mem 95 ws6 224 0)))], [2, 3, 4], 5⟩)
  | _, _, _ => .no "contract"
theorem f6 : FunOK MS Try.prog 7 c6 := funOK_of (funOK_drop callT_ok 7) fun args hp nid r h => by
  unfold c6 at h
  split at h
  · rw [Tr.run_chk] at h
    obtain ⟨h1, h2⟩ := h
    simp only [isPlan, Bool.and_eq_true, decide_eq_true_eq] at h1
    obtain ⟨⟨⟨⟨e0, e1⟩, e2⟩, e3⟩, e4⟩ := h1
    subst e0 e1 e2 e3 e4
    exact fr6.trans h2
  · cases h
def ws7 : List Int := [0, 0, 1, 0, 0, 0, 0, 0, 0, 0, 0, 0, 0, 0, 64, 96, 128, 160, 192, 224, 0, 0, 0, 0, 0, 0, 0, 0, 0, 0, 0, 0, 0, 0, 0, 0, 0, 0, 0, 0, 0, 0, 0, 0, 0, 0, 0, 0, 0, 0, 0, 0, 0, 0, 0, 0, 0, 0, 0, 0, 0, 0, 0, 0, 0, 0, 0, 0, 0, 0, 0, 0, 0, 0, 0, 0, 0, 0, 0, 0, 0, 0, 0, 0, 0, 0, 0, 0, 0, 0, 0, 0, 0, 0, 0, 0, 0, 0, 0, 0, 0, 0, 0, 0, 0, 0, 0, 0, 0, 0, 0, 0, 0, 0, 0, 0, 0, 0, 0, 0, 0, 0, 0, 0, 0, 0, 0, 0, 0, 0, 0, 0, 0, 0, 0, 0, 0, 0, 0, 0, 0, 0, 0, 0, 0, 0, 0, 0, 0, 0, 0, 0, 0, 0, 0, 0, 0, 0, 0, 0, 0, 0, 0, 0, 0, 0, 0, 0, 0, 0, 0, 0, 0, 0, 0, 0, 0, 0, 0, 0, 0, 0, 0, 0, 0, 0, 0, 0, 0, 0, 0, 0, 0, 0, 0, 0, 0, 0, 0, 0, 0, 0, 0, 0, 0, 0, 0, 0, 0, 0, 0, 0, 0, 0, 0, 0, 0, 0, 0, 0, 0, 0, 0, 0, 0, 0, 0, 0, 0, 0, 0, 0, 0, 0, 0, 0, 0, 0, 0, 0, 0, 0, 0, 0, 0, 0, 0, 0, 0, 0, 0, 0, 0, 0, 0, 0]
def rows7 : List (List Int) := [[0], [0], [1], [0], [0], [0], [0], [0], [0], [0], [0], [0], [0], [0], [64], [96], [128], [160], [192], [224], [0], [0], [0], [0], [0], [0], [0], [0], [0], [0], [0], [0], [0], [0], [0], [0], [0], [0], [0], [0], [0], [0], [0], [0], [0], [0], [0], [0], [0], [0], [0], [0], [0], [0], [0], [0], [0], [0], [0], [0], [0], [0], [0], [0], [0], [0], [0], [0], [0], [0], [0], [0], [0], [0], [0], [0], [0], [0], [0], [0], [0], [0], [0], [0], [0], [0], [0], [0], [0], [0], [0], [0], [0], [0], [0], [0], [0], [0], [0], [0], [0], [0], [0], [0], [0], [0], [0], [0], [0], [0], [0], [0], [0], [0], [0], [0], [0], [0], [0], [0], [0], [0], [0], [0], [0], [0], [0], [0], [0], [0], [0], [0], [0], [0], [0], [0], [0], [0], [0], [0], [0], [0], [0], [0], [0], [0], [0], [0], [0], [0], [0], [0], [0], [0], [0], [0], [0], [0], [0], [0], [0], [0], [0], [0], [0], [0], [0], [0], [0], [0], [0], [0], [0], [0], [0], [0], [0], [0], [0], [0], [0], [0], [0], [0], [0], [0], [0], [0], [0], [0], [0], [0], [0], [0], [0], [0], [0], [0], [0], [0], [0], [0], [0], [0], [0], [0], [0], [0], [0], [0], [0], [0], [0], [0], [0], [0], [0], [0], [0], [0], [0], [0], [0], [0], [0], [0], [0], [0], [0], [0], [0], [0], [0], [0], [0], [0], [0], [0], [0], [0], [0], [0], [0], [0], [0], [0], [0], [0], [0], [0], [0], [0], [0], [0], [0], [0]]
theorem fr7 : (dropI Try.prog callT 7 [.s (.agg [.int .i64 (.lit 4), .int .i64 (.lit 7), .int .i64 (.lit 14), .int .i64 (.lit 32), .int .i64 (.lit 256)])] [] 0).run = some ⟨.t [.one (.ptr 4 0), .one (.ptr 3 0)], [(2, some (.tab [.int .u64] rows7 52)), (3, some (.cells [.ts 2 (.lit 0) (.lit 256) none, .int .i64 (.lit 0), .int .i64 (.lit 0), .nils] 68)), (4, some (.abs (.mem 95 ws7 256 0)))], [2, 3, 4], 5⟩ := by kernel_rfl
def c7 : Intr MObj := fun args hp nid => match args, hp, nid with
  | [.s (.agg [.int .i64 (.lit x0), .int .i64 (.lit x1), .int .i64 (.lit x2), .int .i64 (.lit x3), .int .i64 (.lit x4)])], [], 0 => .chk (isPlan x0 x1 x2 x3 x4 4 7 14 32 256) "plan" (.ok ⟨.t [.one (.ptr 4 0), .one (.ptr 3 0)], [(2, some (.tab [.int .u64] rows7 52)), (3, some (.cells [.ts 2 (.lit 0) (.lit 256) none, .int .i64 (.lit 0), .int .i64 (.lit 0), .nils] 68)), (4, some (.abs (.mem 95 ws7 256 0)))], [2, 3, 4], 5⟩)
  | _, _, _ => .no "contract"
theorem f7 : FunOK MS Try.prog 7 c7 := funOK_of (funOK_drop callT_ok 7) fun args hp nid r h => by
  unfold c7 at h
  split at h
  · rw [Tr.run_chk] at h
    obtain ⟨h1, h2⟩ := h
    simp only [isPlan, Bool.and_eq_true, decide_eq_true_eq] at h1
    obtain ⟨⟨⟨⟨e0, e1⟩, e2⟩, e3⟩, e4⟩ := h1
    subst e0 e1 e2 e3 e4
    exact fr7.trans h2
  · cases h
def ws8 : List Int := [0, 0, 1, 0, 0, 0, 0, 0, 0, 0, 0, 0, 0, 0, 64, 96, 128, 160, 192, 224, 256, 0, 0, 0, 0, 0, 0, 0, 0, 0, 0, 0, 0, 0, 0, 0, 0, 0, 0, 0, 0, 0, 0, 0, 0, 0, 0, 0, 0, 0, 0, 0, 0, 0, 0, 0, 0, 0, 0, 0, 0, 0, 0, 0, 0, 0, 0, 0, 0, 0, 0, 0, 0, 0, 0, 0, 0, 0, 0, 0, 0, 0, 0, 0, 0, 0, 0, 0, 0, 0, 0, 0, 0, 0, 0, 0, 0, 0, 0, 0, 0, 0, 0, 0, 0, 0, 0, 0, 0, 0, 0, 0, 0, 0, 0, 0, 0, 0, 0, 0, 0, 0, 0, 0, 0, 0, 0, 0, 0, 0, 0, 0, 0, 0, 0, 0, 0, 0, 0, 0, 0, 0, 0, 0, 0, 0, 0, 0, 0, 0, 0, 0, 0, 0, 0, 0, 0, 0, 0, 0, 0, 0, 0, 0, 0, 0, 0, 0, 0, 0, 0, 0, 0, 0, 0, 0, 0, 0, 0, 0, 0, 0, 0, 0, 0, 0, 0, 0, 0, 0, 0, 0, 0, 0, 0, 0, 0, 0, 0, 0, 0, 0, 0, 0, 0, 0, 0, 0, 0, 0, 0, 0, 0, 0, 0, 0, 0, 0, 0, 0, 0, 0, 0, 0, 0, 0, 0, 0, 0, 0, 0, 0, 0, 0, 0, 0, 0, 0, 0, 0, 0, 0, 0, 0, 0, 0, 0, 0, 0, 0, 0, 0, 0, 0, 0, 0, 0, 0, 0, 0, 0, 0, 0, 0, 0, 0, 0, 0, 0, 0, 0, 0, 0, 0, 0, 0, 0, 0, 0, 0, 0, 0, 0, 0, 0, 0, 0, 0]
def rows8 : List (List Int) := [[0], [0], [1], [0], [0], [0], [0], [0], [0], [0], [0], [0], [0], [0], [64], [96], [128], [160], [192], [224], [256], [0], [0], [0], [0], [0], [0], [0], [0], [0], [0], [0], [0], [0], [0], [0], [0], [0], [0], [0], [0], [0], [0], [0], [0], [0], [0], [0], [0], [0], [0], [0], [0], [0], [0], [0], [0], [0], [0], [0], [0], [0], [0], [0], [0], [0], [0], [0], [0], [0], [0], [0], [0], [0], [0], [0], [0], [0], [0], [0], [0], [0], [0], [0], [0], [0], [0], [0], [0], [0], [0], [0], [0], [0], [0], [0], [0], [0], [0], [0], [0], [0], [0], [0], [0], [0], [0], [0], [0], [0], [0], [0], [0], [0], [0], [0], [0], [0], [0], [0], [0], [0], [0], [0], [0], [0], [0], [0], [0], [0], [0], [0], [0], [0], [0], [0], [0], [0], [0], [0], [0], [0], [0], [0], [0], [0], [0], [0], [0], [0], [0], [0], [0], [0], [0], [0], [0], [0], [0], [0], [0], [0], [0], [0], [0], [0], [0], [0], [0], [0], [0], [0], [0], [0], [0], [0], [0], [0], [0], [0], [0], [0], [0], [0], [0], [0], [0], [0], [0], [0], [0], [0], [0], [0], [0], [0], [0], [0], [0], [0], [0], [0], [0], [0], [0], [0], [0], [0], [0], [0], [0], [0], [0], [0], [0], [0], [0], [0], [0], [0], [0], [0], [0], [0], [0], [0], [0], [0], [0], [0], [0], [0], [0], [0], [0], [0], [0], [0], [0], [0], [0], [0], [0], [0], [0], [0], [0], [0], [0], [0], [0], [0], [0], [0], [0], [0], [0], [0], [0], [0], [0], [0], [0], [0], [0], [0], [0], [0], [0], [0], [0], [0], [0], [0], [0], [0], [0], [0], [0], [0], [0], [0], [0], [0], [0], [0], [0], [0]]
theorem fr8 : (dropI Try.prog callT 7 [.s (.agg [.int .i64 (.lit 4), .int .i64 (.lit 8), .int .i64 (.lit 14), .int .i64 (.lit 32), .int .i64 (.lit 288)])] [] 0).run = some ⟨.t [.one (.ptr 4 0), .one (.ptr 3 0)], [(2, some (.tab [.int .u64] rows8 52)), (3, some (.cells [.ts 2 (.lit 0) (.lit 288) none, .int .i64 (.lit 0), .int .i64 (.lit 0), .nils] 68)), (4, some (.abs (.mem 95 ws8 288 0)))], [2, 3, 4], 5⟩ := by kernel_rfl
def c8 : Intr MObj := fun args hp nid => match args, hp, nid with
  | [.s (.agg [.int .i64 (.lit x0), .int .i64 (.lit x1), .int .i64 (.lit x2), .int .i64 (.lit x3), .int .i64 (.lit x4)])], [], 0 => .chk (isPlan x0 x1 x2 x3 x4 4 8 14 32 288) "plan" (.ok ⟨.t [.one (.ptr 4 0), .one (.ptr 3 0)], [(2, some (.tab [.int .u64] rows8 52)), (3, some (.cells [.ts 2 (.lit 0) (.lit 288) none, .int .i64 (.lit 0), .int .i64 (.lit 0), .nils] 68)), (4, some (.abs (.mem 95 ws8 288 0)))], [2, 3, 4], 5⟩)
  | _, _, _ => .no "contract"
theorem f8 : FunOK MS Try.prog 7 c8 := funOK_of (funOK_drop callT_ok 7) fun args hp nid r h => by
  unfold c8 at h
  split at h
  · rw [Tr.run_chk] at h
    obtain ⟨h1, h2⟩ := h
    simp only [isPlan, Bool.and_eq_true, decide_eq_true_eq] at h1
    obtain ⟨⟨⟨⟨e0, e1⟩, e2⟩, e3⟩, e4⟩ := h1
    subst e0 e1 e2 e3 e4
    exact fr8.trans h2
  · cases h
def which (b : Int) : Intr MObj := if b = 1 then c1 else if b = 2 then c2 else if b = 3 then c3 else if b = 4 then c4 else if b = 5 then c5 else if b = 6 then c6 else if b = 7 then c7 else c8
theorem which_ok (b : Int) : FunOK MS Try.prog 7 (which b) := by
  unfold which
  by_cases h1 : b = 1; rw [if_pos h1]; exact f1; rw [if_neg h1]; by_cases h2 : b = 2; rw [if_pos h2]; exact f2; rw [if_neg h2]; by_cases h3 : b = 3; rw [if_pos h3]; exact f3; rw [if_neg h3]; by_cases h4 : b = 4; rw [if_pos h4]; exact f4; rw [if_neg h4]; by_cases h5 : b = 5; rw [if_pos h5]; exact f5; rw [if_neg h5]; by_cases h6 : b = 6; rw [if_pos h6]; exact f6; rw [if_neg h6]; by_cases h7 : b = 7; rw [if_pos h7]; exact f7; rw [if_neg h7]
  exact f8
def freshI : Intr MObj := fun args hp nid => match args with
  | [.s (.agg [_, .int .i64 (.lit b), _, _, _])] => which b args hp nid
  | _ => .no "fresh: plan"
theorem freshI_ok : FunOK MS Try.prog 7 (renI freshI) := funOK_ren (FunOK.z fun args hp nid r hr => by
  unfold freshI at hr
  split at hr
  · exact which_ok _ _ _ _ _ hr
  · cases hr)
end LF094
end Go.Proofs.Ytmncbdalaimmhaa.Eng
