/-
  ListOrder: printed by genfin.py: case by case.
-/
import Derived.Test.YtnlfphlmlklofaaEvL8
namespace Go.Proofs.Ytnlfphlmlklofaa.ListOrder
open Go Go.RowKit Go.Proofs.Ytnlfphlmlklofaa.Eng
set_option linter.unusedVariables false
set_option linter.unusedSimpArgs false
set_option maxRecDepth 100000

noncomputable abbrev t (a0 : Int) : Tr SV := (evF Try.prog (lookH MObj L8.tabL) 100 20 8 [.v (ii a0)] [] 0).vmap (·.val)
theorem c0 (a0 : Int) : (t a0).conds [true] = [(kM a0 13 == 0)] := by kernel_rfl
theorem r0 (a0 : Int) : isT ((t a0).path [true]).run = true := by kernel_rfl
theorem c1 (a0 : Int) : (t a0).conds [false, true] = [(kM a0 13 == 0), (kM a0 13 == 1)] := by kernel_rfl
theorem r1 (a0 : Int) : isT ((t a0).path [false, true]).run = true := by kernel_rfl
theorem c2 (a0 : Int) : (t a0).conds [false, false, true] = [(kM a0 13 == 0), (kM a0 13 == 1), (kM a0 13 == 2)] := by kernel_rfl
theorem r2 (a0 : Int) : isT ((t a0).path [false, false, true]).run = true := by kernel_rfl
theorem c3 (a0 : Int) : (t a0).conds [false, false, false, true] = [(kM a0 13 == 0), (kM a0 13 == 1), (kM a0 13 == 2), (kM a0 13 == 3)] := by kernel_rfl
theorem r3 (a0 : Int) : isT ((t a0).path [false, false, false, true]).run = true := by kernel_rfl
theorem c4 (a0 : Int) : (t a0).conds [false, false, false, false, true] = [(kM a0 13 == 0), (kM a0 13 == 1), (kM a0 13 == 2), (kM a0 13 == 3), (kM a0 13 == 4)] := by kernel_rfl
theorem r4 (a0 : Int) : isT ((t a0).path [false, false, false, false, true]).run = true := by kernel_rfl
theorem c5 (a0 : Int) : (t a0).conds [false, false, false, false, false, true] = [(kM a0 13 == 0), (kM a0 13 == 1), (kM a0 13 == 2), (kM a0 13 == 3), (kM a0 13 == 4), (kM a0 13 == 5)] := by kernel_rfl
theorem r5 (a0 : Int) : isT ((t a0).path [false, false, false, false, false, true]).run = true := by kernel_rfl
theorem c6 (a0 : Int) : (t a0).conds [false, false, false, false, false, false, true] = [(kM a0 13 == 0), (kM a0 13 == 1), (kM a0 13 == 2), (kM a0 13 == 3), (kM a0 13 == 4), (kM a0 13 == 5), (kM a0 13 == 6)] := by kernel_rfl
theorem r6 (a0 : Int) : isT ((t a0).path [false, false, false, false, false, false, true]).run = true := by kernel_rfl
theorem c7 (a0 : Int) : (t a0).conds [false, false, false, false, false, false, false, true] = [(kM a0 13 == 0), (kM a0 13 == 1), (kM a0 13 == 2), (kM a0 13 == 3), (kM a0 13 == 4), (kM a0 13 == 5), (kM a0 13 == 6), (kM a0 13 == 7)] := by kernel_rfl
theorem r7 (a0 : Int) : isT ((t a0).path [false, false, false, false, false, false, false, true]).run = true := by kernel_rfl
theorem c8 (a0 : Int) : (t a0).conds [false, false, false, false, false, false, false, false, true] = [(kM a0 13 == 0), (kM a0 13 == 1), (kM a0 13 == 2), (kM a0 13 == 3), (kM a0 13 == 4), (kM a0 13 == 5), (kM a0 13 == 6), (kM a0 13 == 7), (kM a0 13 == 8)] := by kernel_rfl
theorem r8 (a0 : Int) : isT ((t a0).path [false, false, false, false, false, false, false, false, true]).run = true := by kernel_rfl
theorem c9 (a0 : Int) : (t a0).conds [false, false, false, false, false, false, false, false, false, true] = [(kM a0 13 == 0), (kM a0 13 == 1), (kM a0 13 == 2), (kM a0 13 == 3), (kM a0 13 == 4), (kM a0 13 == 5), (kM a0 13 == 6), (kM a0 13 == 7), (kM a0 13 == 8), (kM a0 13 == 9)] := by kernel_rfl
theorem r9 (a0 : Int) : isT ((t a0).path [false, false, false, false, false, false, false, false, false, true]).run = true := by kernel_rfl
theorem c10 (a0 : Int) : (t a0).conds [false, false, false, false, false, false, false, false, false, false, true] = [(kM a0 13 == 0), (kM a0 13 == 1), (kM a0 13 == 2), (kM a0 13 == 3), (kM a0 13 == 4), (kM a0 13 == 5), (kM a0 13 == 6), (kM a0 13 == 7), (kM a0 13 == 8), (kM a0 13 == 9), (kM a0 13 == 10)] := by kernel_rfl
theorem r10 (a0 : Int) : isT ((t a0).path [false, false, false, false, false, false, false, false, false, false, true]).run = true := by kernel_rfl
theorem c11 (a0 : Int) : (t a0).conds [false, false, false, false, false, false, false, false, false, false, false, true] = [(kM a0 13 == 0), (kM a0 13 == 1), (kM a0 13 == 2), (kM a0 13 == 3), (kM a0 13 == 4), (kM a0 13 == 5), (kM a0 13 == 6), (kM a0 13 == 7), (kM a0 13 == 8), (kM a0 13 == 9), (kM a0 13 == 10), (kM a0 13 == 11)] := by kernel_rfl
theorem r11 (a0 : Int) : isT ((t a0).path [false, false, false, false, false, false, false, false, false, false, false, true]).run = true := by kernel_rfl
theorem c12 (a0 : Int) : (t a0).conds [false, false, false, false, false, false, false, false, false, false, false, false, true] = [(kM a0 13 == 0), (kM a0 13 == 1), (kM a0 13 == 2), (kM a0 13 == 3), (kM a0 13 == 4), (kM a0 13 == 5), (kM a0 13 == 6), (kM a0 13 == 7), (kM a0 13 == 8), (kM a0 13 == 9), (kM a0 13 == 10), (kM a0 13 == 11), (kM a0 13 == 12)] := by kernel_rfl
theorem r12 (a0 : Int) : isT ((t a0).path [false, false, false, false, false, false, false, false, false, false, false, false, true]).run = true := by kernel_rfl
end Go.Proofs.Ytnlfphlmlklofaa.ListOrder
