/-
  ViewNew: some of its cases. Printed by genVN.py.
-/
import Derived.Test.YtcolladpdmjloaaDViewNew
namespace Go.Proofs.Ytcolladpdmjloaa.ViewNew
open Go Go.RowKit Go.Proofs.Ytcolladpdmjloaa.Eng
set_option linter.unusedVariables false
set_option linter.unusedSimpArgs false
set_option linter.unusedSectionVars false
set_option maxRecDepth 100000
theorem c6_7_0 (a0 a1 : Int) : (t a0 a1).conds [false, false, false, false, false, false, true] = [(kM a0 8 == 0), (kM a0 8 == 1), (kM a0 8 == 2), (kM a0 8 == 3), (kM a0 8 == 4), (kM a0 8 == 5), (kM a0 8 == 6)] := by kernel_rfl
theorem c6_7_1 (a0 a1 : Int) : ((t a0 a1).path [false, false, false, false, false, false, true]).conds [false, false, false, false, false, false, false, true] = [(kM a1 8 == 0), (kM a1 8 == 1), (kM a1 8 == 2), (kM a1 8 == 3), (kM a1 8 == 4), (kM a1 8 == 5), (kM a1 8 == 6), (kM a1 8 == 7)] := by kernel_rfl
theorem r6_7 (a0 a1 : Int) : (((t a0 a1).path [false, false, false, false, false, false, true]).path [false, false, false, false, false, false, false, true]).run = some true := by kernel_rfl
theorem c3_4_0 (a0 a1 : Int) : (t a0 a1).conds [false, false, false, true] = [(kM a0 8 == 0), (kM a0 8 == 1), (kM a0 8 == 2), (kM a0 8 == 3)] := by kernel_rfl
theorem c3_4_1 (a0 a1 : Int) : ((t a0 a1).path [false, false, false, true]).conds [false, false, false, false, true] = [(kM a1 8 == 0), (kM a1 8 == 1), (kM a1 8 == 2), (kM a1 8 == 3), (kM a1 8 == 4)] := by kernel_rfl
theorem r3_4 (a0 a1 : Int) : (((t a0 a1).path [false, false, false, true]).path [false, false, false, false, true]).run = some true := by kernel_rfl
theorem c6_0_0 (a0 a1 : Int) : (t a0 a1).conds [false, false, false, false, false, false, true] = [(kM a0 8 == 0), (kM a0 8 == 1), (kM a0 8 == 2), (kM a0 8 == 3), (kM a0 8 == 4), (kM a0 8 == 5), (kM a0 8 == 6)] := by kernel_rfl
theorem c6_0_1 (a0 a1 : Int) : ((t a0 a1).path [false, false, false, false, false, false, true]).conds [true] = [(kM a1 8 == 0)] := by kernel_rfl
theorem r6_0 (a0 a1 : Int) : (((t a0 a1).path [false, false, false, false, false, false, true]).path [true]).run = some true := by kernel_rfl
theorem c0_2_0 (a0 a1 : Int) : (t a0 a1).conds [true] = [(kM a0 8 == 0)] := by kernel_rfl
theorem c0_2_1 (a0 a1 : Int) : ((t a0 a1).path [true]).conds [false, false, true] = [(kM a1 8 == 0), (kM a1 8 == 1), (kM a1 8 == 2)] := by kernel_rfl
theorem r0_2 (a0 a1 : Int) : (((t a0 a1).path [true]).path [false, false, true]).run = some true := by kernel_rfl
end Go.Proofs.Ytcolladpdmjloaa.ViewNew
