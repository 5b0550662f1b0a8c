/-
  ViewNew: some of its cases. Printed by genVN.py.
-/
import Derived.Test.YtcolladpdmjloaaDViewNew
namespace Go.Proofs.Ytcolladpdmjloaa.ViewNew
open Go Go.RowKit Go.Proofs.Ytcolladpdmjloaa.Eng
set_option linter.unusedVariables false
set_option linter.unusedSimpArgs false
set_option linter.unusedSectionVars false
set_option maxRecDepth 100000
theorem c7_4_0 (a0 a1 : Int) : (t a0 a1).conds [false, false, false, false, false, false, false, true] = [(kM a0 8 == 0), (kM a0 8 == 1), (kM a0 8 == 2), (kM a0 8 == 3), (kM a0 8 == 4), (kM a0 8 == 5), (kM a0 8 == 6), (kM a0 8 == 7)] := by kernel_rfl
theorem c7_4_1 (a0 a1 : Int) : ((t a0 a1).path [false, false, false, false, false, false, false, true]).conds [false, false, false, false, true] = [(kM a1 8 == 0), (kM a1 8 == 1), (kM a1 8 == 2), (kM a1 8 == 3), (kM a1 8 == 4)] := by kernel_rfl
theorem r7_4 (a0 a1 : Int) : (((t a0 a1).path [false, false, false, false, false, false, false, true]).path [false, false, false, false, true]).run = some true := by kernel_rfl
theorem c3_5_0 (a0 a1 : Int) : (t a0 a1).conds [false, false, false, true] = [(kM a0 8 == 0), (kM a0 8 == 1), (kM a0 8 == 2), (kM a0 8 == 3)] := by kernel_rfl
theorem c3_5_1 (a0 a1 : Int) : ((t a0 a1).path [false, false, false, true]).conds [false, false, false, false, false, true] = [(kM a1 8 == 0), (kM a1 8 == 1), (kM a1 8 == 2), (kM a1 8 == 3), (kM a1 8 == 4), (kM a1 8 == 5)] := by kernel_rfl
theorem r3_5 (a0 a1 : Int) : (((t a0 a1).path [false, false, false, true]).path [false, false, false, false, false, true]).run = some true := by kernel_rfl
theorem c4_3_0 (a0 a1 : Int) : (t a0 a1).conds [false, false, false, false, true] = [(kM a0 8 == 0), (kM a0 8 == 1), (kM a0 8 == 2), (kM a0 8 == 3), (kM a0 8 == 4)] := by kernel_rfl
theorem c4_3_1 (a0 a1 : Int) : ((t a0 a1).path [false, false, false, false, true]).conds [false, false, false, true] = [(kM a1 8 == 0), (kM a1 8 == 1), (kM a1 8 == 2), (kM a1 8 == 3)] := by kernel_rfl
theorem r4_3 (a0 a1 : Int) : (((t a0 a1).path [false, false, false, false, true]).path [false, false, false, true]).run = some true := by kernel_rfl
theorem c0_0_0 (a0 a1 : Int) : (t a0 a1).conds [true] = [(kM a0 8 == 0)] := by kernel_rfl
theorem c0_0_1 (a0 a1 : Int) : ((t a0 a1).path [true]).conds [true] = [(kM a1 8 == 0)] := by kernel_rfl
theorem r0_0 (a0 a1 : Int) : (((t a0 a1).path [true]).path [true]).run = some true := by kernel_rfl
end Go.Proofs.Ytcolladpdmjloaa.ViewNew
