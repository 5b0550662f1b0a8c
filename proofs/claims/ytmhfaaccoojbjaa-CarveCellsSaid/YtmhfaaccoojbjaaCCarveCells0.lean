/-
  CarveCells: printed by genfin.py: case by case.
-/
import Derived.Test.YtmhfaaccoojbjaaEvLC9
namespace Go.Proofs.Ytmhfaaccoojbjaa.CarveCells
open Go Go.RowKit Go.Proofs.Ytmhfaaccoojbjaa.Eng
set_option linter.unusedVariables false
set_option linter.unusedSimpArgs false
set_option maxRecDepth 100000

namespace K0
noncomputable abbrev t (a0 a1 a2 : Int) : Tr SV := (evF Try.prog (lookH MObj LC9.tabL) 100 20 3 [.v (ii a0), .v (ii a1), .v (ii a2)] [] 0).vmap (·.val)
theorem c0_0_0_0 (a0 a1 a2 : Int) : (t a0 a1 a2).conds [true] = [(kM a0 8 == 0)] := by kernel_rfl
theorem c0_0_0_1 (a0 a1 a2 : Int) : ((t a0 a1 a2).path [true]).conds [true] = [(kM a1 3 == 0)] := by kernel_rfl
theorem c0_0_0_2 (a0 a1 a2 : Int) : (((t a0 a1 a2).path [true]).path [true]).conds [true] = [(kM a2 2 == 0)] := by kernel_rfl
theorem r0_0_0 (a0 a1 a2 : Int) : isT ((((t a0 a1 a2).path [true]).path [true]).path [true]).run = true := by kernel_rfl
theorem c0_0_1_0 (a0 a1 a2 : Int) : (t a0 a1 a2).conds [true] = [(kM a0 8 == 0)] := by kernel_rfl
theorem c0_0_1_1 (a0 a1 a2 : Int) : ((t a0 a1 a2).path [true]).conds [true] = [(kM a1 3 == 0)] := by kernel_rfl
theorem c0_0_1_2 (a0 a1 a2 : Int) : (((t a0 a1 a2).path [true]).path [true]).conds [false, true] = [(kM a2 2 == 0), (kM a2 2 == 1)] := by kernel_rfl
theorem r0_0_1 (a0 a1 a2 : Int) : isT ((((t a0 a1 a2).path [true]).path [true]).path [false, true]).run = true := by kernel_rfl
theorem c0_1_0_0 (a0 a1 a2 : Int) : (t a0 a1 a2).conds [true] = [(kM a0 8 == 0)] := by kernel_rfl
theorem c0_1_0_1 (a0 a1 a2 : Int) : ((t a0 a1 a2).path [true]).conds [false, true] = [(kM a1 3 == 0), (kM a1 3 == 1)] := by kernel_rfl
theorem c0_1_0_2 (a0 a1 a2 : Int) : (((t a0 a1 a2).path [true]).path [false, true]).conds [true] = [(kM a2 2 == 0)] := by kernel_rfl
theorem r0_1_0 (a0 a1 a2 : Int) : isT ((((t a0 a1 a2).path [true]).path [false, true]).path [true]).run = true := by kernel_rfl
theorem c0_1_1_0 (a0 a1 a2 : Int) : (t a0 a1 a2).conds [true] = [(kM a0 8 == 0)] := by kernel_rfl
theorem c0_1_1_1 (a0 a1 a2 : Int) : ((t a0 a1 a2).path [true]).conds [false, true] = [(kM a1 3 == 0), (kM a1 3 == 1)] := by kernel_rfl
theorem c0_1_1_2 (a0 a1 a2 : Int) : (((t a0 a1 a2).path [true]).path [false, true]).conds [false, true] = [(kM a2 2 == 0), (kM a2 2 == 1)] := by kernel_rfl
theorem r0_1_1 (a0 a1 a2 : Int) : isT ((((t a0 a1 a2).path [true]).path [false, true]).path [false, true]).run = true := by kernel_rfl
theorem c0_2_0_0 (a0 a1 a2 : Int) : (t a0 a1 a2).conds [true] = [(kM a0 8 == 0)] := by kernel_rfl
theorem c0_2_0_1 (a0 a1 a2 : Int) : ((t a0 a1 a2).path [true]).conds [false, false, true] = [(kM a1 3 == 0), (kM a1 3 == 1), (kM a1 3 == 2)] := by kernel_rfl
theorem c0_2_0_2 (a0 a1 a2 : Int) : (((t a0 a1 a2).path [true]).path [false, false, true]).conds [true] = [(kM a2 2 == 0)] := by kernel_rfl
theorem r0_2_0 (a0 a1 a2 : Int) : isT ((((t a0 a1 a2).path [true]).path [false, false, true]).path [true]).run = true := by kernel_rfl
theorem c0_2_1_0 (a0 a1 a2 : Int) : (t a0 a1 a2).conds [true] = [(kM a0 8 == 0)] := by kernel_rfl
theorem c0_2_1_1 (a0 a1 a2 : Int) : ((t a0 a1 a2).path [true]).conds [false, false, true] = [(kM a1 3 == 0), (kM a1 3 == 1), (kM a1 3 == 2)] := by kernel_rfl
theorem c0_2_1_2 (a0 a1 a2 : Int) : (((t a0 a1 a2).path [true]).path [false, false, true]).conds [false, true] = [(kM a2 2 == 0), (kM a2 2 == 1)] := by kernel_rfl
theorem r0_2_1 (a0 a1 a2 : Int) : isT ((((t a0 a1 a2).path [true]).path [false, false, true]).path [false, true]).run = true := by kernel_rfl
end K0
end Go.Proofs.Ytmhfaaccoojbjaa.CarveCells
