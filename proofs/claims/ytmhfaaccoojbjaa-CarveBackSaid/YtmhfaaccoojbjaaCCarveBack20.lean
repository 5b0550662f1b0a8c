/-
  CarveBack: printed by genfin.py: case by case.
-/
import Derived.Test.YtmhfaaccoojbjaaEvTaken
namespace Go.Proofs.Ytmhfaaccoojbjaa.CarveBack
open Go Go.RowKit Go.Proofs.Ytmhfaaccoojbjaa.Eng
set_option linter.unusedVariables false
set_option linter.unusedSimpArgs false
set_option maxRecDepth 100000

namespace K20
noncomputable abbrev t (a0 a1 a2 : Int) : Tr SV := (evF Try.prog (lookH MObj Go.Proofs.Ytmhfaaccoojbjaa.Taken.tabL) 100 20 4 [.v (ii a0), .v (ii a1), .v (ii a2)] [] 0).vmap (·.val)
theorem c6_0_0_0 (a0 a1 a2 : Int) : (t a0 a1 a2).conds [false, false, false, false, false, false, true] = [(kM a0 8 == 0), (kM a0 8 == 1), (kM a0 8 == 2), (kM a0 8 == 3), (kM a0 8 == 4), (kM a0 8 == 5), (kM a0 8 == 6)] := by kernel_rfl
theorem c6_0_0_1 (a0 a1 a2 : Int) : ((t a0 a1 a2).path [false, false, false, false, false, false, true]).conds [true] = [(kM a1 3 == 0)] := by kernel_rfl
theorem c6_0_0_2 (a0 a1 a2 : Int) : ((((t a0 a1 a2).path [false, false, false, false, false, false, true]).path [true]).skip 39).conds [true] = [(kM a2 8 == 0)] := by kernel_rfl
theorem r6_0_0 (a0 a1 a2 : Int) : isT (((((t a0 a1 a2).path [false, false, false, false, false, false, true]).path [true]).skip 39).path [true]).run = true := by kernel_rfl
theorem c6_1_0_0 (a0 a1 a2 : Int) : (t a0 a1 a2).conds [false, false, false, false, false, false, true] = [(kM a0 8 == 0), (kM a0 8 == 1), (kM a0 8 == 2), (kM a0 8 == 3), (kM a0 8 == 4), (kM a0 8 == 5), (kM a0 8 == 6)] := by kernel_rfl
theorem c6_1_0_1 (a0 a1 a2 : Int) : ((t a0 a1 a2).path [false, false, false, false, false, false, true]).conds [false, true] = [(kM a1 3 == 0), (kM a1 3 == 1)] := by kernel_rfl
theorem c6_1_0_2 (a0 a1 a2 : Int) : ((((t a0 a1 a2).path [false, false, false, false, false, false, true]).path [false, true]).skip 46).conds [true] = [(kM a2 8 == 0)] := by kernel_rfl
theorem r6_1_0 (a0 a1 a2 : Int) : isT (((((t a0 a1 a2).path [false, false, false, false, false, false, true]).path [false, true]).skip 46).path [true]).run = true := by kernel_rfl
theorem c6_2_0_0 (a0 a1 a2 : Int) : (t a0 a1 a2).conds [false, false, false, false, false, false, true] = [(kM a0 8 == 0), (kM a0 8 == 1), (kM a0 8 == 2), (kM a0 8 == 3), (kM a0 8 == 4), (kM a0 8 == 5), (kM a0 8 == 6)] := by kernel_rfl
theorem c6_2_0_1 (a0 a1 a2 : Int) : ((t a0 a1 a2).path [false, false, false, false, false, false, true]).conds [false, false, true] = [(kM a1 3 == 0), (kM a1 3 == 1), (kM a1 3 == 2)] := by kernel_rfl
theorem c6_2_0_2 (a0 a1 a2 : Int) : ((((t a0 a1 a2).path [false, false, false, false, false, false, true]).path [false, false, true]).skip 53).conds [true] = [(kM a2 8 == 0)] := by kernel_rfl
theorem r6_2_0 (a0 a1 a2 : Int) : isT (((((t a0 a1 a2).path [false, false, false, false, false, false, true]).path [false, false, true]).skip 53).path [true]).run = true := by kernel_rfl
theorem c2_0_3_0 (a0 a1 a2 : Int) : (t a0 a1 a2).conds [false, false, true] = [(kM a0 8 == 0), (kM a0 8 == 1), (kM a0 8 == 2)] := by kernel_rfl
theorem c2_0_3_1 (a0 a1 a2 : Int) : ((t a0 a1 a2).path [false, false, true]).conds [true] = [(kM a1 3 == 0)] := by kernel_rfl
theorem c2_0_3_2 (a0 a1 a2 : Int) : ((((t a0 a1 a2).path [false, false, true]).path [true]).skip 19).conds [false, false, false, true] = [(kM a2 4 == 0), (kM a2 4 == 1), (kM a2 4 == 2), (kM a2 4 == 3)] := by kernel_rfl
theorem r2_0_3 (a0 a1 a2 : Int) : isT (((((t a0 a1 a2).path [false, false, true]).path [true]).skip 19).path [false, false, false, true]).run = true := by kernel_rfl
theorem c2_1_3_0 (a0 a1 a2 : Int) : (t a0 a1 a2).conds [false, false, true] = [(kM a0 8 == 0), (kM a0 8 == 1), (kM a0 8 == 2)] := by kernel_rfl
theorem c2_1_3_1 (a0 a1 a2 : Int) : ((t a0 a1 a2).path [false, false, true]).conds [false, true] = [(kM a1 3 == 0), (kM a1 3 == 1)] := by kernel_rfl
theorem c2_1_3_2 (a0 a1 a2 : Int) : ((((t a0 a1 a2).path [false, false, true]).path [false, true]).skip 22).conds [false, false, false, true] = [(kM a2 4 == 0), (kM a2 4 == 1), (kM a2 4 == 2), (kM a2 4 == 3)] := by kernel_rfl
theorem r2_1_3 (a0 a1 a2 : Int) : isT (((((t a0 a1 a2).path [false, false, true]).path [false, true]).skip 22).path [false, false, false, true]).run = true := by kernel_rfl
theorem c2_2_3_0 (a0 a1 a2 : Int) : (t a0 a1 a2).conds [false, false, true] = [(kM a0 8 == 0), (kM a0 8 == 1), (kM a0 8 == 2)] := by kernel_rfl
theorem c2_2_3_1 (a0 a1 a2 : Int) : ((t a0 a1 a2).path [false, false, true]).conds [false, false, true] = [(kM a1 3 == 0), (kM a1 3 == 1), (kM a1 3 == 2)] := by kernel_rfl
theorem c2_2_3_2 (a0 a1 a2 : Int) : ((((t a0 a1 a2).path [false, false, true]).path [false, false, true]).skip 25).conds [false, false, false, true] = [(kM a2 4 == 0), (kM a2 4 == 1), (kM a2 4 == 2), (kM a2 4 == 3)] := by kernel_rfl
theorem r2_2_3 (a0 a1 a2 : Int) : isT (((((t a0 a1 a2).path [false, false, true]).path [false, false, true]).skip 25).path [false, false, false, true]).run = true := by kernel_rfl
theorem c2_0_0_0 (a0 a1 a2 : Int) : (t a0 a1 a2).conds [false, false, true] = [(kM a0 8 == 0), (kM a0 8 == 1), (kM a0 8 == 2)] := by kernel_rfl
theorem c2_0_0_1 (a0 a1 a2 : Int) : ((t a0 a1 a2).path [false, false, true]).conds [true] = [(kM a1 3 == 0)] := by kernel_rfl
theorem c2_0_0_2 (a0 a1 a2 : Int) : ((((t a0 a1 a2).path [false, false, true]).path [true]).skip 19).conds [true] = [(kM a2 4 == 0)] := by kernel_rfl
theorem r2_0_0 (a0 a1 a2 : Int) : isT (((((t a0 a1 a2).path [false, false, true]).path [true]).skip 19).path [true]).run = true := by kernel_rfl
end K20
end Go.Proofs.Ytmhfaaccoojbjaa.CarveBack
