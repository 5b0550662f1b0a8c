/-
  CarveBack: printed by genfin.py: case by case.
-/
import Derived.Test.YtmhfaaccoojbjaaEvTaken
namespace Go.Proofs.Ytmhfaaccoojbjaa.CarveBack
open Go Go.RowKit Go.Proofs.Ytmhfaaccoojbjaa.Eng
set_option linter.unusedVariables false
set_option linter.unusedSimpArgs false
set_option maxRecDepth 100000

namespace K14
noncomputable abbrev t (a0 a1 a2 : Int) : Tr SV := (evF Try.prog (lookH MObj Go.Proofs.Ytmhfaaccoojbjaa.Taken.tabL) 100 20 4 [.v (ii a0), .v (ii a1), .v (ii a2)] [] 0).vmap (·.val)
theorem c4_2_4_0 (a0 a1 a2 : Int) : (t a0 a1 a2).conds [false, false, false, false, true] = [(kM a0 8 == 0), (kM a0 8 == 1), (kM a0 8 == 2), (kM a0 8 == 3), (kM a0 8 == 4)] := by kernel_rfl
theorem c4_2_4_1 (a0 a1 a2 : Int) : ((t a0 a1 a2).path [false, false, false, false, true]).conds [false, false, true] = [(kM a1 3 == 0), (kM a1 3 == 1), (kM a1 3 == 2)] := by kernel_rfl
theorem c4_2_4_2 (a0 a1 a2 : Int) : ((((t a0 a1 a2).path [false, false, false, false, true]).path [false, false, true]).skip 39).conds [false, false, false, false, true] = [(kM a2 6 == 0), (kM a2 6 == 1), (kM a2 6 == 2), (kM a2 6 == 3), (kM a2 6 == 4)] := by kernel_rfl
theorem r4_2_4 (a0 a1 a2 : Int) : isT (((((t a0 a1 a2).path [false, false, false, false, true]).path [false, false, true]).skip 39).path [false, false, false, false, true]).run = true := by kernel_rfl
theorem c5_0_3_0 (a0 a1 a2 : Int) : (t a0 a1 a2).conds [false, false, false, false, false, true] = [(kM a0 8 == 0), (kM a0 8 == 1), (kM a0 8 == 2), (kM a0 8 == 3), (kM a0 8 == 4), (kM a0 8 == 5)] := by kernel_rfl
theorem c5_0_3_1 (a0 a1 a2 : Int) : ((t a0 a1 a2).path [false, false, false, false, false, true]).conds [true] = [(kM a1 3 == 0)] := by kernel_rfl
theorem c5_0_3_2 (a0 a1 a2 : Int) : ((((t a0 a1 a2).path [false, false, false, false, false, true]).path [true]).skip 34).conds [false, false, false, true] = [(kM a2 7 == 0), (kM a2 7 == 1), (kM a2 7 == 2), (kM a2 7 == 3)] := by kernel_rfl
theorem r5_0_3 (a0 a1 a2 : Int) : isT (((((t a0 a1 a2).path [false, false, false, false, false, true]).path [true]).skip 34).path [false, false, false, true]).run = true := by kernel_rfl
theorem c5_1_3_0 (a0 a1 a2 : Int) : (t a0 a1 a2).conds [false, false, false, false, false, true] = [(kM a0 8 == 0), (kM a0 8 == 1), (kM a0 8 == 2), (kM a0 8 == 3), (kM a0 8 == 4), (kM a0 8 == 5)] := by kernel_rfl
theorem c5_1_3_1 (a0 a1 a2 : Int) : ((t a0 a1 a2).path [false, false, false, false, false, true]).conds [false, true] = [(kM a1 3 == 0), (kM a1 3 == 1)] := by kernel_rfl
theorem c5_1_3_2 (a0 a1 a2 : Int) : ((((t a0 a1 a2).path [false, false, false, false, false, true]).path [false, true]).skip 40).conds [false, false, false, true] = [(kM a2 7 == 0), (kM a2 7 == 1), (kM a2 7 == 2), (kM a2 7 == 3)] := by kernel_rfl
theorem r5_1_3 (a0 a1 a2 : Int) : isT (((((t a0 a1 a2).path [false, false, false, false, false, true]).path [false, true]).skip 40).path [false, false, false, true]).run = true := by kernel_rfl
theorem c5_2_3_0 (a0 a1 a2 : Int) : (t a0 a1 a2).conds [false, false, false, false, false, true] = [(kM a0 8 == 0), (kM a0 8 == 1), (kM a0 8 == 2), (kM a0 8 == 3), (kM a0 8 == 4), (kM a0 8 == 5)] := by kernel_rfl
theorem c5_2_3_1 (a0 a1 a2 : Int) : ((t a0 a1 a2).path [false, false, false, false, false, true]).conds [false, false, true] = [(kM a1 3 == 0), (kM a1 3 == 1), (kM a1 3 == 2)] := by kernel_rfl
theorem c5_2_3_2 (a0 a1 a2 : Int) : ((((t a0 a1 a2).path [false, false, false, false, false, true]).path [false, false, true]).skip 46).conds [false, false, false, true] = [(kM a2 7 == 0), (kM a2 7 == 1), (kM a2 7 == 2), (kM a2 7 == 3)] := by kernel_rfl
theorem r5_2_3 (a0 a1 a2 : Int) : isT (((((t a0 a1 a2).path [false, false, false, false, false, true]).path [false, false, true]).skip 46).path [false, false, false, true]).run = true := by kernel_rfl
theorem c6_0_2_0 (a0 a1 a2 : Int) : (t a0 a1 a2).conds [false, false, false, false, false, false, true] = [(kM a0 8 == 0), (kM a0 8 == 1), (kM a0 8 == 2), (kM a0 8 == 3), (kM a0 8 == 4), (kM a0 8 == 5), (kM a0 8 == 6)] := by kernel_rfl
theorem c6_0_2_1 (a0 a1 a2 : Int) : ((t a0 a1 a2).path [false, false, false, false, false, false, true]).conds [true] = [(kM a1 3 == 0)] := by kernel_rfl
theorem c6_0_2_2 (a0 a1 a2 : Int) : ((((t a0 a1 a2).path [false, false, false, false, false, false, true]).path [true]).skip 39).conds [false, false, true] = [(kM a2 8 == 0), (kM a2 8 == 1), (kM a2 8 == 2)] := by kernel_rfl
theorem r6_0_2 (a0 a1 a2 : Int) : isT (((((t a0 a1 a2).path [false, false, false, false, false, false, true]).path [true]).skip 39).path [false, false, true]).run = true := by kernel_rfl
end K14
end Go.Proofs.Ytmhfaaccoojbjaa.CarveBack
