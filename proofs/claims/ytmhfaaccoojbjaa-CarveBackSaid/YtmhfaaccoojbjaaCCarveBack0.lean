/-
  CarveBack: printed by genfin.py: case by case.
-/
import Derived.Test.YtmhfaaccoojbjaaEvTaken
namespace Go.Proofs.Ytmhfaaccoojbjaa.CarveBack
open Go Go.RowKit Go.Proofs.Ytmhfaaccoojbjaa.Eng
set_option linter.unusedVariables false
set_option linter.unusedSimpArgs false
set_option maxRecDepth 100000

namespace K0
noncomputable abbrev t (a0 a1 a2 : Int) : Tr SV := (evF Try.prog (lookH MObj Go.Proofs.Ytmhfaaccoojbjaa.Taken.tabL) 100 20 4 [.v (ii a0), .v (ii a1), .v (ii a2)] [] 0).vmap (·.val)
theorem c7_0_8_0 (a0 a1 a2 : Int) : (t a0 a1 a2).conds [false, false, false, false, false, false, false, true] = [(kM a0 8 == 0), (kM a0 8 == 1), (kM a0 8 == 2), (kM a0 8 == 3), (kM a0 8 == 4), (kM a0 8 == 5), (kM a0 8 == 6), (kM a0 8 == 7)] := by kernel_rfl
theorem c7_0_8_1 (a0 a1 a2 : Int) : ((t a0 a1 a2).path [false, false, false, false, false, false, false, true]).conds [true] = [(kM a1 3 == 0)] := by kernel_rfl
theorem c7_0_8_2 (a0 a1 a2 : Int) : ((((t a0 a1 a2).path [false, false, false, false, false, false, false, true]).path [true]).skip 44).conds [false, false, false, false, false, false, false, false, true] = [(kM a2 9 == 0), (kM a2 9 == 1), (kM a2 9 == 2), (kM a2 9 == 3), (kM a2 9 == 4), (kM a2 9 == 5), (kM a2 9 == 6), (kM a2 9 == 7), (kM a2 9 == 8)] := by kernel_rfl
theorem r7_0_8 (a0 a1 a2 : Int) : isT (((((t a0 a1 a2).path [false, false, false, false, false, false, false, true]).path [true]).skip 44).path [false, false, false, false, false, false, false, false, true]).run = true := by kernel_rfl
theorem c7_1_8_0 (a0 a1 a2 : Int) : (t a0 a1 a2).conds [false, false, false, false, false, false, false, true] = [(kM a0 8 == 0), (kM a0 8 == 1), (kM a0 8 == 2), (kM a0 8 == 3), (kM a0 8 == 4), (kM a0 8 == 5), (kM a0 8 == 6), (kM a0 8 == 7)] := by kernel_rfl
theorem c7_1_8_1 (a0 a1 a2 : Int) : ((t a0 a1 a2).path [false, false, false, false, false, false, false, true]).conds [false, true] = [(kM a1 3 == 0), (kM a1 3 == 1)] := by kernel_rfl
theorem c7_1_8_2 (a0 a1 a2 : Int) : ((((t a0 a1 a2).path [false, false, false, false, false, false, false, true]).path [false, true]).skip 52).conds [false, false, false, false, false, false, false, false, true] = [(kM a2 9 == 0), (kM a2 9 == 1), (kM a2 9 == 2), (kM a2 9 == 3), (kM a2 9 == 4), (kM a2 9 == 5), (kM a2 9 == 6), (kM a2 9 == 7), (kM a2 9 == 8)] := by kernel_rfl
theorem r7_1_8 (a0 a1 a2 : Int) : isT (((((t a0 a1 a2).path [false, false, false, false, false, false, false, true]).path [false, true]).skip 52).path [false, false, false, false, false, false, false, false, true]).run = true := by kernel_rfl
theorem c7_2_8_0 (a0 a1 a2 : Int) : (t a0 a1 a2).conds [false, false, false, false, false, false, false, true] = [(kM a0 8 == 0), (kM a0 8 == 1), (kM a0 8 == 2), (kM a0 8 == 3), (kM a0 8 == 4), (kM a0 8 == 5), (kM a0 8 == 6), (kM a0 8 == 7)] := by kernel_rfl
theorem c7_2_8_1 (a0 a1 a2 : Int) : ((t a0 a1 a2).path [false, false, false, false, false, false, false, true]).conds [false, false, true] = [(kM a1 3 == 0), (kM a1 3 == 1), (kM a1 3 == 2)] := by kernel_rfl
theorem c7_2_8_2 (a0 a1 a2 : Int) : ((((t a0 a1 a2).path [false, false, false, false, false, false, false, true]).path [false, false, true]).skip 60).conds [false, false, false, false, false, false, false, false, true] = [(kM a2 9 == 0), (kM a2 9 == 1), (kM a2 9 == 2), (kM a2 9 == 3), (kM a2 9 == 4), (kM a2 9 == 5), (kM a2 9 == 6), (kM a2 9 == 7), (kM a2 9 == 8)] := by kernel_rfl
theorem r7_2_8 (a0 a1 a2 : Int) : isT (((((t a0 a1 a2).path [false, false, false, false, false, false, false, true]).path [false, false, true]).skip 60).path [false, false, false, false, false, false, false, false, true]).run = true := by kernel_rfl
end K0
end Go.Proofs.Ytmhfaaccoojbjaa.CarveBack
