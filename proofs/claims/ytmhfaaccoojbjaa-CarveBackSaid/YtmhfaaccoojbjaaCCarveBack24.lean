/-
  CarveBack: printed by genfin.py: case by case.
-/
import Derived.Test.YtmhfaaccoojbjaaEvTaken
namespace Go.Proofs.Ytmhfaaccoojbjaa.CarveBack
open Go Go.RowKit Go.Proofs.Ytmhfaaccoojbjaa.Eng
set_option linter.unusedVariables false
set_option linter.unusedSimpArgs false
set_option maxRecDepth 100000

namespace K24
noncomputable abbrev t (a0 a1 a2 : Int) : Tr SV := (evF Try.prog (lookH MObj Go.Proofs.Ytmhfaaccoojbjaa.Taken.tabL) 100 20 4 [.v (ii a0), .v (ii a1), .v (ii a2)] [] 0).vmap (·.val)
theorem c2_2_0_0 (a0 a1 a2 : Int) : (t a0 a1 a2).conds [false, false, true] = [(kM a0 8 == 0), (kM a0 8 == 1), (kM a0 8 == 2)] := by kernel_rfl
theorem c2_2_0_1 (a0 a1 a2 : Int) : ((t a0 a1 a2).path [false, false, true]).conds [false, false, true] = [(kM a1 3 == 0), (kM a1 3 == 1), (kM a1 3 == 2)] := by kernel_rfl
theorem c2_2_0_2 (a0 a1 a2 : Int) : ((((t a0 a1 a2).path [false, false, true]).path [false, false, true]).skip 25).conds [true] = [(kM a2 4 == 0)] := by kernel_rfl
theorem r2_2_0 (a0 a1 a2 : Int) : isT (((((t a0 a1 a2).path [false, false, true]).path [false, false, true]).skip 25).path [true]).run = true := by kernel_rfl
theorem c0_0_1_0 (a0 a1 a2 : Int) : (t a0 a1 a2).conds [true] = [(kM a0 8 == 0)] := by kernel_rfl
theorem c0_0_1_1 (a0 a1 a2 : Int) : ((t a0 a1 a2).path [true]).conds [true] = [(kM a1 3 == 0)] := by kernel_rfl
theorem c0_0_1_2 (a0 a1 a2 : Int) : ((((t a0 a1 a2).path [true]).path [true]).skip 9).conds [false, true] = [(kM a2 2 == 0), (kM a2 2 == 1)] := by kernel_rfl
theorem r0_0_1 (a0 a1 a2 : Int) : isT (((((t a0 a1 a2).path [true]).path [true]).skip 9).path [false, true]).run = true := by kernel_rfl
theorem c0_1_1_0 (a0 a1 a2 : Int) : (t a0 a1 a2).conds [true] = [(kM a0 8 == 0)] := by kernel_rfl
theorem c0_1_1_1 (a0 a1 a2 : Int) : ((t a0 a1 a2).path [true]).conds [false, true] = [(kM a1 3 == 0), (kM a1 3 == 1)] := by kernel_rfl
theorem c0_1_1_2 (a0 a1 a2 : Int) : ((((t a0 a1 a2).path [true]).path [false, true]).skip 10).conds [false, true] = [(kM a2 2 == 0), (kM a2 2 == 1)] := by kernel_rfl
theorem r0_1_1 (a0 a1 a2 : Int) : isT (((((t a0 a1 a2).path [true]).path [false, true]).skip 10).path [false, true]).run = true := by kernel_rfl
theorem c0_2_1_0 (a0 a1 a2 : Int) : (t a0 a1 a2).conds [true] = [(kM a0 8 == 0)] := by kernel_rfl
theorem c0_2_1_1 (a0 a1 a2 : Int) : ((t a0 a1 a2).path [true]).conds [false, false, true] = [(kM a1 3 == 0), (kM a1 3 == 1), (kM a1 3 == 2)] := by kernel_rfl
theorem c0_2_1_2 (a0 a1 a2 : Int) : ((((t a0 a1 a2).path [true]).path [false, false, true]).skip 11).conds [false, true] = [(kM a2 2 == 0), (kM a2 2 == 1)] := by kernel_rfl
theorem r0_2_1 (a0 a1 a2 : Int) : isT (((((t a0 a1 a2).path [true]).path [false, false, true]).skip 11).path [false, true]).run = true := by kernel_rfl
theorem c1_0_0_0 (a0 a1 a2 : Int) : (t a0 a1 a2).conds [false, true] = [(kM a0 8 == 0), (kM a0 8 == 1)] := by kernel_rfl
theorem c1_0_0_1 (a0 a1 a2 : Int) : ((t a0 a1 a2).path [false, true]).conds [true] = [(kM a1 3 == 0)] := by kernel_rfl
theorem c1_0_0_2 (a0 a1 a2 : Int) : ((((t a0 a1 a2).path [false, true]).path [true]).skip 14).conds [true] = [(kM a2 3 == 0)] := by kernel_rfl
theorem r1_0_0 (a0 a1 a2 : Int) : isT (((((t a0 a1 a2).path [false, true]).path [true]).skip 14).path [true]).run = true := by kernel_rfl
theorem c1_1_0_0 (a0 a1 a2 : Int) : (t a0 a1 a2).conds [false, true] = [(kM a0 8 == 0), (kM a0 8 == 1)] := by kernel_rfl
theorem c1_1_0_1 (a0 a1 a2 : Int) : ((t a0 a1 a2).path [false, true]).conds [false, true] = [(kM a1 3 == 0), (kM a1 3 == 1)] := by kernel_rfl
theorem c1_1_0_2 (a0 a1 a2 : Int) : ((((t a0 a1 a2).path [false, true]).path [false, true]).skip 16).conds [true] = [(kM a2 3 == 0)] := by kernel_rfl
theorem r1_1_0 (a0 a1 a2 : Int) : isT (((((t a0 a1 a2).path [false, true]).path [false, true]).skip 16).path [true]).run = true := by kernel_rfl
theorem c1_2_0_0 (a0 a1 a2 : Int) : (t a0 a1 a2).conds [false, true] = [(kM a0 8 == 0), (kM a0 8 == 1)] := by kernel_rfl
theorem c1_2_0_1 (a0 a1 a2 : Int) : ((t a0 a1 a2).path [false, true]).conds [false, false, true] = [(kM a1 3 == 0), (kM a1 3 == 1), (kM a1 3 == 2)] := by kernel_rfl
theorem c1_2_0_2 (a0 a1 a2 : Int) : ((((t a0 a1 a2).path [false, true]).path [false, false, true]).skip 18).conds [true] = [(kM a2 3 == 0)] := by kernel_rfl
theorem r1_2_0 (a0 a1 a2 : Int) : isT (((((t a0 a1 a2).path [false, true]).path [false, false, true]).skip 18).path [true]).run = true := by kernel_rfl
end K24
end Go.Proofs.Ytmhfaaccoojbjaa.CarveBack
