/-
  AllocAll: printed by genfin.py: case by case.
-/
import Derived.Test.YtmhfaaccoojbjaaEvLA
namespace Go.Proofs.Ytmhfaaccoojbjaa.AllocAll
open Go Go.RowKit Go.Proofs.Ytmhfaaccoojbjaa.Eng
set_option linter.unusedVariables false
set_option linter.unusedSimpArgs false
set_option maxRecDepth 100000

namespace K10
noncomputable abbrev t (a0 a1 : Int) : Tr SV := (evF Try.prog (lookH MObj LA.tabL) 100 20 6 [.v (ii a0), .v (ii a1)] [] 0).vmap (·.val)
theorem c3_4_0 (a0 a1 : Int) : (t a0 a1).conds [false, false, false, true] = [(kM a0 4 == 0), (kM a0 4 == 1), (kM a0 4 == 2), (kM a0 4 == 3)] := by kernel_rfl
theorem c3_4_1 (a0 a1 : Int) : ((t a0 a1).path [false, false, false, true]).conds [false, false, false, false, true] = [(kM a1 8 == 0), (kM a1 8 == 1), (kM a1 8 == 2), (kM a1 8 == 3), (kM a1 8 == 4)] := by kernel_rfl
theorem r3_4 (a0 a1 : Int) : isT (((t a0 a1).path [false, false, false, true]).path [false, false, false, false, true]).run = true := by kernel_rfl
theorem c0_6_0 (a0 a1 : Int) : (t a0 a1).conds [true] = [(kM a0 4 == 0)] := by kernel_rfl
theorem c0_6_1 (a0 a1 : Int) : ((t a0 a1).path [true]).conds [false, false, false, false, false, false, true] = [(kM a1 8 == 0), (kM a1 8 == 1), (kM a1 8 == 2), (kM a1 8 == 3), (kM a1 8 == 4), (kM a1 8 == 5), (kM a1 8 == 6)] := by kernel_rfl
theorem r0_6 (a0 a1 : Int) : isT (((t a0 a1).path [true]).path [false, false, false, false, false, false, true]).run = true := by kernel_rfl
end K10
end Go.Proofs.Ytmhfaaccoojbjaa.AllocAll
