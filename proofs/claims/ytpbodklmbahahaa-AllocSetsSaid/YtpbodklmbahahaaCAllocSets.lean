/-
  AllocSets: printed by genfin.py: case by case.
-/
import Derived.Test.YtpbodklmbahahaaEvL10
namespace Go.Proofs.Ytpbodklmbahahaa.AllocSets
open Go Go.RowKit Go.Proofs.Ytpbodklmbahahaa.Eng
set_option linter.unusedVariables false
set_option linter.unusedSimpArgs false
set_option maxRecDepth 100000

noncomputable abbrev t (a0 : Int) : Tr SV := (evF Try.prog (lookH MObj L10.tabL) 100 20 5 [.v (ii a0)] [] 0).vmap (·.val)
theorem c0_0 (a0 : Int) : ((t a0).skip 261).conds [true] = [(kM a0 3 == 0)] := by kernel_rfl
theorem r0 (a0 : Int) : isT (((t a0).skip 261).path [true]).run = true := by kernel_rfl
theorem c1_0 (a0 : Int) : ((t a0).skip 261).conds [false, true] = [(kM a0 3 == 0), (kM a0 3 == 1)] := by kernel_rfl
theorem r1 (a0 : Int) : isT (((t a0).skip 261).path [false, true]).run = true := by kernel_rfl
theorem c2_0 (a0 : Int) : ((t a0).skip 261).conds [false, false, true] = [(kM a0 3 == 0), (kM a0 3 == 1), (kM a0 3 == 2)] := by kernel_rfl
theorem r2 (a0 : Int) : isT (((t a0).skip 261).path [false, false, true]).run = true := by kernel_rfl
end Go.Proofs.Ytpbodklmbahahaa.AllocSets
