/-
  ListChains: printed by genfin.py: case by case.
-/
import Derived.Test.YtnlfphlmlklofaaEvL8
namespace Go.Proofs.Ytnlfphlmlklofaa.ListChains
open Go Go.RowKit Go.Proofs.Ytnlfphlmlklofaa.Eng
set_option linter.unusedVariables false
set_option linter.unusedSimpArgs false
set_option maxRecDepth 100000

noncomputable abbrev t (a0 a1 : Int) : Tr SV := (evF Try.prog (lookH MObj L8.tabL) 100 20 6 [.v (ii a0), .v (ii a1)] [] 0).vmap (·.val)
theorem c0_0 (a0 a1 : Int) : (t a0 a1).conds [true, true] = [(kM a0 7 == 0), (kM a1 6 == 0)] := by kernel_rfl
theorem r0_0 (a0 a1 : Int) : isT ((t a0 a1).path [true, true]).run = true := by kernel_rfl
theorem c0_1 (a0 a1 : Int) : (t a0 a1).conds [true, false, true] = [(kM a0 7 == 0), (kM a1 6 == 0), (kM a1 6 == 1)] := by kernel_rfl
theorem r0_1 (a0 a1 : Int) : isT ((t a0 a1).path [true, false, true]).run = true := by kernel_rfl
theorem c0_2 (a0 a1 : Int) : (t a0 a1).conds [true, false, false, true] = [(kM a0 7 == 0), (kM a1 6 == 0), (kM a1 6 == 1), (kM a1 6 == 2)] := by kernel_rfl
theorem r0_2 (a0 a1 : Int) : isT ((t a0 a1).path [true, false, false, true]).run = true := by kernel_rfl
theorem c0_3 (a0 a1 : Int) : (t a0 a1).conds [true, false, false, false, true] = [(kM a0 7 == 0), (kM a1 6 == 0), (kM a1 6 == 1), (kM a1 6 == 2), (kM a1 6 == 3)] := by kernel_rfl
theorem r0_3 (a0 a1 : Int) : isT ((t a0 a1).path [true, false, false, false, true]).run = true := by kernel_rfl
theorem c0_4 (a0 a1 : Int) : (t a0 a1).conds [true, false, false, false, false, true] = [(kM a0 7 == 0), (kM a1 6 == 0), (kM a1 6 == 1), (kM a1 6 == 2), (kM a1 6 == 3), (kM a1 6 == 4)] := by kernel_rfl
theorem r0_4 (a0 a1 : Int) : isT ((t a0 a1).path [true, false, false, false, false, true]).run = true := by kernel_rfl
theorem c0_5 (a0 a1 : Int) : (t a0 a1).conds [true, false, false, false, false, false, true] = [(kM a0 7 == 0), (kM a1 6 == 0), (kM a1 6 == 1), (kM a1 6 == 2), (kM a1 6 == 3), (kM a1 6 == 4), (kM a1 6 == 5)] := by kernel_rfl
theorem r0_5 (a0 a1 : Int) : isT ((t a0 a1).path [true, false, false, false, false, false, true]).run = true := by kernel_rfl
theorem c1_0 (a0 a1 : Int) : (t a0 a1).conds [false, true, true] = [(kM a0 7 == 0), (kM a0 7 == 1), (kM a1 6 == 0)] := by kernel_rfl
theorem r1_0 (a0 a1 : Int) : isT ((t a0 a1).path [false, true, true]).run = true := by kernel_rfl
theorem c1_1 (a0 a1 : Int) : (t a0 a1).conds [false, true, false, true] = [(kM a0 7 == 0), (kM a0 7 == 1), (kM a1 6 == 0), (kM a1 6 == 1)] := by kernel_rfl
theorem r1_1 (a0 a1 : Int) : isT ((t a0 a1).path [false, true, false, true]).run = true := by kernel_rfl
theorem c1_2 (a0 a1 : Int) : (t a0 a1).conds [false, true, false, false, true] = [(kM a0 7 == 0), (kM a0 7 == 1), (kM a1 6 == 0), (kM a1 6 == 1), (kM a1 6 == 2)] := by kernel_rfl
theorem r1_2 (a0 a1 : Int) : isT ((t a0 a1).path [false, true, false, false, true]).run = true := by kernel_rfl
theorem c1_3 (a0 a1 : Int) : (t a0 a1).conds [false, true, false, false, false, true] = [(kM a0 7 == 0), (kM a0 7 == 1), (kM a1 6 == 0), (kM a1 6 == 1), (kM a1 6 == 2), (kM a1 6 == 3)] := by kernel_rfl
theorem r1_3 (a0 a1 : Int) : isT ((t a0 a1).path [false, true, false, false, false, true]).run = true := by kernel_rfl
theorem c1_4 (a0 a1 : Int) : (t a0 a1).conds [false, true, false, false, false, false, true] = [(kM a0 7 == 0), (kM a0 7 == 1), (kM a1 6 == 0), (kM a1 6 == 1), (kM a1 6 == 2), (kM a1 6 == 3), (kM a1 6 == 4)] := by kernel_rfl
theorem r1_4 (a0 a1 : Int) : isT ((t a0 a1).path [false, true, false, false, false, false, true]).run = true := by kernel_rfl
theorem c1_5 (a0 a1 : Int) : (t a0 a1).conds [false, true, false, false, false, false, false, true] = [(kM a0 7 == 0), (kM a0 7 == 1), (kM a1 6 == 0), (kM a1 6 == 1), (kM a1 6 == 2), (kM a1 6 == 3), (kM a1 6 == 4), (kM a1 6 == 5)] := by kernel_rfl
theorem r1_5 (a0 a1 : Int) : isT ((t a0 a1).path [false, true, false, false, false, false, false, true]).run = true := by kernel_rfl
theorem c2_0 (a0 a1 : Int) : (t a0 a1).conds [false, false, true, true] = [(kM a0 7 == 0), (kM a0 7 == 1), (kM a0 7 == 2), (kM a1 6 == 0)] := by kernel_rfl
theorem r2_0 (a0 a1 : Int) : isT ((t a0 a1).path [false, false, true, true]).run = true := by kernel_rfl
theorem c2_1 (a0 a1 : Int) : (t a0 a1).conds [false, false, true, false, true] = [(kM a0 7 == 0), (kM a0 7 == 1), (kM a0 7 == 2), (kM a1 6 == 0), (kM a1 6 == 1)] := by kernel_rfl
theorem r2_1 (a0 a1 : Int) : isT ((t a0 a1).path [false, false, true, false, true]).run = true := by kernel_rfl
theorem c2_2 (a0 a1 : Int) : (t a0 a1).conds [false, false, true, false, false, true] = [(kM a0 7 == 0), (kM a0 7 == 1), (kM a0 7 == 2), (kM a1 6 == 0), (kM a1 6 == 1), (kM a1 6 == 2)] := by kernel_rfl
theorem r2_2 (a0 a1 : Int) : isT ((t a0 a1).path [false, false, true, false, false, true]).run = true := by kernel_rfl
theorem c2_3 (a0 a1 : Int) : (t a0 a1).conds [false, false, true, false, false, false, true] = [(kM a0 7 == 0), (kM a0 7 == 1), (kM a0 7 == 2), (kM a1 6 == 0), (kM a1 6 == 1), (kM a1 6 == 2), (kM a1 6 == 3)] := by kernel_rfl
theorem r2_3 (a0 a1 : Int) : isT ((t a0 a1).path [false, false, true, false, false, false, true]).run = true := by kernel_rfl
theorem c2_4 (a0 a1 : Int) : (t a0 a1).conds [false, false, true, false, false, false, false, true] = [(kM a0 7 == 0), (kM a0 7 == 1), (kM a0 7 == 2), (kM a1 6 == 0), (kM a1 6 == 1), (kM a1 6 == 2), (kM a1 6 == 3), (kM a1 6 == 4)] := by kernel_rfl
theorem r2_4 (a0 a1 : Int) : isT ((t a0 a1).path [false, false, true, false, false, false, false, true]).run = true := by kernel_rfl
theorem c2_5 (a0 a1 : Int) : (t a0 a1).conds [false, false, true, false, false, false, false, false, true] = [(kM a0 7 == 0), (kM a0 7 == 1), (kM a0 7 == 2), (kM a1 6 == 0), (kM a1 6 == 1), (kM a1 6 == 2), (kM a1 6 == 3), (kM a1 6 == 4), (kM a1 6 == 5)] := by kernel_rfl
theorem r2_5 (a0 a1 : Int) : isT ((t a0 a1).path [false, false, true, false, false, false, false, false, true]).run = true := by kernel_rfl
theorem c3_0 (a0 a1 : Int) : (t a0 a1).conds [false, false, false, true, true] = [(kM a0 7 == 0), (kM a0 7 == 1), (kM a0 7 == 2), (kM a0 7 == 3), (kM a1 6 == 0)] := by kernel_rfl
theorem r3_0 (a0 a1 : Int) : isT ((t a0 a1).path [false, false, false, true, true]).run = true := by kernel_rfl
theorem c3_1 (a0 a1 : Int) : (t a0 a1).conds [false, false, false, true, false, true] = [(kM a0 7 == 0), (kM a0 7 == 1), (kM a0 7 == 2), (kM a0 7 == 3), (kM a1 6 == 0), (kM a1 6 == 1)] := by kernel_rfl
theorem r3_1 (a0 a1 : Int) : isT ((t a0 a1).path [false, false, false, true, false, true]).run = true := by kernel_rfl
theorem c3_2 (a0 a1 : Int) : (t a0 a1).conds [false, false, false, true, false, false, true] = [(kM a0 7 == 0), (kM a0 7 == 1), (kM a0 7 == 2), (kM a0 7 == 3), (kM a1 6 == 0), (kM a1 6 == 1), (kM a1 6 == 2)] := by kernel_rfl
theorem r3_2 (a0 a1 : Int) : isT ((t a0 a1).path [false, false, false, true, false, false, true]).run = true := by kernel_rfl
theorem c3_3 (a0 a1 : Int) : (t a0 a1).conds [false, false, false, true, false, false, false, true] = [(kM a0 7 == 0), (kM a0 7 == 1), (kM a0 7 == 2), (kM a0 7 == 3), (kM a1 6 == 0), (kM a1 6 == 1), (kM a1 6 == 2), (kM a1 6 == 3)] := by kernel_rfl
theorem r3_3 (a0 a1 : Int) : isT ((t a0 a1).path [false, false, false, true, false, false, false, true]).run = true := by kernel_rfl
theorem c3_4 (a0 a1 : Int) : (t a0 a1).conds [false, false, false, true, false, false, false, false, true] = [(kM a0 7 == 0), (kM a0 7 == 1), (kM a0 7 == 2), (kM a0 7 == 3), (kM a1 6 == 0), (kM a1 6 == 1), (kM a1 6 == 2), (kM a1 6 == 3), (kM a1 6 == 4)] := by kernel_rfl
theorem r3_4 (a0 a1 : Int) : isT ((t a0 a1).path [false, false, false, true, false, false, false, false, true]).run = true := by kernel_rfl
theorem c3_5 (a0 a1 : Int) : (t a0 a1).conds [false, false, false, true, false, false, false, false, false, true] = [(kM a0 7 == 0), (kM a0 7 == 1), (kM a0 7 == 2), (kM a0 7 == 3), (kM a1 6 == 0), (kM a1 6 == 1), (kM a1 6 == 2), (kM a1 6 == 3), (kM a1 6 == 4), (kM a1 6 == 5)] := by kernel_rfl
theorem r3_5 (a0 a1 : Int) : isT ((t a0 a1).path [false, false, false, true, false, false, false, false, false, true]).run = true := by kernel_rfl
theorem c4_0 (a0 a1 : Int) : (t a0 a1).conds [false, false, false, false, true, true] = [(kM a0 7 == 0), (kM a0 7 == 1), (kM a0 7 == 2), (kM a0 7 == 3), (kM a0 7 == 4), (kM a1 6 == 0)] := by kernel_rfl
theorem r4_0 (a0 a1 : Int) : isT ((t a0 a1).path [false, false, false, false, true, true]).run = true := by kernel_rfl
theorem c4_1 (a0 a1 : Int) : (t a0 a1).conds [false, false, false, false, true, false, true] = [(kM a0 7 == 0), (kM a0 7 == 1), (kM a0 7 == 2), (kM a0 7 == 3), (kM a0 7 == 4), (kM a1 6 == 0), (kM a1 6 == 1)] := by kernel_rfl
theorem r4_1 (a0 a1 : Int) : isT ((t a0 a1).path [false, false, false, false, true, false, true]).run = true := by kernel_rfl
theorem c4_2 (a0 a1 : Int) : (t a0 a1).conds [false, false, false, false, true, false, false, true] = [(kM a0 7 == 0), (kM a0 7 == 1), (kM a0 7 == 2), (kM a0 7 == 3), (kM a0 7 == 4), (kM a1 6 == 0), (kM a1 6 == 1), (kM a1 6 == 2)] := by kernel_rfl
theorem r4_2 (a0 a1 : Int) : isT ((t a0 a1).path [false, false, false, false, true, false, false, true]).run = true := by kernel_rfl
theorem c4_3 (a0 a1 : Int) : (t a0 a1).conds [false, false, false, false, true, false, false, false, true] = [(kM a0 7 == 0), (kM a0 7 == 1), (kM a0 7 == 2), (kM a0 7 == 3), (kM a0 7 == 4), (kM a1 6 == 0), (kM a1 6 == 1), (kM a1 6 == 2), (kM a1 6 == 3)] := by kernel_rfl
theorem r4_3 (a0 a1 : Int) : isT ((t a0 a1).path [false, false, false, false, true, false, false, false, true]).run = true := by kernel_rfl
theorem c4_4 (a0 a1 : Int) : (t a0 a1).conds [false, false, false, false, true, false, false, false, false, true] = [(kM a0 7 == 0), (kM a0 7 == 1), (kM a0 7 == 2), (kM a0 7 == 3), (kM a0 7 == 4), (kM a1 6 == 0), (kM a1 6 == 1), (kM a1 6 == 2), (kM a1 6 == 3), (kM a1 6 == 4)] := by kernel_rfl
theorem r4_4 (a0 a1 : Int) : isT ((t a0 a1).path [false, false, false, false, true, false, false, false, false, true]).run = true := by kernel_rfl
theorem c4_5 (a0 a1 : Int) : (t a0 a1).conds [false, false, false, false, true, false, false, false, false, false, true] = [(kM a0 7 == 0), (kM a0 7 == 1), (kM a0 7 == 2), (kM a0 7 == 3), (kM a0 7 == 4), (kM a1 6 == 0), (kM a1 6 == 1), (kM a1 6 == 2), (kM a1 6 == 3), (kM a1 6 == 4), (kM a1 6 == 5)] := by kernel_rfl
theorem r4_5 (a0 a1 : Int) : isT ((t a0 a1).path [false, false, false, false, true, false, false, false, false, false, true]).run = true := by kernel_rfl
theorem c5_0 (a0 a1 : Int) : (t a0 a1).conds [false, false, false, false, false, true, true] = [(kM a0 7 == 0), (kM a0 7 == 1), (kM a0 7 == 2), (kM a0 7 == 3), (kM a0 7 == 4), (kM a0 7 == 5), (kM a1 6 == 0)] := by kernel_rfl
theorem r5_0 (a0 a1 : Int) : isT ((t a0 a1).path [false, false, false, false, false, true, true]).run = true := by kernel_rfl
theorem c5_1 (a0 a1 : Int) : (t a0 a1).conds [false, false, false, false, false, true, false, true] = [(kM a0 7 == 0), (kM a0 7 == 1), (kM a0 7 == 2), (kM a0 7 == 3), (kM a0 7 == 4), (kM a0 7 == 5), (kM a1 6 == 0), (kM a1 6 == 1)] := by kernel_rfl
theorem r5_1 (a0 a1 : Int) : isT ((t a0 a1).path [false, false, false, false, false, true, false, true]).run = true := by kernel_rfl
theorem c5_2 (a0 a1 : Int) : (t a0 a1).conds [false, false, false, false, false, true, false, false, true] = [(kM a0 7 == 0), (kM a0 7 == 1), (kM a0 7 == 2), (kM a0 7 == 3), (kM a0 7 == 4), (kM a0 7 == 5), (kM a1 6 == 0), (kM a1 6 == 1), (kM a1 6 == 2)] := by kernel_rfl
theorem r5_2 (a0 a1 : Int) : isT ((t a0 a1).path [false, false, false, false, false, true, false, false, true]).run = true := by kernel_rfl
theorem c5_3 (a0 a1 : Int) : (t a0 a1).conds [false, false, false, false, false, true, false, false, false, true] = [(kM a0 7 == 0), (kM a0 7 == 1), (kM a0 7 == 2), (kM a0 7 == 3), (kM a0 7 == 4), (kM a0 7 == 5), (kM a1 6 == 0), (kM a1 6 == 1), (kM a1 6 == 2), (kM a1 6 == 3)] := by kernel_rfl
theorem r5_3 (a0 a1 : Int) : isT ((t a0 a1).path [false, false, false, false, false, true, false, false, false, true]).run = true := by kernel_rfl
theorem c5_4 (a0 a1 : Int) : (t a0 a1).conds [false, false, false, false, false, true, false, false, false, false, true] = [(kM a0 7 == 0), (kM a0 7 == 1), (kM a0 7 == 2), (kM a0 7 == 3), (kM a0 7 == 4), (kM a0 7 == 5), (kM a1 6 == 0), (kM a1 6 == 1), (kM a1 6 == 2), (kM a1 6 == 3), (kM a1 6 == 4)] := by kernel_rfl
theorem r5_4 (a0 a1 : Int) : isT ((t a0 a1).path [false, false, false, false, false, true, false, false, false, false, true]).run = true := by kernel_rfl
theorem c5_5 (a0 a1 : Int) : (t a0 a1).conds [false, false, false, false, false, true, false, false, false, false, false, true] = [(kM a0 7 == 0), (kM a0 7 == 1), (kM a0 7 == 2), (kM a0 7 == 3), (kM a0 7 == 4), (kM a0 7 == 5), (kM a1 6 == 0), (kM a1 6 == 1), (kM a1 6 == 2), (kM a1 6 == 3), (kM a1 6 == 4), (kM a1 6 == 5)] := by kernel_rfl
theorem r5_5 (a0 a1 : Int) : isT ((t a0 a1).path [false, false, false, false, false, true, false, false, false, false, false, true]).run = true := by kernel_rfl
theorem c6_0 (a0 a1 : Int) : (t a0 a1).conds [false, false, false, false, false, false, true, true] = [(kM a0 7 == 0), (kM a0 7 == 1), (kM a0 7 == 2), (kM a0 7 == 3), (kM a0 7 == 4), (kM a0 7 == 5), (kM a0 7 == 6), (kM a1 6 == 0)] := by kernel_rfl
theorem r6_0 (a0 a1 : Int) : isT ((t a0 a1).path [false, false, false, false, false, false, true, true]).run = true := by kernel_rfl
theorem c6_1 (a0 a1 : Int) : (t a0 a1).conds [false, false, false, false, false, false, true, false, true] = [(kM a0 7 == 0), (kM a0 7 == 1), (kM a0 7 == 2), (kM a0 7 == 3), (kM a0 7 == 4), (kM a0 7 == 5), (kM a0 7 == 6), (kM a1 6 == 0), (kM a1 6 == 1)] := by kernel_rfl
theorem r6_1 (a0 a1 : Int) : isT ((t a0 a1).path [false, false, false, false, false, false, true, false, true]).run = true := by kernel_rfl
theorem c6_2 (a0 a1 : Int) : (t a0 a1).conds [false, false, false, false, false, false, true, false, false, true] = [(kM a0 7 == 0), (kM a0 7 == 1), (kM a0 7 == 2), (kM a0 7 == 3), (kM a0 7 == 4), (kM a0 7 == 5), (kM a0 7 == 6), (kM a1 6 == 0), (kM a1 6 == 1), (kM a1 6 == 2)] := by kernel_rfl
theorem r6_2 (a0 a1 : Int) : isT ((t a0 a1).path [false, false, false, false, false, false, true, false, false, true]).run = true := by kernel_rfl
theorem c6_3 (a0 a1 : Int) : (t a0 a1).conds [false, false, false, false, false, false, true, false, false, false, true] = [(kM a0 7 == 0), (kM a0 7 == 1), (kM a0 7 == 2), (kM a0 7 == 3), (kM a0 7 == 4), (kM a0 7 == 5), (kM a0 7 == 6), (kM a1 6 == 0), (kM a1 6 == 1), (kM a1 6 == 2), (kM a1 6 == 3)] := by kernel_rfl
theorem r6_3 (a0 a1 : Int) : isT ((t a0 a1).path [false, false, false, false, false, false, true, false, false, false, true]).run = true := by kernel_rfl
theorem c6_4 (a0 a1 : Int) : (t a0 a1).conds [false, false, false, false, false, false, true, false, false, false, false, true] = [(kM a0 7 == 0), (kM a0 7 == 1), (kM a0 7 == 2), (kM a0 7 == 3), (kM a0 7 == 4), (kM a0 7 == 5), (kM a0 7 == 6), (kM a1 6 == 0), (kM a1 6 == 1), (kM a1 6 == 2), (kM a1 6 == 3), (kM a1 6 == 4)] := by kernel_rfl
theorem r6_4 (a0 a1 : Int) : isT ((t a0 a1).path [false, false, false, false, false, false, true, false, false, false, false, true]).run = true := by kernel_rfl
theorem c6_5 (a0 a1 : Int) : (t a0 a1).conds [false, false, false, false, false, false, true, false, false, false, false, false, true] = [(kM a0 7 == 0), (kM a0 7 == 1), (kM a0 7 == 2), (kM a0 7 == 3), (kM a0 7 == 4), (kM a0 7 == 5), (kM a0 7 == 6), (kM a1 6 == 0), (kM a1 6 == 1), (kM a1 6 == 2), (kM a1 6 == 3), (kM a1 6 == 4), (kM a1 6 == 5)] := by kernel_rfl
theorem r6_5 (a0 a1 : Int) : isT ((t a0 a1).path [false, false, false, false, false, false, true, false, false, false, false, false, true]).run = true := by kernel_rfl
end Go.Proofs.Ytnlfphlmlklofaa.ListChains
