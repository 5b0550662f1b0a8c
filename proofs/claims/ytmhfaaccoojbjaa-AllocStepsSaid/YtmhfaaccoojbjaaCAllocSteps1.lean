/-
  AllocSteps: printed by genAS.py: case by case.
-/
import Derived.Test.YtmhfaaccoojbjaaEvLC10
namespace Go.Proofs.Ytmhfaaccoojbjaa.AllocSteps
open Go Go.RowKit Go.Proofs.Ytmhfaaccoojbjaa.Eng
set_option linter.unusedVariables false
set_option linter.unusedSimpArgs false
set_option maxRecDepth 100000
namespace K1
noncomputable abbrev t (a0 : Int) (nl : Nat) (ls : List (List Int)) : Tr SV := (evF Try.prog (lookH MObj LC10.tabL) 100 20 7 [.v (ii a0), .v (.an 0 (.sym nl))] [(0, some (.rotab [.int .u64] ls))] 1).vmap (·.val)

theorem k2 (a0 : Int) (nl : Nat) (ls : List (List Int)) : (t a0 nl ls).conds [false, false, true] = [(kM a0 8 == 0), (kM a0 8 == 1), (kM a0 8 == 2)] := by kernel_rfl
theorem c2_0 (a0 : Int) (nl : Nat) (ls : List (List Int)) : (((t a0 nl ls).path [false, false, true]).skip 58).conds [false] = [decide ((0 : Int) < nl)] := by kernel_rfl
theorem r2_0 (a0 : Int) (nl : Nat) (ls : List (List Int)) : isT ((((t a0 nl ls).path [false, false, true]).skip 58).path [false]).run = true := by kernel_rfl
theorem d2_0 (a0 : Int) (nl : Nat) (ls : List (List Int)) : (((t a0 nl ls).path [false, false, true]).skip 58).conds [true, true, true] = [decide ((0 : Int) < nl), (decide ((0 : Int) ≤ 0) && decide ((0 : Int) < nl)), decide (0 < ls.length)] := by kernel_rfl
theorem c2_1 (a0 : Int) (nl : Nat) (ls : List (List Int)) : (((((t a0 nl ls).path [false, false, true]).skip 58).path [true, true, true]).skip 2).conds [false] = [decide ((1 : Int) < nl)] := by kernel_rfl
theorem r2_1 (a0 : Int) (nl : Nat) (ls : List (List Int)) : isT ((((((t a0 nl ls).path [false, false, true]).skip 58).path [true, true, true]).skip 2).path [false]).run = true := by kernel_rfl
theorem d2_1 (a0 : Int) (nl : Nat) (ls : List (List Int)) : (((((t a0 nl ls).path [false, false, true]).skip 58).path [true, true, true]).skip 2).conds [true, true, true] = [decide ((1 : Int) < nl), (decide ((0 : Int) ≤ 1) && decide ((1 : Int) < nl)), decide (1 < ls.length)] := by kernel_rfl
theorem c2_2 (a0 : Int) (nl : Nat) (ls : List (List Int)) : (((((((t a0 nl ls).path [false, false, true]).skip 58).path [true, true, true]).skip 2).path [true, true, true]).skip 2).conds [false] = [decide ((2 : Int) < nl)] := by kernel_rfl
theorem r2_2 (a0 : Int) (nl : Nat) (ls : List (List Int)) : isT ((((((((t a0 nl ls).path [false, false, true]).skip 58).path [true, true, true]).skip 2).path [true, true, true]).skip 2).path [false]).run = true := by kernel_rfl
theorem d2_2 (a0 : Int) (nl : Nat) (ls : List (List Int)) : (((((((t a0 nl ls).path [false, false, true]).skip 58).path [true, true, true]).skip 2).path [true, true, true]).skip 2).conds [true] = [decide ((2 : Int) < nl)] := by kernel_rfl
theorem s2_2 (a0 : Int) (nl : Nat) (ls : List (List Int)) : isT ((((((((t a0 nl ls).path [false, false, true]).skip 58).path [true, true, true]).skip 2).path [true, true, true]).skip 2).path [true]).run = true := by kernel_rfl
theorem k5 (a0 : Int) (nl : Nat) (ls : List (List Int)) : (t a0 nl ls).conds [false, false, false, false, false, true] = [(kM a0 8 == 0), (kM a0 8 == 1), (kM a0 8 == 2), (kM a0 8 == 3), (kM a0 8 == 4), (kM a0 8 == 5)] := by kernel_rfl
theorem c5_0 (a0 : Int) (nl : Nat) (ls : List (List Int)) : (((t a0 nl ls).path [false, false, false, false, false, true]).skip 48).conds [false] = [decide ((0 : Int) < nl)] := by kernel_rfl
theorem r5_0 (a0 : Int) (nl : Nat) (ls : List (List Int)) : isT ((((t a0 nl ls).path [false, false, false, false, false, true]).skip 48).path [false]).run = true := by kernel_rfl
theorem d5_0 (a0 : Int) (nl : Nat) (ls : List (List Int)) : (((t a0 nl ls).path [false, false, false, false, false, true]).skip 48).conds [true, true, true] = [decide ((0 : Int) < nl), (decide ((0 : Int) ≤ 0) && decide ((0 : Int) < nl)), decide (0 < ls.length)] := by kernel_rfl
theorem c5_1 (a0 : Int) (nl : Nat) (ls : List (List Int)) : (((((t a0 nl ls).path [false, false, false, false, false, true]).skip 48).path [true, true, true]).skip 2).conds [false] = [decide ((1 : Int) < nl)] := by kernel_rfl
theorem r5_1 (a0 : Int) (nl : Nat) (ls : List (List Int)) : isT ((((((t a0 nl ls).path [false, false, false, false, false, true]).skip 48).path [true, true, true]).skip 2).path [false]).run = true := by kernel_rfl
theorem d5_1 (a0 : Int) (nl : Nat) (ls : List (List Int)) : (((((t a0 nl ls).path [false, false, false, false, false, true]).skip 48).path [true, true, true]).skip 2).conds [true, true, true] = [decide ((1 : Int) < nl), (decide ((0 : Int) ≤ 1) && decide ((1 : Int) < nl)), decide (1 < ls.length)] := by kernel_rfl
theorem c5_2 (a0 : Int) (nl : Nat) (ls : List (List Int)) : (((((((t a0 nl ls).path [false, false, false, false, false, true]).skip 48).path [true, true, true]).skip 2).path [true, true, true]).skip 2).conds [false] = [decide ((2 : Int) < nl)] := by kernel_rfl
theorem r5_2 (a0 : Int) (nl : Nat) (ls : List (List Int)) : isT ((((((((t a0 nl ls).path [false, false, false, false, false, true]).skip 48).path [true, true, true]).skip 2).path [true, true, true]).skip 2).path [false]).run = true := by kernel_rfl
theorem d5_2 (a0 : Int) (nl : Nat) (ls : List (List Int)) : (((((((t a0 nl ls).path [false, false, false, false, false, true]).skip 48).path [true, true, true]).skip 2).path [true, true, true]).skip 2).conds [true, true, true] = [decide ((2 : Int) < nl), (decide ((0 : Int) ≤ 2) && decide ((2 : Int) < nl)), decide (2 < ls.length)] := by kernel_rfl
theorem c5_3 (a0 : Int) (nl : Nat) (ls : List (List Int)) : (((((((((t a0 nl ls).path [false, false, false, false, false, true]).skip 48).path [true, true, true]).skip 2).path [true, true, true]).skip 2).path [true, true, true]).skip 2).conds [false] = [decide ((3 : Int) < nl)] := by kernel_rfl
theorem r5_3 (a0 : Int) (nl : Nat) (ls : List (List Int)) : isT ((((((((((t a0 nl ls).path [false, false, false, false, false, true]).skip 48).path [true, true, true]).skip 2).path [true, true, true]).skip 2).path [true, true, true]).skip 2).path [false]).run = true := by kernel_rfl
theorem d5_3 (a0 : Int) (nl : Nat) (ls : List (List Int)) : (((((((((t a0 nl ls).path [false, false, false, false, false, true]).skip 48).path [true, true, true]).skip 2).path [true, true, true]).skip 2).path [true, true, true]).skip 2).conds [true, true, true] = [decide ((3 : Int) < nl), (decide ((0 : Int) ≤ 3) && decide ((3 : Int) < nl)), decide (3 < ls.length)] := by kernel_rfl
theorem c5_4 (a0 : Int) (nl : Nat) (ls : List (List Int)) : (((((((((((t a0 nl ls).path [false, false, false, false, false, true]).skip 48).path [true, true, true]).skip 2).path [true, true, true]).skip 2).path [true, true, true]).skip 2).path [true, true, true]).skip 2).conds [false] = [decide ((4 : Int) < nl)] := by kernel_rfl
theorem r5_4 (a0 : Int) (nl : Nat) (ls : List (List Int)) : isT ((((((((((((t a0 nl ls).path [false, false, false, false, false, true]).skip 48).path [true, true, true]).skip 2).path [true, true, true]).skip 2).path [true, true, true]).skip 2).path [true, true, true]).skip 2).path [false]).run = true := by kernel_rfl
theorem d5_4 (a0 : Int) (nl : Nat) (ls : List (List Int)) : (((((((((((t a0 nl ls).path [false, false, false, false, false, true]).skip 48).path [true, true, true]).skip 2).path [true, true, true]).skip 2).path [true, true, true]).skip 2).path [true, true, true]).skip 2).conds [true, true, true] = [decide ((4 : Int) < nl), (decide ((0 : Int) ≤ 4) && decide ((4 : Int) < nl)), decide (4 < ls.length)] := by kernel_rfl
theorem c5_5 (a0 : Int) (nl : Nat) (ls : List (List Int)) : (((((((((((((t a0 nl ls).path [false, false, false, false, false, true]).skip 48).path [true, true, true]).skip 2).path [true, true, true]).skip 2).path [true, true, true]).skip 2).path [true, true, true]).skip 2).path [true, true, true]).skip 2).conds [false] = [decide ((5 : Int) < nl)] := by kernel_rfl
theorem r5_5 (a0 : Int) (nl : Nat) (ls : List (List Int)) : isT ((((((((((((((t a0 nl ls).path [false, false, false, false, false, true]).skip 48).path [true, true, true]).skip 2).path [true, true, true]).skip 2).path [true, true, true]).skip 2).path [true, true, true]).skip 2).path [true, true, true]).skip 2).path [false]).run = true := by kernel_rfl
theorem d5_5 (a0 : Int) (nl : Nat) (ls : List (List Int)) : (((((((((((((t a0 nl ls).path [false, false, false, false, false, true]).skip 48).path [true, true, true]).skip 2).path [true, true, true]).skip 2).path [true, true, true]).skip 2).path [true, true, true]).skip 2).path [true, true, true]).skip 2).conds [true] = [decide ((5 : Int) < nl)] := by kernel_rfl
theorem s5_5 (a0 : Int) (nl : Nat) (ls : List (List Int)) : isT ((((((((((((((t a0 nl ls).path [false, false, false, false, false, true]).skip 48).path [true, true, true]).skip 2).path [true, true, true]).skip 2).path [true, true, true]).skip 2).path [true, true, true]).skip 2).path [true, true, true]).skip 2).path [true]).run = true := by kernel_rfl
end K1
end Go.Proofs.Ytmhfaaccoojbjaa.AllocSteps
