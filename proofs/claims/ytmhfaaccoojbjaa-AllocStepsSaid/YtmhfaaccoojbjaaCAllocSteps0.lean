/-
  AllocSteps: printed by genAS.py: case by case.
-/
import Derived.Test.YtmhfaaccoojbjaaEvLC10
namespace Go.Proofs.Ytmhfaaccoojbjaa.AllocSteps
open Go Go.RowKit Go.Proofs.Ytmhfaaccoojbjaa.Eng
set_option linter.unusedVariables false
set_option linter.unusedSimpArgs false
set_option maxRecDepth 100000
namespace K0
noncomputable abbrev t (a0 : Int) (nl : Nat) (ls : List (List Int)) : Tr SV := (evF Try.prog (lookH MObj LC10.tabL) 100 20 7 [.v (ii a0), .v (.an 0 (.sym nl))] [(0, some (.rotab [.int .u64] ls))] 1).vmap (·.val)

theorem k0 (a0 : Int) (nl : Nat) (ls : List (List Int)) : (t a0 nl ls).conds [true] = [(kM a0 8 == 0)] := by kernel_rfl
theorem c0_0 (a0 : Int) (nl : Nat) (ls : List (List Int)) : (((t a0 nl ls).path [true]).skip 54).conds [false] = [decide ((0 : Int) < nl)] := by kernel_rfl
theorem r0_0 (a0 : Int) (nl : Nat) (ls : List (List Int)) : isT ((((t a0 nl ls).path [true]).skip 54).path [false]).run = true := by kernel_rfl
theorem d0_0 (a0 : Int) (nl : Nat) (ls : List (List Int)) : (((t a0 nl ls).path [true]).skip 54).conds [true] = [decide ((0 : Int) < nl)] := by kernel_rfl
theorem s0_0 (a0 : Int) (nl : Nat) (ls : List (List Int)) : isT ((((t a0 nl ls).path [true]).skip 54).path [true]).run = true := by kernel_rfl
theorem k1 (a0 : Int) (nl : Nat) (ls : List (List Int)) : (t a0 nl ls).conds [false, true] = [(kM a0 8 == 0), (kM a0 8 == 1)] := by kernel_rfl
theorem c1_0 (a0 : Int) (nl : Nat) (ls : List (List Int)) : (((t a0 nl ls).path [false, true]).skip 56).conds [false] = [decide ((0 : Int) < nl)] := by kernel_rfl
theorem r1_0 (a0 : Int) (nl : Nat) (ls : List (List Int)) : isT ((((t a0 nl ls).path [false, true]).skip 56).path [false]).run = true := by kernel_rfl
theorem d1_0 (a0 : Int) (nl : Nat) (ls : List (List Int)) : (((t a0 nl ls).path [false, true]).skip 56).conds [true, true, true] = [decide ((0 : Int) < nl), (decide ((0 : Int) ≤ 0) && decide ((0 : Int) < nl)), decide (0 < ls.length)] := by kernel_rfl
theorem c1_1 (a0 : Int) (nl : Nat) (ls : List (List Int)) : (((((t a0 nl ls).path [false, true]).skip 56).path [true, true, true]).skip 2).conds [false] = [decide ((1 : Int) < nl)] := by kernel_rfl
theorem r1_1 (a0 : Int) (nl : Nat) (ls : List (List Int)) : isT ((((((t a0 nl ls).path [false, true]).skip 56).path [true, true, true]).skip 2).path [false]).run = true := by kernel_rfl
theorem d1_1 (a0 : Int) (nl : Nat) (ls : List (List Int)) : (((((t a0 nl ls).path [false, true]).skip 56).path [true, true, true]).skip 2).conds [true] = [decide ((1 : Int) < nl)] := by kernel_rfl
theorem s1_1 (a0 : Int) (nl : Nat) (ls : List (List Int)) : isT ((((((t a0 nl ls).path [false, true]).skip 56).path [true, true, true]).skip 2).path [true]).run = true := by kernel_rfl
theorem k4 (a0 : Int) (nl : Nat) (ls : List (List Int)) : (t a0 nl ls).conds [false, false, false, false, true] = [(kM a0 8 == 0), (kM a0 8 == 1), (kM a0 8 == 2), (kM a0 8 == 3), (kM a0 8 == 4)] := by kernel_rfl
theorem c4_0 (a0 : Int) (nl : Nat) (ls : List (List Int)) : (((t a0 nl ls).path [false, false, false, false, true]).skip 46).conds [false] = [decide ((0 : Int) < nl)] := by kernel_rfl
theorem r4_0 (a0 : Int) (nl : Nat) (ls : List (List Int)) : isT ((((t a0 nl ls).path [false, false, false, false, true]).skip 46).path [false]).run = true := by kernel_rfl
theorem d4_0 (a0 : Int) (nl : Nat) (ls : List (List Int)) : (((t a0 nl ls).path [false, false, false, false, true]).skip 46).conds [true, true, true] = [decide ((0 : Int) < nl), (decide ((0 : Int) ≤ 0) && decide ((0 : Int) < nl)), decide (0 < ls.length)] := by kernel_rfl
theorem c4_1 (a0 : Int) (nl : Nat) (ls : List (List Int)) : (((((t a0 nl ls).path [false, false, false, false, true]).skip 46).path [true, true, true]).skip 2).conds [false] = [decide ((1 : Int) < nl)] := by kernel_rfl
theorem r4_1 (a0 : Int) (nl : Nat) (ls : List (List Int)) : isT ((((((t a0 nl ls).path [false, false, false, false, true]).skip 46).path [true, true, true]).skip 2).path [false]).run = true := by kernel_rfl
theorem d4_1 (a0 : Int) (nl : Nat) (ls : List (List Int)) : (((((t a0 nl ls).path [false, false, false, false, true]).skip 46).path [true, true, true]).skip 2).conds [true, true, true] = [decide ((1 : Int) < nl), (decide ((0 : Int) ≤ 1) && decide ((1 : Int) < nl)), decide (1 < ls.length)] := by kernel_rfl
theorem c4_2 (a0 : Int) (nl : Nat) (ls : List (List Int)) : (((((((t a0 nl ls).path [false, false, false, false, true]).skip 46).path [true, true, true]).skip 2).path [true, true, true]).skip 2).conds [false] = [decide ((2 : Int) < nl)] := by kernel_rfl
theorem r4_2 (a0 : Int) (nl : Nat) (ls : List (List Int)) : isT ((((((((t a0 nl ls).path [false, false, false, false, true]).skip 46).path [true, true, true]).skip 2).path [true, true, true]).skip 2).path [false]).run = true := by kernel_rfl
theorem d4_2 (a0 : Int) (nl : Nat) (ls : List (List Int)) : (((((((t a0 nl ls).path [false, false, false, false, true]).skip 46).path [true, true, true]).skip 2).path [true, true, true]).skip 2).conds [true, true, true] = [decide ((2 : Int) < nl), (decide ((0 : Int) ≤ 2) && decide ((2 : Int) < nl)), decide (2 < ls.length)] := by kernel_rfl
theorem c4_3 (a0 : Int) (nl : Nat) (ls : List (List Int)) : (((((((((t a0 nl ls).path [false, false, false, false, true]).skip 46).path [true, true, true]).skip 2).path [true, true, true]).skip 2).path [true, true, true]).skip 2).conds [false] = [decide ((3 : Int) < nl)] := by kernel_rfl
theorem r4_3 (a0 : Int) (nl : Nat) (ls : List (List Int)) : isT ((((((((((t a0 nl ls).path [false, false, false, false, true]).skip 46).path [true, true, true]).skip 2).path [true, true, true]).skip 2).path [true, true, true]).skip 2).path [false]).run = true := by kernel_rfl
theorem d4_3 (a0 : Int) (nl : Nat) (ls : List (List Int)) : (((((((((t a0 nl ls).path [false, false, false, false, true]).skip 46).path [true, true, true]).skip 2).path [true, true, true]).skip 2).path [true, true, true]).skip 2).conds [true, true, true] = [decide ((3 : Int) < nl), (decide ((0 : Int) ≤ 3) && decide ((3 : Int) < nl)), decide (3 < ls.length)] := by kernel_rfl
theorem c4_4 (a0 : Int) (nl : Nat) (ls : List (List Int)) : (((((((((((t a0 nl ls).path [false, false, false, false, true]).skip 46).path [true, true, true]).skip 2).path [true, true, true]).skip 2).path [true, true, true]).skip 2).path [true, true, true]).skip 2).conds [false] = [decide ((4 : Int) < nl)] := by kernel_rfl
theorem r4_4 (a0 : Int) (nl : Nat) (ls : List (List Int)) : isT ((((((((((((t a0 nl ls).path [false, false, false, false, true]).skip 46).path [true, true, true]).skip 2).path [true, true, true]).skip 2).path [true, true, true]).skip 2).path [true, true, true]).skip 2).path [false]).run = true := by kernel_rfl
theorem d4_4 (a0 : Int) (nl : Nat) (ls : List (List Int)) : (((((((((((t a0 nl ls).path [false, false, false, false, true]).skip 46).path [true, true, true]).skip 2).path [true, true, true]).skip 2).path [true, true, true]).skip 2).path [true, true, true]).skip 2).conds [true] = [decide ((4 : Int) < nl)] := by kernel_rfl
theorem s4_4 (a0 : Int) (nl : Nat) (ls : List (List Int)) : isT ((((((((((((t a0 nl ls).path [false, false, false, false, true]).skip 46).path [true, true, true]).skip 2).path [true, true, true]).skip 2).path [true, true, true]).skip 2).path [true, true, true]).skip 2).path [true]).run = true := by kernel_rfl
end K0
end Go.Proofs.Ytmhfaaccoojbjaa.AllocSteps
