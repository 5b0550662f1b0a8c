/-
  MemCounts: the first statement of its loop.
-/
import Derived.Test.YtnlfphlmlklofaaTMemCounts
namespace Go.Proofs.Ytnlfphlmlklofaa.MemCounts
open Go Go.RowKit Go.Proofs.Ytnlfphlmlklofaa.Eng
set_option linter.unusedVariables false
set_option linter.unusedSimpArgs false
set_option linter.unusedSectionVars false
set_option maxRecDepth 20000
--TACS "simp [*]", "(simp; omega)"

section
variable (n : Int) (nl : Nat) (N : Nat) (ls : List (List Int)) (ws : List (List Int)) (x7 : SV) (x8 : SV) (x9 : SV) (x10 : SV) (x11 : SV) (x12 : SV) (x13 : SV) (x14 : SV) (x15 : SV) (js : Nat → SV)
noncomputable abbrev init_t : Tr (Lf MObj) := ((ev (codeAt body [true, true, true, true, true, true, false, false]) ⟨[.v (ii n), .v (.an 0 (.sym nl)), .t [], .t [], .v (.bool (.lit false)), .v (.bool (.lit true)), .v (.ptr 2 0), x7, x8, x9, x10, x11, x12, x13, x14, x15] ++ junk js 166 16, hA ls ws N 0 0, 3, []⟩).vmap (leaf 16))
noncomputable abbrev init_l0 : Lf MObj := (Lf.mk (VX.normal) [.s (.one (.int .i64 (.sym n))), .s (.one (VV.an 0 (SN.sym nl))), SV.t [], SV.t [], .s (.one (.bool (.lit false))), .s (.one (.bool (.lit true))), .s (.one (.ptr 2 0)), x7, x8, x9, .s (.one (.int .i64 (.lit 0))), x11, x12, x13, x14, x15] 182 [(0, some (VObj.rotab [CK.int IntKind.i64, CK.int IntKind.i64, CK.int IntKind.u64, CK.int IntKind.u64, CK.int IntKind.u64, CK.int IntKind.u64] ls)), (1, some (VObj.tab [CK.int IntKind.u64] ws 28)), (2, some (.cells [VV.ts 1 (SN.lit 0) (SN.sym N) none, .int .i64 (.sym 0), .int .i64 (.sym 0), .nils] 81))] 3 [])
theorem init_c0 : (init_t n nl N ls ws x7 x8 x9 x10 x11 x12 x13 x14 x15 js).conds [] = [] := by kernel_rfl
theorem init_p0 : (init_t n nl N ls ws x7 x8 x9 x10 x11 x12 x13 x14 x15 js).path [] = .ok (init_l0 n nl N ls ws x7 x8 x9 x11 x12 x13 x14 x15) := by kernel_rfl
theorem init (h : 0 ≤ nl) : (init_t n nl N ls ws x7 x8 x9 x10 x11 x12 x13 x14 x15 js).run = Tr.run (.ok (init_l0 n nl N ls ws x7 x8 x9 x11 x12 x13 x14 x15)) := by
  exact Tr.run_at (init_c0 n nl N ls ws x7 x8 x9 x10 x11 x12 x13 x14 x15 js) rfl (init_p0 n nl N ls ws x7 x8 x9 x10 x11 x12 x13 x14 x15 js)
end
end Go.Proofs.Ytnlfphlmlklofaa.MemCounts
