/-
  next of flitref16 (which root is next): what its pieces come to.
-/
import Derived.Test.YtdongoplhnpdiaaEvL16
import Derived.Test.YtdongoplhnpdiaaEngZd
namespace Go.Proofs.Ytdongoplhnpdiaa.Next
open Go Go.RowKit Go.Proofs.Ytdongoplhnpdiaa.Eng
set_option linter.unusedVariables false
set_option linter.unusedSimpArgs false
set_option linter.unusedSectionVars false
set_option maxRecDepth 20000
noncomputable abbrev body : Code := Try.f44.body.get!
noncomputable abbrev ev (c : Code) : St MObj → Tr (VX × St MObj) := evCode Try.prog (evF Try.prog (lookH MObj L16.tabT) 100 19) 100 c
noncomputable abbrev nt : Nat := Try.f44.ntmps
noncomputable abbrev at' (p : List Bool) : Code := codeAt body ([false, false, false] ++ p)
abbrev rc (N L0 L1 L2 L3 L4 L5 L6 L7 : Int) : List VV := [ii N, ii L0, ii L1, ii L2, ii L3, ii L4, ii L5, ii L6, ii L7]
/-- What is not looked at: eight cells, six cells. -/
structure CC where
  (d0 d1 d2 d3 d4 d5 d8 d9 d10 d11 d12 d13 d15 d16 : VV)
abbrev qc0 (d : CC) (pc : VV) (K mk : Int) (N L0 L1 L2 L3 L4 L5 L6 L7 : Int) (xx : VV) : VObj MObj := .cells ([d.d0, d.d1, d.d2, d.d3, d.d4, d.d5, pc, ii K, d.d8, d.d9, d.d10, d.d11, d.d12, d.d13, ii mk, d.d15, d.d16] ++ rc N L0 L1 L2 L3 L4 L5 L6 L7 ++ [xx]) 75
theorem wrap64 (x : Int) : IntKind.i64.wrap x = (x + 9223372036854775808) % 18446744073709551616 - 9223372036854775808 := by
  rw [wrap_i64']
  split <;> omega
--TACS "assumption", "(simp only [W, wrap64, okc_iff, inb_iff, decide_eq_true_eq, Bool.and_eq_true, ne_eq, decide_eq_false_iff_not, Nat.ble_eq, List.length_set]; omega)", "(simp only [W, wrap64, okc_iff, inb_iff, decide_eq_true_eq, decide_eq_false_iff_not, beq_iff_eq, beq_eq_false_iff_ne, Bool.and_eq_true] at *; omega)", "decide", "simp [*]"
--SHORT

section
variable (K : Int) (mk : Int) (N : Int) (L0 : Int) (L1 : Int) (L2 : Int) (L3 : Int) (L4 : Int) (L5 : Int) (L6 : Int) (L7 : Int) (d : CC) (pp : VV) (xx : VV) (oz : Option (VObj MObj)) (s1 : SV) (js : Nat → SV)
noncomputable abbrev g_t : Tr (Lf MObj) := ((ev (at' [false]) ⟨[.v (.ptr 0 0), s1] ++ junk js 70 2, [(0, some (qc0 d pp K mk N L0 L1 L2 L3 L4 L5 L6 L7 xx)), (1, oz)], 2, []⟩).vmap (leaf 2))
noncomputable abbrev g_l0 : Lf MObj := (Lf.mk (VX.normal) [.s (.one (.ptr 0 0)), s1] 72 [(0, some (.cells [d.1, d.2, d.3, d.4, d.5, d.6, pp, .int .i64 (.sym K), d.7, d.8, d.9, d.10, d.11, d.12, .int .i64 (.sym mk), d.13, d.14, .int .i64 (.sym N), .int .i64 (.sym L0), .int .i64 (.sym L1), .int .i64 (.sym L2), .int .i64 (.sym L3), .int .i64 (.sym L4), .int .i64 (.sym L5), .int .i64 (.sym L6), .int .i64 (.sym L7), xx] 75)), (1, oz)] 2 [])
theorem g_c0 : (g_t K mk N L0 L1 L2 L3 L4 L5 L6 L7 d pp xx oz s1 js).conds [true, true, true] = [decide (K < N), K == 7, L7 == 0] := by kernel_rfl
theorem g_p0 : (g_t K mk N L0 L1 L2 L3 L4 L5 L6 L7 d pp xx oz s1 js).path [true, true, true] = .ok (g_l0 K mk N L0 L1 L2 L3 L4 L5 L6 L7 d pp xx oz s1) := by kernel_rfl
noncomputable abbrev g_l1 : Lf MObj := (Lf.mk (VX.exit 0) [.s (.one (.ptr 0 0)), s1] 72 [(0, some (.cells [d.1, d.2, d.3, d.4, d.5, d.6, pp, .int .i64 (.sym K), d.7, d.8, d.9, d.10, d.11, d.12, .int .i64 (.sym mk), d.13, d.14, .int .i64 (.sym N), .int .i64 (.sym L0), .int .i64 (.sym L1), .int .i64 (.sym L2), .int .i64 (.sym L3), .int .i64 (.sym L4), .int .i64 (.sym L5), .int .i64 (.sym L6), .int .i64 (.sym L7), xx] 75)), (1, oz)] 2 [])
theorem g_c1 : (g_t K mk N L0 L1 L2 L3 L4 L5 L6 L7 d pp xx oz s1 js).conds [true, true, false] = [decide (K < N), K == 7, L7 == 0] := by kernel_rfl
theorem g_p1 : (g_t K mk N L0 L1 L2 L3 L4 L5 L6 L7 d pp xx oz s1 js).path [true, true, false] = .ok (g_l1 K mk N L0 L1 L2 L3 L4 L5 L6 L7 d pp xx oz s1) := by kernel_rfl
noncomputable abbrev g_l2 : Lf MObj := (Lf.mk (VX.normal) [.s (.one (.ptr 0 0)), s1] 72 [(0, some (.cells [d.1, d.2, d.3, d.4, d.5, d.6, pp, .int .i64 (.sym K), d.7, d.8, d.9, d.10, d.11, d.12, .int .i64 (.sym mk), d.13, d.14, .int .i64 (.sym N), .int .i64 (.sym L0), .int .i64 (.sym L1), .int .i64 (.sym L2), .int .i64 (.sym L3), .int .i64 (.sym L4), .int .i64 (.sym L5), .int .i64 (.sym L6), .int .i64 (.sym L7), xx] 75)), (1, oz)] 2 [])
theorem g_c2 : (g_t K mk N L0 L1 L2 L3 L4 L5 L6 L7 d pp xx oz s1 js).conds [true, false, true, true] = [decide (K < N), K == 7, K == 6, L6 == 0] := by kernel_rfl
theorem g_p2 : (g_t K mk N L0 L1 L2 L3 L4 L5 L6 L7 d pp xx oz s1 js).path [true, false, true, true] = .ok (g_l2 K mk N L0 L1 L2 L3 L4 L5 L6 L7 d pp xx oz s1) := by kernel_rfl
noncomputable abbrev g_l3 : Lf MObj := (Lf.mk (VX.exit 0) [.s (.one (.ptr 0 0)), s1] 72 [(0, some (.cells [d.1, d.2, d.3, d.4, d.5, d.6, pp, .int .i64 (.sym K), d.7, d.8, d.9, d.10, d.11, d.12, .int .i64 (.sym mk), d.13, d.14, .int .i64 (.sym N), .int .i64 (.sym L0), .int .i64 (.sym L1), .int .i64 (.sym L2), .int .i64 (.sym L3), .int .i64 (.sym L4), .int .i64 (.sym L5), .int .i64 (.sym L6), .int .i64 (.sym L7), xx] 75)), (1, oz)] 2 [])
theorem g_c3 : (g_t K mk N L0 L1 L2 L3 L4 L5 L6 L7 d pp xx oz s1 js).conds [true, false, true, false] = [decide (K < N), K == 7, K == 6, L6 == 0] := by kernel_rfl
theorem g_p3 : (g_t K mk N L0 L1 L2 L3 L4 L5 L6 L7 d pp xx oz s1 js).path [true, false, true, false] = .ok (g_l3 K mk N L0 L1 L2 L3 L4 L5 L6 L7 d pp xx oz s1) := by kernel_rfl
noncomputable abbrev g_l4 : Lf MObj := (Lf.mk (VX.normal) [.s (.one (.ptr 0 0)), s1] 72 [(0, some (.cells [d.1, d.2, d.3, d.4, d.5, d.6, pp, .int .i64 (.sym K), d.7, d.8, d.9, d.10, d.11, d.12, .int .i64 (.sym mk), d.13, d.14, .int .i64 (.sym N), .int .i64 (.sym L0), .int .i64 (.sym L1), .int .i64 (.sym L2), .int .i64 (.sym L3), .int .i64 (.sym L4), .int .i64 (.sym L5), .int .i64 (.sym L6), .int .i64 (.sym L7), xx] 75)), (1, oz)] 2 [])
theorem g_c4 : (g_t K mk N L0 L1 L2 L3 L4 L5 L6 L7 d pp xx oz s1 js).conds [true, false, false, true, true] = [decide (K < N), K == 7, K == 6, K == 5, L5 == 0] := by kernel_rfl
theorem g_p4 : (g_t K mk N L0 L1 L2 L3 L4 L5 L6 L7 d pp xx oz s1 js).path [true, false, false, true, true] = .ok (g_l4 K mk N L0 L1 L2 L3 L4 L5 L6 L7 d pp xx oz s1) := by kernel_rfl
noncomputable abbrev g_l5 : Lf MObj := (Lf.mk (VX.exit 0) [.s (.one (.ptr 0 0)), s1] 72 [(0, some (.cells [d.1, d.2, d.3, d.4, d.5, d.6, pp, .int .i64 (.sym K), d.7, d.8, d.9, d.10, d.11, d.12, .int .i64 (.sym mk), d.13, d.14, .int .i64 (.sym N), .int .i64 (.sym L0), .int .i64 (.sym L1), .int .i64 (.sym L2), .int .i64 (.sym L3), .int .i64 (.sym L4), .int .i64 (.sym L5), .int .i64 (.sym L6), .int .i64 (.sym L7), xx] 75)), (1, oz)] 2 [])
theorem g_c5 : (g_t K mk N L0 L1 L2 L3 L4 L5 L6 L7 d pp xx oz s1 js).conds [true, false, false, true, false] = [decide (K < N), K == 7, K == 6, K == 5, L5 == 0] := by kernel_rfl
theorem g_p5 : (g_t K mk N L0 L1 L2 L3 L4 L5 L6 L7 d pp xx oz s1 js).path [true, false, false, true, false] = .ok (g_l5 K mk N L0 L1 L2 L3 L4 L5 L6 L7 d pp xx oz s1) := by kernel_rfl
noncomputable abbrev g_l6 : Lf MObj := (Lf.mk (VX.normal) [.s (.one (.ptr 0 0)), s1] 72 [(0, some (.cells [d.1, d.2, d.3, d.4, d.5, d.6, pp, .int .i64 (.sym K), d.7, d.8, d.9, d.10, d.11, d.12, .int .i64 (.sym mk), d.13, d.14, .int .i64 (.sym N), .int .i64 (.sym L0), .int .i64 (.sym L1), .int .i64 (.sym L2), .int .i64 (.sym L3), .int .i64 (.sym L4), .int .i64 (.sym L5), .int .i64 (.sym L6), .int .i64 (.sym L7), xx] 75)), (1, oz)] 2 [])
theorem g_c6 : (g_t K mk N L0 L1 L2 L3 L4 L5 L6 L7 d pp xx oz s1 js).conds [true, false, false, false, true, true] = [decide (K < N), K == 7, K == 6, K == 5, K == 4, L4 == 0] := by kernel_rfl
theorem g_p6 : (g_t K mk N L0 L1 L2 L3 L4 L5 L6 L7 d pp xx oz s1 js).path [true, false, false, false, true, true] = .ok (g_l6 K mk N L0 L1 L2 L3 L4 L5 L6 L7 d pp xx oz s1) := by kernel_rfl
noncomputable abbrev g_l7 : Lf MObj := (Lf.mk (VX.exit 0) [.s (.one (.ptr 0 0)), s1] 72 [(0, some (.cells [d.1, d.2, d.3, d.4, d.5, d.6, pp, .int .i64 (.sym K), d.7, d.8, d.9, d.10, d.11, d.12, .int .i64 (.sym mk), d.13, d.14, .int .i64 (.sym N), .int .i64 (.sym L0), .int .i64 (.sym L1), .int .i64 (.sym L2), .int .i64 (.sym L3), .int .i64 (.sym L4), .int .i64 (.sym L5), .int .i64 (.sym L6), .int .i64 (.sym L7), xx] 75)), (1, oz)] 2 [])
theorem g_c7 : (g_t K mk N L0 L1 L2 L3 L4 L5 L6 L7 d pp xx oz s1 js).conds [true, false, false, false, true, false] = [decide (K < N), K == 7, K == 6, K == 5, K == 4, L4 == 0] := by kernel_rfl
theorem g_p7 : (g_t K mk N L0 L1 L2 L3 L4 L5 L6 L7 d pp xx oz s1 js).path [true, false, false, false, true, false] = .ok (g_l7 K mk N L0 L1 L2 L3 L4 L5 L6 L7 d pp xx oz s1) := by kernel_rfl
noncomputable abbrev g_l8 : Lf MObj := (Lf.mk (VX.normal) [.s (.one (.ptr 0 0)), s1] 72 [(0, some (.cells [d.1, d.2, d.3, d.4, d.5, d.6, pp, .int .i64 (.sym K), d.7, d.8, d.9, d.10, d.11, d.12, .int .i64 (.sym mk), d.13, d.14, .int .i64 (.sym N), .int .i64 (.sym L0), .int .i64 (.sym L1), .int .i64 (.sym L2), .int .i64 (.sym L3), .int .i64 (.sym L4), .int .i64 (.sym L5), .int .i64 (.sym L6), .int .i64 (.sym L7), xx] 75)), (1, oz)] 2 [])
theorem g_c8 : (g_t K mk N L0 L1 L2 L3 L4 L5 L6 L7 d pp xx oz s1 js).conds [true, false, false, false, false, true, true] = [decide (K < N), K == 7, K == 6, K == 5, K == 4, K == 3, L3 == 0] := by kernel_rfl
theorem g_p8 : (g_t K mk N L0 L1 L2 L3 L4 L5 L6 L7 d pp xx oz s1 js).path [true, false, false, false, false, true, true] = .ok (g_l8 K mk N L0 L1 L2 L3 L4 L5 L6 L7 d pp xx oz s1) := by kernel_rfl
noncomputable abbrev g_l9 : Lf MObj := (Lf.mk (VX.exit 0) [.s (.one (.ptr 0 0)), s1] 72 [(0, some (.cells [d.1, d.2, d.3, d.4, d.5, d.6, pp, .int .i64 (.sym K), d.7, d.8, d.9, d.10, d.11, d.12, .int .i64 (.sym mk), d.13, d.14, .int .i64 (.sym N), .int .i64 (.sym L0), .int .i64 (.sym L1), .int .i64 (.sym L2), .int .i64 (.sym L3), .int .i64 (.sym L4), .int .i64 (.sym L5), .int .i64 (.sym L6), .int .i64 (.sym L7), xx] 75)), (1, oz)] 2 [])
theorem g_c9 : (g_t K mk N L0 L1 L2 L3 L4 L5 L6 L7 d pp xx oz s1 js).conds [true, false, false, false, false, true, false] = [decide (K < N), K == 7, K == 6, K == 5, K == 4, K == 3, L3 == 0] := by kernel_rfl
theorem g_p9 : (g_t K mk N L0 L1 L2 L3 L4 L5 L6 L7 d pp xx oz s1 js).path [true, false, false, false, false, true, false] = .ok (g_l9 K mk N L0 L1 L2 L3 L4 L5 L6 L7 d pp xx oz s1) := by kernel_rfl
noncomputable abbrev g_l10 : Lf MObj := (Lf.mk (VX.normal) [.s (.one (.ptr 0 0)), s1] 72 [(0, some (.cells [d.1, d.2, d.3, d.4, d.5, d.6, pp, .int .i64 (.sym K), d.7, d.8, d.9, d.10, d.11, d.12, .int .i64 (.sym mk), d.13, d.14, .int .i64 (.sym N), .int .i64 (.sym L0), .int .i64 (.sym L1), .int .i64 (.sym L2), .int .i64 (.sym L3), .int .i64 (.sym L4), .int .i64 (.sym L5), .int .i64 (.sym L6), .int .i64 (.sym L7), xx] 75)), (1, oz)] 2 [])
theorem g_c10 : (g_t K mk N L0 L1 L2 L3 L4 L5 L6 L7 d pp xx oz s1 js).conds [true, false, false, false, false, false, true, true] = [decide (K < N), K == 7, K == 6, K == 5, K == 4, K == 3, K == 2, L2 == 0] := by kernel_rfl
theorem g_p10 : (g_t K mk N L0 L1 L2 L3 L4 L5 L6 L7 d pp xx oz s1 js).path [true, false, false, false, false, false, true, true] = .ok (g_l10 K mk N L0 L1 L2 L3 L4 L5 L6 L7 d pp xx oz s1) := by kernel_rfl
noncomputable abbrev g_l11 : Lf MObj := (Lf.mk (VX.exit 0) [.s (.one (.ptr 0 0)), s1] 72 [(0, some (.cells [d.1, d.2, d.3, d.4, d.5, d.6, pp, .int .i64 (.sym K), d.7, d.8, d.9, d.10, d.11, d.12, .int .i64 (.sym mk), d.13, d.14, .int .i64 (.sym N), .int .i64 (.sym L0), .int .i64 (.sym L1), .int .i64 (.sym L2), .int .i64 (.sym L3), .int .i64 (.sym L4), .int .i64 (.sym L5), .int .i64 (.sym L6), .int .i64 (.sym L7), xx] 75)), (1, oz)] 2 [])
theorem g_c11 : (g_t K mk N L0 L1 L2 L3 L4 L5 L6 L7 d pp xx oz s1 js).conds [true, false, false, false, false, false, true, false] = [decide (K < N), K == 7, K == 6, K == 5, K == 4, K == 3, K == 2, L2 == 0] := by kernel_rfl
theorem g_p11 : (g_t K mk N L0 L1 L2 L3 L4 L5 L6 L7 d pp xx oz s1 js).path [true, false, false, false, false, false, true, false] = .ok (g_l11 K mk N L0 L1 L2 L3 L4 L5 L6 L7 d pp xx oz s1) := by kernel_rfl
noncomputable abbrev g_l12 : Lf MObj := (Lf.mk (VX.normal) [.s (.one (.ptr 0 0)), s1] 72 [(0, some (.cells [d.1, d.2, d.3, d.4, d.5, d.6, pp, .int .i64 (.sym K), d.7, d.8, d.9, d.10, d.11, d.12, .int .i64 (.sym mk), d.13, d.14, .int .i64 (.sym N), .int .i64 (.sym L0), .int .i64 (.sym L1), .int .i64 (.sym L2), .int .i64 (.sym L3), .int .i64 (.sym L4), .int .i64 (.sym L5), .int .i64 (.sym L6), .int .i64 (.sym L7), xx] 75)), (1, oz)] 2 [])
theorem g_c12 : (g_t K mk N L0 L1 L2 L3 L4 L5 L6 L7 d pp xx oz s1 js).conds [true, false, false, false, false, false, false, true, true] = [decide (K < N), K == 7, K == 6, K == 5, K == 4, K == 3, K == 2, K == 1, L1 == 0] := by kernel_rfl
theorem g_p12 : (g_t K mk N L0 L1 L2 L3 L4 L5 L6 L7 d pp xx oz s1 js).path [true, false, false, false, false, false, false, true, true] = .ok (g_l12 K mk N L0 L1 L2 L3 L4 L5 L6 L7 d pp xx oz s1) := by kernel_rfl
noncomputable abbrev g_l13 : Lf MObj := (Lf.mk (VX.exit 0) [.s (.one (.ptr 0 0)), s1] 72 [(0, some (.cells [d.1, d.2, d.3, d.4, d.5, d.6, pp, .int .i64 (.sym K), d.7, d.8, d.9, d.10, d.11, d.12, .int .i64 (.sym mk), d.13, d.14, .int .i64 (.sym N), .int .i64 (.sym L0), .int .i64 (.sym L1), .int .i64 (.sym L2), .int .i64 (.sym L3), .int .i64 (.sym L4), .int .i64 (.sym L5), .int .i64 (.sym L6), .int .i64 (.sym L7), xx] 75)), (1, oz)] 2 [])
theorem g_c13 : (g_t K mk N L0 L1 L2 L3 L4 L5 L6 L7 d pp xx oz s1 js).conds [true, false, false, false, false, false, false, true, false] = [decide (K < N), K == 7, K == 6, K == 5, K == 4, K == 3, K == 2, K == 1, L1 == 0] := by kernel_rfl
theorem g_p13 : (g_t K mk N L0 L1 L2 L3 L4 L5 L6 L7 d pp xx oz s1 js).path [true, false, false, false, false, false, false, true, false] = .ok (g_l13 K mk N L0 L1 L2 L3 L4 L5 L6 L7 d pp xx oz s1) := by kernel_rfl
noncomputable abbrev g_l14 : Lf MObj := (Lf.mk (VX.normal) [.s (.one (.ptr 0 0)), s1] 72 [(0, some (.cells [d.1, d.2, d.3, d.4, d.5, d.6, pp, .int .i64 (.sym K), d.7, d.8, d.9, d.10, d.11, d.12, .int .i64 (.sym mk), d.13, d.14, .int .i64 (.sym N), .int .i64 (.sym L0), .int .i64 (.sym L1), .int .i64 (.sym L2), .int .i64 (.sym L3), .int .i64 (.sym L4), .int .i64 (.sym L5), .int .i64 (.sym L6), .int .i64 (.sym L7), xx] 75)), (1, oz)] 2 [])
theorem g_c14 : (g_t K mk N L0 L1 L2 L3 L4 L5 L6 L7 d pp xx oz s1 js).conds [true, false, false, false, false, false, false, false, true, true] = [decide (K < N), K == 7, K == 6, K == 5, K == 4, K == 3, K == 2, K == 1, K == 0, L0 == 0] := by kernel_rfl
theorem g_p14 : (g_t K mk N L0 L1 L2 L3 L4 L5 L6 L7 d pp xx oz s1 js).path [true, false, false, false, false, false, false, false, true, true] = .ok (g_l14 K mk N L0 L1 L2 L3 L4 L5 L6 L7 d pp xx oz s1) := by kernel_rfl
noncomputable abbrev g_l15 : Lf MObj := (Lf.mk (VX.exit 0) [.s (.one (.ptr 0 0)), s1] 72 [(0, some (.cells [d.1, d.2, d.3, d.4, d.5, d.6, pp, .int .i64 (.sym K), d.7, d.8, d.9, d.10, d.11, d.12, .int .i64 (.sym mk), d.13, d.14, .int .i64 (.sym N), .int .i64 (.sym L0), .int .i64 (.sym L1), .int .i64 (.sym L2), .int .i64 (.sym L3), .int .i64 (.sym L4), .int .i64 (.sym L5), .int .i64 (.sym L6), .int .i64 (.sym L7), xx] 75)), (1, oz)] 2 [])
theorem g_c15 : (g_t K mk N L0 L1 L2 L3 L4 L5 L6 L7 d pp xx oz s1 js).conds [true, false, false, false, false, false, false, false, true, false] = [decide (K < N), K == 7, K == 6, K == 5, K == 4, K == 3, K == 2, K == 1, K == 0, L0 == 0] := by kernel_rfl
theorem g_p15 : (g_t K mk N L0 L1 L2 L3 L4 L5 L6 L7 d pp xx oz s1 js).path [true, false, false, false, false, false, false, false, true, false] = .ok (g_l15 K mk N L0 L1 L2 L3 L4 L5 L6 L7 d pp xx oz s1) := by kernel_rfl
noncomputable abbrev g_l16 : Lf MObj := (Lf.mk (VX.exit 0) [.s (.one (.ptr 0 0)), s1] 72 [(0, some (.cells [d.1, d.2, d.3, d.4, d.5, d.6, pp, .int .i64 (.sym K), d.7, d.8, d.9, d.10, d.11, d.12, .int .i64 (.sym mk), d.13, d.14, .int .i64 (.sym N), .int .i64 (.sym L0), .int .i64 (.sym L1), .int .i64 (.sym L2), .int .i64 (.sym L3), .int .i64 (.sym L4), .int .i64 (.sym L5), .int .i64 (.sym L6), .int .i64 (.sym L7), xx] 75)), (1, oz)] 2 [])
theorem g_c16 : (g_t K mk N L0 L1 L2 L3 L4 L5 L6 L7 d pp xx oz s1 js).conds [false] = [decide (K < N)] := by kernel_rfl
theorem g_p16 : (g_t K mk N L0 L1 L2 L3 L4 L5 L6 L7 d pp xx oz s1 js).path [false] = .ok (g_l16 K mk N L0 L1 L2 L3 L4 L5 L6 L7 d pp xx oz s1) := by kernel_rfl
theorem g (hN : 0 ≤ N ∧ N ≤ 8) (hK : 0 ≤ K ∧ K ≤ N) : (g_t K mk N L0 L1 L2 L3 L4 L5 L6 L7 d pp xx oz s1 js).run = Tr.run (.ite (decide (K < N)) (.ite (K == 7) (.ite (L7 == 0) (.ok (g_l0 K mk N L0 L1 L2 L3 L4 L5 L6 L7 d pp xx oz s1)) (.ok (g_l1 K mk N L0 L1 L2 L3 L4 L5 L6 L7 d pp xx oz s1))) (.ite (K == 6) (.ite (L6 == 0) (.ok (g_l2 K mk N L0 L1 L2 L3 L4 L5 L6 L7 d pp xx oz s1)) (.ok (g_l3 K mk N L0 L1 L2 L3 L4 L5 L6 L7 d pp xx oz s1))) (.ite (K == 5) (.ite (L5 == 0) (.ok (g_l4 K mk N L0 L1 L2 L3 L4 L5 L6 L7 d pp xx oz s1)) (.ok (g_l5 K mk N L0 L1 L2 L3 L4 L5 L6 L7 d pp xx oz s1))) (.ite (K == 4) (.ite (L4 == 0) (.ok (g_l6 K mk N L0 L1 L2 L3 L4 L5 L6 L7 d pp xx oz s1)) (.ok (g_l7 K mk N L0 L1 L2 L3 L4 L5 L6 L7 d pp xx oz s1))) (.ite (K == 3) (.ite (L3 == 0) (.ok (g_l8 K mk N L0 L1 L2 L3 L4 L5 L6 L7 d pp xx oz s1)) (.ok (g_l9 K mk N L0 L1 L2 L3 L4 L5 L6 L7 d pp xx oz s1))) (.ite (K == 2) (.ite (L2 == 0) (.ok (g_l10 K mk N L0 L1 L2 L3 L4 L5 L6 L7 d pp xx oz s1)) (.ok (g_l11 K mk N L0 L1 L2 L3 L4 L5 L6 L7 d pp xx oz s1))) (.ite (K == 1) (.ite (L1 == 0) (.ok (g_l12 K mk N L0 L1 L2 L3 L4 L5 L6 L7 d pp xx oz s1)) (.ok (g_l13 K mk N L0 L1 L2 L3 L4 L5 L6 L7 d pp xx oz s1))) (.ite (L0 == 0) (.ok (g_l14 K mk N L0 L1 L2 L3 L4 L5 L6 L7 d pp xx oz s1)) (.ok (g_l15 K mk N L0 L1 L2 L3 L4 L5 L6 L7 d pp xx oz s1)))))))))) (.ok (g_l16 K mk N L0 L1 L2 L3 L4 L5 L6 L7 d pp xx oz s1))) := by
  cases e0 : (decide (K < N)) with
  | true =>
    cases e1 : (K == 7) with
    | true =>
      cases e2 : (L7 == 0) with
      | true =>
        exact Tr.run_at (g_c0 K mk N L0 L1 L2 L3 L4 L5 L6 L7 d pp xx oz s1 js) (cons_eq (e0) (cons_eq (e1) (cons_eq (e2) rfl))) (g_p0 K mk N L0 L1 L2 L3 L4 L5 L6 L7 d pp xx oz s1 js)
      | false =>
        exact Tr.run_at (g_c1 K mk N L0 L1 L2 L3 L4 L5 L6 L7 d pp xx oz s1 js) (cons_eq (e0) (cons_eq (e1) (cons_eq (e2) rfl))) (g_p1 K mk N L0 L1 L2 L3 L4 L5 L6 L7 d pp xx oz s1 js)
    | false =>
      cases e3 : (K == 6) with
      | true =>
        cases e4 : (L6 == 0) with
        | true =>
          exact Tr.run_at (g_c2 K mk N L0 L1 L2 L3 L4 L5 L6 L7 d pp xx oz s1 js) (cons_eq (e0) (cons_eq (e1) (cons_eq (e3) (cons_eq (e4) rfl)))) (g_p2 K mk N L0 L1 L2 L3 L4 L5 L6 L7 d pp xx oz s1 js)
        | false =>
          exact Tr.run_at (g_c3 K mk N L0 L1 L2 L3 L4 L5 L6 L7 d pp xx oz s1 js) (cons_eq (e0) (cons_eq (e1) (cons_eq (e3) (cons_eq (e4) rfl)))) (g_p3 K mk N L0 L1 L2 L3 L4 L5 L6 L7 d pp xx oz s1 js)
      | false =>
        cases e5 : (K == 5) with
        | true =>
          cases e6 : (L5 == 0) with
          | true =>
            exact Tr.run_at (g_c4 K mk N L0 L1 L2 L3 L4 L5 L6 L7 d pp xx oz s1 js) (cons_eq (e0) (cons_eq (e1) (cons_eq (e3) (cons_eq (e5) (cons_eq (e6) rfl))))) (g_p4 K mk N L0 L1 L2 L3 L4 L5 L6 L7 d pp xx oz s1 js)
          | false =>
            exact Tr.run_at (g_c5 K mk N L0 L1 L2 L3 L4 L5 L6 L7 d pp xx oz s1 js) (cons_eq (e0) (cons_eq (e1) (cons_eq (e3) (cons_eq (e5) (cons_eq (e6) rfl))))) (g_p5 K mk N L0 L1 L2 L3 L4 L5 L6 L7 d pp xx oz s1 js)
        | false =>
          cases e7 : (K == 4) with
          | true =>
            cases e8 : (L4 == 0) with
            | true =>
              exact Tr.run_at (g_c6 K mk N L0 L1 L2 L3 L4 L5 L6 L7 d pp xx oz s1 js) (cons_eq (e0) (cons_eq (e1) (cons_eq (e3) (cons_eq (e5) (cons_eq (e7) (cons_eq (e8) rfl)))))) (g_p6 K mk N L0 L1 L2 L3 L4 L5 L6 L7 d pp xx oz s1 js)
            | false =>
              exact Tr.run_at (g_c7 K mk N L0 L1 L2 L3 L4 L5 L6 L7 d pp xx oz s1 js) (cons_eq (e0) (cons_eq (e1) (cons_eq (e3) (cons_eq (e5) (cons_eq (e7) (cons_eq (e8) rfl)))))) (g_p7 K mk N L0 L1 L2 L3 L4 L5 L6 L7 d pp xx oz s1 js)
          | false =>
            cases e9 : (K == 3) with
            | true =>
              cases e10 : (L3 == 0) with
              | true =>
                exact Tr.run_at (g_c8 K mk N L0 L1 L2 L3 L4 L5 L6 L7 d pp xx oz s1 js) (cons_eq (e0) (cons_eq (e1) (cons_eq (e3) (cons_eq (e5) (cons_eq (e7) (cons_eq (e9) (cons_eq (e10) rfl))))))) (g_p8 K mk N L0 L1 L2 L3 L4 L5 L6 L7 d pp xx oz s1 js)
              | false =>
                exact Tr.run_at (g_c9 K mk N L0 L1 L2 L3 L4 L5 L6 L7 d pp xx oz s1 js) (cons_eq (e0) (cons_eq (e1) (cons_eq (e3) (cons_eq (e5) (cons_eq (e7) (cons_eq (e9) (cons_eq (e10) rfl))))))) (g_p9 K mk N L0 L1 L2 L3 L4 L5 L6 L7 d pp xx oz s1 js)
            | false =>
              cases e11 : (K == 2) with
              | true =>
                cases e12 : (L2 == 0) with
                | true =>
                  exact Tr.run_at (g_c10 K mk N L0 L1 L2 L3 L4 L5 L6 L7 d pp xx oz s1 js) (cons_eq (e0) (cons_eq (e1) (cons_eq (e3) (cons_eq (e5) (cons_eq (e7) (cons_eq (e9) (cons_eq (e11) (cons_eq (e12) rfl)))))))) (g_p10 K mk N L0 L1 L2 L3 L4 L5 L6 L7 d pp xx oz s1 js)
                | false =>
                  exact Tr.run_at (g_c11 K mk N L0 L1 L2 L3 L4 L5 L6 L7 d pp xx oz s1 js) (cons_eq (e0) (cons_eq (e1) (cons_eq (e3) (cons_eq (e5) (cons_eq (e7) (cons_eq (e9) (cons_eq (e11) (cons_eq (e12) rfl)))))))) (g_p11 K mk N L0 L1 L2 L3 L4 L5 L6 L7 d pp xx oz s1 js)
              | false =>
                cases e13 : (K == 1) with
                | true =>
                  cases e14 : (L1 == 0) with
                  | true =>
                    exact Tr.run_at (g_c12 K mk N L0 L1 L2 L3 L4 L5 L6 L7 d pp xx oz s1 js) (cons_eq (e0) (cons_eq (e1) (cons_eq (e3) (cons_eq (e5) (cons_eq (e7) (cons_eq (e9) (cons_eq (e11) (cons_eq (e13) (cons_eq (e14) rfl))))))))) (g_p12 K mk N L0 L1 L2 L3 L4 L5 L6 L7 d pp xx oz s1 js)
                  | false =>
                    exact Tr.run_at (g_c13 K mk N L0 L1 L2 L3 L4 L5 L6 L7 d pp xx oz s1 js) (cons_eq (e0) (cons_eq (e1) (cons_eq (e3) (cons_eq (e5) (cons_eq (e7) (cons_eq (e9) (cons_eq (e11) (cons_eq (e13) (cons_eq (e14) rfl))))))))) (g_p13 K mk N L0 L1 L2 L3 L4 L5 L6 L7 d pp xx oz s1 js)
                | false =>
                  cases e15 : (L0 == 0) with
                  | true =>
                    exact Tr.run_at (g_c14 K mk N L0 L1 L2 L3 L4 L5 L6 L7 d pp xx oz s1 js) (cons_eq (e0) (cons_eq (e1) (cons_eq (e3) (cons_eq (e5) (cons_eq (e7) (cons_eq (e9) (cons_eq (e11) (cons_eq (e13) (cons_eq (by (simp only [W, wrap64, okc_iff, inb_iff, decide_eq_true_eq, decide_eq_false_iff_not, beq_iff_eq, beq_eq_false_iff_ne, Bool.and_eq_true] at *; omega)) (cons_eq (e15) rfl)))))))))) (g_p14 K mk N L0 L1 L2 L3 L4 L5 L6 L7 d pp xx oz s1 js)
                  | false =>
                    exact Tr.run_at (g_c15 K mk N L0 L1 L2 L3 L4 L5 L6 L7 d pp xx oz s1 js) (cons_eq (e0) (cons_eq (e1) (cons_eq (e3) (cons_eq (e5) (cons_eq (e7) (cons_eq (e9) (cons_eq (e11) (cons_eq (e13) (cons_eq (by (simp only [W, wrap64, okc_iff, inb_iff, decide_eq_true_eq, decide_eq_false_iff_not, beq_iff_eq, beq_eq_false_iff_ne, Bool.and_eq_true] at *; omega)) (cons_eq (e15) rfl)))))))))) (g_p15 K mk N L0 L1 L2 L3 L4 L5 L6 L7 d pp xx oz s1 js)
  | false =>
    exact Tr.run_at (g_c16 K mk N L0 L1 L2 L3 L4 L5 L6 L7 d pp xx oz s1 js) (cons_eq (e0) rfl) (g_p16 K mk N L0 L1 L2 L3 L4 L5 L6 L7 d pp xx oz s1 js)
end
section
variable (K : Int) (mk : Int) (N : Int) (L0 : Int) (L1 : Int) (L2 : Int) (L3 : Int) (L4 : Int) (L5 : Int) (L6 : Int) (L7 : Int) (d : CC) (pp : VV) (xx : VV) (oz : Option (VObj MObj)) (s1 : SV) (js : Nat → SV)
noncomputable abbrev i_t : Tr (Lf MObj) := ((ev (at' [true]) ⟨[.v (.ptr 0 0), s1] ++ junk js 70 2, [(0, some (qc0 d pp K mk N L0 L1 L2 L3 L4 L5 L6 L7 xx)), (1, oz)], 2, []⟩).vmap (leaf 2))
noncomputable abbrev i_l0 : Lf MObj := (Lf.mk (VX.normal) [.s (.one (.ptr 0 0)), s1] 72 [(0, some (.cells [d.1, d.2, d.3, d.4, d.5, d.6, pp, .int .i64 (.sym (W (K + 1))), d.7, d.8, d.9, d.10, d.11, d.12, .int .i64 (.sym mk), d.13, d.14, .int .i64 (.sym N), .int .i64 (.sym L0), .int .i64 (.sym L1), .int .i64 (.sym L2), .int .i64 (.sym L3), .int .i64 (.sym L4), .int .i64 (.sym L5), .int .i64 (.sym L6), .int .i64 (.sym L7), xx] 75)), (1, oz)] 2 [0])
theorem i_c0 : (i_t K mk N L0 L1 L2 L3 L4 L5 L6 L7 d pp xx oz s1 js).conds [] = [] := by kernel_rfl
theorem i_p0 : (i_t K mk N L0 L1 L2 L3 L4 L5 L6 L7 d pp xx oz s1 js).path [] = .ok (i_l0 K mk N L0 L1 L2 L3 L4 L5 L6 L7 d pp xx oz s1) := by kernel_rfl
theorem i (hN : 0 ≤ N ∧ N ≤ 8) (hK : 0 ≤ K ∧ K ≤ N) (hi : K < N) : (i_t K mk N L0 L1 L2 L3 L4 L5 L6 L7 d pp xx oz s1 js).run = Tr.run (.ok (i_l0 K mk N L0 L1 L2 L3 L4 L5 L6 L7 d pp xx oz s1)) := by
  exact Tr.run_at (i_c0 K mk N L0 L1 L2 L3 L4 L5 L6 L7 d pp xx oz s1 js) rfl (i_p0 K mk N L0 L1 L2 L3 L4 L5 L6 L7 d pp xx oz s1 js)
end
section
variable (K : Int) (mk : Int) (N : Int) (L0 : Int) (L1 : Int) (L2 : Int) (L3 : Int) (L4 : Int) (L5 : Int) (L6 : Int) (L7 : Int) (d : CC) (pp : VV) (xx : VV) (oz : Option (VObj MObj)) (js : Nat → SV)
noncomputable abbrev r4_t : Tr (Lf MObj) := ((ev (codeAt body [true]) ⟨[.v (.ptr 0 0), .v (.int .i64 (.lit 4))] ++ junk js 70 2, [(0, some (qc0 d pp K mk N L0 L1 L2 L3 L4 L5 L6 L7 xx)), (1, oz)], 2, []⟩).vmap (leaf 2))
noncomputable abbrev r4_l0 : Lf MObj := (Lf.mk (VX.normal) [.s (.one (.ptr 0 0)), .s (.one (.int .i64 (.lit 4)))] 72 [(0, some (.cells [d.1, d.2, d.3, d.4, d.5, d.6, .int .i64 (.lit 5), .int .i64 (.sym K), d.7, d.8, d.9, d.10, d.11, d.12, .int .i64 (.sym mk), d.13, d.14, .int .i64 (.sym N), .int .i64 (.sym L0), .int .i64 (.sym L1), .int .i64 (.sym L2), .int .i64 (.sym L3), .int .i64 (.sym L4), .int .i64 (.sym L5), .int .i64 (.sym L6), .int .i64 (.sym L7), xx] 75)), (1, oz)] 2 [0])
theorem r4_c0 : (r4_t K mk N L0 L1 L2 L3 L4 L5 L6 L7 d pp xx oz js).conds [true] = [decide (K ≥ N)] := by kernel_rfl
theorem r4_p0 : (r4_t K mk N L0 L1 L2 L3 L4 L5 L6 L7 d pp xx oz js).path [true] = .ok (r4_l0 K mk N L0 L1 L2 L3 L4 L5 L6 L7 d xx oz) := by kernel_rfl
noncomputable abbrev r4_l1 : Lf MObj := (Lf.mk (VX.normal) [.s (.one (.ptr 0 0)), .s (.one (.int .i64 (.lit 4)))] 72 [(0, some (.cells [d.1, d.2, d.3, d.4, d.5, d.6, .int .i64 (.lit 4), .int .i64 (.sym K), d.7, d.8, d.9, d.10, d.11, d.12, .int .i64 (.sym mk), d.13, d.14, .int .i64 (.sym N), .int .i64 (.sym L0), .int .i64 (.sym L1), .int .i64 (.sym L2), .int .i64 (.sym L3), .int .i64 (.sym L4), .int .i64 (.sym L5), .int .i64 (.sym L6), .int .i64 (.sym L7), xx] 75)), (1, oz)] 2 [0])
theorem r4_c1 : (r4_t K mk N L0 L1 L2 L3 L4 L5 L6 L7 d pp xx oz js).conds [false] = [decide (K ≥ N)] := by kernel_rfl
theorem r4_p1 : (r4_t K mk N L0 L1 L2 L3 L4 L5 L6 L7 d pp xx oz js).path [false] = .ok (r4_l1 K mk N L0 L1 L2 L3 L4 L5 L6 L7 d xx oz) := by kernel_rfl
theorem r4 (hN : 0 ≤ N ∧ N ≤ 8) (hK : 0 ≤ K ∧ K ≤ N) : (r4_t K mk N L0 L1 L2 L3 L4 L5 L6 L7 d pp xx oz js).run = Tr.run (.ite (decide (K ≥ N)) (.ok (r4_l0 K mk N L0 L1 L2 L3 L4 L5 L6 L7 d xx oz)) (.ok (r4_l1 K mk N L0 L1 L2 L3 L4 L5 L6 L7 d xx oz))) := by
  cases e0 : (decide (K ≥ N)) with
  | true =>
    exact Tr.run_at (r4_c0 K mk N L0 L1 L2 L3 L4 L5 L6 L7 d pp xx oz js) (cons_eq (e0) rfl) (r4_p0 K mk N L0 L1 L2 L3 L4 L5 L6 L7 d pp xx oz js)
  | false =>
    exact Tr.run_at (r4_c1 K mk N L0 L1 L2 L3 L4 L5 L6 L7 d pp xx oz js) (cons_eq (e0) rfl) (r4_p1 K mk N L0 L1 L2 L3 L4 L5 L6 L7 d pp xx oz js)
end
end Go.Proofs.Ytdongoplhnpdiaa.Next
