/-
  Clone of a memory: what its pieces come to.
-/
import Derived.Test.YtkbleapcnbphjaaGreatEvK
import Derived.Test.YtkbleapcnbphjaaGreatEngZd
namespace Go.Proofs.YtkbleapcnbphjaaGreat.Clone
open Go Go.RowKit Go.Proofs.YtkbleapcnbphjaaGreat.Eng
set_option linter.unusedVariables false
set_option linter.unusedSimpArgs false
set_option maxRecDepth 20000
noncomputable abbrev body : Code := Tryz.f43.body.get!
noncomputable abbrev ev (c : Code) : St MObj → Tr (VX × St MObj) := evCode Tryz.prog (evF Tryz.prog (I0 MObj) 100 19) 100 c
--TACS "(apply beq_of_pos; omega)", "simp [*]", "(simp only [decide_eq_true_eq, Bool.and_eq_true, beq_iff_eq, beq_eq_false_iff_ne, ne_eq, decide_eq_false_iff_not, Nat.ble_eq, rowsW_length] at *; omega)"

section
variable (xs : List Int) (c : Int) (t : Int)
noncomputable abbrev b0_t : Tr (Lf MObj) := ((ev body ⟨[.v (.ptr 0 0)] ++ List.replicate (Tryz.f43.ntmps - 1) .undef, [(1, some (.tab [.int .u64] (rowsW xs) 57)), (0, some (memO 110 xs.length c t 1 .nils))], 3, []⟩).vmap (leaf 3))
noncomputable abbrev b0_l0 : Lf MObj := (Lf.mk (VX.ret) [.s (.one (.ptr 0 0)), SV.t [], .s (.one (.ptr 5 0))] 23 [(1, some (VObj.tab [CK.int IntKind.u64] (rowsW xs) 57)), (0, some (.cells [VV.ts 1 (SN.lit 0) (SN.sym (List.length xs)) none, .int .i64 (.sym c), .int .i64 (.sym t), .nils] 110)), (4, some (VObj.tab [CK.int IntKind.u64] ([] ++ List.take (List.length xs) (List.drop 0 (rowsW xs))) 57)), (5, some (.cells [VV.ts 4 (SN.lit 0) (SN.sym (0 + List.length xs)) none, .int .i64 (.sym c), .int .i64 (.sym t), .nils] 110))] 6 [4, 5])
theorem b0_c0 : (b0_t xs c t).conds [true, false, true] = [decide (0 + List.length xs ≤ List.length (rowsW xs)), Nat.beq (List.length xs) 0, Nat.ble ((0 + List.length xs) * 8) 140737488355328] := by kernel_rfl
theorem b0_p0 : (b0_t xs c t).path [true, false, true] = .ok (b0_l0 xs c t) := by kernel_rfl
theorem b0 (hn : 0 < xs.length ∧ xs.length ≤ 1099511627776) : (b0_t xs c t).run = Tr.run (.ok (b0_l0 xs c t)) := by
  exact Tr.run_at (b0_c0 xs c t) (cons_eq (by (simp only [decide_eq_true_eq, Bool.and_eq_true, beq_iff_eq, beq_eq_false_iff_ne, ne_eq, decide_eq_false_iff_not, Nat.ble_eq, rowsW_length] at *; omega)) (cons_eq (by (apply beq_of_pos; omega)) (cons_eq (by (simp only [decide_eq_true_eq, Bool.and_eq_true, beq_iff_eq, beq_eq_false_iff_ne, ne_eq, decide_eq_false_iff_not, Nat.ble_eq, rowsW_length] at *; omega)) rfl))) (b0_p0 xs c t)
end
section
variable (xs : List Int) (c : Int) (t : Int) (ls : List (List Int))
noncomputable abbrev b1_t : Tr (Lf MObj) := ((ev body ⟨[.v (.ptr 0 0)] ++ List.replicate (Tryz.f43.ntmps - 1) .undef, [(2, some (.tab ckA ls 131)), (1, some (.tab [.int .u64] (rowsW xs) 57)), (0, some (memO 110 xs.length c t 1 (.ts 2 (.lit 0) (.sym ls.length) none)))], 3, []⟩).vmap (leaf 3))
noncomputable abbrev b1_l0 : Lf MObj := (Lf.mk (VX.ret) [.s (.one (.ptr 0 0)), SV.t [], .s (.one (.ptr 7 0))] 23 [(2, some (VObj.tab [CK.int IntKind.i64, CK.int IntKind.i64, CK.bool] ls 131)), (1, some (VObj.tab [CK.int IntKind.u64] (rowsW xs) 57)), (0, some (.cells [VV.ts 1 (SN.lit 0) (SN.sym (List.length xs)) none, .int .i64 (.sym c), .int .i64 (.sym t), VV.ts 2 (SN.lit 0) (SN.sym (List.length ls)) none] 110)), (4, some (VObj.tab [CK.int IntKind.u64] ([] ++ List.take (List.length xs) (List.drop 0 (rowsW xs))) 57)), (6, some (VObj.tab [CK.int IntKind.i64, CK.int IntKind.i64, CK.bool] ([] ++ List.take (List.length ls) (List.drop 0 ls)) 131)), (7, some (.cells [VV.ts 4 (SN.lit 0) (SN.sym (0 + List.length xs)) none, .int .i64 (.sym c), .int .i64 (.sym t), VV.ts 6 (SN.lit 0) (SN.sym (0 + List.length ls)) none] 110))] 8 [4, 6, 7])
theorem b1_c0 : (b1_t xs c t ls).conds [true, false, true, true, false, true] = [decide (0 + List.length xs ≤ List.length (rowsW xs)), Nat.beq (List.length xs) 0, Nat.ble ((0 + List.length xs) * 8) 140737488355328, decide (0 + List.length ls ≤ List.length ls), Nat.beq (List.length ls) 0, Nat.ble ((0 + List.length ls) * 24) 140737488355328] := by kernel_rfl
theorem b1_p0 : (b1_t xs c t ls).path [true, false, true, true, false, true] = .ok (b1_l0 xs c t ls) := by kernel_rfl
theorem b1 (hn : 0 < xs.length ∧ xs.length ≤ 1099511627776) (hl : 0 < ls.length ∧ ls.length ≤ 1099511627776) : (b1_t xs c t ls).run = Tr.run (.ok (b1_l0 xs c t ls)) := by
  exact Tr.run_at (b1_c0 xs c t ls) (cons_eq (by (simp only [decide_eq_true_eq, Bool.and_eq_true, beq_iff_eq, beq_eq_false_iff_ne, ne_eq, decide_eq_false_iff_not, Nat.ble_eq, rowsW_length] at *; omega)) (cons_eq (by (apply beq_of_pos; omega)) (cons_eq (by (simp only [decide_eq_true_eq, Bool.and_eq_true, beq_iff_eq, beq_eq_false_iff_ne, ne_eq, decide_eq_false_iff_not, Nat.ble_eq, rowsW_length] at *; omega)) (cons_eq (by simp [*]) (cons_eq (by (apply beq_of_pos; omega)) (cons_eq (by (simp only [decide_eq_true_eq, Bool.and_eq_true, beq_iff_eq, beq_eq_false_iff_ne, ne_eq, decide_eq_false_iff_not, Nat.ble_eq, rowsW_length] at *; omega)) rfl)))))) (b1_p0 xs c t ls)
end
end Go.Proofs.YtkbleapcnbphjaaGreat.Clone
