/-
  'same' of a law's package (two memories have the same words): what its pieces come to.
-/
import Derived.Test.YtkbleapcnbphjaaGreatEvClone
namespace Go.Proofs.YtkbleapcnbphjaaGreat.Same
open Go Go.RowKit Go.Proofs.YtkbleapcnbphjaaGreat.Eng
set_option linter.unusedVariables false
set_option linter.unusedSimpArgs false
set_option maxRecDepth 20000
def tabS : List (Nat × Intr MObj) := (43, renI Clone.cI) :: tabM
noncomputable abbrev body : Code := Tryz.f18.body.get!
noncomputable abbrev ev (c : Code) : St MObj → Tr (VX × St MObj) := evCode Tryz.prog (evF Tryz.prog (lookH MObj tabS) 100 19) 100 c
noncomputable abbrev evl (c : List Code) : St MObj → Tr (VX × St MObj) := evList (P := Tryz.prog) (evF Tryz.prog (lookH MObj tabS) 100 19) 100 c
noncomputable abbrev memA (xs : List Int) (c t : Int) : VObj MObj := .abs (.mem 110 xs c t)
noncomputable abbrev hp0 (xs : List Int) (c t c2 t2 : Int) : HP MObj := [(2, some (.tab [.int .u64] (rowsW xs) 57)), (0, some (memA xs c t)), (1, some (memO 66 xs.length c2 t2 2 .nils))]
noncomputable abbrev hp1 (xs : List Int) (c t c2 t2 : Int) (ls : List (List Int)) : HP MObj := [(3, some (.tab ckA ls 131)), (2, some (.tab [.int .u64] (rowsW xs) 57)), (0, some (memA xs c t)), (1, some (memO 66 xs.length c2 t2 2 (.ts 3 (.lit 0) (.sym ls.length) none)))]
noncomputable abbrev pre0 : List SV := [.v (.ptr 0 0), .v (.ptr 1 0)] ++ List.replicate (Tryz.f18.ntmps - 2) .undef
noncomputable abbrev pre (x2 x3 : SV) (r : Bool) (a : Int) : List SV := [.v (.ptr 0 0), .v (.ptr 1 0), x2, x3, .v (.bool (.lit r)), .v (.ptr 4 0), .v (ii a)]
--TACS "simp [*]", "simp [tabAt_rowsW]", "(simp only [decide_eq_true_eq, Bool.and_eq_true, beq_iff_eq, beq_eq_false_iff_ne, ne_eq, decide_eq_false_iff_not, Nat.ble_eq, rowsW_length, okc_iff, inb_iff] at *; omega)"

section
variable (xs : List Int) (c : Int) (t : Int) (c2 : Int) (t2 : Int)
noncomputable abbrev s0_t : Tr (Lf MObj) := ((evl (Eng.spine 3 body).1 ⟨pre0, hp0 xs c t c2 t2, 4, []⟩).vmap (leaf 7))
noncomputable abbrev s0_l0 : Lf MObj := (Lf.mk (VX.normal) [.s (.one (.ptr 0 0)), .s (.one (.ptr 1 0)), SV.t [], SV.t [], .s (.one (.bool (.lit false))), .s (.one (.ptr 4 0)), SV.t []] 41 [(2, some (VObj.tab [CK.int IntKind.u64] (rowsW xs) 57)), (0, some (.abs (.mem 110 xs c t))), (1, some (.cells [VV.ts 2 (SN.lit 0) (SN.sym (List.length xs)) none, .int .i64 (.sym c2), .int .i64 (.sym t2), .nils] 66)), (4, some (.abs (.mem 110 xs c t)))] 5 [0, 4])
theorem s0_c0 : (s0_t xs c t c2 t2).conds [true, false] = [Clone.okC xs c, (↑(List.length xs) : Int) != (↑(List.length xs) : Int)] := by kernel_rfl
theorem s0_p0 : (s0_t xs c t c2 t2).path [true, false] = .ok (s0_l0 xs c t c2 t2) := by kernel_rfl
theorem s0 (hn : 0 < xs.length ∧ xs.length ≤ 1000000) (hc : 0 ≤ c ∧ c ≤ 1000000000) : (s0_t xs c t c2 t2).run = Tr.run (.ok (s0_l0 xs c t c2 t2)) := by
  exact Tr.run_at (s0_c0 xs c t c2 t2) (cons_eq (by (simp only [decide_eq_true_eq, Bool.and_eq_true, beq_iff_eq, beq_eq_false_iff_ne, ne_eq, decide_eq_false_iff_not, Nat.ble_eq, rowsW_length, okc_iff, inb_iff] at *; omega)) (cons_eq (by simp [*]) rfl)) (s0_p0 xs c t c2 t2)
end
section
variable (xs : List Int) (c : Int) (t : Int) (c2 : Int) (t2 : Int) (cc : Int) (x2 : SV) (x3 : SV) (x6 : SV) (js : Nat → SV)
noncomputable abbrev i0_t : Tr (Lf MObj) := ((ev (codeAt body [true, true, true, false, false]) ⟨[.v (.ptr 0 0), .v (.ptr 1 0), x2, x3, .v (.bool (.lit false)), .v (.ptr 4 0), x6] ++ junk js 34 7, hp0 xs c t c2 t2 ++ [(4, some (memA xs cc t))], 5, []⟩).vmap (leaf 7))
noncomputable abbrev i0_l0 : Lf MObj := (Lf.mk (VX.normal) [.s (.one (.ptr 0 0)), .s (.one (.ptr 1 0)), x2, x3, .s (.one (.bool (.lit false))), .s (.one (.ptr 4 0)), .s (.one (.int .i64 (.lit 0)))] 41 [(2, some (VObj.tab [CK.int IntKind.u64] (rowsW xs) 57)), (0, some (.abs (.mem 110 xs c t))), (1, some (.cells [VV.ts 2 (SN.lit 0) (SN.sym (List.length xs)) none, .int .i64 (.sym c2), .int .i64 (.sym t2), .nils] 66)), (4, some (.abs (.mem 110 xs cc t)))] 5 [])
theorem i0_c0 : (i0_t xs c t c2 t2 cc x2 x3 x6 js).conds [] = [] := by kernel_rfl
theorem i0_p0 : (i0_t xs c t c2 t2 cc x2 x3 x6 js).path [] = .ok (i0_l0 xs c t c2 t2 cc x2 x3) := by kernel_rfl
theorem i0 (hn : 0 < xs.length ∧ xs.length ≤ 1000000) (hc : 0 ≤ c ∧ c ≤ 1000000000) : (i0_t xs c t c2 t2 cc x2 x3 x6 js).run = Tr.run (.ok (i0_l0 xs c t c2 t2 cc x2 x3)) := by
  exact Tr.run_at (i0_c0 xs c t c2 t2 cc x2 x3 x6 js) rfl (i0_p0 xs c t c2 t2 cc x2 x3 x6 js)
end
section
variable (xs : List Int) (c : Int) (t : Int) (c2 : Int) (t2 : Int) (cc : Int) (a : Int) (x2 : SV) (x3 : SV) (js : Nat → SV)
noncomputable abbrev r0_t : Tr (Lf MObj) := ((ev (codeAt body [true, true, true, false, true, false, false]) ⟨pre x2 x3 false a ++ junk js 34 7, hp0 xs c t c2 t2 ++ [(4, some (memA xs cc t))], 5, []⟩).vmap (leaf 7))
noncomputable abbrev r0_l0 : Lf MObj := (Lf.mk (VX.normal) [.s (.one (.ptr 0 0)), .s (.one (.ptr 1 0)), x2, x3, .s (.one (.bool (.lit false))), .s (.one (.ptr 4 0)), .s (.one (.int .i64 (.sym (W (a + 1)))))] 41 [(2, some (VObj.tab [CK.int IntKind.u64] (rowsW xs) 57)), (0, some (.abs (.mem 110 xs c t))), (1, some (.cells [VV.ts 2 (SN.lit 0) (SN.sym (List.length xs)) none, .int .i64 (.sym c2), .int .i64 (.sym t2), .nils] 66)), (4, some (.abs (.mem 110 xs (cc + 1) t)))] 5 [4])
theorem r0_c0 : (r0_t xs c t c2 t2 cc a x2 x3 js).conds [true, true, true, true, true, false] = [decide (a < (↑(List.length xs) : Int)), okc cc, inb a (List.length xs), decide (0 ≤ a) && decide (a < (↑(List.length xs) : Int)), decide (0 + Int.toNat a < List.length (rowsW xs)), List.getD xs (Int.toNat a) 0 != tabAt (rowsW xs) (0 + Int.toNat a) 0] := by kernel_rfl
theorem r0_p0 : (r0_t xs c t c2 t2 cc a x2 x3 js).path [true, true, true, true, true, false] = .ok (r0_l0 xs c t c2 t2 cc a x2 x3) := by kernel_rfl
noncomputable abbrev r0_l1 : Lf MObj := (Lf.mk (VX.exit 0) [.s (.one (.ptr 0 0)), .s (.one (.ptr 1 0)), x2, x3, .s (.one (.bool (.lit false))), .s (.one (.ptr 4 0)), .s (.one (.int .i64 (.sym a)))] 41 [(2, some (VObj.tab [CK.int IntKind.u64] (rowsW xs) 57)), (0, some (.abs (.mem 110 xs c t))), (1, some (.cells [VV.ts 2 (SN.lit 0) (SN.sym (List.length xs)) none, .int .i64 (.sym c2), .int .i64 (.sym t2), .nils] 66)), (4, some (.abs (.mem 110 xs cc t)))] 5 [])
theorem r0_c1 : (r0_t xs c t c2 t2 cc a x2 x3 js).conds [false] = [decide (a < (↑(List.length xs) : Int))] := by kernel_rfl
theorem r0_p1 : (r0_t xs c t c2 t2 cc a x2 x3 js).path [false] = .ok (r0_l1 xs c t c2 t2 cc a x2 x3) := by kernel_rfl
theorem r0 (hn : 0 < xs.length ∧ xs.length ≤ 1000000) (hc : 0 ≤ c ∧ c ≤ 1000000000) (hcc : 0 ≤ cc ∧ cc ≤ 1001000000) (ha : 0 ≤ a ∧ a ≤ xs.length) : (r0_t xs c t c2 t2 cc a x2 x3 js).run = Tr.run (.ite (decide (a < (↑(List.length xs) : Int))) (.ok (r0_l0 xs c t c2 t2 cc a x2 x3)) (.ok (r0_l1 xs c t c2 t2 cc a x2 x3))) := by
  cases e0 : (decide (a < (↑(List.length xs) : Int))) with
  | true =>
    exact Tr.run_at (r0_c0 xs c t c2 t2 cc a x2 x3 js) (cons_eq (e0) (cons_eq (by (simp only [decide_eq_true_eq, Bool.and_eq_true, beq_iff_eq, beq_eq_false_iff_ne, ne_eq, decide_eq_false_iff_not, Nat.ble_eq, rowsW_length, okc_iff, inb_iff] at *; omega)) (cons_eq (by (simp only [decide_eq_true_eq, Bool.and_eq_true, beq_iff_eq, beq_eq_false_iff_ne, ne_eq, decide_eq_false_iff_not, Nat.ble_eq, rowsW_length, okc_iff, inb_iff] at *; omega)) (cons_eq (by simp [*]) (cons_eq (by (simp only [decide_eq_true_eq, Bool.and_eq_true, beq_iff_eq, beq_eq_false_iff_ne, ne_eq, decide_eq_false_iff_not, Nat.ble_eq, rowsW_length, okc_iff, inb_iff] at *; omega)) (cons_eq (by simp [tabAt_rowsW]) rfl)))))) (r0_p0 xs c t c2 t2 cc a x2 x3 js)
  | false =>
    exact Tr.run_at (r0_c1 xs c t c2 t2 cc a x2 x3 js) (cons_eq (e0) rfl) (r0_p1 xs c t c2 t2 cc a x2 x3 js)
end
section
variable (xs : List Int) (c : Int) (t : Int) (c2 : Int) (t2 : Int) (cc : Int) (a : Int) (x2 : SV) (x3 : SV) (js : Nat → SV)
noncomputable abbrev f0_t : Tr (Lf MObj) := ((ev (codeAt body [true, true, true, true]) ⟨pre x2 x3 false a ++ junk js 34 7, hp0 xs c t c2 t2 ++ [(4, some (memA xs cc t))], 5, []⟩).vmap (leaf 7))
noncomputable abbrev f0_l0 : Lf MObj := (Lf.mk (VX.ret) [.s (.one (.ptr 0 0)), .s (.one (.ptr 1 0)), x2, x3, .s (.one (.bool (.lit true))), .s (.one (.ptr 4 0)), .s (.one (.int .i64 (.sym a)))] 41 [(2, some (VObj.tab [CK.int IntKind.u64] (rowsW xs) 57)), (0, some (.abs (.mem 110 xs c t))), (1, some (.cells [VV.ts 2 (SN.lit 0) (SN.sym (List.length xs)) none, .int .i64 (.sym c2), .int .i64 (.sym t2), .nils] 66)), (4, some (.abs (.mem 110 xs cc t)))] 5 [])
theorem f0_c0 : (f0_t xs c t c2 t2 cc a x2 x3 js).conds [] = [] := by kernel_rfl
theorem f0_p0 : (f0_t xs c t c2 t2 cc a x2 x3 js).path [] = .ok (f0_l0 xs c t c2 t2 cc a x2 x3) := by kernel_rfl
theorem f0 (hn : 0 < xs.length ∧ xs.length ≤ 1000000) (hc : 0 ≤ c ∧ c ≤ 1000000000) : (f0_t xs c t c2 t2 cc a x2 x3 js).run = Tr.run (.ok (f0_l0 xs c t c2 t2 cc a x2 x3)) := by
  exact Tr.run_at (f0_c0 xs c t c2 t2 cc a x2 x3 js) rfl (f0_p0 xs c t c2 t2 cc a x2 x3 js)
end
section
variable (xs : List Int) (c : Int) (t : Int) (c2 : Int) (t2 : Int) (ls : List (List Int))
noncomputable abbrev s1_t : Tr (Lf MObj) := ((evl (Eng.spine 3 body).1 ⟨pre0, hp1 xs c t c2 t2 ls, 4, []⟩).vmap (leaf 7))
noncomputable abbrev s1_l0 : Lf MObj := (Lf.mk (VX.normal) [.s (.one (.ptr 0 0)), .s (.one (.ptr 1 0)), SV.t [], SV.t [], .s (.one (.bool (.lit false))), .s (.one (.ptr 4 0)), SV.t []] 41 [(3, some (VObj.tab [CK.int IntKind.i64, CK.int IntKind.i64, CK.bool] ls 131)), (2, some (VObj.tab [CK.int IntKind.u64] (rowsW xs) 57)), (0, some (.abs (.mem 110 xs c t))), (1, some (.cells [VV.ts 2 (SN.lit 0) (SN.sym (List.length xs)) none, .int .i64 (.sym c2), .int .i64 (.sym t2), VV.ts 3 (SN.lit 0) (SN.sym (List.length ls)) none] 66)), (4, some (.abs (.mem 110 xs c t)))] 5 [0, 4])
theorem s1_c0 : (s1_t xs c t c2 t2 ls).conds [true, false] = [Clone.okC xs c, (↑(List.length xs) : Int) != (↑(List.length xs) : Int)] := by kernel_rfl
theorem s1_p0 : (s1_t xs c t c2 t2 ls).path [true, false] = .ok (s1_l0 xs c t c2 t2 ls) := by kernel_rfl
theorem s1 (hn : 0 < xs.length ∧ xs.length ≤ 1000000) (hc : 0 ≤ c ∧ c ≤ 1000000000) : (s1_t xs c t c2 t2 ls).run = Tr.run (.ok (s1_l0 xs c t c2 t2 ls)) := by
  exact Tr.run_at (s1_c0 xs c t c2 t2 ls) (cons_eq (by (simp only [decide_eq_true_eq, Bool.and_eq_true, beq_iff_eq, beq_eq_false_iff_ne, ne_eq, decide_eq_false_iff_not, Nat.ble_eq, rowsW_length, okc_iff, inb_iff] at *; omega)) (cons_eq (by simp [*]) rfl)) (s1_p0 xs c t c2 t2 ls)
end
section
variable (xs : List Int) (c : Int) (t : Int) (c2 : Int) (t2 : Int) (ls : List (List Int)) (cc : Int) (x2 : SV) (x3 : SV) (x6 : SV) (js : Nat → SV)
noncomputable abbrev i1_t : Tr (Lf MObj) := ((ev (codeAt body [true, true, true, false, false]) ⟨[.v (.ptr 0 0), .v (.ptr 1 0), x2, x3, .v (.bool (.lit false)), .v (.ptr 4 0), x6] ++ junk js 34 7, hp1 xs c t c2 t2 ls ++ [(4, some (memA xs cc t))], 5, []⟩).vmap (leaf 7))
noncomputable abbrev i1_l0 : Lf MObj := (Lf.mk (VX.normal) [.s (.one (.ptr 0 0)), .s (.one (.ptr 1 0)), x2, x3, .s (.one (.bool (.lit false))), .s (.one (.ptr 4 0)), .s (.one (.int .i64 (.lit 0)))] 41 [(3, some (VObj.tab [CK.int IntKind.i64, CK.int IntKind.i64, CK.bool] ls 131)), (2, some (VObj.tab [CK.int IntKind.u64] (rowsW xs) 57)), (0, some (.abs (.mem 110 xs c t))), (1, some (.cells [VV.ts 2 (SN.lit 0) (SN.sym (List.length xs)) none, .int .i64 (.sym c2), .int .i64 (.sym t2), VV.ts 3 (SN.lit 0) (SN.sym (List.length ls)) none] 66)), (4, some (.abs (.mem 110 xs cc t)))] 5 [])
theorem i1_c0 : (i1_t xs c t c2 t2 ls cc x2 x3 x6 js).conds [] = [] := by kernel_rfl
theorem i1_p0 : (i1_t xs c t c2 t2 ls cc x2 x3 x6 js).path [] = .ok (i1_l0 xs c t c2 t2 ls cc x2 x3) := by kernel_rfl
theorem i1 (hn : 0 < xs.length ∧ xs.length ≤ 1000000) (hc : 0 ≤ c ∧ c ≤ 1000000000) : (i1_t xs c t c2 t2 ls cc x2 x3 x6 js).run = Tr.run (.ok (i1_l0 xs c t c2 t2 ls cc x2 x3)) := by
  exact Tr.run_at (i1_c0 xs c t c2 t2 ls cc x2 x3 x6 js) rfl (i1_p0 xs c t c2 t2 ls cc x2 x3 x6 js)
end
section
variable (xs : List Int) (c : Int) (t : Int) (c2 : Int) (t2 : Int) (ls : List (List Int)) (cc : Int) (a : Int) (x2 : SV) (x3 : SV) (js : Nat → SV)
noncomputable abbrev r1_t : Tr (Lf MObj) := ((ev (codeAt body [true, true, true, false, true, false, false]) ⟨pre x2 x3 false a ++ junk js 34 7, hp1 xs c t c2 t2 ls ++ [(4, some (memA xs cc t))], 5, []⟩).vmap (leaf 7))
noncomputable abbrev r1_l0 : Lf MObj := (Lf.mk (VX.normal) [.s (.one (.ptr 0 0)), .s (.one (.ptr 1 0)), x2, x3, .s (.one (.bool (.lit false))), .s (.one (.ptr 4 0)), .s (.one (.int .i64 (.sym (W (a + 1)))))] 41 [(3, some (VObj.tab [CK.int IntKind.i64, CK.int IntKind.i64, CK.bool] ls 131)), (2, some (VObj.tab [CK.int IntKind.u64] (rowsW xs) 57)), (0, some (.abs (.mem 110 xs c t))), (1, some (.cells [VV.ts 2 (SN.lit 0) (SN.sym (List.length xs)) none, .int .i64 (.sym c2), .int .i64 (.sym t2), VV.ts 3 (SN.lit 0) (SN.sym (List.length ls)) none] 66)), (4, some (.abs (.mem 110 xs (cc + 1) t)))] 5 [4])
theorem r1_c0 : (r1_t xs c t c2 t2 ls cc a x2 x3 js).conds [true, true, true, true, true, false] = [decide (a < (↑(List.length xs) : Int)), okc cc, inb a (List.length xs), decide (0 ≤ a) && decide (a < (↑(List.length xs) : Int)), decide (0 + Int.toNat a < List.length (rowsW xs)), List.getD xs (Int.toNat a) 0 != tabAt (rowsW xs) (0 + Int.toNat a) 0] := by kernel_rfl
theorem r1_p0 : (r1_t xs c t c2 t2 ls cc a x2 x3 js).path [true, true, true, true, true, false] = .ok (r1_l0 xs c t c2 t2 ls cc a x2 x3) := by kernel_rfl
noncomputable abbrev r1_l1 : Lf MObj := (Lf.mk (VX.exit 0) [.s (.one (.ptr 0 0)), .s (.one (.ptr 1 0)), x2, x3, .s (.one (.bool (.lit false))), .s (.one (.ptr 4 0)), .s (.one (.int .i64 (.sym a)))] 41 [(3, some (VObj.tab [CK.int IntKind.i64, CK.int IntKind.i64, CK.bool] ls 131)), (2, some (VObj.tab [CK.int IntKind.u64] (rowsW xs) 57)), (0, some (.abs (.mem 110 xs c t))), (1, some (.cells [VV.ts 2 (SN.lit 0) (SN.sym (List.length xs)) none, .int .i64 (.sym c2), .int .i64 (.sym t2), VV.ts 3 (SN.lit 0) (SN.sym (List.length ls)) none] 66)), (4, some (.abs (.mem 110 xs cc t)))] 5 [])
theorem r1_c1 : (r1_t xs c t c2 t2 ls cc a x2 x3 js).conds [false] = [decide (a < (↑(List.length xs) : Int))] := by kernel_rfl
theorem r1_p1 : (r1_t xs c t c2 t2 ls cc a x2 x3 js).path [false] = .ok (r1_l1 xs c t c2 t2 ls cc a x2 x3) := by kernel_rfl
theorem r1 (hn : 0 < xs.length ∧ xs.length ≤ 1000000) (hc : 0 ≤ c ∧ c ≤ 1000000000) (hcc : 0 ≤ cc ∧ cc ≤ 1001000000) (ha : 0 ≤ a ∧ a ≤ xs.length) : (r1_t xs c t c2 t2 ls cc a x2 x3 js).run = Tr.run (.ite (decide (a < (↑(List.length xs) : Int))) (.ok (r1_l0 xs c t c2 t2 ls cc a x2 x3)) (.ok (r1_l1 xs c t c2 t2 ls cc a x2 x3))) := by
  cases e0 : (decide (a < (↑(List.length xs) : Int))) with
  | true =>
    exact Tr.run_at (r1_c0 xs c t c2 t2 ls cc a x2 x3 js) (cons_eq (e0) (cons_eq (by (simp only [decide_eq_true_eq, Bool.and_eq_true, beq_iff_eq, beq_eq_false_iff_ne, ne_eq, decide_eq_false_iff_not, Nat.ble_eq, rowsW_length, okc_iff, inb_iff] at *; omega)) (cons_eq (by (simp only [decide_eq_true_eq, Bool.and_eq_true, beq_iff_eq, beq_eq_false_iff_ne, ne_eq, decide_eq_false_iff_not, Nat.ble_eq, rowsW_length, okc_iff, inb_iff] at *; omega)) (cons_eq (by simp [*]) (cons_eq (by (simp only [decide_eq_true_eq, Bool.and_eq_true, beq_iff_eq, beq_eq_false_iff_ne, ne_eq, decide_eq_false_iff_not, Nat.ble_eq, rowsW_length, okc_iff, inb_iff] at *; omega)) (cons_eq (by simp [tabAt_rowsW]) rfl)))))) (r1_p0 xs c t c2 t2 ls cc a x2 x3 js)
  | false =>
    exact Tr.run_at (r1_c1 xs c t c2 t2 ls cc a x2 x3 js) (cons_eq (e0) rfl) (r1_p1 xs c t c2 t2 ls cc a x2 x3 js)
end
section
variable (xs : List Int) (c : Int) (t : Int) (c2 : Int) (t2 : Int) (ls : List (List Int)) (cc : Int) (a : Int) (x2 : SV) (x3 : SV) (js : Nat → SV)
noncomputable abbrev f1_t : Tr (Lf MObj) := ((ev (codeAt body [true, true, true, true]) ⟨pre x2 x3 false a ++ junk js 34 7, hp1 xs c t c2 t2 ls ++ [(4, some (memA xs cc t))], 5, []⟩).vmap (leaf 7))
noncomputable abbrev f1_l0 : Lf MObj := (Lf.mk (VX.ret) [.s (.one (.ptr 0 0)), .s (.one (.ptr 1 0)), x2, x3, .s (.one (.bool (.lit true))), .s (.one (.ptr 4 0)), .s (.one (.int .i64 (.sym a)))] 41 [(3, some (VObj.tab [CK.int IntKind.i64, CK.int IntKind.i64, CK.bool] ls 131)), (2, some (VObj.tab [CK.int IntKind.u64] (rowsW xs) 57)), (0, some (.abs (.mem 110 xs c t))), (1, some (.cells [VV.ts 2 (SN.lit 0) (SN.sym (List.length xs)) none, .int .i64 (.sym c2), .int .i64 (.sym t2), VV.ts 3 (SN.lit 0) (SN.sym (List.length ls)) none] 66)), (4, some (.abs (.mem 110 xs cc t)))] 5 [])
theorem f1_c0 : (f1_t xs c t c2 t2 ls cc a x2 x3 js).conds [] = [] := by kernel_rfl
theorem f1_p0 : (f1_t xs c t c2 t2 ls cc a x2 x3 js).path [] = .ok (f1_l0 xs c t c2 t2 ls cc a x2 x3) := by kernel_rfl
theorem f1 (hn : 0 < xs.length ∧ xs.length ≤ 1000000) (hc : 0 ≤ c ∧ c ≤ 1000000000) : (f1_t xs c t c2 t2 ls cc a x2 x3 js).run = Tr.run (.ok (f1_l0 xs c t c2 t2 ls cc a x2 x3)) := by
  exact Tr.run_at (f1_c0 xs c t c2 t2 ls cc a x2 x3 js) rfl (f1_p0 xs c t c2 t2 ls cc a x2 x3 js)
end
end Go.Proofs.YtkbleapcnbphjaaGreat.Same
