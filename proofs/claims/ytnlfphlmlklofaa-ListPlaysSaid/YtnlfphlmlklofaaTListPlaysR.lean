/-
  ListPlays: what the pieces round a worker's step come to.
-/
import Derived.Test.YtnlfphlmlklofaaDListPlays
namespace Go.Proofs.Ytnlfphlmlklofaa.ListPlays
open Go Go.RowKit Go.Proofs.Ytnlfphlmlklofaa.Eng
set_option linter.unusedVariables false
set_option linter.unusedSimpArgs false
set_option maxRecDepth 20000
--TACS "simp [*]", "(simp only [decide_eq_true_eq, Bool.and_eq_true, beq_iff_eq, beq_eq_false_iff_ne, ne_eq, decide_eq_false_iff_not, Nat.ble_eq, rowsW_length, okc_iff, inb_iff] at *; omega)", "(simp; omega)"

section
variable (n0 : Int) (c : Int) (c2 : Int) (t : Int) (np : Nat) (ps : List (List Int)) (ws : List Int) (g : HP Unit) (x9 : SV) (js : Nat → SV)
noncomputable abbrev init_t : Tr (Lf MObj) := ((ev (codeAt body [true, true, true, true, true, true, false, false]) ⟨[.v (ii n0), .v (.an 0 (.sym np)), .t [], .t [], .v (.bool (.lit false)), .v (.bool (.lit true)), .v (.ptr 1 0), .v (.ptr 2 0), .v (.ptr 3 0), x9] ++ junk js 59 10, base ps ws c c2 t (.abs (.grp g)), 4, []⟩).vmap (leaf 10))
noncomputable abbrev init_l0 : Lf MObj := (Lf.mk (VX.normal) [.s (.one (.int .i64 (.sym n0))), .s (.one (VV.an 0 (SN.sym np))), SV.t [], SV.t [], .s (.one (.bool (.lit false))), .s (.one (.bool (.lit true))), .s (.one (.ptr 1 0)), .s (.one (.ptr 2 0)), .s (.one (.ptr 3 0)), .s (.one (.int .i64 (.lit 0)))] 69 [(0, some (VObj.rotab [CK.int IntKind.i64] ps)), (1, some (.abs (.mem 81 ws c t))), (2, some (.abs (.mem 104 ws c2 t))), (3, some (VObj.abs (MObj.grp g)))] 4 [])
theorem init_c0 : (init_t n0 c c2 t np ps ws g x9 js).conds [] = [] := by kernel_rfl
theorem init_p0 : (init_t n0 c c2 t np ps ws g x9 js).path [] = .ok (init_l0 n0 c c2 t np ps ws g) := by kernel_rfl
theorem init (h : 0 ≤ np) : (init_t n0 c c2 t np ps ws g x9 js).run = Tr.run (.ok (init_l0 n0 c c2 t np ps ws g)) := by
  exact Tr.run_at (init_c0 n0 c c2 t np ps ws g x9 js) rfl (init_p0 n0 c c2 t np ps ws g x9 js)
end
section
variable (n0 : Int) (i : Int) (c : Int) (c2 : Int) (t : Int) (np : Nat) (ps : List (List Int)) (ws : List Int) (g : HP Unit) (js : Nat → SV)
noncomputable abbrev rA_t : Tr (Lf MObj) := ((ev (at' [false]) ⟨pre n0 np false i ++ junk js 59 10, base ps ws c c2 t (.abs (.grp g)), 4, []⟩).vmap (leaf 10))
noncomputable abbrev rA_l0 : Lf MObj := (Lf.mk (VX.normal) [.s (.one (.int .i64 (.sym n0))), .s (.one (VV.an 0 (SN.sym np))), SV.t [], SV.t [], .s (.one (.bool (.lit false))), .s (.one (.bool (.lit true))), .s (.one (.ptr 1 0)), .s (.one (.ptr 2 0)), .s (.one (.ptr 3 0)), .s (.one (.int .i64 (.sym i)))] 69 [(0, some (VObj.rotab [CK.int IntKind.i64] ps)), (1, some (.abs (.mem 81 ws c t))), (2, some (.abs (.mem 104 ws c2 t))), (3, some (VObj.abs (MObj.grp g)))] 4 [])
theorem rA_c0 : (rA_t n0 i c c2 t np ps ws g js).conds [true, true] = [decide (i < (↑np : Int)), decide (i < 200)] := by kernel_rfl
theorem rA_p0 : (rA_t n0 i c c2 t np ps ws g js).path [true, true] = .ok (rA_l0 n0 i c c2 t np ps ws g) := by kernel_rfl
noncomputable abbrev rA_l1 : Lf MObj := (Lf.mk (VX.exit 0) [.s (.one (.int .i64 (.sym n0))), .s (.one (VV.an 0 (SN.sym np))), SV.t [], SV.t [], .s (.one (.bool (.lit false))), .s (.one (.bool (.lit true))), .s (.one (.ptr 1 0)), .s (.one (.ptr 2 0)), .s (.one (.ptr 3 0)), .s (.one (.int .i64 (.sym i)))] 69 [(0, some (VObj.rotab [CK.int IntKind.i64] ps)), (1, some (.abs (.mem 81 ws c t))), (2, some (.abs (.mem 104 ws c2 t))), (3, some (VObj.abs (MObj.grp g)))] 4 [])
theorem rA_c1 : (rA_t n0 i c c2 t np ps ws g js).conds [true, false] = [decide (i < (↑np : Int)), decide (i < 200)] := by kernel_rfl
theorem rA_p1 : (rA_t n0 i c c2 t np ps ws g js).path [true, false] = .ok (rA_l1 n0 i c c2 t np ps ws g) := by kernel_rfl
noncomputable abbrev rA_l2 : Lf MObj := (Lf.mk (VX.exit 0) [.s (.one (.int .i64 (.sym n0))), .s (.one (VV.an 0 (SN.sym np))), SV.t [], SV.t [], .s (.one (.bool (.lit false))), .s (.one (.bool (.lit true))), .s (.one (.ptr 1 0)), .s (.one (.ptr 2 0)), .s (.one (.ptr 3 0)), .s (.one (.int .i64 (.sym i)))] 69 [(0, some (VObj.rotab [CK.int IntKind.i64] ps)), (1, some (.abs (.mem 81 ws c t))), (2, some (.abs (.mem 104 ws c2 t))), (3, some (VObj.abs (MObj.grp g)))] 4 [])
theorem rA_c2 : (rA_t n0 i c c2 t np ps ws g js).conds [false] = [decide (i < (↑np : Int))] := by kernel_rfl
theorem rA_p2 : (rA_t n0 i c c2 t np ps ws g js).path [false] = .ok (rA_l2 n0 i c c2 t np ps ws g) := by kernel_rfl
theorem rA (h : 0 ≤ np) : (rA_t n0 i c c2 t np ps ws g js).run = Tr.run (.ite (decide (i < (↑np : Int))) (.ite (decide (i < 200)) (.ok (rA_l0 n0 i c c2 t np ps ws g)) (.ok (rA_l1 n0 i c c2 t np ps ws g))) (.ok (rA_l2 n0 i c c2 t np ps ws g))) := by
  cases e0 : (decide (i < (↑np : Int))) with
  | true =>
    cases e1 : (decide (i < 200)) with
    | true =>
      exact Tr.run_at (rA_c0 n0 i c c2 t np ps ws g js) (cons_eq (e0) (cons_eq (e1) rfl)) (rA_p0 n0 i c c2 t np ps ws g js)
    | false =>
      exact Tr.run_at (rA_c1 n0 i c c2 t np ps ws g js) (cons_eq (e0) (cons_eq (e1) rfl)) (rA_p1 n0 i c c2 t np ps ws g js)
  | false =>
    exact Tr.run_at (rA_c2 n0 i c c2 t np ps ws g js) (cons_eq (e0) rfl) (rA_p2 n0 i c c2 t np ps ws g js)
end
section
variable (n0 : Int) (i : Int) (c : Int) (c2 : Int) (t : Int) (np : Nat) (ps : List (List Int)) (ws : List Int) (g : HP Unit) (js : Nat → SV)
noncomputable abbrev rB_t : Tr (Lf MObj) := ((ev (at' [true, false, false, false]) ⟨pre n0 np false i ++ junk js 59 10, base ps ws c c2 t (.abs (.grp g)), 4, []⟩).vmap (leaf 11))
noncomputable abbrev rB_l0 : Lf MObj := (Lf.mk (VX.normal) [.s (.one (.int .i64 (.sym n0))), .s (.one (VV.an 0 (SN.sym np))), SV.t [], SV.t [], .s (.one (.bool (.lit false))), .s (.one (.bool (.lit true))), .s (.one (.ptr 1 0)), .s (.one (.ptr 2 0)), .s (.one (.ptr 3 0)), .s (.one (.int .i64 (.sym i))), .s (.one (.int .i64 (.lit 0)))] 69 [(0, some (VObj.rotab [CK.int IntKind.i64] ps)), (1, some (.abs (.mem 81 ws c t))), (2, some (.abs (.mem 104 ws c2 t))), (3, some (VObj.abs (MObj.grp g)))] 4 [])
theorem rB_c0 : (rB_t n0 i c c2 t np ps ws g js).conds [true, true, true] = [decide (0 ≤ i) && decide (i < (↑np : Int)), decide (Int.toNat i < List.length ps), kM (tabAt ps (Int.toNat i) 0) 8 == 0] := by kernel_rfl
theorem rB_p0 : (rB_t n0 i c c2 t np ps ws g js).path [true, true, true] = .ok (rB_l0 n0 i c c2 t np ps ws g) := by kernel_rfl
noncomputable abbrev rB_l1 : Lf MObj := (Lf.mk (VX.normal) [.s (.one (.int .i64 (.sym n0))), .s (.one (VV.an 0 (SN.sym np))), SV.t [], SV.t [], .s (.one (.bool (.lit false))), .s (.one (.bool (.lit true))), .s (.one (.ptr 1 0)), .s (.one (.ptr 2 0)), .s (.one (.ptr 3 0)), .s (.one (.int .i64 (.sym i))), .s (.one (.int .i64 (.lit 1)))] 69 [(0, some (VObj.rotab [CK.int IntKind.i64] ps)), (1, some (.abs (.mem 81 ws c t))), (2, some (.abs (.mem 104 ws c2 t))), (3, some (VObj.abs (MObj.grp g)))] 4 [])
theorem rB_c1 : (rB_t n0 i c c2 t np ps ws g js).conds [true, true, false, true] = [decide (0 ≤ i) && decide (i < (↑np : Int)), decide (Int.toNat i < List.length ps), kM (tabAt ps (Int.toNat i) 0) 8 == 0, kM (tabAt ps (Int.toNat i) 0) 8 == 1] := by kernel_rfl
theorem rB_p1 : (rB_t n0 i c c2 t np ps ws g js).path [true, true, false, true] = .ok (rB_l1 n0 i c c2 t np ps ws g) := by kernel_rfl
noncomputable abbrev rB_l2 : Lf MObj := (Lf.mk (VX.normal) [.s (.one (.int .i64 (.sym n0))), .s (.one (VV.an 0 (SN.sym np))), SV.t [], SV.t [], .s (.one (.bool (.lit false))), .s (.one (.bool (.lit true))), .s (.one (.ptr 1 0)), .s (.one (.ptr 2 0)), .s (.one (.ptr 3 0)), .s (.one (.int .i64 (.sym i))), .s (.one (.int .i64 (.lit 2)))] 69 [(0, some (VObj.rotab [CK.int IntKind.i64] ps)), (1, some (.abs (.mem 81 ws c t))), (2, some (.abs (.mem 104 ws c2 t))), (3, some (VObj.abs (MObj.grp g)))] 4 [])
theorem rB_c2 : (rB_t n0 i c c2 t np ps ws g js).conds [true, true, false, false, true] = [decide (0 ≤ i) && decide (i < (↑np : Int)), decide (Int.toNat i < List.length ps), kM (tabAt ps (Int.toNat i) 0) 8 == 0, kM (tabAt ps (Int.toNat i) 0) 8 == 1, kM (tabAt ps (Int.toNat i) 0) 8 == 2] := by kernel_rfl
theorem rB_p2 : (rB_t n0 i c c2 t np ps ws g js).path [true, true, false, false, true] = .ok (rB_l2 n0 i c c2 t np ps ws g) := by kernel_rfl
noncomputable abbrev rB_l3 : Lf MObj := (Lf.mk (VX.normal) [.s (.one (.int .i64 (.sym n0))), .s (.one (VV.an 0 (SN.sym np))), SV.t [], SV.t [], .s (.one (.bool (.lit false))), .s (.one (.bool (.lit true))), .s (.one (.ptr 1 0)), .s (.one (.ptr 2 0)), .s (.one (.ptr 3 0)), .s (.one (.int .i64 (.sym i))), .s (.one (.int .i64 (.lit 3)))] 69 [(0, some (VObj.rotab [CK.int IntKind.i64] ps)), (1, some (.abs (.mem 81 ws c t))), (2, some (.abs (.mem 104 ws c2 t))), (3, some (VObj.abs (MObj.grp g)))] 4 [])
theorem rB_c3 : (rB_t n0 i c c2 t np ps ws g js).conds [true, true, false, false, false, true] = [decide (0 ≤ i) && decide (i < (↑np : Int)), decide (Int.toNat i < List.length ps), kM (tabAt ps (Int.toNat i) 0) 8 == 0, kM (tabAt ps (Int.toNat i) 0) 8 == 1, kM (tabAt ps (Int.toNat i) 0) 8 == 2, kM (tabAt ps (Int.toNat i) 0) 8 == 3] := by kernel_rfl
theorem rB_p3 : (rB_t n0 i c c2 t np ps ws g js).path [true, true, false, false, false, true] = .ok (rB_l3 n0 i c c2 t np ps ws g) := by kernel_rfl
noncomputable abbrev rB_l4 : Lf MObj := (Lf.mk (VX.normal) [.s (.one (.int .i64 (.sym n0))), .s (.one (VV.an 0 (SN.sym np))), SV.t [], SV.t [], .s (.one (.bool (.lit false))), .s (.one (.bool (.lit true))), .s (.one (.ptr 1 0)), .s (.one (.ptr 2 0)), .s (.one (.ptr 3 0)), .s (.one (.int .i64 (.sym i))), .s (.one (.int .i64 (.lit 4)))] 69 [(0, some (VObj.rotab [CK.int IntKind.i64] ps)), (1, some (.abs (.mem 81 ws c t))), (2, some (.abs (.mem 104 ws c2 t))), (3, some (VObj.abs (MObj.grp g)))] 4 [])
theorem rB_c4 : (rB_t n0 i c c2 t np ps ws g js).conds [true, true, false, false, false, false, true] = [decide (0 ≤ i) && decide (i < (↑np : Int)), decide (Int.toNat i < List.length ps), kM (tabAt ps (Int.toNat i) 0) 8 == 0, kM (tabAt ps (Int.toNat i) 0) 8 == 1, kM (tabAt ps (Int.toNat i) 0) 8 == 2, kM (tabAt ps (Int.toNat i) 0) 8 == 3, kM (tabAt ps (Int.toNat i) 0) 8 == 4] := by kernel_rfl
theorem rB_p4 : (rB_t n0 i c c2 t np ps ws g js).path [true, true, false, false, false, false, true] = .ok (rB_l4 n0 i c c2 t np ps ws g) := by kernel_rfl
noncomputable abbrev rB_l5 : Lf MObj := (Lf.mk (VX.normal) [.s (.one (.int .i64 (.sym n0))), .s (.one (VV.an 0 (SN.sym np))), SV.t [], SV.t [], .s (.one (.bool (.lit false))), .s (.one (.bool (.lit true))), .s (.one (.ptr 1 0)), .s (.one (.ptr 2 0)), .s (.one (.ptr 3 0)), .s (.one (.int .i64 (.sym i))), .s (.one (.int .i64 (.lit 5)))] 69 [(0, some (VObj.rotab [CK.int IntKind.i64] ps)), (1, some (.abs (.mem 81 ws c t))), (2, some (.abs (.mem 104 ws c2 t))), (3, some (VObj.abs (MObj.grp g)))] 4 [])
theorem rB_c5 : (rB_t n0 i c c2 t np ps ws g js).conds [true, true, false, false, false, false, false, true] = [decide (0 ≤ i) && decide (i < (↑np : Int)), decide (Int.toNat i < List.length ps), kM (tabAt ps (Int.toNat i) 0) 8 == 0, kM (tabAt ps (Int.toNat i) 0) 8 == 1, kM (tabAt ps (Int.toNat i) 0) 8 == 2, kM (tabAt ps (Int.toNat i) 0) 8 == 3, kM (tabAt ps (Int.toNat i) 0) 8 == 4, kM (tabAt ps (Int.toNat i) 0) 8 == 5] := by kernel_rfl
theorem rB_p5 : (rB_t n0 i c c2 t np ps ws g js).path [true, true, false, false, false, false, false, true] = .ok (rB_l5 n0 i c c2 t np ps ws g) := by kernel_rfl
noncomputable abbrev rB_l6 : Lf MObj := (Lf.mk (VX.normal) [.s (.one (.int .i64 (.sym n0))), .s (.one (VV.an 0 (SN.sym np))), SV.t [], SV.t [], .s (.one (.bool (.lit false))), .s (.one (.bool (.lit true))), .s (.one (.ptr 1 0)), .s (.one (.ptr 2 0)), .s (.one (.ptr 3 0)), .s (.one (.int .i64 (.sym i))), .s (.one (.int .i64 (.lit 6)))] 69 [(0, some (VObj.rotab [CK.int IntKind.i64] ps)), (1, some (.abs (.mem 81 ws c t))), (2, some (.abs (.mem 104 ws c2 t))), (3, some (VObj.abs (MObj.grp g)))] 4 [])
theorem rB_c6 : (rB_t n0 i c c2 t np ps ws g js).conds [true, true, false, false, false, false, false, false, true] = [decide (0 ≤ i) && decide (i < (↑np : Int)), decide (Int.toNat i < List.length ps), kM (tabAt ps (Int.toNat i) 0) 8 == 0, kM (tabAt ps (Int.toNat i) 0) 8 == 1, kM (tabAt ps (Int.toNat i) 0) 8 == 2, kM (tabAt ps (Int.toNat i) 0) 8 == 3, kM (tabAt ps (Int.toNat i) 0) 8 == 4, kM (tabAt ps (Int.toNat i) 0) 8 == 5, kM (tabAt ps (Int.toNat i) 0) 8 == 6] := by kernel_rfl
theorem rB_p6 : (rB_t n0 i c c2 t np ps ws g js).path [true, true, false, false, false, false, false, false, true] = .ok (rB_l6 n0 i c c2 t np ps ws g) := by kernel_rfl
noncomputable abbrev rB_l7 : Lf MObj := (Lf.mk (VX.normal) [.s (.one (.int .i64 (.sym n0))), .s (.one (VV.an 0 (SN.sym np))), SV.t [], SV.t [], .s (.one (.bool (.lit false))), .s (.one (.bool (.lit true))), .s (.one (.ptr 1 0)), .s (.one (.ptr 2 0)), .s (.one (.ptr 3 0)), .s (.one (.int .i64 (.sym i))), .s (.one (.int .i64 (.lit 7)))] 69 [(0, some (VObj.rotab [CK.int IntKind.i64] ps)), (1, some (.abs (.mem 81 ws c t))), (2, some (.abs (.mem 104 ws c2 t))), (3, some (VObj.abs (MObj.grp g)))] 4 [])
theorem rB_c7 : (rB_t n0 i c c2 t np ps ws g js).conds [true, true, false, false, false, false, false, false, false, true] = [decide (0 ≤ i) && decide (i < (↑np : Int)), decide (Int.toNat i < List.length ps), kM (tabAt ps (Int.toNat i) 0) 8 == 0, kM (tabAt ps (Int.toNat i) 0) 8 == 1, kM (tabAt ps (Int.toNat i) 0) 8 == 2, kM (tabAt ps (Int.toNat i) 0) 8 == 3, kM (tabAt ps (Int.toNat i) 0) 8 == 4, kM (tabAt ps (Int.toNat i) 0) 8 == 5, kM (tabAt ps (Int.toNat i) 0) 8 == 6, kM (tabAt ps (Int.toNat i) 0) 8 == 7] := by kernel_rfl
theorem rB_p7 : (rB_t n0 i c c2 t np ps ws g js).path [true, true, false, false, false, false, false, false, false, true] = .ok (rB_l7 n0 i c c2 t np ps ws g) := by kernel_rfl
theorem rB (hi : 0 ≤ i) (hlt : i < np) (hn : np = ps.length) (hk : 0 ≤ kM (tabAt ps (Int.toNat i) 0) 8 ∧ kM (tabAt ps (Int.toNat i) 0) 8 < 8) : (rB_t n0 i c c2 t np ps ws g js).run = Tr.run (.ite (kM (tabAt ps (Int.toNat i) 0) 8 == 0) (.ok (rB_l0 n0 i c c2 t np ps ws g)) (.ite (kM (tabAt ps (Int.toNat i) 0) 8 == 1) (.ok (rB_l1 n0 i c c2 t np ps ws g)) (.ite (kM (tabAt ps (Int.toNat i) 0) 8 == 2) (.ok (rB_l2 n0 i c c2 t np ps ws g)) (.ite (kM (tabAt ps (Int.toNat i) 0) 8 == 3) (.ok (rB_l3 n0 i c c2 t np ps ws g)) (.ite (kM (tabAt ps (Int.toNat i) 0) 8 == 4) (.ok (rB_l4 n0 i c c2 t np ps ws g)) (.ite (kM (tabAt ps (Int.toNat i) 0) 8 == 5) (.ok (rB_l5 n0 i c c2 t np ps ws g)) (.ite (kM (tabAt ps (Int.toNat i) 0) 8 == 6) (.ok (rB_l6 n0 i c c2 t np ps ws g)) (.ok (rB_l7 n0 i c c2 t np ps ws g))))))))) := by
  cases e0 : (kM (tabAt ps (Int.toNat i) 0) 8 == 0) with
  | true =>
    exact Tr.run_at (rB_c0 n0 i c c2 t np ps ws g js) (cons_eq (by (simp only [decide_eq_true_eq, Bool.and_eq_true, beq_iff_eq, beq_eq_false_iff_ne, ne_eq, decide_eq_false_iff_not, Nat.ble_eq, rowsW_length, okc_iff, inb_iff] at *; omega)) (cons_eq (by (simp only [decide_eq_true_eq, Bool.and_eq_true, beq_iff_eq, beq_eq_false_iff_ne, ne_eq, decide_eq_false_iff_not, Nat.ble_eq, rowsW_length, okc_iff, inb_iff] at *; omega)) (cons_eq (e0) rfl))) (rB_p0 n0 i c c2 t np ps ws g js)
  | false =>
    cases e1 : (kM (tabAt ps (Int.toNat i) 0) 8 == 1) with
    | true =>
      exact Tr.run_at (rB_c1 n0 i c c2 t np ps ws g js) (cons_eq (by (simp only [decide_eq_true_eq, Bool.and_eq_true, beq_iff_eq, beq_eq_false_iff_ne, ne_eq, decide_eq_false_iff_not, Nat.ble_eq, rowsW_length, okc_iff, inb_iff] at *; omega)) (cons_eq (by (simp only [decide_eq_true_eq, Bool.and_eq_true, beq_iff_eq, beq_eq_false_iff_ne, ne_eq, decide_eq_false_iff_not, Nat.ble_eq, rowsW_length, okc_iff, inb_iff] at *; omega)) (cons_eq (e0) (cons_eq (e1) rfl)))) (rB_p1 n0 i c c2 t np ps ws g js)
    | false =>
      cases e2 : (kM (tabAt ps (Int.toNat i) 0) 8 == 2) with
      | true =>
        exact Tr.run_at (rB_c2 n0 i c c2 t np ps ws g js) (cons_eq (by (simp only [decide_eq_true_eq, Bool.and_eq_true, beq_iff_eq, beq_eq_false_iff_ne, ne_eq, decide_eq_false_iff_not, Nat.ble_eq, rowsW_length, okc_iff, inb_iff] at *; omega)) (cons_eq (by (simp only [decide_eq_true_eq, Bool.and_eq_true, beq_iff_eq, beq_eq_false_iff_ne, ne_eq, decide_eq_false_iff_not, Nat.ble_eq, rowsW_length, okc_iff, inb_iff] at *; omega)) (cons_eq (e0) (cons_eq (e1) (cons_eq (e2) rfl))))) (rB_p2 n0 i c c2 t np ps ws g js)
      | false =>
        cases e3 : (kM (tabAt ps (Int.toNat i) 0) 8 == 3) with
        | true =>
          exact Tr.run_at (rB_c3 n0 i c c2 t np ps ws g js) (cons_eq (by (simp only [decide_eq_true_eq, Bool.and_eq_true, beq_iff_eq, beq_eq_false_iff_ne, ne_eq, decide_eq_false_iff_not, Nat.ble_eq, rowsW_length, okc_iff, inb_iff] at *; omega)) (cons_eq (by (simp only [decide_eq_true_eq, Bool.and_eq_true, beq_iff_eq, beq_eq_false_iff_ne, ne_eq, decide_eq_false_iff_not, Nat.ble_eq, rowsW_length, okc_iff, inb_iff] at *; omega)) (cons_eq (e0) (cons_eq (e1) (cons_eq (e2) (cons_eq (e3) rfl)))))) (rB_p3 n0 i c c2 t np ps ws g js)
        | false =>
          cases e4 : (kM (tabAt ps (Int.toNat i) 0) 8 == 4) with
          | true =>
            exact Tr.run_at (rB_c4 n0 i c c2 t np ps ws g js) (cons_eq (by (simp only [decide_eq_true_eq, Bool.and_eq_true, beq_iff_eq, beq_eq_false_iff_ne, ne_eq, decide_eq_false_iff_not, Nat.ble_eq, rowsW_length, okc_iff, inb_iff] at *; omega)) (cons_eq (by (simp only [decide_eq_true_eq, Bool.and_eq_true, beq_iff_eq, beq_eq_false_iff_ne, ne_eq, decide_eq_false_iff_not, Nat.ble_eq, rowsW_length, okc_iff, inb_iff] at *; omega)) (cons_eq (e0) (cons_eq (e1) (cons_eq (e2) (cons_eq (e3) (cons_eq (e4) rfl))))))) (rB_p4 n0 i c c2 t np ps ws g js)
          | false =>
            cases e5 : (kM (tabAt ps (Int.toNat i) 0) 8 == 5) with
            | true =>
              exact Tr.run_at (rB_c5 n0 i c c2 t np ps ws g js) (cons_eq (by (simp only [decide_eq_true_eq, Bool.and_eq_true, beq_iff_eq, beq_eq_false_iff_ne, ne_eq, decide_eq_false_iff_not, Nat.ble_eq, rowsW_length, okc_iff, inb_iff] at *; omega)) (cons_eq (by (simp only [decide_eq_true_eq, Bool.and_eq_true, beq_iff_eq, beq_eq_false_iff_ne, ne_eq, decide_eq_false_iff_not, Nat.ble_eq, rowsW_length, okc_iff, inb_iff] at *; omega)) (cons_eq (e0) (cons_eq (e1) (cons_eq (e2) (cons_eq (e3) (cons_eq (e4) (cons_eq (e5) rfl)))))))) (rB_p5 n0 i c c2 t np ps ws g js)
            | false =>
              cases e6 : (kM (tabAt ps (Int.toNat i) 0) 8 == 6) with
              | true =>
                exact Tr.run_at (rB_c6 n0 i c c2 t np ps ws g js) (cons_eq (by (simp only [decide_eq_true_eq, Bool.and_eq_true, beq_iff_eq, beq_eq_false_iff_ne, ne_eq, decide_eq_false_iff_not, Nat.ble_eq, rowsW_length, okc_iff, inb_iff] at *; omega)) (cons_eq (by (simp only [decide_eq_true_eq, Bool.and_eq_true, beq_iff_eq, beq_eq_false_iff_ne, ne_eq, decide_eq_false_iff_not, Nat.ble_eq, rowsW_length, okc_iff, inb_iff] at *; omega)) (cons_eq (e0) (cons_eq (e1) (cons_eq (e2) (cons_eq (e3) (cons_eq (e4) (cons_eq (e5) (cons_eq (e6) rfl))))))))) (rB_p6 n0 i c c2 t np ps ws g js)
              | false =>
                exact Tr.run_at (rB_c7 n0 i c c2 t np ps ws g js) (cons_eq (by (simp only [decide_eq_true_eq, Bool.and_eq_true, beq_iff_eq, beq_eq_false_iff_ne, ne_eq, decide_eq_false_iff_not, Nat.ble_eq, rowsW_length, okc_iff, inb_iff] at *; omega)) (cons_eq (by (simp only [decide_eq_true_eq, Bool.and_eq_true, beq_iff_eq, beq_eq_false_iff_ne, ne_eq, decide_eq_false_iff_not, Nat.ble_eq, rowsW_length, okc_iff, inb_iff] at *; omega)) (cons_eq (e0) (cons_eq (e1) (cons_eq (e2) (cons_eq (e3) (cons_eq (e4) (cons_eq (e5) (cons_eq (e6) (cons_eq (by (simp only [decide_eq_true_eq, Bool.and_eq_true, beq_iff_eq, beq_eq_false_iff_ne, ne_eq, decide_eq_false_iff_not, Nat.ble_eq, rowsW_length, okc_iff, inb_iff] at *; omega)) rfl)))))))))) (rB_p7 n0 i c c2 t np ps ws g js)
end
section
variable (n0 : Int) (i : Int) (c : Int) (c2 : Int) (t : Int) (np : Nat) (ps : List (List Int)) (ws : List Int) (g : HP Unit) (js : Nat → SV)
noncomputable abbrev rS_t : Tr (Lf MObj) := ((ev (at' [true, false, false, true, true, true, true, true]) ⟨pre n0 np false i ++ junk js 59 10, base ps ws c c2 t (.abs (.grp g)), 4, []⟩).vmap (leaf 10))
noncomputable abbrev rS_l0 : Lf MObj := (Lf.mk (VX.normal) [.s (.one (.int .i64 (.sym n0))), .s (.one (VV.an 0 (SN.sym np))), SV.t [], SV.t [], .s (.one (.bool (.lit false))), .s (.one (.bool (.lit true))), .s (.one (.ptr 1 0)), .s (.one (.ptr 2 0)), .s (.one (.ptr 3 0)), .s (.one (.int .i64 (.sym i)))] 69 [(0, some (VObj.rotab [CK.int IntKind.i64] ps)), (1, some (.abs (.mem 81 ws c t))), (2, some (.abs (.mem 104 ws c2 t))), (3, some (VObj.abs (MObj.grp g)))] 4 [1, 2])
theorem rS_c0 : (rS_t n0 i c c2 t np ps ws g js).conds [true, true] = [Int.tmod i 16 == 0, decide (ws = ws) && (decide (t = t) && (decide (0 < List.length ws) && (decide (List.length ws ≤ 1000000) && (decide (0 ≤ c) && decide (c ≤ 1000000000)))))] := by kernel_rfl
theorem rS_p0 : (rS_t n0 i c c2 t np ps ws g js).path [true, true] = .ok (rS_l0 n0 i c c2 t np ps ws g) := by kernel_rfl
noncomputable abbrev rS_l1 : Lf MObj := (Lf.mk (VX.normal) [.s (.one (.int .i64 (.sym n0))), .s (.one (VV.an 0 (SN.sym np))), SV.t [], SV.t [], .s (.one (.bool (.lit false))), .s (.one (.bool (.lit true))), .s (.one (.ptr 1 0)), .s (.one (.ptr 2 0)), .s (.one (.ptr 3 0)), .s (.one (.int .i64 (.sym i)))] 69 [(0, some (VObj.rotab [CK.int IntKind.i64] ps)), (1, some (.abs (.mem 81 ws c t))), (2, some (.abs (.mem 104 ws c2 t))), (3, some (VObj.abs (MObj.grp g)))] 4 [])
theorem rS_c1 : (rS_t n0 i c c2 t np ps ws g js).conds [false] = [Int.tmod i 16 == 0] := by kernel_rfl
theorem rS_p1 : (rS_t n0 i c c2 t np ps ws g js).path [false] = .ok (rS_l1 n0 i c c2 t np ps ws g) := by kernel_rfl
theorem rS (hw : ws.length = 160) (hc : 0 ≤ c ∧ c ≤ 1000000) : (rS_t n0 i c c2 t np ps ws g js).run = Tr.run (.ite (Int.tmod i 16 == 0) (.ok (rS_l0 n0 i c c2 t np ps ws g)) (.ok (rS_l1 n0 i c c2 t np ps ws g))) := by
  cases e0 : (Int.tmod i 16 == 0) with
  | true =>
    exact Tr.run_at (rS_c0 n0 i c c2 t np ps ws g js) (cons_eq (e0) (cons_eq (by (simp; omega)) rfl)) (rS_p0 n0 i c c2 t np ps ws g js)
  | false =>
    exact Tr.run_at (rS_c1 n0 i c c2 t np ps ws g js) (cons_eq (e0) rfl) (rS_p1 n0 i c c2 t np ps ws g js)
end
section
variable (n0 : Int) (i : Int) (c : Int) (c2 : Int) (t : Int) (np : Nat) (ps : List (List Int)) (ws : List Int) (g : HP Unit) (js : Nat → SV)
noncomputable abbrev rE_t : Tr (Lf MObj) := ((ev (at' [true, true]) ⟨pre n0 np false i ++ junk js 59 10, base ps ws c c2 t (.abs (.grp g)), 4, []⟩).vmap (leaf 10))
noncomputable abbrev rE_l0 : Lf MObj := (Lf.mk (VX.normal) [.s (.one (.int .i64 (.sym n0))), .s (.one (VV.an 0 (SN.sym np))), SV.t [], SV.t [], .s (.one (.bool (.lit false))), .s (.one (.bool (.lit true))), .s (.one (.ptr 1 0)), .s (.one (.ptr 2 0)), .s (.one (.ptr 3 0)), .s (.one (.int .i64 (.sym (W (i + 1)))))] 69 [(0, some (VObj.rotab [CK.int IntKind.i64] ps)), (1, some (.abs (.mem 81 ws c t))), (2, some (.abs (.mem 104 ws c2 t))), (3, some (VObj.abs (MObj.grp g)))] 4 [])
theorem rE_c0 : (rE_t n0 i c c2 t np ps ws g js).conds [] = [] := by kernel_rfl
theorem rE_p0 : (rE_t n0 i c c2 t np ps ws g js).path [] = .ok (rE_l0 n0 i c c2 t np ps ws g) := by kernel_rfl
theorem rE (h : 0 ≤ np) : (rE_t n0 i c c2 t np ps ws g js).run = Tr.run (.ok (rE_l0 n0 i c c2 t np ps ws g)) := by
  exact Tr.run_at (rE_c0 n0 i c c2 t np ps ws g js) rfl (rE_p0 n0 i c c2 t np ps ws g js)
end
section
variable (n0 : Int) (i : Int) (c : Int) (c2 : Int) (t : Int) (np : Nat) (ps : List (List Int)) (ws : List Int) (g : HP Unit) (js : Nat → SV)
noncomputable abbrev fin_t : Tr (Lf MObj) := ((ev (codeAt body [true, true, true, true, true, true, true]) ⟨pre n0 np false i ++ junk js 59 10, base ps ws c c2 t (.abs (.grp g)), 4, []⟩).vmap (leaf 10))
noncomputable abbrev fin_l0 : Lf MObj := (Lf.mk (VX.ret) [.s (.one (.int .i64 (.sym n0))), .s (.one (VV.an 0 (SN.sym np))), SV.t [], SV.t [], .s (.one (.bool (.lit true))), .s (.one (.bool (.lit true))), .s (.one (.ptr 1 0)), .s (.one (.ptr 2 0)), .s (.one (.ptr 3 0)), .s (.one (.int .i64 (.sym i)))] 69 [(0, some (VObj.rotab [CK.int IntKind.i64] ps)), (1, some (.abs (.mem 81 ws c t))), (2, some (.abs (.mem 104 ws c2 t))), (3, some (VObj.abs (MObj.grp g)))] 4 [1, 2])
theorem fin_c0 : (fin_t n0 i c c2 t np ps ws g js).conds [true] = [decide (ws = ws) && (decide (t = t) && (decide (0 < List.length ws) && (decide (List.length ws ≤ 1000000) && (decide (0 ≤ c) && decide (c ≤ 1000000000)))))] := by kernel_rfl
theorem fin_p0 : (fin_t n0 i c c2 t np ps ws g js).path [true] = .ok (fin_l0 n0 i c c2 t np ps ws g) := by kernel_rfl
theorem fin (hw : ws.length = 160) (hc : 0 ≤ c ∧ c ≤ 1000000) : (fin_t n0 i c c2 t np ps ws g js).run = Tr.run (.ok (fin_l0 n0 i c c2 t np ps ws g)) := by
  exact Tr.run_at (fin_c0 n0 i c c2 t np ps ws g js) (cons_eq (by (simp; omega)) rfl) (fin_p0 n0 i c c2 t np ps ws g js)
end
end Go.Proofs.Ytnlfphlmlklofaa.ListPlays
