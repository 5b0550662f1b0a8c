/-
  CarvePlays: the pieces round a step.
-/
import Derived.Test.YtmncbdalaimmhaaTCarvePlays0
namespace Go.Proofs.Ytmncbdalaimmhaa.CarvePlays
open Go Go.RowKit Go.Proofs.Ytmncbdalaimmhaa.Eng
set_option linter.unusedVariables false
set_option linter.unusedSimpArgs false
set_option linter.unusedSectionVars false
set_option maxRecDepth 20000
abbrev pre (n : Int) (np : Nat) (i : Int) : List SV := [.v (ii n), .v (.an 0 (.sym np)), .t [], .t [], .v (.bool (.lit false)), .v (.bool (.lit true)), .v (.ptr 1 0), .v (.int .i64 (.lit 0)), .v (.ptr 2 0), .v (.ptr 3 0), .v (.ptr 4 0), .v (ii i)]
abbrev pl (B p4 : Int) : List VV := [ii 4, ii B, ii 14, ii 32, ii p4]
/-- The program's Take and Give, the document's; Pushes of both. -/
abbrev tk (nx : VV) (B p4 cl st w b e kk : Int) (ps : VV) : VObj MObj := .cells ([nx] ++ pl B p4 ++ [ii cl, ii st, uu w, ii b, uu e, ii kk, ps, ii 0]) 55
abbrev rt (B p4 cl st pc kk w e : Int) (ps : VV) : VObj MObj := .cells (pl B p4 ++ [ii cl, ii st, .int .i64 (.lit pc), ii kk, uu w, uu e, ps, ii 0]) 75
abbrev pu (nx : VV) (hd fi la cl w : Int) : VObj MObj := .cells [nx, ii hd, ii fi, ii la, ii cl, uu w] 135
abbrev ru (hd fi la cl pc w : Int) : VObj MObj := .cells [ii hd, ii fi, ii la, ii cl, .int .i64 (.lit pc), uu w] 120
abbrev gv (nx : VV) (B p4 b w : Int) : VObj MObj := .cells ([nx] ++ pl B p4 ++ [ii b, uu w]) 78
abbrev rg (B p4 b pc w : Int) : VObj MObj := .cells (pl B p4 ++ [ii b, .int .i64 (.lit pc), uu w]) 99
abbrev base (ps : List (List Int)) (B p4 : Int) (xs : List Int) (c c2 t : Int) (o : VObj MObj) : HP MObj := [(0, some (.rotab [.int .i64] ps)), (1, some (.cells (pl B p4) 25)), (2, some (.abs (.mem 95 xs c t))), (3, some (.abs (.mem 68 xs c2 t))), (4, some o)]
/-- The cells of all workers: those of the worker q, and the others' (raw). -/
abbrev WC (q : Nat) (x0 x1 x2 x3 x4 : VV) (vs : Nat → Value) : List VV := match q with
  | 0 => [x0, x1, x2, x3, x4, .raw (vs 5), .raw (vs 6), .raw (vs 7), .raw (vs 8), .raw (vs 9), .raw (vs 10), .raw (vs 11), .raw (vs 12), .raw (vs 13), .raw (vs 14), .raw (vs 15), .raw (vs 16), .raw (vs 17), .raw (vs 18), .raw (vs 19)]
  | 1 => [.raw (vs 0), .raw (vs 1), .raw (vs 2), .raw (vs 3), .raw (vs 4), x0, x1, x2, x3, x4, .raw (vs 10), .raw (vs 11), .raw (vs 12), .raw (vs 13), .raw (vs 14), .raw (vs 15), .raw (vs 16), .raw (vs 17), .raw (vs 18), .raw (vs 19)]
  | 2 => [.raw (vs 0), .raw (vs 1), .raw (vs 2), .raw (vs 3), .raw (vs 4), .raw (vs 5), .raw (vs 6), .raw (vs 7), .raw (vs 8), .raw (vs 9), x0, x1, x2, x3, x4, .raw (vs 15), .raw (vs 16), .raw (vs 17), .raw (vs 18), .raw (vs 19)]
  | _ => [.raw (vs 0), .raw (vs 1), .raw (vs 2), .raw (vs 3), .raw (vs 4), .raw (vs 5), .raw (vs 6), .raw (vs 7), .raw (vs 8), .raw (vs 9), .raw (vs 10), .raw (vs 11), .raw (vs 12), .raw (vs 13), .raw (vs 14), x0, x1, x2, x3, x4]
theorem wrap64 (x : Int) : IntKind.i64.wrap x = (x + 9223372036854775808) % 18446744073709551616 - 9223372036854775808 := by
  rw [wrap_i64']
  split <;> omega
--TACS "assumption", "(simp only [W, wrap64, okc_iff, decide_eq_true_eq, Bool.and_eq_true, ne_eq, decide_eq_false_iff_not, Nat.ble_eq, List.length_set]; omega)", "(simp only [decide_eq_true_eq, Bool.and_eq_true, eq_self, true_and]; omega)", "simp [*]", "(simp only [W, wrap64, okc_iff, decide_eq_true_eq, decide_eq_false_iff_not, beq_iff_eq, beq_eq_false_iff_ne, Bool.and_eq_true] at *; omega)"
--SHORT

section
variable (n : Int) (B : Int) (p4 : Int) (c : Int) (c2 : Int) (t : Int) (np : Nat) (ps : List (List Int)) (xs : List Int) (o : VObj MObj) (x11 : SV) (js : Nat → SV)
noncomputable abbrev init_t : Tr (Lf MObj) := ((ev (codeAt body [true, true, true, true, true, true, false, false]) ⟨List.take 11 (pre n np 0) ++ [x11] ++ junk js 70 12, base ps B p4 xs c c2 t o, 5, []⟩).vmap (leaf 12))
noncomputable abbrev init_l0 : Lf MObj := (Lf.mk (VX.normal) [.s (.one (.int .i64 (.sym n))), .s (.one (VV.an 0 (SN.sym np))), SV.t [], SV.t [], .s (.one (.bool (.lit false))), .s (.one (.bool (.lit true))), .s (.one (.ptr 1 0)), .s (.one (.int .i64 (.lit 0))), .s (.one (.ptr 2 0)), .s (.one (.ptr 3 0)), .s (.one (.ptr 4 0)), .s (.one (.int .i64 (.lit 0)))] 82 [(0, some (VObj.rotab [CK.int IntKind.i64] ps)), (1, some (.cells [.int .i64 (.sym 4), .int .i64 (.sym B), .int .i64 (.sym 14), .int .i64 (.sym 32), .int .i64 (.sym p4)] 25)), (2, some (.abs (.mem 95 xs c t))), (3, some (.abs (.mem 68 xs c2 t))), (4, some o)] 5 [])
theorem init_c0 : (init_t n B p4 c c2 t np ps xs o x11 js).conds [] = [] := by kernel_rfl
theorem init_p0 : (init_t n B p4 c c2 t np ps xs o x11 js).path [] = .ok (init_l0 n B p4 c c2 t np ps xs o) := by kernel_rfl
theorem init (hx : (xs.length : Int) = 32 + 32 * B) (hp4 : p4 = 32 + 32 * B) (hB : 1 ≤ B ∧ B ≤ 8) (hc : 0 ≤ c ∧ c ≤ 100000) (hc2 : 0 ≤ c2 ∧ c2 ≤ 100000) : (init_t n B p4 c c2 t np ps xs o x11 js).run = Tr.run (.ok (init_l0 n B p4 c c2 t np ps xs o)) := by
  exact Tr.run_at (init_c0 n B p4 c c2 t np ps xs o x11 js) rfl (init_p0 n B p4 c c2 t np ps xs o x11 js)
end
section
variable (n : Int) (i : Int) (B : Int) (p4 : Int) (c : Int) (c2 : Int) (t : Int) (np : Nat) (ps : List (List Int)) (xs : List Int) (o : VObj MObj) (js : Nat → SV)
noncomputable abbrev g_t : Tr (Lf MObj) := ((ev (at' [false]) ⟨pre n np i ++ junk js 70 12, base ps B p4 xs c c2 t o, 5, []⟩).vmap (leaf 12))
noncomputable abbrev g_l0 : Lf MObj := (Lf.mk (VX.normal) [.s (.one (.int .i64 (.sym n))), .s (.one (VV.an 0 (SN.sym np))), SV.t [], SV.t [], .s (.one (.bool (.lit false))), .s (.one (.bool (.lit true))), .s (.one (.ptr 1 0)), .s (.one (.int .i64 (.lit 0))), .s (.one (.ptr 2 0)), .s (.one (.ptr 3 0)), .s (.one (.ptr 4 0)), .s (.one (.int .i64 (.sym i)))] 82 [(0, some (VObj.rotab [CK.int IntKind.i64] ps)), (1, some (.cells [.int .i64 (.sym 4), .int .i64 (.sym B), .int .i64 (.sym 14), .int .i64 (.sym 32), .int .i64 (.sym p4)] 25)), (2, some (.abs (.mem 95 xs c t))), (3, some (.abs (.mem 68 xs c2 t))), (4, some o)] 5 [])
theorem g_c0 : (g_t n i B p4 c c2 t np ps xs o js).conds [true, true] = [decide (i < (↑np : Int)), decide (i < 300)] := by kernel_rfl
theorem g_p0 : (g_t n i B p4 c c2 t np ps xs o js).path [true, true] = .ok (g_l0 n i B p4 c c2 t np ps xs o) := by kernel_rfl
noncomputable abbrev g_l1 : Lf MObj := (Lf.mk (VX.exit 0) [.s (.one (.int .i64 (.sym n))), .s (.one (VV.an 0 (SN.sym np))), SV.t [], SV.t [], .s (.one (.bool (.lit false))), .s (.one (.bool (.lit true))), .s (.one (.ptr 1 0)), .s (.one (.int .i64 (.lit 0))), .s (.one (.ptr 2 0)), .s (.one (.ptr 3 0)), .s (.one (.ptr 4 0)), .s (.one (.int .i64 (.sym i)))] 82 [(0, some (VObj.rotab [CK.int IntKind.i64] ps)), (1, some (.cells [.int .i64 (.sym 4), .int .i64 (.sym B), .int .i64 (.sym 14), .int .i64 (.sym 32), .int .i64 (.sym p4)] 25)), (2, some (.abs (.mem 95 xs c t))), (3, some (.abs (.mem 68 xs c2 t))), (4, some o)] 5 [])
theorem g_c1 : (g_t n i B p4 c c2 t np ps xs o js).conds [true, false] = [decide (i < (↑np : Int)), decide (i < 300)] := by kernel_rfl
theorem g_p1 : (g_t n i B p4 c c2 t np ps xs o js).path [true, false] = .ok (g_l1 n i B p4 c c2 t np ps xs o) := by kernel_rfl
noncomputable abbrev g_l2 : Lf MObj := (Lf.mk (VX.exit 0) [.s (.one (.int .i64 (.sym n))), .s (.one (VV.an 0 (SN.sym np))), SV.t [], SV.t [], .s (.one (.bool (.lit false))), .s (.one (.bool (.lit true))), .s (.one (.ptr 1 0)), .s (.one (.int .i64 (.lit 0))), .s (.one (.ptr 2 0)), .s (.one (.ptr 3 0)), .s (.one (.ptr 4 0)), .s (.one (.int .i64 (.sym i)))] 82 [(0, some (VObj.rotab [CK.int IntKind.i64] ps)), (1, some (.cells [.int .i64 (.sym 4), .int .i64 (.sym B), .int .i64 (.sym 14), .int .i64 (.sym 32), .int .i64 (.sym p4)] 25)), (2, some (.abs (.mem 95 xs c t))), (3, some (.abs (.mem 68 xs c2 t))), (4, some o)] 5 [])
theorem g_c2 : (g_t n i B p4 c c2 t np ps xs o js).conds [false] = [decide (i < (↑np : Int))] := by kernel_rfl
theorem g_p2 : (g_t n i B p4 c c2 t np ps xs o js).path [false] = .ok (g_l2 n i B p4 c c2 t np ps xs o) := by kernel_rfl
theorem g (hx : (xs.length : Int) = 32 + 32 * B) (hp4 : p4 = 32 + 32 * B) (hB : 1 ≤ B ∧ B ≤ 8) (hc : 0 ≤ c ∧ c ≤ 100000) (hc2 : 0 ≤ c2 ∧ c2 ≤ 100000) : (g_t n i B p4 c c2 t np ps xs o js).run = Tr.run (.ite (decide (i < (↑np : Int))) (.ite (decide (i < 300)) (.ok (g_l0 n i B p4 c c2 t np ps xs o)) (.ok (g_l1 n i B p4 c c2 t np ps xs o))) (.ok (g_l2 n i B p4 c c2 t np ps xs o))) := by
  cases e0 : (decide (i < (↑np : Int))) with
  | true =>
    cases e1 : (decide (i < 300)) with
    | true =>
      exact Tr.run_at (g_c0 n i B p4 c c2 t np ps xs o js) (cons_eq (e0) (cons_eq (e1) rfl)) (g_p0 n i B p4 c c2 t np ps xs o js)
    | false =>
      exact Tr.run_at (g_c1 n i B p4 c c2 t np ps xs o js) (cons_eq (e0) (cons_eq (e1) rfl)) (g_p1 n i B p4 c c2 t np ps xs o js)
  | false =>
    exact Tr.run_at (g_c2 n i B p4 c c2 t np ps xs o js) (cons_eq (e0) rfl) (g_p2 n i B p4 c c2 t np ps xs o js)
end
section
variable (n : Int) (i : Int) (B : Int) (p4 : Int) (c : Int) (c2 : Int) (t : Int) (np : Nat) (ps : List (List Int)) (xs : List Int) (o : VObj MObj) (js : Nat → SV)
noncomputable abbrev kx_t : Tr (Lf MObj) := ((evl [qt [false], qt [true, false]] ⟨pre n np i ++ junk js 70 12, base ps B p4 xs c c2 t o, 5, []⟩).vmap (leaf 14))
noncomputable abbrev kx_l0 : Lf MObj := (Lf.mk (VX.normal) [.s (.one (.int .i64 (.sym n))), .s (.one (VV.an 0 (SN.sym np))), SV.t [], SV.t [], .s (.one (.bool (.lit false))), .s (.one (.bool (.lit true))), .s (.one (.ptr 1 0)), .s (.one (.int .i64 (.lit 0))), .s (.one (.ptr 2 0)), .s (.one (.ptr 3 0)), .s (.one (.ptr 4 0)), .s (.one (.int .i64 (.sym i))), .s (.one (.int .i64 (.sym (kM (tabAt ps (Int.toNat i) 0) 24)))), .s (.one (.ptr 4 15))] 82 [(0, some (VObj.rotab [CK.int IntKind.i64] ps)), (1, some (.cells [.int .i64 (.sym 4), .int .i64 (.sym B), .int .i64 (.sym 14), .int .i64 (.sym 32), .int .i64 (.sym p4)] 25)), (2, some (.abs (.mem 95 xs c t))), (3, some (.abs (.mem 68 xs c2 t))), (4, some o)] 5 [])
theorem kx_c0 : (kx_t n i B p4 c c2 t np ps xs o js).conds [true, true, false, true] = [decide (0 ≤ i) && decide (i < (↑np : Int)), decide (Int.toNat i < List.length ps), false, Int.tmod (kM (tabAt ps (Int.toNat i) 0) 24) 4 == 3] := by kernel_rfl
theorem kx_p0 : (kx_t n i B p4 c c2 t np ps xs o js).path [true, true, false, true] = .ok (kx_l0 n i B p4 c c2 t np ps xs o) := by kernel_rfl
noncomputable abbrev kx_l1 : Lf MObj := (Lf.mk (VX.normal) [.s (.one (.int .i64 (.sym n))), .s (.one (VV.an 0 (SN.sym np))), SV.t [], SV.t [], .s (.one (.bool (.lit false))), .s (.one (.bool (.lit true))), .s (.one (.ptr 1 0)), .s (.one (.int .i64 (.lit 0))), .s (.one (.ptr 2 0)), .s (.one (.ptr 3 0)), .s (.one (.ptr 4 0)), .s (.one (.int .i64 (.sym i))), .s (.one (.int .i64 (.sym (kM (tabAt ps (Int.toNat i) 0) 24)))), .s (.one (.ptr 4 10))] 82 [(0, some (VObj.rotab [CK.int IntKind.i64] ps)), (1, some (.cells [.int .i64 (.sym 4), .int .i64 (.sym B), .int .i64 (.sym 14), .int .i64 (.sym 32), .int .i64 (.sym p4)] 25)), (2, some (.abs (.mem 95 xs c t))), (3, some (.abs (.mem 68 xs c2 t))), (4, some o)] 5 [])
theorem kx_c1 : (kx_t n i B p4 c c2 t np ps xs o js).conds [true, true, false, false, true] = [decide (0 ≤ i) && decide (i < (↑np : Int)), decide (Int.toNat i < List.length ps), false, Int.tmod (kM (tabAt ps (Int.toNat i) 0) 24) 4 == 3, Int.tmod (kM (tabAt ps (Int.toNat i) 0) 24) 4 == 2] := by kernel_rfl
theorem kx_p1 : (kx_t n i B p4 c c2 t np ps xs o js).path [true, true, false, false, true] = .ok (kx_l1 n i B p4 c c2 t np ps xs o) := by kernel_rfl
noncomputable abbrev kx_l2 : Lf MObj := (Lf.mk (VX.normal) [.s (.one (.int .i64 (.sym n))), .s (.one (VV.an 0 (SN.sym np))), SV.t [], SV.t [], .s (.one (.bool (.lit false))), .s (.one (.bool (.lit true))), .s (.one (.ptr 1 0)), .s (.one (.int .i64 (.lit 0))), .s (.one (.ptr 2 0)), .s (.one (.ptr 3 0)), .s (.one (.ptr 4 0)), .s (.one (.int .i64 (.sym i))), .s (.one (.int .i64 (.sym (kM (tabAt ps (Int.toNat i) 0) 24)))), .s (.one (.ptr 4 5))] 82 [(0, some (VObj.rotab [CK.int IntKind.i64] ps)), (1, some (.cells [.int .i64 (.sym 4), .int .i64 (.sym B), .int .i64 (.sym 14), .int .i64 (.sym 32), .int .i64 (.sym p4)] 25)), (2, some (.abs (.mem 95 xs c t))), (3, some (.abs (.mem 68 xs c2 t))), (4, some o)] 5 [])
theorem kx_c2 : (kx_t n i B p4 c c2 t np ps xs o js).conds [true, true, false, false, false, true] = [decide (0 ≤ i) && decide (i < (↑np : Int)), decide (Int.toNat i < List.length ps), false, Int.tmod (kM (tabAt ps (Int.toNat i) 0) 24) 4 == 3, Int.tmod (kM (tabAt ps (Int.toNat i) 0) 24) 4 == 2, Int.tmod (kM (tabAt ps (Int.toNat i) 0) 24) 4 == 1] := by kernel_rfl
theorem kx_p2 : (kx_t n i B p4 c c2 t np ps xs o js).path [true, true, false, false, false, true] = .ok (kx_l2 n i B p4 c c2 t np ps xs o) := by kernel_rfl
noncomputable abbrev kx_l3 : Lf MObj := (Lf.mk (VX.normal) [.s (.one (.int .i64 (.sym n))), .s (.one (VV.an 0 (SN.sym np))), SV.t [], SV.t [], .s (.one (.bool (.lit false))), .s (.one (.bool (.lit true))), .s (.one (.ptr 1 0)), .s (.one (.int .i64 (.lit 0))), .s (.one (.ptr 2 0)), .s (.one (.ptr 3 0)), .s (.one (.ptr 4 0)), .s (.one (.int .i64 (.sym i))), .s (.one (.int .i64 (.sym (kM (tabAt ps (Int.toNat i) 0) 24)))), .s (.one (.ptr 4 0))] 82 [(0, some (VObj.rotab [CK.int IntKind.i64] ps)), (1, some (.cells [.int .i64 (.sym 4), .int .i64 (.sym B), .int .i64 (.sym 14), .int .i64 (.sym 32), .int .i64 (.sym p4)] 25)), (2, some (.abs (.mem 95 xs c t))), (3, some (.abs (.mem 68 xs c2 t))), (4, some o)] 5 [])
theorem kx_c3 : (kx_t n i B p4 c c2 t np ps xs o js).conds [true, true, false, false, false, false, true] = [decide (0 ≤ i) && decide (i < (↑np : Int)), decide (Int.toNat i < List.length ps), false, Int.tmod (kM (tabAt ps (Int.toNat i) 0) 24) 4 == 3, Int.tmod (kM (tabAt ps (Int.toNat i) 0) 24) 4 == 2, Int.tmod (kM (tabAt ps (Int.toNat i) 0) 24) 4 == 1, Int.tmod (kM (tabAt ps (Int.toNat i) 0) 24) 4 == 0] := by kernel_rfl
theorem kx_p3 : (kx_t n i B p4 c c2 t np ps xs o js).path [true, true, false, false, false, false, true] = .ok (kx_l3 n i B p4 c c2 t np ps xs o) := by kernel_rfl
theorem kx (hx : (xs.length : Int) = 32 + 32 * B) (hp4 : p4 = 32 + 32 * B) (hB : 1 ≤ B ∧ B ≤ 8) (hc : 0 ≤ c ∧ c ≤ 100000) (hc2 : 0 ≤ c2 ∧ c2 ≤ 100000) (hi : 0 ≤ i ∧ i < 300) (hin : i < np) (hnp : np = ps.length) (hk : 0 ≤ kM (tabAt ps (Int.toNat i) 0) 24 ∧ kM (tabAt ps (Int.toNat i) 0) 24 < 24) (hk2 : 0 ≤ Int.tmod (kM (tabAt ps (Int.toNat i) 0) 24) 4 ∧ Int.tmod (kM (tabAt ps (Int.toNat i) 0) 24) 4 < 4) : (kx_t n i B p4 c c2 t np ps xs o js).run = Tr.run (.ite (Int.tmod (kM (tabAt ps (Int.toNat i) 0) 24) 4 == 3) (.ok (kx_l0 n i B p4 c c2 t np ps xs o)) (.ite (Int.tmod (kM (tabAt ps (Int.toNat i) 0) 24) 4 == 2) (.ok (kx_l1 n i B p4 c c2 t np ps xs o)) (.ite (Int.tmod (kM (tabAt ps (Int.toNat i) 0) 24) 4 == 1) (.ok (kx_l2 n i B p4 c c2 t np ps xs o)) (.ok (kx_l3 n i B p4 c c2 t np ps xs o))))) := by
  cases e0 : (Int.tmod (kM (tabAt ps (Int.toNat i) 0) 24) 4 == 3) with
  | true =>
    exact Tr.run_at (kx_c0 n i B p4 c c2 t np ps xs o js) (cons_eq (by (simp only [W, wrap64, okc_iff, decide_eq_true_eq, Bool.and_eq_true, ne_eq, decide_eq_false_iff_not, Nat.ble_eq, List.length_set]; omega)) (cons_eq (by (simp only [W, wrap64, okc_iff, decide_eq_true_eq, Bool.and_eq_true, ne_eq, decide_eq_false_iff_not, Nat.ble_eq, List.length_set]; omega)) (cons_eq (rfl) (cons_eq (e0) rfl)))) (kx_p0 n i B p4 c c2 t np ps xs o js)
  | false =>
    cases e1 : (Int.tmod (kM (tabAt ps (Int.toNat i) 0) 24) 4 == 2) with
    | true =>
      exact Tr.run_at (kx_c1 n i B p4 c c2 t np ps xs o js) (cons_eq (by (simp only [W, wrap64, okc_iff, decide_eq_true_eq, Bool.and_eq_true, ne_eq, decide_eq_false_iff_not, Nat.ble_eq, List.length_set]; omega)) (cons_eq (by (simp only [W, wrap64, okc_iff, decide_eq_true_eq, Bool.and_eq_true, ne_eq, decide_eq_false_iff_not, Nat.ble_eq, List.length_set]; omega)) (cons_eq (rfl) (cons_eq (e0) (cons_eq (e1) rfl))))) (kx_p1 n i B p4 c c2 t np ps xs o js)
    | false =>
      cases e2 : (Int.tmod (kM (tabAt ps (Int.toNat i) 0) 24) 4 == 1) with
      | true =>
        exact Tr.run_at (kx_c2 n i B p4 c c2 t np ps xs o js) (cons_eq (by (simp only [W, wrap64, okc_iff, decide_eq_true_eq, Bool.and_eq_true, ne_eq, decide_eq_false_iff_not, Nat.ble_eq, List.length_set]; omega)) (cons_eq (by (simp only [W, wrap64, okc_iff, decide_eq_true_eq, Bool.and_eq_true, ne_eq, decide_eq_false_iff_not, Nat.ble_eq, List.length_set]; omega)) (cons_eq (rfl) (cons_eq (e0) (cons_eq (e1) (cons_eq (e2) rfl)))))) (kx_p2 n i B p4 c c2 t np ps xs o js)
      | false =>
        exact Tr.run_at (kx_c3 n i B p4 c c2 t np ps xs o js) (cons_eq (by (simp only [W, wrap64, okc_iff, decide_eq_true_eq, Bool.and_eq_true, ne_eq, decide_eq_false_iff_not, Nat.ble_eq, List.length_set]; omega)) (cons_eq (by (simp only [W, wrap64, okc_iff, decide_eq_true_eq, Bool.and_eq_true, ne_eq, decide_eq_false_iff_not, Nat.ble_eq, List.length_set]; omega)) (cons_eq (rfl) (cons_eq (e0) (cons_eq (e1) (cons_eq (e2) (cons_eq (by (simp only [W, wrap64, okc_iff, decide_eq_true_eq, decide_eq_false_iff_not, beq_iff_eq, beq_eq_false_iff_ne, Bool.and_eq_true] at *; omega)) rfl))))))) (kx_p3 n i B p4 c c2 t np ps xs o js)
end
section
variable (n : Int) (i : Int) (B : Int) (p4 : Int) (c : Int) (c2 : Int) (t : Int) (np : Nat) (ps : List (List Int)) (xs : List Int) (o : VObj MObj) (js : Nat → SV)
noncomputable abbrev sm_t : Tr (Lf MObj) := ((ev (qt [true, true, true, true, true]) ⟨pre n np i ++ junk js 70 12, base ps B p4 xs c c2 t o, 5, []⟩).vmap (leaf 12))
noncomputable abbrev sm_l0 : Lf MObj := (Lf.mk (VX.normal) [.s (.one (.int .i64 (.sym n))), .s (.one (VV.an 0 (SN.sym np))), SV.t [], SV.t [], .s (.one (.bool (.lit false))), .s (.one (.bool (.lit true))), .s (.one (.ptr 1 0)), .s (.one (.int .i64 (.lit 0))), .s (.one (.ptr 2 0)), .s (.one (.ptr 3 0)), .s (.one (.ptr 4 0)), .s (.one (.int .i64 (.sym i)))] 82 [(0, some (VObj.rotab [CK.int IntKind.i64] ps)), (1, some (.cells [.int .i64 (.sym 4), .int .i64 (.sym B), .int .i64 (.sym 14), .int .i64 (.sym 32), .int .i64 (.sym p4)] 25)), (2, some (.abs (.mem 95 xs c t))), (3, some (.abs (.mem 68 xs c2 t))), (4, some o)] 5 [2, 3])
theorem sm_c0 : (sm_t n i B p4 c c2 t np ps xs o js).conds [true, true] = [Int.tmod i 32 == 0, decide (xs = xs) && (decide (t = t) && (decide (0 < List.length xs) && (decide (List.length xs ≤ 1000000) && (decide (0 ≤ c) && decide (c ≤ 1000000000)))))] := by kernel_rfl
theorem sm_p0 : (sm_t n i B p4 c c2 t np ps xs o js).path [true, true] = .ok (sm_l0 n i B p4 c c2 t np ps xs o) := by kernel_rfl
noncomputable abbrev sm_l1 : Lf MObj := (Lf.mk (VX.normal) [.s (.one (.int .i64 (.sym n))), .s (.one (VV.an 0 (SN.sym np))), SV.t [], SV.t [], .s (.one (.bool (.lit false))), .s (.one (.bool (.lit true))), .s (.one (.ptr 1 0)), .s (.one (.int .i64 (.lit 0))), .s (.one (.ptr 2 0)), .s (.one (.ptr 3 0)), .s (.one (.ptr 4 0)), .s (.one (.int .i64 (.sym i)))] 82 [(0, some (VObj.rotab [CK.int IntKind.i64] ps)), (1, some (.cells [.int .i64 (.sym 4), .int .i64 (.sym B), .int .i64 (.sym 14), .int .i64 (.sym 32), .int .i64 (.sym p4)] 25)), (2, some (.abs (.mem 95 xs c t))), (3, some (.abs (.mem 68 xs c2 t))), (4, some o)] 5 [])
theorem sm_c1 : (sm_t n i B p4 c c2 t np ps xs o js).conds [false] = [Int.tmod i 32 == 0] := by kernel_rfl
theorem sm_p1 : (sm_t n i B p4 c c2 t np ps xs o js).path [false] = .ok (sm_l1 n i B p4 c c2 t np ps xs o) := by kernel_rfl
theorem sm (hx : (xs.length : Int) = 32 + 32 * B) (hp4 : p4 = 32 + 32 * B) (hB : 1 ≤ B ∧ B ≤ 8) (hc : 0 ≤ c ∧ c ≤ 100000) (hc2 : 0 ≤ c2 ∧ c2 ≤ 100000) (hi : 0 ≤ i ∧ i < 300) (hl : 0 < xs.length ∧ xs.length ≤ 1000000) : (sm_t n i B p4 c c2 t np ps xs o js).run = Tr.run (.ite (Int.tmod i 32 == 0) (.ok (sm_l0 n i B p4 c c2 t np ps xs o)) (.ok (sm_l1 n i B p4 c c2 t np ps xs o))) := by
  cases e0 : (Int.tmod i 32 == 0) with
  | true =>
    exact Tr.run_at (sm_c0 n i B p4 c c2 t np ps xs o js) (cons_eq (e0) (cons_eq (by (simp only [decide_eq_true_eq, Bool.and_eq_true, eq_self, true_and]; omega)) rfl)) (sm_p0 n i B p4 c c2 t np ps xs o js)
  | false =>
    exact Tr.run_at (sm_c1 n i B p4 c c2 t np ps xs o js) (cons_eq (e0) rfl) (sm_p1 n i B p4 c c2 t np ps xs o js)
end
section
variable (n : Int) (i : Int) (B : Int) (p4 : Int) (c : Int) (c2 : Int) (t : Int) (np : Nat) (ps : List (List Int)) (xs : List Int) (o : VObj MObj) (js : Nat → SV)
noncomputable abbrev inc_t : Tr (Lf MObj) := ((ev (at' [true, true]) ⟨pre n np i ++ junk js 70 12, base ps B p4 xs c c2 t o, 5, []⟩).vmap (leaf 12))
noncomputable abbrev inc_l0 : Lf MObj := (Lf.mk (VX.normal) [.s (.one (.int .i64 (.sym n))), .s (.one (VV.an 0 (SN.sym np))), SV.t [], SV.t [], .s (.one (.bool (.lit false))), .s (.one (.bool (.lit true))), .s (.one (.ptr 1 0)), .s (.one (.int .i64 (.lit 0))), .s (.one (.ptr 2 0)), .s (.one (.ptr 3 0)), .s (.one (.ptr 4 0)), .s (.one (.int .i64 (.sym (W (i + 1)))))] 82 [(0, some (VObj.rotab [CK.int IntKind.i64] ps)), (1, some (.cells [.int .i64 (.sym 4), .int .i64 (.sym B), .int .i64 (.sym 14), .int .i64 (.sym 32), .int .i64 (.sym p4)] 25)), (2, some (.abs (.mem 95 xs c t))), (3, some (.abs (.mem 68 xs c2 t))), (4, some o)] 5 [])
theorem inc_c0 : (inc_t n i B p4 c c2 t np ps xs o js).conds [] = [] := by kernel_rfl
theorem inc_p0 : (inc_t n i B p4 c c2 t np ps xs o js).path [] = .ok (inc_l0 n i B p4 c c2 t np ps xs o) := by kernel_rfl
theorem inc (hx : (xs.length : Int) = 32 + 32 * B) (hp4 : p4 = 32 + 32 * B) (hB : 1 ≤ B ∧ B ≤ 8) (hc : 0 ≤ c ∧ c ≤ 100000) (hc2 : 0 ≤ c2 ∧ c2 ≤ 100000) : (inc_t n i B p4 c c2 t np ps xs o js).run = Tr.run (.ok (inc_l0 n i B p4 c c2 t np ps xs o)) := by
  exact Tr.run_at (inc_c0 n i B p4 c c2 t np ps xs o js) rfl (inc_p0 n i B p4 c c2 t np ps xs o js)
end
section
variable (n : Int) (i : Int) (B : Int) (p4 : Int) (c : Int) (c2 : Int) (t : Int) (np : Nat) (ps : List (List Int)) (xs : List Int) (o : VObj MObj) (js : Nat → SV)
noncomputable abbrev fin_t : Tr (Lf MObj) := ((ev (codeAt body [true, true, true, true, true, true, true]) ⟨pre n np i ++ junk js 70 12, base ps B p4 xs c c2 t o, 5, []⟩).vmap (leaf 12))
noncomputable abbrev fin_l0 : Lf MObj := (Lf.mk (VX.ret) [.s (.one (.int .i64 (.sym n))), .s (.one (VV.an 0 (SN.sym np))), SV.t [], SV.t [], .s (.one (.bool (.lit true))), .s (.one (.bool (.lit true))), .s (.one (.ptr 1 0)), .s (.one (.int .i64 (.lit 0))), .s (.one (.ptr 2 0)), .s (.one (.ptr 3 0)), .s (.one (.ptr 4 0)), .s (.one (.int .i64 (.sym i)))] 82 [(0, some (VObj.rotab [CK.int IntKind.i64] ps)), (1, some (.cells [.int .i64 (.sym 4), .int .i64 (.sym B), .int .i64 (.sym 14), .int .i64 (.sym 32), .int .i64 (.sym p4)] 25)), (2, some (.abs (.mem 95 xs c t))), (3, some (.abs (.mem 68 xs c2 t))), (4, some o)] 5 [2, 3])
theorem fin_c0 : (fin_t n i B p4 c c2 t np ps xs o js).conds [true] = [decide (xs = xs) && (decide (t = t) && (decide (0 < List.length xs) && (decide (List.length xs ≤ 1000000) && (decide (0 ≤ c) && decide (c ≤ 1000000000)))))] := by kernel_rfl
theorem fin_p0 : (fin_t n i B p4 c c2 t np ps xs o js).path [true] = .ok (fin_l0 n i B p4 c c2 t np ps xs o) := by kernel_rfl
theorem fin (hx : (xs.length : Int) = 32 + 32 * B) (hp4 : p4 = 32 + 32 * B) (hB : 1 ≤ B ∧ B ≤ 8) (hc : 0 ≤ c ∧ c ≤ 100000) (hc2 : 0 ≤ c2 ∧ c2 ≤ 100000) (hl : 0 < xs.length ∧ xs.length ≤ 1000000) : (fin_t n i B p4 c c2 t np ps xs o js).run = Tr.run (.ok (fin_l0 n i B p4 c c2 t np ps xs o)) := by
  exact Tr.run_at (fin_c0 n i B p4 c c2 t np ps xs o js) (cons_eq (by (simp only [decide_eq_true_eq, Bool.and_eq_true, eq_self, true_and]; omega)) rfl) (fin_p0 n i B p4 c c2 t np ps xs o js)
end
end Go.Proofs.Ytmncbdalaimmhaa.CarvePlays
