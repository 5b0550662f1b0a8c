/-
  ListOwn: data; the pieces round a step.
-/
import Derived.Test.YtjohhjilglilkaaTListOwn0
namespace Go.Proofs.Ytjohhjilglilkaa.ListOwn
open Go Go.RowKit Go.Proofs.Ytjohhjilglilkaa.Eng
set_option linter.unusedVariables false
set_option linter.unusedSimpArgs false
set_option linter.unusedSectionVars false
set_option maxRecDepth 20000
abbrev lt (x : Int) : VV := .int .i64 (.lit x)
abbrev pre (n : Int) (np : Nat) (mn i : Int) : List SV := [.v (ii n), .v (.an 0 (.sym np)), .t [], .t [], .v (.bool (.lit false)), .v (.bool (.lit true)), .v (ii mn), .v (.ptr 1 0), .v (.ptr 2 0), .v (.ptr 3 0), .v (.ptr 4 0), .v (ii i)]
/-- A Pop and a Push under way. -/
abbrev po (nx : VV) (w h se : Int) : VObj MObj := .cells [nx, ii 3, uu w, uu h, ii 0, uu se] 47
abbrev pu (nx : VV) (a w : Int) : VObj MObj := .cells [nx, ii 3, ii a, ii a, ii 0, uu w] 50
abbrev base (ps : List (List Int)) (xs : List Int) (c t : Int) (op ou oh : VObj MObj) : HP MObj := [(0, some (.rotab [.int .i64] ps)), (1, some (.abs (.mem 54 xs c t))), (2, some op), (3, some ou), (4, some oh)]
/-- The cells of all workers: that of the worker q, and the others' (raw). -/
abbrev AC (q : Nat) (x : VV) (vs : Nat → Value) : List VV := match q with | 0 => [x, .raw (vs 1), .raw (vs 2), .raw (vs 3)] | 1 => [.raw (vs 0), x, .raw (vs 2), .raw (vs 3)] | 2 => [.raw (vs 0), .raw (vs 1), x, .raw (vs 3)] | _ => [.raw (vs 0), .raw (vs 1), .raw (vs 2), x]
theorem bne_f {x y : Int} (h : (x == y) = true) : (x != y) = false := by rw [bne, h]; rfl
theorem bne_t {x y : Int} (h : (x == y) = false) : (x != y) = true := by rw [bne, h]; rfl
theorem wrap64 (x : Int) : IntKind.i64.wrap x = (x + 9223372036854775808) % 18446744073709551616 - 9223372036854775808 := by
  rw [wrap_i64']
  split <;> omega
--TACS "assumption", "(apply bne_f; assumption)", "(apply bne_t; assumption)", "(apply decide_eq_true; rfl)", "(apply beq_self_eq_true)", "(refine beq_of_pos ?_; simp only [decide_eq_true_eq, decide_eq_false_iff_not] at *; omega)", "(simp only [W, wrap64, okc_iff, inb_iff, decide_eq_true_eq, Bool.and_eq_true, ne_eq, decide_eq_false_iff_not, Nat.ble_eq, List.length_set]; omega)", "(simp only [decide_eq_true_eq, Bool.and_eq_true, eq_self, true_and]; omega)", "simp [*]", "(simp only [W, wrap64, okc_iff, inb_iff, decide_eq_true_eq, decide_eq_false_iff_not, beq_iff_eq, beq_eq_false_iff_ne, Bool.and_eq_true] at *; omega)"
--SHORT

section
variable (n : Int) (mn : Int) (c : Int) (t : Int) (np : Nat) (ps : List (List Int)) (xs : List Int) (op : VObj MObj) (ou : VObj MObj) (oh : VObj MObj) (x11 : SV) (js : Nat → SV)
noncomputable abbrev init_t : Tr (Lf MObj) := ((ev (codeAt body [true, true, true, true, true, true, true, true, false, false]) ⟨List.take 11 (pre n np mn 0) ++ [x11] ++ junk js 253 12, base ps xs c t op ou oh, 5, []⟩).vmap (leaf 12))
noncomputable abbrev init_l0 : Lf MObj := (Lf.mk (VX.normal) [.s (.one (.int .i64 (.sym n))), .s (.one (VV.an 0 (SN.sym np))), SV.t [], SV.t [], .s (.one (.bool (.lit false))), .s (.one (.bool (.lit true))), .s (.one (.int .i64 (.sym mn))), .s (.one (.ptr 1 0)), .s (.one (.ptr 2 0)), .s (.one (.ptr 3 0)), .s (.one (.ptr 4 0)), .s (.one (.int .i64 (.lit 0)))] 265 [(0, some (VObj.rotab [CK.int IntKind.i64] ps)), (1, some (.abs (.mem 54 xs c t))), (2, some op), (3, some ou), (4, some oh)] 5 [])
noncomputable abbrev init_wA : WT (Lf MObj) := (.ok (init_l0 n mn c t np ps xs op ou oh))
theorem init_kA : Tr.walk (WT.sc (init_wA n mn c t np ps xs op ou oh)) (init_t n mn c t np ps xs op ou oh x11 js) = (init_wA n mn c t np ps xs op ou oh) := by kernel_rfl
theorem init (hx : xs.length = 160) (hc : 0 ≤ c ∧ c ≤ 100000) : (init_t n mn c t np ps xs op ou oh x11 js).run = Tr.run (.ok (init_l0 n mn c t np ps xs op ou oh)) := by
  exact Tr.run_walk (init_kA n mn c t np ps xs op ou oh x11 js) WT.vo (by kernel_rfl)
end
section
variable (n : Int) (mn : Int) (i : Int) (c : Int) (t : Int) (np : Nat) (ps : List (List Int)) (xs : List Int) (op : VObj MObj) (ou : VObj MObj) (oh : VObj MObj) (js : Nat → SV)
noncomputable abbrev g_t : Tr (Lf MObj) := ((ev (at' [false]) ⟨pre n np mn i ++ junk js 253 12, base ps xs c t op ou oh, 5, []⟩).vmap (leaf 12))
noncomputable abbrev g_l0 : Lf MObj := (Lf.mk (VX.normal) [.s (.one (.int .i64 (.sym n))), .s (.one (VV.an 0 (SN.sym np))), SV.t [], SV.t [], .s (.one (.bool (.lit false))), .s (.one (.bool (.lit true))), .s (.one (.int .i64 (.sym mn))), .s (.one (.ptr 1 0)), .s (.one (.ptr 2 0)), .s (.one (.ptr 3 0)), .s (.one (.ptr 4 0)), .s (.one (.int .i64 (.sym i)))] 265 [(0, some (VObj.rotab [CK.int IntKind.i64] ps)), (1, some (.abs (.mem 54 xs c t))), (2, some op), (3, some ou), (4, some oh)] 5 [])
noncomputable abbrev g_l1 : Lf MObj := (Lf.mk (VX.exit 0) [.s (.one (.int .i64 (.sym n))), .s (.one (VV.an 0 (SN.sym np))), SV.t [], SV.t [], .s (.one (.bool (.lit false))), .s (.one (.bool (.lit true))), .s (.one (.int .i64 (.sym mn))), .s (.one (.ptr 1 0)), .s (.one (.ptr 2 0)), .s (.one (.ptr 3 0)), .s (.one (.ptr 4 0)), .s (.one (.int .i64 (.sym i)))] 265 [(0, some (VObj.rotab [CK.int IntKind.i64] ps)), (1, some (.abs (.mem 54 xs c t))), (2, some op), (3, some ou), (4, some oh)] 5 [])
noncomputable abbrev g_l2 : Lf MObj := (Lf.mk (VX.exit 0) [.s (.one (.int .i64 (.sym n))), .s (.one (VV.an 0 (SN.sym np))), SV.t [], SV.t [], .s (.one (.bool (.lit false))), .s (.one (.bool (.lit true))), .s (.one (.int .i64 (.sym mn))), .s (.one (.ptr 1 0)), .s (.one (.ptr 2 0)), .s (.one (.ptr 3 0)), .s (.one (.ptr 4 0)), .s (.one (.int .i64 (.sym i)))] 265 [(0, some (VObj.rotab [CK.int IntKind.i64] ps)), (1, some (.abs (.mem 54 xs c t))), (2, some op), (3, some ou), (4, some oh)] 5 [])
noncomputable abbrev g_wA : WT (Lf MObj) := (.ite (decide (i < W ((↑np : Int) + 400))) (.ite (decide (i < 600)) (.ok (g_l0 n mn i c t np ps xs op ou oh)) (.ok (g_l1 n mn i c t np ps xs op ou oh))) (.ok (g_l2 n mn i c t np ps xs op ou oh)))
theorem g_kA : Tr.walk (WT.sc (g_wA n mn i c t np ps xs op ou oh)) (g_t n mn i c t np ps xs op ou oh js) = (g_wA n mn i c t np ps xs op ou oh) := by kernel_rfl
theorem g (hx : xs.length = 160) (hc : 0 ≤ c ∧ c ≤ 100000) (hi : 0 ≤ i ∧ i ≤ 600) (hnp : np = ps.length) (hnl : np ≤ 140737488355328) : (g_t n mn i c t np ps xs op ou oh js).run = Tr.run (.ite (decide (i < W ((↑np : Int) + 400))) (.ite (decide (i < 600)) (.ok (g_l0 n mn i c t np ps xs op ou oh)) (.ok (g_l1 n mn i c t np ps xs op ou oh))) (.ok (g_l2 n mn i c t np ps xs op ou oh))) := by
  exact Tr.run_walk (g_kA n mn i c t np ps xs op ou oh js) (WT.vi (fun e0 => (WT.vi (fun e1 => WT.vo) fun e1 => WT.vo)) fun e0 => WT.vo) (by kernel_rfl)
end
section
variable (n : Int) (mn : Int) (i : Int) (c : Int) (t : Int) (np : Nat) (ps : List (List Int)) (xs : List Int) (op : VObj MObj) (ou : VObj MObj) (oh : VObj MObj) (js : Nat → SV)
noncomputable abbrev kx_t : Tr (Lf MObj) := ((evl [qt [false], qt [true, false], qt [true, true, false], qt [true, true, true, false]] ⟨pre n np mn i ++ junk js 253 12, base ps xs c t op ou oh, 5, []⟩).vmap (leaf 15))
noncomputable abbrev kx_l0 : Lf MObj := (Lf.mk (VX.normal) [.s (.one (.int .i64 (.sym n))), .s (.one (VV.an 0 (SN.sym np))), SV.t [], SV.t [], .s (.one (.bool (.lit false))), .s (.one (.bool (.lit true))), .s (.one (.int .i64 (.sym mn))), .s (.one (.ptr 1 0)), .s (.one (.ptr 2 0)), .s (.one (.ptr 3 0)), .s (.one (.ptr 4 0)), .s (.one (.int .i64 (.sym i))), .s (.one (.int .i64 (.sym (Int.tmod (kM (tabAt ps (Int.toNat i) 0) 8) 4)))), .s (.one (.bool (.lit true))), .s (.one (.bool (.sym (decide (kM (tabAt ps (Int.toNat i) 0) 8 < 4)))))] 265 [(0, some (VObj.rotab [CK.int IntKind.i64] ps)), (1, some (.abs (.mem 54 xs c t))), (2, some op), (3, some ou), (4, some oh)] 5 [])
noncomputable abbrev kx_l1 : Lf MObj := (Lf.mk (VX.normal) [.s (.one (.int .i64 (.sym n))), .s (.one (VV.an 0 (SN.sym np))), SV.t [], SV.t [], .s (.one (.bool (.lit false))), .s (.one (.bool (.lit true))), .s (.one (.int .i64 (.sym mn))), .s (.one (.ptr 1 0)), .s (.one (.ptr 2 0)), .s (.one (.ptr 3 0)), .s (.one (.ptr 4 0)), .s (.one (.int .i64 (.sym i))), .s (.one (.int .i64 (.sym (Int.tmod i 4)))), .s (.one (.bool (.lit false))), .s (.one (.bool (.lit false)))] 265 [(0, some (VObj.rotab [CK.int IntKind.i64] ps)), (1, some (.abs (.mem 54 xs c t))), (2, some op), (3, some ou), (4, some oh)] 5 [])
noncomputable abbrev kx_l2 : Lf MObj := (Lf.mk (VX.normal) [.s (.one (.int .i64 (.sym n))), .s (.one (VV.an 0 (SN.sym np))), SV.t [], SV.t [], .s (.one (.bool (.lit false))), .s (.one (.bool (.lit true))), .s (.one (.int .i64 (.sym mn))), .s (.one (.ptr 1 0)), .s (.one (.ptr 2 0)), .s (.one (.ptr 3 0)), .s (.one (.ptr 4 0)), .s (.one (.int .i64 (.sym i))), .s (.one (.int .i64 (.sym (Int.tmod i 4)))), .s (.one (.bool (.lit false))), .s (.one (.bool (.lit false)))] 265 [(0, some (VObj.rotab [CK.int IntKind.i64] ps)), (1, some (.abs (.mem 54 xs c t))), (2, some op), (3, some ou), (4, some oh)] 5 [])
noncomputable abbrev kx_wA : WT (Lf MObj) := (.ite (decide (i < (↑np : Int))) (.ite (decide (i < 200)) (.dec (decide (0 ≤ i) && decide (i < (↑np : Int))) true (.dec (decide (Int.toNat i < List.length ps)) true (.dec (false) false (.dec (decide (0 ≤ i) && decide (i < (↑np : Int))) true (.dec (decide (Int.toNat i < List.length ps)) true (.dec (false) false (.ok (kx_l0 n mn i c t np ps xs op ou oh)))))))) (.ok (kx_l1 n mn i c t np ps xs op ou oh))) (.ok (kx_l2 n mn i c t np ps xs op ou oh)))
theorem kx_kA : Tr.walk (WT.sc (kx_wA n mn i c t np ps xs op ou oh)) (kx_t n mn i c t np ps xs op ou oh js) = (kx_wA n mn i c t np ps xs op ou oh) := by kernel_rfl
theorem kx (hx : xs.length = 160) (hc : 0 ≤ c ∧ c ≤ 100000) (hi : 0 ≤ i ∧ i < 600) (hnp : np = ps.length) : (kx_t n mn i c t np ps xs op ou oh js).run = Tr.run (.ite (decide (i < (↑np : Int))) (.ite (decide (i < 200)) (.ok (kx_l0 n mn i c t np ps xs op ou oh)) (.ok (kx_l1 n mn i c t np ps xs op ou oh))) (.ok (kx_l2 n mn i c t np ps xs op ou oh))) := by
  exact Tr.run_walk (kx_kA n mn i c t np ps xs op ou oh js) (WT.vi (fun e0 => (WT.vi (fun e1 => (WT.vd (by (simp only [W, wrap64, okc_iff, inb_iff, decide_eq_true_eq, decide_eq_false_iff_not, beq_iff_eq, beq_eq_false_iff_ne, Bool.and_eq_true] at *; omega)) (WT.vd (by (simp only [W, wrap64, okc_iff, inb_iff, decide_eq_true_eq, decide_eq_false_iff_not, beq_iff_eq, beq_eq_false_iff_ne, Bool.and_eq_true] at *; omega)) (WT.vd (rfl) (WT.vd (by (simp only [W, wrap64, okc_iff, inb_iff, decide_eq_true_eq, decide_eq_false_iff_not, beq_iff_eq, beq_eq_false_iff_ne, Bool.and_eq_true] at *; omega)) (WT.vd (by (simp only [W, wrap64, okc_iff, inb_iff, decide_eq_true_eq, decide_eq_false_iff_not, beq_iff_eq, beq_eq_false_iff_ne, Bool.and_eq_true] at *; omega)) (WT.vd (rfl) WT.vo))))))) fun e1 => WT.vo)) fun e0 => WT.vo) (by kernel_rfl)
end
section
variable (n : Int) (mn : Int) (i : Int) (c : Int) (t : Int) (np : Nat) (ps : List (List Int)) (xs : List Int) (op : VObj MObj) (ou : VObj MObj) (oh : VObj MObj) (js : Nat → SV)
noncomputable abbrev inc_t : Tr (Lf MObj) := ((ev (at' [true, true]) ⟨pre n np mn i ++ junk js 253 12, base ps xs c t op ou oh, 5, []⟩).vmap (leaf 12))
noncomputable abbrev inc_l0 : Lf MObj := (Lf.mk (VX.normal) [.s (.one (.int .i64 (.sym n))), .s (.one (VV.an 0 (SN.sym np))), SV.t [], SV.t [], .s (.one (.bool (.lit false))), .s (.one (.bool (.lit true))), .s (.one (.int .i64 (.sym mn))), .s (.one (.ptr 1 0)), .s (.one (.ptr 2 0)), .s (.one (.ptr 3 0)), .s (.one (.ptr 4 0)), .s (.one (.int .i64 (.sym (W (i + 1)))))] 265 [(0, some (VObj.rotab [CK.int IntKind.i64] ps)), (1, some (.abs (.mem 54 xs c t))), (2, some op), (3, some ou), (4, some oh)] 5 [])
noncomputable abbrev inc_wA : WT (Lf MObj) := (.ok (inc_l0 n mn i c t np ps xs op ou oh))
theorem inc_kA : Tr.walk (WT.sc (inc_wA n mn i c t np ps xs op ou oh)) (inc_t n mn i c t np ps xs op ou oh js) = (inc_wA n mn i c t np ps xs op ou oh) := by kernel_rfl
theorem inc (hx : xs.length = 160) (hc : 0 ≤ c ∧ c ≤ 100000) : (inc_t n mn i c t np ps xs op ou oh js).run = Tr.run (.ok (inc_l0 n mn i c t np ps xs op ou oh)) := by
  exact Tr.run_walk (inc_kA n mn i c t np ps xs op ou oh js) WT.vo (by kernel_rfl)
end
end Go.Proofs.Ytjohhjilglilkaa.ListOwn
