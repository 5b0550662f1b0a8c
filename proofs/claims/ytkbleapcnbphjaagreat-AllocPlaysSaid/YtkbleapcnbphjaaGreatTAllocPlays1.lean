/-
  AllocPlays: data; the pieces round a step.
-/
import Derived.Test.YtkbleapcnbphjaaGreatTAllocPlays0
namespace Go.Proofs.YtkbleapcnbphjaaGreat.AllocPlays
open Go Go.RowKit Go.Proofs.YtkbleapcnbphjaaGreat.Eng
set_option linter.unusedVariables false
set_option linter.unusedSimpArgs false
set_option linter.unusedSectionVars false
set_option maxRecDepth 20000
abbrev lt (x : Int) : VV := .int .i64 (.lit x)
abbrev pre (n : Int) (np : Nat) (i : Int) : List SV := [.v (ii n), .v (.an 0 (.sym np)), .t [], .t [], .v (.bool (.lit false)), .v (.bool (.lit true)), .v (.ptr 1 0), .v (.int .i64 (.lit 0)), .v (.ptr 2 0), .v (.ptr 3 0), .v (.ptr 4 0), .v (.ptr 5 0), .v (.ptr 6 0), .v (.ptr 7 0), .v (ii i)]
abbrev pl (B p4 : Int) : List VV := [ii 4, ii B, ii 14, ii 32, ii p4]
/-- The objects: the program's Alloc, Reserve, Pop, Take, Push, and the document's. -/
abbrev al (cn mk ph : Int) (rp : VV) (k : Int) : VObj MObj := .cells [ii 1, ii (mClass cn), ii cn, ii mk, ii 0, ii 0, ii 0, .int .i64 (.lit ph), rp, ii k, ii 0] 72
abbrev ra (B p4 cn mk pc k : Int) (rp : VV) : VObj MObj := .cells (pl B p4 ++ [ii cn, ii mk, .int .i64 (.lit pc), ii k, rp, ii 0]) 50
abbrev re (B p4 cl st ph : Int) (po ta : VV) (sn rc : Int) : VObj MObj := .cells (pl B p4 ++ [ii cl, ii st, .int .i64 (.lit ph), po, ta, uu sn, ii rc]) 76
abbrev rr (B p4 cl st pc : Int) (po ta : VV) (rc : Int) : VObj MObj := .cells (pl B p4 ++ [ii cl, ii st, .int .i64 (.lit pc), po, ta, ii rc]) 54
abbrev po (nx : VV) (hd w h se : Int) : VObj MObj := .cells [nx, ii hd, uu w, uu h, ii 0, uu se] 121
abbrev ro (hd pc w h se : Int) : VObj MObj := .cells [ii hd, .int .i64 (.lit pc), uu w, uu h, ii 0, uu se] 92
abbrev rx (u : Nat → Value) (sn : Int) : VObj MObj := .cells [.raw (u 0), .raw (u 1), .raw (u 2), .raw (u 3), .raw (u 4), uu sn] 92
abbrev tk (nx : VV) (B p4 cl st w b e kk : Int) (ps : VV) : VObj MObj := .cells ([nx] ++ pl B p4 ++ [ii cl, ii st, uu w, ii b, uu e, ii kk, ps, ii 0]) 90
abbrev rt (B p4 cl st pc kk w e : Int) (ps : VV) : VObj MObj := .cells (pl B p4 ++ [ii cl, ii st, .int .i64 (.lit pc), ii kk, uu w, uu e, ps, ii 0]) 96
abbrev pu (nx : VV) (hd fi la cl w : Int) : VObj MObj := .cells [nx, ii hd, ii fi, ii la, ii cl, uu w] 149
abbrev ru (hd fi la cl pc w : Int) : VObj MObj := .cells [ii hd, ii fi, ii la, ii cl, .int .i64 (.lit pc), uu w] 138
abbrev rd (u : Nat → Value) (at' : Int) : VObj MObj := .cells [.raw (u 0), .raw (u 1), .raw (u 2), .raw (u 3), .raw (u 4), .raw (u 5), .raw (u 6), .raw (u 7), .raw (u 8), .raw (u 9), .raw (u 10), ii at'] 76
abbrev sd (u : Nat → Value) (at' : Int) : VObj MObj := .cells [.raw (u 0), .raw (u 1), .raw (u 2), .raw (u 3), .raw (u 4), .raw (u 5), .raw (u 6), .raw (u 7), .raw (u 8), .raw (u 9), ii at'] 54
abbrev base (ps : List (List Int)) (B p4 : Int) (xs : List Int) (c c2 t : Int) (oa ob oc od : VObj MObj) : HP MObj := [(0, some (.rotab [.int .i64] ps)), (1, some (.cells (pl B p4) 25)), (2, some (.abs (.mem 110 xs c t))), (3, some (.abs (.mem 66 xs c2 t))), (4, some oa), (5, some ob), (6, some oc), (7, some od)]
/-- The cells of all workers: that of the worker q, and the others' (raw). -/
abbrev AC (q : Nat) (x : VV) (vs : Nat → Value) : List VV := match q with | 0 => [x, .raw (vs 1), .raw (vs 2), .raw (vs 3)] | 1 => [.raw (vs 0), x, .raw (vs 2), .raw (vs 3)] | 2 => [.raw (vs 0), .raw (vs 1), x, .raw (vs 3)] | _ => [.raw (vs 0), .raw (vs 1), .raw (vs 2), x]
theorem bne_f {x y : Int} (h : (x == y) = true) : (x != y) = false := by rw [bne, h]; rfl
theorem bne_t {x y : Int} (h : (x == y) = false) : (x != y) = true := by rw [bne, h]; rfl
theorem beq_f {x y : Int} (h : (x != y) = true) : (x == y) = false := by
  cases e : (x == y) with
  | false => rfl
  | true => rw [bne, e] at h; cases h
theorem beq_t {x y : Int} (h : (x != y) = false) : (x == y) = true := by
  cases e : (x == y) with
  | true => rfl
  | false => rw [bne, e] at h; cases h
theorem wrap64 (x : Int) : IntKind.i64.wrap x = (x + 9223372036854775808) % 18446744073709551616 - 9223372036854775808 := by
  rw [wrap_i64']
  split <;> omega
--TACS "assumption", "(apply bne_f; assumption)", "(apply bne_t; assumption)", "(apply beq_f; assumption)", "(apply beq_t; assumption)", "(apply decide_eq_true; rfl)", "(apply beq_self_eq_true)", "(refine beq_of_pos ?_; simp only [decide_eq_true_eq, decide_eq_false_iff_not] at *; omega)", "(simp only [W, wrap64, okc_iff, inb_iff, decide_eq_true_eq, Bool.and_eq_true, ne_eq, decide_eq_false_iff_not, Nat.ble_eq, List.length_set]; omega)", "(simp only [decide_eq_true_eq, Bool.and_eq_true, eq_self, true_and]; omega)", "simp [*]", "(simp only [W, wrap64, mAt, mClass, okc_iff, inb_iff, decide_eq_true_eq, decide_eq_false_iff_not, beq_iff_eq, beq_eq_false_iff_ne, Bool.and_eq_true] at *; omega)"
--SHORT

section
variable (n : Int) (B : Int) (p4 : Int) (c : Int) (c2 : Int) (t : Int) (np : Nat) (ps : List (List Int)) (xs : List Int) (oa : VObj MObj) (ob : VObj MObj) (oc : VObj MObj) (od : VObj MObj) (x14 : SV) (js : Nat → SV)
noncomputable abbrev init_t : Tr (Lf MObj) := ((ev (codeAt body [true, true, true, true, true, true, true, true, true, false, false]) ⟨List.take 14 (pre n np 0) ++ [x14] ++ junk js 177 15, base ps B p4 xs c c2 t oa ob oc od, 8, []⟩).vmap (leaf 15))
noncomputable abbrev init_l0 : Lf MObj := (Lf.mk (VX.normal) [.s (.one (.int .i64 (.sym n))), .s (.one (VV.an 0 (SN.sym np))), SV.t [], SV.t [], .s (.one (.bool (.lit false))), .s (.one (.bool (.lit true))), .s (.one (.ptr 1 0)), .s (.one (.int .i64 (.lit 0))), .s (.one (.ptr 2 0)), .s (.one (.ptr 3 0)), .s (.one (.ptr 4 0)), .s (.one (.ptr 5 0)), .s (.one (.ptr 6 0)), .s (.one (.ptr 7 0)), .s (.one (.int .i64 (.lit 0)))] 192 [(0, some (VObj.rotab [CK.int IntKind.i64] ps)), (1, some (.cells [.int .i64 (.sym 4), .int .i64 (.sym B), .int .i64 (.sym 14), .int .i64 (.sym 32), .int .i64 (.sym p4)] 25)), (2, some (.abs (.mem 110 xs c t))), (3, some (.abs (.mem 66 xs c2 t))), (4, some oa), (5, some ob), (6, some oc), (7, some od)] 8 [])
noncomputable abbrev init_wA : WT (Lf MObj) := (.ok (init_l0 n B p4 c c2 t np ps xs oa ob oc od))
theorem init_kA : Tr.walk (WT.sc (init_wA n B p4 c c2 t np ps xs oa ob oc od)) (init_t n B p4 c c2 t np ps xs oa ob oc od x14 js) = (init_wA n B p4 c c2 t np ps xs oa ob oc od) := by kernel_rfl
theorem init (hx : (xs.length : Int) = 32 + 32 * B) (hp4 : p4 = 32 + 32 * B) (hB : 1 ≤ B ∧ B ≤ 4) (hc : 0 ≤ c ∧ c ≤ 100000) (hc2 : 0 ≤ c2 ∧ c2 ≤ 100000) : (init_t n B p4 c c2 t np ps xs oa ob oc od x14 js).run = Tr.run (.ok (init_l0 n B p4 c c2 t np ps xs oa ob oc od)) := by
  exact Tr.run_walk (init_kA n B p4 c c2 t np ps xs oa ob oc od x14 js) WT.vo (by kernel_rfl)
end
section
variable (n : Int) (i : Int) (B : Int) (p4 : Int) (c : Int) (c2 : Int) (t : Int) (np : Nat) (ps : List (List Int)) (xs : List Int) (oa : VObj MObj) (ob : VObj MObj) (oc : VObj MObj) (od : VObj MObj) (js : Nat → SV)
noncomputable abbrev g_t : Tr (Lf MObj) := ((ev (at' [false]) ⟨pre n np i ++ junk js 177 15, base ps B p4 xs c c2 t oa ob oc od, 8, []⟩).vmap (leaf 15))
noncomputable abbrev g_l0 : Lf MObj := (Lf.mk (VX.normal) [.s (.one (.int .i64 (.sym n))), .s (.one (VV.an 0 (SN.sym np))), SV.t [], SV.t [], .s (.one (.bool (.lit false))), .s (.one (.bool (.lit true))), .s (.one (.ptr 1 0)), .s (.one (.int .i64 (.lit 0))), .s (.one (.ptr 2 0)), .s (.one (.ptr 3 0)), .s (.one (.ptr 4 0)), .s (.one (.ptr 5 0)), .s (.one (.ptr 6 0)), .s (.one (.ptr 7 0)), .s (.one (.int .i64 (.sym i)))] 192 [(0, some (VObj.rotab [CK.int IntKind.i64] ps)), (1, some (.cells [.int .i64 (.sym 4), .int .i64 (.sym B), .int .i64 (.sym 14), .int .i64 (.sym 32), .int .i64 (.sym p4)] 25)), (2, some (.abs (.mem 110 xs c t))), (3, some (.abs (.mem 66 xs c2 t))), (4, some oa), (5, some ob), (6, some oc), (7, some od)] 8 [])
noncomputable abbrev g_l1 : Lf MObj := (Lf.mk (VX.exit 0) [.s (.one (.int .i64 (.sym n))), .s (.one (VV.an 0 (SN.sym np))), SV.t [], SV.t [], .s (.one (.bool (.lit false))), .s (.one (.bool (.lit true))), .s (.one (.ptr 1 0)), .s (.one (.int .i64 (.lit 0))), .s (.one (.ptr 2 0)), .s (.one (.ptr 3 0)), .s (.one (.ptr 4 0)), .s (.one (.ptr 5 0)), .s (.one (.ptr 6 0)), .s (.one (.ptr 7 0)), .s (.one (.int .i64 (.sym i)))] 192 [(0, some (VObj.rotab [CK.int IntKind.i64] ps)), (1, some (.cells [.int .i64 (.sym 4), .int .i64 (.sym B), .int .i64 (.sym 14), .int .i64 (.sym 32), .int .i64 (.sym p4)] 25)), (2, some (.abs (.mem 110 xs c t))), (3, some (.abs (.mem 66 xs c2 t))), (4, some oa), (5, some ob), (6, some oc), (7, some od)] 8 [])
noncomputable abbrev g_l2 : Lf MObj := (Lf.mk (VX.exit 0) [.s (.one (.int .i64 (.sym n))), .s (.one (VV.an 0 (SN.sym np))), SV.t [], SV.t [], .s (.one (.bool (.lit false))), .s (.one (.bool (.lit true))), .s (.one (.ptr 1 0)), .s (.one (.int .i64 (.lit 0))), .s (.one (.ptr 2 0)), .s (.one (.ptr 3 0)), .s (.one (.ptr 4 0)), .s (.one (.ptr 5 0)), .s (.one (.ptr 6 0)), .s (.one (.ptr 7 0)), .s (.one (.int .i64 (.sym i)))] 192 [(0, some (VObj.rotab [CK.int IntKind.i64] ps)), (1, some (.cells [.int .i64 (.sym 4), .int .i64 (.sym B), .int .i64 (.sym 14), .int .i64 (.sym 32), .int .i64 (.sym p4)] 25)), (2, some (.abs (.mem 110 xs c t))), (3, some (.abs (.mem 66 xs c2 t))), (4, some oa), (5, some ob), (6, some oc), (7, some od)] 8 [])
noncomputable abbrev g_wA : WT (Lf MObj) := (.ite (decide (i < (↑np : Int))) (.ite (decide (i < 300)) (.ok (g_l0 n i B p4 c c2 t np ps xs oa ob oc od)) (.ok (g_l1 n i B p4 c c2 t np ps xs oa ob oc od))) (.ok (g_l2 n i B p4 c c2 t np ps xs oa ob oc od)))
theorem g_kA : Tr.walk (WT.sc (g_wA n i B p4 c c2 t np ps xs oa ob oc od)) (g_t n i B p4 c c2 t np ps xs oa ob oc od js) = (g_wA n i B p4 c c2 t np ps xs oa ob oc od) := by kernel_rfl
theorem g (hx : (xs.length : Int) = 32 + 32 * B) (hp4 : p4 = 32 + 32 * B) (hB : 1 ≤ B ∧ B ≤ 4) (hc : 0 ≤ c ∧ c ≤ 100000) (hc2 : 0 ≤ c2 ∧ c2 ≤ 100000) : (g_t n i B p4 c c2 t np ps xs oa ob oc od js).run = Tr.run (.ite (decide (i < (↑np : Int))) (.ite (decide (i < 300)) (.ok (g_l0 n i B p4 c c2 t np ps xs oa ob oc od)) (.ok (g_l1 n i B p4 c c2 t np ps xs oa ob oc od))) (.ok (g_l2 n i B p4 c c2 t np ps xs oa ob oc od))) := by
  exact Tr.run_walk (g_kA n i B p4 c c2 t np ps xs oa ob oc od js) (WT.vi (fun e0 => (WT.vi (fun e1 => WT.vo) fun e1 => WT.vo)) fun e0 => WT.vo) (by kernel_rfl)
end
section
variable (n : Int) (i : Int) (B : Int) (p4 : Int) (c : Int) (c2 : Int) (t : Int) (np : Nat) (ps : List (List Int)) (xs : List Int) (oa : VObj MObj) (ob : VObj MObj) (oc : VObj MObj) (od : VObj MObj) (js : Nat → SV)
noncomputable abbrev kx_t : Tr (Lf MObj) := ((evl [qt [false], qt [true, false]] ⟨pre n np i ++ junk js 177 15, base ps B p4 xs c c2 t oa ob oc od, 8, []⟩).vmap (leaf 17))
noncomputable abbrev kx_l0 : Lf MObj := (Lf.mk (VX.normal) [.s (.one (.int .i64 (.sym n))), .s (.one (VV.an 0 (SN.sym np))), SV.t [], SV.t [], .s (.one (.bool (.lit false))), .s (.one (.bool (.lit true))), .s (.one (.ptr 1 0)), .s (.one (.int .i64 (.lit 0))), .s (.one (.ptr 2 0)), .s (.one (.ptr 3 0)), .s (.one (.ptr 4 0)), .s (.one (.ptr 5 0)), .s (.one (.ptr 6 0)), .s (.one (.ptr 7 0)), .s (.one (.int .i64 (.sym i))), .s (.one (.int .i64 (.sym (kM (tabAt ps (Int.toNat i) 0) 64)))), .s (.one (.int .i64 (.sym (Int.tmod (kM (tabAt ps (Int.toNat i) 0) 64) 4))))] 192 [(0, some (VObj.rotab [CK.int IntKind.i64] ps)), (1, some (.cells [.int .i64 (.sym 4), .int .i64 (.sym B), .int .i64 (.sym 14), .int .i64 (.sym 32), .int .i64 (.sym p4)] 25)), (2, some (.abs (.mem 110 xs c t))), (3, some (.abs (.mem 66 xs c2 t))), (4, some oa), (5, some ob), (6, some oc), (7, some od)] 8 [])
noncomputable abbrev kx_wA : WT (Lf MObj) := (.dec (decide (0 ≤ i) && decide (i < (↑np : Int))) true (.dec (decide (Int.toNat i < List.length ps)) true (.dec (false) false (.ok (kx_l0 n i B p4 c c2 t np ps xs oa ob oc od)))))
theorem kx_kA : Tr.walk (WT.sc (kx_wA n i B p4 c c2 t np ps xs oa ob oc od)) (kx_t n i B p4 c c2 t np ps xs oa ob oc od js) = (kx_wA n i B p4 c c2 t np ps xs oa ob oc od) := by kernel_rfl
theorem kx (hx : (xs.length : Int) = 32 + 32 * B) (hp4 : p4 = 32 + 32 * B) (hB : 1 ≤ B ∧ B ≤ 4) (hc : 0 ≤ c ∧ c ≤ 100000) (hc2 : 0 ≤ c2 ∧ c2 ≤ 100000) (hi : 0 ≤ i ∧ i < 300) (hin : i < np) (hnp : np = ps.length) : (kx_t n i B p4 c c2 t np ps xs oa ob oc od js).run = Tr.run (.ok (kx_l0 n i B p4 c c2 t np ps xs oa ob oc od)) := by
  exact Tr.run_walk (kx_kA n i B p4 c c2 t np ps xs oa ob oc od js) (WT.vd (by (simp only [W, wrap64, okc_iff, inb_iff, decide_eq_true_eq, Bool.and_eq_true, ne_eq, decide_eq_false_iff_not, Nat.ble_eq, List.length_set]; omega)) (WT.vd (by (simp only [W, wrap64, okc_iff, inb_iff, decide_eq_true_eq, Bool.and_eq_true, ne_eq, decide_eq_false_iff_not, Nat.ble_eq, List.length_set]; omega)) (WT.vd (rfl) WT.vo))) (by kernel_rfl)
end
section
variable (n : Int) (i : Int) (B : Int) (p4 : Int) (c : Int) (c2 : Int) (t : Int) (np : Nat) (ps : List (List Int)) (xs : List Int) (oa : VObj MObj) (ob : VObj MObj) (oc : VObj MObj) (od : VObj MObj) (js : Nat → SV)
noncomputable abbrev inc_t : Tr (Lf MObj) := ((ev (at' [true, true]) ⟨pre n np i ++ junk js 177 15, base ps B p4 xs c c2 t oa ob oc od, 8, []⟩).vmap (leaf 15))
noncomputable abbrev inc_l0 : Lf MObj := (Lf.mk (VX.normal) [.s (.one (.int .i64 (.sym n))), .s (.one (VV.an 0 (SN.sym np))), SV.t [], SV.t [], .s (.one (.bool (.lit false))), .s (.one (.bool (.lit true))), .s (.one (.ptr 1 0)), .s (.one (.int .i64 (.lit 0))), .s (.one (.ptr 2 0)), .s (.one (.ptr 3 0)), .s (.one (.ptr 4 0)), .s (.one (.ptr 5 0)), .s (.one (.ptr 6 0)), .s (.one (.ptr 7 0)), .s (.one (.int .i64 (.sym (W (i + 1)))))] 192 [(0, some (VObj.rotab [CK.int IntKind.i64] ps)), (1, some (.cells [.int .i64 (.sym 4), .int .i64 (.sym B), .int .i64 (.sym 14), .int .i64 (.sym 32), .int .i64 (.sym p4)] 25)), (2, some (.abs (.mem 110 xs c t))), (3, some (.abs (.mem 66 xs c2 t))), (4, some oa), (5, some ob), (6, some oc), (7, some od)] 8 [])
noncomputable abbrev inc_wA : WT (Lf MObj) := (.ok (inc_l0 n i B p4 c c2 t np ps xs oa ob oc od))
theorem inc_kA : Tr.walk (WT.sc (inc_wA n i B p4 c c2 t np ps xs oa ob oc od)) (inc_t n i B p4 c c2 t np ps xs oa ob oc od js) = (inc_wA n i B p4 c c2 t np ps xs oa ob oc od) := by kernel_rfl
theorem inc (hx : (xs.length : Int) = 32 + 32 * B) (hp4 : p4 = 32 + 32 * B) (hB : 1 ≤ B ∧ B ≤ 4) (hc : 0 ≤ c ∧ c ≤ 100000) (hc2 : 0 ≤ c2 ∧ c2 ≤ 100000) : (inc_t n i B p4 c c2 t np ps xs oa ob oc od js).run = Tr.run (.ok (inc_l0 n i B p4 c c2 t np ps xs oa ob oc od)) := by
  exact Tr.run_walk (inc_kA n i B p4 c c2 t np ps xs oa ob oc od js) WT.vo (by kernel_rfl)
end
section
variable (n : Int) (i : Int) (B : Int) (p4 : Int) (c : Int) (c2 : Int) (t : Int) (np : Nat) (ps : List (List Int)) (xs : List Int) (oa : VObj MObj) (ob : VObj MObj) (oc : VObj MObj) (od : VObj MObj) (js : Nat → SV)
noncomputable abbrev fin_t : Tr (Lf MObj) := ((ev (codeAt body [true, true, true, true, true, true, true, true, true, true]) ⟨pre n np i ++ junk js 177 15, base ps B p4 xs c c2 t oa ob oc od, 8, []⟩).vmap (leaf 15))
noncomputable abbrev fin_l0 : Lf MObj := (Lf.mk (VX.ret) [.s (.one (.int .i64 (.sym n))), .s (.one (VV.an 0 (SN.sym np))), SV.t [], SV.t [], .s (.one (.bool (.lit true))), .s (.one (.bool (.lit true))), .s (.one (.ptr 1 0)), .s (.one (.int .i64 (.lit 0))), .s (.one (.ptr 2 0)), .s (.one (.ptr 3 0)), .s (.one (.ptr 4 0)), .s (.one (.ptr 5 0)), .s (.one (.ptr 6 0)), .s (.one (.ptr 7 0)), .s (.one (.int .i64 (.sym i)))] 192 [(0, some (VObj.rotab [CK.int IntKind.i64] ps)), (1, some (.cells [.int .i64 (.sym 4), .int .i64 (.sym B), .int .i64 (.sym 14), .int .i64 (.sym 32), .int .i64 (.sym p4)] 25)), (2, some (.abs (.mem 110 xs c t))), (3, some (.abs (.mem 66 xs c2 t))), (4, some oa), (5, some ob), (6, some oc), (7, some od)] 8 [2, 3])
noncomputable abbrev fin_wA : WT (Lf MObj) := (.dec (decide (xs = xs) && (decide (t = t) && (decide (0 < List.length xs) && (decide (List.length xs ≤ 1000000) && (decide (0 ≤ c) && decide (c ≤ 1000000000)))))) true (.ok (fin_l0 n i B p4 c c2 t np ps xs oa ob oc od)))
theorem fin_kA : Tr.walk (WT.sc (fin_wA n i B p4 c c2 t np ps xs oa ob oc od)) (fin_t n i B p4 c c2 t np ps xs oa ob oc od js) = (fin_wA n i B p4 c c2 t np ps xs oa ob oc od) := by kernel_rfl
theorem fin (hx : (xs.length : Int) = 32 + 32 * B) (hp4 : p4 = 32 + 32 * B) (hB : 1 ≤ B ∧ B ≤ 4) (hc : 0 ≤ c ∧ c ≤ 100000) (hc2 : 0 ≤ c2 ∧ c2 ≤ 100000) (hl : 0 < xs.length ∧ xs.length ≤ 1000000) : (fin_t n i B p4 c c2 t np ps xs oa ob oc od js).run = Tr.run (.ok (fin_l0 n i B p4 c c2 t np ps xs oa ob oc od)) := by
  exact Tr.run_walk (fin_kA n i B p4 c c2 t np ps xs oa ob oc od js) (WT.vd (by (simp only [decide_eq_true_eq, Bool.and_eq_true, eq_self, true_and]; omega)) WT.vo) (by kernel_rfl)
end
end Go.Proofs.YtkbleapcnbphjaaGreat.AllocPlays
