/-
  ViewNew: copied, and mark of view.sorter: what their pieces come to.
-/
import Derived.Test.YtcolladpdmjloaaEvV25
import Derived.Test.YtcolladpdmjloaaEngZd
import Derived.Test.YtcolladpdmjloaaEngZw
namespace Go.Proofs.Ytcolladpdmjloaa.ViewC
open Go Go.RowKit Go.Proofs.Ytcolladpdmjloaa.Eng
set_option linter.unusedVariables false
set_option linter.unusedSimpArgs false
set_option linter.unusedSectionVars false
set_option maxRecDepth 20000
noncomputable abbrev ev (c : Code) : St MObj → Tr (VX × St MObj) := evCode Try.prog (evF Try.prog (lookH MObj V25.tabN) 400 20) 400 c
noncomputable abbrev evl (c : List Code) : St MObj → Tr (VX × St MObj) := evList (P := Try.prog) (evF Try.prog (lookH MObj V25.tabN) 400 20) 400 c
noncomputable abbrev cbody : Code := Try.f7.body.get!
noncomputable abbrev mbody : Code := Try.f25.body.get!
abbrev lt (x : Int) : VV := .int .i64 (.lit x)
theorem wrap64 (x : Int) : IntKind.i64.wrap x = (x + 9223372036854775808) % 18446744073709551616 - 9223372036854775808 := by
  rw [wrap_i64']
  split <;> omega
abbrev refO (n : Nat) (b d : Int) : VObj MObj := .cells [.ts 1 (.lit 0) (.sym n) none, ii b, ii d, .nils] 51
abbrev chp (n : Nat) (b d : Int) (rows : List (List Int)) : HP MObj := [(0, some (refO n b d)), (1, some (.tab [.int .u64] rows 53))]
abbrev shp (t b x hp sz : Int) (n : Nat) (bad : Bool) (o1 : VObj MObj) (rows : List (List Int)) : HP MObj := [(0, some (.cells [ii t, ii b, ii x, ii hp, ii sz, .ptr 1 0, .ts 2 (.lit 0) (.sym n) none, .bool (.sym bad)] 67)), (1, some o1), (2, some (.tab [.int .i64] rows 3))]
--TACS "assumption", "(simp only [W, wrap64, okc_iff, inb_iff, decide_eq_true_eq, Bool.and_eq_true, ne_eq, decide_eq_false_iff_not, Nat.ble_eq, List.length_set]; omega)", "(simp only [W, wrap64, okc_iff, inb_iff, decide_eq_true_eq, decide_eq_false_iff_not, beq_iff_eq, beq_eq_false_iff_ne, bne_iff_ne, Bool.and_eq_true] at *; omega)", "simp [*]"
--SHORT

section
variable (n : Nat) (b : Int) (d : Int) (rows : List (List Int))
noncomputable abbrev cs_t : Tr (Lf MObj) := ((evl (Eng.spine 2 cbody).1 ⟨[.v (.ptr 0 0)] ++ List.replicate (Try.f7.ntmps - 1) .undef, chp n b d rows, 2, []⟩).vmap (leaf 6))
noncomputable abbrev cs_l0 : Lf MObj := (Lf.mk (VX.normal) [.s (.one (.ptr 0 0)), SV.t [], .s (.one .nilp), .s (.one (.ptr 2 0)), .s (.one (.int .i64 (.lit 0))), SV.t []] 39 [(0, some (.cells [VV.ts 1 (SN.lit 0) (SN.sym n) none, .int .i64 (.sym b), .int .i64 (.sym d), .nils] 51)), (1, some (VObj.tab [CK.int IntKind.u64] rows 53)), (2, some (.abs (.mem 79 (List.replicate (Int.toNat (↑n : Int)) 0) 0 0)))] 3 [2])
noncomputable abbrev cs_wA : WT (Lf MObj) := (.dec (decide (1 ≤ (↑n : Int)) && decide ((↑n : Int) ≤ 4096)) true (.ok (cs_l0 n b d rows)))
theorem cs_kA : Tr.walk (WT.sc (cs_wA n b d rows)) (cs_t n b d rows) = (cs_wA n b d rows) := by kernel_rfl
theorem cs (hn : 1 ≤ n ∧ n ≤ 4000) : (cs_t n b d rows).run = Tr.run (.ok (cs_l0 n b d rows)) := by
  exact Tr.run_walk (cs_kA n b d rows) (WT.vd (by (simp only [W, wrap64, okc_iff, inb_iff, decide_eq_true_eq, Bool.and_eq_true, ne_eq, decide_eq_false_iff_not, Nat.ble_eq, List.length_set]; omega)) WT.vo) (by kernel_rfl)
end
section
variable (n : Nat) (b : Int) (d : Int) (c : Int) (rows : List (List Int)) (xs : List Int) (x2 : SV) (x4 : SV) (x5 : SV) (js : Nat → SV)
noncomputable abbrev ci_t : Tr (Lf MObj) := ((ev (codeAt cbody [true, true, false, false]) ⟨[.v (.ptr 0 0), x2, .v .nilp, .v (.ptr 2 0), x4, x5] ++ junk js 33 6, chp n b d rows ++ [(2, some (.abs (.mem 79 xs c 0)))], 3, []⟩).vmap (leaf 6))
noncomputable abbrev ci_l0 : Lf MObj := (Lf.mk (VX.normal) [.s (.one (.ptr 0 0)), x2, .s (.one .nilp), .s (.one (.ptr 2 0)), x4, .s (.one (.int .i64 (.lit 0)))] 39 [(0, some (.cells [VV.ts 1 (SN.lit 0) (SN.sym n) none, .int .i64 (.sym b), .int .i64 (.sym d), .nils] 51)), (1, some (VObj.tab [CK.int IntKind.u64] rows 53)), (2, some (.abs (.mem 79 xs c 0)))] 3 [])
noncomputable abbrev ci_wA : WT (Lf MObj) := (.ok (ci_l0 n b d c rows xs x2 x4))
theorem ci_kA : Tr.walk (WT.sc (ci_wA n b d c rows xs x2 x4)) (ci_t n b d c rows xs x2 x4 x5 js) = (ci_wA n b d c rows xs x2 x4) := by kernel_rfl
theorem ci (hx : xs.length = n) : (ci_t n b d c rows xs x2 x4 x5 js).run = Tr.run (.ok (ci_l0 n b d c rows xs x2 x4)) := by
  exact Tr.run_walk (ci_kA n b d c rows xs x2 x4 x5 js) WT.vo (by kernel_rfl)
end
section
variable (n : Nat) (b : Int) (d : Int) (c : Int) (i : Int) (rows : List (List Int)) (xs : List Int) (x2 : SV) (x4 : SV) (js : Nat → SV)
noncomputable abbrev cg_t : Tr (Lf MObj) := ((ev (codeAt cbody [true, true, false, true, false, false, false]) ⟨[.v (.ptr 0 0), x2, .v .nilp, .v (.ptr 2 0), x4, .v (ii i)] ++ junk js 33 6, chp n b d rows ++ [(2, some (.abs (.mem 79 xs c 0)))], 3, []⟩).vmap (leaf 6))
noncomputable abbrev cg_l0 : Lf MObj := (Lf.mk (VX.normal) [.s (.one (.ptr 0 0)), x2, .s (.one .nilp), .s (.one (.ptr 2 0)), x4, .s (.one (.int .i64 (.sym i)))] 39 [(0, some (.cells [VV.ts 1 (SN.lit 0) (SN.sym n) none, .int .i64 (.sym b), .int .i64 (.sym d), .nils] 51)), (1, some (VObj.tab [CK.int IntKind.u64] rows 53)), (2, some (.abs (.mem 79 xs c 0)))] 3 [])
noncomputable abbrev cg_l1 : Lf MObj := (Lf.mk (VX.exit 0) [.s (.one (.ptr 0 0)), x2, .s (.one .nilp), .s (.one (.ptr 2 0)), x4, .s (.one (.int .i64 (.sym i)))] 39 [(0, some (.cells [VV.ts 1 (SN.lit 0) (SN.sym n) none, .int .i64 (.sym b), .int .i64 (.sym d), .nils] 51)), (1, some (VObj.tab [CK.int IntKind.u64] rows 53)), (2, some (.abs (.mem 79 xs c 0)))] 3 [])
noncomputable abbrev cg_wA : WT (Lf MObj) := (.ite (decide (i < (↑n : Int))) (.ok (cg_l0 n b d c i rows xs x2 x4)) (.ok (cg_l1 n b d c i rows xs x2 x4)))
theorem cg_kA : Tr.walk (WT.sc (cg_wA n b d c i rows xs x2 x4)) (cg_t n b d c i rows xs x2 x4 js) = (cg_wA n b d c i rows xs x2 x4) := by kernel_rfl
theorem cg (hx : xs.length = n) (hi : 0 ≤ i ∧ i ≤ n) : (cg_t n b d c i rows xs x2 x4 js).run = Tr.run (.ite (decide (i < (↑n : Int))) (.ok (cg_l0 n b d c i rows xs x2 x4)) (.ok (cg_l1 n b d c i rows xs x2 x4))) := by
  exact Tr.run_walk (cg_kA n b d c i rows xs x2 x4 js) (WT.vi (fun e0 => WT.vo) fun e0 => WT.vo) (by kernel_rfl)
end
section
variable (n : Nat) (b : Int) (d : Int) (c : Int) (i : Int) (rows : List (List Int)) (xs : List Int) (x2 : SV) (x4 : SV) (js : Nat → SV)
noncomputable abbrev cb_t : Tr (Lf MObj) := ((ev (codeAt cbody [true, true, false, true, false, false, true, false, false]) ⟨[.v (.ptr 0 0), x2, .v .nilp, .v (.ptr 2 0), x4, .v (ii i)] ++ junk js 33 6, chp n b d rows ++ [(2, some (.abs (.mem 79 xs c 0)))], 3, []⟩).vmap (leaf 6))
noncomputable abbrev cb_l0 : Lf MObj := (Lf.mk (VX.normal) [.s (.one (.ptr 0 0)), x2, .s (.one .nilp), .s (.one (.ptr 2 0)), x4, .s (.one (.int .i64 (.sym i)))] 39 [(0, some (.cells [VV.ts 1 (SN.lit 0) (SN.sym n) none, .int .i64 (.sym b), .int .i64 (.sym d), .nils] 51)), (1, some (VObj.tab [CK.int IntKind.u64] rows 53)), (2, some (.abs (.mem 79 (List.set xs (Int.toNat i) (tabAt rows (0 + Int.toNat i) 0)) (c + 1) 0)))] 3 [2])
noncomputable abbrev cb_wA : WT (Lf MObj) := (.dec (decide (0 ≤ i) && decide (i < (↑n : Int))) true (.dec (decide (0 + Int.toNat i < List.length rows)) true (.dec (okc c) true (.dec (inb i (List.length xs)) true (.ok (cb_l0 n b d c i rows xs x2 x4))))))
theorem cb_kA : Tr.walk (WT.sc (cb_wA n b d c i rows xs x2 x4)) (cb_t n b d c i rows xs x2 x4 js) = (cb_wA n b d c i rows xs x2 x4) := by kernel_rfl
theorem cb (hx : xs.length = n) (hr : n = rows.length) (hn : n ≤ 4000) (hi : 0 ≤ i ∧ i < n) (hc : 0 ≤ c ∧ c ≤ 10000) : (cb_t n b d c i rows xs x2 x4 js).run = Tr.run (.ok (cb_l0 n b d c i rows xs x2 x4)) := by
  exact Tr.run_walk (cb_kA n b d c i rows xs x2 x4 js) (WT.vd (by (simp only [W, wrap64, okc_iff, inb_iff, decide_eq_true_eq, Bool.and_eq_true, ne_eq, decide_eq_false_iff_not, Nat.ble_eq, List.length_set]; omega)) (WT.vd (by (simp only [W, wrap64, okc_iff, inb_iff, decide_eq_true_eq, Bool.and_eq_true, ne_eq, decide_eq_false_iff_not, Nat.ble_eq, List.length_set]; omega)) (WT.vd (okc_iff.2 (by omega)) (WT.vd (by (simp only [W, wrap64, okc_iff, inb_iff, decide_eq_true_eq, Bool.and_eq_true, ne_eq, decide_eq_false_iff_not, Nat.ble_eq, List.length_set]; omega)) WT.vo)))) (by kernel_rfl)
end
section
variable (n : Nat) (b : Int) (d : Int) (c : Int) (i : Int) (rows : List (List Int)) (xs : List Int) (x2 : SV) (x4 : SV) (js : Nat → SV)
noncomputable abbrev cn_t : Tr (Lf MObj) := ((ev (codeAt cbody [true, true, false, true, false, false, true, true]) ⟨[.v (.ptr 0 0), x2, .v .nilp, .v (.ptr 2 0), x4, .v (ii i)] ++ junk js 33 6, chp n b d rows ++ [(2, some (.abs (.mem 79 xs c 0)))], 3, []⟩).vmap (leaf 6))
noncomputable abbrev cn_l0 : Lf MObj := (Lf.mk (VX.normal) [.s (.one (.ptr 0 0)), x2, .s (.one .nilp), .s (.one (.ptr 2 0)), x4, .s (.one (.int .i64 (.sym (W (i + 1)))))] 39 [(0, some (.cells [VV.ts 1 (SN.lit 0) (SN.sym n) none, .int .i64 (.sym b), .int .i64 (.sym d), .nils] 51)), (1, some (VObj.tab [CK.int IntKind.u64] rows 53)), (2, some (.abs (.mem 79 xs c 0)))] 3 [])
noncomputable abbrev cn_wA : WT (Lf MObj) := (.ok (cn_l0 n b d c i rows xs x2 x4))
theorem cn_kA : Tr.walk (WT.sc (cn_wA n b d c i rows xs x2 x4)) (cn_t n b d c i rows xs x2 x4 js) = (cn_wA n b d c i rows xs x2 x4) := by kernel_rfl
theorem cn (hi : 0 ≤ i ∧ i ≤ 4000) : (cn_t n b d c i rows xs x2 x4 js).run = Tr.run (.ok (cn_l0 n b d c i rows xs x2 x4)) := by
  exact Tr.run_walk (cn_kA n b d c i rows xs x2 x4 js) WT.vo (by kernel_rfl)
end
section
variable (n : Nat) (b : Int) (d : Int) (c : Int) (rows : List (List Int)) (xs : List Int) (x2 : SV) (x4 : SV) (x5 : SV) (js : Nat → SV)
noncomputable abbrev cf_t : Tr (Lf MObj) := ((ev (codeAt cbody [true, true, true]) ⟨[.v (.ptr 0 0), x2, .v .nilp, .v (.ptr 2 0), x4, x5] ++ junk js 33 6, chp n b d rows ++ [(2, some (.abs (.mem 79 xs c 0)))], 3, []⟩).vmap (leaf 6))
noncomputable abbrev cf_l0 : Lf MObj := (Lf.mk (VX.ret) [.s (.one (.ptr 0 0)), x2, .s (.one (.ptr 2 0)), .s (.one (.ptr 2 0)), x4, x5] 39 [(0, some (.cells [VV.ts 1 (SN.lit 0) (SN.sym n) none, .int .i64 (.sym b), .int .i64 (.sym d), .nils] 51)), (1, some (VObj.tab [CK.int IntKind.u64] rows 53)), (2, some (.abs (.mem 79 xs c 0)))] 3 [])
noncomputable abbrev cf_wA : WT (Lf MObj) := (.ok (cf_l0 n b d c rows xs x2 x4 x5))
theorem cf_kA : Tr.walk (WT.sc (cf_wA n b d c rows xs x2 x4 x5)) (cf_t n b d c rows xs x2 x4 x5 js) = (cf_wA n b d c rows xs x2 x4 x5) := by kernel_rfl
theorem cf (hn : 1 ≤ n) : (cf_t n b d c rows xs x2 x4 x5 js).run = Tr.run (.ok (cf_l0 n b d c rows xs x2 x4 x5)) := by
  exact Tr.run_walk (cf_kA n b d c rows xs x2 x4 x5 js) WT.vo (by kernel_rfl)
end
section
variable (t : Int) (b : Int) (x : Int) (hp : Int) (sz : Int) (a : Int) (n : Int) (w : Int) (nn : Nat) (bad : Bool) (o1 : VObj MObj) (rows : List (List Int))
noncomputable abbrev ms_t : Tr (Lf MObj) := ((ev (codeAt mbody [false]) ⟨[.v (.ptr 0 0), .v (ii a), .v (ii n), .v (ii w)] ++ List.replicate (Try.f25.ntmps - 4) .undef, shp t b x hp sz nn bad o1 rows, 3, []⟩).vmap (leaf 13))
noncomputable abbrev ms_l0 : Lf MObj := (Lf.mk (VX.normal) [.s (.one (.ptr 0 0)), .s (.one (.int .i64 (.sym a))), .s (.one (.int .i64 (.sym n))), .s (.one (.int .i64 (.sym w))), SV.t [], SV.t [], SV.t [], SV.t [], SV.t [], SV.t [], SV.t [], .s (.one (.int .i64 (.sym n))), .s (.one (.int .i64 (.lit 0)))] 65 [(0, some (.cells [.int .i64 (.sym t), .int .i64 (.sym b), .int .i64 (.sym x), .int .i64 (.sym hp), .int .i64 (.sym sz), .ptr 1 0, VV.ts 2 (SN.lit 0) (SN.sym nn) none, .bool (.sym bad)] 67)), (1, some o1), (2, some (VObj.tab [CK.int IntKind.i64] rows 3))] 3 [])
noncomputable abbrev ms_wA : WT (Lf MObj) := (.ok (ms_l0 t b x hp sz a n w nn bad o1 rows))
theorem ms_kA : Tr.walk (WT.sc (ms_wA t b x hp sz a n w nn bad o1 rows)) (ms_t t b x hp sz a n w nn bad o1 rows) = (ms_wA t b x hp sz a n w nn bad o1 rows) := by kernel_rfl
theorem ms (hn : 0 ≤ n) : (ms_t t b x hp sz a n w nn bad o1 rows).run = Tr.run (.ok (ms_l0 t b x hp sz a n w nn bad o1 rows)) := by
  exact Tr.run_walk (ms_kA t b x hp sz a n w nn bad o1 rows) WT.vo (by kernel_rfl)
end
section
variable (t : Int) (b : Int) (x : Int) (hp : Int) (sz : Int) (a : Int) (n : Int) (w : Int) (nn : Nat) (bad : Bool) (o1 : VObj MObj) (rows : List (List Int)) (i : Int) (x4 : SV) (x5 : SV) (x6 : SV) (x7 : SV) (x8 : SV) (x9 : SV) (x10 : SV) (js : Nat → SV)
noncomputable abbrev mg_t : Tr (Lf MObj) := ((ev (codeAt mbody [true, false, false, false]) ⟨[.v (.ptr 0 0), .v (ii a), .v (ii n), .v (ii w)] ++ [x4, x5, x6, x7, x8, x9, x10, .v (ii n), .v (ii i)] ++ junk js 52 13, shp t b x hp sz nn bad o1 rows, 3, []⟩).vmap (leaf 14))
noncomputable abbrev mg_l0 : Lf MObj := (Lf.mk (VX.normal) [.s (.one (.ptr 0 0)), .s (.one (.int .i64 (.sym a))), .s (.one (.int .i64 (.sym n))), .s (.one (.int .i64 (.sym w))), x4, x5, x6, x7, x8, x9, x10, .s (.one (.int .i64 (.sym n))), .s (.one (.int .i64 (.sym i))), .s (.one (.bool (.sym (decide (i < n)))))] 65 [(0, some (.cells [.int .i64 (.sym t), .int .i64 (.sym b), .int .i64 (.sym x), .int .i64 (.sym hp), .int .i64 (.sym sz), .ptr 1 0, VV.ts 2 (SN.lit 0) (SN.sym nn) none, .bool (.sym bad)] 67)), (1, some o1), (2, some (VObj.tab [CK.int IntKind.i64] rows 3))] 3 [])
noncomputable abbrev mg_wA : WT (Lf MObj) := (.ok (mg_l0 t b x hp sz a n w nn bad o1 rows i x4 x5 x6 x7 x8 x9 x10))
theorem mg_kA : Tr.walk (WT.sc (mg_wA t b x hp sz a n w nn bad o1 rows i x4 x5 x6 x7 x8 x9 x10)) (mg_t t b x hp sz a n w nn bad o1 rows i x4 x5 x6 x7 x8 x9 x10 js) = (mg_wA t b x hp sz a n w nn bad o1 rows i x4 x5 x6 x7 x8 x9 x10) := by kernel_rfl
theorem mg (hi : 0 ≤ i ∧ i ≤ n) : (mg_t t b x hp sz a n w nn bad o1 rows i x4 x5 x6 x7 x8 x9 x10 js).run = Tr.run (.ok (mg_l0 t b x hp sz a n w nn bad o1 rows i x4 x5 x6 x7 x8 x9 x10)) := by
  exact Tr.run_walk (mg_kA t b x hp sz a n w nn bad o1 rows i x4 x5 x6 x7 x8 x9 x10 js) WT.vo (by kernel_rfl)
end
section
variable (t : Int) (b : Int) (x : Int) (hp : Int) (sz : Int) (a : Int) (n : Int) (w : Int) (nn : Nat) (bad : Bool) (o1 : VObj MObj) (rows : List (List Int)) (i : Int) (q : Bool) (x4 : SV) (x5 : SV) (x6 : SV) (x7 : SV) (x8 : SV) (x9 : SV) (x10 : SV) (js : Nat → SV)
noncomputable abbrev mc_t : Tr (Lf MObj) := ((ev (codeAt mbody [true, false, false, true, false]) ⟨[.v (.ptr 0 0), .v (ii a), .v (ii n), .v (ii w)] ++ [x4, x5, x6, x7, x8, x9, x10, .v (ii n), .v (ii i)] ++ [.v (.bool (.sym q))] ++ junk js 51 14, shp t b x hp sz nn bad o1 rows, 3, []⟩).vmap (leaf 13))
noncomputable abbrev mc_l0 : Lf MObj := (Lf.mk (VX.normal) [.s (.one (.ptr 0 0)), .s (.one (.int .i64 (.sym a))), .s (.one (.int .i64 (.sym n))), .s (.one (.int .i64 (.sym w))), x4, x5, x6, x7, x8, x9, x10, .s (.one (.int .i64 (.sym n))), .s (.one (.int .i64 (.sym i)))] 65 [(0, some (.cells [.int .i64 (.sym t), .int .i64 (.sym b), .int .i64 (.sym x), .int .i64 (.sym hp), .int .i64 (.sym sz), .ptr 1 0, VV.ts 2 (SN.lit 0) (SN.sym nn) none, .bool (.sym bad)] 67)), (1, some o1), (2, some (VObj.tab [CK.int IntKind.i64] rows 3))] 3 [])
noncomputable abbrev mc_l1 : Lf MObj := (Lf.mk (VX.exit 0) [.s (.one (.ptr 0 0)), .s (.one (.int .i64 (.sym a))), .s (.one (.int .i64 (.sym n))), .s (.one (.int .i64 (.sym w))), x4, x5, x6, x7, x8, x9, x10, .s (.one (.int .i64 (.sym n))), .s (.one (.int .i64 (.sym i)))] 65 [(0, some (.cells [.int .i64 (.sym t), .int .i64 (.sym b), .int .i64 (.sym x), .int .i64 (.sym hp), .int .i64 (.sym sz), .ptr 1 0, VV.ts 2 (SN.lit 0) (SN.sym nn) none, .bool (.sym bad)] 67)), (1, some o1), (2, some (VObj.tab [CK.int IntKind.i64] rows 3))] 3 [])
noncomputable abbrev mc_wA : WT (Lf MObj) := (.ite (q) (.ok (mc_l0 t b x hp sz a n w nn bad o1 rows i x4 x5 x6 x7 x8 x9 x10)) (.ok (mc_l1 t b x hp sz a n w nn bad o1 rows i x4 x5 x6 x7 x8 x9 x10)))
theorem mc_kA : Tr.walk (WT.sc (mc_wA t b x hp sz a n w nn bad o1 rows i q x4 x5 x6 x7 x8 x9 x10)) (mc_t t b x hp sz a n w nn bad o1 rows i q x4 x5 x6 x7 x8 x9 x10 js) = (mc_wA t b x hp sz a n w nn bad o1 rows i q x4 x5 x6 x7 x8 x9 x10) := by kernel_rfl
theorem mc (hi : 0 ≤ i ∧ i ≤ n) : (mc_t t b x hp sz a n w nn bad o1 rows i q x4 x5 x6 x7 x8 x9 x10 js).run = Tr.run (.ite (q) (.ok (mc_l0 t b x hp sz a n w nn bad o1 rows i x4 x5 x6 x7 x8 x9 x10)) (.ok (mc_l1 t b x hp sz a n w nn bad o1 rows i x4 x5 x6 x7 x8 x9 x10))) := by
  exact Tr.run_walk (mc_kA t b x hp sz a n w nn bad o1 rows i q x4 x5 x6 x7 x8 x9 x10 js) (WT.vi (fun e0 => WT.vo) fun e0 => WT.vo) (by kernel_rfl)
end
section
variable (t : Int) (b : Int) (x : Int) (hp : Int) (sz : Int) (a : Int) (n : Int) (w : Int) (nn : Nat) (bad : Bool) (o1 : VObj MObj) (rows : List (List Int)) (i : Int) (x4 : SV) (x5 : SV) (x6 : SV) (x7 : SV) (x8 : SV) (x9 : SV) (x10 : SV) (js : Nat → SV)
noncomputable abbrev mb_t : Tr (Lf MObj) := ((ev (codeAt mbody [true, false, false, true, true, false, false]) ⟨[.v (.ptr 0 0), .v (ii a), .v (ii n), .v (ii w)] ++ [x4, x5, x6, x7, x8, x9, x10, .v (ii n), .v (ii i)] ++ junk js 52 13, shp t b x hp sz nn bad o1 rows, 3, []⟩).vmap (leaf 13))
noncomputable abbrev mb_l0 : Lf MObj := (Lf.mk (VX.exit 1) [.s (.one (.ptr 0 0)), .s (.one (.int .i64 (.sym a))), .s (.one (.int .i64 (.sym n))), .s (.one (.int .i64 (.sym w))), x4, x5, x6, x7, .s (.one (.int .i64 (.sym i))), .s (.one (.int .i64 (.sym (W (a + i))))), .s (.one (.int .i64 (.sym (tabAt rows (0 + Int.toNat (W (a + i))) 0)))), .s (.one (.int .i64 (.sym n))), .s (.one (.int .i64 (.sym i)))] 65 [(0, some (.cells [.int .i64 (.sym t), .int .i64 (.sym b), .int .i64 (.sym x), .int .i64 (.sym hp), .int .i64 (.sym sz), .ptr 1 0, VV.ts 2 (SN.lit 0) (SN.sym nn) none, .bool (.lit true)] 67)), (1, some o1), (2, some (VObj.tab [CK.int IntKind.i64] rows 3))] 3 [0])
noncomputable abbrev mb_l1 : Lf MObj := (Lf.mk (VX.normal) [.s (.one (.ptr 0 0)), .s (.one (.int .i64 (.sym a))), .s (.one (.int .i64 (.sym n))), .s (.one (.int .i64 (.sym w))), x4, x5, x6, x7, .s (.one (.int .i64 (.sym i))), .s (.one (.int .i64 (.sym (W (a + i))))), .s (.one (.int .i64 (.sym (tabAt rows (0 + Int.toNat (W (a + i))) 0)))), .s (.one (.int .i64 (.sym n))), .s (.one (.int .i64 (.sym i)))] 65 [(0, some (.cells [.int .i64 (.sym t), .int .i64 (.sym b), .int .i64 (.sym x), .int .i64 (.sym hp), .int .i64 (.sym sz), .ptr 1 0, VV.ts 2 (SN.lit 0) (SN.sym nn) none, .bool (.sym bad)] 67)), (1, some o1), (2, some (VObj.tab [CK.int IntKind.i64] (List.set rows (0 + Int.toNat (W (a + i))) (splice (List.getD rows (0 + Int.toNat (W (a + i))) []) 0 [w])) 3))] 3 [2])
noncomputable abbrev mb_wA : WT (Lf MObj) := (.dec (decide (W (a + i) < hp)) false (.dec (decide (W (a + i) ≥ sz)) false (.dec (decide (0 ≤ W (a + i)) && decide (W (a + i) < (↑nn : Int))) true (.dec (decide (0 + Int.toNat (W (a + i)) < List.length rows)) true (.ite (tabAt rows (0 + Int.toNat (W (a + i))) 0 != 0) (.dec (tabAt rows (0 + Int.toNat (W (a + i))) 0 != 1) true (.ok (mb_l0 t b x hp sz a n w nn o1 rows i x4 x5 x6 x7))) (.dec (decide (0 ≤ W (a + i)) && decide (W (a + i) < (↑nn : Int))) true (.dec (decide (0 + Int.toNat (W (a + i)) < List.length rows)) true (.ok (mb_l1 t b x hp sz a n w nn bad o1 rows i x4 x5 x6 x7)))))))))
theorem mb_kA : Tr.walk (WT.sc (mb_wA t b x hp sz a n w nn bad o1 rows i x4 x5 x6 x7)) (mb_t t b x hp sz a n w nn bad o1 rows i x4 x5 x6 x7 x8 x9 x10 js) = (mb_wA t b x hp sz a n w nn bad o1 rows i x4 x5 x6 x7) := by kernel_rfl
theorem mb (hi : 0 ≤ i ∧ i < n) (ha : 0 ≤ hp ∧ hp ≤ a ∧ a + n ≤ sz ∧ sz ≤ nn ∧ nn ≤ 4000) (hr : nn = rows.length) (h0 : tabAt rows (0 + Int.toNat (W (a + i))) 0 = 0) : (mb_t t b x hp sz a n w nn bad o1 rows i x4 x5 x6 x7 x8 x9 x10 js).run = Tr.run (.ite (tabAt rows (0 + Int.toNat (W (a + i))) 0 != 0) (.ok (mb_l0 t b x hp sz a n w nn o1 rows i x4 x5 x6 x7)) (.ok (mb_l1 t b x hp sz a n w nn bad o1 rows i x4 x5 x6 x7))) := by
  exact Tr.run_walk (mb_kA t b x hp sz a n w nn bad o1 rows i x4 x5 x6 x7 x8 x9 x10 js) (WT.vd (by (simp only [W, wrap64, okc_iff, inb_iff, decide_eq_true_eq, Bool.and_eq_true, ne_eq, decide_eq_false_iff_not, Nat.ble_eq, List.length_set]; omega)) (WT.vd (by (simp only [W, wrap64, okc_iff, inb_iff, decide_eq_true_eq, Bool.and_eq_true, ne_eq, decide_eq_false_iff_not, Nat.ble_eq, List.length_set]; omega)) (WT.vd (by (simp only [W, wrap64, okc_iff, inb_iff, decide_eq_true_eq, Bool.and_eq_true, ne_eq, decide_eq_false_iff_not, Nat.ble_eq, List.length_set]; omega)) (WT.vd (by (simp only [W, wrap64, okc_iff, inb_iff, decide_eq_true_eq, Bool.and_eq_true, ne_eq, decide_eq_false_iff_not, Nat.ble_eq, List.length_set]; omega)) (WT.vi (fun e0 => (WT.vd (by (simp only [W, wrap64, okc_iff, inb_iff, decide_eq_true_eq, decide_eq_false_iff_not, beq_iff_eq, beq_eq_false_iff_ne, bne_iff_ne, Bool.and_eq_true] at *; omega)) WT.vo)) fun e0 => (WT.vd (by (simp only [W, wrap64, okc_iff, inb_iff, decide_eq_true_eq, Bool.and_eq_true, ne_eq, decide_eq_false_iff_not, Nat.ble_eq, List.length_set]; omega)) (WT.vd (by (simp only [W, wrap64, okc_iff, inb_iff, decide_eq_true_eq, Bool.and_eq_true, ne_eq, decide_eq_false_iff_not, Nat.ble_eq, List.length_set]; omega)) WT.vo))))))) (by kernel_rfl)
end
section
variable (t : Int) (b : Int) (x : Int) (hp : Int) (sz : Int) (a : Int) (n : Int) (w : Int) (nn : Nat) (bad : Bool) (o1 : VObj MObj) (rows : List (List Int)) (i : Int) (x4 : SV) (x5 : SV) (x6 : SV) (x7 : SV) (x8 : SV) (x9 : SV) (x10 : SV) (js : Nat → SV)
noncomputable abbrev mi_t : Tr (Lf MObj) := ((ev (codeAt mbody [true, false, false, true, true, true]) ⟨[.v (.ptr 0 0), .v (ii a), .v (ii n), .v (ii w)] ++ [x4, x5, x6, x7, x8, x9, x10, .v (ii n), .v (ii i)] ++ junk js 52 13, shp t b x hp sz nn bad o1 rows, 3, []⟩).vmap (leaf 13))
noncomputable abbrev mi_l0 : Lf MObj := (Lf.mk (VX.normal) [.s (.one (.ptr 0 0)), .s (.one (.int .i64 (.sym a))), .s (.one (.int .i64 (.sym n))), .s (.one (.int .i64 (.sym w))), x4, x5, x6, x7, x8, x9, x10, .s (.one (.int .i64 (.sym n))), .s (.one (.int .i64 (.sym (W (i + 1)))))] 65 [(0, some (.cells [.int .i64 (.sym t), .int .i64 (.sym b), .int .i64 (.sym x), .int .i64 (.sym hp), .int .i64 (.sym sz), .ptr 1 0, VV.ts 2 (SN.lit 0) (SN.sym nn) none, .bool (.sym bad)] 67)), (1, some o1), (2, some (VObj.tab [CK.int IntKind.i64] rows 3))] 3 [])
noncomputable abbrev mi_wA : WT (Lf MObj) := (.ok (mi_l0 t b x hp sz a n w nn bad o1 rows i x4 x5 x6 x7 x8 x9 x10))
theorem mi_kA : Tr.walk (WT.sc (mi_wA t b x hp sz a n w nn bad o1 rows i x4 x5 x6 x7 x8 x9 x10)) (mi_t t b x hp sz a n w nn bad o1 rows i x4 x5 x6 x7 x8 x9 x10 js) = (mi_wA t b x hp sz a n w nn bad o1 rows i x4 x5 x6 x7 x8 x9 x10) := by kernel_rfl
theorem mi (hi : 0 ≤ i ∧ i ≤ 4000) : (mi_t t b x hp sz a n w nn bad o1 rows i x4 x5 x6 x7 x8 x9 x10 js).run = Tr.run (.ok (mi_l0 t b x hp sz a n w nn bad o1 rows i x4 x5 x6 x7 x8 x9 x10)) := by
  exact Tr.run_walk (mi_kA t b x hp sz a n w nn bad o1 rows i x4 x5 x6 x7 x8 x9 x10 js) WT.vo (by kernel_rfl)
end
end Go.Proofs.Ytcolladpdmjloaa.ViewC
