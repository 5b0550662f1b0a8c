/-
  ViewNew: the pieces of its last loop.
-/
import Derived.Test.YtcolladpdmjloaaEvVL
namespace Go.Proofs.Ytcolladpdmjloaa.ViewNew
open Go Go.RowKit Go.Proofs.Ytcolladpdmjloaa.Eng
set_option linter.unusedVariables false
set_option linter.unusedSimpArgs false
set_option linter.unusedSectionVars false
set_option maxRecDepth 20000
noncomputable abbrev body : Code := Try.f3.body.get!
noncomputable abbrev nt : Nat := Try.f3.ntmps
noncomputable abbrev ev (c : Code) : St MObj → Tr (VX × St MObj) := evCode Try.prog (evF Try.prog (lookH MObj ViewC.tabF) 400 20) 400 c
noncomputable abbrev evl (c : List Code) : St MObj → Tr (VX × St MObj) := evList (P := Try.prog) (evF Try.prog (lookH MObj ViewC.tabF) 400 20) 400 c
abbrev lt (x : Int) : VV := .int .i64 (.lit x)
abbrev fhp (t b x h z : Int) (rows : List (List Int)) : HP MObj := [(0, some (.cells [ii t, ii b, ii x, ii h, ii z] 24)), (1, some (.tab [.int .i64] rows 3))]
abbrev fpre (d : Nat → SV) (nn : Nat) (x : SV) : List SV := [d 0, d 1, d 2, d 3, .v (.bool (.lit false)), d 5, .v (.ptr 0 0), d 7, d 8, d 9, d 10, .v (.ts 1 (.lit 0) (.sym nn) none), d 12, x]
theorem wrap64 (x : Int) : IntKind.i64.wrap x = (x + 9223372036854775808) % 18446744073709551616 - 9223372036854775808 := by
  rw [wrap_i64']
  split <;> omega
--TACS "assumption", "(simp only [W, wrap64, okc_iff, inb_iff, decide_eq_true_eq, Bool.and_eq_true, ne_eq, decide_eq_false_iff_not, Nat.ble_eq, List.length_set]; omega)", "(simp only [W, wrap64, okc_iff, inb_iff, decide_eq_true_eq, decide_eq_false_iff_not, beq_iff_eq, beq_eq_false_iff_ne, bne_iff_ne, bne_eq_false_iff_eq, ne_eq, Bool.and_eq_true] at *; omega)", "simp [*]"
--SHORT

section
variable (t : Int) (b : Int) (x : Int) (h : Int) (z : Int) (nn : Nat) (rows : List (List Int)) (x13 : SV) (d : Nat → SV) (js : Nat → SV)
noncomputable abbrev vi_t : Tr (Lf MObj) := ((ev (codeAt body [true, true, true, true, true, true, true, true, true, false, false]) ⟨fpre d nn x13 ++ junk js (nt - 14) 14, fhp t b x h z rows, 2, []⟩).vmap (leaf 14))
noncomputable abbrev vi_l0 : Lf MObj := (Lf.mk (VX.normal) [d 0, d 1, d 2, d 3, .s (.one (.bool (.lit false))), d 5, .s (.one (.ptr 0 0)), d 7, d 8, d 9, d 10, .s (.one (VV.ts 1 (SN.lit 0) (SN.sym nn) none)), d 12, .s (.one (.int .i64 (.lit 0)))] 100 [(0, some (.cells [.int .i64 (.sym t), .int .i64 (.sym b), .int .i64 (.sym x), .int .i64 (.sym h), .int .i64 (.sym z)] 24)), (1, some (VObj.tab [CK.int IntKind.i64] rows 3))] 2 [])
noncomputable abbrev vi_wA : WT (Lf MObj) := (.ok (vi_l0 t b x h z nn rows d))
theorem vi_kA : Tr.walk (WT.sc (vi_wA t b x h z nn rows d)) (vi_t t b x h z nn rows x13 d js) = (vi_wA t b x h z nn rows d) := by kernel_rfl
theorem vi (hz : 0 ≤ z) : (vi_t t b x h z nn rows x13 d js).run = Tr.run (.ok (vi_l0 t b x h z nn rows d)) := by
  exact Tr.run_walk (vi_kA t b x h z nn rows x13 d js) WT.vo (by kernel_rfl)
end
section
variable (t : Int) (b : Int) (x : Int) (h : Int) (z : Int) (i : Int) (nn : Nat) (rows : List (List Int)) (d : Nat → SV) (js : Nat → SV)
noncomputable abbrev vg_t : Tr (Lf MObj) := ((ev (codeAt body [true, true, true, true, true, true, true, true, true, false, true, false, false, false]) ⟨fpre d nn (.v (ii i)) ++ junk js (nt - 14) 14, fhp t b x h z rows, 2, []⟩).vmap (leaf 14))
noncomputable abbrev vg_l0 : Lf MObj := (Lf.mk (VX.normal) [d 0, d 1, d 2, d 3, .s (.one (.bool (.lit false))), d 5, .s (.one (.ptr 0 0)), d 7, d 8, d 9, d 10, .s (.one (VV.ts 1 (SN.lit 0) (SN.sym nn) none)), d 12, .s (.one (.int .i64 (.sym i)))] 100 [(0, some (.cells [.int .i64 (.sym t), .int .i64 (.sym b), .int .i64 (.sym x), .int .i64 (.sym h), .int .i64 (.sym z)] 24)), (1, some (VObj.tab [CK.int IntKind.i64] rows 3))] 2 [])
noncomputable abbrev vg_l1 : Lf MObj := (Lf.mk (VX.exit 0) [d 0, d 1, d 2, d 3, .s (.one (.bool (.lit false))), d 5, .s (.one (.ptr 0 0)), d 7, d 8, d 9, d 10, .s (.one (VV.ts 1 (SN.lit 0) (SN.sym nn) none)), d 12, .s (.one (.int .i64 (.sym i)))] 100 [(0, some (.cells [.int .i64 (.sym t), .int .i64 (.sym b), .int .i64 (.sym x), .int .i64 (.sym h), .int .i64 (.sym z)] 24)), (1, some (VObj.tab [CK.int IntKind.i64] rows 3))] 2 [])
noncomputable abbrev vg_wA : WT (Lf MObj) := (.ite (decide (i < z)) (.ok (vg_l0 t b x h z i nn rows d)) (.ok (vg_l1 t b x h z i nn rows d)))
theorem vg_kA : Tr.walk (WT.sc (vg_wA t b x h z i nn rows d)) (vg_t t b x h z i nn rows d js) = (vg_wA t b x h z i nn rows d) := by kernel_rfl
theorem vg (hz : 0 ≤ z) : (vg_t t b x h z i nn rows d js).run = Tr.run (.ite (decide (i < z)) (.ok (vg_l0 t b x h z i nn rows d)) (.ok (vg_l1 t b x h z i nn rows d))) := by
  exact Tr.run_walk (vg_kA t b x h z i nn rows d js) (WT.vi (fun e0 => WT.vo) fun e0 => WT.vo) (by kernel_rfl)
end
section
variable (t : Int) (b : Int) (x : Int) (h : Int) (z : Int) (i : Int) (nn : Nat) (rows : List (List Int)) (d : Nat → SV) (js : Nat → SV)
noncomputable abbrev vb_t : Tr (Lf MObj) := ((ev (codeAt body [true, true, true, true, true, true, true, true, true, false, true, false, false, true, false, false]) ⟨fpre d nn (.v (ii i)) ++ junk js (nt - 14) 14, fhp t b x h z rows, 2, []⟩).vmap (leaf 14))
noncomputable abbrev vb_l0 : Lf MObj := (Lf.mk (VX.normal) [d 0, d 1, d 2, d 3, .s (.one (.bool (.lit false))), d 5, .s (.one (.ptr 0 0)), d 7, d 8, d 9, d 10, .s (.one (VV.ts 1 (SN.lit 0) (SN.sym nn) none)), d 12, .s (.one (.int .i64 (.sym i)))] 100 [(0, some (.cells [.int .i64 (.sym t), .int .i64 (.sym b), .int .i64 (.sym x), .int .i64 (.sym h), .int .i64 (.sym z)] 24)), (1, some (VObj.tab [CK.int IntKind.i64] rows 3))] 2 [])
noncomputable abbrev vb_l1 : Lf MObj := (Lf.mk (VX.normal) [d 0, d 1, d 2, d 3, .s (.one (.bool (.lit false))), d 5, .s (.one (.ptr 0 0)), d 7, d 8, d 9, d 10, .s (.one (VV.ts 1 (SN.lit 0) (SN.sym nn) none)), d 12, .s (.one (.int .i64 (.sym i)))] 100 [(0, some (.cells [.int .i64 (.sym t), .int .i64 (.sym b), .int .i64 (.sym x), .int .i64 (.sym h), .int .i64 (.sym z)] 24)), (1, some (VObj.tab [CK.int IntKind.i64] rows 3))] 2 [])
noncomputable abbrev vb_wA : WT (Lf MObj) := (.ite (decide (i < h)) (.dec (decide (0 ≤ i) && decide (i < (↑nn : Int))) true (.dec (decide (0 + Int.toNat i < List.length rows)) true (.dec (tabAt rows (0 + Int.toNat i) 0 != 0) false (.dec (decide (i ≥ h)) false (.ok (vb_l0 t b x h z i nn rows d)))))) (.dec (decide (i ≥ h)) true (.dec (decide (0 ≤ i) && decide (i < (↑nn : Int))) true (.dec (decide (0 + Int.toNat i < List.length rows)) true (.dec (tabAt rows (0 + Int.toNat i) 0 != 3) false (.ok (vb_l1 t b x h z i nn rows d)))))))
theorem vb_kA : Tr.walk (WT.sc (vb_wA t b x h z i nn rows d)) (vb_t t b x h z i nn rows d js) = (vb_wA t b x h z i nn rows d) := by kernel_rfl
theorem vb (hi : 0 ≤ i ∧ i < z) (hz : z ≤ nn ∧ nn ≤ 4000) (hr : nn = rows.length) (h1 : i < h → tabAt rows (0 + Int.toNat i) 0 = 0) (h2 : h ≤ i → tabAt rows (0 + Int.toNat i) 0 = 3) : (vb_t t b x h z i nn rows d js).run = Tr.run (.ite (decide (i < h)) (.ok (vb_l0 t b x h z i nn rows d)) (.ok (vb_l1 t b x h z i nn rows d))) := by
  exact Tr.run_walk (vb_kA t b x h z i nn rows d js) (WT.vi (fun e0 => (WT.vd (by (simp only [W, wrap64, okc_iff, inb_iff, decide_eq_true_eq, Bool.and_eq_true, ne_eq, decide_eq_false_iff_not, Nat.ble_eq, List.length_set]; omega)) (WT.vd (by (simp only [W, wrap64, okc_iff, inb_iff, decide_eq_true_eq, Bool.and_eq_true, ne_eq, decide_eq_false_iff_not, Nat.ble_eq, List.length_set]; omega)) (WT.vd (by (simp only [W, wrap64, okc_iff, inb_iff, decide_eq_true_eq, decide_eq_false_iff_not, beq_iff_eq, beq_eq_false_iff_ne, bne_iff_ne, bne_eq_false_iff_eq, ne_eq, Bool.and_eq_true] at *; omega)) (WT.vd (by (simp only [W, wrap64, okc_iff, inb_iff, decide_eq_true_eq, decide_eq_false_iff_not, beq_iff_eq, beq_eq_false_iff_ne, bne_iff_ne, bne_eq_false_iff_eq, ne_eq, Bool.and_eq_true] at *; omega)) WT.vo))))) fun e0 => (WT.vd (by (simp only [W, wrap64, okc_iff, inb_iff, decide_eq_true_eq, decide_eq_false_iff_not, beq_iff_eq, beq_eq_false_iff_ne, bne_iff_ne, bne_eq_false_iff_eq, ne_eq, Bool.and_eq_true] at *; omega)) (WT.vd (by (simp only [W, wrap64, okc_iff, inb_iff, decide_eq_true_eq, Bool.and_eq_true, ne_eq, decide_eq_false_iff_not, Nat.ble_eq, List.length_set]; omega)) (WT.vd (by (simp only [W, wrap64, okc_iff, inb_iff, decide_eq_true_eq, Bool.and_eq_true, ne_eq, decide_eq_false_iff_not, Nat.ble_eq, List.length_set]; omega)) (WT.vd (by (simp only [W, wrap64, okc_iff, inb_iff, decide_eq_true_eq, decide_eq_false_iff_not, beq_iff_eq, beq_eq_false_iff_ne, bne_iff_ne, bne_eq_false_iff_eq, ne_eq, Bool.and_eq_true] at *; omega)) WT.vo))))) (by kernel_rfl)
end
section
variable (t : Int) (b : Int) (x : Int) (h : Int) (z : Int) (i : Int) (nn : Nat) (rows : List (List Int)) (d : Nat → SV) (js : Nat → SV)
noncomputable abbrev vn_t : Tr (Lf MObj) := ((ev (codeAt body [true, true, true, true, true, true, true, true, true, false, true, false, false, true, true]) ⟨fpre d nn (.v (ii i)) ++ junk js (nt - 14) 14, fhp t b x h z rows, 2, []⟩).vmap (leaf 14))
noncomputable abbrev vn_l0 : Lf MObj := (Lf.mk (VX.normal) [d 0, d 1, d 2, d 3, .s (.one (.bool (.lit false))), d 5, .s (.one (.ptr 0 0)), d 7, d 8, d 9, d 10, .s (.one (VV.ts 1 (SN.lit 0) (SN.sym nn) none)), d 12, .s (.one (.int .i64 (.sym (W (i + 1)))))] 100 [(0, some (.cells [.int .i64 (.sym t), .int .i64 (.sym b), .int .i64 (.sym x), .int .i64 (.sym h), .int .i64 (.sym z)] 24)), (1, some (VObj.tab [CK.int IntKind.i64] rows 3))] 2 [])
noncomputable abbrev vn_wA : WT (Lf MObj) := (.ok (vn_l0 t b x h z i nn rows d))
theorem vn_kA : Tr.walk (WT.sc (vn_wA t b x h z i nn rows d)) (vn_t t b x h z i nn rows d js) = (vn_wA t b x h z i nn rows d) := by kernel_rfl
theorem vn (hi : 0 ≤ i ∧ i ≤ 4000) : (vn_t t b x h z i nn rows d js).run = Tr.run (.ok (vn_l0 t b x h z i nn rows d)) := by
  exact Tr.run_walk (vn_kA t b x h z i nn rows d js) WT.vo (by kernel_rfl)
end
section
variable (t : Int) (b : Int) (x : Int) (h : Int) (z : Int) (i : Int) (nn : Nat) (rows : List (List Int)) (d : Nat → SV) (js : Nat → SV)
noncomputable abbrev vf_t : Tr (Lf MObj) := ((ev (codeAt body [true, true, true, true, true, true, true, true, true, true]) ⟨fpre d nn (.v (ii i)) ++ junk js (nt - 14) 14, fhp t b x h z rows, 2, []⟩).vmap (leaf 5))
noncomputable abbrev vf_l0 : Lf MObj := (Lf.mk (VX.ret) [d 0, d 1, d 2, d 3, .s (.one (.bool (.lit true)))] 100 [(0, some (.cells [.int .i64 (.sym t), .int .i64 (.sym b), .int .i64 (.sym x), .int .i64 (.sym h), .int .i64 (.sym z)] 24)), (1, some (VObj.tab [CK.int IntKind.i64] rows 3))] 2 [])
noncomputable abbrev vf_wA : WT (Lf MObj) := (.ok (vf_l0 t b x h z rows d))
theorem vf_kA : Tr.walk (WT.sc (vf_wA t b x h z rows d)) (vf_t t b x h z i nn rows d js) = (vf_wA t b x h z rows d) := by kernel_rfl
theorem vf (hz : 0 ≤ z) : (vf_t t b x h z i nn rows d js).run = Tr.run (.ok (vf_l0 t b x h z rows d)) := by
  exact Tr.run_walk (vf_kA t b x h z i nn rows d js) WT.vo (by kernel_rfl)
end
end Go.Proofs.Ytcolladpdmjloaa.ViewNew
