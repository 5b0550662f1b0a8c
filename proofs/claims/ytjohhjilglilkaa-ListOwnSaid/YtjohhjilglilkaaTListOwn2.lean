/-
  ListOwn: a step of a worker, whichever it is. Printed by genAPq.py.
-/
import Derived.Test.YtjohhjilglilkaaTListOwn1
namespace Go.Proofs.Ytjohhjilglilkaa.ListOwn
open Go Go.RowKit Go.Proofs.Ytjohhjilglilkaa.Eng
set_option linter.unusedVariables false
set_option linter.unusedSimpArgs false
set_option linter.unusedSectionVars false
set_option maxRecDepth 20000
section
variable (q : Nat) (n : Int) (mn : Int) (i : Int) (c : Int) (t : Int) (np : Nat) (ps : List (List Int)) (xs : List Int) (vs0 : Nat → Value) (vs1 : Nat → Value) (oh : VObj MObj) (js : Nat → SV)
noncomputable abbrev iN_t : Tr (Lf MObj) := ((ev (qt [true, true, true, true]) ⟨pre n np mn i ++ [.v (lt q), .v (.bool (.lit false)), .v (.bool (.lit false))] ++ junk js 250 15, base ps xs c t (.cells (AC q .nilp vs0) 28) (.cells (AC q .nilp vs1) 30) oh, 5, []⟩).vmap (leaf 12))
noncomputable abbrev iN_l0 : Lf MObj := (Lf.mk (VX.normal) (pre n np mn i) 265 (base ps xs c t (.cells (AC q (.nilp) vs0) 28) (.cells (AC q (.nilp) vs1) 30) oh) 5 [])
noncomputable abbrev iN_wA : WT (Lf MObj) := (.ok (iN_l0 q n mn i c t np ps xs vs0 vs1 oh))
theorem iN_kA (hq : q < 4) : Tr.walk (WT.sc (iN_wA q n mn i c t np ps xs vs0 vs1 oh)) (iN_t q n mn i c t np ps xs vs0 vs1 oh js) = (iN_wA q n mn i c t np ps xs vs0 vs1 oh) := by
  rcases (show q = 0 ∨ q = 1 ∨ q = 2 ∨ q = 3 by omega) with rfl | rfl | rfl | rfl <;> kernel_rfl
theorem iN (hq : q < 4) (hx : xs.length = 160) (hc : 0 ≤ c ∧ c ≤ 100000) : (iN_t q n mn i c t np ps xs vs0 vs1 oh js).run = Tr.run (.ok (iN_l0 q n mn i c t np ps xs vs0 vs1 oh)) := by
  exact Tr.run_walk (iN_kA q n mn i c t np ps xs vs0 vs1 oh js hq) WT.vo (by kernel_rfl)
end
section
variable (q : Nat) (n : Int) (mn : Int) (i : Int) (c : Int) (t : Int) (np : Nat) (ps : List (List Int)) (xs : List Int) (vs0 : Nat → Value) (vs1 : Nat → Value) (oh : VObj MObj) (js : Nat → SV)
noncomputable abbrev iP_t : Tr (Lf MObj) := ((ev (qt [true, true, true, true]) ⟨pre n np mn i ++ [.v (lt q), .v (.bool (.lit true)), .v (.bool (.lit true))] ++ junk js 250 15, base ps xs c t (.cells (AC q .nilp vs0) 28) (.cells (AC q .nilp vs1) 30) oh, 5, []⟩).vmap (leaf 12))
noncomputable abbrev iP_l0 : Lf MObj := (Lf.mk (VX.normal) (pre n np mn i) 265 (base ps xs (c + 1) t (.cells (AC q (.nilp) vs0) 28) (.cells (AC q (.nilp) vs1) 30) oh ++ [(5, some (.cells [.nilf, ii 3, uu (List.getD xs 3 0), uu 0, ii (mAt (List.getD xs 3 0)), uu (List.getD xs 3 0)] 47))]) 6 [5, 2, 1])
noncomputable abbrev iP_l1 : Lf MObj := (Lf.mk (VX.normal) (pre n np mn i) 265 (base ps xs (c + 1) t (.cells (AC q (.ptr 5 0) vs0) 28) (.cells (AC q (.nilp) vs1) 30) oh ++ [(5, some (.cells [.fn 17 [] [], ii 3, uu (List.getD xs 3 0), uu 0, ii 0, uu 0] 47))]) 6 [5, 2, 1])
noncomputable abbrev iP_wA : WT (Lf MObj) := (.dec (okc c) true (.dec (inb 3 (List.length xs)) true (.ite (mAt (List.getD xs 3 0) == 0) (.dec (mAt (List.getD xs 3 0) != 0) false (.ok (iP_l0 q n mn i c t np ps xs vs0 vs1 oh))) (.ok (iP_l1 q n mn i c t np ps xs vs0 vs1 oh)))))
theorem iP_kA (hq : q < 4) : Tr.walk (WT.sc (iP_wA q n mn i c t np ps xs vs0 vs1 oh)) (iP_t q n mn i c t np ps xs vs0 vs1 oh js) = (iP_wA q n mn i c t np ps xs vs0 vs1 oh) := by
  rcases (show q = 0 ∨ q = 1 ∨ q = 2 ∨ q = 3 by omega) with rfl | rfl | rfl | rfl <;> kernel_rfl
theorem iP (hq : q < 4) (hx : xs.length = 160) (hc : 0 ≤ c ∧ c ≤ 100000) : (iP_t q n mn i c t np ps xs vs0 vs1 oh js).run = Tr.run (.ite (mAt (List.getD xs 3 0) == 0) (.ok (iP_l0 q n mn i c t np ps xs vs0 vs1 oh)) (.ok (iP_l1 q n mn i c t np ps xs vs0 vs1 oh))) := by
  exact Tr.run_walk (iP_kA q n mn i c t np ps xs vs0 vs1 oh js hq) (WT.vd (okc_iff.2 (by omega)) (WT.vd (inb_iff.2 (by omega)) (WT.vi (fun e0 => (WT.vd (by (apply bne_f; assumption)) WT.vo)) fun e0 => WT.vo))) (by kernel_rfl)
end
section
variable (q : Nat) (n : Int) (mn : Int) (i : Int) (c : Int) (t : Int) (np : Nat) (ps : List (List Int)) (xs : List Int) (vs0 : Nat → Value) (vs1 : Nat → Value) (vs2 : Nat → Value) (js : Nat → SV)
noncomputable abbrev iUn_t : Tr (Lf MObj) := ((ev (qt [true, true, true, true]) ⟨pre n np mn i ++ [.v (lt q), .v (.bool (.lit true)), .v (.bool (.lit false))] ++ junk js 250 15, base ps xs c t (.cells (AC q .nilp vs0) 28) (.cells (AC q .nilp vs1) 30) (.cells (AC q .nils vs2) 31), 5, []⟩).vmap (leaf 12))
noncomputable abbrev iUn_l0 : Lf MObj := (Lf.mk (VX.normal) (pre n np mn i) 265 (base ps xs (c + 1) t (.cells (AC q (.nilp) vs0) 28) (.cells (AC q (.nilp) vs1) 30) (.cells (AC q (.nils) vs2) 31) ++ [(5, some (.cells [.nilf, ii 3, uu (List.getD xs 3 0), uu 0, ii (mAt (List.getD xs 3 0)), uu (List.getD xs 3 0)] 47))]) 6 [5, 2, 1])
noncomputable abbrev iUn_l1 : Lf MObj := (Lf.mk (VX.normal) (pre n np mn i) 265 (base ps xs (c + 1) t (.cells (AC q (.ptr 5 0) vs0) 28) (.cells (AC q (.nilp) vs1) 30) (.cells (AC q (.nils) vs2) 31) ++ [(5, some (.cells [.fn 17 [] [], ii 3, uu (List.getD xs 3 0), uu 0, ii 0, uu 0] 47))]) 6 [5, 2, 1])
noncomputable abbrev iUn_wA : WT (Lf MObj) := (.dec (okc c) true (.dec (inb 3 (List.length xs)) true (.ite (mAt (List.getD xs 3 0) == 0) (.dec (mAt (List.getD xs 3 0) != 0) false (.ok (iUn_l0 q n mn i c t np ps xs vs0 vs1 vs2))) (.ok (iUn_l1 q n mn i c t np ps xs vs0 vs1 vs2)))))
theorem iUn_kA (hq : q < 4) : Tr.walk (WT.sc (iUn_wA q n mn i c t np ps xs vs0 vs1 vs2)) (iUn_t q n mn i c t np ps xs vs0 vs1 vs2 js) = (iUn_wA q n mn i c t np ps xs vs0 vs1 vs2) := by
  rcases (show q = 0 ∨ q = 1 ∨ q = 2 ∨ q = 3 by omega) with rfl | rfl | rfl | rfl <;> kernel_rfl
theorem iUn (hq : q < 4) (hx : xs.length = 160) (hc : 0 ≤ c ∧ c ≤ 100000) : (iUn_t q n mn i c t np ps xs vs0 vs1 vs2 js).run = Tr.run (.ite (mAt (List.getD xs 3 0) == 0) (.ok (iUn_l0 q n mn i c t np ps xs vs0 vs1 vs2)) (.ok (iUn_l1 q n mn i c t np ps xs vs0 vs1 vs2))) := by
  exact Tr.run_walk (iUn_kA q n mn i c t np ps xs vs0 vs1 vs2 js hq) (WT.vd (okc_iff.2 (by omega)) (WT.vd (inb_iff.2 (by omega)) (WT.vi (fun e0 => (WT.vd (by (apply bne_f; assumption)) WT.vo)) fun e0 => WT.vo))) (by kernel_rfl)
end
section
variable (q : Nat) (n : Int) (mn : Int) (i : Int) (c : Int) (t : Int) (np : Nat) (ps : List (List Int)) (xs : List Int) (vs0 : Nat → Value) (vs1 : Nat → Value) (vs2 : Nat → Value) (js : Nat → SV)
noncomputable abbrev iUe_t : Tr (Lf MObj) := ((ev (qt [true, true, true, true]) ⟨pre n np mn i ++ [.v (lt q), .v (.bool (.lit true)), .v (.bool (.lit false))] ++ junk js 250 15, base ps xs c t (.cells (AC q .nilp vs0) 28) (.cells (AC q .nilp vs1) 30) (.cells (AC q (.es true) vs2) 31), 5, []⟩).vmap (leaf 12))
noncomputable abbrev iUe_l0 : Lf MObj := (Lf.mk (VX.normal) (pre n np mn i) 265 (base ps xs (c + 1) t (.cells (AC q (.nilp) vs0) 28) (.cells (AC q (.nilp) vs1) 30) (.cells (AC q (.es true) vs2) 31) ++ [(5, some (.cells [.nilf, ii 3, uu (List.getD xs 3 0), uu 0, ii (mAt (List.getD xs 3 0)), uu (List.getD xs 3 0)] 47))]) 6 [5, 2, 1])
noncomputable abbrev iUe_l1 : Lf MObj := (Lf.mk (VX.normal) (pre n np mn i) 265 (base ps xs (c + 1) t (.cells (AC q (.ptr 5 0) vs0) 28) (.cells (AC q (.nilp) vs1) 30) (.cells (AC q (.es true) vs2) 31) ++ [(5, some (.cells [.fn 17 [] [], ii 3, uu (List.getD xs 3 0), uu 0, ii 0, uu 0] 47))]) 6 [5, 2, 1])
noncomputable abbrev iUe_wA : WT (Lf MObj) := (.dec (okc c) true (.dec (inb 3 (List.length xs)) true (.ite (mAt (List.getD xs 3 0) == 0) (.dec (mAt (List.getD xs 3 0) != 0) false (.ok (iUe_l0 q n mn i c t np ps xs vs0 vs1 vs2))) (.ok (iUe_l1 q n mn i c t np ps xs vs0 vs1 vs2)))))
theorem iUe_kA (hq : q < 4) : Tr.walk (WT.sc (iUe_wA q n mn i c t np ps xs vs0 vs1 vs2)) (iUe_t q n mn i c t np ps xs vs0 vs1 vs2 js) = (iUe_wA q n mn i c t np ps xs vs0 vs1 vs2) := by
  rcases (show q = 0 ∨ q = 1 ∨ q = 2 ∨ q = 3 by omega) with rfl | rfl | rfl | rfl <;> kernel_rfl
theorem iUe (hq : q < 4) (hx : xs.length = 160) (hc : 0 ≤ c ∧ c ≤ 100000) : (iUe_t q n mn i c t np ps xs vs0 vs1 vs2 js).run = Tr.run (.ite (mAt (List.getD xs 3 0) == 0) (.ok (iUe_l0 q n mn i c t np ps xs vs0 vs1 vs2)) (.ok (iUe_l1 q n mn i c t np ps xs vs0 vs1 vs2))) := by
  exact Tr.run_walk (iUe_kA q n mn i c t np ps xs vs0 vs1 vs2 js hq) (WT.vd (okc_iff.2 (by omega)) (WT.vd (inb_iff.2 (by omega)) (WT.vi (fun e0 => (WT.vd (by (apply bne_f; assumption)) WT.vo)) fun e0 => WT.vo))) (by kernel_rfl)
end
section
variable (q : Nat) (n : Int) (mn : Int) (i : Int) (c : Int) (t : Int) (np : Nat) (ps : List (List Int)) (xs : List Int) (rows : List (List Int)) (vs0 : Nat → Value) (vs1 : Nat → Value) (vs2 : Nat → Value) (js : Nat → SV)
noncomputable abbrev iUt_t : Tr (Lf MObj) := ((ev (qt [true, true, true, true]) ⟨pre n np mn i ++ [.v (lt q), .v (.bool (.lit true)), .v (.bool (.lit false))] ++ junk js 250 15, [(5, some (.tab [.int .i64] rows 3))] ++ base ps xs c t (.cells (AC q .nilp vs0) 28) (.cells (AC q .nilp vs1) 30) (.cells (AC q (.ts 5 (.lit 0) (.sym rows.length) none) vs2) 31), 6, []⟩).vmap (leaf 12))
noncomputable abbrev iUt_l0 : Lf MObj := (Lf.mk (VX.normal) (pre n np mn i) 265 ([(5, some (VObj.tab [CK.int IntKind.i64] rows 3))] ++ base ps xs (c + 1) t (.cells (AC q (.nilp) vs0) 28) (.cells (AC q (.ptr 6 0) vs1) 30) (.cells (AC q (.ts 8 (SN.lit 0) (SN.sym (0 + (Int.toNat (↑(List.length rows) : Int) - 1))) none) vs2) 31) ++ [(6, some (.cells [.fn 20 [] [], ii 3, ii (tabAt rows 0 0), ii (tabAt rows 0 0), ii 0, uu (List.getD xs 3 0)] 50)), (7, some (.cells [] 3)), (8, some (VObj.tab [CK.int IntKind.i64] ([] ++ List.take (Int.toNat (↑(List.length rows) : Int) - 1) (List.drop 1 rows)) 3))]) 9 [6, 3, 7, 8, 4, 1])
noncomputable abbrev iUt_l1 : Lf MObj := (Lf.mk (VX.normal) (pre n np mn i) 265 ([(5, some (VObj.tab [CK.int IntKind.i64] rows 3))] ++ base ps xs (c + 1) t (.cells (AC q (.nilp) vs0) 28) (.cells (AC q (.ptr 6 0) vs1) 30) (.cells (AC q (.sl 7 0 0 0) vs2) 31) ++ [(6, some (.cells [.fn 20 [] [], ii 3, ii (tabAt rows 0 0), ii (tabAt rows 0 0), ii 0, uu (List.getD xs 3 0)] 50)), (7, some (.cells [] 3))]) 8 [6, 3, 7, 4, 1])
noncomputable abbrev iUt_wA : WT (Lf MObj) := (.dec ((↑(List.length rows) : Int) == 0) false (.dec (decide (0 ≤ 0) && decide (0 < (↑(List.length rows) : Int))) true (.dec (decide (0 < List.length rows)) true (.dec (decide (0 ≤ 0) && decide (0 < (↑(List.length rows) : Int))) true (.dec (decide (0 < List.length rows)) true (.dec (decide (1 ≤ (↑(List.length rows) : Int))) true (.dec (decide ((↑(List.length rows) : Int) ≤ (↑(List.length rows) : Int))) true (.dec (decide ((↑(List.length rows) : Int) ≤ (↑(List.length rows) : Int))) true (.ite (decide (1 < (↑(List.length rows) : Int))) (.dec (decide (1 + (Int.toNat (↑(List.length rows) : Int) - 1) ≤ List.length rows)) true (.dec (Nat.beq (Int.toNat (↑(List.length rows) : Int) - 1) 0) false (.dec (Nat.ble ((0 + (Int.toNat (↑(List.length rows) : Int) - 1)) * 8) 140737488355328) true (.dec (okc c) true (.dec (inb 3 (List.length xs)) true (.ok (iUt_l0 q n mn i c t np ps xs rows vs0 vs1 vs2))))))) (.dec (okc c) true (.dec (inb 3 (List.length xs)) true (.ok (iUt_l1 q n mn i c t np ps xs rows vs0 vs1 vs2)))))))))))))
theorem iUt_kA (hq : q < 4) : Tr.walk (WT.sc (iUt_wA q n mn i c t np ps xs rows vs0 vs1 vs2)) (iUt_t q n mn i c t np ps xs rows vs0 vs1 vs2 js) = (iUt_wA q n mn i c t np ps xs rows vs0 vs1 vs2) := by
  rcases (show q = 0 ∨ q = 1 ∨ q = 2 ∨ q = 3 by omega) with rfl | rfl | rfl | rfl <;> kernel_rfl
theorem iUt (hq : q < 4) (hx : xs.length = 160) (hc : 0 ≤ c ∧ c ≤ 100000) (hr : 0 < rows.length ∧ rows.length ≤ 1000) : (iUt_t q n mn i c t np ps xs rows vs0 vs1 vs2 js).run = Tr.run (.ite (decide (1 < (↑(List.length rows) : Int))) (.ok (iUt_l0 q n mn i c t np ps xs rows vs0 vs1 vs2)) (.ok (iUt_l1 q n mn i c t np ps xs rows vs0 vs1 vs2))) := by
  exact Tr.run_walk (iUt_kA q n mn i c t np ps xs rows vs0 vs1 vs2 js hq) (WT.vd (by (simp only [W, wrap64, okc_iff, inb_iff, decide_eq_true_eq, decide_eq_false_iff_not, beq_iff_eq, beq_eq_false_iff_ne, Bool.and_eq_true] at *; omega)) (WT.vd (by (simp only [W, wrap64, okc_iff, inb_iff, decide_eq_true_eq, Bool.and_eq_true, ne_eq, decide_eq_false_iff_not, Nat.ble_eq, List.length_set]; omega)) (WT.vd (by (simp only [W, wrap64, okc_iff, inb_iff, decide_eq_true_eq, Bool.and_eq_true, ne_eq, decide_eq_false_iff_not, Nat.ble_eq, List.length_set]; omega)) (WT.vd (by (simp only [W, wrap64, okc_iff, inb_iff, decide_eq_true_eq, Bool.and_eq_true, ne_eq, decide_eq_false_iff_not, Nat.ble_eq, List.length_set]; omega)) (WT.vd (by (simp only [W, wrap64, okc_iff, inb_iff, decide_eq_true_eq, Bool.and_eq_true, ne_eq, decide_eq_false_iff_not, Nat.ble_eq, List.length_set]; omega)) (WT.vd (by (simp only [W, wrap64, okc_iff, inb_iff, decide_eq_true_eq, Bool.and_eq_true, ne_eq, decide_eq_false_iff_not, Nat.ble_eq, List.length_set]; omega)) (WT.vd (by (simp only [W, wrap64, okc_iff, inb_iff, decide_eq_true_eq, Bool.and_eq_true, ne_eq, decide_eq_false_iff_not, Nat.ble_eq, List.length_set]; omega)) (WT.vd (by (simp only [W, wrap64, okc_iff, inb_iff, decide_eq_true_eq, Bool.and_eq_true, ne_eq, decide_eq_false_iff_not, Nat.ble_eq, List.length_set]; omega)) (WT.vi (fun e0 => (WT.vd (by (simp only [W, wrap64, okc_iff, inb_iff, decide_eq_true_eq, Bool.and_eq_true, ne_eq, decide_eq_false_iff_not, Nat.ble_eq, List.length_set]; omega)) (WT.vd (by (refine beq_of_pos ?_; simp only [decide_eq_true_eq, decide_eq_false_iff_not] at *; omega)) (WT.vd (by (simp only [W, wrap64, okc_iff, inb_iff, decide_eq_true_eq, Bool.and_eq_true, ne_eq, decide_eq_false_iff_not, Nat.ble_eq, List.length_set]; omega)) (WT.vd (okc_iff.2 (by omega)) (WT.vd (inb_iff.2 (by omega)) WT.vo)))))) fun e0 => (WT.vd (okc_iff.2 (by omega)) (WT.vd (inb_iff.2 (by omega)) WT.vo))))))))))) (by kernel_rfl)
end
section
variable (q : Nat) (n : Int) (mn : Int) (i : Int) (c : Int) (t : Int) (np : Nat) (ps : List (List Int)) (xs : List Int) (bg : Bool) (pp : Bool) (w : Int) (h : Int) (se : Int) (vs0 : Nat → Value) (vs1 : Nat → Value) (oh : VObj MObj) (js : Nat → SV)
noncomputable abbrev p0_t : Tr (Lf MObj) := ((ev (qt [true, true, true, true]) ⟨pre n np mn i ++ [.v (lt q), .v (.bool (.sym bg)), .v (.bool (.sym pp))] ++ junk js 250 15, [(5, some (po (.fn 14 [] []) w h se))] ++ base ps xs c t (.cells (AC q (.ptr 5 0) vs0) 28) (.cells (AC q .nilp vs1) 30) oh, 6, []⟩).vmap (leaf 12))
noncomputable abbrev p0_l0 : Lf MObj := (Lf.mk (VX.normal) (pre n np mn i) 265 ([(5, some (.cells [.nilf, ii 3, uu (List.getD xs 3 0), uu h, ii (mAt (List.getD xs 3 0)), uu (List.getD xs 3 0)] 47))] ++ base ps xs (c + 1) t (.cells (AC q (.nilp) vs0) 28) (.cells (AC q (.nilp) vs1) 30) oh) 6 [1, 5, 2])
noncomputable abbrev p0_l1 : Lf MObj := (Lf.mk (VX.normal) (pre n np mn i) 265 ([(5, some (.cells [.fn 17 [] [], ii 3, uu (List.getD xs 3 0), uu h, ii 0, uu se] 47))] ++ base ps xs (c + 1) t (.cells (AC q (.ptr 5 0) vs0) 28) (.cells (AC q (.nilp) vs1) 30) oh) 6 [1, 5])
noncomputable abbrev p0_l2 : Lf MObj := (Lf.mk (VX.normal) (pre n np mn i) 265 ([(5, some (.cells [.nilf, ii 3, uu (List.getD xs 3 0), uu h, ii (mAt (List.getD xs 3 0)), uu (List.getD xs 3 0)] 47))] ++ base ps xs (c + 1) t (.cells (AC q (.nilp) vs0) 28) (.cells (AC q (.nilp) vs1) 30) oh) 6 [1, 5, 2])
noncomputable abbrev p0_l3 : Lf MObj := (Lf.mk (VX.normal) (pre n np mn i) 265 ([(5, some (.cells [.fn 17 [] [], ii 3, uu (List.getD xs 3 0), uu h, ii 0, uu se] 47))] ++ base ps xs (c + 1) t (.cells (AC q (.ptr 5 0) vs0) 28) (.cells (AC q (.nilp) vs1) 30) oh) 6 [1, 5])
noncomputable abbrev p0_wA : WT (Lf MObj) := (.ite (bg) (.dec (okc c) true (.dec (inb 3 (List.length xs)) true (.ite (mAt (List.getD xs 3 0) == 0) (.dec (mAt (List.getD xs 3 0) != 0) false (.ok (p0_l0 q n mn i c t np ps xs h vs0 vs1 oh))) (.ok (p0_l1 q n mn i c t np ps xs h se vs0 vs1 oh))))) (.dec (okc c) true (.dec (inb 3 (List.length xs)) true (.ite (mAt (List.getD xs 3 0) == 0) (.dec (mAt (List.getD xs 3 0) != 0) false (.ok (p0_l2 q n mn i c t np ps xs h vs0 vs1 oh))) (.ok (p0_l3 q n mn i c t np ps xs h se vs0 vs1 oh))))))
abbrev p0_kA' : Prop := Tr.walk (WT.sc (p0_wA q n mn i c t np ps xs bg h se vs0 vs1 oh)) (p0_t q n mn i c t np ps xs bg pp w h se vs0 vs1 oh js) = (p0_wA q n mn i c t np ps xs bg h se vs0 vs1 oh)
theorem p0_kA0 : p0_kA' 0 n mn i c t np ps xs bg pp w h se vs0 vs1 oh js := by
  show _ = _
  kernel_rfl
theorem p0_kA1 : p0_kA' 1 n mn i c t np ps xs bg pp w h se vs0 vs1 oh js := by
  show _ = _
  kernel_rfl
theorem p0_kA2 : p0_kA' 2 n mn i c t np ps xs bg pp w h se vs0 vs1 oh js := by
  show _ = _
  kernel_rfl
theorem p0_kA3 : p0_kA' 3 n mn i c t np ps xs bg pp w h se vs0 vs1 oh js := by
  show _ = _
  kernel_rfl
theorem p0_kA (hq : q < 4) : p0_kA' q n mn i c t np ps xs bg pp w h se vs0 vs1 oh js := by
  rcases (show q = 0 ∨ q = 1 ∨ q = 2 ∨ q = 3 by omega) with rfl | rfl | rfl | rfl
  · exact p0_kA0 ..
  · exact p0_kA1 ..
  · exact p0_kA2 ..
  · exact p0_kA3 ..
theorem p0 (hq : q < 4) (hx : xs.length = 160) (hc : 0 ≤ c ∧ c ≤ 100000) : (p0_t q n mn i c t np ps xs bg pp w h se vs0 vs1 oh js).run = Tr.run (.ite (bg) (.ite (mAt (List.getD xs 3 0) == 0) (.ok (p0_l0 q n mn i c t np ps xs h vs0 vs1 oh)) (.ok (p0_l1 q n mn i c t np ps xs h se vs0 vs1 oh))) (.ite (mAt (List.getD xs 3 0) == 0) (.ok (p0_l2 q n mn i c t np ps xs h vs0 vs1 oh)) (.ok (p0_l3 q n mn i c t np ps xs h se vs0 vs1 oh)))) := by
  exact Tr.run_walk (p0_kA q n mn i c t np ps xs bg pp w h se vs0 vs1 oh js hq) (WT.vi (fun e0 => (WT.vd (okc_iff.2 (by omega)) (WT.vd (inb_iff.2 (by omega)) (WT.vi (fun e1 => (WT.vd (by (apply bne_f; assumption)) WT.vo)) fun e1 => WT.vo)))) fun e0 => (WT.vd (okc_iff.2 (by omega)) (WT.vd (inb_iff.2 (by omega)) (WT.vi (fun e2 => (WT.vd (by (apply bne_f; assumption)) WT.vo)) fun e2 => WT.vo)))) (by kernel_rfl)
end
section
variable (q : Nat) (n : Int) (mn : Int) (i : Int) (c : Int) (t : Int) (np : Nat) (ps : List (List Int)) (xs : List Int) (bg : Bool) (pp : Bool) (w : Int) (h : Int) (se : Int) (vs0 : Nat → Value) (vs1 : Nat → Value) (oh : VObj MObj) (js : Nat → SV)
noncomputable abbrev p1_t : Tr (Lf MObj) := ((ev (qt [true, true, true, true]) ⟨pre n np mn i ++ [.v (lt q), .v (.bool (.sym bg)), .v (.bool (.sym pp))] ++ junk js 250 15, [(5, some (po (.fn 17 [] []) w h se))] ++ base ps xs c t (.cells (AC q (.ptr 5 0) vs0) 28) (.cells (AC q .nilp vs1) 30) oh, 6, []⟩).vmap (leaf 12))
noncomputable abbrev p1_l0 : Lf MObj := (Lf.mk (VX.normal) (pre n np mn i) 265 ([(5, some (.cells [.fn 23 [] [], ii 3, uu w, uu (List.getD xs (Int.toNat (mAt w)) 0), ii 0, uu se] 47))] ++ base ps xs (c + 1) t (.cells (AC q (.ptr 5 0) vs0) 28) (.cells (AC q (.nilp) vs1) 30) oh) 6 [1, 5])
noncomputable abbrev p1_l1 : Lf MObj := (Lf.mk (VX.normal) (pre n np mn i) 265 ([(5, some (.cells [.fn 23 [] [], ii 3, uu w, uu (List.getD xs (Int.toNat (mAt w)) 0), ii 0, uu se] 47))] ++ base ps xs (c + 1) t (.cells (AC q (.ptr 5 0) vs0) 28) (.cells (AC q (.nilp) vs1) 30) oh) 6 [1, 5])
noncomputable abbrev p1_wA : WT (Lf MObj) := (.ite (bg) (.dec (okc c) true (.dec (inb (mAt w) (List.length xs)) true (.ok (p1_l0 q n mn i c t np ps xs w se vs0 vs1 oh)))) (.dec (okc c) true (.dec (inb (mAt w) (List.length xs)) true (.ok (p1_l1 q n mn i c t np ps xs w se vs0 vs1 oh)))))
theorem p1_kA (hq : q < 4) : Tr.walk (WT.sc (p1_wA q n mn i c t np ps xs bg w se vs0 vs1 oh)) (p1_t q n mn i c t np ps xs bg pp w h se vs0 vs1 oh js) = (p1_wA q n mn i c t np ps xs bg w se vs0 vs1 oh) := by
  rcases (show q = 0 ∨ q = 1 ∨ q = 2 ∨ q = 3 by omega) with rfl | rfl | rfl | rfl <;> kernel_rfl
theorem p1 (hq : q < 4) (hx : xs.length = 160) (hc : 0 ≤ c ∧ c ≤ 100000) (hin : inb (mAt w) (List.length xs) = true) : (p1_t q n mn i c t np ps xs bg pp w h se vs0 vs1 oh js).run = Tr.run (.ite (bg) (.ok (p1_l0 q n mn i c t np ps xs w se vs0 vs1 oh)) (.ok (p1_l1 q n mn i c t np ps xs w se vs0 vs1 oh))) := by
  exact Tr.run_walk (p1_kA q n mn i c t np ps xs bg pp w h se vs0 vs1 oh js hq) (WT.vi (fun e0 => (WT.vd (okc_iff.2 (by omega)) (WT.vd (by assumption) WT.vo))) fun e0 => (WT.vd (okc_iff.2 (by omega)) (WT.vd (by assumption) WT.vo))) (by kernel_rfl)
end
section
variable (q : Nat) (n : Int) (mn : Int) (i : Int) (c : Int) (t : Int) (np : Nat) (ps : List (List Int)) (xs : List Int) (bg : Bool) (pp : Bool) (w : Int) (h : Int) (se : Int) (vs0 : Nat → Value) (vs1 : Nat → Value) (vs2 : Nat → Value) (js : Nat → SV)
noncomputable abbrev p2n_t : Tr (Lf MObj) := ((ev (qt [true, true, true, true]) ⟨pre n np mn i ++ [.v (lt q), .v (.bool (.sym bg)), .v (.bool (.sym pp))] ++ junk js 250 15, [(5, some (po (.fn 23 [] []) w h se))] ++ base ps xs c t (.cells (AC q (.ptr 5 0) vs0) 28) (.cells (AC q .nilp vs1) 30) (.cells (AC q .nils vs2) 31), 6, []⟩).vmap (leaf 12))
noncomputable abbrev p2n_l0 : Lf MObj := (Lf.mk (VX.normal) (pre n np mn i) 265 ([(5, some (.cells [.nilf, ii 3, uu w, uu h, ii (mAt w), uu w] 47))] ++ base ps (List.set xs 3 (mNext w (mHLink h))) (c + 1) t (.cells (AC q (.nilp) vs0) 28) (.cells (AC q (.nilp) vs1) 30) (.cells (AC q (.ts 7 (SN.lit 0) (SN.lit 1) none) vs2) 31) ++ [(6, some (.cells [ii (mAt w)] 3)), (7, some (VObj.tab [CK.int IntKind.i64] [[mAt w]] 3))]) 8 [5, 1, 6, 7, 4, 2])
noncomputable abbrev p2n_l1 : Lf MObj := (Lf.mk (VX.normal) (pre n np mn i) 265 ([(5, some (.cells [.fn 14 [] [], ii 3, uu w, uu h, ii 0, uu se] 47))] ++ base ps xs (c + 1) t (.cells (AC q (.ptr 5 0) vs0) 28) (.cells (AC q (.nilp) vs1) 30) (.cells (AC q (.nils) vs2) 31)) 6 [5, 1])
noncomputable abbrev p2n_l2 : Lf MObj := (Lf.mk (VX.normal) (pre n np mn i) 265 ([(5, some (.cells [.nilf, ii 3, uu w, uu h, ii (mAt w), uu w] 47))] ++ base ps (List.set xs 3 (mNext w (mHLink h))) (c + 1) t (.cells (AC q (.nilp) vs0) 28) (.cells (AC q (.nilp) vs1) 30) (.cells (AC q (.ts 7 (SN.lit 0) (SN.lit 1) none) vs2) 31) ++ [(6, some (.cells [ii (mAt w)] 3)), (7, some (VObj.tab [CK.int IntKind.i64] [[mAt w]] 3))]) 8 [5, 1, 6, 7, 4, 2])
noncomputable abbrev p2n_l3 : Lf MObj := (Lf.mk (VX.normal) (pre n np mn i) 265 ([(5, some (.cells [.fn 14 [] [], ii 3, uu w, uu h, ii 0, uu se] 47))] ++ base ps xs (c + 1) t (.cells (AC q (.ptr 5 0) vs0) 28) (.cells (AC q (.nilp) vs1) 30) (.cells (AC q (.nils) vs2) 31)) 6 [5, 1])
noncomputable abbrev p2n_wA : WT (Lf MObj) := (.ite (bg) (.dec (okc c) true (.dec (inb 3 (List.length xs)) true (.ite (List.getD xs 3 0 == w) (.dec (mAt w != 0) true (.ok (p2n_l0 q n mn i c t np ps xs w h vs0 vs1 vs2))) (.ok (p2n_l1 q n mn i c t np ps xs w h se vs0 vs1 vs2))))) (.dec (okc c) true (.dec (inb 3 (List.length xs)) true (.ite (List.getD xs 3 0 == w) (.dec (mAt w != 0) true (.ok (p2n_l2 q n mn i c t np ps xs w h vs0 vs1 vs2))) (.ok (p2n_l3 q n mn i c t np ps xs w h se vs0 vs1 vs2))))))
abbrev p2n_kA' : Prop := Tr.walk (WT.sc (p2n_wA q n mn i c t np ps xs bg w h se vs0 vs1 vs2)) (p2n_t q n mn i c t np ps xs bg pp w h se vs0 vs1 vs2 js) = (p2n_wA q n mn i c t np ps xs bg w h se vs0 vs1 vs2)
theorem p2n_kA0 : p2n_kA' 0 n mn i c t np ps xs bg pp w h se vs0 vs1 vs2 js := by
  show _ = _
  kernel_rfl
theorem p2n_kA1 : p2n_kA' 1 n mn i c t np ps xs bg pp w h se vs0 vs1 vs2 js := by
  show _ = _
  kernel_rfl
theorem p2n_kA2 : p2n_kA' 2 n mn i c t np ps xs bg pp w h se vs0 vs1 vs2 js := by
  show _ = _
  kernel_rfl
theorem p2n_kA3 : p2n_kA' 3 n mn i c t np ps xs bg pp w h se vs0 vs1 vs2 js := by
  show _ = _
  kernel_rfl
theorem p2n_kA (hq : q < 4) : p2n_kA' q n mn i c t np ps xs bg pp w h se vs0 vs1 vs2 js := by
  rcases (show q = 0 ∨ q = 1 ∨ q = 2 ∨ q = 3 by omega) with rfl | rfl | rfl | rfl
  · exact p2n_kA0 ..
  · exact p2n_kA1 ..
  · exact p2n_kA2 ..
  · exact p2n_kA3 ..
theorem p2n (hq : q < 4) (hx : xs.length = 160) (hc : 0 ≤ c ∧ c ≤ 100000) (hw : (mAt w != 0) = true) : (p2n_t q n mn i c t np ps xs bg pp w h se vs0 vs1 vs2 js).run = Tr.run (.ite (bg) (.ite (List.getD xs 3 0 == w) (.ok (p2n_l0 q n mn i c t np ps xs w h vs0 vs1 vs2)) (.ok (p2n_l1 q n mn i c t np ps xs w h se vs0 vs1 vs2))) (.ite (List.getD xs 3 0 == w) (.ok (p2n_l2 q n mn i c t np ps xs w h vs0 vs1 vs2)) (.ok (p2n_l3 q n mn i c t np ps xs w h se vs0 vs1 vs2)))) := by
  exact Tr.run_walk (p2n_kA q n mn i c t np ps xs bg pp w h se vs0 vs1 vs2 js hq) (WT.vi (fun e0 => (WT.vd (okc_iff.2 (by omega)) (WT.vd (inb_iff.2 (by omega)) (WT.vi (fun e1 => (WT.vd (by assumption) WT.vo)) fun e1 => WT.vo)))) fun e0 => (WT.vd (okc_iff.2 (by omega)) (WT.vd (inb_iff.2 (by omega)) (WT.vi (fun e2 => (WT.vd (by assumption) WT.vo)) fun e2 => WT.vo)))) (by kernel_rfl)
end
section
variable (q : Nat) (n : Int) (mn : Int) (i : Int) (c : Int) (t : Int) (np : Nat) (ps : List (List Int)) (xs : List Int) (bg : Bool) (pp : Bool) (w : Int) (h : Int) (se : Int) (vs0 : Nat → Value) (vs1 : Nat → Value) (vs2 : Nat → Value) (js : Nat → SV)
noncomputable abbrev p2e_t : Tr (Lf MObj) := ((ev (qt [true, true, true, true]) ⟨pre n np mn i ++ [.v (lt q), .v (.bool (.sym bg)), .v (.bool (.sym pp))] ++ junk js 250 15, [(5, some (po (.fn 23 [] []) w h se))] ++ base ps xs c t (.cells (AC q (.ptr 5 0) vs0) 28) (.cells (AC q .nilp vs1) 30) (.cells (AC q (.es true) vs2) 31), 6, []⟩).vmap (leaf 12))
noncomputable abbrev p2e_l0 : Lf MObj := (Lf.mk (VX.normal) (pre n np mn i) 265 ([(5, some (.cells [.nilf, ii 3, uu w, uu h, ii (mAt w), uu w] 47))] ++ base ps (List.set xs 3 (mNext w (mHLink h))) (c + 1) t (.cells (AC q (.nilp) vs0) 28) (.cells (AC q (.nilp) vs1) 30) (.cells (AC q (.ts 7 (SN.lit 0) (SN.lit 1) none) vs2) 31) ++ [(6, some (.cells [ii (mAt w)] 3)), (7, some (VObj.tab [CK.int IntKind.i64] [[mAt w]] 3))]) 8 [5, 1, 6, 7, 4, 2])
noncomputable abbrev p2e_l1 : Lf MObj := (Lf.mk (VX.normal) (pre n np mn i) 265 ([(5, some (.cells [.fn 14 [] [], ii 3, uu w, uu h, ii 0, uu se] 47))] ++ base ps xs (c + 1) t (.cells (AC q (.ptr 5 0) vs0) 28) (.cells (AC q (.nilp) vs1) 30) (.cells (AC q (.es true) vs2) 31)) 6 [5, 1])
noncomputable abbrev p2e_l2 : Lf MObj := (Lf.mk (VX.normal) (pre n np mn i) 265 ([(5, some (.cells [.nilf, ii 3, uu w, uu h, ii (mAt w), uu w] 47))] ++ base ps (List.set xs 3 (mNext w (mHLink h))) (c + 1) t (.cells (AC q (.nilp) vs0) 28) (.cells (AC q (.nilp) vs1) 30) (.cells (AC q (.ts 7 (SN.lit 0) (SN.lit 1) none) vs2) 31) ++ [(6, some (.cells [ii (mAt w)] 3)), (7, some (VObj.tab [CK.int IntKind.i64] [[mAt w]] 3))]) 8 [5, 1, 6, 7, 4, 2])
noncomputable abbrev p2e_l3 : Lf MObj := (Lf.mk (VX.normal) (pre n np mn i) 265 ([(5, some (.cells [.fn 14 [] [], ii 3, uu w, uu h, ii 0, uu se] 47))] ++ base ps xs (c + 1) t (.cells (AC q (.ptr 5 0) vs0) 28) (.cells (AC q (.nilp) vs1) 30) (.cells (AC q (.es true) vs2) 31)) 6 [5, 1])
noncomputable abbrev p2e_wA : WT (Lf MObj) := (.ite (bg) (.dec (okc c) true (.dec (inb 3 (List.length xs)) true (.ite (List.getD xs 3 0 == w) (.dec (mAt w != 0) true (.ok (p2e_l0 q n mn i c t np ps xs w h vs0 vs1 vs2))) (.ok (p2e_l1 q n mn i c t np ps xs w h se vs0 vs1 vs2))))) (.dec (okc c) true (.dec (inb 3 (List.length xs)) true (.ite (List.getD xs 3 0 == w) (.dec (mAt w != 0) true (.ok (p2e_l2 q n mn i c t np ps xs w h vs0 vs1 vs2))) (.ok (p2e_l3 q n mn i c t np ps xs w h se vs0 vs1 vs2))))))
abbrev p2e_kA' : Prop := Tr.walk (WT.sc (p2e_wA q n mn i c t np ps xs bg w h se vs0 vs1 vs2)) (p2e_t q n mn i c t np ps xs bg pp w h se vs0 vs1 vs2 js) = (p2e_wA q n mn i c t np ps xs bg w h se vs0 vs1 vs2)
theorem p2e_kA0 : p2e_kA' 0 n mn i c t np ps xs bg pp w h se vs0 vs1 vs2 js := by
  show _ = _
  kernel_rfl
theorem p2e_kA1 : p2e_kA' 1 n mn i c t np ps xs bg pp w h se vs0 vs1 vs2 js := by
  show _ = _
  kernel_rfl
theorem p2e_kA2 : p2e_kA' 2 n mn i c t np ps xs bg pp w h se vs0 vs1 vs2 js := by
  show _ = _
  kernel_rfl
theorem p2e_kA3 : p2e_kA' 3 n mn i c t np ps xs bg pp w h se vs0 vs1 vs2 js := by
  show _ = _
  kernel_rfl
theorem p2e_kA (hq : q < 4) : p2e_kA' q n mn i c t np ps xs bg pp w h se vs0 vs1 vs2 js := by
  rcases (show q = 0 ∨ q = 1 ∨ q = 2 ∨ q = 3 by omega) with rfl | rfl | rfl | rfl
  · exact p2e_kA0 ..
  · exact p2e_kA1 ..
  · exact p2e_kA2 ..
  · exact p2e_kA3 ..
theorem p2e (hq : q < 4) (hx : xs.length = 160) (hc : 0 ≤ c ∧ c ≤ 100000) (hw : (mAt w != 0) = true) : (p2e_t q n mn i c t np ps xs bg pp w h se vs0 vs1 vs2 js).run = Tr.run (.ite (bg) (.ite (List.getD xs 3 0 == w) (.ok (p2e_l0 q n mn i c t np ps xs w h vs0 vs1 vs2)) (.ok (p2e_l1 q n mn i c t np ps xs w h se vs0 vs1 vs2))) (.ite (List.getD xs 3 0 == w) (.ok (p2e_l2 q n mn i c t np ps xs w h vs0 vs1 vs2)) (.ok (p2e_l3 q n mn i c t np ps xs w h se vs0 vs1 vs2)))) := by
  exact Tr.run_walk (p2e_kA q n mn i c t np ps xs bg pp w h se vs0 vs1 vs2 js hq) (WT.vi (fun e0 => (WT.vd (okc_iff.2 (by omega)) (WT.vd (inb_iff.2 (by omega)) (WT.vi (fun e1 => (WT.vd (by assumption) WT.vo)) fun e1 => WT.vo)))) fun e0 => (WT.vd (okc_iff.2 (by omega)) (WT.vd (inb_iff.2 (by omega)) (WT.vi (fun e2 => (WT.vd (by assumption) WT.vo)) fun e2 => WT.vo)))) (by kernel_rfl)
end
section
variable (q : Nat) (n : Int) (mn : Int) (i : Int) (c : Int) (t : Int) (np : Nat) (ps : List (List Int)) (xs : List Int) (bg : Bool) (pp : Bool) (w : Int) (h : Int) (se : Int) (rows : List (List Int)) (vs0 : Nat → Value) (vs1 : Nat → Value) (vs2 : Nat → Value) (js : Nat → SV)
noncomputable abbrev p2t_t : Tr (Lf MObj) := ((ev (qt [true, true, true, true]) ⟨pre n np mn i ++ [.v (lt q), .v (.bool (.sym bg)), .v (.bool (.sym pp))] ++ junk js 250 15, [(6, some (.tab [.int .i64] rows 3)), (5, some (po (.fn 23 [] []) w h se))] ++ base ps xs c t (.cells (AC q (.ptr 5 0) vs0) 28) (.cells (AC q .nilp vs1) 30) (.cells (AC q (.ts 6 (.lit 0) (.sym rows.length) none) vs2) 31), 7, []⟩).vmap (leaf 12))
noncomputable abbrev p2t_l0 : Lf MObj := (Lf.mk (VX.normal) (pre n np mn i) 265 ([(5, some (.cells [.nilf, ii 3, uu w, uu h, ii (mAt w), uu w] 47))] ++ base ps (List.set xs 3 (mNext w (mHLink h))) (c + 1) t (.cells (AC q (.nilp) vs0) 28) (.cells (AC q (.nilp) vs1) 30) (.cells (AC q (.ts 8 (SN.lit 0) (SN.sym (List.length rows + 1)) none) vs2) 31) ++ [(7, some (.cells [ii (mAt w)] 3)), (8, some (VObj.tab [CK.int IntKind.i64] (List.take (List.length rows) (List.drop 0 rows) ++ [[mAt w]]) 3))]) 9 [5, 1, 7, 6, 8, 4, 2])
noncomputable abbrev p2t_l1 : Lf MObj := (Lf.mk (VX.normal) (pre n np mn i) 265 ([(6, some (VObj.tab [CK.int IntKind.i64] rows 3)), (5, some (.cells [.fn 14 [] [], ii 3, uu w, uu h, ii 0, uu se] 47))] ++ base ps xs (c + 1) t (.cells (AC q (.ptr 5 0) vs0) 28) (.cells (AC q (.nilp) vs1) 30) (.cells (AC q (.ts 6 (SN.lit 0) (SN.sym (List.length rows)) none) vs2) 31)) 7 [5, 1])
noncomputable abbrev p2t_l2 : Lf MObj := (Lf.mk (VX.normal) (pre n np mn i) 265 ([(5, some (.cells [.nilf, ii 3, uu w, uu h, ii (mAt w), uu w] 47))] ++ base ps (List.set xs 3 (mNext w (mHLink h))) (c + 1) t (.cells (AC q (.nilp) vs0) 28) (.cells (AC q (.nilp) vs1) 30) (.cells (AC q (.ts 8 (SN.lit 0) (SN.sym (List.length rows + 1)) none) vs2) 31) ++ [(7, some (.cells [ii (mAt w)] 3)), (8, some (VObj.tab [CK.int IntKind.i64] (List.take (List.length rows) (List.drop 0 rows) ++ [[mAt w]]) 3))]) 9 [5, 1, 7, 6, 8, 4, 2])
noncomputable abbrev p2t_l3 : Lf MObj := (Lf.mk (VX.normal) (pre n np mn i) 265 ([(6, some (VObj.tab [CK.int IntKind.i64] rows 3)), (5, some (.cells [.fn 14 [] [], ii 3, uu w, uu h, ii 0, uu se] 47))] ++ base ps xs (c + 1) t (.cells (AC q (.ptr 5 0) vs0) 28) (.cells (AC q (.nilp) vs1) 30) (.cells (AC q (.ts 6 (SN.lit 0) (SN.sym (List.length rows)) none) vs2) 31)) 7 [5, 1])
noncomputable abbrev p2t_wA : WT (Lf MObj) := (.ite (bg) (.dec (okc c) true (.dec (inb 3 (List.length xs)) true (.ite (List.getD xs 3 0 == w) (.dec (mAt w != 0) true (.dec (decide (0 + List.length rows ≤ List.length rows)) true (.dec (Nat.ble ((List.length rows + 1) * 8) 140737488355328) true (.ok (p2t_l0 q n mn i c t np ps xs w h rows vs0 vs1 vs2))))) (.ok (p2t_l1 q n mn i c t np ps xs w h se rows vs0 vs1 vs2))))) (.dec (okc c) true (.dec (inb 3 (List.length xs)) true (.ite (List.getD xs 3 0 == w) (.dec (mAt w != 0) true (.dec (decide (0 + List.length rows ≤ List.length rows)) true (.dec (Nat.ble ((List.length rows + 1) * 8) 140737488355328) true (.ok (p2t_l2 q n mn i c t np ps xs w h rows vs0 vs1 vs2))))) (.ok (p2t_l3 q n mn i c t np ps xs w h se rows vs0 vs1 vs2))))))
abbrev p2t_kA' : Prop := Tr.walk (WT.sc (p2t_wA q n mn i c t np ps xs bg w h se rows vs0 vs1 vs2)) (p2t_t q n mn i c t np ps xs bg pp w h se rows vs0 vs1 vs2 js) = (p2t_wA q n mn i c t np ps xs bg w h se rows vs0 vs1 vs2)
theorem p2t_kA0 : p2t_kA' 0 n mn i c t np ps xs bg pp w h se rows vs0 vs1 vs2 js := by
  show _ = _
  kernel_rfl
theorem p2t_kA1 : p2t_kA' 1 n mn i c t np ps xs bg pp w h se rows vs0 vs1 vs2 js := by
  show _ = _
  kernel_rfl
theorem p2t_kA2 : p2t_kA' 2 n mn i c t np ps xs bg pp w h se rows vs0 vs1 vs2 js := by
  show _ = _
  kernel_rfl
theorem p2t_kA3 : p2t_kA' 3 n mn i c t np ps xs bg pp w h se rows vs0 vs1 vs2 js := by
  show _ = _
  kernel_rfl
theorem p2t_kA (hq : q < 4) : p2t_kA' q n mn i c t np ps xs bg pp w h se rows vs0 vs1 vs2 js := by
  rcases (show q = 0 ∨ q = 1 ∨ q = 2 ∨ q = 3 by omega) with rfl | rfl | rfl | rfl
  · exact p2t_kA0 ..
  · exact p2t_kA1 ..
  · exact p2t_kA2 ..
  · exact p2t_kA3 ..
theorem p2t (hq : q < 4) (hx : xs.length = 160) (hc : 0 ≤ c ∧ c ≤ 100000) (hw : (mAt w != 0) = true) (hr : 0 < rows.length ∧ rows.length ≤ 1000) : (p2t_t q n mn i c t np ps xs bg pp w h se rows vs0 vs1 vs2 js).run = Tr.run (.ite (bg) (.ite (List.getD xs 3 0 == w) (.ok (p2t_l0 q n mn i c t np ps xs w h rows vs0 vs1 vs2)) (.ok (p2t_l1 q n mn i c t np ps xs w h se rows vs0 vs1 vs2))) (.ite (List.getD xs 3 0 == w) (.ok (p2t_l2 q n mn i c t np ps xs w h rows vs0 vs1 vs2)) (.ok (p2t_l3 q n mn i c t np ps xs w h se rows vs0 vs1 vs2)))) := by
  exact Tr.run_walk (p2t_kA q n mn i c t np ps xs bg pp w h se rows vs0 vs1 vs2 js hq) (WT.vi (fun e0 => (WT.vd (okc_iff.2 (by omega)) (WT.vd (inb_iff.2 (by omega)) (WT.vi (fun e1 => (WT.vd (by assumption) (WT.vd (by (simp only [W, wrap64, okc_iff, inb_iff, decide_eq_true_eq, Bool.and_eq_true, ne_eq, decide_eq_false_iff_not, Nat.ble_eq, List.length_set]; omega)) (WT.vd (by (simp only [W, wrap64, okc_iff, inb_iff, decide_eq_true_eq, Bool.and_eq_true, ne_eq, decide_eq_false_iff_not, Nat.ble_eq, List.length_set]; omega)) WT.vo)))) fun e1 => WT.vo)))) fun e0 => (WT.vd (okc_iff.2 (by omega)) (WT.vd (inb_iff.2 (by omega)) (WT.vi (fun e2 => (WT.vd (by assumption) (WT.vd (by (simp only [W, wrap64, okc_iff, inb_iff, decide_eq_true_eq, Bool.and_eq_true, ne_eq, decide_eq_false_iff_not, Nat.ble_eq, List.length_set]; omega)) (WT.vd (by (simp only [W, wrap64, okc_iff, inb_iff, decide_eq_true_eq, Bool.and_eq_true, ne_eq, decide_eq_false_iff_not, Nat.ble_eq, List.length_set]; omega)) WT.vo)))) fun e2 => WT.vo)))) (by kernel_rfl)
end
section
variable (q : Nat) (n : Int) (mn : Int) (i : Int) (c : Int) (t : Int) (np : Nat) (ps : List (List Int)) (xs : List Int) (bg : Bool) (pp : Bool) (a : Int) (w : Int) (vs0 : Nat → Value) (vs1 : Nat → Value) (oh : VObj MObj) (js : Nat → SV)
noncomputable abbrev u0_t : Tr (Lf MObj) := ((ev (qt [true, true, true, true]) ⟨pre n np mn i ++ [.v (lt q), .v (.bool (.sym bg)), .v (.bool (.sym pp))] ++ junk js 250 15, [(5, some (pu (.fn 15 [] []) a w))] ++ base ps xs c t (.cells (AC q .nilp vs0) 28) (.cells (AC q (.ptr 5 0) vs1) 30) oh, 6, []⟩).vmap (leaf 12))
noncomputable abbrev u0_l0 : Lf MObj := (Lf.mk (VX.normal) (pre n np mn i) 265 ([(5, some (.cells [.fn 20 [] [], ii 3, ii a, ii a, ii 0, uu (List.getD xs 3 0)] 50))] ++ base ps xs (c + 1) t (.cells (AC q (.nilp) vs0) 28) (.cells (AC q (.ptr 5 0) vs1) 30) oh) 6 [1, 5])
noncomputable abbrev u0_l1 : Lf MObj := (Lf.mk (VX.normal) (pre n np mn i) 265 ([(5, some (.cells [.fn 20 [] [], ii 3, ii a, ii a, ii 0, uu (List.getD xs 3 0)] 50))] ++ base ps xs (c + 1) t (.cells (AC q (.nilp) vs0) 28) (.cells (AC q (.ptr 5 0) vs1) 30) oh) 6 [1, 5])
noncomputable abbrev u0_wA : WT (Lf MObj) := (.ite (bg) (.dec (okc c) true (.dec (inb 3 (List.length xs)) true (.ok (u0_l0 q n mn i c t np ps xs a vs0 vs1 oh)))) (.dec (okc c) true (.dec (inb 3 (List.length xs)) true (.ok (u0_l1 q n mn i c t np ps xs a vs0 vs1 oh)))))
theorem u0_kA (hq : q < 4) : Tr.walk (WT.sc (u0_wA q n mn i c t np ps xs bg a vs0 vs1 oh)) (u0_t q n mn i c t np ps xs bg pp a w vs0 vs1 oh js) = (u0_wA q n mn i c t np ps xs bg a vs0 vs1 oh) := by
  rcases (show q = 0 ∨ q = 1 ∨ q = 2 ∨ q = 3 by omega) with rfl | rfl | rfl | rfl <;> kernel_rfl
theorem u0 (hq : q < 4) (hx : xs.length = 160) (hc : 0 ≤ c ∧ c ≤ 100000) (hin : inb a (List.length xs) = true) : (u0_t q n mn i c t np ps xs bg pp a w vs0 vs1 oh js).run = Tr.run (.ite (bg) (.ok (u0_l0 q n mn i c t np ps xs a vs0 vs1 oh)) (.ok (u0_l1 q n mn i c t np ps xs a vs0 vs1 oh))) := by
  exact Tr.run_walk (u0_kA q n mn i c t np ps xs bg pp a w vs0 vs1 oh js hq) (WT.vi (fun e0 => (WT.vd (okc_iff.2 (by omega)) (WT.vd (inb_iff.2 (by omega)) WT.vo))) fun e0 => (WT.vd (okc_iff.2 (by omega)) (WT.vd (inb_iff.2 (by omega)) WT.vo))) (by kernel_rfl)
end
section
variable (q : Nat) (n : Int) (mn : Int) (i : Int) (c : Int) (t : Int) (np : Nat) (ps : List (List Int)) (xs : List Int) (bg : Bool) (pp : Bool) (a : Int) (w : Int) (vs0 : Nat → Value) (vs1 : Nat → Value) (oh : VObj MObj) (js : Nat → SV)
noncomputable abbrev u1_t : Tr (Lf MObj) := ((ev (qt [true, true, true, true]) ⟨pre n np mn i ++ [.v (lt q), .v (.bool (.sym bg)), .v (.bool (.sym pp))] ++ junk js 250 15, [(5, some (pu (.fn 20 [] []) a w))] ++ base ps xs c t (.cells (AC q .nilp vs0) 28) (.cells (AC q (.ptr 5 0) vs1) 30) oh, 6, []⟩).vmap (leaf 12))
noncomputable abbrev u1_l0 : Lf MObj := (Lf.mk (VX.normal) (pre n np mn i) 265 ([(5, some (.cells [.fn 27 [] [], ii 3, ii a, ii a, ii 0, uu w] 50))] ++ base ps (List.set xs (Int.toNat a) (mWord 0 0 0 0 0 0 (mAt w))) (c + 1) t (.cells (AC q (.nilp) vs0) 28) (.cells (AC q (.ptr 5 0) vs1) 30) oh) 6 [1, 5])
noncomputable abbrev u1_l1 : Lf MObj := (Lf.mk (VX.normal) (pre n np mn i) 265 ([(5, some (.cells [.fn 27 [] [], ii 3, ii a, ii a, ii 0, uu w] 50))] ++ base ps (List.set xs (Int.toNat a) (mWord 0 0 0 0 0 0 (mAt w))) (c + 1) t (.cells (AC q (.nilp) vs0) 28) (.cells (AC q (.ptr 5 0) vs1) 30) oh) 6 [1, 5])
noncomputable abbrev u1_wA : WT (Lf MObj) := (.ite (bg) (.dec (okc c) true (.dec (inb a (List.length xs)) true (.ok (u1_l0 q n mn i c t np ps xs a w vs0 vs1 oh)))) (.dec (okc c) true (.dec (inb a (List.length xs)) true (.ok (u1_l1 q n mn i c t np ps xs a w vs0 vs1 oh)))))
theorem u1_kA (hq : q < 4) : Tr.walk (WT.sc (u1_wA q n mn i c t np ps xs bg a w vs0 vs1 oh)) (u1_t q n mn i c t np ps xs bg pp a w vs0 vs1 oh js) = (u1_wA q n mn i c t np ps xs bg a w vs0 vs1 oh) := by
  rcases (show q = 0 ∨ q = 1 ∨ q = 2 ∨ q = 3 by omega) with rfl | rfl | rfl | rfl <;> kernel_rfl
theorem u1 (hq : q < 4) (hx : xs.length = 160) (hc : 0 ≤ c ∧ c ≤ 100000) (hin : inb a (List.length xs) = true) : (u1_t q n mn i c t np ps xs bg pp a w vs0 vs1 oh js).run = Tr.run (.ite (bg) (.ok (u1_l0 q n mn i c t np ps xs a w vs0 vs1 oh)) (.ok (u1_l1 q n mn i c t np ps xs a w vs0 vs1 oh))) := by
  exact Tr.run_walk (u1_kA q n mn i c t np ps xs bg pp a w vs0 vs1 oh js hq) (WT.vi (fun e0 => (WT.vd (okc_iff.2 (by omega)) (WT.vd (by assumption) WT.vo))) fun e0 => (WT.vd (okc_iff.2 (by omega)) (WT.vd (by assumption) WT.vo))) (by kernel_rfl)
end
section
variable (q : Nat) (n : Int) (mn : Int) (i : Int) (c : Int) (t : Int) (np : Nat) (ps : List (List Int)) (xs : List Int) (bg : Bool) (pp : Bool) (a : Int) (w : Int) (vs0 : Nat → Value) (vs1 : Nat → Value) (oh : VObj MObj) (js : Nat → SV)
noncomputable abbrev u2_t : Tr (Lf MObj) := ((ev (qt [true, true, true, true]) ⟨pre n np mn i ++ [.v (lt q), .v (.bool (.sym bg)), .v (.bool (.sym pp))] ++ junk js 250 15, [(5, some (pu (.fn 27 [] []) a w))] ++ base ps xs c t (.cells (AC q .nilp vs0) 28) (.cells (AC q (.ptr 5 0) vs1) 30) oh, 6, []⟩).vmap (leaf 12))
noncomputable abbrev u2_l0 : Lf MObj := (Lf.mk (VX.normal) (pre n np mn i) 265 ([(5, some (.cells [.nilf, ii 3, ii a, ii a, ii 0, uu w] 50))] ++ base ps (List.set xs 3 (mNext w a)) (c + 1) t (.cells (AC q (.nilp) vs0) 28) (.cells (AC q (.nilp) vs1) 30) oh) 6 [5, 1, 3])
noncomputable abbrev u2_l1 : Lf MObj := (Lf.mk (VX.normal) (pre n np mn i) 265 ([(5, some (.cells [.fn 15 [] [], ii 3, ii a, ii a, ii 0, uu w] 50))] ++ base ps xs (c + 1) t (.cells (AC q (.nilp) vs0) 28) (.cells (AC q (.ptr 5 0) vs1) 30) oh) 6 [5, 1])
noncomputable abbrev u2_l2 : Lf MObj := (Lf.mk (VX.normal) (pre n np mn i) 265 ([(5, some (.cells [.nilf, ii 3, ii a, ii a, ii 0, uu w] 50))] ++ base ps (List.set xs 3 (mNext w a)) (c + 1) t (.cells (AC q (.nilp) vs0) 28) (.cells (AC q (.nilp) vs1) 30) oh) 6 [5, 1, 3])
noncomputable abbrev u2_l3 : Lf MObj := (Lf.mk (VX.normal) (pre n np mn i) 265 ([(5, some (.cells [.fn 15 [] [], ii 3, ii a, ii a, ii 0, uu w] 50))] ++ base ps xs (c + 1) t (.cells (AC q (.nilp) vs0) 28) (.cells (AC q (.ptr 5 0) vs1) 30) oh) 6 [5, 1])
noncomputable abbrev u2_wA : WT (Lf MObj) := (.ite (bg) (.dec (okc c) true (.dec (inb 3 (List.length xs)) true (.ite (List.getD xs 3 0 == w) (.ok (u2_l0 q n mn i c t np ps xs a w vs0 vs1 oh)) (.ok (u2_l1 q n mn i c t np ps xs a w vs0 vs1 oh))))) (.dec (okc c) true (.dec (inb 3 (List.length xs)) true (.ite (List.getD xs 3 0 == w) (.ok (u2_l2 q n mn i c t np ps xs a w vs0 vs1 oh)) (.ok (u2_l3 q n mn i c t np ps xs a w vs0 vs1 oh))))))
abbrev u2_kA' : Prop := Tr.walk (WT.sc (u2_wA q n mn i c t np ps xs bg a w vs0 vs1 oh)) (u2_t q n mn i c t np ps xs bg pp a w vs0 vs1 oh js) = (u2_wA q n mn i c t np ps xs bg a w vs0 vs1 oh)
theorem u2_kA0 : u2_kA' 0 n mn i c t np ps xs bg pp a w vs0 vs1 oh js := by
  show _ = _
  kernel_rfl
theorem u2_kA1 : u2_kA' 1 n mn i c t np ps xs bg pp a w vs0 vs1 oh js := by
  show _ = _
  kernel_rfl
theorem u2_kA2 : u2_kA' 2 n mn i c t np ps xs bg pp a w vs0 vs1 oh js := by
  show _ = _
  kernel_rfl
theorem u2_kA3 : u2_kA' 3 n mn i c t np ps xs bg pp a w vs0 vs1 oh js := by
  show _ = _
  kernel_rfl
theorem u2_kA (hq : q < 4) : u2_kA' q n mn i c t np ps xs bg pp a w vs0 vs1 oh js := by
  rcases (show q = 0 ∨ q = 1 ∨ q = 2 ∨ q = 3 by omega) with rfl | rfl | rfl | rfl
  · exact u2_kA0 ..
  · exact u2_kA1 ..
  · exact u2_kA2 ..
  · exact u2_kA3 ..
theorem u2 (hq : q < 4) (hx : xs.length = 160) (hc : 0 ≤ c ∧ c ≤ 100000) (hin : inb a (List.length xs) = true) : (u2_t q n mn i c t np ps xs bg pp a w vs0 vs1 oh js).run = Tr.run (.ite (bg) (.ite (List.getD xs 3 0 == w) (.ok (u2_l0 q n mn i c t np ps xs a w vs0 vs1 oh)) (.ok (u2_l1 q n mn i c t np ps xs a w vs0 vs1 oh))) (.ite (List.getD xs 3 0 == w) (.ok (u2_l2 q n mn i c t np ps xs a w vs0 vs1 oh)) (.ok (u2_l3 q n mn i c t np ps xs a w vs0 vs1 oh)))) := by
  exact Tr.run_walk (u2_kA q n mn i c t np ps xs bg pp a w vs0 vs1 oh js hq) (WT.vi (fun e0 => (WT.vd (okc_iff.2 (by omega)) (WT.vd (inb_iff.2 (by omega)) (WT.vi (fun e1 => WT.vo) fun e1 => WT.vo)))) fun e0 => (WT.vd (okc_iff.2 (by omega)) (WT.vd (inb_iff.2 (by omega)) (WT.vi (fun e2 => WT.vo) fun e2 => WT.vo)))) (by kernel_rfl)
end
end Go.Proofs.Ytjohhjilglilkaa.ListOwn
