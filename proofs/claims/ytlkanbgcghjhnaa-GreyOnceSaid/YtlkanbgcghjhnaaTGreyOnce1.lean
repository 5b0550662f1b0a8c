/-
  GreyOnce: data; the pieces round a step.
-/
import Derived.Test.YtlkanbgcghjhnaaTGreyOnce0
namespace Go.Proofs.Ytlkanbgcghjhnaa.GreyOnce
open Go Go.RowKit Go.Proofs.Ytlkanbgcghjhnaa.Eng
set_option linter.unusedVariables false
set_option linter.unusedSimpArgs false
set_option linter.unusedSectionVars false
set_option maxRecDepth 20000
abbrev lt (x : Int) : VV := .int .i64 (.lit x)
abbrev bf : VV := .bool (.lit false)
abbrev bt : VV := .bool (.lit true)
/-- Which objects were asked for, or told. -/
def SEEN (b : Nat → Bool) : List VV := [bf, bf, bf, bf, bf, bf, bf, bf, bf, bf, bf, bf, bf, bf, bf, bf, bf, bf, bf, bf, bf, bf, bf, bf, bf, bf, bf, bf, bf, bf, bf, bf, bf, bf, bf, bf, bf, bf, bf, bf, bf, bf, bf, bf, bf, bf, bf, bf, bf, bf, bf, bf, bf, bf, bf, bf, bf, bf, bf, bf, bf, bf, bf, bf, bf, bf, bf, bf, bf, bf, bf, bf, bf, bf, bf, bf, bf, bf, bf, bf, bf, bf, bf, bf, bf, bf, bf, bf, bf, bf, bf, bf, bf, bf, bf, bf, .bool (.sym (b 0)), bf, bf, bf, .bool (.sym (b 1)), bf, bf, bf, .bool (.sym (b 2)), bf, bf, bf, .bool (.sym (b 3)), bf, bf, bf, .bool (.sym (b 4)), bf, bf, bf, .bool (.sym (b 5)), bf, bf, bf, .bool (.sym (b 6)), bf, bf, bf, .bool (.sym (b 7)), bf, bf, bf, .bool (.sym (b 8)), bf, bf, bf, .bool (.sym (b 9)), bf, bf, bf, .bool (.sym (b 10)), bf, bf, bf, .bool (.sym (b 11)), bf, bf, bf, .bool (.sym (b 12)), bf, bf, bf, .bool (.sym (b 13)), bf, bf, bf, .bool (.sym (b 14)), bf, bf, bf, .bool (.sym (b 15)), bf, bf, bf]
abbrev SO (b : Nat → Bool) : VObj MObj := .cells (SEEN b) 39
abbrev pre (np : Nat) (i : Int) : List SV := [.v (.an 0 (.sym np)), .t [], .v (.bool (.lit false)), .v (.bool (.lit true)), .v (.ptr 1 0), .v (.ptr 2 0), .v (.ptr 3 0), .v (.ptr 4 0), .v (.ptr 5 0), .v (.ptr 6 0), .v (ii i)]
abbrev shO (a w p1 p2 p3 p4 p5 p6 p7 : Int) (j : Int) : VObj MObj := .cells [ii a, ii 1, ii j, uu w, ii p1, ii p2, ii p3, ii p4, ii p5, ii p6, ii p7] 53
abbrev nxO (j w n1 n2 n3 n4 n5 n6 n7 : Int) : VObj MObj := .cells [ii j, uu w, ii n1, ii n2, ii n3, ii n4, ii n5, ii n6, ii n7, ii 0, ii 0] 62
abbrev base (ps : List (List Int)) (xs ys : List Int) (c : Int) (os on oa ot : VObj MObj) : HP MObj := [(0, some (.rotab [.int .i64] ps)), (1, some (.abs (.mem 66 xs c 0))), (2, some (.abs (.mem 70 ys 16 0))), (3, some os), (4, some on), (5, some oa), (6, some ot)]
/-- The cells of all threads: that of the thread q, and the others' (raw). -/
abbrev AC (q : Nat) (x : VV) (vs : Nat → Value) : List VV := match q with
  | 0 => [x, .raw (vs 1), .raw (vs 2)]
  | 1 => [.raw (vs 0), x, .raw (vs 2)]
  | _ => [.raw (vs 0), .raw (vs 1), x]
theorem bne_f {x y : Int} (h : (x == y) = true) : (x != y) = false := by rw [bne, h]; rfl
theorem bne_t {x y : Int} (h : (x == y) = false) : (x != y) = true := by rw [bne, h]; rfl
theorem wrap64 (x : Int) : IntKind.i64.wrap x = (x + 9223372036854775808) % 18446744073709551616 - 9223372036854775808 := by
  rw [wrap_i64']
  split <;> omega
--TACS "assumption", "(apply bne_f; assumption)", "(apply bne_t; assumption)", "(apply decide_eq_true; rfl)", "(apply beq_self_eq_true)", "(simp only [W, wrap64, okc_iff, inb_iff, decide_eq_true_eq, Bool.and_eq_true, ne_eq, decide_eq_false_iff_not, Nat.ble_eq, List.length_set]; omega)", "(simp only [decide_eq_true_eq, Bool.and_eq_true, eq_self, true_and]; omega)", "simp [*]", "(simp only [W, wrap64, okc_iff, inb_iff, decide_eq_true_eq, decide_eq_false_iff_not, beq_iff_eq, beq_eq_false_iff_ne, Bool.and_eq_true] at *; omega)"
--SHORT
--ABBR .bool (.lit false) => bf
--ABBR .bool (.lit true) => bt

section
variable (c : Int) (np : Nat) (ps : List (List Int)) (xs : List Int) (ys : List Int) (os : VObj MObj) (on : VObj MObj) (oa : VObj MObj) (ot : VObj MObj) (x10 : SV) (js : Nat → SV)
noncomputable abbrev init_t : Tr (Lf MObj) := ((ev (codeAt body [true, true, true, true, true, true, true, true, false, false]) ⟨List.take 10 (pre np 0) ++ [x10] ++ junk js 128 11, base ps xs ys c os on oa ot, 7, []⟩).vmap (leaf 11))
noncomputable abbrev init_l0 : Lf MObj := (Lf.mk (VX.normal) [.s (.one (VV.an 0 (SN.sym np))), SV.t [], .s (.one (bf)), .s (.one (bt)), .s (.one (.ptr 1 0)), .s (.one (.ptr 2 0)), .s (.one (.ptr 3 0)), .s (.one (.ptr 4 0)), .s (.one (.ptr 5 0)), .s (.one (.ptr 6 0)), .s (.one (.int .i64 (.lit 0)))] 139 [(0, some (VObj.rotab [CK.int IntKind.i64] ps)), (1, some (.abs (.mem 66 xs c 0))), (2, some (.abs (.mem 70 ys 16 0))), (3, some os), (4, some on), (5, some oa), (6, some ot)] 7 [])
noncomputable abbrev init_wA : WT (Lf MObj) := (.ok (init_l0 c np ps xs ys os on oa ot))
theorem init_kA : Tr.walk (WT.sc (init_wA c np ps xs ys os on oa ot)) (init_t c np ps xs ys os on oa ot x10 js) = (init_wA c np ps xs ys os on oa ot) := by kernel_rfl
theorem init (hx : xs.length = 160) (hc : 0 ≤ c ∧ c ≤ 100000) : (init_t c np ps xs ys os on oa ot x10 js).run = Tr.run (.ok (init_l0 c np ps xs ys os on oa ot)) := by
  exact Tr.run_walk (init_kA c np ps xs ys os on oa ot x10 js) WT.vo (by kernel_rfl)
end
section
variable (i : Int) (c : Int) (np : Nat) (ps : List (List Int)) (xs : List Int) (ys : List Int) (os : VObj MObj) (on : VObj MObj) (oa : VObj MObj) (ot : VObj MObj) (js : Nat → SV)
noncomputable abbrev g_t : Tr (Lf MObj) := ((ev (codeAt body [true, true, true, true, true, true, true, true, false, true, false, false, false]) ⟨pre np i ++ junk js 128 11, base ps xs ys c os on oa ot, 7, []⟩).vmap (leaf 11))
noncomputable abbrev g_l0 : Lf MObj := (Lf.mk (VX.normal) [.s (.one (VV.an 0 (SN.sym np))), SV.t [], .s (.one (bf)), .s (.one (bt)), .s (.one (.ptr 1 0)), .s (.one (.ptr 2 0)), .s (.one (.ptr 3 0)), .s (.one (.ptr 4 0)), .s (.one (.ptr 5 0)), .s (.one (.ptr 6 0)), .s (.one (.int .i64 (.sym i)))] 139 [(0, some (VObj.rotab [CK.int IntKind.i64] ps)), (1, some (.abs (.mem 66 xs c 0))), (2, some (.abs (.mem 70 ys 16 0))), (3, some os), (4, some on), (5, some oa), (6, some ot)] 7 [])
noncomputable abbrev g_l1 : Lf MObj := (Lf.mk (VX.exit 0) [.s (.one (VV.an 0 (SN.sym np))), SV.t [], .s (.one (bf)), .s (.one (bt)), .s (.one (.ptr 1 0)), .s (.one (.ptr 2 0)), .s (.one (.ptr 3 0)), .s (.one (.ptr 4 0)), .s (.one (.ptr 5 0)), .s (.one (.ptr 6 0)), .s (.one (.int .i64 (.sym i)))] 139 [(0, some (VObj.rotab [CK.int IntKind.i64] ps)), (1, some (.abs (.mem 66 xs c 0))), (2, some (.abs (.mem 70 ys 16 0))), (3, some os), (4, some on), (5, some oa), (6, some ot)] 7 [])
noncomputable abbrev g_wA : WT (Lf MObj) := (.ite (decide (i < 600)) (.ok (g_l0 i c np ps xs ys os on oa ot)) (.ok (g_l1 i c np ps xs ys os on oa ot)))
theorem g_kA : Tr.walk (WT.sc (g_wA i c np ps xs ys os on oa ot)) (g_t i c np ps xs ys os on oa ot js) = (g_wA i c np ps xs ys os on oa ot) := by kernel_rfl
theorem g (hx : xs.length = 160) (hc : 0 ≤ c ∧ c ≤ 100000) (hi : 0 ≤ i ∧ i ≤ 600) : (g_t i c np ps xs ys os on oa ot js).run = Tr.run (.ite (decide (i < 600)) (.ok (g_l0 i c np ps xs ys os on oa ot)) (.ok (g_l1 i c np ps xs ys os on oa ot))) := by
  exact Tr.run_walk (g_kA i c np ps xs ys os on oa ot js) (WT.vi (fun e0 => WT.vo) fun e0 => WT.vo) (by kernel_rfl)
end
section
variable (i : Int) (c : Int) (np : Nat) (ps : List (List Int)) (xs : List Int) (ys : List Int) (os : VObj MObj) (on : VObj MObj) (oa : VObj MObj) (ot : VObj MObj) (js : Nat → SV)
noncomputable abbrev kx_t : Tr (Lf MObj) := ((evl [(codeAt body [true, true, true, true, true, true, true, true, false, true, false, false, true, false, false, false]), (codeAt body [true, true, true, true, true, true, true, true, false, true, false, false, true, false, false, true, false])] ⟨pre np i ++ junk js 128 11, base ps xs ys c os on oa ot, 7, []⟩).vmap (leaf 12))
noncomputable abbrev kx_l0 : Lf MObj := (Lf.mk (VX.normal) [.s (.one (VV.an 0 (SN.sym np))), SV.t [], .s (.one (bf)), .s (.one (bt)), .s (.one (.ptr 1 0)), .s (.one (.ptr 2 0)), .s (.one (.ptr 3 0)), .s (.one (.ptr 4 0)), .s (.one (.ptr 5 0)), .s (.one (.ptr 6 0)), .s (.one (.int .i64 (.sym i))), .s (.one (.int .i64 (.sym (kM (tabAt ps (Int.toNat i) 0) 64))))] 139 [(0, some (VObj.rotab [CK.int IntKind.i64] ps)), (1, some (.abs (.mem 66 xs c 0))), (2, some (.abs (.mem 70 ys 16 0))), (3, some os), (4, some on), (5, some oa), (6, some ot)] 7 [])
noncomputable abbrev kx_l1 : Lf MObj := (Lf.mk (VX.normal) [.s (.one (VV.an 0 (SN.sym np))), SV.t [], .s (.one (bf)), .s (.one (bt)), .s (.one (.ptr 1 0)), .s (.one (.ptr 2 0)), .s (.one (.ptr 3 0)), .s (.one (.ptr 4 0)), .s (.one (.ptr 5 0)), .s (.one (.ptr 6 0)), .s (.one (.int .i64 (.sym i))), .s (.one (.int .i64 (.sym (Int.tmod i 4))))] 139 [(0, some (VObj.rotab [CK.int IntKind.i64] ps)), (1, some (.abs (.mem 66 xs c 0))), (2, some (.abs (.mem 70 ys 16 0))), (3, some os), (4, some on), (5, some oa), (6, some ot)] 7 [])
noncomputable abbrev kx_l2 : Lf MObj := (Lf.mk (VX.normal) [.s (.one (VV.an 0 (SN.sym np))), SV.t [], .s (.one (bf)), .s (.one (bt)), .s (.one (.ptr 1 0)), .s (.one (.ptr 2 0)), .s (.one (.ptr 3 0)), .s (.one (.ptr 4 0)), .s (.one (.ptr 5 0)), .s (.one (.ptr 6 0)), .s (.one (.int .i64 (.sym i))), .s (.one (.int .i64 (.sym (Int.tmod i 4))))] 139 [(0, some (VObj.rotab [CK.int IntKind.i64] ps)), (1, some (.abs (.mem 66 xs c 0))), (2, some (.abs (.mem 70 ys 16 0))), (3, some os), (4, some on), (5, some oa), (6, some ot)] 7 [])
noncomputable abbrev kx_wA : WT (Lf MObj) := (.ite (decide (i < (↑np : Int))) (.ite (decide (i < 300)) (.dec (decide (0 ≤ i) && decide (i < (↑np : Int))) true (.dec (decide (Int.toNat i < List.length ps)) true (.dec (false) false (.ok (kx_l0 i c np ps xs ys os on oa ot))))) (.ok (kx_l1 i c np ps xs ys os on oa ot))) (.ok (kx_l2 i c np ps xs ys os on oa ot)))
theorem kx_kA : Tr.walk (WT.sc (kx_wA i c np ps xs ys os on oa ot)) (kx_t i c np ps xs ys os on oa ot js) = (kx_wA i c np ps xs ys os on oa ot) := by kernel_rfl
theorem kx (hx : xs.length = 160) (hc : 0 ≤ c ∧ c ≤ 100000) (hi : 0 ≤ i ∧ i < 600) (hnp : np = ps.length) : (kx_t i c np ps xs ys os on oa ot js).run = Tr.run (.ite (decide (i < (↑np : Int))) (.ite (decide (i < 300)) (.ok (kx_l0 i c np ps xs ys os on oa ot)) (.ok (kx_l1 i c np ps xs ys os on oa ot))) (.ok (kx_l2 i c np ps xs ys os on oa ot))) := by
  exact Tr.run_walk (kx_kA i c np ps xs ys os on oa ot js) (WT.vi (fun e0 => (WT.vi (fun e1 => (WT.vd (by (simp only [W, wrap64, okc_iff, inb_iff, decide_eq_true_eq, decide_eq_false_iff_not, beq_iff_eq, beq_eq_false_iff_ne, Bool.and_eq_true] at *; omega)) (WT.vd (by (simp only [W, wrap64, okc_iff, inb_iff, decide_eq_true_eq, decide_eq_false_iff_not, beq_iff_eq, beq_eq_false_iff_ne, Bool.and_eq_true] at *; omega)) (WT.vd (rfl) WT.vo)))) fun e1 => WT.vo)) fun e0 => WT.vo) (by kernel_rfl)
end
section
variable (i : Int) (c : Int) (np : Nat) (ps : List (List Int)) (xs : List Int) (ys : List Int) (kk : Int) (os : VObj MObj) (on : VObj MObj) (oa : VObj MObj) (ot : VObj MObj) (js : Nat → SV)
noncomputable abbrev sj0_t : Tr (Lf MObj) := ((evl [(codeAt body [true, true, true, true, true, true, true, true, false, true, false, false, true, false, false, true, true, false]), (codeAt body [true, true, true, true, true, true, true, true, false, true, false, false, true, false, false, true, true, true, false])] ⟨pre np i ++ [.v (ii kk)] ++ junk js 127 12, base ps xs ys c os on oa ot, 7, []⟩).vmap (leaf 16))
noncomputable abbrev sj0_l0 : Lf MObj := (Lf.mk (VX.normal) [.s (.one (VV.an 0 (SN.sym np))), SV.t [], .s (.one (bf)), .s (.one (bt)), .s (.one (.ptr 1 0)), .s (.one (.ptr 2 0)), .s (.one (.ptr 3 0)), .s (.one (.ptr 4 0)), .s (.one (.ptr 5 0)), .s (.one (.ptr 6 0)), .s (.one (.int .i64 (.sym i))), .s (.one (.int .i64 (.sym kk))), js 12, js (12 + 1), js (12 + 1 + 1), .s (.one (.int .i64 (.sym (Int.tmod kk 4))))] 139 [(0, some (VObj.rotab [CK.int IntKind.i64] ps)), (1, some (.abs (.mem 66 xs c 0))), (2, some (.abs (.mem 70 ys 16 0))), (3, some os), (4, some on), (5, some oa), (6, some ot)] 7 [])
noncomputable abbrev sj0_wA : WT (Lf MObj) := (.dec (Int.tmod kk 4 == 3) false (.ok (sj0_l0 i c np ps xs ys kk os on oa ot js)))
theorem sj0_kA : Tr.walk (WT.sc (sj0_wA i c np ps xs ys kk os on oa ot js)) (sj0_t i c np ps xs ys kk os on oa ot js) = (sj0_wA i c np ps xs ys kk os on oa ot js) := by kernel_rfl
theorem sj0 (hx : xs.length = 160) (hc : 0 ≤ c ∧ c ≤ 100000) (hkk : Int.tmod kk 4 = 0) : (sj0_t i c np ps xs ys kk os on oa ot js).run = Tr.run (.ok (sj0_l0 i c np ps xs ys kk os on oa ot js)) := by
  exact Tr.run_walk (sj0_kA i c np ps xs ys kk os on oa ot js) (WT.vd (by simp [*]) WT.vo) (by kernel_rfl)
end
section
variable (i : Int) (c : Int) (np : Nat) (ps : List (List Int)) (xs : List Int) (ys : List Int) (kk : Int) (os : VObj MObj) (on : VObj MObj) (oa : VObj MObj) (ot : VObj MObj) (js : Nat → SV)
noncomputable abbrev sj1_t : Tr (Lf MObj) := ((evl [(codeAt body [true, true, true, true, true, true, true, true, false, true, false, false, true, false, false, true, true, false]), (codeAt body [true, true, true, true, true, true, true, true, false, true, false, false, true, false, false, true, true, true, false])] ⟨pre np i ++ [.v (ii kk)] ++ junk js 127 12, base ps xs ys c os on oa ot, 7, []⟩).vmap (leaf 16))
noncomputable abbrev sj1_l0 : Lf MObj := (Lf.mk (VX.normal) [.s (.one (VV.an 0 (SN.sym np))), SV.t [], .s (.one (bf)), .s (.one (bt)), .s (.one (.ptr 1 0)), .s (.one (.ptr 2 0)), .s (.one (.ptr 3 0)), .s (.one (.ptr 4 0)), .s (.one (.ptr 5 0)), .s (.one (.ptr 6 0)), .s (.one (.int .i64 (.sym i))), .s (.one (.int .i64 (.sym kk))), js 12, js (12 + 1), js (12 + 1 + 1), .s (.one (.int .i64 (.sym (Int.tmod kk 4))))] 139 [(0, some (VObj.rotab [CK.int IntKind.i64] ps)), (1, some (.abs (.mem 66 xs c 0))), (2, some (.abs (.mem 70 ys 16 0))), (3, some os), (4, some on), (5, some oa), (6, some ot)] 7 [])
noncomputable abbrev sj1_wA : WT (Lf MObj) := (.dec (Int.tmod kk 4 == 3) false (.ok (sj1_l0 i c np ps xs ys kk os on oa ot js)))
theorem sj1_kA : Tr.walk (WT.sc (sj1_wA i c np ps xs ys kk os on oa ot js)) (sj1_t i c np ps xs ys kk os on oa ot js) = (sj1_wA i c np ps xs ys kk os on oa ot js) := by kernel_rfl
theorem sj1 (hx : xs.length = 160) (hc : 0 ≤ c ∧ c ≤ 100000) (hkk : Int.tmod kk 4 = 1) : (sj1_t i c np ps xs ys kk os on oa ot js).run = Tr.run (.ok (sj1_l0 i c np ps xs ys kk os on oa ot js)) := by
  exact Tr.run_walk (sj1_kA i c np ps xs ys kk os on oa ot js) (WT.vd (by simp [*]) WT.vo) (by kernel_rfl)
end
section
variable (i : Int) (c : Int) (np : Nat) (ps : List (List Int)) (xs : List Int) (ys : List Int) (kk : Int) (os : VObj MObj) (on : VObj MObj) (oa : VObj MObj) (ot : VObj MObj) (js : Nat → SV)
noncomputable abbrev sj2_t : Tr (Lf MObj) := ((evl [(codeAt body [true, true, true, true, true, true, true, true, false, true, false, false, true, false, false, true, true, false]), (codeAt body [true, true, true, true, true, true, true, true, false, true, false, false, true, false, false, true, true, true, false])] ⟨pre np i ++ [.v (ii kk)] ++ junk js 127 12, base ps xs ys c os on oa ot, 7, []⟩).vmap (leaf 16))
noncomputable abbrev sj2_l0 : Lf MObj := (Lf.mk (VX.normal) [.s (.one (VV.an 0 (SN.sym np))), SV.t [], .s (.one (bf)), .s (.one (bt)), .s (.one (.ptr 1 0)), .s (.one (.ptr 2 0)), .s (.one (.ptr 3 0)), .s (.one (.ptr 4 0)), .s (.one (.ptr 5 0)), .s (.one (.ptr 6 0)), .s (.one (.int .i64 (.sym i))), .s (.one (.int .i64 (.sym kk))), js 12, js (12 + 1), js (12 + 1 + 1), .s (.one (.int .i64 (.sym (Int.tmod kk 4))))] 139 [(0, some (VObj.rotab [CK.int IntKind.i64] ps)), (1, some (.abs (.mem 66 xs c 0))), (2, some (.abs (.mem 70 ys 16 0))), (3, some os), (4, some on), (5, some oa), (6, some ot)] 7 [])
noncomputable abbrev sj2_wA : WT (Lf MObj) := (.dec (Int.tmod kk 4 == 3) false (.ok (sj2_l0 i c np ps xs ys kk os on oa ot js)))
theorem sj2_kA : Tr.walk (WT.sc (sj2_wA i c np ps xs ys kk os on oa ot js)) (sj2_t i c np ps xs ys kk os on oa ot js) = (sj2_wA i c np ps xs ys kk os on oa ot js) := by kernel_rfl
theorem sj2 (hx : xs.length = 160) (hc : 0 ≤ c ∧ c ≤ 100000) (hkk : Int.tmod kk 4 = 2) : (sj2_t i c np ps xs ys kk os on oa ot js).run = Tr.run (.ok (sj2_l0 i c np ps xs ys kk os on oa ot js)) := by
  exact Tr.run_walk (sj2_kA i c np ps xs ys kk os on oa ot js) (WT.vd (by simp [*]) WT.vo) (by kernel_rfl)
end
section
variable (i : Int) (c : Int) (np : Nat) (ps : List (List Int)) (xs : List Int) (ys : List Int) (os : VObj MObj) (on : VObj MObj) (oa : VObj MObj) (ot : VObj MObj) (js : Nat → SV)
noncomputable abbrev inc_t : Tr (Lf MObj) := ((ev (codeAt body [true, true, true, true, true, true, true, true, false, true, false, false, true, true]) ⟨pre np i ++ junk js 128 11, base ps xs ys c os on oa ot, 7, []⟩).vmap (leaf 11))
noncomputable abbrev inc_l0 : Lf MObj := (Lf.mk (VX.normal) [.s (.one (VV.an 0 (SN.sym np))), SV.t [], .s (.one (bf)), .s (.one (bt)), .s (.one (.ptr 1 0)), .s (.one (.ptr 2 0)), .s (.one (.ptr 3 0)), .s (.one (.ptr 4 0)), .s (.one (.ptr 5 0)), .s (.one (.ptr 6 0)), .s (.one (.int .i64 (.sym (W (i + 1)))))] 139 [(0, some (VObj.rotab [CK.int IntKind.i64] ps)), (1, some (.abs (.mem 66 xs c 0))), (2, some (.abs (.mem 70 ys 16 0))), (3, some os), (4, some on), (5, some oa), (6, some ot)] 7 [])
noncomputable abbrev inc_wA : WT (Lf MObj) := (.ok (inc_l0 i c np ps xs ys os on oa ot))
theorem inc_kA : Tr.walk (WT.sc (inc_wA i c np ps xs ys os on oa ot)) (inc_t i c np ps xs ys os on oa ot js) = (inc_wA i c np ps xs ys os on oa ot) := by kernel_rfl
theorem inc (hx : xs.length = 160) (hc : 0 ≤ c ∧ c ≤ 100000) (hi : 0 ≤ i ∧ i ≤ 600) : (inc_t i c np ps xs ys os on oa ot js).run = Tr.run (.ok (inc_l0 i c np ps xs ys os on oa ot)) := by
  exact Tr.run_walk (inc_kA i c np ps xs ys os on oa ot js) WT.vo (by kernel_rfl)
end
section
variable (i : Int) (c : Int) (np : Nat) (ps : List (List Int)) (xs : List Int) (ys : List Int) (b : Nat → Bool) (os : VObj MObj) (on : VObj MObj) (js : Nat → SV)
noncomputable abbrev fin_t : Tr (Lf MObj) := ((ev (codeAt body [true, true, true, true, true, true, true, true, true]) ⟨pre np i ++ junk js 128 11, base ps xs ys c os on (SO b) (SO b), 7, []⟩).vmap (leaf 6))
noncomputable abbrev fin_l0 : Lf MObj := (Lf.mk (VX.ret) [.s (.one (VV.an 0 (SN.sym np))), SV.t [], .s (.one (.bool (.sym true))), .s (.one (bt)), .s (.one (.ptr 1 0)), .s (.one (.ptr 2 0))] 139 [(0, some (VObj.rotab [CK.int IntKind.i64] ps)), (1, some (.abs (.mem 66 xs c 0))), (2, some (.abs (.mem 70 ys 16 0))), (3, some os), (4, some on), (5, some (.cells [bf, bf, bf, bf, bf, bf, bf, bf, bf, bf, bf, bf, bf, bf, bf, bf, bf, bf, bf, bf, bf, bf, bf, bf, bf, bf, bf, bf, bf, bf, bf, bf, bf, bf, bf, bf, bf, bf, bf, bf, bf, bf, bf, bf, bf, bf, bf, bf, bf, bf, bf, bf, bf, bf, bf, bf, bf, bf, bf, bf, bf, bf, bf, bf, bf, bf, bf, bf, bf, bf, bf, bf, bf, bf, bf, bf, bf, bf, bf, bf, bf, bf, bf, bf, bf, bf, bf, bf, bf, bf, bf, bf, bf, bf, bf, bf, .bool (.sym (b 0)), bf, bf, bf, .bool (.sym (b 1)), bf, bf, bf, .bool (.sym (b 2)), bf, bf, bf, .bool (.sym (b 3)), bf, bf, bf, .bool (.sym (b 4)), bf, bf, bf, .bool (.sym (b 5)), bf, bf, bf, .bool (.sym (b 6)), bf, bf, bf, .bool (.sym (b 7)), bf, bf, bf, .bool (.sym (b 8)), bf, bf, bf, .bool (.sym (b 9)), bf, bf, bf, .bool (.sym (b 10)), bf, bf, bf, .bool (.sym (b 11)), bf, bf, bf, .bool (.sym (b 12)), bf, bf, bf, .bool (.sym (b 13)), bf, bf, bf, .bool (.sym (b 14)), bf, bf, bf, .bool (.sym (b 15)), bf, bf, bf] 39)), (6, some (.cells [bf, bf, bf, bf, bf, bf, bf, bf, bf, bf, bf, bf, bf, bf, bf, bf, bf, bf, bf, bf, bf, bf, bf, bf, bf, bf, bf, bf, bf, bf, bf, bf, bf, bf, bf, bf, bf, bf, bf, bf, bf, bf, bf, bf, bf, bf, bf, bf, bf, bf, bf, bf, bf, bf, bf, bf, bf, bf, bf, bf, bf, bf, bf, bf, bf, bf, bf, bf, bf, bf, bf, bf, bf, bf, bf, bf, bf, bf, bf, bf, bf, bf, bf, bf, bf, bf, bf, bf, bf, bf, bf, bf, bf, bf, bf, bf, .bool (.sym (b 0)), bf, bf, bf, .bool (.sym (b 1)), bf, bf, bf, .bool (.sym (b 2)), bf, bf, bf, .bool (.sym (b 3)), bf, bf, bf, .bool (.sym (b 4)), bf, bf, bf, .bool (.sym (b 5)), bf, bf, bf, .bool (.sym (b 6)), bf, bf, bf, .bool (.sym (b 7)), bf, bf, bf, .bool (.sym (b 8)), bf, bf, bf, .bool (.sym (b 9)), bf, bf, bf, .bool (.sym (b 10)), bf, bf, bf, .bool (.sym (b 11)), bf, bf, bf, .bool (.sym (b 12)), bf, bf, bf, .bool (.sym (b 13)), bf, bf, bf, .bool (.sym (b 14)), bf, bf, bf, .bool (.sym (b 15)), bf, bf, bf] 39))] 7 [1])
noncomputable abbrev fin_wA : WT (Lf MObj) := (.dec (!b 0 == b 0) false (.dec (!b 1 == b 1) false (.dec (!b 2 == b 2) false (.dec (!b 3 == b 3) false (.dec (!b 4 == b 4) false (.dec (!b 5 == b 5) false (.dec (!b 6 == b 6) false (.dec (!b 7 == b 7) false (.dec (!b 8 == b 8) false (.dec (!b 9 == b 9) false (.dec (!b 10 == b 10) false (.dec (!b 11 == b 11) false (.dec (!b 12 == b 12) false (.dec (!b 13 == b 13) false (.dec (!b 14 == b 14) false (.dec (!b 15 == b 15) false (.ok (fin_l0 c np ps xs ys b os on))))))))))))))))))
theorem fin_kA : Tr.walk (WT.sc (fin_wA c np ps xs ys b os on)) (fin_t i c np ps xs ys b os on js) = (fin_wA c np ps xs ys b os on) := by kernel_rfl
theorem fin (hx : xs.length = 160) (hc : 0 ≤ c ∧ c ≤ 100000) : (fin_t i c np ps xs ys b os on js).run = Tr.run (.ok (fin_l0 c np ps xs ys b os on)) := by
  exact Tr.run_walk (fin_kA i c np ps xs ys b os on js) (WT.vd (by simp [*]) (WT.vd (by simp [*]) (WT.vd (by simp [*]) (WT.vd (by simp [*]) (WT.vd (by simp [*]) (WT.vd (by simp [*]) (WT.vd (by simp [*]) (WT.vd (by simp [*]) (WT.vd (by simp [*]) (WT.vd (by simp [*]) (WT.vd (by simp [*]) (WT.vd (by simp [*]) (WT.vd (by simp [*]) (WT.vd (by simp [*]) (WT.vd (by simp [*]) (WT.vd (by simp [*]) WT.vo)))))))))))))))) (by kernel_rfl)
end
end Go.Proofs.Ytlkanbgcghjhnaa.GreyOnce
