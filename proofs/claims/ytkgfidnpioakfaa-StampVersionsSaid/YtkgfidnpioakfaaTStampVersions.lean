/-
  StampVersions: what its pieces come to.
-/
import Derived.Test.YtkgfidnpioakfaaEv2
import Derived.Test.YtkgfidnpioakfaaEngZc
namespace Go.Proofs.Ytkgfidnpioakfaa.StampVersions
open Go Go.RowKit Go.Proofs.Ytkgfidnpioakfaa.Eng
set_option linter.unusedVariables false
set_option linter.unusedSimpArgs false
set_option linter.unusedSectionVars false
set_option maxRecDepth 20000
noncomputable abbrev body : Code := Try.f5.body.get!
noncomputable abbrev ev (c : Code) : St Unit → Tr (VX × St Unit) := evCode Try.prog (evF Try.prog (lookI Unit tab2) 100 19) 100 c
noncomputable abbrev evl (c : List Code) : St Unit → Tr (VX × St Unit) := evList (P := Try.prog) (evF Try.prog (lookI Unit tab2) 100 19) 100 c
noncomputable abbrev nt : Nat := Try.f5.ntmps
noncomputable abbrev at' (p : List Bool) : Code := codeAt body ([true, true, true, true, false, true, false, false] ++ p)
abbrev W (x : Int) : Int := IntKind.i64.wrap x
noncomputable abbrev pre (w : Int) (nl : Nat) (all : SV) (n i : Int) : List SV := [.v (uu w), .v (.an 0 (.sym nl)), .t [], .t [], .v (.bool (.lit false)), .v (.bool (.lit true)), all, .v (ii n), .v (ii i)]
noncomputable abbrev hA (ls : List (List Int)) (x : Int) : HP Unit := [(0, some (.rotab [.int .i64] ls)), (1, some (.cells [uu x] 29))]
noncomputable abbrev hB (ls xs : List (List Int)) : HP Unit := [(0, some (.rotab [.int .i64] ls)), (1, some (.tab [.int .u64] xs 29))]
noncomputable abbrev aA : SV := .v (.sl 1 0 1 1)
noncomputable abbrev aB (L : Nat) : SV := .v (.ts 1 (.lit 0) (.sym L) none)
--TACS "simp [*]", "(simp only [decide_eq_true_eq, Bool.and_eq_true, beq_iff_eq, beq_eq_false_iff_ne, ne_eq, decide_eq_false_iff_not, Nat.ble_eq] at *; omega)", "(simp; omega)"
--LF Unit

section
variable (w : Int) (nl : Nat) (ls : List (List Int))
noncomputable abbrev start_t : Tr (Lf Unit) := ((evl (Eng.spine 4 body).1 ⟨[.v (uu w), .v (.an 0 (.sym nl))] ++ List.replicate (nt - 2) .undef, [(0, some (.rotab [.int .i64] ls))], 1, []⟩).vmap (leaf 9))
noncomputable abbrev start_l0 : Lf Unit := (Lf.mk (VX.normal) [.s (.one (.int .u64 (.sym w))), .s (.one (VV.an 0 (SN.sym nl))), SV.t [], SV.t [], .s (.one (.bool (.lit false))), .s (.one (.bool (.lit true))), .s (.one (VV.sl 1 0 1 1)), .s (.one (.int .i64 (.sym (mVer w)))), SV.t []] 57 [(0, some (VObj.rotab [CK.int IntKind.i64] ls)), (1, some (.cells [.int .u64 (.sym w)] 29))] 2 [1])
theorem start_c0 : (start_t w nl ls).conds [] = [] := by kernel_rfl
theorem start_p0 : (start_t w nl ls).path [] = .ok (start_l0 w nl ls) := by kernel_rfl
theorem start (h : 0 ≤ nl) : (start_t w nl ls).run = Tr.run (.ok (start_l0 w nl ls)) := by
  exact Tr.run_at (start_c0 w nl ls) rfl (start_p0 w nl ls)
end
section
variable (w : Int) (n : Int) (nl : Nat) (ls : List (List Int)) (x8 : SV) (js : Nat → SV)
noncomputable abbrev init_t : Tr (Lf Unit) := ((ev (codeAt body [true, true, true, true, false, false]) ⟨[.v (uu w), .v (.an 0 (.sym nl)), .t [], .t [], .v (.bool (.lit false)), .v (.bool (.lit true)), aA, .v (ii n), x8] ++ junk js 48 9, hA ls w, 2, []⟩).vmap (leaf 9))
noncomputable abbrev init_l0 : Lf Unit := (Lf.mk (VX.normal) [.s (.one (.int .u64 (.sym w))), .s (.one (VV.an 0 (SN.sym nl))), SV.t [], SV.t [], .s (.one (.bool (.lit false))), .s (.one (.bool (.lit true))), .s (.one (VV.sl 1 0 1 1)), .s (.one (.int .i64 (.sym n))), .s (.one (.int .i64 (.lit 0)))] 57 [(0, some (VObj.rotab [CK.int IntKind.i64] ls)), (1, some (.cells [.int .u64 (.sym w)] 29))] 2 [])
theorem init_c0 : (init_t w n nl ls x8 js).conds [] = [] := by kernel_rfl
theorem init_p0 : (init_t w n nl ls x8 js).path [] = .ok (init_l0 w n nl ls) := by kernel_rfl
theorem init (h : 0 ≤ nl) : (init_t w n nl ls x8 js).run = Tr.run (.ok (init_l0 w n nl ls)) := by
  exact Tr.run_at (init_c0 w n nl ls x8 js) rfl (init_p0 w n nl ls x8 js)
end
section
variable (w : Int) (n : Int) (i : Int) (x : Int) (nl : Nat) (ls : List (List Int)) (js : Nat → SV)
noncomputable abbrev rAA_t : Tr (Lf Unit) := ((ev (at' [false]) ⟨pre w nl aA n i ++ junk js 48 9, hA ls x, 2, []⟩).vmap (leaf 9))
noncomputable abbrev rAA_l0 : Lf Unit := (Lf.mk (VX.normal) [.s (.one (.int .u64 (.sym w))), .s (.one (VV.an 0 (SN.sym nl))), SV.t [], SV.t [], .s (.one (.bool (.lit false))), .s (.one (.bool (.lit true))), .s (.one (VV.sl 1 0 1 1)), .s (.one (.int .i64 (.sym n))), .s (.one (.int .i64 (.sym i)))] 57 [(0, some (VObj.rotab [CK.int IntKind.i64] ls)), (1, some (.cells [.int .u64 (.sym x)] 29))] 2 [])
theorem rAA_c0 : (rAA_t w n i x nl ls js).conds [true, true] = [decide (i < (↑nl : Int)), decide (i < 40)] := by kernel_rfl
theorem rAA_p0 : (rAA_t w n i x nl ls js).path [true, true] = .ok (rAA_l0 w n i x nl ls) := by kernel_rfl
noncomputable abbrev rAA_l1 : Lf Unit := (Lf.mk (VX.exit 0) [.s (.one (.int .u64 (.sym w))), .s (.one (VV.an 0 (SN.sym nl))), SV.t [], SV.t [], .s (.one (.bool (.lit false))), .s (.one (.bool (.lit true))), .s (.one (VV.sl 1 0 1 1)), .s (.one (.int .i64 (.sym n))), .s (.one (.int .i64 (.sym i)))] 57 [(0, some (VObj.rotab [CK.int IntKind.i64] ls)), (1, some (.cells [.int .u64 (.sym x)] 29))] 2 [])
theorem rAA_c1 : (rAA_t w n i x nl ls js).conds [true, false] = [decide (i < (↑nl : Int)), decide (i < 40)] := by kernel_rfl
theorem rAA_p1 : (rAA_t w n i x nl ls js).path [true, false] = .ok (rAA_l1 w n i x nl ls) := by kernel_rfl
noncomputable abbrev rAA_l2 : Lf Unit := (Lf.mk (VX.exit 0) [.s (.one (.int .u64 (.sym w))), .s (.one (VV.an 0 (SN.sym nl))), SV.t [], SV.t [], .s (.one (.bool (.lit false))), .s (.one (.bool (.lit true))), .s (.one (VV.sl 1 0 1 1)), .s (.one (.int .i64 (.sym n))), .s (.one (.int .i64 (.sym i)))] 57 [(0, some (VObj.rotab [CK.int IntKind.i64] ls)), (1, some (.cells [.int .u64 (.sym x)] 29))] 2 [])
theorem rAA_c2 : (rAA_t w n i x nl ls js).conds [false] = [decide (i < (↑nl : Int))] := by kernel_rfl
theorem rAA_p2 : (rAA_t w n i x nl ls js).path [false] = .ok (rAA_l2 w n i x nl ls) := by kernel_rfl
theorem rAA (h : 0 ≤ nl) : (rAA_t w n i x nl ls js).run = Tr.run (.ite (decide (i < (↑nl : Int))) (.ite (decide (i < 40)) (.ok (rAA_l0 w n i x nl ls)) (.ok (rAA_l1 w n i x nl ls))) (.ok (rAA_l2 w n i x nl ls))) := by
  cases e0 : (decide (i < (↑nl : Int))) with
  | true =>
    cases e1 : (decide (i < 40)) with
    | true =>
      exact Tr.run_at (rAA_c0 w n i x nl ls js) (cons_eq (e0) (cons_eq (e1) rfl)) (rAA_p0 w n i x nl ls js)
    | false =>
      exact Tr.run_at (rAA_c1 w n i x nl ls js) (cons_eq (e0) (cons_eq (e1) rfl)) (rAA_p1 w n i x nl ls js)
  | false =>
    exact Tr.run_at (rAA_c2 w n i x nl ls js) (cons_eq (e0) rfl) (rAA_p2 w n i x nl ls js)
end
section
variable (w : Int) (n : Int) (i : Int) (nl : Nat) (L : Nat) (ls : List (List Int)) (xs : List (List Int)) (js : Nat → SV)
noncomputable abbrev rAB_t : Tr (Lf Unit) := ((ev (at' [false]) ⟨pre w nl (aB L) n i ++ junk js 48 9, hB ls xs, 2, []⟩).vmap (leaf 9))
noncomputable abbrev rAB_l0 : Lf Unit := (Lf.mk (VX.normal) [.s (.one (.int .u64 (.sym w))), .s (.one (VV.an 0 (SN.sym nl))), SV.t [], SV.t [], .s (.one (.bool (.lit false))), .s (.one (.bool (.lit true))), .s (.one (VV.ts 1 (SN.lit 0) (SN.sym L) none)), .s (.one (.int .i64 (.sym n))), .s (.one (.int .i64 (.sym i)))] 57 [(0, some (VObj.rotab [CK.int IntKind.i64] ls)), (1, some (VObj.tab [CK.int IntKind.u64] xs 29))] 2 [])
theorem rAB_c0 : (rAB_t w n i nl L ls xs js).conds [true, true] = [decide (i < (↑nl : Int)), decide (i < 40)] := by kernel_rfl
theorem rAB_p0 : (rAB_t w n i nl L ls xs js).path [true, true] = .ok (rAB_l0 w n i nl L ls xs) := by kernel_rfl
noncomputable abbrev rAB_l1 : Lf Unit := (Lf.mk (VX.exit 0) [.s (.one (.int .u64 (.sym w))), .s (.one (VV.an 0 (SN.sym nl))), SV.t [], SV.t [], .s (.one (.bool (.lit false))), .s (.one (.bool (.lit true))), .s (.one (VV.ts 1 (SN.lit 0) (SN.sym L) none)), .s (.one (.int .i64 (.sym n))), .s (.one (.int .i64 (.sym i)))] 57 [(0, some (VObj.rotab [CK.int IntKind.i64] ls)), (1, some (VObj.tab [CK.int IntKind.u64] xs 29))] 2 [])
theorem rAB_c1 : (rAB_t w n i nl L ls xs js).conds [true, false] = [decide (i < (↑nl : Int)), decide (i < 40)] := by kernel_rfl
theorem rAB_p1 : (rAB_t w n i nl L ls xs js).path [true, false] = .ok (rAB_l1 w n i nl L ls xs) := by kernel_rfl
noncomputable abbrev rAB_l2 : Lf Unit := (Lf.mk (VX.exit 0) [.s (.one (.int .u64 (.sym w))), .s (.one (VV.an 0 (SN.sym nl))), SV.t [], SV.t [], .s (.one (.bool (.lit false))), .s (.one (.bool (.lit true))), .s (.one (VV.ts 1 (SN.lit 0) (SN.sym L) none)), .s (.one (.int .i64 (.sym n))), .s (.one (.int .i64 (.sym i)))] 57 [(0, some (VObj.rotab [CK.int IntKind.i64] ls)), (1, some (VObj.tab [CK.int IntKind.u64] xs 29))] 2 [])
theorem rAB_c2 : (rAB_t w n i nl L ls xs js).conds [false] = [decide (i < (↑nl : Int))] := by kernel_rfl
theorem rAB_p2 : (rAB_t w n i nl L ls xs js).path [false] = .ok (rAB_l2 w n i nl L ls xs) := by kernel_rfl
theorem rAB (h : 0 ≤ nl) : (rAB_t w n i nl L ls xs js).run = Tr.run (.ite (decide (i < (↑nl : Int))) (.ite (decide (i < 40)) (.ok (rAB_l0 w n i nl L ls xs)) (.ok (rAB_l1 w n i nl L ls xs))) (.ok (rAB_l2 w n i nl L ls xs))) := by
  cases e0 : (decide (i < (↑nl : Int))) with
  | true =>
    cases e1 : (decide (i < 40)) with
    | true =>
      exact Tr.run_at (rAB_c0 w n i nl L ls xs js) (cons_eq (e0) (cons_eq (e1) rfl)) (rAB_p0 w n i nl L ls xs js)
    | false =>
      exact Tr.run_at (rAB_c1 w n i nl L ls xs js) (cons_eq (e0) (cons_eq (e1) rfl)) (rAB_p1 w n i nl L ls xs js)
  | false =>
    exact Tr.run_at (rAB_c2 w n i nl L ls xs js) (cons_eq (e0) rfl) (rAB_p2 w n i nl L ls xs js)
end
section
variable (w : Int) (n : Int) (i : Int) (x : Int) (nl : Nat) (ls : List (List Int)) (js : Nat → SV)
noncomputable abbrev nextA_t : Tr (Lf Unit) := ((evl [at' [true, false, false, false], at' [true, false, false, true, false], at' [true, false, false, true, true, false]] ⟨pre w nl aA n i ++ junk js 48 9, hA ls x, 2, []⟩).vmap (leaf 9))
noncomputable abbrev nextA_l0 : Lf Unit := (Lf.mk (VX.ret) [.s (.one (.int .u64 (.sym (mNext w (tabAt ls (Int.toNat i) 0))))), .s (.one (VV.an 0 (SN.sym nl))), SV.t [], SV.t [], .s (.one (.bool (.lit false))), .s (.one (.bool (.lit true))), .s (.one (VV.sl 1 0 1 1)), .s (.one (.int .i64 (.sym (Int.tmod (W (n + 1)) 1099511627776)))), .s (.one (.int .i64 (.sym i)))] 57 [(0, some (VObj.rotab [CK.int IntKind.i64] ls)), (1, some (.cells [.int .u64 (.sym x)] 29))] 2 [])
theorem nextA_c0 : (nextA_t w n i x nl ls js).conds [true, true, true] = [decide (0 ≤ i) && decide (i < (↑nl : Int)), decide (Int.toNat i < List.length ls), mVer (mNext w (tabAt ls (Int.toNat i) 0)) != Int.tmod (W (n + 1)) 1099511627776] := by kernel_rfl
theorem nextA_p0 : (nextA_t w n i x nl ls js).path [true, true, true] = .ok (nextA_l0 w n i x nl ls) := by kernel_rfl
noncomputable abbrev nextA_l1 : Lf Unit := (Lf.mk (VX.normal) [.s (.one (.int .u64 (.sym (mNext w (tabAt ls (Int.toNat i) 0))))), .s (.one (VV.an 0 (SN.sym nl))), SV.t [], SV.t [], .s (.one (.bool (.lit false))), .s (.one (.bool (.lit true))), .s (.one (VV.sl 1 0 1 1)), .s (.one (.int .i64 (.sym (Int.tmod (W (n + 1)) 1099511627776)))), .s (.one (.int .i64 (.sym i)))] 57 [(0, some (VObj.rotab [CK.int IntKind.i64] ls)), (1, some (.cells [.int .u64 (.sym x)] 29))] 2 [])
theorem nextA_c1 : (nextA_t w n i x nl ls js).conds [true, true, false] = [decide (0 ≤ i) && decide (i < (↑nl : Int)), decide (Int.toNat i < List.length ls), mVer (mNext w (tabAt ls (Int.toNat i) 0)) != Int.tmod (W (n + 1)) 1099511627776] := by kernel_rfl
theorem nextA_p1 : (nextA_t w n i x nl ls js).path [true, true, false] = .ok (nextA_l1 w n i x nl ls) := by kernel_rfl
theorem nextA (hi : 0 ≤ i) (hlt : i < nl) (hl : nl = ls.length) : (nextA_t w n i x nl ls js).run = Tr.run (.ite (mVer (mNext w (tabAt ls (Int.toNat i) 0)) != Int.tmod (W (n + 1)) 1099511627776) (.ok (nextA_l0 w n i x nl ls)) (.ok (nextA_l1 w n i x nl ls))) := by
  cases e0 : (mVer (mNext w (tabAt ls (Int.toNat i) 0)) != Int.tmod (W (n + 1)) 1099511627776) with
  | true =>
    exact Tr.run_at (nextA_c0 w n i x nl ls js) (cons_eq (by (simp only [decide_eq_true_eq, Bool.and_eq_true, beq_iff_eq, beq_eq_false_iff_ne, ne_eq, decide_eq_false_iff_not, Nat.ble_eq] at *; omega)) (cons_eq (by (simp only [decide_eq_true_eq, Bool.and_eq_true, beq_iff_eq, beq_eq_false_iff_ne, ne_eq, decide_eq_false_iff_not, Nat.ble_eq] at *; omega)) (cons_eq (e0) rfl))) (nextA_p0 w n i x nl ls js)
  | false =>
    exact Tr.run_at (nextA_c1 w n i x nl ls js) (cons_eq (by (simp only [decide_eq_true_eq, Bool.and_eq_true, beq_iff_eq, beq_eq_false_iff_ne, ne_eq, decide_eq_false_iff_not, Nat.ble_eq] at *; omega)) (cons_eq (by (simp only [decide_eq_true_eq, Bool.and_eq_true, beq_iff_eq, beq_eq_false_iff_ne, ne_eq, decide_eq_false_iff_not, Nat.ble_eq] at *; omega)) (cons_eq (e0) rfl))) (nextA_p1 w n i x nl ls js)
end
section
variable (w : Int) (n : Int) (i : Int) (nl : Nat) (L : Nat) (ls : List (List Int)) (xs : List (List Int)) (js : Nat → SV)
noncomputable abbrev nextB_t : Tr (Lf Unit) := ((evl [at' [true, false, false, false], at' [true, false, false, true, false], at' [true, false, false, true, true, false]] ⟨pre w nl (aB L) n i ++ junk js 48 9, hB ls xs, 2, []⟩).vmap (leaf 9))
noncomputable abbrev nextB_l0 : Lf Unit := (Lf.mk (VX.ret) [.s (.one (.int .u64 (.sym (mNext w (tabAt ls (Int.toNat i) 0))))), .s (.one (VV.an 0 (SN.sym nl))), SV.t [], SV.t [], .s (.one (.bool (.lit false))), .s (.one (.bool (.lit true))), .s (.one (VV.ts 1 (SN.lit 0) (SN.sym L) none)), .s (.one (.int .i64 (.sym (Int.tmod (W (n + 1)) 1099511627776)))), .s (.one (.int .i64 (.sym i)))] 57 [(0, some (VObj.rotab [CK.int IntKind.i64] ls)), (1, some (VObj.tab [CK.int IntKind.u64] xs 29))] 2 [])
theorem nextB_c0 : (nextB_t w n i nl L ls xs js).conds [true, true, true] = [decide (0 ≤ i) && decide (i < (↑nl : Int)), decide (Int.toNat i < List.length ls), mVer (mNext w (tabAt ls (Int.toNat i) 0)) != Int.tmod (W (n + 1)) 1099511627776] := by kernel_rfl
theorem nextB_p0 : (nextB_t w n i nl L ls xs js).path [true, true, true] = .ok (nextB_l0 w n i nl L ls xs) := by kernel_rfl
noncomputable abbrev nextB_l1 : Lf Unit := (Lf.mk (VX.normal) [.s (.one (.int .u64 (.sym (mNext w (tabAt ls (Int.toNat i) 0))))), .s (.one (VV.an 0 (SN.sym nl))), SV.t [], SV.t [], .s (.one (.bool (.lit false))), .s (.one (.bool (.lit true))), .s (.one (VV.ts 1 (SN.lit 0) (SN.sym L) none)), .s (.one (.int .i64 (.sym (Int.tmod (W (n + 1)) 1099511627776)))), .s (.one (.int .i64 (.sym i)))] 57 [(0, some (VObj.rotab [CK.int IntKind.i64] ls)), (1, some (VObj.tab [CK.int IntKind.u64] xs 29))] 2 [])
theorem nextB_c1 : (nextB_t w n i nl L ls xs js).conds [true, true, false] = [decide (0 ≤ i) && decide (i < (↑nl : Int)), decide (Int.toNat i < List.length ls), mVer (mNext w (tabAt ls (Int.toNat i) 0)) != Int.tmod (W (n + 1)) 1099511627776] := by kernel_rfl
theorem nextB_p1 : (nextB_t w n i nl L ls xs js).path [true, true, false] = .ok (nextB_l1 w n i nl L ls xs) := by kernel_rfl
theorem nextB (hi : 0 ≤ i) (hlt : i < nl) (hl : nl = ls.length) : (nextB_t w n i nl L ls xs js).run = Tr.run (.ite (mVer (mNext w (tabAt ls (Int.toNat i) 0)) != Int.tmod (W (n + 1)) 1099511627776) (.ok (nextB_l0 w n i nl L ls xs)) (.ok (nextB_l1 w n i nl L ls xs))) := by
  cases e0 : (mVer (mNext w (tabAt ls (Int.toNat i) 0)) != Int.tmod (W (n + 1)) 1099511627776) with
  | true =>
    exact Tr.run_at (nextB_c0 w n i nl L ls xs js) (cons_eq (by (simp only [decide_eq_true_eq, Bool.and_eq_true, beq_iff_eq, beq_eq_false_iff_ne, ne_eq, decide_eq_false_iff_not, Nat.ble_eq] at *; omega)) (cons_eq (by (simp only [decide_eq_true_eq, Bool.and_eq_true, beq_iff_eq, beq_eq_false_iff_ne, ne_eq, decide_eq_false_iff_not, Nat.ble_eq] at *; omega)) (cons_eq (e0) rfl))) (nextB_p0 w n i nl L ls xs js)
  | false =>
    exact Tr.run_at (nextB_c1 w n i nl L ls xs js) (cons_eq (by (simp only [decide_eq_true_eq, Bool.and_eq_true, beq_iff_eq, beq_eq_false_iff_ne, ne_eq, decide_eq_false_iff_not, Nat.ble_eq] at *; omega)) (cons_eq (by (simp only [decide_eq_true_eq, Bool.and_eq_true, beq_iff_eq, beq_eq_false_iff_ne, ne_eq, decide_eq_false_iff_not, Nat.ble_eq] at *; omega)) (cons_eq (e0) rfl))) (nextB_p1 w n i nl L ls xs js)
end
section
variable (w : Int) (n : Int) (i : Int) (x : Int) (nl : Nat) (ls : List (List Int)) (js : Nat → SV)
noncomputable abbrev k0A_t : Tr (Lf Unit) := ((ev (at' [true, false, false, true, true, true, false, false]) ⟨pre w nl aA n i ++ junk js 48 9, hA ls x, 2, []⟩).vmap (leaf 10))
noncomputable abbrev k0A_l0 : Lf Unit := (Lf.mk (VX.normal) [.s (.one (.int .u64 (.sym w))), .s (.one (VV.an 0 (SN.sym nl))), SV.t [], SV.t [], .s (.one (.bool (.lit false))), .s (.one (.bool (.lit true))), .s (.one (VV.sl 1 0 1 1)), .s (.one (.int .i64 (.sym n))), .s (.one (.int .i64 (.sym i))), .s (.one (.int .i64 (.lit 0)))] 57 [(0, some (VObj.rotab [CK.int IntKind.i64] ls)), (1, some (.cells [.int .u64 (.sym x)] 29))] 2 [])
theorem k0A_c0 : (k0A_t w n i x nl ls js).conds [] = [] := by kernel_rfl
theorem k0A_p0 : (k0A_t w n i x nl ls js).path [] = .ok (k0A_l0 w n i x nl ls) := by kernel_rfl
theorem k0A (h : 0 ≤ nl) : (k0A_t w n i x nl ls js).run = Tr.run (.ok (k0A_l0 w n i x nl ls)) := by
  exact Tr.run_at (k0A_c0 w n i x nl ls js) rfl (k0A_p0 w n i x nl ls js)
end
section
variable (w : Int) (n : Int) (i : Int) (nl : Nat) (L : Nat) (ls : List (List Int)) (xs : List (List Int)) (js : Nat → SV)
noncomputable abbrev k0B_t : Tr (Lf Unit) := ((ev (at' [true, false, false, true, true, true, false, false]) ⟨pre w nl (aB L) n i ++ junk js 48 9, hB ls xs, 2, []⟩).vmap (leaf 10))
noncomputable abbrev k0B_l0 : Lf Unit := (Lf.mk (VX.normal) [.s (.one (.int .u64 (.sym w))), .s (.one (VV.an 0 (SN.sym nl))), SV.t [], SV.t [], .s (.one (.bool (.lit false))), .s (.one (.bool (.lit true))), .s (.one (VV.ts 1 (SN.lit 0) (SN.sym L) none)), .s (.one (.int .i64 (.sym n))), .s (.one (.int .i64 (.sym i))), .s (.one (.int .i64 (.lit 0)))] 57 [(0, some (VObj.rotab [CK.int IntKind.i64] ls)), (1, some (VObj.tab [CK.int IntKind.u64] xs 29))] 2 [])
theorem k0B_c0 : (k0B_t w n i nl L ls xs js).conds [] = [] := by kernel_rfl
theorem k0B_p0 : (k0B_t w n i nl L ls xs js).path [] = .ok (k0B_l0 w n i nl L ls xs) := by kernel_rfl
theorem k0B (h : 0 ≤ nl) : (k0B_t w n i nl L ls xs js).run = Tr.run (.ok (k0B_l0 w n i nl L ls xs)) := by
  exact Tr.run_at (k0B_c0 w n i nl L ls xs js) rfl (k0B_p0 w n i nl L ls xs js)
end
section
variable (w : Int) (n : Int) (i : Int) (x : Int) (k : Int) (nl : Nat) (ls : List (List Int)) (js : Nat → SV)
noncomputable abbrev inA_t : Tr (Lf Unit) := ((ev (at' [true, false, false, true, true, true, false, true, false, false]) ⟨pre w nl aA n i ++ [.v (ii k)] ++ junk js 47 10, hA ls x, 2, []⟩).vmap (leaf 10))
noncomputable abbrev inA_l0 : Lf Unit := (Lf.mk (VX.normal) [.s (.one (.int .u64 (.sym w))), .s (.one (VV.an 0 (SN.sym nl))), SV.t [], SV.t [], .s (.one (.bool (.lit false))), .s (.one (.bool (.lit true))), .s (.one (VV.sl 1 0 1 1)), .s (.one (.int .i64 (.sym n))), .s (.one (.int .i64 (.sym i))), .s (.one (.int .i64 (.sym (W (k + 1)))))] 57 [(0, some (VObj.rotab [CK.int IntKind.i64] ls)), (1, some (.cells [.int .u64 (.sym x)] 29))] 2 [])
theorem inA_c0 : (inA_t w n i x k nl ls js).conds [true, true, false] = [decide (k < 1), k == 0, x == w] := by kernel_rfl
theorem inA_p0 : (inA_t w n i x k nl ls js).path [true, true, false] = .ok (inA_l0 w n i x k nl ls) := by kernel_rfl
noncomputable abbrev inA_l1 : Lf Unit := (Lf.mk (VX.exit 2) [.s (.one (.int .u64 (.sym w))), .s (.one (VV.an 0 (SN.sym nl))), SV.t [], SV.t [], .s (.one (.bool (.lit false))), .s (.one (.bool (.lit true))), .s (.one (VV.sl 1 0 1 1)), .s (.one (.int .i64 (.sym n))), .s (.one (.int .i64 (.sym i))), .s (.one (.int .i64 (.sym k)))] 57 [(0, some (VObj.rotab [CK.int IntKind.i64] ls)), (1, some (.cells [.int .u64 (.sym x)] 29))] 2 [])
theorem inA_c1 : (inA_t w n i x k nl ls js).conds [false] = [decide (k < 1)] := by kernel_rfl
theorem inA_p1 : (inA_t w n i x k nl ls js).path [false] = .ok (inA_l1 w n i x k nl ls) := by kernel_rfl
theorem inA (hk : 0 ≤ k) (hk1 : k ≤ 1) (hne : (x == w) = false) : (inA_t w n i x k nl ls js).run = Tr.run (.ite (decide (k < 1)) (.ok (inA_l0 w n i x k nl ls)) (.ok (inA_l1 w n i x k nl ls))) := by
  cases e0 : (decide (k < 1)) with
  | true =>
    exact Tr.run_at (inA_c0 w n i x k nl ls js) (cons_eq (e0) (cons_eq (by (simp only [decide_eq_true_eq, Bool.and_eq_true, beq_iff_eq, beq_eq_false_iff_ne, ne_eq, decide_eq_false_iff_not, Nat.ble_eq] at *; omega)) (cons_eq (by simp [*]) rfl))) (inA_p0 w n i x k nl ls js)
  | false =>
    exact Tr.run_at (inA_c1 w n i x k nl ls js) (cons_eq (e0) rfl) (inA_p1 w n i x k nl ls js)
end
section
variable (w : Int) (n : Int) (i : Int) (k : Int) (nl : Nat) (L : Nat) (ls : List (List Int)) (xs : List (List Int)) (js : Nat → SV)
noncomputable abbrev inB_t : Tr (Lf Unit) := ((ev (at' [true, false, false, true, true, true, false, true, false, false]) ⟨pre w nl (aB L) n i ++ [.v (ii k)] ++ junk js 47 10, hB ls xs, 2, []⟩).vmap (leaf 10))
noncomputable abbrev inB_l0 : Lf Unit := (Lf.mk (VX.normal) [.s (.one (.int .u64 (.sym w))), .s (.one (VV.an 0 (SN.sym nl))), SV.t [], SV.t [], .s (.one (.bool (.lit false))), .s (.one (.bool (.lit true))), .s (.one (VV.ts 1 (SN.lit 0) (SN.sym L) none)), .s (.one (.int .i64 (.sym n))), .s (.one (.int .i64 (.sym i))), .s (.one (.int .i64 (.sym (W (k + 1)))))] 57 [(0, some (VObj.rotab [CK.int IntKind.i64] ls)), (1, some (VObj.tab [CK.int IntKind.u64] xs 29))] 2 [])
theorem inB_c0 : (inB_t w n i k nl L ls xs js).conds [true, true, true, false] = [decide (k < (↑L : Int)), decide (0 ≤ k) && decide (k < (↑L : Int)), decide (0 + Int.toNat k < List.length xs), tabAt xs (0 + Int.toNat k) 0 == w] := by kernel_rfl
theorem inB_p0 : (inB_t w n i k nl L ls xs js).path [true, true, true, false] = .ok (inB_l0 w n i k nl L ls xs) := by kernel_rfl
noncomputable abbrev inB_l1 : Lf Unit := (Lf.mk (VX.exit 2) [.s (.one (.int .u64 (.sym w))), .s (.one (VV.an 0 (SN.sym nl))), SV.t [], SV.t [], .s (.one (.bool (.lit false))), .s (.one (.bool (.lit true))), .s (.one (VV.ts 1 (SN.lit 0) (SN.sym L) none)), .s (.one (.int .i64 (.sym n))), .s (.one (.int .i64 (.sym i))), .s (.one (.int .i64 (.sym k)))] 57 [(0, some (VObj.rotab [CK.int IntKind.i64] ls)), (1, some (VObj.tab [CK.int IntKind.u64] xs 29))] 2 [])
theorem inB_c1 : (inB_t w n i k nl L ls xs js).conds [false] = [decide (k < (↑L : Int))] := by kernel_rfl
theorem inB_p1 : (inB_t w n i k nl L ls xs js).path [false] = .ok (inB_l1 w n i k nl L ls xs) := by kernel_rfl
theorem inB (hk : 0 ≤ k) (hL : L = xs.length) (hne : k < L → (tabAt xs (0 + k.toNat) 0 == w) = false) : (inB_t w n i k nl L ls xs js).run = Tr.run (.ite (decide (k < (↑L : Int))) (.ok (inB_l0 w n i k nl L ls xs)) (.ok (inB_l1 w n i k nl L ls xs))) := by
  cases e0 : (decide (k < (↑L : Int))) with
  | true =>
    exact Tr.run_at (inB_c0 w n i k nl L ls xs js) (cons_eq (e0) (cons_eq (by (simp only [decide_eq_true_eq, Bool.and_eq_true, beq_iff_eq, beq_eq_false_iff_ne, ne_eq, decide_eq_false_iff_not, Nat.ble_eq] at *; omega)) (cons_eq (by (simp only [decide_eq_true_eq, Bool.and_eq_true, beq_iff_eq, beq_eq_false_iff_ne, ne_eq, decide_eq_false_iff_not, Nat.ble_eq] at *; omega)) (cons_eq (by (simp only [decide_eq_true_eq, Bool.and_eq_true, beq_iff_eq, beq_eq_false_iff_ne, ne_eq, decide_eq_false_iff_not, Nat.ble_eq] at *; omega)) rfl)))) (inB_p0 w n i k nl L ls xs js)
  | false =>
    exact Tr.run_at (inB_c1 w n i k nl L ls xs js) (cons_eq (e0) rfl) (inB_p1 w n i k nl L ls xs js)
end
section
variable (w : Int) (n : Int) (i : Int) (x : Int) (nl : Nat) (ls : List (List Int)) (js : Nat → SV)
noncomputable abbrev apA_t : Tr (Lf Unit) := ((ev (at' [true, false, false, true, true, true, true]) ⟨pre w nl aA n i ++ junk js 48 9, hA ls x, 2, []⟩).vmap (leaf 9))
noncomputable abbrev apA_l0 : Lf Unit := (Lf.mk (VX.normal) [.s (.one (.int .u64 (.sym w))), .s (.one (VV.an 0 (SN.sym nl))), SV.t [], SV.t [], .s (.one (.bool (.lit false))), .s (.one (.bool (.lit true))), .s (.one (VV.ts 3 (SN.lit 0) (SN.lit 2) none)), .s (.one (.int .i64 (.sym n))), .s (.one (.int .i64 (.sym i)))] 57 [(0, some (VObj.rotab [CK.int IntKind.i64] ls)), (1, some (.cells [.int .u64 (.sym x)] 29)), (2, some (.cells [.int .u64 (.sym w)] 29)), (3, some (VObj.tab [CK.int IntKind.u64] [[x], [w]] 29))] 4 [2, 3])
theorem apA_c0 : (apA_t w n i x nl ls js).conds [] = [] := by kernel_rfl
theorem apA_p0 : (apA_t w n i x nl ls js).path [] = .ok (apA_l0 w n i x nl ls) := by kernel_rfl
theorem apA (h : 0 ≤ nl) : (apA_t w n i x nl ls js).run = Tr.run (.ok (apA_l0 w n i x nl ls)) := by
  exact Tr.run_at (apA_c0 w n i x nl ls js) rfl (apA_p0 w n i x nl ls js)
end
section
variable (w : Int) (n : Int) (i : Int) (nl : Nat) (L : Nat) (ls : List (List Int)) (xs : List (List Int)) (js : Nat → SV)
noncomputable abbrev apB_t : Tr (Lf Unit) := ((ev (at' [true, false, false, true, true, true, true]) ⟨pre w nl (aB L) n i ++ junk js 48 9, hB ls xs, 2, []⟩).vmap (leaf 9))
noncomputable abbrev apB_l0 : Lf Unit := (Lf.mk (VX.normal) [.s (.one (.int .u64 (.sym w))), .s (.one (VV.an 0 (SN.sym nl))), SV.t [], SV.t [], .s (.one (.bool (.lit false))), .s (.one (.bool (.lit true))), .s (.one (VV.ts 3 (SN.lit 0) (SN.sym (L + 1)) none)), .s (.one (.int .i64 (.sym n))), .s (.one (.int .i64 (.sym i)))] 57 [(0, some (VObj.rotab [CK.int IntKind.i64] ls)), (2, some (.cells [.int .u64 (.sym w)] 29)), (3, some (VObj.tab [CK.int IntKind.u64] (List.take L (List.drop 0 xs) ++ [[w]]) 29))] 4 [2, 1, 3])
theorem apB_c0 : (apB_t w n i nl L ls xs js).conds [true, true] = [decide (0 + L ≤ List.length xs), Nat.ble ((L + 1) * 8) 140737488355328] := by kernel_rfl
theorem apB_p0 : (apB_t w n i nl L ls xs js).path [true, true] = .ok (apB_l0 w n i nl L ls xs) := by kernel_rfl
theorem apB (hL : L = xs.length) (hL2 : L ≤ 1000) : (apB_t w n i nl L ls xs js).run = Tr.run (.ok (apB_l0 w n i nl L ls xs)) := by
  exact Tr.run_at (apB_c0 w n i nl L ls xs js) (cons_eq (by simp [*]) (cons_eq (by (simp only [decide_eq_true_eq, Bool.and_eq_true, beq_iff_eq, beq_eq_false_iff_ne, ne_eq, decide_eq_false_iff_not, Nat.ble_eq] at *; omega)) rfl)) (apB_p0 w n i nl L ls xs js)
end
section
variable (w : Int) (n : Int) (i : Int) (nl : Nat) (L : Nat) (ls : List (List Int)) (xs : List (List Int)) (js : Nat → SV)
noncomputable abbrev incB_t : Tr (Lf Unit) := ((ev (at' [true, true]) ⟨pre w nl (aB L) n i ++ junk js 48 9, hB ls xs, 2, []⟩).vmap (leaf 9))
noncomputable abbrev incB_l0 : Lf Unit := (Lf.mk (VX.normal) [.s (.one (.int .u64 (.sym w))), .s (.one (VV.an 0 (SN.sym nl))), SV.t [], SV.t [], .s (.one (.bool (.lit false))), .s (.one (.bool (.lit true))), .s (.one (VV.ts 1 (SN.lit 0) (SN.sym L) none)), .s (.one (.int .i64 (.sym n))), .s (.one (.int .i64 (.sym (W (i + 1)))))] 57 [(0, some (VObj.rotab [CK.int IntKind.i64] ls)), (1, some (VObj.tab [CK.int IntKind.u64] xs 29))] 2 [])
theorem incB_c0 : (incB_t w n i nl L ls xs js).conds [] = [] := by kernel_rfl
theorem incB_p0 : (incB_t w n i nl L ls xs js).path [] = .ok (incB_l0 w n i nl L ls xs) := by kernel_rfl
theorem incB (h : 0 ≤ nl) : (incB_t w n i nl L ls xs js).run = Tr.run (.ok (incB_l0 w n i nl L ls xs)) := by
  exact Tr.run_at (incB_c0 w n i nl L ls xs js) rfl (incB_p0 w n i nl L ls xs js)
end
section
variable (w : Int) (n : Int) (i : Int) (x : Int) (nl : Nat) (ls : List (List Int)) (js : Nat → SV)
noncomputable abbrev finA_t : Tr (Lf Unit) := ((ev (codeAt body [true, true, true, true, true]) ⟨pre w nl aA n i ++ junk js 48 9, hA ls x, 2, []⟩).vmap (leaf 9))
noncomputable abbrev finA_l0 : Lf Unit := (Lf.mk (VX.ret) [.s (.one (.int .u64 (.sym w))), .s (.one (VV.an 0 (SN.sym nl))), SV.t [], SV.t [], .s (.one (.bool (.lit true))), .s (.one (.bool (.lit true))), .s (.one (VV.sl 1 0 1 1)), .s (.one (.int .i64 (.sym n))), .s (.one (.int .i64 (.sym i)))] 57 [(0, some (VObj.rotab [CK.int IntKind.i64] ls)), (1, some (.cells [.int .u64 (.sym x)] 29))] 2 [])
theorem finA_c0 : (finA_t w n i x nl ls js).conds [] = [] := by kernel_rfl
theorem finA_p0 : (finA_t w n i x nl ls js).path [] = .ok (finA_l0 w n i x nl ls) := by kernel_rfl
theorem finA (h : 0 ≤ nl) : (finA_t w n i x nl ls js).run = Tr.run (.ok (finA_l0 w n i x nl ls)) := by
  exact Tr.run_at (finA_c0 w n i x nl ls js) rfl (finA_p0 w n i x nl ls js)
end
section
variable (w : Int) (n : Int) (i : Int) (nl : Nat) (L : Nat) (ls : List (List Int)) (xs : List (List Int)) (js : Nat → SV)
noncomputable abbrev finB_t : Tr (Lf Unit) := ((ev (codeAt body [true, true, true, true, true]) ⟨pre w nl (aB L) n i ++ junk js 48 9, hB ls xs, 2, []⟩).vmap (leaf 9))
noncomputable abbrev finB_l0 : Lf Unit := (Lf.mk (VX.ret) [.s (.one (.int .u64 (.sym w))), .s (.one (VV.an 0 (SN.sym nl))), SV.t [], SV.t [], .s (.one (.bool (.lit true))), .s (.one (.bool (.lit true))), .s (.one (VV.ts 1 (SN.lit 0) (SN.sym L) none)), .s (.one (.int .i64 (.sym n))), .s (.one (.int .i64 (.sym i)))] 57 [(0, some (VObj.rotab [CK.int IntKind.i64] ls)), (1, some (VObj.tab [CK.int IntKind.u64] xs 29))] 2 [])
theorem finB_c0 : (finB_t w n i nl L ls xs js).conds [] = [] := by kernel_rfl
theorem finB_p0 : (finB_t w n i nl L ls xs js).path [] = .ok (finB_l0 w n i nl L ls xs) := by kernel_rfl
theorem finB (h : 0 ≤ nl) : (finB_t w n i nl L ls xs js).run = Tr.run (.ok (finB_l0 w n i nl L ls xs)) := by
  exact Tr.run_at (finB_c0 w n i nl L ls xs js) rfl (finB_p0 w n i nl L ls xs js)
end
end Go.Proofs.Ytkgfidnpioakfaa.StampVersions
