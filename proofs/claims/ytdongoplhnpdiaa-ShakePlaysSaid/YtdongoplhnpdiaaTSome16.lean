/-
  some of flitlaw16 (a thread's roots): what its pieces come to.
-/
import Derived.Test.YtdongoplhnpdiaaEvL16
import Derived.Test.YtdongoplhnpdiaaEngZd
namespace Go.Proofs.Ytdongoplhnpdiaa.Some16
open Go Go.RowKit Go.Proofs.Ytdongoplhnpdiaa.Eng
set_option linter.unusedVariables false
set_option linter.unusedSimpArgs false
set_option linter.unusedSectionVars false
set_option maxRecDepth 20000
noncomputable abbrev body : Code := Try.f10.body.get!
noncomputable abbrev ev (c : Code) : St MObj → Tr (VX × St MObj) := evCode Try.prog (evF Try.prog (lookH MObj L16.tabT) 100 19) 100 c
noncomputable abbrev evl (c : List Code) : St MObj → Tr (VX × St MObj) := evList (P := Try.prog) (evF Try.prog (lookH MObj L16.tabT) 100 19) 100 c
noncomputable abbrev nt : Nat := Try.f10.ntmps
noncomputable abbrev at' (p : List Bool) : Code := codeAt body ([true, true, false, true, false, false] ++ p)
theorem wrap64 (x : Int) : IntKind.i64.wrap x = (x + 9223372036854775808) % 18446744073709551616 - 9223372036854775808 := by
  rw [wrap_i64']
  split <;> omega
abbrev pre (n : Nat) (x4 : SV) : List SV := [.v (.an 0 (.sym n)), .t [], .v (.ptr 1 0), .v (.ptr 2 0), x4]
abbrev z9 : List VV := [.int .i64 (.lit 0), .int .i64 (.lit 0), .int .i64 (.lit 0), .int .i64 (.lit 0), .int .i64 (.lit 0), .int .i64 (.lit 0), .int .i64 (.lit 0), .int .i64 (.lit 0), .int .i64 (.lit 0)]
abbrev rc (N L0 L1 L2 L3 L4 L5 L6 L7 : Int) : List VV := [ii N, ii L0, ii L1, ii L2, ii L3, ii L4, ii L5, ii L6, ii L7]
abbrev hp0 (ls : List (List Int)) (l1 l2 : List VV) : HP MObj := [(0, some (.rotab [.int .i64] ls)), (1, some (.cells l1 39)), (2, some (.cells l2 39))]
--TACS "assumption", "(simp only [W, wrap64, okc_iff, inb_iff, decide_eq_true_eq, Bool.and_eq_true, ne_eq, decide_eq_false_iff_not, Nat.ble_eq, List.length_set]; omega)", "(simp only [W, wrap64, okc_iff, inb_iff, decide_eq_true_eq, decide_eq_false_iff_not, beq_iff_eq, beq_eq_false_iff_ne, Bool.and_eq_true] at *; omega)", "decide", "simp [*]"

section
variable (n : Nat) (ls : List (List Int))
noncomputable abbrev s_t : Tr (Lf MObj) := ((evl (Eng.spine 2 body).1 ⟨[.v (.an 0 (.sym n))] ++ List.replicate (nt - 1) .undef, [(0, some (.rotab [.int .i64] ls))], 1, []⟩).vmap (leaf 5))
noncomputable abbrev s_l0 : Lf MObj := (Lf.mk (VX.normal) [.s (.one (VV.an 0 (SN.sym n))), SV.t [], .s (.one (.ptr 1 0)), .s (.one (.ptr 2 0)), SV.t []] 35 [(0, some (VObj.rotab [CK.int IntKind.i64] ls)), (1, some (.cells [.int .i64 (.lit 0), .int .i64 (.lit 0), .int .i64 (.lit 0), .int .i64 (.lit 0), .int .i64 (.lit 0), .int .i64 (.lit 0), .int .i64 (.lit 0), .int .i64 (.lit 0), .int .i64 (.lit 0)] 39)), (2, some (.cells [.int .i64 (.lit 0), .int .i64 (.lit 0), .int .i64 (.lit 0), .int .i64 (.lit 0), .int .i64 (.lit 0), .int .i64 (.lit 0), .int .i64 (.lit 0), .int .i64 (.lit 0), .int .i64 (.lit 0)] 39))] 3 [1, 2])
theorem s_c0 : (s_t n ls).conds [] = [] := by kernel_rfl
theorem s_p0 : (s_t n ls).path [] = .ok (s_l0 n ls) := by kernel_rfl
theorem s (hn : n = ls.length) : (s_t n ls).run = Tr.run (.ok (s_l0 n ls)) := by
  exact Tr.run_at (s_c0 n ls) rfl (s_p0 n ls)
end
section
variable (n : Nat) (N : Int) (L0 : Int) (L1 : Int) (L2 : Int) (L3 : Int) (L4 : Int) (L5 : Int) (L6 : Int) (L7 : Int) (ls : List (List Int)) (x4 : SV) (js : Nat → SV)
noncomputable abbrev init_t : Tr (Lf MObj) := ((ev (codeAt body [true, true, false, false]) ⟨pre n x4 ++ junk js 30 5, hp0 ls z9 (rc N L0 L1 L2 L3 L4 L5 L6 L7), 3, []⟩).vmap (leaf 5))
noncomputable abbrev init_l0 : Lf MObj := (Lf.mk (VX.normal) [.s (.one (VV.an 0 (SN.sym n))), SV.t [], .s (.one (.ptr 1 0)), .s (.one (.ptr 2 0)), .s (.one (.int .i64 (.lit 0)))] 35 [(0, some (VObj.rotab [CK.int IntKind.i64] ls)), (1, some (.cells [.int .i64 (.lit 0), .int .i64 (.lit 0), .int .i64 (.lit 0), .int .i64 (.lit 0), .int .i64 (.lit 0), .int .i64 (.lit 0), .int .i64 (.lit 0), .int .i64 (.lit 0), .int .i64 (.lit 0)] 39)), (2, some (.cells [.int .i64 (.sym N), .int .i64 (.sym L0), .int .i64 (.sym L1), .int .i64 (.sym L2), .int .i64 (.sym L3), .int .i64 (.sym L4), .int .i64 (.sym L5), .int .i64 (.sym L6), .int .i64 (.sym L7)] 39))] 3 [])
theorem init_c0 : (init_t n N L0 L1 L2 L3 L4 L5 L6 L7 ls x4 js).conds [] = [] := by kernel_rfl
theorem init_p0 : (init_t n N L0 L1 L2 L3 L4 L5 L6 L7 ls x4 js).path [] = .ok (init_l0 n N L0 L1 L2 L3 L4 L5 L6 L7 ls) := by kernel_rfl
theorem init (hn : n = ls.length) : (init_t n N L0 L1 L2 L3 L4 L5 L6 L7 ls x4 js).run = Tr.run (.ok (init_l0 n N L0 L1 L2 L3 L4 L5 L6 L7 ls)) := by
  exact Tr.run_at (init_c0 n N L0 L1 L2 L3 L4 L5 L6 L7 ls x4 js) rfl (init_p0 n N L0 L1 L2 L3 L4 L5 L6 L7 ls x4 js)
end
section
variable (n : Nat) (i : Int) (N : Int) (L0 : Int) (L1 : Int) (L2 : Int) (L3 : Int) (L4 : Int) (L5 : Int) (L6 : Int) (L7 : Int) (ls : List (List Int)) (js : Nat → SV)
noncomputable abbrev g_t : Tr (Lf MObj) := ((ev (at' [false]) ⟨pre n (.v (ii i)) ++ junk js 30 5, hp0 ls z9 (rc N L0 L1 L2 L3 L4 L5 L6 L7), 3, []⟩).vmap (leaf 5))
noncomputable abbrev g_l0 : Lf MObj := (Lf.mk (VX.normal) [.s (.one (VV.an 0 (SN.sym n))), SV.t [], .s (.one (.ptr 1 0)), .s (.one (.ptr 2 0)), .s (.one (.int .i64 (.sym i)))] 35 [(0, some (VObj.rotab [CK.int IntKind.i64] ls)), (1, some (.cells [.int .i64 (.lit 0), .int .i64 (.lit 0), .int .i64 (.lit 0), .int .i64 (.lit 0), .int .i64 (.lit 0), .int .i64 (.lit 0), .int .i64 (.lit 0), .int .i64 (.lit 0), .int .i64 (.lit 0)] 39)), (2, some (.cells [.int .i64 (.sym N), .int .i64 (.sym L0), .int .i64 (.sym L1), .int .i64 (.sym L2), .int .i64 (.sym L3), .int .i64 (.sym L4), .int .i64 (.sym L5), .int .i64 (.sym L6), .int .i64 (.sym L7)] 39))] 3 [])
theorem g_c0 : (g_t n i N L0 L1 L2 L3 L4 L5 L6 L7 ls js).conds [true, true] = [decide (i < (↑n : Int)), decide (i < 8)] := by kernel_rfl
theorem g_p0 : (g_t n i N L0 L1 L2 L3 L4 L5 L6 L7 ls js).path [true, true] = .ok (g_l0 n i N L0 L1 L2 L3 L4 L5 L6 L7 ls) := by kernel_rfl
noncomputable abbrev g_l1 : Lf MObj := (Lf.mk (VX.exit 0) [.s (.one (VV.an 0 (SN.sym n))), SV.t [], .s (.one (.ptr 1 0)), .s (.one (.ptr 2 0)), .s (.one (.int .i64 (.sym i)))] 35 [(0, some (VObj.rotab [CK.int IntKind.i64] ls)), (1, some (.cells [.int .i64 (.lit 0), .int .i64 (.lit 0), .int .i64 (.lit 0), .int .i64 (.lit 0), .int .i64 (.lit 0), .int .i64 (.lit 0), .int .i64 (.lit 0), .int .i64 (.lit 0), .int .i64 (.lit 0)] 39)), (2, some (.cells [.int .i64 (.sym N), .int .i64 (.sym L0), .int .i64 (.sym L1), .int .i64 (.sym L2), .int .i64 (.sym L3), .int .i64 (.sym L4), .int .i64 (.sym L5), .int .i64 (.sym L6), .int .i64 (.sym L7)] 39))] 3 [])
theorem g_c1 : (g_t n i N L0 L1 L2 L3 L4 L5 L6 L7 ls js).conds [true, false] = [decide (i < (↑n : Int)), decide (i < 8)] := by kernel_rfl
theorem g_p1 : (g_t n i N L0 L1 L2 L3 L4 L5 L6 L7 ls js).path [true, false] = .ok (g_l1 n i N L0 L1 L2 L3 L4 L5 L6 L7 ls) := by kernel_rfl
noncomputable abbrev g_l2 : Lf MObj := (Lf.mk (VX.exit 0) [.s (.one (VV.an 0 (SN.sym n))), SV.t [], .s (.one (.ptr 1 0)), .s (.one (.ptr 2 0)), .s (.one (.int .i64 (.sym i)))] 35 [(0, some (VObj.rotab [CK.int IntKind.i64] ls)), (1, some (.cells [.int .i64 (.lit 0), .int .i64 (.lit 0), .int .i64 (.lit 0), .int .i64 (.lit 0), .int .i64 (.lit 0), .int .i64 (.lit 0), .int .i64 (.lit 0), .int .i64 (.lit 0), .int .i64 (.lit 0)] 39)), (2, some (.cells [.int .i64 (.sym N), .int .i64 (.sym L0), .int .i64 (.sym L1), .int .i64 (.sym L2), .int .i64 (.sym L3), .int .i64 (.sym L4), .int .i64 (.sym L5), .int .i64 (.sym L6), .int .i64 (.sym L7)] 39))] 3 [])
theorem g_c2 : (g_t n i N L0 L1 L2 L3 L4 L5 L6 L7 ls js).conds [false] = [decide (i < (↑n : Int))] := by kernel_rfl
theorem g_p2 : (g_t n i N L0 L1 L2 L3 L4 L5 L6 L7 ls js).path [false] = .ok (g_l2 n i N L0 L1 L2 L3 L4 L5 L6 L7 ls) := by kernel_rfl
theorem g (hn : n = ls.length) : (g_t n i N L0 L1 L2 L3 L4 L5 L6 L7 ls js).run = Tr.run (.ite (decide (i < (↑n : Int))) (.ite (decide (i < 8)) (.ok (g_l0 n i N L0 L1 L2 L3 L4 L5 L6 L7 ls)) (.ok (g_l1 n i N L0 L1 L2 L3 L4 L5 L6 L7 ls))) (.ok (g_l2 n i N L0 L1 L2 L3 L4 L5 L6 L7 ls))) := by
  cases e0 : (decide (i < (↑n : Int))) with
  | true =>
    cases e1 : (decide (i < 8)) with
    | true =>
      exact Tr.run_at (g_c0 n i N L0 L1 L2 L3 L4 L5 L6 L7 ls js) (cons_eq (e0) (cons_eq (e1) rfl)) (g_p0 n i N L0 L1 L2 L3 L4 L5 L6 L7 ls js)
    | false =>
      exact Tr.run_at (g_c1 n i N L0 L1 L2 L3 L4 L5 L6 L7 ls js) (cons_eq (e0) (cons_eq (e1) rfl)) (g_p1 n i N L0 L1 L2 L3 L4 L5 L6 L7 ls js)
  | false =>
    exact Tr.run_at (g_c2 n i N L0 L1 L2 L3 L4 L5 L6 L7 ls js) (cons_eq (e0) rfl) (g_p2 n i N L0 L1 L2 L3 L4 L5 L6 L7 ls js)
end
section
variable (n : Nat) (i : Int) (N : Int) (L0 : Int) (L1 : Int) (L2 : Int) (L3 : Int) (L4 : Int) (L5 : Int) (L6 : Int) (L7 : Int) (ls : List (List Int)) (js : Nat → SV)
noncomputable abbrev b_t : Tr (Lf MObj) := ((ev (at' [true, false, false]) ⟨pre n (.v (ii i)) ++ junk js 30 5, hp0 ls z9 (rc N L0 L1 L2 L3 L4 L5 L6 L7), 3, []⟩).vmap (leaf 5))
noncomputable abbrev b_l0 : Lf MObj := (Lf.mk (VX.normal) [.s (.one (VV.an 0 (SN.sym n))), SV.t [], .s (.one (.ptr 1 0)), .s (.one (.ptr 2 0)), .s (.one (.int .i64 (.sym i)))] 35 [(0, some (VObj.rotab [CK.int IntKind.i64] ls)), (1, some (.cells [.int .i64 (.lit 0), .int .i64 (.lit 0), .int .i64 (.lit 0), .int .i64 (.lit 0), .int .i64 (.lit 0), .int .i64 (.lit 0), .int .i64 (.lit 0), .int .i64 (.lit 0), .int .i64 (.lit 0)] 39)), (2, some (.cells [.int .i64 (.sym (W (N + 1))), .int .i64 (.sym L0), .int .i64 (.sym L1), .int .i64 (.sym L2), .int .i64 (.sym L3), .int .i64 (.sym L4), .int .i64 (.sym L5), .int .i64 (.sym L6), .int .i64 (.sym (W (96 + W (4 * kM (tabAt ls (Int.toNat i) 0) 17))))] 39))] 3 [2])
theorem b_c0 : (b_t n i N L0 L1 L2 L3 L4 L5 L6 L7 ls js).conds [true, true, false, true, true] = [decide (0 ≤ i) && decide (i < (↑n : Int)), decide (Int.toNat i < List.length ls), false, decide (kM (tabAt ls (Int.toNat i) 0) 17 < 16), i == 7] := by kernel_rfl
theorem b_p0 : (b_t n i N L0 L1 L2 L3 L4 L5 L6 L7 ls js).path [true, true, false, true, true] = .ok (b_l0 n i N L0 L1 L2 L3 L4 L5 L6 ls) := by kernel_rfl
noncomputable abbrev b_l1 : Lf MObj := (Lf.mk (VX.normal) [.s (.one (VV.an 0 (SN.sym n))), SV.t [], .s (.one (.ptr 1 0)), .s (.one (.ptr 2 0)), .s (.one (.int .i64 (.sym i)))] 35 [(0, some (VObj.rotab [CK.int IntKind.i64] ls)), (1, some (.cells [.int .i64 (.lit 0), .int .i64 (.lit 0), .int .i64 (.lit 0), .int .i64 (.lit 0), .int .i64 (.lit 0), .int .i64 (.lit 0), .int .i64 (.lit 0), .int .i64 (.lit 0), .int .i64 (.lit 0)] 39)), (2, some (.cells [.int .i64 (.sym (W (N + 1))), .int .i64 (.sym L0), .int .i64 (.sym L1), .int .i64 (.sym L2), .int .i64 (.sym L3), .int .i64 (.sym L4), .int .i64 (.sym L5), .int .i64 (.sym (W (96 + W (4 * kM (tabAt ls (Int.toNat i) 0) 17)))), .int .i64 (.sym L7)] 39))] 3 [2])
theorem b_c1 : (b_t n i N L0 L1 L2 L3 L4 L5 L6 L7 ls js).conds [true, true, false, true, false, true] = [decide (0 ≤ i) && decide (i < (↑n : Int)), decide (Int.toNat i < List.length ls), false, decide (kM (tabAt ls (Int.toNat i) 0) 17 < 16), i == 7, i == 6] := by kernel_rfl
theorem b_p1 : (b_t n i N L0 L1 L2 L3 L4 L5 L6 L7 ls js).path [true, true, false, true, false, true] = .ok (b_l1 n i N L0 L1 L2 L3 L4 L5 L7 ls) := by kernel_rfl
noncomputable abbrev b_l2 : Lf MObj := (Lf.mk (VX.normal) [.s (.one (VV.an 0 (SN.sym n))), SV.t [], .s (.one (.ptr 1 0)), .s (.one (.ptr 2 0)), .s (.one (.int .i64 (.sym i)))] 35 [(0, some (VObj.rotab [CK.int IntKind.i64] ls)), (1, some (.cells [.int .i64 (.lit 0), .int .i64 (.lit 0), .int .i64 (.lit 0), .int .i64 (.lit 0), .int .i64 (.lit 0), .int .i64 (.lit 0), .int .i64 (.lit 0), .int .i64 (.lit 0), .int .i64 (.lit 0)] 39)), (2, some (.cells [.int .i64 (.sym (W (N + 1))), .int .i64 (.sym L0), .int .i64 (.sym L1), .int .i64 (.sym L2), .int .i64 (.sym L3), .int .i64 (.sym L4), .int .i64 (.sym (W (96 + W (4 * kM (tabAt ls (Int.toNat i) 0) 17)))), .int .i64 (.sym L6), .int .i64 (.sym L7)] 39))] 3 [2])
theorem b_c2 : (b_t n i N L0 L1 L2 L3 L4 L5 L6 L7 ls js).conds [true, true, false, true, false, false, true] = [decide (0 ≤ i) && decide (i < (↑n : Int)), decide (Int.toNat i < List.length ls), false, decide (kM (tabAt ls (Int.toNat i) 0) 17 < 16), i == 7, i == 6, i == 5] := by kernel_rfl
theorem b_p2 : (b_t n i N L0 L1 L2 L3 L4 L5 L6 L7 ls js).path [true, true, false, true, false, false, true] = .ok (b_l2 n i N L0 L1 L2 L3 L4 L6 L7 ls) := by kernel_rfl
noncomputable abbrev b_l3 : Lf MObj := (Lf.mk (VX.normal) [.s (.one (VV.an 0 (SN.sym n))), SV.t [], .s (.one (.ptr 1 0)), .s (.one (.ptr 2 0)), .s (.one (.int .i64 (.sym i)))] 35 [(0, some (VObj.rotab [CK.int IntKind.i64] ls)), (1, some (.cells [.int .i64 (.lit 0), .int .i64 (.lit 0), .int .i64 (.lit 0), .int .i64 (.lit 0), .int .i64 (.lit 0), .int .i64 (.lit 0), .int .i64 (.lit 0), .int .i64 (.lit 0), .int .i64 (.lit 0)] 39)), (2, some (.cells [.int .i64 (.sym (W (N + 1))), .int .i64 (.sym L0), .int .i64 (.sym L1), .int .i64 (.sym L2), .int .i64 (.sym L3), .int .i64 (.sym (W (96 + W (4 * kM (tabAt ls (Int.toNat i) 0) 17)))), .int .i64 (.sym L5), .int .i64 (.sym L6), .int .i64 (.sym L7)] 39))] 3 [2])
theorem b_c3 : (b_t n i N L0 L1 L2 L3 L4 L5 L6 L7 ls js).conds [true, true, false, true, false, false, false, true] = [decide (0 ≤ i) && decide (i < (↑n : Int)), decide (Int.toNat i < List.length ls), false, decide (kM (tabAt ls (Int.toNat i) 0) 17 < 16), i == 7, i == 6, i == 5, i == 4] := by kernel_rfl
theorem b_p3 : (b_t n i N L0 L1 L2 L3 L4 L5 L6 L7 ls js).path [true, true, false, true, false, false, false, true] = .ok (b_l3 n i N L0 L1 L2 L3 L5 L6 L7 ls) := by kernel_rfl
noncomputable abbrev b_l4 : Lf MObj := (Lf.mk (VX.normal) [.s (.one (VV.an 0 (SN.sym n))), SV.t [], .s (.one (.ptr 1 0)), .s (.one (.ptr 2 0)), .s (.one (.int .i64 (.sym i)))] 35 [(0, some (VObj.rotab [CK.int IntKind.i64] ls)), (1, some (.cells [.int .i64 (.lit 0), .int .i64 (.lit 0), .int .i64 (.lit 0), .int .i64 (.lit 0), .int .i64 (.lit 0), .int .i64 (.lit 0), .int .i64 (.lit 0), .int .i64 (.lit 0), .int .i64 (.lit 0)] 39)), (2, some (.cells [.int .i64 (.sym (W (N + 1))), .int .i64 (.sym L0), .int .i64 (.sym L1), .int .i64 (.sym L2), .int .i64 (.sym (W (96 + W (4 * kM (tabAt ls (Int.toNat i) 0) 17)))), .int .i64 (.sym L4), .int .i64 (.sym L5), .int .i64 (.sym L6), .int .i64 (.sym L7)] 39))] 3 [2])
theorem b_c4 : (b_t n i N L0 L1 L2 L3 L4 L5 L6 L7 ls js).conds [true, true, false, true, false, false, false, false, true] = [decide (0 ≤ i) && decide (i < (↑n : Int)), decide (Int.toNat i < List.length ls), false, decide (kM (tabAt ls (Int.toNat i) 0) 17 < 16), i == 7, i == 6, i == 5, i == 4, i == 3] := by kernel_rfl
theorem b_p4 : (b_t n i N L0 L1 L2 L3 L4 L5 L6 L7 ls js).path [true, true, false, true, false, false, false, false, true] = .ok (b_l4 n i N L0 L1 L2 L4 L5 L6 L7 ls) := by kernel_rfl
noncomputable abbrev b_l5 : Lf MObj := (Lf.mk (VX.normal) [.s (.one (VV.an 0 (SN.sym n))), SV.t [], .s (.one (.ptr 1 0)), .s (.one (.ptr 2 0)), .s (.one (.int .i64 (.sym i)))] 35 [(0, some (VObj.rotab [CK.int IntKind.i64] ls)), (1, some (.cells [.int .i64 (.lit 0), .int .i64 (.lit 0), .int .i64 (.lit 0), .int .i64 (.lit 0), .int .i64 (.lit 0), .int .i64 (.lit 0), .int .i64 (.lit 0), .int .i64 (.lit 0), .int .i64 (.lit 0)] 39)), (2, some (.cells [.int .i64 (.sym (W (N + 1))), .int .i64 (.sym L0), .int .i64 (.sym L1), .int .i64 (.sym (W (96 + W (4 * kM (tabAt ls (Int.toNat i) 0) 17)))), .int .i64 (.sym L3), .int .i64 (.sym L4), .int .i64 (.sym L5), .int .i64 (.sym L6), .int .i64 (.sym L7)] 39))] 3 [2])
theorem b_c5 : (b_t n i N L0 L1 L2 L3 L4 L5 L6 L7 ls js).conds [true, true, false, true, false, false, false, false, false, true] = [decide (0 ≤ i) && decide (i < (↑n : Int)), decide (Int.toNat i < List.length ls), false, decide (kM (tabAt ls (Int.toNat i) 0) 17 < 16), i == 7, i == 6, i == 5, i == 4, i == 3, i == 2] := by kernel_rfl
theorem b_p5 : (b_t n i N L0 L1 L2 L3 L4 L5 L6 L7 ls js).path [true, true, false, true, false, false, false, false, false, true] = .ok (b_l5 n i N L0 L1 L3 L4 L5 L6 L7 ls) := by kernel_rfl
noncomputable abbrev b_l6 : Lf MObj := (Lf.mk (VX.normal) [.s (.one (VV.an 0 (SN.sym n))), SV.t [], .s (.one (.ptr 1 0)), .s (.one (.ptr 2 0)), .s (.one (.int .i64 (.sym i)))] 35 [(0, some (VObj.rotab [CK.int IntKind.i64] ls)), (1, some (.cells [.int .i64 (.lit 0), .int .i64 (.lit 0), .int .i64 (.lit 0), .int .i64 (.lit 0), .int .i64 (.lit 0), .int .i64 (.lit 0), .int .i64 (.lit 0), .int .i64 (.lit 0), .int .i64 (.lit 0)] 39)), (2, some (.cells [.int .i64 (.sym (W (N + 1))), .int .i64 (.sym L0), .int .i64 (.sym (W (96 + W (4 * kM (tabAt ls (Int.toNat i) 0) 17)))), .int .i64 (.sym L2), .int .i64 (.sym L3), .int .i64 (.sym L4), .int .i64 (.sym L5), .int .i64 (.sym L6), .int .i64 (.sym L7)] 39))] 3 [2])
theorem b_c6 : (b_t n i N L0 L1 L2 L3 L4 L5 L6 L7 ls js).conds [true, true, false, true, false, false, false, false, false, false, true] = [decide (0 ≤ i) && decide (i < (↑n : Int)), decide (Int.toNat i < List.length ls), false, decide (kM (tabAt ls (Int.toNat i) 0) 17 < 16), i == 7, i == 6, i == 5, i == 4, i == 3, i == 2, i == 1] := by kernel_rfl
theorem b_p6 : (b_t n i N L0 L1 L2 L3 L4 L5 L6 L7 ls js).path [true, true, false, true, false, false, false, false, false, false, true] = .ok (b_l6 n i N L0 L2 L3 L4 L5 L6 L7 ls) := by kernel_rfl
noncomputable abbrev b_l7 : Lf MObj := (Lf.mk (VX.normal) [.s (.one (VV.an 0 (SN.sym n))), SV.t [], .s (.one (.ptr 1 0)), .s (.one (.ptr 2 0)), .s (.one (.int .i64 (.sym i)))] 35 [(0, some (VObj.rotab [CK.int IntKind.i64] ls)), (1, some (.cells [.int .i64 (.lit 0), .int .i64 (.lit 0), .int .i64 (.lit 0), .int .i64 (.lit 0), .int .i64 (.lit 0), .int .i64 (.lit 0), .int .i64 (.lit 0), .int .i64 (.lit 0), .int .i64 (.lit 0)] 39)), (2, some (.cells [.int .i64 (.sym (W (N + 1))), .int .i64 (.sym (W (96 + W (4 * kM (tabAt ls (Int.toNat i) 0) 17)))), .int .i64 (.sym L1), .int .i64 (.sym L2), .int .i64 (.sym L3), .int .i64 (.sym L4), .int .i64 (.sym L5), .int .i64 (.sym L6), .int .i64 (.sym L7)] 39))] 3 [2])
theorem b_c7 : (b_t n i N L0 L1 L2 L3 L4 L5 L6 L7 ls js).conds [true, true, false, true, false, false, false, false, false, false, false, true] = [decide (0 ≤ i) && decide (i < (↑n : Int)), decide (Int.toNat i < List.length ls), false, decide (kM (tabAt ls (Int.toNat i) 0) 17 < 16), i == 7, i == 6, i == 5, i == 4, i == 3, i == 2, i == 1, i == 0] := by kernel_rfl
theorem b_p7 : (b_t n i N L0 L1 L2 L3 L4 L5 L6 L7 ls js).path [true, true, false, true, false, false, false, false, false, false, false, true] = .ok (b_l7 n i N L1 L2 L3 L4 L5 L6 L7 ls) := by kernel_rfl
noncomputable abbrev b_l8 : Lf MObj := (Lf.mk (VX.normal) [.s (.one (VV.an 0 (SN.sym n))), SV.t [], .s (.one (.ptr 1 0)), .s (.one (.ptr 2 0)), .s (.one (.int .i64 (.sym i)))] 35 [(0, some (VObj.rotab [CK.int IntKind.i64] ls)), (1, some (.cells [.int .i64 (.lit 0), .int .i64 (.lit 0), .int .i64 (.lit 0), .int .i64 (.lit 0), .int .i64 (.lit 0), .int .i64 (.lit 0), .int .i64 (.lit 0), .int .i64 (.lit 0), .int .i64 (.lit 0)] 39)), (2, some (.cells [.int .i64 (.sym (W (N + 1))), .int .i64 (.sym L0), .int .i64 (.sym L1), .int .i64 (.sym L2), .int .i64 (.sym L3), .int .i64 (.sym L4), .int .i64 (.sym L5), .int .i64 (.sym L6), .int .i64 (.sym L7)] 39))] 3 [2])
theorem b_c8 : (b_t n i N L0 L1 L2 L3 L4 L5 L6 L7 ls js).conds [true, true, false, false] = [decide (0 ≤ i) && decide (i < (↑n : Int)), decide (Int.toNat i < List.length ls), false, decide (kM (tabAt ls (Int.toNat i) 0) 17 < 16)] := by kernel_rfl
theorem b_p8 : (b_t n i N L0 L1 L2 L3 L4 L5 L6 L7 ls js).path [true, true, false, false] = .ok (b_l8 n i N L0 L1 L2 L3 L4 L5 L6 L7 ls) := by kernel_rfl
theorem b (hn : n = ls.length) (hi : 0 ≤ i ∧ i < 8) (hin : i < n) (hk : 0 ≤ kM (tabAt ls (Int.toNat i) 0) 17 ∧ kM (tabAt ls (Int.toNat i) 0) 17 < 17) : (b_t n i N L0 L1 L2 L3 L4 L5 L6 L7 ls js).run = Tr.run (.ite (decide (kM (tabAt ls (Int.toNat i) 0) 17 < 16)) (.ite (i == 7) (.ok (b_l0 n i N L0 L1 L2 L3 L4 L5 L6 ls)) (.ite (i == 6) (.ok (b_l1 n i N L0 L1 L2 L3 L4 L5 L7 ls)) (.ite (i == 5) (.ok (b_l2 n i N L0 L1 L2 L3 L4 L6 L7 ls)) (.ite (i == 4) (.ok (b_l3 n i N L0 L1 L2 L3 L5 L6 L7 ls)) (.ite (i == 3) (.ok (b_l4 n i N L0 L1 L2 L4 L5 L6 L7 ls)) (.ite (i == 2) (.ok (b_l5 n i N L0 L1 L3 L4 L5 L6 L7 ls)) (.ite (i == 1) (.ok (b_l6 n i N L0 L2 L3 L4 L5 L6 L7 ls)) (.ok (b_l7 n i N L1 L2 L3 L4 L5 L6 L7 ls))))))))) (.ok (b_l8 n i N L0 L1 L2 L3 L4 L5 L6 L7 ls))) := by
  cases e0 : (decide (kM (tabAt ls (Int.toNat i) 0) 17 < 16)) with
  | true =>
    cases e1 : (i == 7) with
    | true =>
      exact Tr.run_at (b_c0 n i N L0 L1 L2 L3 L4 L5 L6 L7 ls js) (cons_eq (by (simp only [W, wrap64, okc_iff, inb_iff, decide_eq_true_eq, Bool.and_eq_true, ne_eq, decide_eq_false_iff_not, Nat.ble_eq, List.length_set]; omega)) (cons_eq (by (simp only [W, wrap64, okc_iff, inb_iff, decide_eq_true_eq, Bool.and_eq_true, ne_eq, decide_eq_false_iff_not, Nat.ble_eq, List.length_set]; omega)) (cons_eq (rfl) (cons_eq (e0) (cons_eq (e1) rfl))))) (b_p0 n i N L0 L1 L2 L3 L4 L5 L6 L7 ls js)
    | false =>
      cases e2 : (i == 6) with
      | true =>
        exact Tr.run_at (b_c1 n i N L0 L1 L2 L3 L4 L5 L6 L7 ls js) (cons_eq (by (simp only [W, wrap64, okc_iff, inb_iff, decide_eq_true_eq, Bool.and_eq_true, ne_eq, decide_eq_false_iff_not, Nat.ble_eq, List.length_set]; omega)) (cons_eq (by (simp only [W, wrap64, okc_iff, inb_iff, decide_eq_true_eq, Bool.and_eq_true, ne_eq, decide_eq_false_iff_not, Nat.ble_eq, List.length_set]; omega)) (cons_eq (rfl) (cons_eq (e0) (cons_eq (e1) (cons_eq (e2) rfl)))))) (b_p1 n i N L0 L1 L2 L3 L4 L5 L6 L7 ls js)
      | false =>
        cases e3 : (i == 5) with
        | true =>
          exact Tr.run_at (b_c2 n i N L0 L1 L2 L3 L4 L5 L6 L7 ls js) (cons_eq (by (simp only [W, wrap64, okc_iff, inb_iff, decide_eq_true_eq, Bool.and_eq_true, ne_eq, decide_eq_false_iff_not, Nat.ble_eq, List.length_set]; omega)) (cons_eq (by (simp only [W, wrap64, okc_iff, inb_iff, decide_eq_true_eq, Bool.and_eq_true, ne_eq, decide_eq_false_iff_not, Nat.ble_eq, List.length_set]; omega)) (cons_eq (rfl) (cons_eq (e0) (cons_eq (e1) (cons_eq (e2) (cons_eq (e3) rfl))))))) (b_p2 n i N L0 L1 L2 L3 L4 L5 L6 L7 ls js)
        | false =>
          cases e4 : (i == 4) with
          | true =>
            exact Tr.run_at (b_c3 n i N L0 L1 L2 L3 L4 L5 L6 L7 ls js) (cons_eq (by (simp only [W, wrap64, okc_iff, inb_iff, decide_eq_true_eq, Bool.and_eq_true, ne_eq, decide_eq_false_iff_not, Nat.ble_eq, List.length_set]; omega)) (cons_eq (by (simp only [W, wrap64, okc_iff, inb_iff, decide_eq_true_eq, Bool.and_eq_true, ne_eq, decide_eq_false_iff_not, Nat.ble_eq, List.length_set]; omega)) (cons_eq (rfl) (cons_eq (e0) (cons_eq (e1) (cons_eq (e2) (cons_eq (e3) (cons_eq (e4) rfl)))))))) (b_p3 n i N L0 L1 L2 L3 L4 L5 L6 L7 ls js)
          | false =>
            cases e5 : (i == 3) with
            | true =>
              exact Tr.run_at (b_c4 n i N L0 L1 L2 L3 L4 L5 L6 L7 ls js) (cons_eq (by (simp only [W, wrap64, okc_iff, inb_iff, decide_eq_true_eq, Bool.and_eq_true, ne_eq, decide_eq_false_iff_not, Nat.ble_eq, List.length_set]; omega)) (cons_eq (by (simp only [W, wrap64, okc_iff, inb_iff, decide_eq_true_eq, Bool.and_eq_true, ne_eq, decide_eq_false_iff_not, Nat.ble_eq, List.length_set]; omega)) (cons_eq (rfl) (cons_eq (e0) (cons_eq (e1) (cons_eq (e2) (cons_eq (e3) (cons_eq (e4) (cons_eq (e5) rfl))))))))) (b_p4 n i N L0 L1 L2 L3 L4 L5 L6 L7 ls js)
            | false =>
              cases e6 : (i == 2) with
              | true =>
                exact Tr.run_at (b_c5 n i N L0 L1 L2 L3 L4 L5 L6 L7 ls js) (cons_eq (by (simp only [W, wrap64, okc_iff, inb_iff, decide_eq_true_eq, Bool.and_eq_true, ne_eq, decide_eq_false_iff_not, Nat.ble_eq, List.length_set]; omega)) (cons_eq (by (simp only [W, wrap64, okc_iff, inb_iff, decide_eq_true_eq, Bool.and_eq_true, ne_eq, decide_eq_false_iff_not, Nat.ble_eq, List.length_set]; omega)) (cons_eq (rfl) (cons_eq (e0) (cons_eq (e1) (cons_eq (e2) (cons_eq (e3) (cons_eq (e4) (cons_eq (e5) (cons_eq (e6) rfl)))))))))) (b_p5 n i N L0 L1 L2 L3 L4 L5 L6 L7 ls js)
              | false =>
                cases e7 : (i == 1) with
                | true =>
                  exact Tr.run_at (b_c6 n i N L0 L1 L2 L3 L4 L5 L6 L7 ls js) (cons_eq (by (simp only [W, wrap64, okc_iff, inb_iff, decide_eq_true_eq, Bool.and_eq_true, ne_eq, decide_eq_false_iff_not, Nat.ble_eq, List.length_set]; omega)) (cons_eq (by (simp only [W, wrap64, okc_iff, inb_iff, decide_eq_true_eq, Bool.and_eq_true, ne_eq, decide_eq_false_iff_not, Nat.ble_eq, List.length_set]; omega)) (cons_eq (rfl) (cons_eq (e0) (cons_eq (e1) (cons_eq (e2) (cons_eq (e3) (cons_eq (e4) (cons_eq (e5) (cons_eq (e6) (cons_eq (e7) rfl))))))))))) (b_p6 n i N L0 L1 L2 L3 L4 L5 L6 L7 ls js)
                | false =>
                  exact Tr.run_at (b_c7 n i N L0 L1 L2 L3 L4 L5 L6 L7 ls js) (cons_eq (by (simp only [W, wrap64, okc_iff, inb_iff, decide_eq_true_eq, Bool.and_eq_true, ne_eq, decide_eq_false_iff_not, Nat.ble_eq, List.length_set]; omega)) (cons_eq (by (simp only [W, wrap64, okc_iff, inb_iff, decide_eq_true_eq, Bool.and_eq_true, ne_eq, decide_eq_false_iff_not, Nat.ble_eq, List.length_set]; omega)) (cons_eq (rfl) (cons_eq (e0) (cons_eq (e1) (cons_eq (e2) (cons_eq (e3) (cons_eq (e4) (cons_eq (e5) (cons_eq (e6) (cons_eq (e7) (cons_eq (by (simp only [W, wrap64, okc_iff, inb_iff, decide_eq_true_eq, decide_eq_false_iff_not, beq_iff_eq, beq_eq_false_iff_ne, Bool.and_eq_true] at *; omega)) rfl)))))))))))) (b_p7 n i N L0 L1 L2 L3 L4 L5 L6 L7 ls js)
  | false =>
    exact Tr.run_at (b_c8 n i N L0 L1 L2 L3 L4 L5 L6 L7 ls js) (cons_eq (by (simp only [W, wrap64, okc_iff, inb_iff, decide_eq_true_eq, Bool.and_eq_true, ne_eq, decide_eq_false_iff_not, Nat.ble_eq, List.length_set]; omega)) (cons_eq (by (simp only [W, wrap64, okc_iff, inb_iff, decide_eq_true_eq, Bool.and_eq_true, ne_eq, decide_eq_false_iff_not, Nat.ble_eq, List.length_set]; omega)) (cons_eq (rfl) (cons_eq (e0) rfl)))) (b_p8 n i N L0 L1 L2 L3 L4 L5 L6 L7 ls js)
end
section
variable (n : Nat) (i : Int) (N : Int) (L0 : Int) (L1 : Int) (L2 : Int) (L3 : Int) (L4 : Int) (L5 : Int) (L6 : Int) (L7 : Int) (ls : List (List Int)) (js : Nat → SV)
noncomputable abbrev inc_t : Tr (Lf MObj) := ((ev (at' [true, true]) ⟨pre n (.v (ii i)) ++ junk js 30 5, hp0 ls z9 (rc N L0 L1 L2 L3 L4 L5 L6 L7), 3, []⟩).vmap (leaf 5))
noncomputable abbrev inc_l0 : Lf MObj := (Lf.mk (VX.normal) [.s (.one (VV.an 0 (SN.sym n))), SV.t [], .s (.one (.ptr 1 0)), .s (.one (.ptr 2 0)), .s (.one (.int .i64 (.sym (W (i + 1)))))] 35 [(0, some (VObj.rotab [CK.int IntKind.i64] ls)), (1, some (.cells [.int .i64 (.lit 0), .int .i64 (.lit 0), .int .i64 (.lit 0), .int .i64 (.lit 0), .int .i64 (.lit 0), .int .i64 (.lit 0), .int .i64 (.lit 0), .int .i64 (.lit 0), .int .i64 (.lit 0)] 39)), (2, some (.cells [.int .i64 (.sym N), .int .i64 (.sym L0), .int .i64 (.sym L1), .int .i64 (.sym L2), .int .i64 (.sym L3), .int .i64 (.sym L4), .int .i64 (.sym L5), .int .i64 (.sym L6), .int .i64 (.sym L7)] 39))] 3 [])
theorem inc_c0 : (inc_t n i N L0 L1 L2 L3 L4 L5 L6 L7 ls js).conds [] = [] := by kernel_rfl
theorem inc_p0 : (inc_t n i N L0 L1 L2 L3 L4 L5 L6 L7 ls js).path [] = .ok (inc_l0 n i N L0 L1 L2 L3 L4 L5 L6 L7 ls) := by kernel_rfl
theorem inc (hn : n = ls.length) : (inc_t n i N L0 L1 L2 L3 L4 L5 L6 L7 ls js).run = Tr.run (.ok (inc_l0 n i N L0 L1 L2 L3 L4 L5 L6 L7 ls)) := by
  exact Tr.run_at (inc_c0 n i N L0 L1 L2 L3 L4 L5 L6 L7 ls js) rfl (inc_p0 n i N L0 L1 L2 L3 L4 L5 L6 L7 ls js)
end
section
variable (n : Nat) (i : Int) (N : Int) (L0 : Int) (L1 : Int) (L2 : Int) (L3 : Int) (L4 : Int) (L5 : Int) (L6 : Int) (L7 : Int) (ls : List (List Int)) (js : Nat → SV)
noncomputable abbrev fin_t : Tr (Lf MObj) := ((ev (codeAt body [true, true, true]) ⟨pre n (.v (ii i)) ++ junk js 30 5, hp0 ls z9 (rc N L0 L1 L2 L3 L4 L5 L6 L7), 3, []⟩).vmap (leaf 5))
noncomputable abbrev fin_l0 : Lf MObj := (Lf.mk (VX.ret) [.s (.one (VV.an 0 (SN.sym n))), SV.t [], .s (.one (.ptr 1 0)), .s (.one (.ptr 2 0)), .s (.one (.int .i64 (.sym i)))] 35 [(0, some (VObj.rotab [CK.int IntKind.i64] ls)), (1, some (.cells [.int .i64 (.sym N), .int .i64 (.sym L0), .int .i64 (.sym L1), .int .i64 (.sym L2), .int .i64 (.sym L3), .int .i64 (.sym L4), .int .i64 (.sym L5), .int .i64 (.sym L6), .int .i64 (.sym L7)] 39)), (2, some (.cells [.int .i64 (.sym N), .int .i64 (.sym L0), .int .i64 (.sym L1), .int .i64 (.sym L2), .int .i64 (.sym L3), .int .i64 (.sym L4), .int .i64 (.sym L5), .int .i64 (.sym L6), .int .i64 (.sym L7)] 39))] 3 [1])
theorem fin_c0 : (fin_t n i N L0 L1 L2 L3 L4 L5 L6 L7 ls js).conds [] = [] := by kernel_rfl
theorem fin_p0 : (fin_t n i N L0 L1 L2 L3 L4 L5 L6 L7 ls js).path [] = .ok (fin_l0 n i N L0 L1 L2 L3 L4 L5 L6 L7 ls) := by kernel_rfl
theorem fin (hn : n = ls.length) : (fin_t n i N L0 L1 L2 L3 L4 L5 L6 L7 ls js).run = Tr.run (.ok (fin_l0 n i N L0 L1 L2 L3 L4 L5 L6 L7 ls)) := by
  exact Tr.run_at (fin_c0 n i N L0 L1 L2 L3 L4 L5 L6 L7 ls js) rfl (fin_p0 n i N L0 L1 L2 L3 L4 L5 L6 L7 ls js)
end
end Go.Proofs.Ytdongoplhnpdiaa.Some16
