/-
  MemCounts: each call of the four is one access, and all that were taken are all that were counted; what is kept from call to call: what was taken and what the memory still tells are as many as were counted, and there are as many traps as bad calls.
-/
import Derived.Test.YtnlfphlmlklofaaRows
import Derived.Test.YtnlfphlmlklofaaTMemCountsI
namespace Go.Proofs.Ytnlfphlmlklofaa.MemCounts
open Go Go.RowKit Go.Proofs.Ytnlfphlmlklofaa.Eng
set_option linter.unusedVariables false
set_option linter.unusedSimpArgs false
set_option linter.unusedSectionVars false
set_option maxRecDepth 20000
theorem codeOK (c : Code) : CodeOK MS Try.prog c (ev c) :=
  evCode_sound progOK (fun f args hp nid r h _ => evF_sound progOK (lookH_ok L4.tabC_ok) 100 19 f args hp nid r h) 100 c
theorem hb : Try.f4.body = some body := by kernel_rfl
noncomputable abbrev lbody : Code := .seq (at' [false]) (.seq (.block 1 (.seq (at' [true, false, false, false]) (.seq (at' [true, false, false, true, false]) (.seq (at' [true, false, false, true, true, false]) (.seq (at' [true, false, false, true, true, true, false]) (at' [true, false, false, true, true, true, true])))))) (at' [true, true]))
theorem restE : (Eng.spine 6 body).2 = .seq (.seq (codeAt body [true, true, true, true, true, true, false, false]) (.block 0 (.loop lbody))) (codeAt body [true, true, true, true, true, true, true]) := by kernel_rfl
theorem wkV_refl (x : VV) : wkV x x := by cases x <;> first | exact ⟨rfl, rfl⟩ | exact ⟨rfl, rfl, rfl, rfl⟩ | rfl
theorem wkVs_refl : ∀ l : List VV, wkVs l l
  | [] => trivial
  | x :: l => ⟨wkV_refl x, wkVs_refl l⟩
theorem wk1_refl : ∀ x : S1, wk1 x x
  | .one x => wkV_refl x
  | .agg l => wkVs_refl l
theorem wk1s_refl : ∀ l : List S1, wk1s l l
  | [] => trivial
  | x :: l => ⟨wk1_refl x, wk1s_refl l⟩
theorem wkS_refl : ∀ x : SV, wkS x x
  | .s x => wk1_refl x
  | .t l => wk1s_refl l
/-- The call is a trap. -/
def Bad (k o1 : Int) (N : Nat) : Prop := o1 < 0 ∨ o1 ≥ (N : Int) ∨ (k = 3 ∧ (Int.tmod o1 2 ≠ 0 ∨ o1 = (N : Int) - 1))
def BadR (k o1 : Int) (N : Nat) (a b : Int) : Prop := (Bad k o1 N ∧ b = a + 1) ∨ (¬ Bad k o1 N ∧ b = a)
theorem BadR.eq {k o1 : Int} {N : Nat} {a b c : Int} (h : BadR k o1 N a b) (g : BadR k o1 N a c) : b = c := by
  rcases h with ⟨h1, h2⟩ | ⟨h1, h2⟩ <;> rcases g with ⟨g1, g2⟩ | ⟨g1, g2⟩
  · omega
  · exact absurd h1 g1
  · exact absurd g1 h1
  · omega
theorem W_of {x : Int} (h : 0 ≤ x) (h2 : x ≤ 100000) : W x = x := wrap_i64_of (by omega) (by omega)
theorem last_row {ts : List (List Int)} {M M' : Nat} (hM : M = ts.length) (hM' : M' = M + 1) (h2 : M ≤ 1000) (r : List Int) (j : Nat) : tabAt (List.take M (List.drop 0 ts) ++ [r]) (0 + Int.toNat (W ((M' : Int) - 1))) j = r.getD j 0 := by
  rw [W_of (by omega) (by omega), show 0 + Int.toNat ((M' : Int) - 1) = ts.length by omega]
  subst hM
  unfold tabAt
  have e : (ts ++ [r]).getD ts.length [] = r := by rw [List.getD_eq_getElem?_getD, List.getElem?_append_right (Nat.le_refl _)]; simp
  rw [List.drop_zero, List.take_length, e]
theorem last_one (r : List Int) (j : Nat) : tabAt [r] (0 + Int.toNat (W (((1 : Nat) : Int) - 1))) j = r.getD j 0 := rfl
abbrev X7 : SV := .v (.int .i64 (.lit 0))
noncomputable abbrev SA (n : Int) (nl : Nat) (ls : List (List Int)) (N : Nat) (tk bd i c : Int) (ws : List (List Int)) (x11 x12 x13 x14 x15 : SV) (js : Nat → SV) : St MObj := ⟨pre n nl X7 tk bd i x11 x12 x13 x14 x15 ++ junk js 166 16, hA ls ws N c bd, 3, []⟩
noncomputable abbrev SB (n : Int) (nl : Nat) (ls : List (List Int)) (N : Nat) (tk bd i c : Int) (ws ts : List (List Int)) (M : Nat) (x11 x12 x13 x14 x15 : SV) (js : Nat → SV) : St MObj := ⟨pre n nl X7 tk bd i x11 x12 x13 x14 x15 ++ junk js 166 16, hB ls ws ts N M c bd, 4, []⟩
noncomputable abbrev p13 (n : Int) (nl : Nat) (tk bd i : Int) (b : Nat) (k : Int) : List SV := [.v (ii n), .v (.an 0 (.sym nl)), .t [], .t [], .v (.bool (.lit false)), .v (.bool (.lit true)), .v (.ptr 2 0), X7, .v (ii tk), .v (ii bd), .v (ii i), .v (.ptr b 0), .v (.int .i64 (.lit k))]
noncomputable abbrev p11 (n : Int) (nl : Nat) (tk bd i : Int) : List SV := [.v (ii n), .v (.an 0 (.sym nl)), .t [], .t [], .v (.bool (.lit false)), .v (.bool (.lit true)), .v (.ptr 2 0), X7, .v (ii tk), .v (ii bd), .v (ii i)]
/-- What is kept. -/
def At0 (n : Int) (nl : Nat) (ls : List (List Int)) (N : Nat) (i c : Int) (s : St MObj) : Prop :=
  (∃ bd ws x11 x12 x13 x14 x15 js, s = SA n nl ls N c bd i c ws x11 x12 x13 x14 x15 js ∧ N = ws.length ∧ 0 ≤ bd ∧ bd ≤ c) ∨
  (∃ tk bd ws ts M x11 x12 x13 x14 x15 js, s = SB n nl ls N tk bd i c ws ts M x11 x12 x13 x14 x15 js ∧ N = ws.length ∧ M = ts.length ∧ 1 ≤ M ∧ 0 ≤ tk ∧ tk + M = c ∧ 0 ≤ bd ∧ bd ≤ c)
/-- Behind the access. -/
def TS (k : Int) (n : Int) (nl : Nat) (ls : List (List Int)) (N : Nat) (tk bd i c o1 : Int) (s : St MObj) : Prop :=
  ∃ M ws ts tr o0 o2 o3 o4 o5 x13 x14 x15 js, s = ⟨pre n nl X7 tk bd i (.v (.ptr 4 0)) (.v (.int .i64 (.lit k))) x13 x14 x15 ++ junk js 166 16, hB ls ws ts N M c tr ++ row 4 o0 o1 o2 o3 o4 o5, 5, []⟩ ∧
    N = ws.length ∧ M = ts.length ∧ 1 ≤ M ∧ tk + M = c ∧ BadR k o1 N bd tr ∧ tabAt ts (0 + Int.toNat (W ((M : Int) - 1))) 0 = k + 1 ∧ tabAt ts (0 + Int.toNat (W ((M : Int) - 1))) 1 = o1
section
variable (n : Int) (nl : Nat) (ls : List (List Int)) (N : Nat) (hN1 : 1 ≤ N) (hN2 : N ≤ 64) (E : Ctx MObj) (hE : E.nid0 = 1) (hT : E.top = 20) (hD : ∀ b, 1 ≤ b → E.D b)
include hN1 hN2 hE hT hD
theorem acc0A {tk bd i c o0 o1 o2 o3 o4 o5 : Int} {ws : List (List Int)} (hN : N = ws.length) (htk : tk = c) (hb0 : 0 ≤ bd) (hb1 : bd ≤ c) (hc : 0 ≤ tk) (hc2 : c ≤ 100) (hi : 0 ≤ i) (x13 x14 x15 : SV) (js : Nat → SV) :
    Tri MS Try.prog E (at' [true, false, false, true, true, false]) ⟨pre n nl X7 tk bd i (.v (.ptr 3 0)) (.v (.int .i64 (.lit 0))) x13 x14 x15 ++ junk js 166 16, hA ls ws N c bd ++ row 3 o0 o1 o2 o3 o4 o5, 4, []⟩ fun x s => x = .normal ∧ TS 0 n nl ls N tk bd i (c + 1) o1 s := by
  have hd : ∀ (l : List Nat), l.all (Nat.ble 1) = true → ∀ b, b ∈ l → E.D b := fun l hl b hb => hD b (Nat.le_of_ble_eq_true (List.all_eq_true.1 hl b hb))
  have ht : ∀ {k : Nat}, Nat.ble k 20 = true → k ≤ E.top := fun h => by rw [hT]; exact Nat.le_of_ble_eq_true h
  have hw1 : IntKind.i64.wrap ((N : Int) - 1) = (N : Int) - 1 := W_of (by omega) (by omega)
  have hw2 : IntKind.i64.wrap ((N : Int) - 2) = (N : Int) - 2 := wrap_i64_of (by omega) (by omega)
  have e1 : W (c + 1) = c + 1 := W_of (by omega) (by omega)
  have e2 : W (bd + 1) = bd + 1 := W_of (by omega) (by omega)
  refine Tri.postE (Q := fun x s => x = .normal ∧ ∃ ws' y tr js, s = (⟨pre n nl X7 tk bd i (.v (.ptr 3 0)) (.v (.int .i64 (.lit 0))) x13 x14 x15 ++ junk js 166 16, [(0, some (.rotab ks ls)), (1, some (.tab [.int .u64] ws' 28)), (2, some (.cells [.ts 1 (.lit 0) (.sym N) none, ii (W (c + 1)), ii tr, .ts 6 (.lit 0) (.lit 1) none] 81)), (3, some (.cells [ii o0, ii o1, uu o2, uu o3, uu o4, uu o5] 31)), (6, some (.tab ka [[1, o1, y]] 42))], 7, []⟩ : St MObj) ∧ N = ws'.length ∧ BadR 0 o1 N bd tr) ?_ ?_
  · refine Tri.allR (m := 16) (n := 166) (codeOK _) (a0A n tk bd i c bd o0 o1 o2 o3 o4 o5 nl N ls ws X7 x13 x14 x15 js hN hN1 hN2 (by omega) (by omega) hi hw1 hw2) ?_
    repeat' (first | refine Tr.all_ite (fun _ => ?_) (fun _ => ?_) | exact Tr.all_ok ⟨rfl, ht rfl, hd _ rfl, fun js => ⟨rfl, _, _, _, js, rfl, by first | exact hN | (simp only [List.length_set]; exact hN), by rw [e2]; simp only [W, hw1, hw2, decide_eq_true_eq, Bool.and_eq_true, beq_iff_eq, beq_eq_false_iff_ne, ne_eq, decide_eq_false_iff_not, bne_iff_ne] at *; unfold BadR Bad; omega⟩⟩ | exact Tr.all_ok ⟨rfl, ht rfl, hd _ rfl, fun js => ⟨rfl, _, _, _, js, rfl, by first | exact hN | (simp only [List.length_set]; exact hN), by simp only [W, hw1, hw2, decide_eq_true_eq, Bool.and_eq_true, beq_iff_eq, beq_eq_false_iff_ne, ne_eq, decide_eq_false_iff_not, bne_iff_ne] at *; unfold BadR Bad; omega⟩⟩ )
  · rintro x s ac wd ⟨rfl, ws', y, tr, js, rfl, h1, h2⟩ hat
    obtain ⟨js', h9⟩ := at_rename (dirty' := []) (nid' := 5) (m := 13) (n := 169) (pre := p13 n nl tk bd i 3 0) (pre' := p13 n nl tk bd i 4 0) [(0, 0), (1, 1), (2, 2), (6, 3), (3, 4)] rfl (by simp [length_junk]) rfl rfl (by rw [hE]; rfl) (by omega) (by omega) hat
    refine ⟨_, at_wk (dirty' := []) (pre' := p13 n nl tk bd i 4 0) (hp' := hB ls ws' [[1, o1, y]] N 1 (c + 1) tr ++ row 4 o0 o1 o2 o3 o4 o5) (by (repeat' apply And.intro) <;> first | rfl | exact wkS_refl _ | trivial) (by (repeat' apply And.intro) <;> first | rfl | exact e1 | trivial) h9, rfl, 1, ws', [[1, o1, y]], tr, o0, o2, o3, o4, o5, js' 13, js' 14, js' 15, js', rfl, h1, rfl, by omega, by omega, h2, ?_, ?_⟩
    · exact last_one _ _
    · exact last_one _ _
theorem acc0B {tk bd i c o0 o1 o2 o3 o4 o5 : Int} {ws : List (List Int)} (hN : N = ws.length) {M : Nat} {ts : List (List Int)} (hM : M = ts.length) (hM1 : 1 ≤ M) (htk : tk + M = c) (hb0 : 0 ≤ bd) (hb1 : bd ≤ c) (hc : 0 ≤ tk) (hc2 : c ≤ 100) (hi : 0 ≤ i) (x13 x14 x15 : SV) (js : Nat → SV) :
    Tri MS Try.prog E (at' [true, false, false, true, true, false]) ⟨pre n nl X7 tk bd i (.v (.ptr 4 0)) (.v (.int .i64 (.lit 0))) x13 x14 x15 ++ junk js 166 16, hB ls ws ts N M c bd ++ row 4 o0 o1 o2 o3 o4 o5, 5, []⟩ fun x s => x = .normal ∧ TS 0 n nl ls N tk bd i (c + 1) o1 s := by
  have hd : ∀ (l : List Nat), l.all (Nat.ble 1) = true → ∀ b, b ∈ l → E.D b := fun l hl b hb => hD b (Nat.le_of_ble_eq_true (List.all_eq_true.1 hl b hb))
  have ht : ∀ {k : Nat}, Nat.ble k 20 = true → k ≤ E.top := fun h => by rw [hT]; exact Nat.le_of_ble_eq_true h
  have hw1 : IntKind.i64.wrap ((N : Int) - 1) = (N : Int) - 1 := W_of (by omega) (by omega)
  have hw2 : IntKind.i64.wrap ((N : Int) - 2) = (N : Int) - 2 := wrap_i64_of (by omega) (by omega)
  have e1 : W (c + 1) = c + 1 := W_of (by omega) (by omega)
  have e2 : W (bd + 1) = bd + 1 := W_of (by omega) (by omega)
  refine Tri.postE (Q := fun x s => x = .normal ∧ ∃ ws' y tr js, s = (⟨pre n nl X7 tk bd i (.v (.ptr 4 0)) (.v (.int .i64 (.lit 0))) x13 x14 x15 ++ junk js 166 16, [(0, some (.rotab ks ls)), (1, some (.tab [.int .u64] ws' 28)), (2, some (.cells [.ts 1 (.lit 0) (.sym N) none, ii (W (c + 1)), ii tr, .ts 7 (.lit 0) (.sym (M + 1)) none] 81)), (4, some (.cells [ii o0, ii o1, uu o2, uu o3, uu o4, uu o5] 31)), (7, some (.tab ka (List.take M (List.drop 0 ts) ++ [[1, o1, y]]) 42))], 8, []⟩ : St MObj) ∧ N = ws'.length ∧ BadR 0 o1 N bd tr) ?_ ?_
  · refine Tri.allR (m := 16) (n := 166) (codeOK _) (a0B n tk bd i c bd o0 o1 o2 o3 o4 o5 nl N M ls ws ts X7 x13 x14 x15 js hN hN1 hN2 (by omega) (by omega) hi hw1 hw2 hM hM1 (by omega)) ?_
    repeat' (first | refine Tr.all_ite (fun _ => ?_) (fun _ => ?_) | exact Tr.all_ok ⟨rfl, ht rfl, hd _ rfl, fun js => ⟨rfl, _, _, _, js, rfl, by first | exact hN | (simp only [List.length_set]; exact hN), by rw [e2]; simp only [W, hw1, hw2, decide_eq_true_eq, Bool.and_eq_true, beq_iff_eq, beq_eq_false_iff_ne, ne_eq, decide_eq_false_iff_not, bne_iff_ne] at *; unfold BadR Bad; omega⟩⟩ | exact Tr.all_ok ⟨rfl, ht rfl, hd _ rfl, fun js => ⟨rfl, _, _, _, js, rfl, by first | exact hN | (simp only [List.length_set]; exact hN), by simp only [W, hw1, hw2, decide_eq_true_eq, Bool.and_eq_true, beq_iff_eq, beq_eq_false_iff_ne, ne_eq, decide_eq_false_iff_not, bne_iff_ne] at *; unfold BadR Bad; omega⟩⟩ )
  · rintro x s ac wd ⟨rfl, ws', y, tr, js, rfl, h1, h2⟩ hat
    obtain ⟨js', h9⟩ := at_rename (dirty' := []) (nid' := 5) (m := 13) (n := 169) (pre := p13 n nl tk bd i 4 0) (pre' := p13 n nl tk bd i 4 0) [(0, 0), (1, 1), (2, 2), (7, 3), (4, 4)] rfl (by simp [length_junk]) rfl rfl (by rw [hE]; rfl) (by omega) (by omega) hat
    refine ⟨_, at_wk (dirty' := []) (pre' := p13 n nl tk bd i 4 0) (hp' := hB ls ws' (List.take M (List.drop 0 ts) ++ [[1, o1, y]]) N (M + 1) (c + 1) tr ++ row 4 o0 o1 o2 o3 o4 o5) (by (repeat' apply And.intro) <;> first | rfl | exact wkS_refl _ | trivial) (by (repeat' apply And.intro) <;> first | rfl | exact e1 | trivial) h9, rfl, M + 1, ws', (List.take M (List.drop 0 ts) ++ [[1, o1, y]]), tr, o0, o2, o3, o4, o5, js' 13, js' 14, js' 15, js', rfl, h1, by simp [hM], by omega, by omega, h2, ?_, ?_⟩
    · exact last_row hM rfl (by omega) _ _
    · exact last_row hM rfl (by omega) _ _
theorem acc1A {tk bd i c o0 o1 o2 o3 o4 o5 : Int} {ws : List (List Int)} (hN : N = ws.length) (htk : tk = c) (hb0 : 0 ≤ bd) (hb1 : bd ≤ c) (hc : 0 ≤ tk) (hc2 : c ≤ 100) (hi : 0 ≤ i) (x13 x14 x15 : SV) (js : Nat → SV) :
    Tri MS Try.prog E (at' [true, false, false, true, true, false]) ⟨pre n nl X7 tk bd i (.v (.ptr 3 0)) (.v (.int .i64 (.lit 1))) x13 x14 x15 ++ junk js 166 16, hA ls ws N c bd ++ row 3 o0 o1 o2 o3 o4 o5, 4, []⟩ fun x s => x = .normal ∧ TS 1 n nl ls N tk bd i (c + 1) o1 s := by
  have hd : ∀ (l : List Nat), l.all (Nat.ble 1) = true → ∀ b, b ∈ l → E.D b := fun l hl b hb => hD b (Nat.le_of_ble_eq_true (List.all_eq_true.1 hl b hb))
  have ht : ∀ {k : Nat}, Nat.ble k 20 = true → k ≤ E.top := fun h => by rw [hT]; exact Nat.le_of_ble_eq_true h
  have hw1 : IntKind.i64.wrap ((N : Int) - 1) = (N : Int) - 1 := W_of (by omega) (by omega)
  have hw2 : IntKind.i64.wrap ((N : Int) - 2) = (N : Int) - 2 := wrap_i64_of (by omega) (by omega)
  have e1 : W (c + 1) = c + 1 := W_of (by omega) (by omega)
  have e2 : W (bd + 1) = bd + 1 := W_of (by omega) (by omega)
  refine Tri.postE (Q := fun x s => x = .normal ∧ ∃ ws' y tr js, s = (⟨pre n nl X7 tk bd i (.v (.ptr 3 0)) (.v (.int .i64 (.lit 1))) x13 x14 x15 ++ junk js 166 16, [(0, some (.rotab ks ls)), (1, some (.tab [.int .u64] ws' 28)), (2, some (.cells [.ts 1 (.lit 0) (.sym N) none, ii (W (c + 1)), ii tr, .ts 6 (.lit 0) (.lit 1) none] 81)), (3, some (.cells [ii o0, ii o1, uu o2, uu o3, uu o4, uu o5] 31)), (6, some (.tab ka [[2, o1, y]] 42))], 7, []⟩ : St MObj) ∧ N = ws'.length ∧ BadR 1 o1 N bd tr) ?_ ?_
  · refine Tri.allR (m := 16) (n := 166) (codeOK _) (a1A n tk bd i c bd o0 o1 o2 o3 o4 o5 nl N ls ws X7 x13 x14 x15 js hN hN1 hN2 (by omega) (by omega) hi hw1 hw2) ?_
    repeat' (first | refine Tr.all_ite (fun _ => ?_) (fun _ => ?_) | exact Tr.all_ok ⟨rfl, ht rfl, hd _ rfl, fun js => ⟨rfl, _, _, _, js, rfl, by first | exact hN | (simp only [List.length_set]; exact hN), by rw [e2]; simp only [W, hw1, hw2, decide_eq_true_eq, Bool.and_eq_true, beq_iff_eq, beq_eq_false_iff_ne, ne_eq, decide_eq_false_iff_not, bne_iff_ne] at *; unfold BadR Bad; omega⟩⟩ | exact Tr.all_ok ⟨rfl, ht rfl, hd _ rfl, fun js => ⟨rfl, _, _, _, js, rfl, by first | exact hN | (simp only [List.length_set]; exact hN), by simp only [W, hw1, hw2, decide_eq_true_eq, Bool.and_eq_true, beq_iff_eq, beq_eq_false_iff_ne, ne_eq, decide_eq_false_iff_not, bne_iff_ne] at *; unfold BadR Bad; omega⟩⟩ )
  · rintro x s ac wd ⟨rfl, ws', y, tr, js, rfl, h1, h2⟩ hat
    obtain ⟨js', h9⟩ := at_rename (dirty' := []) (nid' := 5) (m := 13) (n := 169) (pre := p13 n nl tk bd i 3 1) (pre' := p13 n nl tk bd i 4 1) [(0, 0), (1, 1), (2, 2), (6, 3), (3, 4)] rfl (by simp [length_junk]) rfl rfl (by rw [hE]; rfl) (by omega) (by omega) hat
    refine ⟨_, at_wk (dirty' := []) (pre' := p13 n nl tk bd i 4 1) (hp' := hB ls ws' [[2, o1, y]] N 1 (c + 1) tr ++ row 4 o0 o1 o2 o3 o4 o5) (by (repeat' apply And.intro) <;> first | rfl | exact wkS_refl _ | trivial) (by (repeat' apply And.intro) <;> first | rfl | exact e1 | trivial) h9, rfl, 1, ws', [[2, o1, y]], tr, o0, o2, o3, o4, o5, js' 13, js' 14, js' 15, js', rfl, h1, rfl, by omega, by omega, h2, ?_, ?_⟩
    · exact last_one _ _
    · exact last_one _ _
theorem acc1B {tk bd i c o0 o1 o2 o3 o4 o5 : Int} {ws : List (List Int)} (hN : N = ws.length) {M : Nat} {ts : List (List Int)} (hM : M = ts.length) (hM1 : 1 ≤ M) (htk : tk + M = c) (hb0 : 0 ≤ bd) (hb1 : bd ≤ c) (hc : 0 ≤ tk) (hc2 : c ≤ 100) (hi : 0 ≤ i) (x13 x14 x15 : SV) (js : Nat → SV) :
    Tri MS Try.prog E (at' [true, false, false, true, true, false]) ⟨pre n nl X7 tk bd i (.v (.ptr 4 0)) (.v (.int .i64 (.lit 1))) x13 x14 x15 ++ junk js 166 16, hB ls ws ts N M c bd ++ row 4 o0 o1 o2 o3 o4 o5, 5, []⟩ fun x s => x = .normal ∧ TS 1 n nl ls N tk bd i (c + 1) o1 s := by
  have hd : ∀ (l : List Nat), l.all (Nat.ble 1) = true → ∀ b, b ∈ l → E.D b := fun l hl b hb => hD b (Nat.le_of_ble_eq_true (List.all_eq_true.1 hl b hb))
  have ht : ∀ {k : Nat}, Nat.ble k 20 = true → k ≤ E.top := fun h => by rw [hT]; exact Nat.le_of_ble_eq_true h
  have hw1 : IntKind.i64.wrap ((N : Int) - 1) = (N : Int) - 1 := W_of (by omega) (by omega)
  have hw2 : IntKind.i64.wrap ((N : Int) - 2) = (N : Int) - 2 := wrap_i64_of (by omega) (by omega)
  have e1 : W (c + 1) = c + 1 := W_of (by omega) (by omega)
  have e2 : W (bd + 1) = bd + 1 := W_of (by omega) (by omega)
  refine Tri.postE (Q := fun x s => x = .normal ∧ ∃ ws' y tr js, s = (⟨pre n nl X7 tk bd i (.v (.ptr 4 0)) (.v (.int .i64 (.lit 1))) x13 x14 x15 ++ junk js 166 16, [(0, some (.rotab ks ls)), (1, some (.tab [.int .u64] ws' 28)), (2, some (.cells [.ts 1 (.lit 0) (.sym N) none, ii (W (c + 1)), ii tr, .ts 7 (.lit 0) (.sym (M + 1)) none] 81)), (4, some (.cells [ii o0, ii o1, uu o2, uu o3, uu o4, uu o5] 31)), (7, some (.tab ka (List.take M (List.drop 0 ts) ++ [[2, o1, y]]) 42))], 8, []⟩ : St MObj) ∧ N = ws'.length ∧ BadR 1 o1 N bd tr) ?_ ?_
  · refine Tri.allR (m := 16) (n := 166) (codeOK _) (a1B n tk bd i c bd o0 o1 o2 o3 o4 o5 nl N M ls ws ts X7 x13 x14 x15 js hN hN1 hN2 (by omega) (by omega) hi hw1 hw2 hM hM1 (by omega)) ?_
    repeat' (first | refine Tr.all_ite (fun _ => ?_) (fun _ => ?_) | exact Tr.all_ok ⟨rfl, ht rfl, hd _ rfl, fun js => ⟨rfl, _, _, _, js, rfl, by first | exact hN | (simp only [List.length_set]; exact hN), by rw [e2]; simp only [W, hw1, hw2, decide_eq_true_eq, Bool.and_eq_true, beq_iff_eq, beq_eq_false_iff_ne, ne_eq, decide_eq_false_iff_not, bne_iff_ne] at *; unfold BadR Bad; omega⟩⟩ | exact Tr.all_ok ⟨rfl, ht rfl, hd _ rfl, fun js => ⟨rfl, _, _, _, js, rfl, by first | exact hN | (simp only [List.length_set]; exact hN), by simp only [W, hw1, hw2, decide_eq_true_eq, Bool.and_eq_true, beq_iff_eq, beq_eq_false_iff_ne, ne_eq, decide_eq_false_iff_not, bne_iff_ne] at *; unfold BadR Bad; omega⟩⟩ )
  · rintro x s ac wd ⟨rfl, ws', y, tr, js, rfl, h1, h2⟩ hat
    obtain ⟨js', h9⟩ := at_rename (dirty' := []) (nid' := 5) (m := 13) (n := 169) (pre := p13 n nl tk bd i 4 1) (pre' := p13 n nl tk bd i 4 1) [(0, 0), (1, 1), (2, 2), (7, 3), (4, 4)] rfl (by simp [length_junk]) rfl rfl (by rw [hE]; rfl) (by omega) (by omega) hat
    refine ⟨_, at_wk (dirty' := []) (pre' := p13 n nl tk bd i 4 1) (hp' := hB ls ws' (List.take M (List.drop 0 ts) ++ [[2, o1, y]]) N (M + 1) (c + 1) tr ++ row 4 o0 o1 o2 o3 o4 o5) (by (repeat' apply And.intro) <;> first | rfl | exact wkS_refl _ | trivial) (by (repeat' apply And.intro) <;> first | rfl | exact e1 | trivial) h9, rfl, M + 1, ws', (List.take M (List.drop 0 ts) ++ [[2, o1, y]]), tr, o0, o2, o3, o4, o5, js' 13, js' 14, js' 15, js', rfl, h1, by simp [hM], by omega, by omega, h2, ?_, ?_⟩
    · exact last_row hM rfl (by omega) _ _
    · exact last_row hM rfl (by omega) _ _
theorem acc2A {tk bd i c o0 o1 o2 o3 o4 o5 : Int} {ws : List (List Int)} (hN : N = ws.length) (htk : tk = c) (hb0 : 0 ≤ bd) (hb1 : bd ≤ c) (hc : 0 ≤ tk) (hc2 : c ≤ 100) (hi : 0 ≤ i) (x13 x14 x15 : SV) (js : Nat → SV) :
    Tri MS Try.prog E (at' [true, false, false, true, true, false]) ⟨pre n nl X7 tk bd i (.v (.ptr 3 0)) (.v (.int .i64 (.lit 2))) x13 x14 x15 ++ junk js 166 16, hA ls ws N c bd ++ row 3 o0 o1 o2 o3 o4 o5, 4, []⟩ fun x s => x = .normal ∧ TS 2 n nl ls N tk bd i (c + 1) o1 s := by
  have hd : ∀ (l : List Nat), l.all (Nat.ble 1) = true → ∀ b, b ∈ l → E.D b := fun l hl b hb => hD b (Nat.le_of_ble_eq_true (List.all_eq_true.1 hl b hb))
  have ht : ∀ {k : Nat}, Nat.ble k 20 = true → k ≤ E.top := fun h => by rw [hT]; exact Nat.le_of_ble_eq_true h
  have hw1 : IntKind.i64.wrap ((N : Int) - 1) = (N : Int) - 1 := W_of (by omega) (by omega)
  have hw2 : IntKind.i64.wrap ((N : Int) - 2) = (N : Int) - 2 := wrap_i64_of (by omega) (by omega)
  have e1 : W (c + 1) = c + 1 := W_of (by omega) (by omega)
  have e2 : W (bd + 1) = bd + 1 := W_of (by omega) (by omega)
  refine Tri.postE (Q := fun x s => x = .normal ∧ ∃ ws' y tr js, s = (⟨pre n nl X7 tk bd i (.v (.ptr 3 0)) (.v (.int .i64 (.lit 2))) x13 x14 x15 ++ junk js 166 16, [(0, some (.rotab ks ls)), (1, some (.tab [.int .u64] ws' 28)), (2, some (.cells [.ts 1 (.lit 0) (.sym N) none, ii (W (c + 1)), ii tr, .ts 8 (.lit 0) (.lit 1) none] 81)), (3, some (.cells [ii o0, ii o1, uu o2, uu o3, uu o4, uu o5] 31)), (8, some (.tab ka [[3, o1, y]] 42))], 9, []⟩ : St MObj) ∧ N = ws'.length ∧ BadR 2 o1 N bd tr) ?_ ?_
  · refine Tri.allR (m := 16) (n := 166) (codeOK _) (a2A n tk bd i c bd o0 o1 o2 o3 o4 o5 nl N ls ws X7 x13 x14 x15 js hN hN1 hN2 (by omega) (by omega) hi hw1 hw2) ?_
    repeat' (first | refine Tr.all_ite (fun _ => ?_) (fun _ => ?_) | exact Tr.all_ok ⟨rfl, ht rfl, hd _ rfl, fun js => ⟨rfl, _, _, _, js, rfl, by first | exact hN | (simp only [List.length_set]; exact hN), by rw [e2]; simp only [W, hw1, hw2, decide_eq_true_eq, Bool.and_eq_true, beq_iff_eq, beq_eq_false_iff_ne, ne_eq, decide_eq_false_iff_not, bne_iff_ne] at *; unfold BadR Bad; omega⟩⟩ | exact Tr.all_ok ⟨rfl, ht rfl, hd _ rfl, fun js => ⟨rfl, _, _, _, js, rfl, by first | exact hN | (simp only [List.length_set]; exact hN), by simp only [W, hw1, hw2, decide_eq_true_eq, Bool.and_eq_true, beq_iff_eq, beq_eq_false_iff_ne, ne_eq, decide_eq_false_iff_not, bne_iff_ne] at *; unfold BadR Bad; omega⟩⟩ )
  · rintro x s ac wd ⟨rfl, ws', y, tr, js, rfl, h1, h2⟩ hat
    obtain ⟨js', h9⟩ := at_rename (dirty' := []) (nid' := 5) (m := 13) (n := 169) (pre := p13 n nl tk bd i 3 2) (pre' := p13 n nl tk bd i 4 2) [(0, 0), (1, 1), (2, 2), (8, 3), (3, 4)] rfl (by simp [length_junk]) rfl rfl (by rw [hE]; rfl) (by omega) (by omega) hat
    refine ⟨_, at_wk (dirty' := []) (pre' := p13 n nl tk bd i 4 2) (hp' := hB ls ws' [[3, o1, y]] N 1 (c + 1) tr ++ row 4 o0 o1 o2 o3 o4 o5) (by (repeat' apply And.intro) <;> first | rfl | exact wkS_refl _ | trivial) (by (repeat' apply And.intro) <;> first | rfl | exact e1 | trivial) h9, rfl, 1, ws', [[3, o1, y]], tr, o0, o2, o3, o4, o5, js' 13, js' 14, js' 15, js', rfl, h1, rfl, by omega, by omega, h2, ?_, ?_⟩
    · exact last_one _ _
    · exact last_one _ _
theorem acc2B {tk bd i c o0 o1 o2 o3 o4 o5 : Int} {ws : List (List Int)} (hN : N = ws.length) {M : Nat} {ts : List (List Int)} (hM : M = ts.length) (hM1 : 1 ≤ M) (htk : tk + M = c) (hb0 : 0 ≤ bd) (hb1 : bd ≤ c) (hc : 0 ≤ tk) (hc2 : c ≤ 100) (hi : 0 ≤ i) (x13 x14 x15 : SV) (js : Nat → SV) :
    Tri MS Try.prog E (at' [true, false, false, true, true, false]) ⟨pre n nl X7 tk bd i (.v (.ptr 4 0)) (.v (.int .i64 (.lit 2))) x13 x14 x15 ++ junk js 166 16, hB ls ws ts N M c bd ++ row 4 o0 o1 o2 o3 o4 o5, 5, []⟩ fun x s => x = .normal ∧ TS 2 n nl ls N tk bd i (c + 1) o1 s := by
  have hd : ∀ (l : List Nat), l.all (Nat.ble 1) = true → ∀ b, b ∈ l → E.D b := fun l hl b hb => hD b (Nat.le_of_ble_eq_true (List.all_eq_true.1 hl b hb))
  have ht : ∀ {k : Nat}, Nat.ble k 20 = true → k ≤ E.top := fun h => by rw [hT]; exact Nat.le_of_ble_eq_true h
  have hw1 : IntKind.i64.wrap ((N : Int) - 1) = (N : Int) - 1 := W_of (by omega) (by omega)
  have hw2 : IntKind.i64.wrap ((N : Int) - 2) = (N : Int) - 2 := wrap_i64_of (by omega) (by omega)
  have e1 : W (c + 1) = c + 1 := W_of (by omega) (by omega)
  have e2 : W (bd + 1) = bd + 1 := W_of (by omega) (by omega)
  refine Tri.postE (Q := fun x s => x = .normal ∧ ∃ ws' y tr js, s = (⟨pre n nl X7 tk bd i (.v (.ptr 4 0)) (.v (.int .i64 (.lit 2))) x13 x14 x15 ++ junk js 166 16, [(0, some (.rotab ks ls)), (1, some (.tab [.int .u64] ws' 28)), (2, some (.cells [.ts 1 (.lit 0) (.sym N) none, ii (W (c + 1)), ii tr, .ts 9 (.lit 0) (.sym (M + 1)) none] 81)), (4, some (.cells [ii o0, ii o1, uu o2, uu o3, uu o4, uu o5] 31)), (9, some (.tab ka (List.take M (List.drop 0 ts) ++ [[3, o1, y]]) 42))], 10, []⟩ : St MObj) ∧ N = ws'.length ∧ BadR 2 o1 N bd tr) ?_ ?_
  · refine Tri.allR (m := 16) (n := 166) (codeOK _) (a2B n tk bd i c bd o0 o1 o2 o3 o4 o5 nl N M ls ws ts X7 x13 x14 x15 js hN hN1 hN2 (by omega) (by omega) hi hw1 hw2 hM hM1 (by omega)) ?_
    repeat' (first | refine Tr.all_ite (fun _ => ?_) (fun _ => ?_) | exact Tr.all_ok ⟨rfl, ht rfl, hd _ rfl, fun js => ⟨rfl, _, _, _, js, rfl, by first | exact hN | (simp only [List.length_set]; exact hN), by rw [e2]; simp only [W, hw1, hw2, decide_eq_true_eq, Bool.and_eq_true, beq_iff_eq, beq_eq_false_iff_ne, ne_eq, decide_eq_false_iff_not, bne_iff_ne] at *; unfold BadR Bad; omega⟩⟩ | exact Tr.all_ok ⟨rfl, ht rfl, hd _ rfl, fun js => ⟨rfl, _, _, _, js, rfl, by first | exact hN | (simp only [List.length_set]; exact hN), by simp only [W, hw1, hw2, decide_eq_true_eq, Bool.and_eq_true, beq_iff_eq, beq_eq_false_iff_ne, ne_eq, decide_eq_false_iff_not, bne_iff_ne] at *; unfold BadR Bad; omega⟩⟩ )
  · rintro x s ac wd ⟨rfl, ws', y, tr, js, rfl, h1, h2⟩ hat
    obtain ⟨js', h9⟩ := at_rename (dirty' := []) (nid' := 5) (m := 13) (n := 169) (pre := p13 n nl tk bd i 4 2) (pre' := p13 n nl tk bd i 4 2) [(0, 0), (1, 1), (2, 2), (9, 3), (4, 4)] rfl (by simp [length_junk]) rfl rfl (by rw [hE]; rfl) (by omega) (by omega) hat
    refine ⟨_, at_wk (dirty' := []) (pre' := p13 n nl tk bd i 4 2) (hp' := hB ls ws' (List.take M (List.drop 0 ts) ++ [[3, o1, y]]) N (M + 1) (c + 1) tr ++ row 4 o0 o1 o2 o3 o4 o5) (by (repeat' apply And.intro) <;> first | rfl | exact wkS_refl _ | trivial) (by (repeat' apply And.intro) <;> first | rfl | exact e1 | trivial) h9, rfl, M + 1, ws', (List.take M (List.drop 0 ts) ++ [[3, o1, y]]), tr, o0, o2, o3, o4, o5, js' 13, js' 14, js' 15, js', rfl, h1, by simp [hM], by omega, by omega, h2, ?_, ?_⟩
    · exact last_row hM rfl (by omega) _ _
    · exact last_row hM rfl (by omega) _ _
theorem acc3A {tk bd i c o0 o1 o2 o3 o4 o5 : Int} {ws : List (List Int)} (hN : N = ws.length) (htk : tk = c) (hb0 : 0 ≤ bd) (hb1 : bd ≤ c) (hc : 0 ≤ tk) (hc2 : c ≤ 100) (hi : 0 ≤ i) (x13 x14 x15 : SV) (js : Nat → SV) :
    Tri MS Try.prog E (at' [true, false, false, true, true, false]) ⟨pre n nl X7 tk bd i (.v (.ptr 3 0)) (.v (.int .i64 (.lit 3))) x13 x14 x15 ++ junk js 166 16, hA ls ws N c bd ++ row 3 o0 o1 o2 o3 o4 o5, 4, []⟩ fun x s => x = .normal ∧ TS 3 n nl ls N tk bd i (c + 1) o1 s := by
  have hd : ∀ (l : List Nat), l.all (Nat.ble 1) = true → ∀ b, b ∈ l → E.D b := fun l hl b hb => hD b (Nat.le_of_ble_eq_true (List.all_eq_true.1 hl b hb))
  have ht : ∀ {k : Nat}, Nat.ble k 20 = true → k ≤ E.top := fun h => by rw [hT]; exact Nat.le_of_ble_eq_true h
  have hw1 : IntKind.i64.wrap ((N : Int) - 1) = (N : Int) - 1 := W_of (by omega) (by omega)
  have hw2 : IntKind.i64.wrap ((N : Int) - 2) = (N : Int) - 2 := wrap_i64_of (by omega) (by omega)
  have e1 : W (c + 1) = c + 1 := W_of (by omega) (by omega)
  have e2 : W (bd + 1) = bd + 1 := W_of (by omega) (by omega)
  refine Tri.postE (Q := fun x s => x = .normal ∧ ∃ ws' y tr js, s = (⟨pre n nl X7 tk bd i (.v (.ptr 3 0)) (.v (.int .i64 (.lit 3))) x13 x14 x15 ++ junk js 166 16, [(0, some (.rotab ks ls)), (1, some (.tab [.int .u64] ws' 28)), (2, some (.cells [.ts 1 (.lit 0) (.sym N) none, ii (W (c + 1)), ii tr, .ts 10 (.lit 0) (.lit 1) none] 81)), (3, some (.cells [ii o0, ii o1, uu o2, uu o3, uu o4, uu o5] 31)), (10, some (.tab ka [[4, o1, y]] 42))], 11, []⟩ : St MObj) ∧ N = ws'.length ∧ BadR 3 o1 N bd tr) ?_ ?_
  · refine Tri.allR (m := 16) (n := 166) (codeOK _) (a3A n tk bd i c bd o0 o1 o2 o3 o4 o5 nl N ls ws X7 x13 x14 x15 js hN hN1 hN2 (by omega) (by omega) hi hw1 hw2) ?_
    repeat' (first | refine Tr.all_ite (fun _ => ?_) (fun _ => ?_) | exact Tr.all_ok ⟨rfl, ht rfl, hd _ rfl, fun js => ⟨rfl, _, _, _, js, rfl, by first | exact hN | (simp only [List.length_set]; exact hN), by rw [e2]; simp only [W, hw1, hw2, decide_eq_true_eq, Bool.and_eq_true, beq_iff_eq, beq_eq_false_iff_ne, ne_eq, decide_eq_false_iff_not, bne_iff_ne] at *; unfold BadR Bad; omega⟩⟩ | exact Tr.all_ok ⟨rfl, ht rfl, hd _ rfl, fun js => ⟨rfl, _, _, _, js, rfl, by first | exact hN | (simp only [List.length_set]; exact hN), by simp only [W, hw1, hw2, decide_eq_true_eq, Bool.and_eq_true, beq_iff_eq, beq_eq_false_iff_ne, ne_eq, decide_eq_false_iff_not, bne_iff_ne] at *; unfold BadR Bad; omega⟩⟩ )
  · rintro x s ac wd ⟨rfl, ws', y, tr, js, rfl, h1, h2⟩ hat
    obtain ⟨js', h9⟩ := at_rename (dirty' := []) (nid' := 5) (m := 13) (n := 169) (pre := p13 n nl tk bd i 3 3) (pre' := p13 n nl tk bd i 4 3) [(0, 0), (1, 1), (2, 2), (10, 3), (3, 4)] rfl (by simp [length_junk]) rfl rfl (by rw [hE]; rfl) (by omega) (by omega) hat
    refine ⟨_, at_wk (dirty' := []) (pre' := p13 n nl tk bd i 4 3) (hp' := hB ls ws' [[4, o1, y]] N 1 (c + 1) tr ++ row 4 o0 o1 o2 o3 o4 o5) (by (repeat' apply And.intro) <;> first | rfl | exact wkS_refl _ | trivial) (by (repeat' apply And.intro) <;> first | rfl | exact e1 | trivial) h9, rfl, 1, ws', [[4, o1, y]], tr, o0, o2, o3, o4, o5, js' 13, js' 14, js' 15, js', rfl, h1, rfl, by omega, by omega, h2, ?_, ?_⟩
    · exact last_one _ _
    · exact last_one _ _
theorem acc3B {tk bd i c o0 o1 o2 o3 o4 o5 : Int} {ws : List (List Int)} (hN : N = ws.length) {M : Nat} {ts : List (List Int)} (hM : M = ts.length) (hM1 : 1 ≤ M) (htk : tk + M = c) (hb0 : 0 ≤ bd) (hb1 : bd ≤ c) (hc : 0 ≤ tk) (hc2 : c ≤ 100) (hi : 0 ≤ i) (x13 x14 x15 : SV) (js : Nat → SV) :
    Tri MS Try.prog E (at' [true, false, false, true, true, false]) ⟨pre n nl X7 tk bd i (.v (.ptr 4 0)) (.v (.int .i64 (.lit 3))) x13 x14 x15 ++ junk js 166 16, hB ls ws ts N M c bd ++ row 4 o0 o1 o2 o3 o4 o5, 5, []⟩ fun x s => x = .normal ∧ TS 3 n nl ls N tk bd i (c + 1) o1 s := by
  have hd : ∀ (l : List Nat), l.all (Nat.ble 1) = true → ∀ b, b ∈ l → E.D b := fun l hl b hb => hD b (Nat.le_of_ble_eq_true (List.all_eq_true.1 hl b hb))
  have ht : ∀ {k : Nat}, Nat.ble k 20 = true → k ≤ E.top := fun h => by rw [hT]; exact Nat.le_of_ble_eq_true h
  have hw1 : IntKind.i64.wrap ((N : Int) - 1) = (N : Int) - 1 := W_of (by omega) (by omega)
  have hw2 : IntKind.i64.wrap ((N : Int) - 2) = (N : Int) - 2 := wrap_i64_of (by omega) (by omega)
  have e1 : W (c + 1) = c + 1 := W_of (by omega) (by omega)
  have e2 : W (bd + 1) = bd + 1 := W_of (by omega) (by omega)
  refine Tri.postE (Q := fun x s => x = .normal ∧ ∃ ws' y tr js, s = (⟨pre n nl X7 tk bd i (.v (.ptr 4 0)) (.v (.int .i64 (.lit 3))) x13 x14 x15 ++ junk js 166 16, [(0, some (.rotab ks ls)), (1, some (.tab [.int .u64] ws' 28)), (2, some (.cells [.ts 1 (.lit 0) (.sym N) none, ii (W (c + 1)), ii tr, .ts 11 (.lit 0) (.sym (M + 1)) none] 81)), (4, some (.cells [ii o0, ii o1, uu o2, uu o3, uu o4, uu o5] 31)), (11, some (.tab ka (List.take M (List.drop 0 ts) ++ [[4, o1, y]]) 42))], 12, []⟩ : St MObj) ∧ N = ws'.length ∧ BadR 3 o1 N bd tr) ?_ ?_
  · refine Tri.allR (m := 16) (n := 166) (codeOK _) (a3B n tk bd i c bd o0 o1 o2 o3 o4 o5 nl N M ls ws ts X7 x13 x14 x15 js hN hN1 hN2 (by omega) (by omega) hi hw1 hw2 hM hM1 (by omega)) ?_
    repeat' (first | refine Tr.all_ite (fun _ => ?_) (fun _ => ?_) | exact Tr.all_ok ⟨rfl, ht rfl, hd _ rfl, fun js => ⟨rfl, _, _, _, js, rfl, by first | exact hN | (simp only [List.length_set]; exact hN), by rw [e2]; simp only [W, hw1, hw2, decide_eq_true_eq, Bool.and_eq_true, beq_iff_eq, beq_eq_false_iff_ne, ne_eq, decide_eq_false_iff_not, bne_iff_ne] at *; unfold BadR Bad; omega⟩⟩ | exact Tr.all_ok ⟨rfl, ht rfl, hd _ rfl, fun js => ⟨rfl, _, _, _, js, rfl, by first | exact hN | (simp only [List.length_set]; exact hN), by simp only [W, hw1, hw2, decide_eq_true_eq, Bool.and_eq_true, beq_iff_eq, beq_eq_false_iff_ne, ne_eq, decide_eq_false_iff_not, bne_iff_ne] at *; unfold BadR Bad; omega⟩⟩ )
  · rintro x s ac wd ⟨rfl, ws', y, tr, js, rfl, h1, h2⟩ hat
    obtain ⟨js', h9⟩ := at_rename (dirty' := []) (nid' := 5) (m := 13) (n := 169) (pre := p13 n nl tk bd i 4 3) (pre' := p13 n nl tk bd i 4 3) [(0, 0), (1, 1), (2, 2), (11, 3), (4, 4)] rfl (by simp [length_junk]) rfl rfl (by rw [hE]; rfl) (by omega) (by omega) hat
    refine ⟨_, at_wk (dirty' := []) (pre' := p13 n nl tk bd i 4 3) (hp' := hB ls ws' (List.take M (List.drop 0 ts) ++ [[4, o1, y]]) N (M + 1) (c + 1) tr ++ row 4 o0 o1 o2 o3 o4 o5) (by (repeat' apply And.intro) <;> first | rfl | exact wkS_refl _ | trivial) (by (repeat' apply And.intro) <;> first | rfl | exact e1 | trivial) h9, rfl, M + 1, ws', (List.take M (List.drop 0 ts) ++ [[4, o1, y]]), tr, o0, o2, o3, o4, o5, js' 13, js' 14, js' 15, js', rfl, h1, by simp [hM], by omega, by omega, h2, ?_, ?_⟩
    · exact last_row hM rfl (by omega) _ _
    · exact last_row hM rfl (by omega) _ _
theorem tail0 {tk bd i c o1 : Int} {s : St MObj} (h : TS 0 n nl ls N tk bd i c o1 s) (hb0 : 0 ≤ bd) (hb1 : bd + 1 ≤ c) (htk : 0 ≤ tk) (hc2 : c ≤ 101) (hi : 0 ≤ i) :
    Tri MS Try.prog E (.seq (at' [true, false, false, true, true, true, false]) (at' [true, false, false, true, true, true, true])) s fun x s => x = .normal ∧ At0 n nl ls N i c s := by
  have hd : ∀ (l : List Nat), l.all (Nat.ble 1) = true → ∀ b, b ∈ l → E.D b := fun l hl b hb => hD b (Nat.le_of_ble_eq_true (List.all_eq_true.1 hl b hb))
  have ht : ∀ {k : Nat}, Nat.ble k 20 = true → k ≤ E.top := fun h => by rw [hT]; exact Nat.le_of_ble_eq_true h
  have hw1 : IntKind.i64.wrap ((N : Int) - 1) = (N : Int) - 1 := W_of (by omega) (by omega)
  obtain ⟨M, ws, ts, tr, o0, o2, o3, o4, o5, x13, x14, x15, js, rfl, hN, hM, hM1, hc, hBd, hr0, hr1⟩ := h
  have hwm : IntKind.i64.wrap ((M : Int) - 1) = (M : Int) - 1 := W_of (by omega) (by omega)
  have e2 : W (bd + 1) = bd + 1 := W_of (by omega) (by omega)
  have e3 : W (tk + (M : Int)) = c := by rw [W_of (by omega) (by omega)]; exact hc
  have htr : tr = bd ∨ tr = bd + 1 := by rcases hBd with h | h <;> omega
  refine Tri.seq (R := fun x s => x = .normal ∧ ∃ bd' js, s = ⟨pre n nl X7 tk bd' i (.v (.ptr 4 0)) (.v (.int .i64 (.lit 0))) x13 x14 x15 ++ junk js 166 16, hB ls ws ts N M c tr ++ row 4 o0 o1 o2 o3 o4 o5, 5, []⟩ ∧ BadR 0 o1 N bd bd') ?_ ?_ (fun x s hx hh => absurd hh.1 hx)
  · refine Tri.allR (m := 16) (n := 166) (codeOK _) (b0 n tk bd i c tr o0 o1 o2 o3 o4 o5 nl N M ls ws ts X7 x13 x14 x15 js hN hN1 hN2 hi hw1 hM hM1 (by omega) hwm) ?_
    clear hBd hr0 hr1
    repeat' (first | refine Tr.all_ite (fun _ => ?_) (fun _ => ?_) | exact Tr.all_ok ⟨rfl, ht rfl, hd _ rfl, fun js => ⟨rfl, _, js, rfl, by rw [e2]; simp only [W, hw1, decide_eq_true_eq, Bool.and_eq_true, beq_iff_eq, beq_eq_false_iff_ne, ne_eq, decide_eq_false_iff_not, bne_iff_ne, bne_eq_false_iff_eq, Decidable.not_not] at *; unfold BadR Bad; omega⟩⟩ | exact Tr.all_ok ⟨rfl, ht rfl, hd _ rfl, fun js => ⟨rfl, _, js, rfl, by simp only [W, hw1, decide_eq_true_eq, Bool.and_eq_true, beq_iff_eq, beq_eq_false_iff_ne, ne_eq, decide_eq_false_iff_not, bne_iff_ne, bne_eq_false_iff_eq, Decidable.not_not] at *; unfold BadR Bad; omega⟩⟩)
  · rintro s ⟨_, bd', js, rfl, hB'⟩
    have := hBd.eq hB'
    subst this
    refine Tri.postE (Q := fun x s => x = .normal ∧ ((∃ js, s = ⟨pre n nl X7 (W (tk + (M : Int))) tr i (.v (.ptr 4 0)) (.v (.int .i64 (.lit 0))) (.v (.ts 3 (.lit 0) (.sym M) none)) x14 x15 ++ junk js 166 16, [(0, some (.rotab ks ls)), (1, some (.tab [.int .u64] ws 28)), (2, some (mO N c tr .nils)), (3, some (.tab ka ts 42))] ++ row 4 o0 o1 o2 o3 o4 o5, 5, []⟩) ∨
        ∃ js, s = ⟨pre n nl X7 tk tr i (.v (.ptr 4 0)) (.v (.int .i64 (.lit 0))) x13 x14 x15 ++ junk js 166 16, hB ls ws ts N M c tr ++ row 4 o0 o1 o2 o3 o4 o5, 5, []⟩)) ?_ ?_
    · refine Tri.allR (m := 16) (n := 166) (codeOK _) (t0 n tk tr i c tr o0 o1 o2 o3 o4 o5 nl N M ls ws ts X7 x13 x14 x15 js hN hN1 hN2 hi hw1 hM hM1 (by omega) hwm)
        (Tr.all_ite (fun _ => Tr.all_ite (fun h => ?_) (fun _ => Tr.all_ite (fun h => ?_) (fun _ => Tr.all_ok ⟨rfl, ht rfl, hd _ rfl, fun js => ⟨rfl, .inl ⟨js, rfl⟩⟩⟩))) (fun _ => Tr.all_ok ⟨rfl, ht rfl, hd _ rfl, fun js => ⟨rfl, .inr ⟨js, rfl⟩⟩⟩))
      · rw [hr0] at h; simp at h
      · rw [hr1] at h; simp at h
    · rintro x s ac wd ⟨rfl, ⟨js, rfl⟩ | ⟨js, rfl⟩⟩ hat
      · obtain ⟨js', h9⟩ := at_rename (dirty' := []) (nid' := 3) (m := 11) (n := 171) (pre := p11 n nl (W (tk + (M : Int))) tr i) (pre' := p11 n nl (W (tk + (M : Int))) tr i) [(0, 0), (1, 1), (2, 2)] rfl (by simp [length_junk]) rfl rfl (by rw [hE]; rfl) (by omega) (by omega) hat
        rw [e3] at h9
        exact ⟨_, h9, rfl, .inl ⟨tr, ws, js' 11, js' 12, js' 13, js' 14, js' 15, js', rfl, hN, by omega, by omega⟩⟩
      · obtain ⟨js', h9⟩ := at_rename (dirty' := []) (nid' := 4) (m := 11) (n := 171) (pre := p11 n nl tk tr i) (pre' := p11 n nl tk tr i) [(0, 0), (1, 1), (2, 2), (3, 3)] rfl (by simp [length_junk]) rfl rfl (by rw [hE]; rfl) (by omega) (by omega) hat
        exact ⟨_, h9, rfl, .inr ⟨tk, tr, ws, ts, M, js' 11, js' 12, js' 13, js' 14, js' 15, js', rfl, hN, hM, hM1, htk, hc, by omega, by omega⟩⟩
theorem tail1 {tk bd i c o1 : Int} {s : St MObj} (h : TS 1 n nl ls N tk bd i c o1 s) (hb0 : 0 ≤ bd) (hb1 : bd + 1 ≤ c) (htk : 0 ≤ tk) (hc2 : c ≤ 101) (hi : 0 ≤ i) :
    Tri MS Try.prog E (.seq (at' [true, false, false, true, true, true, false]) (at' [true, false, false, true, true, true, true])) s fun x s => x = .normal ∧ At0 n nl ls N i c s := by
  have hd : ∀ (l : List Nat), l.all (Nat.ble 1) = true → ∀ b, b ∈ l → E.D b := fun l hl b hb => hD b (Nat.le_of_ble_eq_true (List.all_eq_true.1 hl b hb))
  have ht : ∀ {k : Nat}, Nat.ble k 20 = true → k ≤ E.top := fun h => by rw [hT]; exact Nat.le_of_ble_eq_true h
  have hw1 : IntKind.i64.wrap ((N : Int) - 1) = (N : Int) - 1 := W_of (by omega) (by omega)
  obtain ⟨M, ws, ts, tr, o0, o2, o3, o4, o5, x13, x14, x15, js, rfl, hN, hM, hM1, hc, hBd, hr0, hr1⟩ := h
  have hwm : IntKind.i64.wrap ((M : Int) - 1) = (M : Int) - 1 := W_of (by omega) (by omega)
  have e2 : W (bd + 1) = bd + 1 := W_of (by omega) (by omega)
  have e3 : W (tk + (M : Int)) = c := by rw [W_of (by omega) (by omega)]; exact hc
  have htr : tr = bd ∨ tr = bd + 1 := by rcases hBd with h | h <;> omega
  refine Tri.seq (R := fun x s => x = .normal ∧ ∃ bd' js, s = ⟨pre n nl X7 tk bd' i (.v (.ptr 4 0)) (.v (.int .i64 (.lit 1))) x13 x14 x15 ++ junk js 166 16, hB ls ws ts N M c tr ++ row 4 o0 o1 o2 o3 o4 o5, 5, []⟩ ∧ BadR 1 o1 N bd bd') ?_ ?_ (fun x s hx hh => absurd hh.1 hx)
  · refine Tri.allR (m := 16) (n := 166) (codeOK _) (b1 n tk bd i c tr o0 o1 o2 o3 o4 o5 nl N M ls ws ts X7 x13 x14 x15 js hN hN1 hN2 hi hw1 hM hM1 (by omega) hwm) ?_
    clear hBd hr0 hr1
    repeat' (first | refine Tr.all_ite (fun _ => ?_) (fun _ => ?_) | exact Tr.all_ok ⟨rfl, ht rfl, hd _ rfl, fun js => ⟨rfl, _, js, rfl, by rw [e2]; simp only [W, hw1, decide_eq_true_eq, Bool.and_eq_true, beq_iff_eq, beq_eq_false_iff_ne, ne_eq, decide_eq_false_iff_not, bne_iff_ne, bne_eq_false_iff_eq, Decidable.not_not] at *; unfold BadR Bad; omega⟩⟩ | exact Tr.all_ok ⟨rfl, ht rfl, hd _ rfl, fun js => ⟨rfl, _, js, rfl, by simp only [W, hw1, decide_eq_true_eq, Bool.and_eq_true, beq_iff_eq, beq_eq_false_iff_ne, ne_eq, decide_eq_false_iff_not, bne_iff_ne, bne_eq_false_iff_eq, Decidable.not_not] at *; unfold BadR Bad; omega⟩⟩)
  · rintro s ⟨_, bd', js, rfl, hB'⟩
    have := hBd.eq hB'
    subst this
    refine Tri.postE (Q := fun x s => x = .normal ∧ ((∃ js, s = ⟨pre n nl X7 (W (tk + (M : Int))) tr i (.v (.ptr 4 0)) (.v (.int .i64 (.lit 1))) (.v (.ts 3 (.lit 0) (.sym M) none)) x14 x15 ++ junk js 166 16, [(0, some (.rotab ks ls)), (1, some (.tab [.int .u64] ws 28)), (2, some (mO N c tr .nils)), (3, some (.tab ka ts 42))] ++ row 4 o0 o1 o2 o3 o4 o5, 5, []⟩) ∨
        ∃ js, s = ⟨pre n nl X7 tk tr i (.v (.ptr 4 0)) (.v (.int .i64 (.lit 1))) x13 x14 x15 ++ junk js 166 16, hB ls ws ts N M c tr ++ row 4 o0 o1 o2 o3 o4 o5, 5, []⟩)) ?_ ?_
    · refine Tri.allR (m := 16) (n := 166) (codeOK _) (t1 n tk tr i c tr o0 o1 o2 o3 o4 o5 nl N M ls ws ts X7 x13 x14 x15 js hN hN1 hN2 hi hw1 hM hM1 (by omega) hwm)
        (Tr.all_ite (fun _ => Tr.all_ite (fun h => ?_) (fun _ => Tr.all_ite (fun h => ?_) (fun _ => Tr.all_ok ⟨rfl, ht rfl, hd _ rfl, fun js => ⟨rfl, .inl ⟨js, rfl⟩⟩⟩))) (fun _ => Tr.all_ok ⟨rfl, ht rfl, hd _ rfl, fun js => ⟨rfl, .inr ⟨js, rfl⟩⟩⟩))
      · rw [hr0] at h; simp at h
      · rw [hr1] at h; simp at h
    · rintro x s ac wd ⟨rfl, ⟨js, rfl⟩ | ⟨js, rfl⟩⟩ hat
      · obtain ⟨js', h9⟩ := at_rename (dirty' := []) (nid' := 3) (m := 11) (n := 171) (pre := p11 n nl (W (tk + (M : Int))) tr i) (pre' := p11 n nl (W (tk + (M : Int))) tr i) [(0, 0), (1, 1), (2, 2)] rfl (by simp [length_junk]) rfl rfl (by rw [hE]; rfl) (by omega) (by omega) hat
        rw [e3] at h9
        exact ⟨_, h9, rfl, .inl ⟨tr, ws, js' 11, js' 12, js' 13, js' 14, js' 15, js', rfl, hN, by omega, by omega⟩⟩
      · obtain ⟨js', h9⟩ := at_rename (dirty' := []) (nid' := 4) (m := 11) (n := 171) (pre := p11 n nl tk tr i) (pre' := p11 n nl tk tr i) [(0, 0), (1, 1), (2, 2), (3, 3)] rfl (by simp [length_junk]) rfl rfl (by rw [hE]; rfl) (by omega) (by omega) hat
        exact ⟨_, h9, rfl, .inr ⟨tk, tr, ws, ts, M, js' 11, js' 12, js' 13, js' 14, js' 15, js', rfl, hN, hM, hM1, htk, hc, by omega, by omega⟩⟩
theorem tail2 {tk bd i c o1 : Int} {s : St MObj} (h : TS 2 n nl ls N tk bd i c o1 s) (hb0 : 0 ≤ bd) (hb1 : bd + 1 ≤ c) (htk : 0 ≤ tk) (hc2 : c ≤ 101) (hi : 0 ≤ i) :
    Tri MS Try.prog E (.seq (at' [true, false, false, true, true, true, false]) (at' [true, false, false, true, true, true, true])) s fun x s => x = .normal ∧ At0 n nl ls N i c s := by
  have hd : ∀ (l : List Nat), l.all (Nat.ble 1) = true → ∀ b, b ∈ l → E.D b := fun l hl b hb => hD b (Nat.le_of_ble_eq_true (List.all_eq_true.1 hl b hb))
  have ht : ∀ {k : Nat}, Nat.ble k 20 = true → k ≤ E.top := fun h => by rw [hT]; exact Nat.le_of_ble_eq_true h
  have hw1 : IntKind.i64.wrap ((N : Int) - 1) = (N : Int) - 1 := W_of (by omega) (by omega)
  obtain ⟨M, ws, ts, tr, o0, o2, o3, o4, o5, x13, x14, x15, js, rfl, hN, hM, hM1, hc, hBd, hr0, hr1⟩ := h
  have hwm : IntKind.i64.wrap ((M : Int) - 1) = (M : Int) - 1 := W_of (by omega) (by omega)
  have e2 : W (bd + 1) = bd + 1 := W_of (by omega) (by omega)
  have e3 : W (tk + (M : Int)) = c := by rw [W_of (by omega) (by omega)]; exact hc
  have htr : tr = bd ∨ tr = bd + 1 := by rcases hBd with h | h <;> omega
  refine Tri.seq (R := fun x s => x = .normal ∧ ∃ bd' js, s = ⟨pre n nl X7 tk bd' i (.v (.ptr 4 0)) (.v (.int .i64 (.lit 2))) x13 x14 x15 ++ junk js 166 16, hB ls ws ts N M c tr ++ row 4 o0 o1 o2 o3 o4 o5, 5, []⟩ ∧ BadR 2 o1 N bd bd') ?_ ?_ (fun x s hx hh => absurd hh.1 hx)
  · refine Tri.allR (m := 16) (n := 166) (codeOK _) (b2 n tk bd i c tr o0 o1 o2 o3 o4 o5 nl N M ls ws ts X7 x13 x14 x15 js hN hN1 hN2 hi hw1 hM hM1 (by omega) hwm) ?_
    clear hBd hr0 hr1
    repeat' (first | refine Tr.all_ite (fun _ => ?_) (fun _ => ?_) | exact Tr.all_ok ⟨rfl, ht rfl, hd _ rfl, fun js => ⟨rfl, _, js, rfl, by rw [e2]; simp only [W, hw1, decide_eq_true_eq, Bool.and_eq_true, beq_iff_eq, beq_eq_false_iff_ne, ne_eq, decide_eq_false_iff_not, bne_iff_ne, bne_eq_false_iff_eq, Decidable.not_not] at *; unfold BadR Bad; omega⟩⟩ | exact Tr.all_ok ⟨rfl, ht rfl, hd _ rfl, fun js => ⟨rfl, _, js, rfl, by simp only [W, hw1, decide_eq_true_eq, Bool.and_eq_true, beq_iff_eq, beq_eq_false_iff_ne, ne_eq, decide_eq_false_iff_not, bne_iff_ne, bne_eq_false_iff_eq, Decidable.not_not] at *; unfold BadR Bad; omega⟩⟩)
  · rintro s ⟨_, bd', js, rfl, hB'⟩
    have := hBd.eq hB'
    subst this
    refine Tri.postE (Q := fun x s => x = .normal ∧ ((∃ js, s = ⟨pre n nl X7 (W (tk + (M : Int))) tr i (.v (.ptr 4 0)) (.v (.int .i64 (.lit 2))) (.v (.ts 3 (.lit 0) (.sym M) none)) x14 x15 ++ junk js 166 16, [(0, some (.rotab ks ls)), (1, some (.tab [.int .u64] ws 28)), (2, some (mO N c tr .nils)), (3, some (.tab ka ts 42))] ++ row 4 o0 o1 o2 o3 o4 o5, 5, []⟩) ∨
        ∃ js, s = ⟨pre n nl X7 tk tr i (.v (.ptr 4 0)) (.v (.int .i64 (.lit 2))) x13 x14 x15 ++ junk js 166 16, hB ls ws ts N M c tr ++ row 4 o0 o1 o2 o3 o4 o5, 5, []⟩)) ?_ ?_
    · refine Tri.allR (m := 16) (n := 166) (codeOK _) (t2 n tk tr i c tr o0 o1 o2 o3 o4 o5 nl N M ls ws ts X7 x13 x14 x15 js hN hN1 hN2 hi hw1 hM hM1 (by omega) hwm)
        (Tr.all_ite (fun _ => Tr.all_ite (fun h => ?_) (fun _ => Tr.all_ite (fun h => ?_) (fun _ => Tr.all_ok ⟨rfl, ht rfl, hd _ rfl, fun js => ⟨rfl, .inl ⟨js, rfl⟩⟩⟩))) (fun _ => Tr.all_ok ⟨rfl, ht rfl, hd _ rfl, fun js => ⟨rfl, .inr ⟨js, rfl⟩⟩⟩))
      · rw [hr0] at h; simp at h
      · rw [hr1] at h; simp at h
    · rintro x s ac wd ⟨rfl, ⟨js, rfl⟩ | ⟨js, rfl⟩⟩ hat
      · obtain ⟨js', h9⟩ := at_rename (dirty' := []) (nid' := 3) (m := 11) (n := 171) (pre := p11 n nl (W (tk + (M : Int))) tr i) (pre' := p11 n nl (W (tk + (M : Int))) tr i) [(0, 0), (1, 1), (2, 2)] rfl (by simp [length_junk]) rfl rfl (by rw [hE]; rfl) (by omega) (by omega) hat
        rw [e3] at h9
        exact ⟨_, h9, rfl, .inl ⟨tr, ws, js' 11, js' 12, js' 13, js' 14, js' 15, js', rfl, hN, by omega, by omega⟩⟩
      · obtain ⟨js', h9⟩ := at_rename (dirty' := []) (nid' := 4) (m := 11) (n := 171) (pre := p11 n nl tk tr i) (pre' := p11 n nl tk tr i) [(0, 0), (1, 1), (2, 2), (3, 3)] rfl (by simp [length_junk]) rfl rfl (by rw [hE]; rfl) (by omega) (by omega) hat
        exact ⟨_, h9, rfl, .inr ⟨tk, tr, ws, ts, M, js' 11, js' 12, js' 13, js' 14, js' 15, js', rfl, hN, hM, hM1, htk, hc, by omega, by omega⟩⟩
theorem tail3 {tk bd i c o1 : Int} {s : St MObj} (h : TS 3 n nl ls N tk bd i c o1 s) (hb0 : 0 ≤ bd) (hb1 : bd + 1 ≤ c) (htk : 0 ≤ tk) (hc2 : c ≤ 101) (hi : 0 ≤ i) :
    Tri MS Try.prog E (.seq (at' [true, false, false, true, true, true, false]) (at' [true, false, false, true, true, true, true])) s fun x s => x = .normal ∧ At0 n nl ls N i c s := by
  have hd : ∀ (l : List Nat), l.all (Nat.ble 1) = true → ∀ b, b ∈ l → E.D b := fun l hl b hb => hD b (Nat.le_of_ble_eq_true (List.all_eq_true.1 hl b hb))
  have ht : ∀ {k : Nat}, Nat.ble k 20 = true → k ≤ E.top := fun h => by rw [hT]; exact Nat.le_of_ble_eq_true h
  have hw1 : IntKind.i64.wrap ((N : Int) - 1) = (N : Int) - 1 := W_of (by omega) (by omega)
  obtain ⟨M, ws, ts, tr, o0, o2, o3, o4, o5, x13, x14, x15, js, rfl, hN, hM, hM1, hc, hBd, hr0, hr1⟩ := h
  have hwm : IntKind.i64.wrap ((M : Int) - 1) = (M : Int) - 1 := W_of (by omega) (by omega)
  have e2 : W (bd + 1) = bd + 1 := W_of (by omega) (by omega)
  have e3 : W (tk + (M : Int)) = c := by rw [W_of (by omega) (by omega)]; exact hc
  have htr : tr = bd ∨ tr = bd + 1 := by rcases hBd with h | h <;> omega
  refine Tri.seq (R := fun x s => x = .normal ∧ ∃ bd' js, s = ⟨pre n nl X7 tk bd' i (.v (.ptr 4 0)) (.v (.int .i64 (.lit 3))) x13 x14 x15 ++ junk js 166 16, hB ls ws ts N M c tr ++ row 4 o0 o1 o2 o3 o4 o5, 5, []⟩ ∧ BadR 3 o1 N bd bd') ?_ ?_ (fun x s hx hh => absurd hh.1 hx)
  · refine Tri.allR (m := 16) (n := 166) (codeOK _) (b3 n tk bd i c tr o0 o1 o2 o3 o4 o5 nl N M ls ws ts X7 x13 x14 x15 js hN hN1 hN2 hi hw1 hM hM1 (by omega) hwm) ?_
    clear hBd hr0 hr1
    repeat' (first | refine Tr.all_ite (fun _ => ?_) (fun _ => ?_) | exact Tr.all_ok ⟨rfl, ht rfl, hd _ rfl, fun js => ⟨rfl, _, js, rfl, by rw [e2]; simp only [W, hw1, decide_eq_true_eq, Bool.and_eq_true, beq_iff_eq, beq_eq_false_iff_ne, ne_eq, decide_eq_false_iff_not, bne_iff_ne, bne_eq_false_iff_eq, Decidable.not_not] at *; unfold BadR Bad; omega⟩⟩ | exact Tr.all_ok ⟨rfl, ht rfl, hd _ rfl, fun js => ⟨rfl, _, js, rfl, by simp only [W, hw1, decide_eq_true_eq, Bool.and_eq_true, beq_iff_eq, beq_eq_false_iff_ne, ne_eq, decide_eq_false_iff_not, bne_iff_ne, bne_eq_false_iff_eq, Decidable.not_not] at *; unfold BadR Bad; omega⟩⟩)
  · rintro s ⟨_, bd', js, rfl, hB'⟩
    have := hBd.eq hB'
    subst this
    refine Tri.postE (Q := fun x s => x = .normal ∧ ((∃ js, s = ⟨pre n nl X7 (W (tk + (M : Int))) tr i (.v (.ptr 4 0)) (.v (.int .i64 (.lit 3))) (.v (.ts 3 (.lit 0) (.sym M) none)) x14 x15 ++ junk js 166 16, [(0, some (.rotab ks ls)), (1, some (.tab [.int .u64] ws 28)), (2, some (mO N c tr .nils)), (3, some (.tab ka ts 42))] ++ row 4 o0 o1 o2 o3 o4 o5, 5, []⟩) ∨
        ∃ js, s = ⟨pre n nl X7 tk tr i (.v (.ptr 4 0)) (.v (.int .i64 (.lit 3))) x13 x14 x15 ++ junk js 166 16, hB ls ws ts N M c tr ++ row 4 o0 o1 o2 o3 o4 o5, 5, []⟩)) ?_ ?_
    · refine Tri.allR (m := 16) (n := 166) (codeOK _) (t3 n tk tr i c tr o0 o1 o2 o3 o4 o5 nl N M ls ws ts X7 x13 x14 x15 js hN hN1 hN2 hi hw1 hM hM1 (by omega) hwm)
        (Tr.all_ite (fun _ => Tr.all_ite (fun h => ?_) (fun _ => Tr.all_ite (fun h => ?_) (fun _ => Tr.all_ok ⟨rfl, ht rfl, hd _ rfl, fun js => ⟨rfl, .inl ⟨js, rfl⟩⟩⟩))) (fun _ => Tr.all_ok ⟨rfl, ht rfl, hd _ rfl, fun js => ⟨rfl, .inr ⟨js, rfl⟩⟩⟩))
      · rw [hr0] at h; simp at h
      · rw [hr1] at h; simp at h
    · rintro x s ac wd ⟨rfl, ⟨js, rfl⟩ | ⟨js, rfl⟩⟩ hat
      · obtain ⟨js', h9⟩ := at_rename (dirty' := []) (nid' := 3) (m := 11) (n := 171) (pre := p11 n nl (W (tk + (M : Int))) tr i) (pre' := p11 n nl (W (tk + (M : Int))) tr i) [(0, 0), (1, 1), (2, 2)] rfl (by simp [length_junk]) rfl rfl (by rw [hE]; rfl) (by omega) (by omega) hat
        rw [e3] at h9
        exact ⟨_, h9, rfl, .inl ⟨tr, ws, js' 11, js' 12, js' 13, js' 14, js' 15, js', rfl, hN, by omega, by omega⟩⟩
      · obtain ⟨js', h9⟩ := at_rename (dirty' := []) (nid' := 4) (m := 11) (n := 171) (pre := p11 n nl tk tr i) (pre' := p11 n nl tk tr i) [(0, 0), (1, 1), (2, 2), (3, 3)] rfl (by simp [length_junk]) rfl rfl (by rw [hE]; rfl) (by omega) (by omega) hat
        exact ⟨_, h9, rfl, .inr ⟨tk, tr, ws, ts, M, js' 11, js' 12, js' 13, js' 14, js' 15, js', rfl, hN, hM, hM1, htk, hc, by omega, by omega⟩⟩
theorem accA {bd i c : Int} {ws : List (List Int)} (hN : N = ws.length) (hb0 : 0 ≤ bd) (hb1 : bd ≤ c) (hc0 : 0 ≤ c) (hc2 : c ≤ 100) (hi : 0 ≤ i) (hkr : 0 ≤ kM (tabAt ls i.toNat 0) 4 ∧ kM (tabAt ls i.toNat 0) 4 < 4) (x13 x14 x15 : SV) (js : Nat → SV) :
    Tri MS Try.prog E (.seq (at' [true, false, false, true, true, false]) (.seq (at' [true, false, false, true, true, true, false]) (at' [true, false, false, true, true, true, true])))
      ⟨pre n nl X7 c bd i (.v (.ptr 3 0)) (.v (.int .i64 (.sym (kM (tabAt ls i.toNat 0) 4)))) x13 x14 x15 ++ junk js 166 16, hA ls ws N c bd ++ row 3 (tabAt ls i.toNat 0) (tabAt ls i.toNat 1) (tabAt ls i.toNat 2) (tabAt ls i.toNat 3) (tabAt ls i.toNat 4) (tabAt ls i.toNat 5), 4, []⟩ fun x s => x = .normal ∧ At0 n nl ls N i (c + 1) s := by
  rcases (show kM (tabAt ls i.toNat 0) 4 = 0 ∨ kM (tabAt ls i.toNat 0) 4 = 1 ∨ kM (tabAt ls i.toNat 0) 4 = 2 ∨ kM (tabAt ls i.toNat 0) 4 = 3 by omega) with hk | hk | hk | hk
  · refine Tri.preWk (pre' := pre n nl X7 c bd i (.v (.ptr 3 0)) (.v (.int .i64 (.lit 0))) x13 x14 x15) (hp' := hA ls ws N c bd ++ row 3 (tabAt ls i.toNat 0) (tabAt ls i.toNat 1) (tabAt ls i.toNat 2) (tabAt ls i.toNat 3) (tabAt ls i.toNat 4) (tabAt ls i.toNat 5)) (by (repeat' apply And.intro) <;> first | rfl | exact hk | exact wkS_refl _ | trivial) (by (repeat' apply And.intro) <;> first | rfl | trivial) ?_
    refine Tri.seq (acc0A n nl ls N hN1 hN2 E hE hT hD hN rfl hb0 hb1 (by omega) (by omega) hi x13 x14 x15 js) ?_ (fun x s hx hh => absurd hh.1 hx)
    rintro s ⟨_, h⟩
    exact tail0 n nl ls N hN1 hN2 E hE hT hD h hb0 (by omega) (by omega) (by omega) hi
  · refine Tri.preWk (pre' := pre n nl X7 c bd i (.v (.ptr 3 0)) (.v (.int .i64 (.lit 1))) x13 x14 x15) (hp' := hA ls ws N c bd ++ row 3 (tabAt ls i.toNat 0) (tabAt ls i.toNat 1) (tabAt ls i.toNat 2) (tabAt ls i.toNat 3) (tabAt ls i.toNat 4) (tabAt ls i.toNat 5)) (by (repeat' apply And.intro) <;> first | rfl | exact hk | exact wkS_refl _ | trivial) (by (repeat' apply And.intro) <;> first | rfl | trivial) ?_
    refine Tri.seq (acc1A n nl ls N hN1 hN2 E hE hT hD hN rfl hb0 hb1 (by omega) (by omega) hi x13 x14 x15 js) ?_ (fun x s hx hh => absurd hh.1 hx)
    rintro s ⟨_, h⟩
    exact tail1 n nl ls N hN1 hN2 E hE hT hD h hb0 (by omega) (by omega) (by omega) hi
  · refine Tri.preWk (pre' := pre n nl X7 c bd i (.v (.ptr 3 0)) (.v (.int .i64 (.lit 2))) x13 x14 x15) (hp' := hA ls ws N c bd ++ row 3 (tabAt ls i.toNat 0) (tabAt ls i.toNat 1) (tabAt ls i.toNat 2) (tabAt ls i.toNat 3) (tabAt ls i.toNat 4) (tabAt ls i.toNat 5)) (by (repeat' apply And.intro) <;> first | rfl | exact hk | exact wkS_refl _ | trivial) (by (repeat' apply And.intro) <;> first | rfl | trivial) ?_
    refine Tri.seq (acc2A n nl ls N hN1 hN2 E hE hT hD hN rfl hb0 hb1 (by omega) (by omega) hi x13 x14 x15 js) ?_ (fun x s hx hh => absurd hh.1 hx)
    rintro s ⟨_, h⟩
    exact tail2 n nl ls N hN1 hN2 E hE hT hD h hb0 (by omega) (by omega) (by omega) hi
  · refine Tri.preWk (pre' := pre n nl X7 c bd i (.v (.ptr 3 0)) (.v (.int .i64 (.lit 3))) x13 x14 x15) (hp' := hA ls ws N c bd ++ row 3 (tabAt ls i.toNat 0) (tabAt ls i.toNat 1) (tabAt ls i.toNat 2) (tabAt ls i.toNat 3) (tabAt ls i.toNat 4) (tabAt ls i.toNat 5)) (by (repeat' apply And.intro) <;> first | rfl | exact hk | exact wkS_refl _ | trivial) (by (repeat' apply And.intro) <;> first | rfl | trivial) ?_
    refine Tri.seq (acc3A n nl ls N hN1 hN2 E hE hT hD hN rfl hb0 hb1 (by omega) (by omega) hi x13 x14 x15 js) ?_ (fun x s hx hh => absurd hh.1 hx)
    rintro s ⟨_, h⟩
    exact tail3 n nl ls N hN1 hN2 E hE hT hD h hb0 (by omega) (by omega) (by omega) hi
theorem accB {bd i c : Int} {ws : List (List Int)} {tk : Int} {ts : List (List Int)} {M : Nat} (hM : M = ts.length) (hM1 : 1 ≤ M) (htk : tk + M = c) (htk0 : 0 ≤ tk) (hN : N = ws.length) (hb0 : 0 ≤ bd) (hb1 : bd ≤ c) (hc0 : 0 ≤ c) (hc2 : c ≤ 100) (hi : 0 ≤ i) (hkr : 0 ≤ kM (tabAt ls i.toNat 0) 4 ∧ kM (tabAt ls i.toNat 0) 4 < 4) (x13 x14 x15 : SV) (js : Nat → SV) :
    Tri MS Try.prog E (.seq (at' [true, false, false, true, true, false]) (.seq (at' [true, false, false, true, true, true, false]) (at' [true, false, false, true, true, true, true])))
      ⟨pre n nl X7 tk bd i (.v (.ptr 4 0)) (.v (.int .i64 (.sym (kM (tabAt ls i.toNat 0) 4)))) x13 x14 x15 ++ junk js 166 16, hB ls ws ts N M c bd ++ row 4 (tabAt ls i.toNat 0) (tabAt ls i.toNat 1) (tabAt ls i.toNat 2) (tabAt ls i.toNat 3) (tabAt ls i.toNat 4) (tabAt ls i.toNat 5), 5, []⟩ fun x s => x = .normal ∧ At0 n nl ls N i (c + 1) s := by
  rcases (show kM (tabAt ls i.toNat 0) 4 = 0 ∨ kM (tabAt ls i.toNat 0) 4 = 1 ∨ kM (tabAt ls i.toNat 0) 4 = 2 ∨ kM (tabAt ls i.toNat 0) 4 = 3 by omega) with hk | hk | hk | hk
  · refine Tri.preWk (pre' := pre n nl X7 tk bd i (.v (.ptr 4 0)) (.v (.int .i64 (.lit 0))) x13 x14 x15) (hp' := hB ls ws ts N M c bd ++ row 4 (tabAt ls i.toNat 0) (tabAt ls i.toNat 1) (tabAt ls i.toNat 2) (tabAt ls i.toNat 3) (tabAt ls i.toNat 4) (tabAt ls i.toNat 5)) (by (repeat' apply And.intro) <;> first | rfl | exact hk | exact wkS_refl _ | trivial) (by (repeat' apply And.intro) <;> first | rfl | trivial) ?_
    refine Tri.seq (acc0B n nl ls N hN1 hN2 E hE hT hD hN hM hM1 htk hb0 hb1 (by omega) (by omega) hi x13 x14 x15 js) ?_ (fun x s hx hh => absurd hh.1 hx)
    rintro s ⟨_, h⟩
    exact tail0 n nl ls N hN1 hN2 E hE hT hD h hb0 (by omega) (by omega) (by omega) hi
  · refine Tri.preWk (pre' := pre n nl X7 tk bd i (.v (.ptr 4 0)) (.v (.int .i64 (.lit 1))) x13 x14 x15) (hp' := hB ls ws ts N M c bd ++ row 4 (tabAt ls i.toNat 0) (tabAt ls i.toNat 1) (tabAt ls i.toNat 2) (tabAt ls i.toNat 3) (tabAt ls i.toNat 4) (tabAt ls i.toNat 5)) (by (repeat' apply And.intro) <;> first | rfl | exact hk | exact wkS_refl _ | trivial) (by (repeat' apply And.intro) <;> first | rfl | trivial) ?_
    refine Tri.seq (acc1B n nl ls N hN1 hN2 E hE hT hD hN hM hM1 htk hb0 hb1 (by omega) (by omega) hi x13 x14 x15 js) ?_ (fun x s hx hh => absurd hh.1 hx)
    rintro s ⟨_, h⟩
    exact tail1 n nl ls N hN1 hN2 E hE hT hD h hb0 (by omega) (by omega) (by omega) hi
  · refine Tri.preWk (pre' := pre n nl X7 tk bd i (.v (.ptr 4 0)) (.v (.int .i64 (.lit 2))) x13 x14 x15) (hp' := hB ls ws ts N M c bd ++ row 4 (tabAt ls i.toNat 0) (tabAt ls i.toNat 1) (tabAt ls i.toNat 2) (tabAt ls i.toNat 3) (tabAt ls i.toNat 4) (tabAt ls i.toNat 5)) (by (repeat' apply And.intro) <;> first | rfl | exact hk | exact wkS_refl _ | trivial) (by (repeat' apply And.intro) <;> first | rfl | trivial) ?_
    refine Tri.seq (acc2B n nl ls N hN1 hN2 E hE hT hD hN hM hM1 htk hb0 hb1 (by omega) (by omega) hi x13 x14 x15 js) ?_ (fun x s hx hh => absurd hh.1 hx)
    rintro s ⟨_, h⟩
    exact tail2 n nl ls N hN1 hN2 E hE hT hD h hb0 (by omega) (by omega) (by omega) hi
  · refine Tri.preWk (pre' := pre n nl X7 tk bd i (.v (.ptr 4 0)) (.v (.int .i64 (.lit 3))) x13 x14 x15) (hp' := hB ls ws ts N M c bd ++ row 4 (tabAt ls i.toNat 0) (tabAt ls i.toNat 1) (tabAt ls i.toNat 2) (tabAt ls i.toNat 3) (tabAt ls i.toNat 4) (tabAt ls i.toNat 5)) (by (repeat' apply And.intro) <;> first | rfl | exact hk | exact wkS_refl _ | trivial) (by (repeat' apply And.intro) <;> first | rfl | trivial) ?_
    refine Tri.seq (acc3B n nl ls N hN1 hN2 E hE hT hD hN hM hM1 htk hb0 hb1 (by omega) (by omega) hi x13 x14 x15 js) ?_ (fun x s hx hh => absurd hh.1 hx)
    rintro s ⟨_, h⟩
    exact tail3 n nl ls N hN1 hN2 E hE hT hD h hb0 (by omega) (by omega) (by omega) hi
variable (hl : nl = ls.length) (hf : RFits ks ls)
include hl hf
theorem roundA {bd i c : Int} {ws : List (List Int)} (hN : N = ws.length) (hb0 : 0 ≤ bd) (hb1 : bd ≤ c) (hc : c = i) (hi : 0 ≤ i ∧ i ≤ 80) (x11 x12 x13 x14 x15 : SV) (js : Nat → SV) :
    Tri MS Try.prog E lbody (SA n nl ls N c bd i c ws x11 x12 x13 x14 x15 js) fun x s => (x = .normal ∧ i < nl ∧ i < 80 ∧ At0 n nl ls N (i + 1) (c + 1) s) ∨ (x = .exit 0 ∧ (¬ i < nl ∨ ¬ i < 80) ∧ At0 n nl ls N i c s) := by
  have hd : ∀ (l : List Nat), l.all (Nat.ble 1) = true → ∀ b, b ∈ l → E.D b := fun l hl b hb => hD b (Nat.le_of_ble_eq_true (List.all_eq_true.1 hl b hb))
  have ht : ∀ {k : Nat}, Nat.ble k 20 = true → k ≤ E.top := fun h => by rw [hT]; exact Nat.le_of_ble_eq_true h
  have hw1 : IntKind.i64.wrap ((N : Int) - 1) = (N : Int) - 1 := W_of (by omega) (by omega)
  have hw2 : IntKind.i64.wrap ((N : Int) - 2) = (N : Int) - 2 := wrap_i64_of (by omega) (by omega)
  have back := fun x11 x12 x13 x14 x15 js => (.inl ⟨bd, ws, x11, x12, x13, x14, x15, js, rfl, hN, hb0, hb1⟩ : At0 n nl ls N i c (SA n nl ls N c bd i c ws x11 x12 x13 x14 x15 js))
  refine Tri.seq (R := fun x s => ∃ js, s = SA n nl ls N c bd i c ws x11 x12 x13 x14 x15 js ∧ ((x = .normal ∧ i < nl ∧ i < 80) ∨ (x = .exit 0 ∧ (¬ i < nl ∨ ¬ i < 80)))) ?_ ?_ ?_
  · exact Tri.allR (m := 16) (n := 166) (codeOK _) (gA n c bd i c bd nl N ls ws X7 x11 x12 x13 x14 x15 js hN hN1 hN2 (by omega) (by omega) hi.1 hw1 hw2) (Tr.all_ite (fun h1 => Tr.all_ite (fun h2 => Tr.all_ok ⟨rfl, ht rfl, hd _ rfl, fun js => ⟨js, rfl, .inl ⟨rfl, of_decide_eq_true h1, of_decide_eq_true h2⟩⟩⟩) fun h2 => Tr.all_ok ⟨rfl, ht rfl, hd _ rfl, fun js => ⟨js, rfl, .inr ⟨rfl, .inr (of_decide_eq_false h2)⟩⟩⟩) fun h1 => Tr.all_ok ⟨rfl, ht rfl, hd _ rfl, fun js => ⟨js, rfl, .inr ⟨rfl, .inl (of_decide_eq_false h1)⟩⟩⟩)
  · rintro s ⟨js, rfl, h | h⟩
    rotate_left
    · cases h.1
    obtain ⟨_, hin, hi80⟩ := h
    have hix : i.toNat < ls.length := by omega
    have hkr := kM_range (c := tabAt ls i.toNat 0) (n := 4) (by decide) (tab_fits hf hix (j := 0) rfl)
    refine Tri.seq (R := fun x s => x = .normal ∧ At0 n nl ls N i (c + 1) s) ?_ ?_ (fun x s hx hh => absurd hh.1 hx)
    · refine Tri.block (R := fun x s => x = .normal ∧ At0 n nl ls N i (c + 1) s) ?_ (fun s hh => by
        rcases hh with hh | hh
        · exact hh
        · cases hh.1) (fun x s hx _ hh => absurd hh.1 hx)
      exact Tri.listR (m := 16) (n := 166) (l := [at' [true, false, false, false], at' [true, false, false, true, false]]) (c' := .seq (at' [true, false, false, true, true, false]) (.seq (at' [true, false, false, true, true, true, false]) (at' [true, false, false, true, true, true, true]))) codeOK 2 rfl rfl (oA n c bd i c bd nl N ls ws X7 x11 x12 x13 x14 x15 js hN hN1 hN2 (by omega) (by omega) hi.1 hw1 hw2 hin hl)
        (Tr.all_ok ⟨rfl, rfl, ht rfl, hd _ rfl, fun js => accA n nl ls N hN1 hN2 E hE hT hD hN hb0 hb1 (by omega) (by omega) hi.1 hkr x13 x14 x15 js⟩)
    · have e4 : W (i + 1) = i + 1 := W_of (by omega) (by omega)
      rintro s ⟨_, ⟨bd', ws', y11, y12, y13, y14, y15, js', rfl, g1, g2, g3⟩ | ⟨tk', bd', ws', ts', M', y11, y12, y13, y14, y15, js', rfl, g1, g2, g3, g4, g5, g6, g7⟩⟩
      · refine Tri.allR (m := 16) (n := 166) (codeOK _) (incA n (c + 1) bd' i (c + 1) bd' nl N ls ws' X7 y11 y12 y13 y14 y15 js' hi.1) (Tr.all_ok ⟨rfl, ht rfl, hd _ rfl, fun js => .inl ⟨rfl, hin, hi80, ?_⟩⟩)
        rw [← e4]
        exact .inl ⟨bd', ws', y11, y12, y13, y14, y15, js, rfl, g1, g2, g3⟩
      · refine Tri.allR (m := 16) (n := 166) (codeOK _) (incB n tk' bd' i (c + 1) bd' nl N M' ls ws' ts' X7 y11 y12 y13 y14 y15 js' hi.1) (Tr.all_ok ⟨rfl, ht rfl, hd _ rfl, fun js => .inl ⟨rfl, hin, hi80, ?_⟩⟩)
        rw [← e4]
        exact .inr ⟨tk', bd', ws', ts', M', y11, y12, y13, y14, y15, js, rfl, g1, g2, g3, g4, g5, g6, g7⟩
  · rintro x s hx ⟨js, rfl, h | h⟩
    · exact absurd h.1 hx
    · exact .inr ⟨h.1, h.2, back x11 x12 x13 x14 x15 js⟩
theorem roundB {bd i c : Int} {ws : List (List Int)} {tk : Int} {ts : List (List Int)} {M : Nat} (hM : M = ts.length) (hM1 : 1 ≤ M) (htk : tk + M = c) (htk0 : 0 ≤ tk) (hN : N = ws.length) (hb0 : 0 ≤ bd) (hb1 : bd ≤ c) (hc : c = i) (hi : 0 ≤ i ∧ i ≤ 80) (x11 x12 x13 x14 x15 : SV) (js : Nat → SV) :
    Tri MS Try.prog E lbody (SB n nl ls N tk bd i c ws ts M x11 x12 x13 x14 x15 js) fun x s => (x = .normal ∧ i < nl ∧ i < 80 ∧ At0 n nl ls N (i + 1) (c + 1) s) ∨ (x = .exit 0 ∧ (¬ i < nl ∨ ¬ i < 80) ∧ At0 n nl ls N i c s) := by
  have hd : ∀ (l : List Nat), l.all (Nat.ble 1) = true → ∀ b, b ∈ l → E.D b := fun l hl b hb => hD b (Nat.le_of_ble_eq_true (List.all_eq_true.1 hl b hb))
  have ht : ∀ {k : Nat}, Nat.ble k 20 = true → k ≤ E.top := fun h => by rw [hT]; exact Nat.le_of_ble_eq_true h
  have hw1 : IntKind.i64.wrap ((N : Int) - 1) = (N : Int) - 1 := W_of (by omega) (by omega)
  have hw2 : IntKind.i64.wrap ((N : Int) - 2) = (N : Int) - 2 := wrap_i64_of (by omega) (by omega)
  have back := fun x11 x12 x13 x14 x15 js => (.inr ⟨tk, bd, ws, ts, M, x11, x12, x13, x14, x15, js, rfl, hN, hM, hM1, htk0, htk, hb0, hb1⟩ : At0 n nl ls N i c (SB n nl ls N tk bd i c ws ts M x11 x12 x13 x14 x15 js))
  refine Tri.seq (R := fun x s => ∃ js, s = SB n nl ls N tk bd i c ws ts M x11 x12 x13 x14 x15 js ∧ ((x = .normal ∧ i < nl ∧ i < 80) ∨ (x = .exit 0 ∧ (¬ i < nl ∨ ¬ i < 80)))) ?_ ?_ ?_
  · exact Tri.allR (m := 16) (n := 166) (codeOK _) (gB n tk bd i c bd nl N M ls ws ts X7 x11 x12 x13 x14 x15 js hN hN1 hN2 (by omega) (by omega) hi.1 hw1 hw2 hM hM1 (by omega)) (Tr.all_ite (fun h1 => Tr.all_ite (fun h2 => Tr.all_ok ⟨rfl, ht rfl, hd _ rfl, fun js => ⟨js, rfl, .inl ⟨rfl, of_decide_eq_true h1, of_decide_eq_true h2⟩⟩⟩) fun h2 => Tr.all_ok ⟨rfl, ht rfl, hd _ rfl, fun js => ⟨js, rfl, .inr ⟨rfl, .inr (of_decide_eq_false h2)⟩⟩⟩) fun h1 => Tr.all_ok ⟨rfl, ht rfl, hd _ rfl, fun js => ⟨js, rfl, .inr ⟨rfl, .inl (of_decide_eq_false h1)⟩⟩⟩)
  · rintro s ⟨js, rfl, h | h⟩
    rotate_left
    · cases h.1
    obtain ⟨_, hin, hi80⟩ := h
    have hix : i.toNat < ls.length := by omega
    have hkr := kM_range (c := tabAt ls i.toNat 0) (n := 4) (by decide) (tab_fits hf hix (j := 0) rfl)
    refine Tri.seq (R := fun x s => x = .normal ∧ At0 n nl ls N i (c + 1) s) ?_ ?_ (fun x s hx hh => absurd hh.1 hx)
    · refine Tri.block (R := fun x s => x = .normal ∧ At0 n nl ls N i (c + 1) s) ?_ (fun s hh => by
        rcases hh with hh | hh
        · exact hh
        · cases hh.1) (fun x s hx _ hh => absurd hh.1 hx)
      exact Tri.listR (m := 16) (n := 166) (l := [at' [true, false, false, false], at' [true, false, false, true, false]]) (c' := .seq (at' [true, false, false, true, true, false]) (.seq (at' [true, false, false, true, true, true, false]) (at' [true, false, false, true, true, true, true]))) codeOK 2 rfl rfl (oB n tk bd i c bd nl N M ls ws ts X7 x11 x12 x13 x14 x15 js hN hN1 hN2 (by omega) (by omega) hi.1 hw1 hw2 hM hM1 (by omega) hin hl)
        (Tr.all_ok ⟨rfl, rfl, ht rfl, hd _ rfl, fun js => accB n nl ls N hN1 hN2 E hE hT hD hM hM1 htk htk0 hN hb0 hb1 (by omega) (by omega) hi.1 hkr x13 x14 x15 js⟩)
    · have e4 : W (i + 1) = i + 1 := W_of (by omega) (by omega)
      rintro s ⟨_, ⟨bd', ws', y11, y12, y13, y14, y15, js', rfl, g1, g2, g3⟩ | ⟨tk', bd', ws', ts', M', y11, y12, y13, y14, y15, js', rfl, g1, g2, g3, g4, g5, g6, g7⟩⟩
      · refine Tri.allR (m := 16) (n := 166) (codeOK _) (incA n (c + 1) bd' i (c + 1) bd' nl N ls ws' X7 y11 y12 y13 y14 y15 js' hi.1) (Tr.all_ok ⟨rfl, ht rfl, hd _ rfl, fun js => .inl ⟨rfl, hin, hi80, ?_⟩⟩)
        rw [← e4]
        exact .inl ⟨bd', ws', y11, y12, y13, y14, y15, js, rfl, g1, g2, g3⟩
      · refine Tri.allR (m := 16) (n := 166) (codeOK _) (incB n tk' bd' i (c + 1) bd' nl N M' ls ws' ts' X7 y11 y12 y13 y14 y15 js' hi.1) (Tr.all_ok ⟨rfl, ht rfl, hd _ rfl, fun js => .inl ⟨rfl, hin, hi80, ?_⟩⟩)
        rw [← e4]
        exact .inr ⟨tk', bd', ws', ts', M', y11, y12, y13, y14, y15, js, rfl, g1, g2, g3, g4, g5, g6, g7⟩
  · rintro x s hx ⟨js, rfl, h | h⟩
    · exact absurd h.1 hx
    · exact .inr ⟨h.1, h.2, back x11 x12 x13 x14 x15 js⟩
end
theorem resX (n : Int) (nl : Nat) (x7 x8 x9 x10 x11 x12 x13 x14 x15 : SV) (hp : HP MObj) (nid : Nat) (r : Bool) (js : Nat → SV) : vresults Try.prog (⟨[.v (ii n), .v (.an 0 (.sym nl)), .t [], .t [], .v (.bool (.sym r)), .v (.bool (.lit true)), .v (.ptr 2 0), x7, x8, x9, x10, x11, x12, x13, x14, x15] ++ junk js 166 16, hp, nid, []⟩ : St MObj) Try.f4.results.toList = .ok [.one (.bool (.sym r))] := by kernel_rfl
theorem runs (n : Int) (hn : -9223372036854775808 ≤ n ∧ n ≤ 9223372036854775807) (nl : Nat) (ls : List (List Int)) (hl : nl = ls.length) (hf : RFits ks ls) (E : Ctx MObj) (hE : E.nid0 = 1) (hT : E.top = 20) (hD : ∀ b, 1 ≤ b → E.D b) :
    Tri MS Try.prog E body ⟨[.v (ii n), .v (.an 0 (.sym nl))] ++ List.replicate (nt - 2) .undef, [(0, some (.rotab ks ls))], 1, []⟩
      fun x st => (x = .normal ∨ x = .ret) ∧ ∃ l, (vresults Try.prog st Try.f4.results.toList).run = some l ∧ IsTrue (tupleOf l) := by
  have hd : ∀ (l : List Nat), l.all (Nat.ble 1) = true → ∀ b, b ∈ l → E.D b := fun l hl b hb => hD b (Nat.le_of_ble_eq_true (List.all_eq_true.1 hl b hb))
  have ht : ∀ {k : Nat}, Nat.ble k 20 = true → k ≤ E.top := fun h => by rw [hT]; exact Nat.le_of_ble_eq_true h
  have hkn := kM_range (c := n) (n := 64) (by decide) hn
  have ew : W (1 + kM n 64) = 1 + kM n 64 := W_of (by omega) (by omega)
  obtain ⟨N, hNe⟩ : ∃ N, N = Int.toNat (W (1 + kM n 64)) := ⟨_, rfl⟩
  have hN1 : 1 ≤ N := by omega
  have hN2 : N ≤ 64 := by omega
  refine Tri.listR (m := 16) (n := 166) (l := (Eng.spine 6 body).1) codeOK 6 rfl restE (start n nl ls hkn.1 hkn.2 ew) (Tr.all_ok ⟨rfl, rfl, ht rfl, hd _ rfl, fun js => ?_⟩)
  refine (?_ : Tri MS Try.prog E _ ⟨(start_l0 n nl ls).pre ++ junk js 166 16, [(0, some (.rotab ks ls)), (1, some (.tab [.int .u64] (List.replicate (Int.toNat (W (1 + kM n 64))) [0]) 28)), (2, some (.cells [.ts 1 (.lit 0) (.sym (Int.toNat (W (1 + kM n 64)))) none, .int .i64 (.lit 0), .int .i64 (.lit 0), .nils] 81))], 3, []⟩ _)
  rw [← hNe]
  refine Tri.preWk (pre' := [.v (ii n), .v (.an 0 (.sym nl)), .t [], .t [], .v (.bool (.lit false)), .v (.bool (.lit true)), .v (.ptr 2 0), X7, X7, X7, .t [], .t [], .t [], .t [], .t [], .t []]) (hp' := hA ls (List.replicate N [0]) N 0 0) (by (repeat' apply And.intro) <;> first | rfl | trivial) (by (repeat' apply And.intro) <;> first | rfl | trivial) ?_
  refine Tri.seq (R := fun x s => x = .normal ∧ ∃ i : Int, 0 ≤ i ∧ i ≤ 80 ∧ i ≤ nl ∧ (¬ i < nl ∨ ¬ i < 80) ∧ At0 n nl ls N i i s) ?_ ?_ (fun x s hx hh => absurd hh.1 hx)
  · refine Tri.seq (R := fun x s => x = .normal ∧ ∃ js, s = ⟨[.v (ii n), .v (.an 0 (.sym nl)), .t [], .t [], .v (.bool (.lit false)), .v (.bool (.lit true)), .v (.ptr 2 0), X7, X7, X7, .v (.int .i64 (.lit 0)), .t [], .t [], .t [], .t [], .t []] ++ junk js 166 16, hA ls (List.replicate N [0]) N 0 0, 3, []⟩) (Tri.allR (m := 16) (n := 166) (codeOK _) (init n nl N ls (List.replicate N [0]) X7 X7 X7 (.t []) (.t []) (.t []) (.t []) (.t []) (.t []) js (Nat.zero_le _)) (Tr.all_ok ⟨rfl, ht rfl, hd _ rfl, fun js => ⟨rfl, js, rfl⟩⟩)) ?_ (fun x s hx hh => absurd hh.1 hx)
    rintro s ⟨_, js, rfl⟩
    refine Tri.preWk (pre' := pre n nl X7 0 0 0 (.t []) (.t []) (.t []) (.t []) (.t [])) (hp' := hA ls (List.replicate N [0]) N 0 0) (by (repeat' apply And.intro) <;> first | rfl | trivial) (by (repeat' apply And.intro) <;> first | rfl | trivial) ?_
    refine Tri.block (R := fun x s => x = .exit 0 ∧ ∃ i : Int, 0 ≤ i ∧ i ≤ 80 ∧ i ≤ nl ∧ (¬ i < nl ∨ ¬ i < 80) ∧ At0 n nl ls N i i s) ?_ (fun s hh => by
      rcases hh with hh | hh
      · cases hh.1
      · exact ⟨rfl, hh.2⟩) (fun x s _ hx hh => absurd hh.1 hx)
    refine Tri.loop (J := fun q s => ∃ i : Int, 0 ≤ i ∧ i ≤ 80 ∧ i ≤ nl ∧ At0 n nl ls N i i s ∧ q = (80 - i).toNat) ?_ (k := (80 - 0 : Int).toNat) ⟨0, by decide, by decide, by omega, .inl ⟨0, List.replicate N [0], .t [], .t [], .t [], .t [], .t [], js, rfl, by simp, by decide, by decide⟩, rfl⟩
    rintro q s ⟨i, h0, h1, h2, h3, rfl⟩
    have step : Tri MS Try.prog E lbody s fun x s => (x = .normal ∧ i < nl ∧ i < 80 ∧ At0 n nl ls N (i + 1) (i + 1) s) ∨ (x = .exit 0 ∧ (¬ i < nl ∨ ¬ i < 80) ∧ At0 n nl ls N i i s) := by
      rcases h3 with ⟨bd', ws', y11, y12, y13, y14, y15, js', rfl, g1, g2, g3⟩ | ⟨tk', bd', ws', ts', M', y11, y12, y13, y14, y15, js', rfl, g1, g2, g3, g4, g5, g6, g7⟩
      · exact roundA n nl ls N hN1 hN2 E hE hT hD hl hf g1 g2 g3 rfl ⟨h0, h1⟩ y11 y12 y13 y14 y15 js'
      · exact roundB n nl ls N hN1 hN2 E hE hT hD hl hf g2 g3 g5 g4 g1 g6 g7 rfl ⟨h0, h1⟩ y11 y12 y13 y14 y15 js'
    refine step.mono ?_
    rintro x s (⟨rfl, a1, a2, a3⟩ | ⟨rfl, a1, a2⟩)
    · exact ⟨(80 - (i + 1)).toNat, by omega, i + 1, by omega, by omega, by omega, a3, rfl⟩
    · exact ⟨rfl, i, h0, h1, h2, a1, a2⟩
  · rintro s ⟨_, i, h0, h1, h2, h3, ⟨bd', ws', y11, y12, y13, y14, y15, js', rfl, g1, g2, g3⟩ | ⟨tk', bd', ws', ts', M', y11, y12, y13, y14, y15, js', rfl, g1, g2, g3, g4, g5, g6, g7⟩⟩
    · refine Tri.allR (m := 16) (n := 166) (codeOK _) (finA n i bd' i i bd' nl N ls ws' X7 y11 y12 y13 y14 y15 js' h0) (Tr.all_ite (fun _ => Tr.all_ite (fun _ => Tr.all_ok ⟨rfl, ht rfl, hd _ rfl, fun js => ⟨.inr rfl, _, (congrArg Tr.run (resX n nl _ _ _ _ _ _ _ _ _ _ _ _ js)).trans rfl, by simp [IsTrue, tupleOf]; rfl⟩⟩) fun h => ?_) fun h => ?_)
      · rw [W_of (by omega) (by omega)] at h; simp at h
      · exfalso
        simp only [beq_eq_false_iff_ne, ne_eq] at h
        apply h
        split <;> omega
    · refine Tri.allR (m := 16) (n := 166) (codeOK _) (finB n tk' bd' i i bd' nl N M' ls ws' ts' X7 y11 y12 y13 y14 y15 js' h0) (Tr.all_ite (fun _ => Tr.all_ite (fun _ => Tr.all_ok ⟨rfl, ht rfl, hd _ rfl, fun js => ⟨.inr rfl, _, (congrArg Tr.run (resX n nl _ _ _ _ _ _ _ _ _ _ _ _ js)).trans rfl, by simp [IsTrue, tupleOf]; rfl⟩⟩) fun h => ?_) fun h => ?_)
      · rw [W_of (by omega) (by omega), g5] at h; simp at h
      · exfalso
        simp only [beq_eq_false_iff_ne, ne_eq] at h
        apply h
        split <;> omega

abbrev ts : List TypeId := [3, 22]
theorem hts : Try.f4.params.toList = ts := by kernel_rfl
theorem arg0 (n : Int) : (SV.s (mkS1 Try.prog 3 [.int .i64] [n])) = .v (ii n) := by kernel_rfl
theorem core (w : World) (vals : List Value) (ha : F2 (ArgOK Try.prog w) ts vals) :
    Calls Try.prog 4 vals.toArray w fun e W' => ∃ v, e = .returned v ∧ v = .bool true ∧ Below w.heap.size w W' := by
  obtain ⟨u, v, rfl⟩ : ∃ u v, vals = [u, v] := by
    match vals, ha with
    | [u, v], _ => exact ⟨u, v, rfl⟩
    | [], ha => exact ha.elim
    | [_], ha => exact ha.2.elim
    | _ :: _ :: _ :: _, ha => exact ha.2.2.elim
  obtain ⟨ns, cs, hcs, hr⟩ := arg_plain (ks := [.int .i64]) ha.1 (by kernel_rfl)
  obtain ⟨n0, rfl, hfit⟩ : ∃ n0, ns = [n0] ∧ CK.fits (.int .i64) n0 := by
    have := hcs.fits'
    match ns, this with
    | [n0], h => exact ⟨n0, rfl, h.1⟩
    | [], h => exact h.elim
    | _ :: _ :: _, h => exact h.2.elim
  obtain ⟨xs, p, hf, hlen, hall⟩ := arg_slice (e := 31) (ks := ks) ha.2.1 (by kernel_rfl) (by kernel_rfl) (by kernel_rfl) (by decide)
  let ρ0 : Rho := fun b => match b with | 0 => some p | _ + 1 => none
  have hρ : ∀ b, 1 ≤ b → ρ0 b = none := fun b hb => by
    match b, hb with
    | b + 1, _ => rfl
  have hr0 : RS ρ0 (.s (mkS1 Try.prog 3 [.int .i64] [n0])) u := hr ρ0
  rw [arg0] at hr0
  refine (calls_of_triA (S := MS) (vargs := [u, v]) (R := IsTrue) Try.func4 hb 1 20 (by omega) hρ (hp := [(0, some (.rotab ks xs))]) (fun b o ho => ?_) (runs n0 hfit xs.length xs rfl hf _ rfl rfl (fun b hb => hb)) ⟨hr0, (hall MS ρ0 0 rfl).1, trivial⟩).mono ?_
  · match b, ho with
    | 0, ho =>
      injection ho with ho
      subst ho
      exact (hall MS ρ0 0 rfl).2
    | b + 1, ho => cases ho
  · rintro e w' ⟨v, x, ρ, rfl, hv, hR, hbel⟩
    exact ⟨v, rfl, hR.value hv, hbel⟩
theorem own : ownKnob Try.prog.godebug = none := by kernel_rfl
theorem lifted {H : Type} (os : Os) (started : os.Started) (enc : TypeId × Value → H) : ReturnsInHanded {} Try.checked os 4 .any (Rows.memCountsSpec.pre6 enc Try.prog Try.f4 Rows.memCountsRow.domain false) (Rows.memCountsSpec.post enc Try.prog Try.f4 false true false false) :=
  law_lifted own started (by kernel_rfl) (by kernel_rfl)
    (ChangeSpec.witness6 (enc := enc) (C := Try.checked) false ⟨#[], #[.int .i64 0, .slice none 0 0], []⟩ 8 (by kernel_rfl) (by kernel_rfl) (by kernel_rfl) (by kernel_rfl))
    (tb := 4) (by kernel_rfl) (by kernel_rfl) rfl
    (fun ds hd => by
      match ds, hd with
      | [_, _], _ => exact ⟨rfl, rfl, rfl⟩)
    (by kernel_rfl) (by kernel_rfl) (fun W vals ha => core W vals (hts ▸ ha))
theorem proved : Rows.MemCountsSaid :=
  OpenClaim.holds_of_wide 4 Try.f4 rfl rfl rfl rfl rfl rfl rfl ⟨rfl, rfl, rfl, rfl, rfl⟩ rfl rfl rfl rfl rfl (by kernel_rfl) Try.func4 (by kernel_rfl) (of_decide_eq_true (by kernel_rfl))
    (by unfold Func.isWrapper; first | (rw [if_pos (by decide +kernel)]; kernel_rfl) | (rw [if_neg (by decide +kernel)]; exact ⟨rfl, rfl⟩))
    (fun os started H enc _ => lifted os started enc)
end Go.Proofs.Ytnlfphlmlklofaa.MemCounts
