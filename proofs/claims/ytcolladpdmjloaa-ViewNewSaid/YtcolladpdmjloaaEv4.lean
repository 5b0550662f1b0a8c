/-
  The methods of the memories (mem.Memory, flitref04.Memory), as functions of words and counts. Printed by gen4.py.
-/
import Derived.Test.YtcolladpdmjloaaEv0
namespace Go.Proofs.Ytcolladpdmjloaa.Eng
open Go Go.RowKit
set_option linter.unusedVariables false
set_option linter.unusedSimpArgs false
set_option maxRecDepth 20000

def mx (a : Int) : Int := if (0 : Int) > a then 0 else a
def row (a : Int) (k : Nat) : Nat := 0 + (mx a).toNat + k
theorem mx_of {a : Int} (h : 0 ≤ a) : mx a = a := by unfold mx; rw [if_neg (by omega)]
theorem row_of {a : Int} (h : 0 ≤ a) (k : Nat) : row a k = a.toNat + k := by unfold row; rw [mx_of h]; omega
def bit (b : Bool) : Int := match b with | true => 1 | false => 0
def okc (c : Int) : Bool := decide (0 ≤ c) && decide (c ≤ 1099511627776)
def inb (a : Int) (n : Nat) : Bool := decide (0 ≤ a) && decide (a < n)
def inb2 (a : Int) (n : Nat) : Bool := decide (0 ≤ a) && (decide (a + 1 < n) && (a.tmod 2 == 0))
theorem okc_iff {c : Int} : okc c = true ↔ 0 ≤ c ∧ c ≤ 1099511627776 := by simp [okc]
theorem inb_iff {a : Int} {n : Nat} : inb a n = true ↔ 0 ≤ a ∧ a < n := by simp [inb]
theorem inb_no {a : Int} {n : Nat} : inb a n = false ↔ ¬(0 ≤ a ∧ a < n) := by rw [← inb_iff, Bool.not_eq_true]
theorem inb2_iff {a : Int} {n : Nat} : inb2 a n = true ↔ 0 ≤ a ∧ a + 1 < n ∧ a.tmod 2 = 0 := by simp [inb2]
theorem inb2_no {a : Int} {n : Nat} : inb2 a n = false ↔ ¬(0 ≤ a ∧ a + 1 < n ∧ a.tmod 2 = 0) := by rw [← inb2_iff, Bool.not_eq_true]
def mLoad (xs : List Int) (a c t : Int) : Tr MR := .ite (okc c) (.ite (inb a xs.length) (.ok ⟨.v (uu (xs.getD a.toNat 0)), xs, c + 1, t⟩) (.ok ⟨.v (.int .u64 (.lit 0)), xs, c + 1, W (t + 1)⟩)) (.no "memory: counts")
def mStore (xs : List Int) (a w c t : Int) : Tr MR := .ite (okc c) (.ite (inb a xs.length) (.ok ⟨.undef, xs.set a.toNat w, c + 1, t⟩) (.ok ⟨.undef, xs, c + 1, W (t + 1)⟩)) (.no "memory: counts")
def mCAS (xs : List Int) (a o w c t : Int) : Tr MR := .ite (okc c) (.ite (inb a xs.length) (.ite (xs.getD a.toNat 0 == o) (.ok ⟨.v (.bool (.lit true)), xs.set a.toNat w, c + 1, t⟩) (.ok ⟨.v (.bool (.lit false)), xs, c + 1, t⟩))
  (.ok ⟨.v (.bool (.lit false)), xs, c + 1, W (t + 1)⟩)) (.no "memory: counts")
def mCAS2 (xs : List Int) (a o0 o1 w0 w1 c t : Int) : Tr MR := .ite (okc c) (.ite (inb2 a xs.length)
  (.ite (xs.getD a.toNat 0 == o0) (.ite (xs.getD (a.toNat + 1) 0 == o1) (.ok ⟨.v (.bool (.lit true)), (xs.set a.toNat w0).set (a.toNat + 1) w1, c + 1, t⟩) (.ok ⟨.v (.bool (.lit false)), xs, c + 1, t⟩)) (.ok ⟨.v (.bool (.lit false)), xs, c + 1, t⟩))
  (.ok ⟨.v (.bool (.lit false)), xs, c + 1, W (t + 1)⟩)) (.no "memory: counts")
def gLoad : List SV → List Int → Int → Int → Tr MR
  | [.s (.one (.int .i64 a))], xs, c, t => mLoad xs a.val c t
  | _, _, _, _ => .no "Load: arguments"
def gStore : List SV → List Int → Int → Int → Tr MR
  | [.s (.one (.int .i64 a)), .s (.one (.int .u64 w))], xs, c, t => mStore xs a.val w.val c t
  | _, _, _, _ => .no "Store: arguments"
def gCAS : List SV → List Int → Int → Int → Tr MR
  | [.s (.one (.int .i64 a)), .s (.one (.int .u64 o)), .s (.one (.int .u64 w))], xs, c, t => mCAS xs a.val o.val w.val c t
  | _, _, _, _ => .no "CAS: arguments"
def gCAS2 : List SV → List Int → Int → Int → Tr MR
  | [.s (.one (.int .i64 a)), .s (.one (.int .u64 o0)), .s (.one (.int .u64 o1)), .s (.one (.int .u64 w0)), .s (.one (.int .u64 w1))], xs, c, t => mCAS2 xs a.val o0.val o1.val w0.val w1.val c t
  | _, _, _, _ => .no "CAS2: arguments"
def gCount : List SV → List Int → Int → Int → Tr MR
  | [], xs, c, t => .ok ⟨.v (ii c), xs, c, t⟩
  | _, _, _, _ => .no "Count: arguments"
def gTraps : List SV → List Int → Int → Int → Tr MR
  | [], xs, c, t => .ok ⟨.v (ii t), xs, c, t⟩
  | _, _, _, _ => .no "Traps: arguments"
def gLen : List SV → List Int → Int → Int → Tr MR
  | [], xs, c, t => .ok ⟨.v (ii xs.length), xs, c, t⟩
  | _, _, _, _ => .no "Len: arguments"
theorem isMem_of {tyA tyW : TypeId} {hp : HP MObj} {ty : TypeId} {n : SN} {x2 : Nat} {m : SN} {ls : List (List Int)} {xs : List Int} {rows : List (List Int)} {c t : Int} {c' t' : SI}
    (h0 : hget hp 0 = some (.cells [.ts 1 (.lit 0) n none, .int .i64 c', .int .i64 t', .ts x2 (.lit 0) m none] ty)) (h1 : hget hp 1 = some (.tab [.int .u64] rows tyW)) (h2 : hget hp x2 = some (.tab ckA ls tyA))
    (hx : 2 ≤ x2) (hn : n.val = xs.length) (hr : rows = rowsW xs) (hm : m.val = ls.length) (hl : 0 < ls.length ∧ ls.length ≤ c.toNat) (hc : c'.val = c) (ht : t'.val = t) : IsMem tyW tyA (hget hp) 0 1 x2 ty xs c t := by
  subst hr
  exact ⟨by omega, by omega, by omega, ⟨n, _, _, _, h0, hn, .inr ⟨m, ls, rfl, h2, hm, hl⟩, hc, ht⟩, h1⟩
theorem isMem_nil {tyA tyW : TypeId} {hp : HP MObj} {ty : TypeId} {n : SN} {xs : List Int} {rows : List (List Int)} {c t : Int} {c' t' : SI} {x1 x2 a : Nat}
    (h0 : hget hp a = some (.cells [.ts x1 (.lit 0) n none, .int .i64 c', .int .i64 t', .nils] ty)) (h1 : hget hp x1 = some (.tab [.int .u64] rows tyW)) (h2 : hget hp x2 = none) (n1 : a ≠ x1) (n2 : a ≠ x2) (n3 : x1 ≠ x2)
    (hn : n.val = xs.length) (hr : rows = rowsW xs) (hc : c'.val = c) (ht : t'.val = t) : IsMem tyW tyA (hget hp) a x1 x2 ty xs c t := by
  subst hr
  exact ⟨n1, n2, n3, ⟨n, _, _, _, h0, hn, .inl ⟨rfl, h2⟩, hc, ht⟩, h1⟩

namespace mLoad
variable (xs : List Int) (c t : Int) (ls : List (List Int)) (a : Int)
noncomputable abbrev t0 : Tr (SV × HP MObj) := (ev0 20 [.v (.ptr 0 0), .v (ii a)] (memIn 79 53 xs c t .nils none) 3).vmap vh
theorem c0yes : (t0 xs c t a ).conds [true, true, true, true, true, true, true, true, true] = [decide (a ≥ 0), decide (a ≤ W ((xs.length : Int) - 1)), decide (0 ≤ mx a), decide (mx a ≤ (xs.length : Int)), decide ((xs.length : Int) ≤ (xs.length : Int)), decide ((xs.length : Int) ≤ (xs.length : Int)), decide (mx a < (xs.length : Int)), (decide ((0 : Int) ≤ 0) && decide ((0 : Int) < (((xs.length : Int).toNat - (mx a).toNat : Nat) : Int))), decide (row a 0 < (rowsW xs).length)] := by kernel_rfl
theorem p0yes : (t0 xs c t a ).path [true, true, true, true, true, true, true, true, true] = .ok (.v (uu (tabAt (rowsW xs) (row a 0) 0)), [(0, some (.cells [.ts 1 (.lit 0) (.sym xs.length) none, .int .i64 (.sym (W (c + 1))), .int .i64 (.sym t), .ts 5 (.lit 0) (.lit 1) none] 79)), (1, some (.tab [.int .u64] (rowsW xs) 53)), (5, some (.tab ckA [[1, a, 1]] 96))]) := by kernel_rfl
theorem c0no1 : (t0 xs c t a ).conds [false] = [decide (a ≥ 0)] := by kernel_rfl
theorem p0no1 : (t0 xs c t a ).path [false] = .ok (.v (.int .u64 (.lit 0)), [(0, some (.cells [.ts 1 (.lit 0) (.sym xs.length) none, .int .i64 (.sym (W (c + 1))), .int .i64 (.sym (W (t + 1))), .ts 5 (.lit 0) (.lit 1) none] 79)), (1, some (.tab [.int .u64] (rowsW xs) 53)), (5, some (.tab ckA [[1, a, 0]] 96))]) := by kernel_rfl
theorem c0no2 : (t0 xs c t a ).conds [true, false] = [decide (a ≥ 0), decide (a ≤ W ((xs.length : Int) - 1))] := by kernel_rfl
theorem p0no2 : (t0 xs c t a ).path [true, false] = .ok (.v (.int .u64 (.lit 0)), [(0, some (.cells [.ts 1 (.lit 0) (.sym xs.length) none, .int .i64 (.sym (W (c + 1))), .int .i64 (.sym (W (t + 1))), .ts 5 (.lit 0) (.lit 1) none] 79)), (1, some (.tab [.int .u64] (rowsW xs) 53)), (5, some (.tab ckA [[1, a, 0]] 96))]) := by kernel_rfl
noncomputable abbrev t1 : Tr (SV × HP MObj) := (ev0 20 [.v (.ptr 0 0), .v (ii a)] (memIn 79 53 xs c t (.ts 2 (.lit 0) (.sym ls.length) none) (some (.tab ckA ls 96))) 3).vmap vh
theorem c1yes : (t1 xs c t ls a ).conds [true, true, true, true, true, true, true, true, true, true, true] = [decide (a ≥ 0), decide (a ≤ W ((xs.length : Int) - 1)), decide (0 ≤ mx a), decide (mx a ≤ (xs.length : Int)), decide ((xs.length : Int) ≤ (xs.length : Int)), decide ((xs.length : Int) ≤ (xs.length : Int)), decide (mx a < (xs.length : Int)), (decide ((0 : Int) ≤ 0) && decide ((0 : Int) < (((xs.length : Int).toNat - (mx a).toNat : Nat) : Int))), decide (row a 0 < (rowsW xs).length), decide (0 + ls.length ≤ ls.length), Nat.ble ((ls.length + 1) * 24) 140737488355328] := by kernel_rfl
theorem p1yes : (t1 xs c t ls a ).path [true, true, true, true, true, true, true, true, true, true, true] = .ok (.v (uu (tabAt (rowsW xs) (row a 0) 0)), [(0, some (.cells [.ts 1 (.lit 0) (.sym xs.length) none, .int .i64 (.sym (W (c + 1))), .int .i64 (.sym t), .ts 5 (.lit 0) (.sym (ls.length + 1)) none] 79)), (1, some (.tab [.int .u64] (rowsW xs) 53)), (5, some (.tab ckA ((ls.drop 0).take ls.length ++ [[1, a, 1]]) 96))]) := by kernel_rfl
theorem c1no1 : (t1 xs c t ls a ).conds [false, true, true] = [decide (a ≥ 0), decide (0 + ls.length ≤ ls.length), Nat.ble ((ls.length + 1) * 24) 140737488355328] := by kernel_rfl
theorem p1no1 : (t1 xs c t ls a ).path [false, true, true] = .ok (.v (.int .u64 (.lit 0)), [(0, some (.cells [.ts 1 (.lit 0) (.sym xs.length) none, .int .i64 (.sym (W (c + 1))), .int .i64 (.sym (W (t + 1))), .ts 5 (.lit 0) (.sym (ls.length + 1)) none] 79)), (1, some (.tab [.int .u64] (rowsW xs) 53)), (5, some (.tab ckA ((ls.drop 0).take ls.length ++ [[1, a, 0]]) 96))]) := by kernel_rfl
theorem c1no2 : (t1 xs c t ls a ).conds [true, false, true, true] = [decide (a ≥ 0), decide (a ≤ W ((xs.length : Int) - 1)), decide (0 + ls.length ≤ ls.length), Nat.ble ((ls.length + 1) * 24) 140737488355328] := by kernel_rfl
theorem p1no2 : (t1 xs c t ls a ).path [true, false, true, true] = .ok (.v (.int .u64 (.lit 0)), [(0, some (.cells [.ts 1 (.lit 0) (.sym xs.length) none, .int .i64 (.sym (W (c + 1))), .int .i64 (.sym (W (t + 1))), .ts 5 (.lit 0) (.sym (ls.length + 1)) none] 79)), (1, some (.tab [.int .u64] (rowsW xs) 53)), (5, some (.tab ckA ((ls.drop 0).take ls.length ++ [[1, a, 0]]) 96))]) := by kernel_rfl
theorem ok : FunOK MS Try.prog 20 (renI (methI 79 gLoad)) := funOK_meth (ev0_ok _) fun rest xs c t q hq => by
  unfold gLoad at hq
  split at hq
  · rename_i a
    unfold mLoad at hq
    simp only [Tr.run_ite, Tr.run_ok, Tr.run_no, and_false, or_false, okc_iff, inb_iff, inb2_iff, inb_no, inb2_no, beq_iff_eq, beq_eq_false_iff_ne] at hq
    obtain ⟨⟨hc0, hc1⟩, ⟨⟨h0, h1⟩, rfl⟩ | ⟨hno, rfl⟩⟩ := hq
    ·
      refine ⟨rfl, fun hc ht hn hxs tr o2 htr => ?_⟩
      have eW : W ((xs.length : Int) - 1) = xs.length - 1 := wrap_i64_of (by omega) (by omega)
      rcases htr with ⟨rfl, rfl⟩ | ⟨ls, rfl, rfl, hls⟩
      · obtain ⟨r, g1, g2, g3⟩ := run_vh (Tr.run_at (c0yes xs c t a.val ) (by simp only [eW, mx_of h0, row_of h0, rowsW_length, tabAt_rowsW, Nat.add_zero, Nat.zero_add, List.length_set, List.cons.injEq, and_true, true_and, decide_eq_true_eq, decide_eq_false_iff_not, Bool.and_eq_true, beq_iff_eq, beq_eq_false_iff_ne, ne_eq, Bool.not_eq_true', Bool.not_eq_false', Nat.ble_eq]; (repeat' apply And.intro) <;> first | assumption | omega) (p0yes xs c t a.val ))
        exact ⟨r, 1, 5, g1, fun ρ x hx => (by rw [g2] at hx; rw [tabAt_rowsW, row_of h0] at hx; exact hx), by rw [g3]; exact isMem_of rfl rfl rfl (by decide) (by simp only [SN.val, List.length_set]) rfl (rfl) (by constructor <;> simp <;> omega) (wrap_i64_of (by omega) (by omega)) rfl⟩
      · obtain ⟨r, g1, g2, g3⟩ := run_vh (Tr.run_at (c1yes xs c t ls a.val ) (by simp only [eW, mx_of h0, row_of h0, rowsW_length, tabAt_rowsW, Nat.add_zero, Nat.zero_add, List.length_set, List.cons.injEq, and_true, true_and, decide_eq_true_eq, decide_eq_false_iff_not, Bool.and_eq_true, beq_iff_eq, beq_eq_false_iff_ne, ne_eq, Bool.not_eq_true', Bool.not_eq_false', Nat.ble_eq]; (repeat' apply And.intro) <;> first | assumption | omega) (p1yes xs c t ls a.val ))
        exact ⟨r, 1, 5, g1, fun ρ x hx => (by rw [g2] at hx; rw [tabAt_rowsW, row_of h0] at hx; exact hx), by rw [g3]; exact isMem_of rfl rfl rfl (by decide) (by simp only [SN.val, List.length_set]) rfl (by simp [SN.val]) (by constructor <;> simp <;> omega) (wrap_i64_of (by omega) (by omega)) rfl⟩
    ·
      refine ⟨rfl, fun hc ht hn hxs tr o2 htr => ?_⟩
      have eW : W ((xs.length : Int) - 1) = xs.length - 1 := wrap_i64_of (by omega) (by omega)
      by_cases h0 : 0 ≤ a.val
      · have h1 : ¬ a.val < xs.length := fun h => hno ⟨h0, h⟩
        rcases htr with ⟨rfl, rfl⟩ | ⟨ls, rfl, rfl, hls⟩
        · obtain ⟨r, g1, g2, g3⟩ := run_vh (Tr.run_at (c0no2 xs c t a.val ) (by simp only [eW, Nat.add_zero, Nat.zero_add, List.length_set, List.cons.injEq, and_true, true_and, decide_eq_true_eq, decide_eq_false_iff_not, Bool.and_eq_true, beq_iff_eq, beq_eq_false_iff_ne, ne_eq, Bool.not_eq_true', Bool.not_eq_false', Nat.ble_eq]; (repeat' apply And.intro) <;> first | assumption | omega) (p0no2 xs c t a.val ))
          exact ⟨r, 1, 5, g1, fun ρ x hx => (by rw [g2] at hx; exact hx), by rw [g3]; exact isMem_of rfl rfl rfl (by decide) (by simp only [SN.val, List.length_set]) rfl (rfl) (by constructor <;> simp <;> omega) (wrap_i64_of (by omega) (by omega)) rfl⟩
        · obtain ⟨r, g1, g2, g3⟩ := run_vh (Tr.run_at (c1no2 xs c t ls a.val ) (by simp only [eW, Nat.add_zero, Nat.zero_add, List.length_set, List.cons.injEq, and_true, true_and, decide_eq_true_eq, decide_eq_false_iff_not, Bool.and_eq_true, beq_iff_eq, beq_eq_false_iff_ne, ne_eq, Bool.not_eq_true', Bool.not_eq_false', Nat.ble_eq]; (repeat' apply And.intro) <;> first | assumption | omega) (p1no2 xs c t ls a.val ))
          exact ⟨r, 1, 5, g1, fun ρ x hx => (by rw [g2] at hx; exact hx), by rw [g3]; exact isMem_of rfl rfl rfl (by decide) (by simp only [SN.val, List.length_set]) rfl (by simp [SN.val]) (by constructor <;> simp <;> omega) (wrap_i64_of (by omega) (by omega)) rfl⟩
      · rcases htr with ⟨rfl, rfl⟩ | ⟨ls, rfl, rfl, hls⟩
        · obtain ⟨r, g1, g2, g3⟩ := run_vh (Tr.run_at (c0no1 xs c t a.val ) (by simp only [rowsW_length, Nat.add_zero, Nat.zero_add, List.length_set, List.cons.injEq, and_true, true_and, decide_eq_true_eq, decide_eq_false_iff_not, Bool.and_eq_true, beq_iff_eq, beq_eq_false_iff_ne, ne_eq, Bool.not_eq_true', Bool.not_eq_false', Nat.ble_eq]; (repeat' apply And.intro) <;> first | assumption | omega) (p0no1 xs c t a.val ))
          exact ⟨r, 1, 5, g1, fun ρ x hx => (by rw [g2] at hx; exact hx), by rw [g3]; exact isMem_of rfl rfl rfl (by decide) (by simp only [SN.val, List.length_set]) rfl (rfl) (by constructor <;> simp <;> omega) (wrap_i64_of (by omega) (by omega)) rfl⟩
        · obtain ⟨r, g1, g2, g3⟩ := run_vh (Tr.run_at (c1no1 xs c t ls a.val ) (by simp only [rowsW_length, Nat.add_zero, Nat.zero_add, List.length_set, List.cons.injEq, and_true, true_and, decide_eq_true_eq, decide_eq_false_iff_not, Bool.and_eq_true, beq_iff_eq, beq_eq_false_iff_ne, ne_eq, Bool.not_eq_true', Bool.not_eq_false', Nat.ble_eq]; (repeat' apply And.intro) <;> first | assumption | omega) (p1no1 xs c t ls a.val ))
          exact ⟨r, 1, 5, g1, fun ρ x hx => (by rw [g2] at hx; exact hx), by rw [g3]; exact isMem_of rfl rfl rfl (by decide) (by simp only [SN.val, List.length_set]) rfl (by simp [SN.val]) (by constructor <;> simp <;> omega) (wrap_i64_of (by omega) (by omega)) rfl⟩
  · cases hq
end mLoad
namespace mStore
variable (xs : List Int) (c t : Int) (ls : List (List Int)) (a w : Int)
noncomputable abbrev t0 : Tr (SV × HP MObj) := (ev0 12 [.v (.ptr 0 0), .v (ii a), .v (uu w)] (memIn 79 53 xs c t .nils none) 3).vmap vh
theorem c0yes : (t0 xs c t a w).conds [true, true, true, true, true, true, true, true, true] = [decide (a ≥ 0), decide (a ≤ W ((xs.length : Int) - 1)), decide (0 ≤ mx a), decide (mx a ≤ (xs.length : Int)), decide ((xs.length : Int) ≤ (xs.length : Int)), decide ((xs.length : Int) ≤ (xs.length : Int)), decide (mx a < (xs.length : Int)), (decide ((0 : Int) ≤ 0) && decide ((0 : Int) < (((xs.length : Int).toNat - (mx a).toNat : Nat) : Int))), decide (row a 0 < (rowsW xs).length)] := by kernel_rfl
theorem p0yes : (t0 xs c t a w).path [true, true, true, true, true, true, true, true, true] = .ok (.undef, [(0, some (.cells [.ts 1 (.lit 0) (.sym xs.length) none, .int .i64 (.sym (W (c + 1))), .int .i64 (.sym t), .ts 5 (.lit 0) (.lit 1) none] 79)), (1, some (.tab [.int .u64] ((rowsW xs).set (row a 0) (splice ((rowsW xs).getD (row a 0) []) 0 [w])) 53)), (5, some (.tab ckA [[2, a, 1]] 96))]) := by kernel_rfl
theorem c0no1 : (t0 xs c t a w).conds [false] = [decide (a ≥ 0)] := by kernel_rfl
theorem p0no1 : (t0 xs c t a w).path [false] = .ok (.undef, [(0, some (.cells [.ts 1 (.lit 0) (.sym xs.length) none, .int .i64 (.sym (W (c + 1))), .int .i64 (.sym (W (t + 1))), .ts 5 (.lit 0) (.lit 1) none] 79)), (1, some (.tab [.int .u64] (rowsW xs) 53)), (5, some (.tab ckA [[2, a, 0]] 96))]) := by kernel_rfl
theorem c0no2 : (t0 xs c t a w).conds [true, false] = [decide (a ≥ 0), decide (a ≤ W ((xs.length : Int) - 1))] := by kernel_rfl
theorem p0no2 : (t0 xs c t a w).path [true, false] = .ok (.undef, [(0, some (.cells [.ts 1 (.lit 0) (.sym xs.length) none, .int .i64 (.sym (W (c + 1))), .int .i64 (.sym (W (t + 1))), .ts 5 (.lit 0) (.lit 1) none] 79)), (1, some (.tab [.int .u64] (rowsW xs) 53)), (5, some (.tab ckA [[2, a, 0]] 96))]) := by kernel_rfl
noncomputable abbrev t1 : Tr (SV × HP MObj) := (ev0 12 [.v (.ptr 0 0), .v (ii a), .v (uu w)] (memIn 79 53 xs c t (.ts 2 (.lit 0) (.sym ls.length) none) (some (.tab ckA ls 96))) 3).vmap vh
theorem c1yes : (t1 xs c t ls a w).conds [true, true, true, true, true, true, true, true, true, true, true] = [decide (a ≥ 0), decide (a ≤ W ((xs.length : Int) - 1)), decide (0 ≤ mx a), decide (mx a ≤ (xs.length : Int)), decide ((xs.length : Int) ≤ (xs.length : Int)), decide ((xs.length : Int) ≤ (xs.length : Int)), decide (mx a < (xs.length : Int)), (decide ((0 : Int) ≤ 0) && decide ((0 : Int) < (((xs.length : Int).toNat - (mx a).toNat : Nat) : Int))), decide (row a 0 < (rowsW xs).length), decide (0 + ls.length ≤ ls.length), Nat.ble ((ls.length + 1) * 24) 140737488355328] := by kernel_rfl
theorem p1yes : (t1 xs c t ls a w).path [true, true, true, true, true, true, true, true, true, true, true] = .ok (.undef, [(0, some (.cells [.ts 1 (.lit 0) (.sym xs.length) none, .int .i64 (.sym (W (c + 1))), .int .i64 (.sym t), .ts 5 (.lit 0) (.sym (ls.length + 1)) none] 79)), (1, some (.tab [.int .u64] ((rowsW xs).set (row a 0) (splice ((rowsW xs).getD (row a 0) []) 0 [w])) 53)), (5, some (.tab ckA ((ls.drop 0).take ls.length ++ [[2, a, 1]]) 96))]) := by kernel_rfl
theorem c1no1 : (t1 xs c t ls a w).conds [false, true, true] = [decide (a ≥ 0), decide (0 + ls.length ≤ ls.length), Nat.ble ((ls.length + 1) * 24) 140737488355328] := by kernel_rfl
theorem p1no1 : (t1 xs c t ls a w).path [false, true, true] = .ok (.undef, [(0, some (.cells [.ts 1 (.lit 0) (.sym xs.length) none, .int .i64 (.sym (W (c + 1))), .int .i64 (.sym (W (t + 1))), .ts 5 (.lit 0) (.sym (ls.length + 1)) none] 79)), (1, some (.tab [.int .u64] (rowsW xs) 53)), (5, some (.tab ckA ((ls.drop 0).take ls.length ++ [[2, a, 0]]) 96))]) := by kernel_rfl
theorem c1no2 : (t1 xs c t ls a w).conds [true, false, true, true] = [decide (a ≥ 0), decide (a ≤ W ((xs.length : Int) - 1)), decide (0 + ls.length ≤ ls.length), Nat.ble ((ls.length + 1) * 24) 140737488355328] := by kernel_rfl
theorem p1no2 : (t1 xs c t ls a w).path [true, false, true, true] = .ok (.undef, [(0, some (.cells [.ts 1 (.lit 0) (.sym xs.length) none, .int .i64 (.sym (W (c + 1))), .int .i64 (.sym (W (t + 1))), .ts 5 (.lit 0) (.sym (ls.length + 1)) none] 79)), (1, some (.tab [.int .u64] (rowsW xs) 53)), (5, some (.tab ckA ((ls.drop 0).take ls.length ++ [[2, a, 0]]) 96))]) := by kernel_rfl
theorem ok : FunOK MS Try.prog 12 (renI (methI 79 gStore)) := funOK_meth (ev0_ok _) fun rest xs c t q hq => by
  unfold gStore at hq
  split at hq
  · rename_i a w
    unfold mStore at hq
    simp only [Tr.run_ite, Tr.run_ok, Tr.run_no, and_false, or_false, okc_iff, inb_iff, inb2_iff, inb_no, inb2_no, beq_iff_eq, beq_eq_false_iff_ne] at hq
    obtain ⟨⟨hc0, hc1⟩, ⟨⟨h0, h1⟩, rfl⟩ | ⟨hno, rfl⟩⟩ := hq
    ·
      refine ⟨rfl, fun hc ht hn hxs tr o2 htr => ?_⟩
      have eW : W ((xs.length : Int) - 1) = xs.length - 1 := wrap_i64_of (by omega) (by omega)
      rcases htr with ⟨rfl, rfl⟩ | ⟨ls, rfl, rfl, hls⟩
      · obtain ⟨r, g1, g2, g3⟩ := run_vh (Tr.run_at (c0yes xs c t a.val w.val) (by simp only [eW, mx_of h0, row_of h0, rowsW_length, tabAt_rowsW, Nat.add_zero, Nat.zero_add, List.length_set, List.cons.injEq, and_true, true_and, decide_eq_true_eq, decide_eq_false_iff_not, Bool.and_eq_true, beq_iff_eq, beq_eq_false_iff_ne, ne_eq, Bool.not_eq_true', Bool.not_eq_false', Nat.ble_eq]; (repeat' apply And.intro) <;> first | assumption | omega) (p0yes xs c t a.val w.val))
        exact ⟨r, 1, 5, g1, fun ρ x hx => (by rw [g2] at hx; exact hx), by rw [g3]; exact isMem_of rfl rfl rfl (by decide) (by simp only [SN.val, List.length_set]) (by rw [row_of h0]; exact rowsW_set _ _ _ (by omega)) (rfl) (by constructor <;> simp <;> omega) (wrap_i64_of (by omega) (by omega)) rfl⟩
      · obtain ⟨r, g1, g2, g3⟩ := run_vh (Tr.run_at (c1yes xs c t ls a.val w.val) (by simp only [eW, mx_of h0, row_of h0, rowsW_length, tabAt_rowsW, Nat.add_zero, Nat.zero_add, List.length_set, List.cons.injEq, and_true, true_and, decide_eq_true_eq, decide_eq_false_iff_not, Bool.and_eq_true, beq_iff_eq, beq_eq_false_iff_ne, ne_eq, Bool.not_eq_true', Bool.not_eq_false', Nat.ble_eq]; (repeat' apply And.intro) <;> first | assumption | omega) (p1yes xs c t ls a.val w.val))
        exact ⟨r, 1, 5, g1, fun ρ x hx => (by rw [g2] at hx; exact hx), by rw [g3]; exact isMem_of rfl rfl rfl (by decide) (by simp only [SN.val, List.length_set]) (by rw [row_of h0]; exact rowsW_set _ _ _ (by omega)) (by simp [SN.val]) (by constructor <;> simp <;> omega) (wrap_i64_of (by omega) (by omega)) rfl⟩
    ·
      refine ⟨rfl, fun hc ht hn hxs tr o2 htr => ?_⟩
      have eW : W ((xs.length : Int) - 1) = xs.length - 1 := wrap_i64_of (by omega) (by omega)
      by_cases h0 : 0 ≤ a.val
      · have h1 : ¬ a.val < xs.length := fun h => hno ⟨h0, h⟩
        rcases htr with ⟨rfl, rfl⟩ | ⟨ls, rfl, rfl, hls⟩
        · obtain ⟨r, g1, g2, g3⟩ := run_vh (Tr.run_at (c0no2 xs c t a.val w.val) (by simp only [eW, Nat.add_zero, Nat.zero_add, List.length_set, List.cons.injEq, and_true, true_and, decide_eq_true_eq, decide_eq_false_iff_not, Bool.and_eq_true, beq_iff_eq, beq_eq_false_iff_ne, ne_eq, Bool.not_eq_true', Bool.not_eq_false', Nat.ble_eq]; (repeat' apply And.intro) <;> first | assumption | omega) (p0no2 xs c t a.val w.val))
          exact ⟨r, 1, 5, g1, fun ρ x hx => (by rw [g2] at hx; exact hx), by rw [g3]; exact isMem_of rfl rfl rfl (by decide) (by simp only [SN.val, List.length_set]) rfl (rfl) (by constructor <;> simp <;> omega) (wrap_i64_of (by omega) (by omega)) rfl⟩
        · obtain ⟨r, g1, g2, g3⟩ := run_vh (Tr.run_at (c1no2 xs c t ls a.val w.val) (by simp only [eW, Nat.add_zero, Nat.zero_add, List.length_set, List.cons.injEq, and_true, true_and, decide_eq_true_eq, decide_eq_false_iff_not, Bool.and_eq_true, beq_iff_eq, beq_eq_false_iff_ne, ne_eq, Bool.not_eq_true', Bool.not_eq_false', Nat.ble_eq]; (repeat' apply And.intro) <;> first | assumption | omega) (p1no2 xs c t ls a.val w.val))
          exact ⟨r, 1, 5, g1, fun ρ x hx => (by rw [g2] at hx; exact hx), by rw [g3]; exact isMem_of rfl rfl rfl (by decide) (by simp only [SN.val, List.length_set]) rfl (by simp [SN.val]) (by constructor <;> simp <;> omega) (wrap_i64_of (by omega) (by omega)) rfl⟩
      · rcases htr with ⟨rfl, rfl⟩ | ⟨ls, rfl, rfl, hls⟩
        · obtain ⟨r, g1, g2, g3⟩ := run_vh (Tr.run_at (c0no1 xs c t a.val w.val) (by simp only [rowsW_length, Nat.add_zero, Nat.zero_add, List.length_set, List.cons.injEq, and_true, true_and, decide_eq_true_eq, decide_eq_false_iff_not, Bool.and_eq_true, beq_iff_eq, beq_eq_false_iff_ne, ne_eq, Bool.not_eq_true', Bool.not_eq_false', Nat.ble_eq]; (repeat' apply And.intro) <;> first | assumption | omega) (p0no1 xs c t a.val w.val))
          exact ⟨r, 1, 5, g1, fun ρ x hx => (by rw [g2] at hx; exact hx), by rw [g3]; exact isMem_of rfl rfl rfl (by decide) (by simp only [SN.val, List.length_set]) rfl (rfl) (by constructor <;> simp <;> omega) (wrap_i64_of (by omega) (by omega)) rfl⟩
        · obtain ⟨r, g1, g2, g3⟩ := run_vh (Tr.run_at (c1no1 xs c t ls a.val w.val) (by simp only [rowsW_length, Nat.add_zero, Nat.zero_add, List.length_set, List.cons.injEq, and_true, true_and, decide_eq_true_eq, decide_eq_false_iff_not, Bool.and_eq_true, beq_iff_eq, beq_eq_false_iff_ne, ne_eq, Bool.not_eq_true', Bool.not_eq_false', Nat.ble_eq]; (repeat' apply And.intro) <;> first | assumption | omega) (p1no1 xs c t ls a.val w.val))
          exact ⟨r, 1, 5, g1, fun ρ x hx => (by rw [g2] at hx; exact hx), by rw [g3]; exact isMem_of rfl rfl rfl (by decide) (by simp only [SN.val, List.length_set]) rfl (by simp [SN.val]) (by constructor <;> simp <;> omega) (wrap_i64_of (by omega) (by omega)) rfl⟩
  · cases hq
end mStore







namespace mLen
theorem e0 (xs : List Int) (c t : Int) (ls : List (List Int)) : (ev0 38 [.v (.ptr 0 0)] (memIn 79 53 xs c t .nils none) 3).vmap vh = .ok (.v (ii xs.length), (memIn 79 53 xs c t .nils none)) := by kernel_rfl
theorem e1 (xs : List Int) (c t : Int) (ls : List (List Int)) : (ev0 38 [.v (.ptr 0 0)] (memIn 79 53 xs c t (.ts 2 (.lit 0) (.sym ls.length) none) (some (.tab ckA ls 96))) 3).vmap vh = .ok (.v (ii xs.length), (memIn 79 53 xs c t (.ts 2 (.lit 0) (.sym ls.length) none) (some (.tab ckA ls 96)))) := by kernel_rfl
theorem ok : FunOK MS Try.prog 38 (renI (methI 79 gLen)) := funOK_meth (ev0_ok _) fun rest xs c t q hq => by
  unfold gLen at hq
  split at hq
  · rw [Tr.run_ok] at hq
    subst hq
    refine ⟨rfl, fun hc ht hn hxs tr o2 htr => ?_⟩
    rcases htr with ⟨rfl, rfl⟩ | ⟨ls, rfl, rfl, hls⟩
    · obtain ⟨r, g1, g2, g3⟩ := run_vh ((congrArg Tr.run (e0 xs c t [])).trans rfl)
      exact ⟨r, 1, 2, g1, fun ρ x hx => (by rw [g2] at hx; exact hx), by rw [g3]; exact isMem_nil rfl rfl rfl (by decide) (by decide) (by decide) rfl rfl rfl rfl⟩
    · obtain ⟨r, g1, g2, g3⟩ := run_vh ((congrArg Tr.run (e1 xs c t ls)).trans rfl)
      exact ⟨r, 1, 2, g1, fun ρ x hx => (by rw [g2] at hx; exact hx), by rw [g3]; exact isMem_of rfl rfl rfl (by decide) rfl rfl rfl hls rfl rfl⟩
  · cases hq
end mLen
theorem rowsW_zero : ∀ n : Nat, List.replicate n [(0 : Int)] = rowsW (List.replicate n 0)
  | 0 => rfl
  | n + 1 => by rw [List.replicate_succ, rowsW_zero n]; rfl
def newI (T : TypeId) : Intr MObj := fun args hp nid => match args, hp, nid with
  | [.s (.one (.int .i64 a))], [], 0 => .ite (decide (1 ≤ a.val) && decide (a.val ≤ 4096)) (.ok ⟨.t [.one (.ptr 0 0), .one (.int .i64 (.lit 0))], [(0, some (.abs (.mem T (List.replicate a.val.toNat 0) 0 0)))], [0], 1⟩) (.no "New: length")
  | _, _, _ => .no "New: arguments"

namespace mNew
theorem c (a : Int) : ((ev0 11 [.v (ii a)] [] 0).vmap vh).conds [false, false, true, true, true] = [decide (a < 1), decide (a > 4096), decide (0 ≤ a), (a == a), Nat.ble (a.toNat * 8) 140737488355328] := by kernel_rfl
theorem p (a : Int) : ((ev0 11 [.v (ii a)] [] 0).vmap vh).path [false, false, true, true, true] = .ok (.t [.one (.ptr 1 0), .one (.int .i64 (.lit 0))], [(0, some (.tab [.int .u64] (List.replicate a.toNat [0]) 53)), (1, some (.cells [.ts 0 (.lit 0) (.sym a.toNat) none, .int .i64 (.lit 0), .int .i64 (.lit 0), .nils] 79))]) := by kernel_rfl
theorem ok : FunOK MS Try.prog 11 (renI (newI 79)) := by
  refine funOK_ren ?_
  intro args hp nid r hrun B ρ F w vargs hhr hargs
  unfold newI at hrun
  split at hrun
  · rename_i a
    simp only [Tr.run_ite, Tr.run_ok, Tr.run_no, and_false, or_false, Bool.and_eq_true, decide_eq_true_eq] at hrun
    obtain ⟨⟨h1, h2⟩, rfl⟩ := hrun
    obtain ⟨r, g1, g2, g3⟩ := run_vh (Tr.run_at (c a.val) (by simp only [List.cons.injEq, and_true, true_and, decide_eq_true_eq, decide_eq_false_iff_not, beq_iff_eq, Nat.ble_eq]; (repeat' apply And.intro) <;> first | trivial | rfl | omega) (p a.val))
    refine (abs_new (ev0_ok _) (a := 1) (x1 := 0) (x2 := 2) (xs := List.replicate a.val.toNat 0) (c := 0) (t := 0) g1 g2 rfl (by rw [g3]; exact isMem_nil rfl rfl rfl (by decide) (by decide) (by decide) (by simp [SN.val]) (rowsW_zero _) rfl rfl) hhr ((F2_map fun _ _ => RS_symW).2 hargs)).mono ?_
    rintro en w' ⟨x, ρ', F', rfl, k1, k2, k3⟩
    exact ⟨x, ρ', F', rfl, k1, k2, k3⟩
  · cases hrun
end mNew
namespace rNew
theorem c (a : Int) : ((ev0 13 [.v (ii a)] [] 0).vmap vh).conds [false, false, true, true, true] = [decide (a < 1), decide (a > 4096), decide (0 ≤ a), (a == a), Nat.ble (a.toNat * 8) 140737488355328] := by kernel_rfl
theorem p (a : Int) : ((ev0 13 [.v (ii a)] [] 0).vmap vh).path [false, false, true, true, true] = .ok (.t [.one (.ptr 1 0), .one (.int .i64 (.lit 0))], [(0, some (.tab [.int .u64] (List.replicate a.toNat [0]) 53)), (1, some (.cells [.ts 0 (.lit 0) (.sym a.toNat) none, .int .i64 (.lit 0), .int .i64 (.lit 0), .nils] 51))]) := by kernel_rfl
theorem ok : FunOK MS Try.prog 13 (renI (newI 51)) := by
  refine funOK_ren ?_
  intro args hp nid r hrun B ρ F w vargs hhr hargs
  unfold newI at hrun
  split at hrun
  · rename_i a
    simp only [Tr.run_ite, Tr.run_ok, Tr.run_no, and_false, or_false, Bool.and_eq_true, decide_eq_true_eq] at hrun
    obtain ⟨⟨h1, h2⟩, rfl⟩ := hrun
    obtain ⟨r, g1, g2, g3⟩ := run_vh (Tr.run_at (c a.val) (by simp only [List.cons.injEq, and_true, true_and, decide_eq_true_eq, decide_eq_false_iff_not, beq_iff_eq, Nat.ble_eq]; (repeat' apply And.intro) <;> first | trivial | rfl | omega) (p a.val))
    refine (abs_new (ev0_ok _) (a := 1) (x1 := 0) (x2 := 2) (xs := List.replicate a.val.toNat 0) (c := 0) (t := 0) g1 g2 rfl (by rw [g3]; exact isMem_nil rfl rfl rfl (by decide) (by decide) (by decide) (by simp [SN.val]) (rowsW_zero _) rfl rfl) hhr ((F2_map fun _ _ => RS_symW).2 hargs)).mono ?_
    rintro en w' ⟨x, ρ', F', rfl, k1, k2, k3⟩
    exact ⟨x, ρ', F', rfl, k1, k2, k3⟩
  · cases hrun
end rNew
def tabM : List (Nat × Intr MObj) := (20, renI (methI 79 gLoad)) :: (12, renI (methI 79 gStore)) :: (38, renI (methI 79 gLen)) :: (11, renI (newI 79)) :: (13, renI (newI 51)) :: []
theorem tabM_ok : ∀ p ∈ tabM, FunOK MS Try.prog p.1 p.2 := tab_cons mLoad.ok <| tab_cons mStore.ok <| tab_cons mLen.ok <| tab_cons mNew.ok <| tab_cons rNew.ok <| tab_nil
def tabMm : List (Nat × Intr MObj) := (20, renI (methI 79 gLoad)) :: (12, renI (methI 79 gStore)) :: (38, renI (methI 79 gLen)) :: (11, renI (newI 79)) :: []
theorem tabMm_ok : ∀ p ∈ tabMm, FunOK MS Try.prog p.1 p.2 := tab_cons mLoad.ok <| tab_cons mStore.ok <| tab_cons mLen.ok <| tab_cons mNew.ok <| tab_nil
end Go.Proofs.Ytcolladpdmjloaa.Eng
