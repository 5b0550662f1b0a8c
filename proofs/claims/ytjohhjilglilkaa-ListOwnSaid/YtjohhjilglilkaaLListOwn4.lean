/-
  ListOwn: from the law's head to the end of its loop.
-/
import Derived.Test.YtjohhjilglilkaaLListOwn3
namespace Go.Proofs.Ytjohhjilglilkaa.ListOwn
open Go Go.RowKit Go.Proofs.Ytjohhjilglilkaa.Eng
set_option linter.unusedVariables false
set_option linter.unusedSimpArgs false
set_option linter.unusedSectionVars false
set_option maxRecDepth 20000
set_option maxHeartbeats 1000000
noncomputable abbrev restC : Code := codeAt body [true, true, true, true, true, true, true, true, true]
theorem restE : (Eng.spine 8 body).2 = .seq (.seq initC (.block 0 (.loop lbody))) restC := by kernel_rfl
section
variable (n : Int) (np : Nat) (ps : List (List Int)) (E : Ctx MObj) (hE : E.nid0 = 1) (hT : E.top = 60) (hD : ∀ b, 1 ≤ b → E.D b)
include hE hT hD
/-! ### The law's state when its head is over -/
theorem settle0 {c : Int} {xs : List Int} {js : Nat → SV} {d : List Nat} {a : Act} {w : World}
    (h : At MS E ⟨[.v (ii n), .v (.an 0 (.sym np)), .t [], .t [], .v (.bool (.lit false)), .v (.bool (.lit true)), .v (lt 0), .v (.ptr 1 0), .v (.ptr 2 0), .v (.ptr 3 0), .v (.ptr 4 0), .t []] ++ junk js 253 12,
      [(0, some (.rotab [.int .i64] ps)), (1, some (.abs (.mem 54 xs c 0))), (2, some (.cells [.nilp, .nilp, .nilp, .nilp] 28)), (3, some (.cells [.nilp, .nilp, .nilp, .nilp] 30)), (4, some (.cells [.nils, .nils, .nils, .nils] 31))], 5, d⟩ a w) :
    ∃ (js : Nat → SV), At MS E ⟨List.take 11 (pre n np (0 : Nat) 0) ++ [.t []] ++ junk js 253 12, bas ps xs c 0 s00, 5, []⟩ a w := by
  have h1 := at_can h
  have h2 := at_grpfold (b := 2) (g := GP s00) rfl rfl (fun n => rfl) h1
  have h3 := at_grpfold (b := 3) (g := GU s00) rfl rfl (fun n => rfl) h2
  have h4 := at_grpfold (b := 4) (g := GH s00) rfl rfl (fun n => rfl) h3
  have h5 := at_tm (p' := [.v (ii n), .v (.an 0 (.sym np)), .t [], .t [], .v (.bool (.lit false)), .v (.bool (.lit true)), .v (ii 0), .v (.ptr 1 0), .v (.ptr 2 0), .v (.ptr 3 0), .v (.ptr 4 0), .t []]) (by (repeat' apply And.intro) <;> first | rfl | trivial) h4
  obtain ⟨js', h6⟩ := at_rename (dirty' := []) (m := 12) (n := 253) (pre' := List.take 11 (pre n np (0 : Nat) 0) ++ [.t []]) [(0, 0), (1, 1), (2, 2), (3, 3), (4, 4)] (nid' := 5) rfl (by simp [length_junk]) rfl rfl (by rw [hE]; rfl) (by omega) (by omega) h5
  exact ⟨js', h6⟩
theorem settle1 {c : Int} {xs : List Int} {js : Nat → SV} {d : List Nat} {a : Act} {w : World}
    (h : At MS E ⟨[.v (ii n), .v (.an 0 (.sym np)), .t [], .t [], .v (.bool (.lit false)), .v (.bool (.lit true)), .v (lt 1), .v (.ptr 1 0), .v (.ptr 3 0), .v (.ptr 4 0), .v (.ptr 5 0), .t []] ++ junk js 253 12,
      [(0, some (.rotab [.int .i64] ps)), (1, some (.abs (.mem 54 xs c 0))), (3, some (.cells [.nilp, .nilp, .nilp, .nilp] 28)), (4, some (.cells [.nilp, .nilp, .nilp, .nilp] 30)), (5, some (.cells [.nils, .nils, .nils, .nils] 31))], 6, d⟩ a w) :
    ∃ (js : Nat → SV), At MS E ⟨List.take 11 (pre n np (1 : Nat) 0) ++ [.t []] ++ junk js 253 12, bas ps xs c 0 s00, 5, []⟩ a w := by
  have h1 := at_can h
  have h2 := at_grpfold (b := 3) (g := GP s00) rfl rfl (fun n => rfl) h1
  have h3 := at_grpfold (b := 4) (g := GU s00) rfl rfl (fun n => rfl) h2
  have h4 := at_grpfold (b := 5) (g := GH s00) rfl rfl (fun n => rfl) h3
  have h5 := at_tm (p' := [.v (ii n), .v (.an 0 (.sym np)), .t [], .t [], .v (.bool (.lit false)), .v (.bool (.lit true)), .v (ii 1), .v (.ptr 1 0), .v (.ptr 3 0), .v (.ptr 4 0), .v (.ptr 5 0), .t []]) (by (repeat' apply And.intro) <;> first | rfl | trivial) h4
  obtain ⟨js', h6⟩ := at_rename (dirty' := []) (m := 12) (n := 253) (pre' := List.take 11 (pre n np (1 : Nat) 0) ++ [.t []]) [(0, 0), (1, 1), (3, 2), (4, 3), (5, 4)] (nid' := 5) rfl (by simp [length_junk]) rfl rfl (by rw [hE]; rfl) (by omega) (by omega) h5
  exact ⟨js', h6⟩
theorem settle2 {c : Int} {xs : List Int} {js : Nat → SV} {d : List Nat} {a : Act} {w : World}
    (h : At MS E ⟨[.v (ii n), .v (.an 0 (.sym np)), .t [], .t [], .v (.bool (.lit false)), .v (.bool (.lit true)), .v (lt 2), .v (.ptr 1 0), .v (.ptr 4 0), .v (.ptr 5 0), .v (.ptr 6 0), .t []] ++ junk js 253 12,
      [(0, some (.rotab [.int .i64] ps)), (1, some (.abs (.mem 54 xs c 0))), (4, some (.cells [.nilp, .nilp, .nilp, .nilp] 28)), (5, some (.cells [.nilp, .nilp, .nilp, .nilp] 30)), (6, some (.cells [.nils, .nils, .nils, .nils] 31))], 7, d⟩ a w) :
    ∃ (js : Nat → SV), At MS E ⟨List.take 11 (pre n np (2 : Nat) 0) ++ [.t []] ++ junk js 253 12, bas ps xs c 0 s00, 5, []⟩ a w := by
  have h1 := at_can h
  have h2 := at_grpfold (b := 4) (g := GP s00) rfl rfl (fun n => rfl) h1
  have h3 := at_grpfold (b := 5) (g := GU s00) rfl rfl (fun n => rfl) h2
  have h4 := at_grpfold (b := 6) (g := GH s00) rfl rfl (fun n => rfl) h3
  have h5 := at_tm (p' := [.v (ii n), .v (.an 0 (.sym np)), .t [], .t [], .v (.bool (.lit false)), .v (.bool (.lit true)), .v (ii 2), .v (.ptr 1 0), .v (.ptr 4 0), .v (.ptr 5 0), .v (.ptr 6 0), .t []]) (by (repeat' apply And.intro) <;> first | rfl | trivial) h4
  obtain ⟨js', h6⟩ := at_rename (dirty' := []) (m := 12) (n := 253) (pre' := List.take 11 (pre n np (2 : Nat) 0) ++ [.t []]) [(0, 0), (1, 1), (4, 2), (5, 3), (6, 4)] (nid' := 5) rfl (by simp [length_junk]) rfl rfl (by rw [hE]; rfl) (by omega) (by omega) h5
  exact ⟨js', h6⟩
theorem settle3 {c : Int} {xs : List Int} {js : Nat → SV} {d : List Nat} {a : Act} {w : World}
    (h : At MS E ⟨[.v (ii n), .v (.an 0 (.sym np)), .t [], .t [], .v (.bool (.lit false)), .v (.bool (.lit true)), .v (lt 3), .v (.ptr 1 0), .v (.ptr 5 0), .v (.ptr 6 0), .v (.ptr 7 0), .t []] ++ junk js 253 12,
      [(0, some (.rotab [.int .i64] ps)), (1, some (.abs (.mem 54 xs c 0))), (5, some (.cells [.nilp, .nilp, .nilp, .nilp] 28)), (6, some (.cells [.nilp, .nilp, .nilp, .nilp] 30)), (7, some (.cells [.nils, .nils, .nils, .nils] 31))], 8, d⟩ a w) :
    ∃ (js : Nat → SV), At MS E ⟨List.take 11 (pre n np (3 : Nat) 0) ++ [.t []] ++ junk js 253 12, bas ps xs c 0 s00, 5, []⟩ a w := by
  have h1 := at_can h
  have h2 := at_grpfold (b := 5) (g := GP s00) rfl rfl (fun n => rfl) h1
  have h3 := at_grpfold (b := 6) (g := GU s00) rfl rfl (fun n => rfl) h2
  have h4 := at_grpfold (b := 7) (g := GH s00) rfl rfl (fun n => rfl) h3
  have h5 := at_tm (p' := [.v (ii n), .v (.an 0 (.sym np)), .t [], .t [], .v (.bool (.lit false)), .v (.bool (.lit true)), .v (ii 3), .v (.ptr 1 0), .v (.ptr 5 0), .v (.ptr 6 0), .v (.ptr 7 0), .t []]) (by (repeat' apply And.intro) <;> first | rfl | trivial) h4
  obtain ⟨js', h6⟩ := at_rename (dirty' := []) (m := 12) (n := 253) (pre' := List.take 11 (pre n np (3 : Nat) 0) ++ [.t []]) [(0, 0), (1, 1), (5, 2), (6, 3), (7, 4)] (nid' := 5) rfl (by simp [length_junk]) rfl rfl (by rw [hE]; rfl) (by omega) (by omega) h5
  exact ⟨js', h6⟩
theorem settle4 {c : Int} {xs : List Int} {js : Nat → SV} {d : List Nat} {a : Act} {w : World}
    (h : At MS E ⟨[.v (ii n), .v (.an 0 (.sym np)), .t [], .t [], .v (.bool (.lit false)), .v (.bool (.lit true)), .v (lt 4), .v (.ptr 1 0), .v (.ptr 6 0), .v (.ptr 7 0), .v (.ptr 8 0), .t []] ++ junk js 253 12,
      [(0, some (.rotab [.int .i64] ps)), (1, some (.abs (.mem 54 xs c 0))), (6, some (.cells [.nilp, .nilp, .nilp, .nilp] 28)), (7, some (.cells [.nilp, .nilp, .nilp, .nilp] 30)), (8, some (.cells [.nils, .nils, .nils, .nils] 31))], 9, d⟩ a w) :
    ∃ (js : Nat → SV), At MS E ⟨List.take 11 (pre n np (4 : Nat) 0) ++ [.t []] ++ junk js 253 12, bas ps xs c 0 s00, 5, []⟩ a w := by
  have h1 := at_can h
  have h2 := at_grpfold (b := 6) (g := GP s00) rfl rfl (fun n => rfl) h1
  have h3 := at_grpfold (b := 7) (g := GU s00) rfl rfl (fun n => rfl) h2
  have h4 := at_grpfold (b := 8) (g := GH s00) rfl rfl (fun n => rfl) h3
  have h5 := at_tm (p' := [.v (ii n), .v (.an 0 (.sym np)), .t [], .t [], .v (.bool (.lit false)), .v (.bool (.lit true)), .v (ii 4), .v (.ptr 1 0), .v (.ptr 6 0), .v (.ptr 7 0), .v (.ptr 8 0), .t []]) (by (repeat' apply And.intro) <;> first | rfl | trivial) h4
  obtain ⟨js', h6⟩ := at_rename (dirty' := []) (m := 12) (n := 253) (pre' := List.take 11 (pre n np (4 : Nat) 0) ++ [.t []]) [(0, 0), (1, 1), (6, 2), (7, 3), (8, 4)] (nid' := 5) rfl (by simp [length_junk]) rfl rfl (by rw [hE]; rfl) (by omega) (by omega) h5
  exact ⟨js', h6⟩
theorem settle5 {c : Int} {xs : List Int} {js : Nat → SV} {d : List Nat} {a : Act} {w : World}
    (h : At MS E ⟨[.v (ii n), .v (.an 0 (.sym np)), .t [], .t [], .v (.bool (.lit false)), .v (.bool (.lit true)), .v (lt 5), .v (.ptr 1 0), .v (.ptr 7 0), .v (.ptr 8 0), .v (.ptr 9 0), .t []] ++ junk js 253 12,
      [(0, some (.rotab [.int .i64] ps)), (1, some (.abs (.mem 54 xs c 0))), (7, some (.cells [.nilp, .nilp, .nilp, .nilp] 28)), (8, some (.cells [.nilp, .nilp, .nilp, .nilp] 30)), (9, some (.cells [.nils, .nils, .nils, .nils] 31))], 10, d⟩ a w) :
    ∃ (js : Nat → SV), At MS E ⟨List.take 11 (pre n np (5 : Nat) 0) ++ [.t []] ++ junk js 253 12, bas ps xs c 0 s00, 5, []⟩ a w := by
  have h1 := at_can h
  have h2 := at_grpfold (b := 7) (g := GP s00) rfl rfl (fun n => rfl) h1
  have h3 := at_grpfold (b := 8) (g := GU s00) rfl rfl (fun n => rfl) h2
  have h4 := at_grpfold (b := 9) (g := GH s00) rfl rfl (fun n => rfl) h3
  have h5 := at_tm (p' := [.v (ii n), .v (.an 0 (.sym np)), .t [], .t [], .v (.bool (.lit false)), .v (.bool (.lit true)), .v (ii 5), .v (.ptr 1 0), .v (.ptr 7 0), .v (.ptr 8 0), .v (.ptr 9 0), .t []]) (by (repeat' apply And.intro) <;> first | rfl | trivial) h4
  obtain ⟨js', h6⟩ := at_rename (dirty' := []) (m := 12) (n := 253) (pre' := List.take 11 (pre n np (5 : Nat) 0) ++ [.t []]) [(0, 0), (1, 1), (7, 2), (8, 3), (9, 4)] (nid' := 5) rfl (by simp [length_junk]) rfl rfl (by rw [hE]; rfl) (by omega) (by omega) h5
  exact ⟨js', h6⟩
theorem settle6 {c : Int} {xs : List Int} {js : Nat → SV} {d : List Nat} {a : Act} {w : World}
    (h : At MS E ⟨[.v (ii n), .v (.an 0 (.sym np)), .t [], .t [], .v (.bool (.lit false)), .v (.bool (.lit true)), .v (lt 6), .v (.ptr 1 0), .v (.ptr 8 0), .v (.ptr 9 0), .v (.ptr 10 0), .t []] ++ junk js 253 12,
      [(0, some (.rotab [.int .i64] ps)), (1, some (.abs (.mem 54 xs c 0))), (8, some (.cells [.nilp, .nilp, .nilp, .nilp] 28)), (9, some (.cells [.nilp, .nilp, .nilp, .nilp] 30)), (10, some (.cells [.nils, .nils, .nils, .nils] 31))], 11, d⟩ a w) :
    ∃ (js : Nat → SV), At MS E ⟨List.take 11 (pre n np (6 : Nat) 0) ++ [.t []] ++ junk js 253 12, bas ps xs c 0 s00, 5, []⟩ a w := by
  have h1 := at_can h
  have h2 := at_grpfold (b := 8) (g := GP s00) rfl rfl (fun n => rfl) h1
  have h3 := at_grpfold (b := 9) (g := GU s00) rfl rfl (fun n => rfl) h2
  have h4 := at_grpfold (b := 10) (g := GH s00) rfl rfl (fun n => rfl) h3
  have h5 := at_tm (p' := [.v (ii n), .v (.an 0 (.sym np)), .t [], .t [], .v (.bool (.lit false)), .v (.bool (.lit true)), .v (ii 6), .v (.ptr 1 0), .v (.ptr 8 0), .v (.ptr 9 0), .v (.ptr 10 0), .t []]) (by (repeat' apply And.intro) <;> first | rfl | trivial) h4
  obtain ⟨js', h6⟩ := at_rename (dirty' := []) (m := 12) (n := 253) (pre' := List.take 11 (pre n np (6 : Nat) 0) ++ [.t []]) [(0, 0), (1, 1), (8, 2), (9, 3), (10, 4)] (nid' := 5) rfl (by simp [length_junk]) rfl rfl (by rw [hE]; rfl) (by omega) (by omega) h5
  exact ⟨js', h6⟩
theorem settle7 {c : Int} {xs : List Int} {js : Nat → SV} {d : List Nat} {a : Act} {w : World}
    (h : At MS E ⟨[.v (ii n), .v (.an 0 (.sym np)), .t [], .t [], .v (.bool (.lit false)), .v (.bool (.lit true)), .v (lt 7), .v (.ptr 1 0), .v (.ptr 9 0), .v (.ptr 10 0), .v (.ptr 11 0), .t []] ++ junk js 253 12,
      [(0, some (.rotab [.int .i64] ps)), (1, some (.abs (.mem 54 xs c 0))), (9, some (.cells [.nilp, .nilp, .nilp, .nilp] 28)), (10, some (.cells [.nilp, .nilp, .nilp, .nilp] 30)), (11, some (.cells [.nils, .nils, .nils, .nils] 31))], 12, d⟩ a w) :
    ∃ (js : Nat → SV), At MS E ⟨List.take 11 (pre n np (7 : Nat) 0) ++ [.t []] ++ junk js 253 12, bas ps xs c 0 s00, 5, []⟩ a w := by
  have h1 := at_can h
  have h2 := at_grpfold (b := 9) (g := GP s00) rfl rfl (fun n => rfl) h1
  have h3 := at_grpfold (b := 10) (g := GU s00) rfl rfl (fun n => rfl) h2
  have h4 := at_grpfold (b := 11) (g := GH s00) rfl rfl (fun n => rfl) h3
  have h5 := at_tm (p' := [.v (ii n), .v (.an 0 (.sym np)), .t [], .t [], .v (.bool (.lit false)), .v (.bool (.lit true)), .v (ii 7), .v (.ptr 1 0), .v (.ptr 9 0), .v (.ptr 10 0), .v (.ptr 11 0), .t []]) (by (repeat' apply And.intro) <;> first | rfl | trivial) h4
  obtain ⟨js', h6⟩ := at_rename (dirty' := []) (m := 12) (n := 253) (pre' := List.take 11 (pre n np (7 : Nat) 0) ++ [.t []]) [(0, 0), (1, 1), (9, 2), (10, 3), (11, 4)] (nid' := 5) rfl (by simp [length_junk]) rfl rfl (by rw [hE]; rfl) (by omega) (by omega) h5
  exact ⟨js', h6⟩
theorem settle8 {c : Int} {xs : List Int} {js : Nat → SV} {d : List Nat} {a : Act} {w : World}
    (h : At MS E ⟨[.v (ii n), .v (.an 0 (.sym np)), .t [], .t [], .v (.bool (.lit false)), .v (.bool (.lit true)), .v (lt 8), .v (.ptr 1 0), .v (.ptr 10 0), .v (.ptr 11 0), .v (.ptr 12 0), .t []] ++ junk js 253 12,
      [(0, some (.rotab [.int .i64] ps)), (1, some (.abs (.mem 54 xs c 0))), (10, some (.cells [.nilp, .nilp, .nilp, .nilp] 28)), (11, some (.cells [.nilp, .nilp, .nilp, .nilp] 30)), (12, some (.cells [.nils, .nils, .nils, .nils] 31))], 13, d⟩ a w) :
    ∃ (js : Nat → SV), At MS E ⟨List.take 11 (pre n np (8 : Nat) 0) ++ [.t []] ++ junk js 253 12, bas ps xs c 0 s00, 5, []⟩ a w := by
  have h1 := at_can h
  have h2 := at_grpfold (b := 10) (g := GP s00) rfl rfl (fun n => rfl) h1
  have h3 := at_grpfold (b := 11) (g := GU s00) rfl rfl (fun n => rfl) h2
  have h4 := at_grpfold (b := 12) (g := GH s00) rfl rfl (fun n => rfl) h3
  have h5 := at_tm (p' := [.v (ii n), .v (.an 0 (.sym np)), .t [], .t [], .v (.bool (.lit false)), .v (.bool (.lit true)), .v (ii 8), .v (.ptr 1 0), .v (.ptr 10 0), .v (.ptr 11 0), .v (.ptr 12 0), .t []]) (by (repeat' apply And.intro) <;> first | rfl | trivial) h4
  obtain ⟨js', h6⟩ := at_rename (dirty' := []) (m := 12) (n := 253) (pre' := List.take 11 (pre n np (8 : Nat) 0) ++ [.t []]) [(0, 0), (1, 1), (10, 2), (11, 3), (12, 4)] (nid' := 5) rfl (by simp [length_junk]) rfl rfl (by rw [hE]; rfl) (by omega) (by omega) h5
  exact ⟨js', h6⟩
theorem settle9 {c : Int} {xs : List Int} {js : Nat → SV} {d : List Nat} {a : Act} {w : World}
    (h : At MS E ⟨[.v (ii n), .v (.an 0 (.sym np)), .t [], .t [], .v (.bool (.lit false)), .v (.bool (.lit true)), .v (lt 9), .v (.ptr 1 0), .v (.ptr 11 0), .v (.ptr 12 0), .v (.ptr 13 0), .t []] ++ junk js 253 12,
      [(0, some (.rotab [.int .i64] ps)), (1, some (.abs (.mem 54 xs c 0))), (11, some (.cells [.nilp, .nilp, .nilp, .nilp] 28)), (12, some (.cells [.nilp, .nilp, .nilp, .nilp] 30)), (13, some (.cells [.nils, .nils, .nils, .nils] 31))], 14, d⟩ a w) :
    ∃ (js : Nat → SV), At MS E ⟨List.take 11 (pre n np (9 : Nat) 0) ++ [.t []] ++ junk js 253 12, bas ps xs c 0 s00, 5, []⟩ a w := by
  have h1 := at_can h
  have h2 := at_grpfold (b := 11) (g := GP s00) rfl rfl (fun n => rfl) h1
  have h3 := at_grpfold (b := 12) (g := GU s00) rfl rfl (fun n => rfl) h2
  have h4 := at_grpfold (b := 13) (g := GH s00) rfl rfl (fun n => rfl) h3
  have h5 := at_tm (p' := [.v (ii n), .v (.an 0 (.sym np)), .t [], .t [], .v (.bool (.lit false)), .v (.bool (.lit true)), .v (ii 9), .v (.ptr 1 0), .v (.ptr 11 0), .v (.ptr 12 0), .v (.ptr 13 0), .t []]) (by (repeat' apply And.intro) <;> first | rfl | trivial) h4
  obtain ⟨js', h6⟩ := at_rename (dirty' := []) (m := 12) (n := 253) (pre' := List.take 11 (pre n np (9 : Nat) 0) ++ [.t []]) [(0, 0), (1, 1), (11, 2), (12, 3), (13, 4)] (nid' := 5) rfl (by simp [length_junk]) rfl rfl (by rw [hE]; rfl) (by omega) (by omega) h5
  exact ⟨js', h6⟩
theorem settle10 {c : Int} {xs : List Int} {js : Nat → SV} {d : List Nat} {a : Act} {w : World}
    (h : At MS E ⟨[.v (ii n), .v (.an 0 (.sym np)), .t [], .t [], .v (.bool (.lit false)), .v (.bool (.lit true)), .v (lt 10), .v (.ptr 1 0), .v (.ptr 12 0), .v (.ptr 13 0), .v (.ptr 14 0), .t []] ++ junk js 253 12,
      [(0, some (.rotab [.int .i64] ps)), (1, some (.abs (.mem 54 xs c 0))), (12, some (.cells [.nilp, .nilp, .nilp, .nilp] 28)), (13, some (.cells [.nilp, .nilp, .nilp, .nilp] 30)), (14, some (.cells [.nils, .nils, .nils, .nils] 31))], 15, d⟩ a w) :
    ∃ (js : Nat → SV), At MS E ⟨List.take 11 (pre n np (10 : Nat) 0) ++ [.t []] ++ junk js 253 12, bas ps xs c 0 s00, 5, []⟩ a w := by
  have h1 := at_can h
  have h2 := at_grpfold (b := 12) (g := GP s00) rfl rfl (fun n => rfl) h1
  have h3 := at_grpfold (b := 13) (g := GU s00) rfl rfl (fun n => rfl) h2
  have h4 := at_grpfold (b := 14) (g := GH s00) rfl rfl (fun n => rfl) h3
  have h5 := at_tm (p' := [.v (ii n), .v (.an 0 (.sym np)), .t [], .t [], .v (.bool (.lit false)), .v (.bool (.lit true)), .v (ii 10), .v (.ptr 1 0), .v (.ptr 12 0), .v (.ptr 13 0), .v (.ptr 14 0), .t []]) (by (repeat' apply And.intro) <;> first | rfl | trivial) h4
  obtain ⟨js', h6⟩ := at_rename (dirty' := []) (m := 12) (n := 253) (pre' := List.take 11 (pre n np (10 : Nat) 0) ++ [.t []]) [(0, 0), (1, 1), (12, 2), (13, 3), (14, 4)] (nid' := 5) rfl (by simp [length_junk]) rfl rfl (by rw [hE]; rfl) (by omega) (by omega) h5
  exact ⟨js', h6⟩
theorem settle11 {c : Int} {xs : List Int} {js : Nat → SV} {d : List Nat} {a : Act} {w : World}
    (h : At MS E ⟨[.v (ii n), .v (.an 0 (.sym np)), .t [], .t [], .v (.bool (.lit false)), .v (.bool (.lit true)), .v (lt 11), .v (.ptr 1 0), .v (.ptr 13 0), .v (.ptr 14 0), .v (.ptr 15 0), .t []] ++ junk js 253 12,
      [(0, some (.rotab [.int .i64] ps)), (1, some (.abs (.mem 54 xs c 0))), (13, some (.cells [.nilp, .nilp, .nilp, .nilp] 28)), (14, some (.cells [.nilp, .nilp, .nilp, .nilp] 30)), (15, some (.cells [.nils, .nils, .nils, .nils] 31))], 16, d⟩ a w) :
    ∃ (js : Nat → SV), At MS E ⟨List.take 11 (pre n np (11 : Nat) 0) ++ [.t []] ++ junk js 253 12, bas ps xs c 0 s00, 5, []⟩ a w := by
  have h1 := at_can h
  have h2 := at_grpfold (b := 13) (g := GP s00) rfl rfl (fun n => rfl) h1
  have h3 := at_grpfold (b := 14) (g := GU s00) rfl rfl (fun n => rfl) h2
  have h4 := at_grpfold (b := 15) (g := GH s00) rfl rfl (fun n => rfl) h3
  have h5 := at_tm (p' := [.v (ii n), .v (.an 0 (.sym np)), .t [], .t [], .v (.bool (.lit false)), .v (.bool (.lit true)), .v (ii 11), .v (.ptr 1 0), .v (.ptr 13 0), .v (.ptr 14 0), .v (.ptr 15 0), .t []]) (by (repeat' apply And.intro) <;> first | rfl | trivial) h4
  obtain ⟨js', h6⟩ := at_rename (dirty' := []) (m := 12) (n := 253) (pre' := List.take 11 (pre n np (11 : Nat) 0) ++ [.t []]) [(0, 0), (1, 1), (13, 2), (14, 3), (15, 4)] (nid' := 5) rfl (by simp [length_junk]) rfl rfl (by rw [hE]; rfl) (by omega) (by omega) h5
  exact ⟨js', h6⟩
theorem settle12 {c : Int} {xs : List Int} {js : Nat → SV} {d : List Nat} {a : Act} {w : World}
    (h : At MS E ⟨[.v (ii n), .v (.an 0 (.sym np)), .t [], .t [], .v (.bool (.lit false)), .v (.bool (.lit true)), .v (lt 12), .v (.ptr 1 0), .v (.ptr 14 0), .v (.ptr 15 0), .v (.ptr 16 0), .t []] ++ junk js 253 12,
      [(0, some (.rotab [.int .i64] ps)), (1, some (.abs (.mem 54 xs c 0))), (14, some (.cells [.nilp, .nilp, .nilp, .nilp] 28)), (15, some (.cells [.nilp, .nilp, .nilp, .nilp] 30)), (16, some (.cells [.nils, .nils, .nils, .nils] 31))], 17, d⟩ a w) :
    ∃ (js : Nat → SV), At MS E ⟨List.take 11 (pre n np (12 : Nat) 0) ++ [.t []] ++ junk js 253 12, bas ps xs c 0 s00, 5, []⟩ a w := by
  have h1 := at_can h
  have h2 := at_grpfold (b := 14) (g := GP s00) rfl rfl (fun n => rfl) h1
  have h3 := at_grpfold (b := 15) (g := GU s00) rfl rfl (fun n => rfl) h2
  have h4 := at_grpfold (b := 16) (g := GH s00) rfl rfl (fun n => rfl) h3
  have h5 := at_tm (p' := [.v (ii n), .v (.an 0 (.sym np)), .t [], .t [], .v (.bool (.lit false)), .v (.bool (.lit true)), .v (ii 12), .v (.ptr 1 0), .v (.ptr 14 0), .v (.ptr 15 0), .v (.ptr 16 0), .t []]) (by (repeat' apply And.intro) <;> first | rfl | trivial) h4
  obtain ⟨js', h6⟩ := at_rename (dirty' := []) (m := 12) (n := 253) (pre' := List.take 11 (pre n np (12 : Nat) 0) ++ [.t []]) [(0, 0), (1, 1), (14, 2), (15, 3), (16, 4)] (nid' := 5) rfl (by simp [length_junk]) rfl rfl (by rw [hE]; rfl) (by omega) (by omega) h5
  exact ⟨js', h6⟩
end
section
variable (n : Int) (np : Nat) (ps : List (List Int)) (hnp : np = ps.length) (hnl : np ≤ 140737488355328) (hf : RFits [.int .i64] ps) (E : Ctx MObj) (hE : E.nid0 = 1) (hT : E.top = 60) (hD : ∀ b, 1 ≤ b → E.D b)
include hnp hnl hf hE hT hD
/-- What holds behind the loop. -/
def Over (n : Int) (np : Nat) (ps : List (List Int)) (N : Nat) : VX → St MObj → Prop := fun x st => x = .normal ∧ ∃ xs c s V L i js, Good N xs V L s ∧ (∀ q, q < 4 → (s q).z.abs = .idle) ∧ (0 ≤ c ∧ c ≤ 3000) ∧ V ≤ 700 ∧ st = St0 n np N i ps xs c s js
/-- The whole law out of what is behind its loop. -/
theorem runs (hn : CK.fits (.int .i64) n) {Q : VX → St MObj → Prop} (hQ : ∀ N, N ≤ 12 → ∀ st, Over n np ps N .normal st → Tri MS Try.prog E restC st Q) :
    Tri MS Try.prog E body ⟨[.v (ii n), .v (.an 0 (.sym np))] ++ List.replicate (nt - 2) .undef, [(0, some (.rotab [.int .i64] ps))], 1, []⟩ Q := by
  have hd : ∀ (l : List Nat), l.all (Nat.ble 1) = true → ∀ b, b ∈ l → E.D b := fun l hl b hb => hD b (Nat.le_of_ble_eq_true (List.all_eq_true.1 hl b hb))
  have ht : ∀ {k : Nat}, Nat.ble k 60 = true → k ≤ E.top := fun h => by rw [hT]; exact Nat.le_of_ble_eq_true h
  have hkn := kM_range (c := n) (n := 13) (by decide) hn
  have fin : ∀ (N : Nat), N ≤ 12 → ∀ (xs : List Int) (c V : Int) (L : List Int), Good N xs V L s00 → (0 ≤ c ∧ c ≤ 1000) → V ≤ 20 → ∀ js, Tri MS Try.prog E (.seq (.seq initC (.block 0 (.loop lbody))) restC) ⟨List.take 11 (pre n np N 0) ++ [.t []] ++ junk js 253 12, bas ps xs c 0 s00, 5, []⟩ Q := fun N hN xs c V L G hc hV js => by
    refine Tri.seq (R := Over n np ps N) (loop N n np ps hnp hnl hf E hE hT hD G hc hV js) (fun st h => hQ N hN st h) (fun x s hx hh => absurd hh.1 hx)
  rcases (show kM n 13 = 0 ∨ kM n 13 = 1 ∨ kM n 13 = 2 ∨ kM n 13 = 3 ∨ kM n 13 = 4 ∨ kM n 13 = 5 ∨ kM n 13 = 6 ∨ kM n 13 = 7 ∨ kM n 13 = 8 ∨ kM n 13 = 9 ∨ kM n 13 = 10 ∨ kM n 13 = 11 ∨ kM n 13 = 12 by omega) with hk | hk | hk | hk | hk | hk | hk | hk | hk | hk | hk | hk | hk
  · refine Tri.listR (m := 12) (n := 253) (l := (Eng.spine 8 body).1) codeOK 8 rfl restE (start0 n np ps hk) (Tr.all_ok ⟨rfl, rfl, ht rfl, hd _ rfl, fun js => ?_⟩)
    refine Tri.preE fun aa ww hat => let ⟨js', hat'⟩ := settle0 n np ps E hE hT hD (c := 0) hat; ⟨_, hat', ?_⟩
    exact fin 0 (by decide) _ _ 0 _ (good0 (by decide) rfl (by kernel_rfl) (by decide) (by kernel_rfl)) (by decide) (by decide) js'
  · refine Tri.listR (m := 12) (n := 253) (l := (Eng.spine 8 body).1) codeOK 8 rfl restE (start1 n np ps hk) (Tr.all_ok ⟨rfl, rfl, ht rfl, hd _ rfl, fun js => ?_⟩)
    refine Tri.preE fun aa ww hat => let ⟨js', hat'⟩ := settle1 n np ps E hE hT hD (c := 3) hat; ⟨_, hat', ?_⟩
    exact fin 1 (by decide) _ _ 1 _ (good0 (by decide) rfl (by kernel_rfl) (by decide) (by kernel_rfl)) (by decide) (by decide) js'
  · refine Tri.listR (m := 12) (n := 253) (l := (Eng.spine 8 body).1) codeOK 8 rfl restE (start2 n np ps hk) (Tr.all_ok ⟨rfl, rfl, ht rfl, hd _ rfl, fun js => ?_⟩)
    refine Tri.preE fun aa ww hat => let ⟨js', hat'⟩ := settle2 n np ps E hE hT hD (c := 6) hat; ⟨_, hat', ?_⟩
    exact fin 2 (by decide) _ _ 2 _ (good0 (by decide) rfl (by kernel_rfl) (by decide) (by kernel_rfl)) (by decide) (by decide) js'
  · refine Tri.listR (m := 12) (n := 253) (l := (Eng.spine 8 body).1) codeOK 8 rfl restE (start3 n np ps hk) (Tr.all_ok ⟨rfl, rfl, ht rfl, hd _ rfl, fun js => ?_⟩)
    refine Tri.preE fun aa ww hat => let ⟨js', hat'⟩ := settle3 n np ps E hE hT hD (c := 9) hat; ⟨_, hat', ?_⟩
    exact fin 3 (by decide) _ _ 3 _ (good0 (by decide) rfl (by kernel_rfl) (by decide) (by kernel_rfl)) (by decide) (by decide) js'
  · refine Tri.listR (m := 12) (n := 253) (l := (Eng.spine 8 body).1) codeOK 8 rfl restE (start4 n np ps hk) (Tr.all_ok ⟨rfl, rfl, ht rfl, hd _ rfl, fun js => ?_⟩)
    refine Tri.preE fun aa ww hat => let ⟨js', hat'⟩ := settle4 n np ps E hE hT hD (c := 12) hat; ⟨_, hat', ?_⟩
    exact fin 4 (by decide) _ _ 4 _ (good0 (by decide) rfl (by kernel_rfl) (by decide) (by kernel_rfl)) (by decide) (by decide) js'
  · refine Tri.listR (m := 12) (n := 253) (l := (Eng.spine 8 body).1) codeOK 8 rfl restE (start5 n np ps hk) (Tr.all_ok ⟨rfl, rfl, ht rfl, hd _ rfl, fun js => ?_⟩)
    refine Tri.preE fun aa ww hat => let ⟨js', hat'⟩ := settle5 n np ps E hE hT hD (c := 15) hat; ⟨_, hat', ?_⟩
    exact fin 5 (by decide) _ _ 5 _ (good0 (by decide) rfl (by kernel_rfl) (by decide) (by kernel_rfl)) (by decide) (by decide) js'
  · refine Tri.listR (m := 12) (n := 253) (l := (Eng.spine 8 body).1) codeOK 8 rfl restE (start6 n np ps hk) (Tr.all_ok ⟨rfl, rfl, ht rfl, hd _ rfl, fun js => ?_⟩)
    refine Tri.preE fun aa ww hat => let ⟨js', hat'⟩ := settle6 n np ps E hE hT hD (c := 18) hat; ⟨_, hat', ?_⟩
    exact fin 6 (by decide) _ _ 6 _ (good0 (by decide) rfl (by kernel_rfl) (by decide) (by kernel_rfl)) (by decide) (by decide) js'
  · refine Tri.listR (m := 12) (n := 253) (l := (Eng.spine 8 body).1) codeOK 8 rfl restE (start7 n np ps hk) (Tr.all_ok ⟨rfl, rfl, ht rfl, hd _ rfl, fun js => ?_⟩)
    refine Tri.preE fun aa ww hat => let ⟨js', hat'⟩ := settle7 n np ps E hE hT hD (c := 21) hat; ⟨_, hat', ?_⟩
    exact fin 7 (by decide) _ _ 7 _ (good0 (by decide) rfl (by kernel_rfl) (by decide) (by kernel_rfl)) (by decide) (by decide) js'
  · refine Tri.listR (m := 12) (n := 253) (l := (Eng.spine 8 body).1) codeOK 8 rfl restE (start8 n np ps hk) (Tr.all_ok ⟨rfl, rfl, ht rfl, hd _ rfl, fun js => ?_⟩)
    refine Tri.preE fun aa ww hat => let ⟨js', hat'⟩ := settle8 n np ps E hE hT hD (c := 24) hat; ⟨_, hat', ?_⟩
    exact fin 8 (by decide) _ _ 8 _ (good0 (by decide) rfl (by kernel_rfl) (by decide) (by kernel_rfl)) (by decide) (by decide) js'
  · refine Tri.listR (m := 12) (n := 253) (l := (Eng.spine 8 body).1) codeOK 8 rfl restE (start9 n np ps hk) (Tr.all_ok ⟨rfl, rfl, ht rfl, hd _ rfl, fun js => ?_⟩)
    refine Tri.preE fun aa ww hat => let ⟨js', hat'⟩ := settle9 n np ps E hE hT hD (c := 27) hat; ⟨_, hat', ?_⟩
    exact fin 9 (by decide) _ _ 9 _ (good0 (by decide) rfl (by kernel_rfl) (by decide) (by kernel_rfl)) (by decide) (by decide) js'
  · refine Tri.listR (m := 12) (n := 253) (l := (Eng.spine 8 body).1) codeOK 8 rfl restE (start10 n np ps hk) (Tr.all_ok ⟨rfl, rfl, ht rfl, hd _ rfl, fun js => ?_⟩)
    refine Tri.preE fun aa ww hat => let ⟨js', hat'⟩ := settle10 n np ps E hE hT hD (c := 30) hat; ⟨_, hat', ?_⟩
    exact fin 10 (by decide) _ _ 10 _ (good0 (by decide) rfl (by kernel_rfl) (by decide) (by kernel_rfl)) (by decide) (by decide) js'
  · refine Tri.listR (m := 12) (n := 253) (l := (Eng.spine 8 body).1) codeOK 8 rfl restE (start11 n np ps hk) (Tr.all_ok ⟨rfl, rfl, ht rfl, hd _ rfl, fun js => ?_⟩)
    refine Tri.preE fun aa ww hat => let ⟨js', hat'⟩ := settle11 n np ps E hE hT hD (c := 33) hat; ⟨_, hat', ?_⟩
    exact fin 11 (by decide) _ _ 11 _ (good0 (by decide) rfl (by kernel_rfl) (by decide) (by kernel_rfl)) (by decide) (by decide) js'
  · refine Tri.listR (m := 12) (n := 253) (l := (Eng.spine 8 body).1) codeOK 8 rfl restE (start12 n np ps hk) (Tr.all_ok ⟨rfl, rfl, ht rfl, hd _ rfl, fun js => ?_⟩)
    refine Tri.preE fun aa ww hat => let ⟨js', hat'⟩ := settle12 n np ps E hE hT hD (c := 36) hat; ⟨_, hat', ?_⟩
    exact fin 12 (by decide) _ _ 12 _ (good0 (by decide) rfl (by kernel_rfl) (by decide) (by kernel_rfl)) (by decide) (by decide) js'
end
end Go.Proofs.Ytjohhjilglilkaa.ListOwn
