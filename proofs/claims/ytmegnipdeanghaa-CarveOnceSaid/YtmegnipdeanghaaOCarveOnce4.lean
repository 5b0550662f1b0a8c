/-
  CarveOnce: a new Push gets its taker's name.
-/
import Derived.Test.YtmegnipdeanghaaOCarveOnce3
namespace Go.Proofs.Ytmegnipdeanghaa.CarveOnce
open Go Go.RowKit Go.Proofs.Ytmegnipdeanghaa.Eng
set_option linter.unusedVariables false
set_option linter.unusedSimpArgs false
set_option linter.unusedSectionVars false
set_option maxRecDepth 20000

abbrev r16_0 : List (Nat × Nat) := [(0, 0), (1, 1), (2, 2), (3, 3), (4, 4), (5, 5), (6, 6), (7, 7), (8, 8), (15, 9), (10, 10), (11, 11), (12, 12), (13, 13)]
theorem pushed0 {n f i B p4 c t0 t1 t2 t3 t4 t5 t6 t7 w b e kk fi la : Int} {np N : Nat} {ps rows : List (List Int)} {xs : List Int} {n0 n1 n2 : Bool} {s1 s2 : TK} {E : Ctx MObj} (hE : E.nid0 = 1) (hT : E.top = 30) {kI : Int} {dn : Bool} {js : Nat → SV} {d : List Nat} {a : Act} {ww : World}
    (h : At MS E ⟨pre n np f i ++ [.v (.int .i64 (.lit kI)), .v (.bool (.lit dn))] ++ junk js 108 17, base ps rows B p4 N xs c t0 t1 t2 t3 t4 t5 t6 t7 (.ptr 8 0) (vT 1 s1) (vT 2 s2) n0 n1 n2 ++ [(8, some (tk (fnT 58 0) B p4 0 w b e kk (.ptr 15 0) 0)), (10, oT B p4 1 s1), (11, oP 1 s1), (12, oT B p4 2 s2), (13, oP 2 s2), (15, some (pu (.fn 62 [] []) 3 fi la 0 0))], 16, d⟩ a ww) :
    ∃ js, At MS E ⟨pre n np f i ++ [.v (.int .i64 (.lit kI)), .v (.bool (.lit dn))] ++ junk js 108 17, base ps rows B p4 N xs c t0 t1 t2 t3 t4 t5 t6 t7 (vT 0 (.lay 0 w b e kk fi la 0)) (vT 1 s1) (vT 2 s2) n0 n1 n2 ++ six B p4 (.lay 0 w b e kk fi la 0) s1 s2, 14, []⟩ a ww := by
  refine at_rename2 (m := 17) (n := 108) (nid' := 14) r16_0 rfl (by simp [length_junk]) rfl ?_ ?_ ?_ (by rw [hE]; rfl) (by rw [hE]; decide) (by rw [hT]; decide) h
  · intro p hp x hx
    simp only [List.mem_cons, List.not_mem_nil, or_false] at hp
    rcases hp with rfl | rfl | rfl | rfl | rfl | rfl | rfl | rfl | rfl | rfl | rfl | rfl | rfl | rfl
    · exact ⟨x, by cases hx; rfl, hx⟩
    · exact ⟨x, by cases hx; rfl, hx⟩
    · exact ⟨x, by cases hx; rfl, hx⟩
    · exact ⟨x, by cases hx; rfl, hx⟩
    · exact ⟨x, by cases hx; rfl, hx⟩
    · exact ⟨x, by cases hx; rfl, hx⟩
    · exact ⟨_, by cases hx; simp only [renObj, renVVs, vT_keep (k := 1) (s := s1) (r := r16_0) rfl, vT_keep (k := 2) (s := s2) (r := r16_0) rfl, show renVV r16_0 (.ptr 8 0) = some (.ptr 8 0) from rfl, Option.map_some]; rfl, rfl⟩
    · exact ⟨x, by cases hx; rfl, hx⟩
    · exact ⟨_, by cases hx; rfl, rfl⟩
    · exact ⟨_, by cases hx; rfl, rfl⟩
    · exact ⟨x, oT_keep (k := 1) rfl rfl hx, hx⟩
    · exact ⟨x, oP_keep (k := 1) hx, hx⟩
    · exact ⟨x, oT_keep (k := 2) rfl rfl hx, hx⟩
    · exact ⟨x, oP_keep (k := 2) hx, hx⟩
  · intro p hp hx
    simp only [List.mem_cons, List.not_mem_nil, or_false] at hp
    rcases hp with rfl | rfl | rfl | rfl | rfl | rfl | rfl | rfl | rfl | rfl | rfl | rfl | rfl | rfl <;> first | exact hx | (cases hx)
  · intro b hb
    have h0 := hb (0, 0) (by simp); have h1 := hb (1, 1) (by simp); have h2 := hb (2, 2) (by simp); have h3 := hb (3, 3) (by simp); have h4 := hb (4, 4) (by simp); have h5 := hb (5, 5) (by simp); have h6 := hb (6, 6) (by simp); have h7 := hb (7, 7) (by simp); have h8 := hb (8, 8) (by simp); have h9 := hb (15, 9) (by simp); have h10 := hb (10, 10) (by simp); have h11 := hb (11, 11) (by simp); have h12 := hb (12, 12) (by simp); have h13 := hb (13, 13) (by simp)
    match b with
    | 0 => exact absurd rfl h0
    | 1 => exact absurd rfl h1
    | 2 => exact absurd rfl h2
    | 3 => exact absurd rfl h3
    | 4 => exact absurd rfl h4
    | 5 => exact absurd rfl h5
    | 6 => exact absurd rfl h6
    | 7 => exact absurd rfl h7
    | 8 => exact absurd rfl h8
    | 9 => exact absurd rfl h9
    | 10 => exact absurd rfl h10
    | 11 => exact absurd rfl h11
    | 12 => exact absurd rfl h12
    | 13 => exact absurd rfl h13
    | b + 14 => rfl

abbrev r16_1 : List (Nat × Nat) := [(0, 0), (1, 1), (2, 2), (3, 3), (4, 4), (5, 5), (6, 6), (7, 7), (10, 10), (15, 11), (8, 8), (9, 9), (12, 12), (13, 13)]
theorem pushed1 {n f i B p4 c t0 t1 t2 t3 t4 t5 t6 t7 w b e kk fi la : Int} {np N : Nat} {ps rows : List (List Int)} {xs : List Int} {n0 n1 n2 : Bool} {s0 s2 : TK} {E : Ctx MObj} (hE : E.nid0 = 1) (hT : E.top = 30) {kI : Int} {dn : Bool} {js : Nat → SV} {d : List Nat} {a : Act} {ww : World}
    (h : At MS E ⟨pre n np f i ++ [.v (.int .i64 (.lit kI)), .v (.bool (.lit dn))] ++ junk js 108 17, base ps rows B p4 N xs c t0 t1 t2 t3 t4 t5 t6 t7 (vT 0 s0) (.ptr 10 0) (vT 2 s2) n0 n1 n2 ++ [(8, oT B p4 0 s0), (9, oP 0 s0), (10, some (tk (fnT 58 1) B p4 1 w b e kk (.ptr 15 0) 0)), (12, oT B p4 2 s2), (13, oP 2 s2), (15, some (pu (.fn 62 [] []) 4 fi la 1 0))], 16, d⟩ a ww) :
    ∃ js, At MS E ⟨pre n np f i ++ [.v (.int .i64 (.lit kI)), .v (.bool (.lit dn))] ++ junk js 108 17, base ps rows B p4 N xs c t0 t1 t2 t3 t4 t5 t6 t7 (vT 0 s0) (vT 1 (.lay 0 w b e kk fi la 0)) (vT 2 s2) n0 n1 n2 ++ six B p4 s0 (.lay 0 w b e kk fi la 0) s2, 14, []⟩ a ww := by
  refine at_rename2 (m := 17) (n := 108) (nid' := 14) r16_1 rfl (by simp [length_junk]) rfl ?_ ?_ ?_ (by rw [hE]; rfl) (by rw [hE]; decide) (by rw [hT]; decide) h
  · intro p hp x hx
    simp only [List.mem_cons, List.not_mem_nil, or_false] at hp
    rcases hp with rfl | rfl | rfl | rfl | rfl | rfl | rfl | rfl | rfl | rfl | rfl | rfl | rfl | rfl
    · exact ⟨x, by cases hx; rfl, hx⟩
    · exact ⟨x, by cases hx; rfl, hx⟩
    · exact ⟨x, by cases hx; rfl, hx⟩
    · exact ⟨x, by cases hx; rfl, hx⟩
    · exact ⟨x, by cases hx; rfl, hx⟩
    · exact ⟨x, by cases hx; rfl, hx⟩
    · exact ⟨_, by cases hx; simp only [renObj, renVVs, vT_keep (k := 0) (s := s0) (r := r16_1) rfl, vT_keep (k := 2) (s := s2) (r := r16_1) rfl, show renVV r16_1 (.ptr 10 0) = some (.ptr 10 0) from rfl, Option.map_some]; rfl, rfl⟩
    · exact ⟨x, by cases hx; rfl, hx⟩
    · exact ⟨_, by cases hx; rfl, rfl⟩
    · exact ⟨_, by cases hx; rfl, rfl⟩
    · exact ⟨x, oT_keep (k := 0) rfl rfl hx, hx⟩
    · exact ⟨x, oP_keep (k := 0) hx, hx⟩
    · exact ⟨x, oT_keep (k := 2) rfl rfl hx, hx⟩
    · exact ⟨x, oP_keep (k := 2) hx, hx⟩
  · intro p hp hx
    simp only [List.mem_cons, List.not_mem_nil, or_false] at hp
    rcases hp with rfl | rfl | rfl | rfl | rfl | rfl | rfl | rfl | rfl | rfl | rfl | rfl | rfl | rfl <;> first | exact hx | (cases hx)
  · intro b hb
    have h0 := hb (0, 0) (by simp); have h1 := hb (1, 1) (by simp); have h2 := hb (2, 2) (by simp); have h3 := hb (3, 3) (by simp); have h4 := hb (4, 4) (by simp); have h5 := hb (5, 5) (by simp); have h6 := hb (6, 6) (by simp); have h7 := hb (7, 7) (by simp); have h8 := hb (8, 8) (by simp); have h9 := hb (9, 9) (by simp); have h10 := hb (10, 10) (by simp); have h11 := hb (15, 11) (by simp); have h12 := hb (12, 12) (by simp); have h13 := hb (13, 13) (by simp)
    match b with
    | 0 => exact absurd rfl h0
    | 1 => exact absurd rfl h1
    | 2 => exact absurd rfl h2
    | 3 => exact absurd rfl h3
    | 4 => exact absurd rfl h4
    | 5 => exact absurd rfl h5
    | 6 => exact absurd rfl h6
    | 7 => exact absurd rfl h7
    | 8 => exact absurd rfl h8
    | 9 => exact absurd rfl h9
    | 10 => exact absurd rfl h10
    | 11 => exact absurd rfl h11
    | 12 => exact absurd rfl h12
    | 13 => exact absurd rfl h13
    | b + 14 => rfl

abbrev r16_2 : List (Nat × Nat) := [(0, 0), (1, 1), (2, 2), (3, 3), (4, 4), (5, 5), (6, 6), (7, 7), (12, 12), (15, 13), (8, 8), (9, 9), (10, 10), (11, 11)]
theorem pushed2 {n f i B p4 c t0 t1 t2 t3 t4 t5 t6 t7 w b e kk fi la : Int} {np N : Nat} {ps rows : List (List Int)} {xs : List Int} {n0 n1 n2 : Bool} {s0 s1 : TK} {E : Ctx MObj} (hE : E.nid0 = 1) (hT : E.top = 30) {kI : Int} {dn : Bool} {js : Nat → SV} {d : List Nat} {a : Act} {ww : World}
    (h : At MS E ⟨pre n np f i ++ [.v (.int .i64 (.lit kI)), .v (.bool (.lit dn))] ++ junk js 108 17, base ps rows B p4 N xs c t0 t1 t2 t3 t4 t5 t6 t7 (vT 0 s0) (vT 1 s1) (.ptr 12 0) n0 n1 n2 ++ [(8, oT B p4 0 s0), (9, oP 0 s0), (10, oT B p4 1 s1), (11, oP 1 s1), (12, some (tk (fnT 58 2) B p4 2 w b e kk (.ptr 15 0) 0)), (15, some (pu (.fn 62 [] []) 5 fi la 2 0))], 16, d⟩ a ww) :
    ∃ js, At MS E ⟨pre n np f i ++ [.v (.int .i64 (.lit kI)), .v (.bool (.lit dn))] ++ junk js 108 17, base ps rows B p4 N xs c t0 t1 t2 t3 t4 t5 t6 t7 (vT 0 s0) (vT 1 s1) (vT 2 (.lay 0 w b e kk fi la 0)) n0 n1 n2 ++ six B p4 s0 s1 (.lay 0 w b e kk fi la 0), 14, []⟩ a ww := by
  refine at_rename2 (m := 17) (n := 108) (nid' := 14) r16_2 rfl (by simp [length_junk]) rfl ?_ ?_ ?_ (by rw [hE]; rfl) (by rw [hE]; decide) (by rw [hT]; decide) h
  · intro p hp x hx
    simp only [List.mem_cons, List.not_mem_nil, or_false] at hp
    rcases hp with rfl | rfl | rfl | rfl | rfl | rfl | rfl | rfl | rfl | rfl | rfl | rfl | rfl | rfl
    · exact ⟨x, by cases hx; rfl, hx⟩
    · exact ⟨x, by cases hx; rfl, hx⟩
    · exact ⟨x, by cases hx; rfl, hx⟩
    · exact ⟨x, by cases hx; rfl, hx⟩
    · exact ⟨x, by cases hx; rfl, hx⟩
    · exact ⟨x, by cases hx; rfl, hx⟩
    · exact ⟨_, by cases hx; simp only [renObj, renVVs, vT_keep (k := 0) (s := s0) (r := r16_2) rfl, vT_keep (k := 1) (s := s1) (r := r16_2) rfl, show renVV r16_2 (.ptr 12 0) = some (.ptr 12 0) from rfl, Option.map_some]; rfl, rfl⟩
    · exact ⟨x, by cases hx; rfl, hx⟩
    · exact ⟨_, by cases hx; rfl, rfl⟩
    · exact ⟨_, by cases hx; rfl, rfl⟩
    · exact ⟨x, oT_keep (k := 0) rfl rfl hx, hx⟩
    · exact ⟨x, oP_keep (k := 0) hx, hx⟩
    · exact ⟨x, oT_keep (k := 1) rfl rfl hx, hx⟩
    · exact ⟨x, oP_keep (k := 1) hx, hx⟩
  · intro p hp hx
    simp only [List.mem_cons, List.not_mem_nil, or_false] at hp
    rcases hp with rfl | rfl | rfl | rfl | rfl | rfl | rfl | rfl | rfl | rfl | rfl | rfl | rfl | rfl <;> first | exact hx | (cases hx)
  · intro b hb
    have h0 := hb (0, 0) (by simp); have h1 := hb (1, 1) (by simp); have h2 := hb (2, 2) (by simp); have h3 := hb (3, 3) (by simp); have h4 := hb (4, 4) (by simp); have h5 := hb (5, 5) (by simp); have h6 := hb (6, 6) (by simp); have h7 := hb (7, 7) (by simp); have h8 := hb (8, 8) (by simp); have h9 := hb (9, 9) (by simp); have h10 := hb (10, 10) (by simp); have h11 := hb (11, 11) (by simp); have h12 := hb (12, 12) (by simp); have h13 := hb (15, 13) (by simp)
    match b with
    | 0 => exact absurd rfl h0
    | 1 => exact absurd rfl h1
    | 2 => exact absurd rfl h2
    | 3 => exact absurd rfl h3
    | 4 => exact absurd rfl h4
    | 5 => exact absurd rfl h5
    | 6 => exact absurd rfl h6
    | 7 => exact absurd rfl h7
    | 8 => exact absurd rfl h8
    | 9 => exact absurd rfl h9
    | 10 => exact absurd rfl h10
    | 11 => exact absurd rfl h11
    | 12 => exact absurd rfl h12
    | 13 => exact absurd rfl h13
    | b + 14 => rfl

end Go.Proofs.Ytmegnipdeanghaa.CarveOnce
