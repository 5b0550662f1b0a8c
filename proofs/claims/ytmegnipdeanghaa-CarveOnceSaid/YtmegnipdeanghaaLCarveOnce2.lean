/-
  CarveOnce: the steps that are done: a block was taken, or there is none.
-/
import Derived.Test.YtmegnipdeanghaaLCarveOnce1
import Derived.Test.YtmegnipdeanghaaDCarveOnce2
namespace Go.Proofs.Ytmegnipdeanghaa.CarveOnce
open Go Go.RowKit Go.Proofs.Ytmegnipdeanghaa.Eng
set_option linter.unusedVariables false
set_option linter.unusedSimpArgs false
set_option linter.unusedSectionVars false
set_option maxRecDepth 20000
theorem at_tm {S : Eng.Sys MObj} {E : Ctx MObj} {p p' l : List SV} {hp : HP MObj} {nid : Nat} {d : List Nat} {a : Act} {w : World} (h : wkSs p p') (hat : At S E ⟨p ++ l, hp, nid, d⟩ a w) : At S E ⟨p' ++ l, hp, nid, d⟩ a w :=
  weak_tm (tm_weak h) a w hat

abbrev r12_0 : List (Nat × Nat) := [(0, 0), (1, 1), (2, 2), (3, 3), (4, 4), (5, 5), (6, 6), (7, 7), (10, 10), (11, 11), (12, 12), (13, 13)]
theorem drop0 {n f i B p4 c t0 t1 t2 t3 t4 t5 t6 t7 : Int} {np N : Nat} {ps rows : List (List Int)} {xs : List Int} {n0 n1 n2 : Bool} {s1 s2 : TK} {o1 o2 : Option (VObj MObj)} {E : Ctx MObj} (hE : E.nid0 = 1) (hT : E.top = 30) {tm : List SV} (htm : tm.take 15 = pre n np f i) (hlen : tm.length = 15 + 110) {d : List Nat} {a : Act} {w : World}
    (h : At MS E ⟨tm, base ps rows B p4 N xs c t0 t1 t2 t3 t4 t5 t6 t7 .nilp (vT 1 s1) (vT 2 s2) n0 n1 n2 ++ [(8, o1), (9, o2), (10, oT B p4 1 s1), (11, oP 1 s1), (12, oT B p4 2 s2), (13, oP 2 s2)], 14, d⟩ a w) :
    ∃ js, At MS E (S n np f i ps rows B p4 N xs c t0 t1 t2 t3 t4 t5 t6 t7 .nil s1 s2 n0 n1 n2 js) a w := by
  refine at_rename2 (m := 15) (n := 110) (nid' := 14) r12_0 htm hlen rfl ?_ ?_ ?_ (by rw [hE]; rfl) (by rw [hE]; decide) (by rw [hT]; decide) h
  · intro p hp x hx
    simp only [List.mem_cons, List.not_mem_nil, or_false] at hp
    rcases hp with rfl | rfl | rfl | rfl | rfl | rfl | rfl | rfl | rfl | rfl | rfl | rfl
    · exact ⟨x, by cases hx; rfl, hx⟩
    · exact ⟨x, by cases hx; rfl, hx⟩
    · exact ⟨x, by cases hx; rfl, hx⟩
    · exact ⟨x, by cases hx; rfl, hx⟩
    · exact ⟨x, by cases hx; rfl, hx⟩
    · exact ⟨x, by cases hx; rfl, hx⟩
    · exact ⟨x, by cases hx; simp only [renObj, renVVs, vT_keep (k := 1) (s := s1) (r := r12_0) rfl, vT_keep (k := 2) (s := s2) (r := r12_0) rfl, show renVV r12_0 .nilp = some .nilp from rfl, Option.map_some], hx⟩
    · exact ⟨x, by cases hx; rfl, hx⟩
    · exact ⟨x, oT_keep (k := 1) rfl rfl hx, hx⟩
    · exact ⟨x, oP_keep (k := 1) hx, hx⟩
    · exact ⟨x, oT_keep (k := 2) rfl rfl hx, hx⟩
    · exact ⟨x, oP_keep (k := 2) hx, hx⟩
  · intro p hp hx
    simp only [List.mem_cons, List.not_mem_nil, or_false] at hp
    rcases hp with rfl | rfl | rfl | rfl | rfl | rfl | rfl | rfl | rfl | rfl | rfl | rfl <;> first | exact hx | (cases hx)
  · intro b hb
    have h0 := hb (0, 0) (by simp); have h1 := hb (1, 1) (by simp); have h2 := hb (2, 2) (by simp); have h3 := hb (3, 3) (by simp); have h4 := hb (4, 4) (by simp); have h5 := hb (5, 5) (by simp); have h6 := hb (6, 6) (by simp); have h7 := hb (7, 7) (by simp); have h10 := hb (10, 10) (by simp); have h11 := hb (11, 11) (by simp); have h12 := hb (12, 12) (by simp); have h13 := hb (13, 13) (by simp)
    match b with
    | 0 => exact absurd rfl h0
    | 1 => exact absurd rfl h1
    | 2 => exact absurd rfl h2
    | 3 => exact absurd rfl h3
    | 4 => exact absurd rfl h4
    | 5 => exact absurd rfl h5
    | 6 => exact absurd rfl h6
    | 7 => exact absurd rfl h7
    | 8 => rfl
    | 9 => rfl
    | 10 => exact absurd rfl h10
    | 11 => exact absurd rfl h11
    | 12 => exact absurd rfl h12
    | 13 => exact absurd rfl h13
    | b + 14 => rfl
abbrev r12_1 : List (Nat × Nat) := [(0, 0), (1, 1), (2, 2), (3, 3), (4, 4), (5, 5), (6, 6), (7, 7), (8, 8), (9, 9), (12, 12), (13, 13)]
theorem drop1 {n f i B p4 c t0 t1 t2 t3 t4 t5 t6 t7 : Int} {np N : Nat} {ps rows : List (List Int)} {xs : List Int} {n0 n1 n2 : Bool} {s0 s2 : TK} {o1 o2 : Option (VObj MObj)} {E : Ctx MObj} (hE : E.nid0 = 1) (hT : E.top = 30) {tm : List SV} (htm : tm.take 15 = pre n np f i) (hlen : tm.length = 15 + 110) {d : List Nat} {a : Act} {w : World}
    (h : At MS E ⟨tm, base ps rows B p4 N xs c t0 t1 t2 t3 t4 t5 t6 t7 (vT 0 s0) .nilp (vT 2 s2) n0 n1 n2 ++ [(8, oT B p4 0 s0), (9, oP 0 s0), (10, o1), (11, o2), (12, oT B p4 2 s2), (13, oP 2 s2)], 14, d⟩ a w) :
    ∃ js, At MS E (S n np f i ps rows B p4 N xs c t0 t1 t2 t3 t4 t5 t6 t7 s0 .nil s2 n0 n1 n2 js) a w := by
  refine at_rename2 (m := 15) (n := 110) (nid' := 14) r12_1 htm hlen rfl ?_ ?_ ?_ (by rw [hE]; rfl) (by rw [hE]; decide) (by rw [hT]; decide) h
  · intro p hp x hx
    simp only [List.mem_cons, List.not_mem_nil, or_false] at hp
    rcases hp with rfl | rfl | rfl | rfl | rfl | rfl | rfl | rfl | rfl | rfl | rfl | rfl
    · exact ⟨x, by cases hx; rfl, hx⟩
    · exact ⟨x, by cases hx; rfl, hx⟩
    · exact ⟨x, by cases hx; rfl, hx⟩
    · exact ⟨x, by cases hx; rfl, hx⟩
    · exact ⟨x, by cases hx; rfl, hx⟩
    · exact ⟨x, by cases hx; rfl, hx⟩
    · exact ⟨x, by cases hx; simp only [renObj, renVVs, vT_keep (k := 0) (s := s0) (r := r12_1) rfl, vT_keep (k := 2) (s := s2) (r := r12_1) rfl, show renVV r12_1 .nilp = some .nilp from rfl, Option.map_some], hx⟩
    · exact ⟨x, by cases hx; rfl, hx⟩
    · exact ⟨x, oT_keep (k := 0) rfl rfl hx, hx⟩
    · exact ⟨x, oP_keep (k := 0) hx, hx⟩
    · exact ⟨x, oT_keep (k := 2) rfl rfl hx, hx⟩
    · exact ⟨x, oP_keep (k := 2) hx, hx⟩
  · intro p hp hx
    simp only [List.mem_cons, List.not_mem_nil, or_false] at hp
    rcases hp with rfl | rfl | rfl | rfl | rfl | rfl | rfl | rfl | rfl | rfl | rfl | rfl <;> first | exact hx | (cases hx)
  · intro b hb
    have h0 := hb (0, 0) (by simp); have h1 := hb (1, 1) (by simp); have h2 := hb (2, 2) (by simp); have h3 := hb (3, 3) (by simp); have h4 := hb (4, 4) (by simp); have h5 := hb (5, 5) (by simp); have h6 := hb (6, 6) (by simp); have h7 := hb (7, 7) (by simp); have h8 := hb (8, 8) (by simp); have h9 := hb (9, 9) (by simp); have h12 := hb (12, 12) (by simp); have h13 := hb (13, 13) (by simp)
    match b with
    | 0 => exact absurd rfl h0
    | 1 => exact absurd rfl h1
    | 2 => exact absurd rfl h2
    | 3 => exact absurd rfl h3
    | 4 => exact absurd rfl h4
    | 5 => exact absurd rfl h5
    | 6 => exact absurd rfl h6
    | 7 => exact absurd rfl h7
    | 8 => exact absurd rfl h8
    | 9 => exact absurd rfl h9
    | 10 => rfl
    | 11 => rfl
    | 12 => exact absurd rfl h12
    | 13 => exact absurd rfl h13
    | b + 14 => rfl
abbrev r12_2 : List (Nat × Nat) := [(0, 0), (1, 1), (2, 2), (3, 3), (4, 4), (5, 5), (6, 6), (7, 7), (8, 8), (9, 9), (10, 10), (11, 11)]
theorem drop2 {n f i B p4 c t0 t1 t2 t3 t4 t5 t6 t7 : Int} {np N : Nat} {ps rows : List (List Int)} {xs : List Int} {n0 n1 n2 : Bool} {s0 s1 : TK} {o1 o2 : Option (VObj MObj)} {E : Ctx MObj} (hE : E.nid0 = 1) (hT : E.top = 30) {tm : List SV} (htm : tm.take 15 = pre n np f i) (hlen : tm.length = 15 + 110) {d : List Nat} {a : Act} {w : World}
    (h : At MS E ⟨tm, base ps rows B p4 N xs c t0 t1 t2 t3 t4 t5 t6 t7 (vT 0 s0) (vT 1 s1) .nilp n0 n1 n2 ++ [(8, oT B p4 0 s0), (9, oP 0 s0), (10, oT B p4 1 s1), (11, oP 1 s1), (12, o1), (13, o2)], 14, d⟩ a w) :
    ∃ js, At MS E (S n np f i ps rows B p4 N xs c t0 t1 t2 t3 t4 t5 t6 t7 s0 s1 .nil n0 n1 n2 js) a w := by
  refine at_rename2 (m := 15) (n := 110) (nid' := 14) r12_2 htm hlen rfl ?_ ?_ ?_ (by rw [hE]; rfl) (by rw [hE]; decide) (by rw [hT]; decide) h
  · intro p hp x hx
    simp only [List.mem_cons, List.not_mem_nil, or_false] at hp
    rcases hp with rfl | rfl | rfl | rfl | rfl | rfl | rfl | rfl | rfl | rfl | rfl | rfl
    · exact ⟨x, by cases hx; rfl, hx⟩
    · exact ⟨x, by cases hx; rfl, hx⟩
    · exact ⟨x, by cases hx; rfl, hx⟩
    · exact ⟨x, by cases hx; rfl, hx⟩
    · exact ⟨x, by cases hx; rfl, hx⟩
    · exact ⟨x, by cases hx; rfl, hx⟩
    · exact ⟨x, by cases hx; simp only [renObj, renVVs, vT_keep (k := 0) (s := s0) (r := r12_2) rfl, vT_keep (k := 1) (s := s1) (r := r12_2) rfl, show renVV r12_2 .nilp = some .nilp from rfl, Option.map_some], hx⟩
    · exact ⟨x, by cases hx; rfl, hx⟩
    · exact ⟨x, oT_keep (k := 0) rfl rfl hx, hx⟩
    · exact ⟨x, oP_keep (k := 0) hx, hx⟩
    · exact ⟨x, oT_keep (k := 1) rfl rfl hx, hx⟩
    · exact ⟨x, oP_keep (k := 1) hx, hx⟩
  · intro p hp hx
    simp only [List.mem_cons, List.not_mem_nil, or_false] at hp
    rcases hp with rfl | rfl | rfl | rfl | rfl | rfl | rfl | rfl | rfl | rfl | rfl | rfl <;> first | exact hx | (cases hx)
  · intro b hb
    have h0 := hb (0, 0) (by simp); have h1 := hb (1, 1) (by simp); have h2 := hb (2, 2) (by simp); have h3 := hb (3, 3) (by simp); have h4 := hb (4, 4) (by simp); have h5 := hb (5, 5) (by simp); have h6 := hb (6, 6) (by simp); have h7 := hb (7, 7) (by simp); have h8 := hb (8, 8) (by simp); have h9 := hb (9, 9) (by simp); have h10 := hb (10, 10) (by simp); have h11 := hb (11, 11) (by simp)
    match b with
    | 0 => exact absurd rfl h0
    | 1 => exact absurd rfl h1
    | 2 => exact absurd rfl h2
    | 3 => exact absurd rfl h3
    | 4 => exact absurd rfl h4
    | 5 => exact absurd rfl h5
    | 6 => exact absurd rfl h6
    | 7 => exact absurd rfl h7
    | 8 => exact absurd rfl h8
    | 9 => exact absurd rfl h9
    | 10 => exact absurd rfl h10
    | 11 => exact absurd rfl h11
    | 12 => rfl
    | 13 => rfl
    | b + 14 => rfl
abbrev r15d_0 : List (Nat × Nat) := [(0, 0), (1, 1), (2, 2), (3, 3), (4, 4), (5, 5), (6, 6), (7, 7), (15, 8), (10, 10), (11, 11), (12, 12), (13, 13)]
theorem bornD0 {n f i B p4 c t0 t1 t2 t3 t4 t5 t6 t7 w b : Int} {np N : Nat} {ps rows : List (List Int)} {xs : List Int} {n0 n1 n2 : Bool} {s1 s2 : TK} {E : Ctx MObj} (hE : E.nid0 = 1) (hT : E.top = 30) {kI : Int} {dn : Bool} {js : Nat → SV} {d : List Nat} {a : Act} {ww : World}
    (h : At MS E ⟨pre n np f i ++ [.v (.int .i64 (.lit kI)), .v (.bool (.lit dn))] ++ junk js 108 17, base ps rows B p4 N xs c t0 t1 t2 t3 t4 t5 t6 t7 (.ptr 15 0) (vT 1 s1) (vT 2 s2) n0 n1 n2 ++ [(10, oT B p4 1 s1), (11, oP 1 s1), (12, oT B p4 2 s2), (13, oP 2 s2), (15, some (tk .nilf B p4 0 w b 0 0 .nilp 0))], 16, d⟩ a ww) :
    ∃ js, At MS E ⟨pre n np f i ++ [.v (.int .i64 (.lit kI)), .v (.bool (.lit dn))] ++ junk js 108 17, base ps rows B p4 N xs c t0 t1 t2 t3 t4 t5 t6 t7 (.ptr 8 0) (vT 1 s1) (vT 2 s2) n0 n1 n2 ++ [(8, some (tk .nilf B p4 0 w b 0 0 .nilp 0)), (9, none), (10, oT B p4 1 s1), (11, oP 1 s1), (12, oT B p4 2 s2), (13, oP 2 s2)], 14, []⟩ a ww := by
  refine at_rename2 (m := 17) (n := 108) (nid' := 14) r15d_0 rfl (by simp [length_junk]) rfl ?_ ?_ ?_ (by rw [hE]; rfl) (by rw [hE]; decide) (by rw [hT]; decide) h
  · intro p hp x hx
    simp only [List.mem_cons, List.not_mem_nil, or_false] at hp
    rcases hp with rfl | rfl | rfl | rfl | rfl | rfl | rfl | rfl | rfl | rfl | rfl | rfl | rfl
    · exact ⟨x, by cases hx; rfl, hx⟩
    · exact ⟨x, by cases hx; rfl, hx⟩
    · exact ⟨x, by cases hx; rfl, hx⟩
    · exact ⟨x, by cases hx; rfl, hx⟩
    · exact ⟨x, by cases hx; rfl, hx⟩
    · exact ⟨x, by cases hx; rfl, hx⟩
    · exact ⟨_, by cases hx; simp only [renObj, renVVs, vT_keep (k := 1) (s := s1) (r := r15d_0) rfl, vT_keep (k := 2) (s := s2) (r := r15d_0) rfl, show renVV r15d_0 (.ptr 15 0) = some (.ptr 8 0) from rfl, Option.map_some] <;> rfl, rfl⟩
    · exact ⟨x, by cases hx; rfl, hx⟩
    · exact ⟨_, by cases hx; rfl, rfl⟩
    · exact ⟨x, oT_keep (k := 1) rfl rfl hx, hx⟩
    · exact ⟨x, oP_keep (k := 1) hx, hx⟩
    · exact ⟨x, oT_keep (k := 2) rfl rfl hx, hx⟩
    · exact ⟨x, oP_keep (k := 2) hx, hx⟩
  · intro p hp hx
    simp only [List.mem_cons, List.not_mem_nil, or_false] at hp
    rcases hp with rfl | rfl | rfl | rfl | rfl | rfl | rfl | rfl | rfl | rfl | rfl | rfl | rfl <;> first | exact hx | (cases hx)
  · intro b hb
    have h0 := hb (0, 0) (by simp); have h1 := hb (1, 1) (by simp); have h2 := hb (2, 2) (by simp); have h3 := hb (3, 3) (by simp); have h4 := hb (4, 4) (by simp); have h5 := hb (5, 5) (by simp); have h6 := hb (6, 6) (by simp); have h7 := hb (7, 7) (by simp); have h8 := hb (15, 8) (by simp); have h10 := hb (10, 10) (by simp); have h11 := hb (11, 11) (by simp); have h12 := hb (12, 12) (by simp); have h13 := hb (13, 13) (by simp)
    match b with
    | 0 => exact absurd rfl h0
    | 1 => exact absurd rfl h1
    | 2 => exact absurd rfl h2
    | 3 => exact absurd rfl h3
    | 4 => exact absurd rfl h4
    | 5 => exact absurd rfl h5
    | 6 => exact absurd rfl h6
    | 7 => exact absurd rfl h7
    | 8 => exact absurd rfl h8
    | 9 => rfl
    | 10 => exact absurd rfl h10
    | 11 => exact absurd rfl h11
    | 12 => exact absurd rfl h12
    | 13 => exact absurd rfl h13
    | b + 14 => rfl
abbrev r15d_1 : List (Nat × Nat) := [(0, 0), (1, 1), (2, 2), (3, 3), (4, 4), (5, 5), (6, 6), (7, 7), (15, 10), (8, 8), (9, 9), (12, 12), (13, 13)]
theorem bornD1 {n f i B p4 c t0 t1 t2 t3 t4 t5 t6 t7 w b : Int} {np N : Nat} {ps rows : List (List Int)} {xs : List Int} {n0 n1 n2 : Bool} {s0 s2 : TK} {E : Ctx MObj} (hE : E.nid0 = 1) (hT : E.top = 30) {kI : Int} {dn : Bool} {js : Nat → SV} {d : List Nat} {a : Act} {ww : World}
    (h : At MS E ⟨pre n np f i ++ [.v (.int .i64 (.lit kI)), .v (.bool (.lit dn))] ++ junk js 108 17, base ps rows B p4 N xs c t0 t1 t2 t3 t4 t5 t6 t7 (vT 0 s0) (.ptr 15 0) (vT 2 s2) n0 n1 n2 ++ [(8, oT B p4 0 s0), (9, oP 0 s0), (12, oT B p4 2 s2), (13, oP 2 s2), (15, some (tk .nilf B p4 1 w b 0 0 .nilp 0))], 16, d⟩ a ww) :
    ∃ js, At MS E ⟨pre n np f i ++ [.v (.int .i64 (.lit kI)), .v (.bool (.lit dn))] ++ junk js 108 17, base ps rows B p4 N xs c t0 t1 t2 t3 t4 t5 t6 t7 (vT 0 s0) (.ptr 10 0) (vT 2 s2) n0 n1 n2 ++ [(8, oT B p4 0 s0), (9, oP 0 s0), (10, some (tk .nilf B p4 1 w b 0 0 .nilp 0)), (11, none), (12, oT B p4 2 s2), (13, oP 2 s2)], 14, []⟩ a ww := by
  refine at_rename2 (m := 17) (n := 108) (nid' := 14) r15d_1 rfl (by simp [length_junk]) rfl ?_ ?_ ?_ (by rw [hE]; rfl) (by rw [hE]; decide) (by rw [hT]; decide) h
  · intro p hp x hx
    simp only [List.mem_cons, List.not_mem_nil, or_false] at hp
    rcases hp with rfl | rfl | rfl | rfl | rfl | rfl | rfl | rfl | rfl | rfl | rfl | rfl | rfl
    · exact ⟨x, by cases hx; rfl, hx⟩
    · exact ⟨x, by cases hx; rfl, hx⟩
    · exact ⟨x, by cases hx; rfl, hx⟩
    · exact ⟨x, by cases hx; rfl, hx⟩
    · exact ⟨x, by cases hx; rfl, hx⟩
    · exact ⟨x, by cases hx; rfl, hx⟩
    · exact ⟨_, by cases hx; simp only [renObj, renVVs, vT_keep (k := 0) (s := s0) (r := r15d_1) rfl, vT_keep (k := 2) (s := s2) (r := r15d_1) rfl, show renVV r15d_1 (.ptr 15 0) = some (.ptr 10 0) from rfl, Option.map_some] <;> rfl, rfl⟩
    · exact ⟨x, by cases hx; rfl, hx⟩
    · exact ⟨_, by cases hx; rfl, rfl⟩
    · exact ⟨x, oT_keep (k := 0) rfl rfl hx, hx⟩
    · exact ⟨x, oP_keep (k := 0) hx, hx⟩
    · exact ⟨x, oT_keep (k := 2) rfl rfl hx, hx⟩
    · exact ⟨x, oP_keep (k := 2) hx, hx⟩
  · intro p hp hx
    simp only [List.mem_cons, List.not_mem_nil, or_false] at hp
    rcases hp with rfl | rfl | rfl | rfl | rfl | rfl | rfl | rfl | rfl | rfl | rfl | rfl | rfl <;> first | exact hx | (cases hx)
  · intro b hb
    have h0 := hb (0, 0) (by simp); have h1 := hb (1, 1) (by simp); have h2 := hb (2, 2) (by simp); have h3 := hb (3, 3) (by simp); have h4 := hb (4, 4) (by simp); have h5 := hb (5, 5) (by simp); have h6 := hb (6, 6) (by simp); have h7 := hb (7, 7) (by simp); have h10 := hb (15, 10) (by simp); have h8 := hb (8, 8) (by simp); have h9 := hb (9, 9) (by simp); have h12 := hb (12, 12) (by simp); have h13 := hb (13, 13) (by simp)
    match b with
    | 0 => exact absurd rfl h0
    | 1 => exact absurd rfl h1
    | 2 => exact absurd rfl h2
    | 3 => exact absurd rfl h3
    | 4 => exact absurd rfl h4
    | 5 => exact absurd rfl h5
    | 6 => exact absurd rfl h6
    | 7 => exact absurd rfl h7
    | 8 => exact absurd rfl h8
    | 9 => exact absurd rfl h9
    | 10 => exact absurd rfl h10
    | 11 => rfl
    | 12 => exact absurd rfl h12
    | 13 => exact absurd rfl h13
    | b + 14 => rfl
abbrev r15d_2 : List (Nat × Nat) := [(0, 0), (1, 1), (2, 2), (3, 3), (4, 4), (5, 5), (6, 6), (7, 7), (15, 12), (8, 8), (9, 9), (10, 10), (11, 11)]
theorem bornD2 {n f i B p4 c t0 t1 t2 t3 t4 t5 t6 t7 w b : Int} {np N : Nat} {ps rows : List (List Int)} {xs : List Int} {n0 n1 n2 : Bool} {s0 s1 : TK} {E : Ctx MObj} (hE : E.nid0 = 1) (hT : E.top = 30) {kI : Int} {dn : Bool} {js : Nat → SV} {d : List Nat} {a : Act} {ww : World}
    (h : At MS E ⟨pre n np f i ++ [.v (.int .i64 (.lit kI)), .v (.bool (.lit dn))] ++ junk js 108 17, base ps rows B p4 N xs c t0 t1 t2 t3 t4 t5 t6 t7 (vT 0 s0) (vT 1 s1) (.ptr 15 0) n0 n1 n2 ++ [(8, oT B p4 0 s0), (9, oP 0 s0), (10, oT B p4 1 s1), (11, oP 1 s1), (15, some (tk .nilf B p4 2 w b 0 0 .nilp 0))], 16, d⟩ a ww) :
    ∃ js, At MS E ⟨pre n np f i ++ [.v (.int .i64 (.lit kI)), .v (.bool (.lit dn))] ++ junk js 108 17, base ps rows B p4 N xs c t0 t1 t2 t3 t4 t5 t6 t7 (vT 0 s0) (vT 1 s1) (.ptr 12 0) n0 n1 n2 ++ [(8, oT B p4 0 s0), (9, oP 0 s0), (10, oT B p4 1 s1), (11, oP 1 s1), (12, some (tk .nilf B p4 2 w b 0 0 .nilp 0)), (13, none)], 14, []⟩ a ww := by
  refine at_rename2 (m := 17) (n := 108) (nid' := 14) r15d_2 rfl (by simp [length_junk]) rfl ?_ ?_ ?_ (by rw [hE]; rfl) (by rw [hE]; decide) (by rw [hT]; decide) h
  · intro p hp x hx
    simp only [List.mem_cons, List.not_mem_nil, or_false] at hp
    rcases hp with rfl | rfl | rfl | rfl | rfl | rfl | rfl | rfl | rfl | rfl | rfl | rfl | rfl
    · exact ⟨x, by cases hx; rfl, hx⟩
    · exact ⟨x, by cases hx; rfl, hx⟩
    · exact ⟨x, by cases hx; rfl, hx⟩
    · exact ⟨x, by cases hx; rfl, hx⟩
    · exact ⟨x, by cases hx; rfl, hx⟩
    · exact ⟨x, by cases hx; rfl, hx⟩
    · exact ⟨_, by cases hx; simp only [renObj, renVVs, vT_keep (k := 0) (s := s0) (r := r15d_2) rfl, vT_keep (k := 1) (s := s1) (r := r15d_2) rfl, show renVV r15d_2 (.ptr 15 0) = some (.ptr 12 0) from rfl, Option.map_some] <;> rfl, rfl⟩
    · exact ⟨x, by cases hx; rfl, hx⟩
    · exact ⟨_, by cases hx; rfl, rfl⟩
    · exact ⟨x, oT_keep (k := 0) rfl rfl hx, hx⟩
    · exact ⟨x, oP_keep (k := 0) hx, hx⟩
    · exact ⟨x, oT_keep (k := 1) rfl rfl hx, hx⟩
    · exact ⟨x, oP_keep (k := 1) hx, hx⟩
  · intro p hp hx
    simp only [List.mem_cons, List.not_mem_nil, or_false] at hp
    rcases hp with rfl | rfl | rfl | rfl | rfl | rfl | rfl | rfl | rfl | rfl | rfl | rfl | rfl <;> first | exact hx | (cases hx)
  · intro b hb
    have h0 := hb (0, 0) (by simp); have h1 := hb (1, 1) (by simp); have h2 := hb (2, 2) (by simp); have h3 := hb (3, 3) (by simp); have h4 := hb (4, 4) (by simp); have h5 := hb (5, 5) (by simp); have h6 := hb (6, 6) (by simp); have h7 := hb (7, 7) (by simp); have h12 := hb (15, 12) (by simp); have h8 := hb (8, 8) (by simp); have h9 := hb (9, 9) (by simp); have h10 := hb (10, 10) (by simp); have h11 := hb (11, 11) (by simp)
    match b with
    | 0 => exact absurd rfl h0
    | 1 => exact absurd rfl h1
    | 2 => exact absurd rfl h2
    | 3 => exact absurd rfl h3
    | 4 => exact absurd rfl h4
    | 5 => exact absurd rfl h5
    | 6 => exact absurd rfl h6
    | 7 => exact absurd rfl h7
    | 8 => exact absurd rfl h8
    | 9 => exact absurd rfl h9
    | 10 => exact absurd rfl h10
    | 11 => exact absurd rfl h11
    | 12 => exact absurd rfl h12
    | 13 => rfl
    | b + 14 => rfl
section
variable {n f i B p4 c t0 t1 t2 t3 t4 t5 t6 t7 : Int} {np N : Nat} {ps rows : List (List Int)} {xs : List Int} {n0 n1 n2 : Bool} (E : Ctx MObj) (hE : E.nid0 = 1) (hT : E.top = 30) (hD : ∀ b, 1 ≤ b → E.D b)
  (hx : (xs.length : Int) = 32 + 32 * B) (hp4 : p4 = 32 + 32 * B) (hB : 1 ≤ B ∧ B ≤ 8) (hc : 0 ≤ c ∧ c ≤ 100000)
include hE hT hD hx hp4 hB hc
theorem doneN0 {w b e kk : Int} (s1 s2 : TK) (js : Nat → SV) : Tri MS Try.prog E (.seq (qt [true, true, true, true, true, true, false]) (qt [true, true, true, true, true, true, true]))
    ⟨pre n np f i ++ [.v (.int .i64 (.lit 0)), .v (.bool (.lit true))] ++ junk js 108 17, base ps rows B p4 N xs c t0 t1 t2 t3 t4 t5 t6 t7 (.ptr 8 0) (vT 1 s1) (vT 2 s2) n0 n1 n2 ++ [(8, some (tk .nilf B p4 0 w b e kk .nilp 0)), (9, none), (10, oT B p4 1 s1), (11, oP 1 s1), (12, oT B p4 2 s2), (13, oP 2 s2)], 14, []⟩
    fun x st => x = .exit 1 ∧ ∃ js, st = S n np f i ps rows B p4 N xs c t0 t1 t2 t3 t4 t5 t6 t7 .nil s1 s2 true n1 n2 js := by
  have hd : ∀ (l : List Nat), l.all (Nat.ble 1) = true → ∀ b, b ∈ l → E.D b := fun l hl b hb => hD b (Nat.le_of_ble_eq_true (List.all_eq_true.1 hl b hb))
  have ht : ∀ {k : Nat}, Nat.ble k 30 = true → k ≤ E.top := fun h => by rw [hT]; exact Nat.le_of_ble_eq_true h
  refine Tri.seq (R := fun x st => x = .normal ∧ ∃ js, st = ⟨pre n np f i ++ [.v (.int .i64 (.lit 0)), .v (.bool (.lit true))] ++ junk js 108 17, base ps rows B p4 N xs c t0 t1 t2 t3 t4 t5 t6 t7 (.ptr 8 0) (vT 1 s1) (vT 2 s2) n0 n1 n2 ++ [(8, some (tk .nilf B p4 0 w b e kk .nilp 0)), (9, none), (10, oT B p4 1 s1), (11, oP 1 s1), (12, oT B p4 2 s2), (13, oP 2 s2)], 14, []⟩)
    (Tri.allR (m := 17) (n := 108) (codeOK _) (dtrue n f i B p4 c t0 t1 t2 t3 t4 t5 t6 t7 np N ps rows xs (.ptr 8 0) (vT 1 s1) (vT 2 s2) n0 n1 n2 (some (tk .nilf B p4 0 w b e kk .nilp 0)) (none) (oT B p4 1 s1) (oP 1 s1) (oT B p4 2 s2) (oP 2 s2) js (.v (.int .i64 (.lit 0))) hx hp4 hB hc) (Tr.all_ok ⟨rfl, ht rfl, hd _ rfl, fun js => ⟨rfl, js, rfl⟩⟩)) ?_ (fun x s hn hh => absurd hh.1 hn)
  rintro st ⟨_, js, rfl⟩
  refine Tri.listR (m := 18) (n := 107) (l := [qt [true, true, true, true, true, true, true, false], qt [true, true, true, true, true, true, true, true, false]]) (c' := .seq (qt [true, true, true, true, true, true, true, true, true, false]) (qt [true, true, true, true, true, true, true, true, true, true])) codeOK 2 rfl rfl
    (bn_0 n f i B p4 c t0 t1 t2 t3 t4 t5 t6 t7 w b e kk 0 np N ps rows xs (vT 1 s1) (vT 2 s2) n0 n1 n2 none (oT B p4 1 s1) (oP 1 s1) (oT B p4 2 s2) (oP 2 s2) js (.v (.bool (.lit true))) hx hp4 hB hc) (Tr.all_ok ⟨rfl, rfl, ht rfl, hd _ rfl, fun js => ?_⟩)
  refine Tri.seq (R := fun x st => x = .exit 1 ∧ ∃ js, st = S n np f i ps rows B p4 N xs c t0 t1 t2 t3 t4 t5 t6 t7 .nil s1 s2 true n1 n2 js) ?_ (fun s hh => by cases hh.1) (fun x s _ hh => hh)
  refine Tri.postE (Tri.allR (Q := fun x st => x = .exit 1 ∧ ∀ aa ww, At MS E st aa ww → ∃ js, At MS E (S n np f i ps rows B p4 N xs c t0 t1 t2 t3 t4 t5 t6 t7 .nil s1 s2 true n1 n2 js) aa ww) (m := 18) (n := 107) (codeOK _) (bn0 n f i B p4 c t0 t1 t2 t3 t4 t5 t6 t7 (RB.mBlk 32 p4 0) np N ps rows xs .nilp (vT 1 s1) (vT 2 s2) n0 n1 n2 (some (tk .nilf B p4 0 w b e kk .nilp 0)) (none) (oT B p4 1 s1) (oP 1 s1) (oT B p4 2 s2) (oP 2 s2) js (.v (.bool (.lit true))) hx hp4 hB hc)
    (Tr.all_ite (fun _ => Tr.all_ok ⟨rfl, ht rfl, hd _ rfl, fun js => ⟨rfl, fun aa ww hat => drop0 (d := []) hE hT (by rfl) (by simp [length_junk]) (at_wk2 (dirty' := []) (hp' := base ps rows B p4 N xs c t0 t1 t2 t3 t4 t5 t6 t7 .nilp (vT 1 s1) (vT 2 s2) true n1 n2 ++ [(8, some (tk .nilf B p4 0 w b e kk .nilp 0)), (9, none), (10, oT B p4 1 s1), (11, oP 1 s1), (12, oT B p4 2 s2), (13, oP 2 s2)]) (by repeat' (first | exact trivial | refine ⟨.inl rfl, ?_⟩ | refine ⟨.inr ⟨_, _, _, rfl, rfl, (by (repeat' apply And.intro) <;> first | rfl | trivial)⟩, ?_⟩)) hat)⟩⟩) fun hq => absurd hq (by rw [show RB.mBlk 32 p4 0 = -1 from if_pos (.inl (by decide))]; decide))) ?_
  rintro x st aa ww ⟨rfl, hh⟩ hat
  obtain ⟨js', hat'⟩ := hh aa ww hat
  exact ⟨_, hat', rfl, js', rfl⟩
theorem doneP0 {T : Int → Int} {w b e kk ce hq0 fi la pw bb : Int} (hbb : bb = RB.mBlk 32 p4 ce) (hb8 : 0 ≤ bb ∧ bb < 8) (ht0 : T bb = 0) (s1 s2 : TK) (js : Nat → SV) : Tri MS Try.prog E (.seq (qt [true, true, true, true, true, true, false]) (qt [true, true, true, true, true, true, true]))
    ⟨pre n np f i ++ [.v (.int .i64 (.lit 0)), .v (.bool (.lit true))] ++ junk js 108 17, base ps rows B p4 N xs c (T 0) (T 1) (T 2) (T 3) (T 4) (T 5) (T 6) (T 7) (.ptr 8 0) (vT 1 s1) (vT 2 s2) n0 n1 n2 ++ [(8, some (tk .nilf B p4 0 w b e kk (.ptr 9 0) ce)), (9, some (pu .nilf hq0 fi la 0 pw)), (10, oT B p4 1 s1), (11, oP 1 s1), (12, oT B p4 2 s2), (13, oP 2 s2)], 14, []⟩
    fun x st => x = .normal ∧ ∃ js, st = S n np (W (f + 1)) i ps rows B p4 N xs c ((setI T bb 1) 0) ((setI T bb 1) 1) ((setI T bb 1) 2) ((setI T bb 1) 3) ((setI T bb 1) 4) ((setI T bb 1) 5) ((setI T bb 1) 6) ((setI T bb 1) 7) .nil s1 s2 n0 n1 n2 js := by
  have hd : ∀ (l : List Nat), l.all (Nat.ble 1) = true → ∀ b, b ∈ l → E.D b := fun l hl b hb => hD b (Nat.le_of_ble_eq_true (List.all_eq_true.1 hl b hb))
  have ht : ∀ {k : Nat}, Nat.ble k 30 = true → k ≤ E.top := fun h => by rw [hT]; exact Nat.le_of_ble_eq_true h
  refine Tri.seq (R := fun x st => x = .normal ∧ ∃ js, st = ⟨pre n np f i ++ [.v (.int .i64 (.lit 0)), .v (.bool (.lit true))] ++ junk js 108 17, base ps rows B p4 N xs c (T 0) (T 1) (T 2) (T 3) (T 4) (T 5) (T 6) (T 7) (.ptr 8 0) (vT 1 s1) (vT 2 s2) n0 n1 n2 ++ [(8, some (tk .nilf B p4 0 w b e kk (.ptr 9 0) ce)), (9, some (pu .nilf hq0 fi la 0 pw)), (10, oT B p4 1 s1), (11, oP 1 s1), (12, oT B p4 2 s2), (13, oP 2 s2)], 14, []⟩)
    (Tri.allR (m := 17) (n := 108) (codeOK _) (dtrue n f i B p4 c (T 0) (T 1) (T 2) (T 3) (T 4) (T 5) (T 6) (T 7) np N ps rows xs (.ptr 8 0) (vT 1 s1) (vT 2 s2) n0 n1 n2 (some (tk .nilf B p4 0 w b e kk (.ptr 9 0) ce)) (some (pu .nilf hq0 fi la 0 pw)) (oT B p4 1 s1) (oP 1 s1) (oT B p4 2 s2) (oP 2 s2) js (.v (.int .i64 (.lit 0))) hx hp4 hB hc) (Tr.all_ok ⟨rfl, ht rfl, hd _ rfl, fun js => ⟨rfl, js, rfl⟩⟩)) ?_ (fun x s hn hh => absurd hh.1 hn)
  rintro st ⟨_, js, rfl⟩
  refine Tri.listR (m := 18) (n := 107) (l := [qt [true, true, true, true, true, true, true, false], qt [true, true, true, true, true, true, true, true, false]]) (c' := .seq (qt [true, true, true, true, true, true, true, true, true, false]) (qt [true, true, true, true, true, true, true, true, true, true])) codeOK 2 rfl rfl
    (bp_0 n f i B p4 c (T 0) (T 1) (T 2) (T 3) (T 4) (T 5) (T 6) (T 7) w b e kk ce hq0 fi la pw np N ps rows xs (vT 1 s1) (vT 2 s2) n0 n1 n2 (oT B p4 1 s1) (oP 1 s1) (oT B p4 2 s2) (oP 2 s2) js (.v (.bool (.lit true))) hx hp4 hB hc) (Tr.all_ok ⟨rfl, rfl, ht rfl, hd _ rfl, fun js => ?_⟩)
  refine (?_ : Tri MS Try.prog E _ ⟨pre n np f i ++ [.v (.int .i64 (.lit 0)), .v (.bool (.lit true)), .v (ii (RB.mBlk 32 p4 ce))] ++ junk js 107 18, base ps rows B p4 N xs c (T 0) (T 1) (T 2) (T 3) (T 4) (T 5) (T 6) (T 7) .nilp (vT 1 s1) (vT 2 s2) n0 n1 n2 ++ [(8, some (tk .nilf B p4 0 w b e kk (.ptr 9 0) ce)), (9, some (pu .nilf hq0 fi la 0 pw)), (10, oT B p4 1 s1), (11, oP 1 s1), (12, oT B p4 2 s2), (13, oP 2 s2)], 14, []⟩ _)
  rw [← hbb]
  refine Tri.seq (R := fun x st => x = .normal ∧ ∃ js, st = ⟨pre n np f i ++ [.v (.int .i64 (.lit 0)), .v (.bool (.lit true)), .v (ii bb)] ++ junk js 107 18, base ps rows B p4 N xs c (T 0) (T 1) (T 2) (T 3) (T 4) (T 5) (T 6) (T 7) .nilp (vT 1 s1) (vT 2 s2) n0 n1 n2 ++ [(8, some (tk .nilf B p4 0 w b e kk (.ptr 9 0) ce)), (9, some (pu .nilf hq0 fi la 0 pw)), (10, oT B p4 1 s1), (11, oP 1 s1), (12, oT B p4 2 s2), (13, oP 2 s2)], 14, []⟩)
    (Tri.allR (m := 18) (n := 107) (codeOK _) (bn0 n f i B p4 c (T 0) (T 1) (T 2) (T 3) (T 4) (T 5) (T 6) (T 7) bb np N ps rows xs .nilp (vT 1 s1) (vT 2 s2) n0 n1 n2 (some (tk .nilf B p4 0 w b e kk (.ptr 9 0) ce)) (some (pu .nilf hq0 fi la 0 pw)) (oT B p4 1 s1) (oP 1 s1) (oT B p4 2 s2) (oP 2 s2) js (.v (.bool (.lit true))) hx hp4 hB hc)
      (Tr.all_ite (fun hq => absurd (of_decide_eq_true hq) (by omega)) fun _ => Tr.all_ok ⟨rfl, ht rfl, hd _ rfl, fun js => ⟨rfl, js, rfl⟩⟩)) ?_ (fun x s hn hh => absurd hh.1 hn)
  rintro st ⟨_, js, rfl⟩
  refine Tri.postE (Q := fun x st => x = .normal ∧ ∀ aa ww, At MS E st aa ww → ∃ js, At MS E (S n np (W (f + 1)) i ps rows B p4 N xs c ((setI T bb 1) 0) ((setI T bb 1) 1) ((setI T bb 1) 2) ((setI T bb 1) 3) ((setI T bb 1) 4) ((setI T bb 1) 5) ((setI T bb 1) 6) ((setI T bb 1) 7) .nil s1 s2 n0 n1 n2 js) aa ww) ?_ fun x st aa ww hh hat => let ⟨js', hat'⟩ := hh.2 aa ww hat; ⟨_, hat', hh.1, js', rfl⟩
  clear hbb
  rcases (show bb = 0 ∨ bb = 1 ∨ bb = 2 ∨ bb = 3 ∨ bb = 4 ∨ bb = 5 ∨ bb = 6 ∨ bb = 7 by omega) with rfl | rfl | rfl | rfl | rfl | rfl | rfl | rfl
  · refine Tri.preE fun aa ww hat => ⟨_, at_tm (p' := pre n np f i ++ [.v (.int .i64 (.lit 0)), .v (.bool (.lit true)), .v (.int .i64 (.lit 0))]) (by (repeat' apply And.intro) <;> first | rfl | trivial) hat, ?_⟩
    exact Tri.allR (m := 15) (n := 110) (codeOK _) (tk0 n f i B p4 c (T 0) (T 1) (T 2) (T 3) (T 4) (T 5) (T 6) (T 7) np N ps rows xs .nilp (vT 1 s1) (vT 2 s2) n0 n1 n2 (some (tk .nilf B p4 0 w b e kk (.ptr 9 0) ce)) (some (pu .nilf hq0 fi la 0 pw)) (oT B p4 1 s1) (oP 1 s1) (oT B p4 2 s2) (oP 2 s2) js (.v (.int .i64 (.lit 0))) (.v (.bool (.lit true))) hx hp4 hB hc ht0)
      (Tr.all_ok ⟨rfl, ht rfl, hd _ rfl, fun js => ⟨rfl, fun aa ww hat => drop0 (d := []) hE hT (by rfl) (by simp [length_junk]) (at_wk2 (dirty' := []) (hp' := base ps rows B p4 N xs c ((setI T 0 1) 0) ((setI T 0 1) 1) ((setI T 0 1) 2) ((setI T 0 1) 3) ((setI T 0 1) 4) ((setI T 0 1) 5) ((setI T 0 1) 6) ((setI T 0 1) 7) .nilp (vT 1 s1) (vT 2 s2) n0 n1 n2 ++ [(8, some (tk .nilf B p4 0 w b e kk (.ptr 9 0) ce)), (9, some (pu .nilf hq0 fi la 0 pw)), (10, oT B p4 1 s1), (11, oP 1 s1), (12, oT B p4 2 s2), (13, oP 2 s2)]) (by repeat' (first | exact trivial | refine ⟨.inl rfl, ?_⟩ | refine ⟨.inr ⟨_, _, _, rfl, rfl, (by (repeat' apply And.intro) <;> first | rfl | trivial)⟩, ?_⟩)) hat)⟩⟩)
  · refine Tri.preE fun aa ww hat => ⟨_, at_tm (p' := pre n np f i ++ [.v (.int .i64 (.lit 0)), .v (.bool (.lit true)), .v (.int .i64 (.lit 1))]) (by (repeat' apply And.intro) <;> first | rfl | trivial) hat, ?_⟩
    exact Tri.allR (m := 15) (n := 110) (codeOK _) (tk1 n f i B p4 c (T 0) (T 1) (T 2) (T 3) (T 4) (T 5) (T 6) (T 7) np N ps rows xs .nilp (vT 1 s1) (vT 2 s2) n0 n1 n2 (some (tk .nilf B p4 0 w b e kk (.ptr 9 0) ce)) (some (pu .nilf hq0 fi la 0 pw)) (oT B p4 1 s1) (oP 1 s1) (oT B p4 2 s2) (oP 2 s2) js (.v (.int .i64 (.lit 0))) (.v (.bool (.lit true))) hx hp4 hB hc ht0)
      (Tr.all_ok ⟨rfl, ht rfl, hd _ rfl, fun js => ⟨rfl, fun aa ww hat => drop0 (d := []) hE hT (by rfl) (by simp [length_junk]) (at_wk2 (dirty' := []) (hp' := base ps rows B p4 N xs c ((setI T 1 1) 0) ((setI T 1 1) 1) ((setI T 1 1) 2) ((setI T 1 1) 3) ((setI T 1 1) 4) ((setI T 1 1) 5) ((setI T 1 1) 6) ((setI T 1 1) 7) .nilp (vT 1 s1) (vT 2 s2) n0 n1 n2 ++ [(8, some (tk .nilf B p4 0 w b e kk (.ptr 9 0) ce)), (9, some (pu .nilf hq0 fi la 0 pw)), (10, oT B p4 1 s1), (11, oP 1 s1), (12, oT B p4 2 s2), (13, oP 2 s2)]) (by repeat' (first | exact trivial | refine ⟨.inl rfl, ?_⟩ | refine ⟨.inr ⟨_, _, _, rfl, rfl, (by (repeat' apply And.intro) <;> first | rfl | trivial)⟩, ?_⟩)) hat)⟩⟩)
  · refine Tri.preE fun aa ww hat => ⟨_, at_tm (p' := pre n np f i ++ [.v (.int .i64 (.lit 0)), .v (.bool (.lit true)), .v (.int .i64 (.lit 2))]) (by (repeat' apply And.intro) <;> first | rfl | trivial) hat, ?_⟩
    exact Tri.allR (m := 15) (n := 110) (codeOK _) (tk2 n f i B p4 c (T 0) (T 1) (T 2) (T 3) (T 4) (T 5) (T 6) (T 7) np N ps rows xs .nilp (vT 1 s1) (vT 2 s2) n0 n1 n2 (some (tk .nilf B p4 0 w b e kk (.ptr 9 0) ce)) (some (pu .nilf hq0 fi la 0 pw)) (oT B p4 1 s1) (oP 1 s1) (oT B p4 2 s2) (oP 2 s2) js (.v (.int .i64 (.lit 0))) (.v (.bool (.lit true))) hx hp4 hB hc ht0)
      (Tr.all_ok ⟨rfl, ht rfl, hd _ rfl, fun js => ⟨rfl, fun aa ww hat => drop0 (d := []) hE hT (by rfl) (by simp [length_junk]) (at_wk2 (dirty' := []) (hp' := base ps rows B p4 N xs c ((setI T 2 1) 0) ((setI T 2 1) 1) ((setI T 2 1) 2) ((setI T 2 1) 3) ((setI T 2 1) 4) ((setI T 2 1) 5) ((setI T 2 1) 6) ((setI T 2 1) 7) .nilp (vT 1 s1) (vT 2 s2) n0 n1 n2 ++ [(8, some (tk .nilf B p4 0 w b e kk (.ptr 9 0) ce)), (9, some (pu .nilf hq0 fi la 0 pw)), (10, oT B p4 1 s1), (11, oP 1 s1), (12, oT B p4 2 s2), (13, oP 2 s2)]) (by repeat' (first | exact trivial | refine ⟨.inl rfl, ?_⟩ | refine ⟨.inr ⟨_, _, _, rfl, rfl, (by (repeat' apply And.intro) <;> first | rfl | trivial)⟩, ?_⟩)) hat)⟩⟩)
  · refine Tri.preE fun aa ww hat => ⟨_, at_tm (p' := pre n np f i ++ [.v (.int .i64 (.lit 0)), .v (.bool (.lit true)), .v (.int .i64 (.lit 3))]) (by (repeat' apply And.intro) <;> first | rfl | trivial) hat, ?_⟩
    exact Tri.allR (m := 15) (n := 110) (codeOK _) (tk3 n f i B p4 c (T 0) (T 1) (T 2) (T 3) (T 4) (T 5) (T 6) (T 7) np N ps rows xs .nilp (vT 1 s1) (vT 2 s2) n0 n1 n2 (some (tk .nilf B p4 0 w b e kk (.ptr 9 0) ce)) (some (pu .nilf hq0 fi la 0 pw)) (oT B p4 1 s1) (oP 1 s1) (oT B p4 2 s2) (oP 2 s2) js (.v (.int .i64 (.lit 0))) (.v (.bool (.lit true))) hx hp4 hB hc ht0)
      (Tr.all_ok ⟨rfl, ht rfl, hd _ rfl, fun js => ⟨rfl, fun aa ww hat => drop0 (d := []) hE hT (by rfl) (by simp [length_junk]) (at_wk2 (dirty' := []) (hp' := base ps rows B p4 N xs c ((setI T 3 1) 0) ((setI T 3 1) 1) ((setI T 3 1) 2) ((setI T 3 1) 3) ((setI T 3 1) 4) ((setI T 3 1) 5) ((setI T 3 1) 6) ((setI T 3 1) 7) .nilp (vT 1 s1) (vT 2 s2) n0 n1 n2 ++ [(8, some (tk .nilf B p4 0 w b e kk (.ptr 9 0) ce)), (9, some (pu .nilf hq0 fi la 0 pw)), (10, oT B p4 1 s1), (11, oP 1 s1), (12, oT B p4 2 s2), (13, oP 2 s2)]) (by repeat' (first | exact trivial | refine ⟨.inl rfl, ?_⟩ | refine ⟨.inr ⟨_, _, _, rfl, rfl, (by (repeat' apply And.intro) <;> first | rfl | trivial)⟩, ?_⟩)) hat)⟩⟩)
  · refine Tri.preE fun aa ww hat => ⟨_, at_tm (p' := pre n np f i ++ [.v (.int .i64 (.lit 0)), .v (.bool (.lit true)), .v (.int .i64 (.lit 4))]) (by (repeat' apply And.intro) <;> first | rfl | trivial) hat, ?_⟩
    exact Tri.allR (m := 15) (n := 110) (codeOK _) (tk4 n f i B p4 c (T 0) (T 1) (T 2) (T 3) (T 4) (T 5) (T 6) (T 7) np N ps rows xs .nilp (vT 1 s1) (vT 2 s2) n0 n1 n2 (some (tk .nilf B p4 0 w b e kk (.ptr 9 0) ce)) (some (pu .nilf hq0 fi la 0 pw)) (oT B p4 1 s1) (oP 1 s1) (oT B p4 2 s2) (oP 2 s2) js (.v (.int .i64 (.lit 0))) (.v (.bool (.lit true))) hx hp4 hB hc ht0)
      (Tr.all_ok ⟨rfl, ht rfl, hd _ rfl, fun js => ⟨rfl, fun aa ww hat => drop0 (d := []) hE hT (by rfl) (by simp [length_junk]) (at_wk2 (dirty' := []) (hp' := base ps rows B p4 N xs c ((setI T 4 1) 0) ((setI T 4 1) 1) ((setI T 4 1) 2) ((setI T 4 1) 3) ((setI T 4 1) 4) ((setI T 4 1) 5) ((setI T 4 1) 6) ((setI T 4 1) 7) .nilp (vT 1 s1) (vT 2 s2) n0 n1 n2 ++ [(8, some (tk .nilf B p4 0 w b e kk (.ptr 9 0) ce)), (9, some (pu .nilf hq0 fi la 0 pw)), (10, oT B p4 1 s1), (11, oP 1 s1), (12, oT B p4 2 s2), (13, oP 2 s2)]) (by repeat' (first | exact trivial | refine ⟨.inl rfl, ?_⟩ | refine ⟨.inr ⟨_, _, _, rfl, rfl, (by (repeat' apply And.intro) <;> first | rfl | trivial)⟩, ?_⟩)) hat)⟩⟩)
  · refine Tri.preE fun aa ww hat => ⟨_, at_tm (p' := pre n np f i ++ [.v (.int .i64 (.lit 0)), .v (.bool (.lit true)), .v (.int .i64 (.lit 5))]) (by (repeat' apply And.intro) <;> first | rfl | trivial) hat, ?_⟩
    exact Tri.allR (m := 15) (n := 110) (codeOK _) (tk5 n f i B p4 c (T 0) (T 1) (T 2) (T 3) (T 4) (T 5) (T 6) (T 7) np N ps rows xs .nilp (vT 1 s1) (vT 2 s2) n0 n1 n2 (some (tk .nilf B p4 0 w b e kk (.ptr 9 0) ce)) (some (pu .nilf hq0 fi la 0 pw)) (oT B p4 1 s1) (oP 1 s1) (oT B p4 2 s2) (oP 2 s2) js (.v (.int .i64 (.lit 0))) (.v (.bool (.lit true))) hx hp4 hB hc ht0)
      (Tr.all_ok ⟨rfl, ht rfl, hd _ rfl, fun js => ⟨rfl, fun aa ww hat => drop0 (d := []) hE hT (by rfl) (by simp [length_junk]) (at_wk2 (dirty' := []) (hp' := base ps rows B p4 N xs c ((setI T 5 1) 0) ((setI T 5 1) 1) ((setI T 5 1) 2) ((setI T 5 1) 3) ((setI T 5 1) 4) ((setI T 5 1) 5) ((setI T 5 1) 6) ((setI T 5 1) 7) .nilp (vT 1 s1) (vT 2 s2) n0 n1 n2 ++ [(8, some (tk .nilf B p4 0 w b e kk (.ptr 9 0) ce)), (9, some (pu .nilf hq0 fi la 0 pw)), (10, oT B p4 1 s1), (11, oP 1 s1), (12, oT B p4 2 s2), (13, oP 2 s2)]) (by repeat' (first | exact trivial | refine ⟨.inl rfl, ?_⟩ | refine ⟨.inr ⟨_, _, _, rfl, rfl, (by (repeat' apply And.intro) <;> first | rfl | trivial)⟩, ?_⟩)) hat)⟩⟩)
  · refine Tri.preE fun aa ww hat => ⟨_, at_tm (p' := pre n np f i ++ [.v (.int .i64 (.lit 0)), .v (.bool (.lit true)), .v (.int .i64 (.lit 6))]) (by (repeat' apply And.intro) <;> first | rfl | trivial) hat, ?_⟩
    exact Tri.allR (m := 15) (n := 110) (codeOK _) (tk6 n f i B p4 c (T 0) (T 1) (T 2) (T 3) (T 4) (T 5) (T 6) (T 7) np N ps rows xs .nilp (vT 1 s1) (vT 2 s2) n0 n1 n2 (some (tk .nilf B p4 0 w b e kk (.ptr 9 0) ce)) (some (pu .nilf hq0 fi la 0 pw)) (oT B p4 1 s1) (oP 1 s1) (oT B p4 2 s2) (oP 2 s2) js (.v (.int .i64 (.lit 0))) (.v (.bool (.lit true))) hx hp4 hB hc ht0)
      (Tr.all_ok ⟨rfl, ht rfl, hd _ rfl, fun js => ⟨rfl, fun aa ww hat => drop0 (d := []) hE hT (by rfl) (by simp [length_junk]) (at_wk2 (dirty' := []) (hp' := base ps rows B p4 N xs c ((setI T 6 1) 0) ((setI T 6 1) 1) ((setI T 6 1) 2) ((setI T 6 1) 3) ((setI T 6 1) 4) ((setI T 6 1) 5) ((setI T 6 1) 6) ((setI T 6 1) 7) .nilp (vT 1 s1) (vT 2 s2) n0 n1 n2 ++ [(8, some (tk .nilf B p4 0 w b e kk (.ptr 9 0) ce)), (9, some (pu .nilf hq0 fi la 0 pw)), (10, oT B p4 1 s1), (11, oP 1 s1), (12, oT B p4 2 s2), (13, oP 2 s2)]) (by repeat' (first | exact trivial | refine ⟨.inl rfl, ?_⟩ | refine ⟨.inr ⟨_, _, _, rfl, rfl, (by (repeat' apply And.intro) <;> first | rfl | trivial)⟩, ?_⟩)) hat)⟩⟩)
  · refine Tri.preE fun aa ww hat => ⟨_, at_tm (p' := pre n np f i ++ [.v (.int .i64 (.lit 0)), .v (.bool (.lit true)), .v (.int .i64 (.lit 7))]) (by (repeat' apply And.intro) <;> first | rfl | trivial) hat, ?_⟩
    exact Tri.allR (m := 15) (n := 110) (codeOK _) (tk7 n f i B p4 c (T 0) (T 1) (T 2) (T 3) (T 4) (T 5) (T 6) (T 7) np N ps rows xs .nilp (vT 1 s1) (vT 2 s2) n0 n1 n2 (some (tk .nilf B p4 0 w b e kk (.ptr 9 0) ce)) (some (pu .nilf hq0 fi la 0 pw)) (oT B p4 1 s1) (oP 1 s1) (oT B p4 2 s2) (oP 2 s2) js (.v (.int .i64 (.lit 0))) (.v (.bool (.lit true))) hx hp4 hB hc ht0)
      (Tr.all_ok ⟨rfl, ht rfl, hd _ rfl, fun js => ⟨rfl, fun aa ww hat => drop0 (d := []) hE hT (by rfl) (by simp [length_junk]) (at_wk2 (dirty' := []) (hp' := base ps rows B p4 N xs c ((setI T 7 1) 0) ((setI T 7 1) 1) ((setI T 7 1) 2) ((setI T 7 1) 3) ((setI T 7 1) 4) ((setI T 7 1) 5) ((setI T 7 1) 6) ((setI T 7 1) 7) .nilp (vT 1 s1) (vT 2 s2) n0 n1 n2 ++ [(8, some (tk .nilf B p4 0 w b e kk (.ptr 9 0) ce)), (9, some (pu .nilf hq0 fi la 0 pw)), (10, oT B p4 1 s1), (11, oP 1 s1), (12, oT B p4 2 s2), (13, oP 2 s2)]) (by repeat' (first | exact trivial | refine ⟨.inl rfl, ?_⟩ | refine ⟨.inr ⟨_, _, _, rfl, rfl, (by (repeat' apply And.intro) <;> first | rfl | trivial)⟩, ?_⟩)) hat)⟩⟩)
theorem doneN1 {w b e kk : Int} (s0 s2 : TK) (js : Nat → SV) : Tri MS Try.prog E (.seq (qt [true, true, true, true, true, true, false]) (qt [true, true, true, true, true, true, true]))
    ⟨pre n np f i ++ [.v (.int .i64 (.lit 1)), .v (.bool (.lit true))] ++ junk js 108 17, base ps rows B p4 N xs c t0 t1 t2 t3 t4 t5 t6 t7 (vT 0 s0) (.ptr 10 0) (vT 2 s2) n0 n1 n2 ++ [(8, oT B p4 0 s0), (9, oP 0 s0), (10, some (tk .nilf B p4 1 w b e kk .nilp 0)), (11, none), (12, oT B p4 2 s2), (13, oP 2 s2)], 14, []⟩
    fun x st => x = .exit 1 ∧ ∃ js, st = S n np f i ps rows B p4 N xs c t0 t1 t2 t3 t4 t5 t6 t7 s0 .nil s2 n0 true n2 js := by
  have hd : ∀ (l : List Nat), l.all (Nat.ble 1) = true → ∀ b, b ∈ l → E.D b := fun l hl b hb => hD b (Nat.le_of_ble_eq_true (List.all_eq_true.1 hl b hb))
  have ht : ∀ {k : Nat}, Nat.ble k 30 = true → k ≤ E.top := fun h => by rw [hT]; exact Nat.le_of_ble_eq_true h
  refine Tri.seq (R := fun x st => x = .normal ∧ ∃ js, st = ⟨pre n np f i ++ [.v (.int .i64 (.lit 1)), .v (.bool (.lit true))] ++ junk js 108 17, base ps rows B p4 N xs c t0 t1 t2 t3 t4 t5 t6 t7 (vT 0 s0) (.ptr 10 0) (vT 2 s2) n0 n1 n2 ++ [(8, oT B p4 0 s0), (9, oP 0 s0), (10, some (tk .nilf B p4 1 w b e kk .nilp 0)), (11, none), (12, oT B p4 2 s2), (13, oP 2 s2)], 14, []⟩)
    (Tri.allR (m := 17) (n := 108) (codeOK _) (dtrue n f i B p4 c t0 t1 t2 t3 t4 t5 t6 t7 np N ps rows xs (vT 0 s0) (.ptr 10 0) (vT 2 s2) n0 n1 n2 (oT B p4 0 s0) (oP 0 s0) (some (tk .nilf B p4 1 w b e kk .nilp 0)) (none) (oT B p4 2 s2) (oP 2 s2) js (.v (.int .i64 (.lit 1))) hx hp4 hB hc) (Tr.all_ok ⟨rfl, ht rfl, hd _ rfl, fun js => ⟨rfl, js, rfl⟩⟩)) ?_ (fun x s hn hh => absurd hh.1 hn)
  rintro st ⟨_, js, rfl⟩
  refine Tri.listR (m := 18) (n := 107) (l := [qt [true, true, true, true, true, true, true, false], qt [true, true, true, true, true, true, true, true, false]]) (c' := .seq (qt [true, true, true, true, true, true, true, true, true, false]) (qt [true, true, true, true, true, true, true, true, true, true])) codeOK 2 rfl rfl
    (bn_1 n f i B p4 c t0 t1 t2 t3 t4 t5 t6 t7 w b e kk 0 np N ps rows xs (vT 0 s0) (vT 2 s2) n0 n1 n2 (oT B p4 0 s0) (oP 0 s0) none (oT B p4 2 s2) (oP 2 s2) js (.v (.bool (.lit true))) hx hp4 hB hc) (Tr.all_ok ⟨rfl, rfl, ht rfl, hd _ rfl, fun js => ?_⟩)
  refine Tri.seq (R := fun x st => x = .exit 1 ∧ ∃ js, st = S n np f i ps rows B p4 N xs c t0 t1 t2 t3 t4 t5 t6 t7 s0 .nil s2 n0 true n2 js) ?_ (fun s hh => by cases hh.1) (fun x s _ hh => hh)
  refine Tri.postE (Tri.allR (Q := fun x st => x = .exit 1 ∧ ∀ aa ww, At MS E st aa ww → ∃ js, At MS E (S n np f i ps rows B p4 N xs c t0 t1 t2 t3 t4 t5 t6 t7 s0 .nil s2 n0 true n2 js) aa ww) (m := 18) (n := 107) (codeOK _) (bn1 n f i B p4 c t0 t1 t2 t3 t4 t5 t6 t7 (RB.mBlk 32 p4 0) np N ps rows xs (vT 0 s0) .nilp (vT 2 s2) n0 n1 n2 (oT B p4 0 s0) (oP 0 s0) (some (tk .nilf B p4 1 w b e kk .nilp 0)) (none) (oT B p4 2 s2) (oP 2 s2) js (.v (.bool (.lit true))) hx hp4 hB hc)
    (Tr.all_ite (fun _ => Tr.all_ok ⟨rfl, ht rfl, hd _ rfl, fun js => ⟨rfl, fun aa ww hat => drop1 (d := []) hE hT (by rfl) (by simp [length_junk]) (at_wk2 (dirty' := []) (hp' := base ps rows B p4 N xs c t0 t1 t2 t3 t4 t5 t6 t7 (vT 0 s0) .nilp (vT 2 s2) n0 true n2 ++ [(8, oT B p4 0 s0), (9, oP 0 s0), (10, some (tk .nilf B p4 1 w b e kk .nilp 0)), (11, none), (12, oT B p4 2 s2), (13, oP 2 s2)]) (by repeat' (first | exact trivial | refine ⟨.inl rfl, ?_⟩ | refine ⟨.inr ⟨_, _, _, rfl, rfl, (by (repeat' apply And.intro) <;> first | rfl | trivial)⟩, ?_⟩)) hat)⟩⟩) fun hq => absurd hq (by rw [show RB.mBlk 32 p4 0 = -1 from if_pos (.inl (by decide))]; decide))) ?_
  rintro x st aa ww ⟨rfl, hh⟩ hat
  obtain ⟨js', hat'⟩ := hh aa ww hat
  exact ⟨_, hat', rfl, js', rfl⟩
theorem doneP1 {T : Int → Int} {w b e kk ce hq0 fi la pw bb : Int} (hbb : bb = RB.mBlk 32 p4 ce) (hb8 : 0 ≤ bb ∧ bb < 8) (ht0 : T bb = 0) (s0 s2 : TK) (js : Nat → SV) : Tri MS Try.prog E (.seq (qt [true, true, true, true, true, true, false]) (qt [true, true, true, true, true, true, true]))
    ⟨pre n np f i ++ [.v (.int .i64 (.lit 1)), .v (.bool (.lit true))] ++ junk js 108 17, base ps rows B p4 N xs c (T 0) (T 1) (T 2) (T 3) (T 4) (T 5) (T 6) (T 7) (vT 0 s0) (.ptr 10 0) (vT 2 s2) n0 n1 n2 ++ [(8, oT B p4 0 s0), (9, oP 0 s0), (10, some (tk .nilf B p4 1 w b e kk (.ptr 11 0) ce)), (11, some (pu .nilf hq0 fi la 1 pw)), (12, oT B p4 2 s2), (13, oP 2 s2)], 14, []⟩
    fun x st => x = .normal ∧ ∃ js, st = S n np (W (f + 1)) i ps rows B p4 N xs c ((setI T bb 1) 0) ((setI T bb 1) 1) ((setI T bb 1) 2) ((setI T bb 1) 3) ((setI T bb 1) 4) ((setI T bb 1) 5) ((setI T bb 1) 6) ((setI T bb 1) 7) s0 .nil s2 n0 n1 n2 js := by
  have hd : ∀ (l : List Nat), l.all (Nat.ble 1) = true → ∀ b, b ∈ l → E.D b := fun l hl b hb => hD b (Nat.le_of_ble_eq_true (List.all_eq_true.1 hl b hb))
  have ht : ∀ {k : Nat}, Nat.ble k 30 = true → k ≤ E.top := fun h => by rw [hT]; exact Nat.le_of_ble_eq_true h
  refine Tri.seq (R := fun x st => x = .normal ∧ ∃ js, st = ⟨pre n np f i ++ [.v (.int .i64 (.lit 1)), .v (.bool (.lit true))] ++ junk js 108 17, base ps rows B p4 N xs c (T 0) (T 1) (T 2) (T 3) (T 4) (T 5) (T 6) (T 7) (vT 0 s0) (.ptr 10 0) (vT 2 s2) n0 n1 n2 ++ [(8, oT B p4 0 s0), (9, oP 0 s0), (10, some (tk .nilf B p4 1 w b e kk (.ptr 11 0) ce)), (11, some (pu .nilf hq0 fi la 1 pw)), (12, oT B p4 2 s2), (13, oP 2 s2)], 14, []⟩)
    (Tri.allR (m := 17) (n := 108) (codeOK _) (dtrue n f i B p4 c (T 0) (T 1) (T 2) (T 3) (T 4) (T 5) (T 6) (T 7) np N ps rows xs (vT 0 s0) (.ptr 10 0) (vT 2 s2) n0 n1 n2 (oT B p4 0 s0) (oP 0 s0) (some (tk .nilf B p4 1 w b e kk (.ptr 11 0) ce)) (some (pu .nilf hq0 fi la 1 pw)) (oT B p4 2 s2) (oP 2 s2) js (.v (.int .i64 (.lit 1))) hx hp4 hB hc) (Tr.all_ok ⟨rfl, ht rfl, hd _ rfl, fun js => ⟨rfl, js, rfl⟩⟩)) ?_ (fun x s hn hh => absurd hh.1 hn)
  rintro st ⟨_, js, rfl⟩
  refine Tri.listR (m := 18) (n := 107) (l := [qt [true, true, true, true, true, true, true, false], qt [true, true, true, true, true, true, true, true, false]]) (c' := .seq (qt [true, true, true, true, true, true, true, true, true, false]) (qt [true, true, true, true, true, true, true, true, true, true])) codeOK 2 rfl rfl
    (bp_1 n f i B p4 c (T 0) (T 1) (T 2) (T 3) (T 4) (T 5) (T 6) (T 7) w b e kk ce hq0 fi la pw np N ps rows xs (vT 0 s0) (vT 2 s2) n0 n1 n2 (oT B p4 0 s0) (oP 0 s0) (oT B p4 2 s2) (oP 2 s2) js (.v (.bool (.lit true))) hx hp4 hB hc) (Tr.all_ok ⟨rfl, rfl, ht rfl, hd _ rfl, fun js => ?_⟩)
  refine (?_ : Tri MS Try.prog E _ ⟨pre n np f i ++ [.v (.int .i64 (.lit 1)), .v (.bool (.lit true)), .v (ii (RB.mBlk 32 p4 ce))] ++ junk js 107 18, base ps rows B p4 N xs c (T 0) (T 1) (T 2) (T 3) (T 4) (T 5) (T 6) (T 7) (vT 0 s0) .nilp (vT 2 s2) n0 n1 n2 ++ [(8, oT B p4 0 s0), (9, oP 0 s0), (10, some (tk .nilf B p4 1 w b e kk (.ptr 11 0) ce)), (11, some (pu .nilf hq0 fi la 1 pw)), (12, oT B p4 2 s2), (13, oP 2 s2)], 14, []⟩ _)
  rw [← hbb]
  refine Tri.seq (R := fun x st => x = .normal ∧ ∃ js, st = ⟨pre n np f i ++ [.v (.int .i64 (.lit 1)), .v (.bool (.lit true)), .v (ii bb)] ++ junk js 107 18, base ps rows B p4 N xs c (T 0) (T 1) (T 2) (T 3) (T 4) (T 5) (T 6) (T 7) (vT 0 s0) .nilp (vT 2 s2) n0 n1 n2 ++ [(8, oT B p4 0 s0), (9, oP 0 s0), (10, some (tk .nilf B p4 1 w b e kk (.ptr 11 0) ce)), (11, some (pu .nilf hq0 fi la 1 pw)), (12, oT B p4 2 s2), (13, oP 2 s2)], 14, []⟩)
    (Tri.allR (m := 18) (n := 107) (codeOK _) (bn1 n f i B p4 c (T 0) (T 1) (T 2) (T 3) (T 4) (T 5) (T 6) (T 7) bb np N ps rows xs (vT 0 s0) .nilp (vT 2 s2) n0 n1 n2 (oT B p4 0 s0) (oP 0 s0) (some (tk .nilf B p4 1 w b e kk (.ptr 11 0) ce)) (some (pu .nilf hq0 fi la 1 pw)) (oT B p4 2 s2) (oP 2 s2) js (.v (.bool (.lit true))) hx hp4 hB hc)
      (Tr.all_ite (fun hq => absurd (of_decide_eq_true hq) (by omega)) fun _ => Tr.all_ok ⟨rfl, ht rfl, hd _ rfl, fun js => ⟨rfl, js, rfl⟩⟩)) ?_ (fun x s hn hh => absurd hh.1 hn)
  rintro st ⟨_, js, rfl⟩
  refine Tri.postE (Q := fun x st => x = .normal ∧ ∀ aa ww, At MS E st aa ww → ∃ js, At MS E (S n np (W (f + 1)) i ps rows B p4 N xs c ((setI T bb 1) 0) ((setI T bb 1) 1) ((setI T bb 1) 2) ((setI T bb 1) 3) ((setI T bb 1) 4) ((setI T bb 1) 5) ((setI T bb 1) 6) ((setI T bb 1) 7) s0 .nil s2 n0 n1 n2 js) aa ww) ?_ fun x st aa ww hh hat => let ⟨js', hat'⟩ := hh.2 aa ww hat; ⟨_, hat', hh.1, js', rfl⟩
  clear hbb
  rcases (show bb = 0 ∨ bb = 1 ∨ bb = 2 ∨ bb = 3 ∨ bb = 4 ∨ bb = 5 ∨ bb = 6 ∨ bb = 7 by omega) with rfl | rfl | rfl | rfl | rfl | rfl | rfl | rfl
  · refine Tri.preE fun aa ww hat => ⟨_, at_tm (p' := pre n np f i ++ [.v (.int .i64 (.lit 1)), .v (.bool (.lit true)), .v (.int .i64 (.lit 0))]) (by (repeat' apply And.intro) <;> first | rfl | trivial) hat, ?_⟩
    exact Tri.allR (m := 15) (n := 110) (codeOK _) (tk0 n f i B p4 c (T 0) (T 1) (T 2) (T 3) (T 4) (T 5) (T 6) (T 7) np N ps rows xs (vT 0 s0) .nilp (vT 2 s2) n0 n1 n2 (oT B p4 0 s0) (oP 0 s0) (some (tk .nilf B p4 1 w b e kk (.ptr 11 0) ce)) (some (pu .nilf hq0 fi la 1 pw)) (oT B p4 2 s2) (oP 2 s2) js (.v (.int .i64 (.lit 1))) (.v (.bool (.lit true))) hx hp4 hB hc ht0)
      (Tr.all_ok ⟨rfl, ht rfl, hd _ rfl, fun js => ⟨rfl, fun aa ww hat => drop1 (d := []) hE hT (by rfl) (by simp [length_junk]) (at_wk2 (dirty' := []) (hp' := base ps rows B p4 N xs c ((setI T 0 1) 0) ((setI T 0 1) 1) ((setI T 0 1) 2) ((setI T 0 1) 3) ((setI T 0 1) 4) ((setI T 0 1) 5) ((setI T 0 1) 6) ((setI T 0 1) 7) (vT 0 s0) .nilp (vT 2 s2) n0 n1 n2 ++ [(8, oT B p4 0 s0), (9, oP 0 s0), (10, some (tk .nilf B p4 1 w b e kk (.ptr 11 0) ce)), (11, some (pu .nilf hq0 fi la 1 pw)), (12, oT B p4 2 s2), (13, oP 2 s2)]) (by repeat' (first | exact trivial | refine ⟨.inl rfl, ?_⟩ | refine ⟨.inr ⟨_, _, _, rfl, rfl, (by (repeat' apply And.intro) <;> first | rfl | trivial)⟩, ?_⟩)) hat)⟩⟩)
  · refine Tri.preE fun aa ww hat => ⟨_, at_tm (p' := pre n np f i ++ [.v (.int .i64 (.lit 1)), .v (.bool (.lit true)), .v (.int .i64 (.lit 1))]) (by (repeat' apply And.intro) <;> first | rfl | trivial) hat, ?_⟩
    exact Tri.allR (m := 15) (n := 110) (codeOK _) (tk1 n f i B p4 c (T 0) (T 1) (T 2) (T 3) (T 4) (T 5) (T 6) (T 7) np N ps rows xs (vT 0 s0) .nilp (vT 2 s2) n0 n1 n2 (oT B p4 0 s0) (oP 0 s0) (some (tk .nilf B p4 1 w b e kk (.ptr 11 0) ce)) (some (pu .nilf hq0 fi la 1 pw)) (oT B p4 2 s2) (oP 2 s2) js (.v (.int .i64 (.lit 1))) (.v (.bool (.lit true))) hx hp4 hB hc ht0)
      (Tr.all_ok ⟨rfl, ht rfl, hd _ rfl, fun js => ⟨rfl, fun aa ww hat => drop1 (d := []) hE hT (by rfl) (by simp [length_junk]) (at_wk2 (dirty' := []) (hp' := base ps rows B p4 N xs c ((setI T 1 1) 0) ((setI T 1 1) 1) ((setI T 1 1) 2) ((setI T 1 1) 3) ((setI T 1 1) 4) ((setI T 1 1) 5) ((setI T 1 1) 6) ((setI T 1 1) 7) (vT 0 s0) .nilp (vT 2 s2) n0 n1 n2 ++ [(8, oT B p4 0 s0), (9, oP 0 s0), (10, some (tk .nilf B p4 1 w b e kk (.ptr 11 0) ce)), (11, some (pu .nilf hq0 fi la 1 pw)), (12, oT B p4 2 s2), (13, oP 2 s2)]) (by repeat' (first | exact trivial | refine ⟨.inl rfl, ?_⟩ | refine ⟨.inr ⟨_, _, _, rfl, rfl, (by (repeat' apply And.intro) <;> first | rfl | trivial)⟩, ?_⟩)) hat)⟩⟩)
  · refine Tri.preE fun aa ww hat => ⟨_, at_tm (p' := pre n np f i ++ [.v (.int .i64 (.lit 1)), .v (.bool (.lit true)), .v (.int .i64 (.lit 2))]) (by (repeat' apply And.intro) <;> first | rfl | trivial) hat, ?_⟩
    exact Tri.allR (m := 15) (n := 110) (codeOK _) (tk2 n f i B p4 c (T 0) (T 1) (T 2) (T 3) (T 4) (T 5) (T 6) (T 7) np N ps rows xs (vT 0 s0) .nilp (vT 2 s2) n0 n1 n2 (oT B p4 0 s0) (oP 0 s0) (some (tk .nilf B p4 1 w b e kk (.ptr 11 0) ce)) (some (pu .nilf hq0 fi la 1 pw)) (oT B p4 2 s2) (oP 2 s2) js (.v (.int .i64 (.lit 1))) (.v (.bool (.lit true))) hx hp4 hB hc ht0)
      (Tr.all_ok ⟨rfl, ht rfl, hd _ rfl, fun js => ⟨rfl, fun aa ww hat => drop1 (d := []) hE hT (by rfl) (by simp [length_junk]) (at_wk2 (dirty' := []) (hp' := base ps rows B p4 N xs c ((setI T 2 1) 0) ((setI T 2 1) 1) ((setI T 2 1) 2) ((setI T 2 1) 3) ((setI T 2 1) 4) ((setI T 2 1) 5) ((setI T 2 1) 6) ((setI T 2 1) 7) (vT 0 s0) .nilp (vT 2 s2) n0 n1 n2 ++ [(8, oT B p4 0 s0), (9, oP 0 s0), (10, some (tk .nilf B p4 1 w b e kk (.ptr 11 0) ce)), (11, some (pu .nilf hq0 fi la 1 pw)), (12, oT B p4 2 s2), (13, oP 2 s2)]) (by repeat' (first | exact trivial | refine ⟨.inl rfl, ?_⟩ | refine ⟨.inr ⟨_, _, _, rfl, rfl, (by (repeat' apply And.intro) <;> first | rfl | trivial)⟩, ?_⟩)) hat)⟩⟩)
  · refine Tri.preE fun aa ww hat => ⟨_, at_tm (p' := pre n np f i ++ [.v (.int .i64 (.lit 1)), .v (.bool (.lit true)), .v (.int .i64 (.lit 3))]) (by (repeat' apply And.intro) <;> first | rfl | trivial) hat, ?_⟩
    exact Tri.allR (m := 15) (n := 110) (codeOK _) (tk3 n f i B p4 c (T 0) (T 1) (T 2) (T 3) (T 4) (T 5) (T 6) (T 7) np N ps rows xs (vT 0 s0) .nilp (vT 2 s2) n0 n1 n2 (oT B p4 0 s0) (oP 0 s0) (some (tk .nilf B p4 1 w b e kk (.ptr 11 0) ce)) (some (pu .nilf hq0 fi la 1 pw)) (oT B p4 2 s2) (oP 2 s2) js (.v (.int .i64 (.lit 1))) (.v (.bool (.lit true))) hx hp4 hB hc ht0)
      (Tr.all_ok ⟨rfl, ht rfl, hd _ rfl, fun js => ⟨rfl, fun aa ww hat => drop1 (d := []) hE hT (by rfl) (by simp [length_junk]) (at_wk2 (dirty' := []) (hp' := base ps rows B p4 N xs c ((setI T 3 1) 0) ((setI T 3 1) 1) ((setI T 3 1) 2) ((setI T 3 1) 3) ((setI T 3 1) 4) ((setI T 3 1) 5) ((setI T 3 1) 6) ((setI T 3 1) 7) (vT 0 s0) .nilp (vT 2 s2) n0 n1 n2 ++ [(8, oT B p4 0 s0), (9, oP 0 s0), (10, some (tk .nilf B p4 1 w b e kk (.ptr 11 0) ce)), (11, some (pu .nilf hq0 fi la 1 pw)), (12, oT B p4 2 s2), (13, oP 2 s2)]) (by repeat' (first | exact trivial | refine ⟨.inl rfl, ?_⟩ | refine ⟨.inr ⟨_, _, _, rfl, rfl, (by (repeat' apply And.intro) <;> first | rfl | trivial)⟩, ?_⟩)) hat)⟩⟩)
  · refine Tri.preE fun aa ww hat => ⟨_, at_tm (p' := pre n np f i ++ [.v (.int .i64 (.lit 1)), .v (.bool (.lit true)), .v (.int .i64 (.lit 4))]) (by (repeat' apply And.intro) <;> first | rfl | trivial) hat, ?_⟩
    exact Tri.allR (m := 15) (n := 110) (codeOK _) (tk4 n f i B p4 c (T 0) (T 1) (T 2) (T 3) (T 4) (T 5) (T 6) (T 7) np N ps rows xs (vT 0 s0) .nilp (vT 2 s2) n0 n1 n2 (oT B p4 0 s0) (oP 0 s0) (some (tk .nilf B p4 1 w b e kk (.ptr 11 0) ce)) (some (pu .nilf hq0 fi la 1 pw)) (oT B p4 2 s2) (oP 2 s2) js (.v (.int .i64 (.lit 1))) (.v (.bool (.lit true))) hx hp4 hB hc ht0)
      (Tr.all_ok ⟨rfl, ht rfl, hd _ rfl, fun js => ⟨rfl, fun aa ww hat => drop1 (d := []) hE hT (by rfl) (by simp [length_junk]) (at_wk2 (dirty' := []) (hp' := base ps rows B p4 N xs c ((setI T 4 1) 0) ((setI T 4 1) 1) ((setI T 4 1) 2) ((setI T 4 1) 3) ((setI T 4 1) 4) ((setI T 4 1) 5) ((setI T 4 1) 6) ((setI T 4 1) 7) (vT 0 s0) .nilp (vT 2 s2) n0 n1 n2 ++ [(8, oT B p4 0 s0), (9, oP 0 s0), (10, some (tk .nilf B p4 1 w b e kk (.ptr 11 0) ce)), (11, some (pu .nilf hq0 fi la 1 pw)), (12, oT B p4 2 s2), (13, oP 2 s2)]) (by repeat' (first | exact trivial | refine ⟨.inl rfl, ?_⟩ | refine ⟨.inr ⟨_, _, _, rfl, rfl, (by (repeat' apply And.intro) <;> first | rfl | trivial)⟩, ?_⟩)) hat)⟩⟩)
  · refine Tri.preE fun aa ww hat => ⟨_, at_tm (p' := pre n np f i ++ [.v (.int .i64 (.lit 1)), .v (.bool (.lit true)), .v (.int .i64 (.lit 5))]) (by (repeat' apply And.intro) <;> first | rfl | trivial) hat, ?_⟩
    exact Tri.allR (m := 15) (n := 110) (codeOK _) (tk5 n f i B p4 c (T 0) (T 1) (T 2) (T 3) (T 4) (T 5) (T 6) (T 7) np N ps rows xs (vT 0 s0) .nilp (vT 2 s2) n0 n1 n2 (oT B p4 0 s0) (oP 0 s0) (some (tk .nilf B p4 1 w b e kk (.ptr 11 0) ce)) (some (pu .nilf hq0 fi la 1 pw)) (oT B p4 2 s2) (oP 2 s2) js (.v (.int .i64 (.lit 1))) (.v (.bool (.lit true))) hx hp4 hB hc ht0)
      (Tr.all_ok ⟨rfl, ht rfl, hd _ rfl, fun js => ⟨rfl, fun aa ww hat => drop1 (d := []) hE hT (by rfl) (by simp [length_junk]) (at_wk2 (dirty' := []) (hp' := base ps rows B p4 N xs c ((setI T 5 1) 0) ((setI T 5 1) 1) ((setI T 5 1) 2) ((setI T 5 1) 3) ((setI T 5 1) 4) ((setI T 5 1) 5) ((setI T 5 1) 6) ((setI T 5 1) 7) (vT 0 s0) .nilp (vT 2 s2) n0 n1 n2 ++ [(8, oT B p4 0 s0), (9, oP 0 s0), (10, some (tk .nilf B p4 1 w b e kk (.ptr 11 0) ce)), (11, some (pu .nilf hq0 fi la 1 pw)), (12, oT B p4 2 s2), (13, oP 2 s2)]) (by repeat' (first | exact trivial | refine ⟨.inl rfl, ?_⟩ | refine ⟨.inr ⟨_, _, _, rfl, rfl, (by (repeat' apply And.intro) <;> first | rfl | trivial)⟩, ?_⟩)) hat)⟩⟩)
  · refine Tri.preE fun aa ww hat => ⟨_, at_tm (p' := pre n np f i ++ [.v (.int .i64 (.lit 1)), .v (.bool (.lit true)), .v (.int .i64 (.lit 6))]) (by (repeat' apply And.intro) <;> first | rfl | trivial) hat, ?_⟩
    exact Tri.allR (m := 15) (n := 110) (codeOK _) (tk6 n f i B p4 c (T 0) (T 1) (T 2) (T 3) (T 4) (T 5) (T 6) (T 7) np N ps rows xs (vT 0 s0) .nilp (vT 2 s2) n0 n1 n2 (oT B p4 0 s0) (oP 0 s0) (some (tk .nilf B p4 1 w b e kk (.ptr 11 0) ce)) (some (pu .nilf hq0 fi la 1 pw)) (oT B p4 2 s2) (oP 2 s2) js (.v (.int .i64 (.lit 1))) (.v (.bool (.lit true))) hx hp4 hB hc ht0)
      (Tr.all_ok ⟨rfl, ht rfl, hd _ rfl, fun js => ⟨rfl, fun aa ww hat => drop1 (d := []) hE hT (by rfl) (by simp [length_junk]) (at_wk2 (dirty' := []) (hp' := base ps rows B p4 N xs c ((setI T 6 1) 0) ((setI T 6 1) 1) ((setI T 6 1) 2) ((setI T 6 1) 3) ((setI T 6 1) 4) ((setI T 6 1) 5) ((setI T 6 1) 6) ((setI T 6 1) 7) (vT 0 s0) .nilp (vT 2 s2) n0 n1 n2 ++ [(8, oT B p4 0 s0), (9, oP 0 s0), (10, some (tk .nilf B p4 1 w b e kk (.ptr 11 0) ce)), (11, some (pu .nilf hq0 fi la 1 pw)), (12, oT B p4 2 s2), (13, oP 2 s2)]) (by repeat' (first | exact trivial | refine ⟨.inl rfl, ?_⟩ | refine ⟨.inr ⟨_, _, _, rfl, rfl, (by (repeat' apply And.intro) <;> first | rfl | trivial)⟩, ?_⟩)) hat)⟩⟩)
  · refine Tri.preE fun aa ww hat => ⟨_, at_tm (p' := pre n np f i ++ [.v (.int .i64 (.lit 1)), .v (.bool (.lit true)), .v (.int .i64 (.lit 7))]) (by (repeat' apply And.intro) <;> first | rfl | trivial) hat, ?_⟩
    exact Tri.allR (m := 15) (n := 110) (codeOK _) (tk7 n f i B p4 c (T 0) (T 1) (T 2) (T 3) (T 4) (T 5) (T 6) (T 7) np N ps rows xs (vT 0 s0) .nilp (vT 2 s2) n0 n1 n2 (oT B p4 0 s0) (oP 0 s0) (some (tk .nilf B p4 1 w b e kk (.ptr 11 0) ce)) (some (pu .nilf hq0 fi la 1 pw)) (oT B p4 2 s2) (oP 2 s2) js (.v (.int .i64 (.lit 1))) (.v (.bool (.lit true))) hx hp4 hB hc ht0)
      (Tr.all_ok ⟨rfl, ht rfl, hd _ rfl, fun js => ⟨rfl, fun aa ww hat => drop1 (d := []) hE hT (by rfl) (by simp [length_junk]) (at_wk2 (dirty' := []) (hp' := base ps rows B p4 N xs c ((setI T 7 1) 0) ((setI T 7 1) 1) ((setI T 7 1) 2) ((setI T 7 1) 3) ((setI T 7 1) 4) ((setI T 7 1) 5) ((setI T 7 1) 6) ((setI T 7 1) 7) (vT 0 s0) .nilp (vT 2 s2) n0 n1 n2 ++ [(8, oT B p4 0 s0), (9, oP 0 s0), (10, some (tk .nilf B p4 1 w b e kk (.ptr 11 0) ce)), (11, some (pu .nilf hq0 fi la 1 pw)), (12, oT B p4 2 s2), (13, oP 2 s2)]) (by repeat' (first | exact trivial | refine ⟨.inl rfl, ?_⟩ | refine ⟨.inr ⟨_, _, _, rfl, rfl, (by (repeat' apply And.intro) <;> first | rfl | trivial)⟩, ?_⟩)) hat)⟩⟩)
theorem doneN2 {w b e kk : Int} (s0 s1 : TK) (js : Nat → SV) : Tri MS Try.prog E (.seq (qt [true, true, true, true, true, true, false]) (qt [true, true, true, true, true, true, true]))
    ⟨pre n np f i ++ [.v (.int .i64 (.lit 2)), .v (.bool (.lit true))] ++ junk js 108 17, base ps rows B p4 N xs c t0 t1 t2 t3 t4 t5 t6 t7 (vT 0 s0) (vT 1 s1) (.ptr 12 0) n0 n1 n2 ++ [(8, oT B p4 0 s0), (9, oP 0 s0), (10, oT B p4 1 s1), (11, oP 1 s1), (12, some (tk .nilf B p4 2 w b e kk .nilp 0)), (13, none)], 14, []⟩
    fun x st => x = .exit 1 ∧ ∃ js, st = S n np f i ps rows B p4 N xs c t0 t1 t2 t3 t4 t5 t6 t7 s0 s1 .nil n0 n1 true js := by
  have hd : ∀ (l : List Nat), l.all (Nat.ble 1) = true → ∀ b, b ∈ l → E.D b := fun l hl b hb => hD b (Nat.le_of_ble_eq_true (List.all_eq_true.1 hl b hb))
  have ht : ∀ {k : Nat}, Nat.ble k 30 = true → k ≤ E.top := fun h => by rw [hT]; exact Nat.le_of_ble_eq_true h
  refine Tri.seq (R := fun x st => x = .normal ∧ ∃ js, st = ⟨pre n np f i ++ [.v (.int .i64 (.lit 2)), .v (.bool (.lit true))] ++ junk js 108 17, base ps rows B p4 N xs c t0 t1 t2 t3 t4 t5 t6 t7 (vT 0 s0) (vT 1 s1) (.ptr 12 0) n0 n1 n2 ++ [(8, oT B p4 0 s0), (9, oP 0 s0), (10, oT B p4 1 s1), (11, oP 1 s1), (12, some (tk .nilf B p4 2 w b e kk .nilp 0)), (13, none)], 14, []⟩)
    (Tri.allR (m := 17) (n := 108) (codeOK _) (dtrue n f i B p4 c t0 t1 t2 t3 t4 t5 t6 t7 np N ps rows xs (vT 0 s0) (vT 1 s1) (.ptr 12 0) n0 n1 n2 (oT B p4 0 s0) (oP 0 s0) (oT B p4 1 s1) (oP 1 s1) (some (tk .nilf B p4 2 w b e kk .nilp 0)) (none) js (.v (.int .i64 (.lit 2))) hx hp4 hB hc) (Tr.all_ok ⟨rfl, ht rfl, hd _ rfl, fun js => ⟨rfl, js, rfl⟩⟩)) ?_ (fun x s hn hh => absurd hh.1 hn)
  rintro st ⟨_, js, rfl⟩
  refine Tri.listR (m := 18) (n := 107) (l := [qt [true, true, true, true, true, true, true, false], qt [true, true, true, true, true, true, true, true, false]]) (c' := .seq (qt [true, true, true, true, true, true, true, true, true, false]) (qt [true, true, true, true, true, true, true, true, true, true])) codeOK 2 rfl rfl
    (bn_2 n f i B p4 c t0 t1 t2 t3 t4 t5 t6 t7 w b e kk 0 np N ps rows xs (vT 0 s0) (vT 1 s1) n0 n1 n2 (oT B p4 0 s0) (oP 0 s0) (oT B p4 1 s1) (oP 1 s1) none js (.v (.bool (.lit true))) hx hp4 hB hc) (Tr.all_ok ⟨rfl, rfl, ht rfl, hd _ rfl, fun js => ?_⟩)
  refine Tri.seq (R := fun x st => x = .exit 1 ∧ ∃ js, st = S n np f i ps rows B p4 N xs c t0 t1 t2 t3 t4 t5 t6 t7 s0 s1 .nil n0 n1 true js) ?_ (fun s hh => by cases hh.1) (fun x s _ hh => hh)
  refine Tri.postE (Tri.allR (Q := fun x st => x = .exit 1 ∧ ∀ aa ww, At MS E st aa ww → ∃ js, At MS E (S n np f i ps rows B p4 N xs c t0 t1 t2 t3 t4 t5 t6 t7 s0 s1 .nil n0 n1 true js) aa ww) (m := 18) (n := 107) (codeOK _) (bn2 n f i B p4 c t0 t1 t2 t3 t4 t5 t6 t7 (RB.mBlk 32 p4 0) np N ps rows xs (vT 0 s0) (vT 1 s1) .nilp n0 n1 n2 (oT B p4 0 s0) (oP 0 s0) (oT B p4 1 s1) (oP 1 s1) (some (tk .nilf B p4 2 w b e kk .nilp 0)) (none) js (.v (.bool (.lit true))) hx hp4 hB hc)
    (Tr.all_ite (fun _ => Tr.all_ok ⟨rfl, ht rfl, hd _ rfl, fun js => ⟨rfl, fun aa ww hat => drop2 (d := []) hE hT (by rfl) (by simp [length_junk]) (at_wk2 (dirty' := []) (hp' := base ps rows B p4 N xs c t0 t1 t2 t3 t4 t5 t6 t7 (vT 0 s0) (vT 1 s1) .nilp n0 n1 true ++ [(8, oT B p4 0 s0), (9, oP 0 s0), (10, oT B p4 1 s1), (11, oP 1 s1), (12, some (tk .nilf B p4 2 w b e kk .nilp 0)), (13, none)]) (by repeat' (first | exact trivial | refine ⟨.inl rfl, ?_⟩ | refine ⟨.inr ⟨_, _, _, rfl, rfl, (by (repeat' apply And.intro) <;> first | rfl | trivial)⟩, ?_⟩)) hat)⟩⟩) fun hq => absurd hq (by rw [show RB.mBlk 32 p4 0 = -1 from if_pos (.inl (by decide))]; decide))) ?_
  rintro x st aa ww ⟨rfl, hh⟩ hat
  obtain ⟨js', hat'⟩ := hh aa ww hat
  exact ⟨_, hat', rfl, js', rfl⟩
theorem doneP2 {T : Int → Int} {w b e kk ce hq0 fi la pw bb : Int} (hbb : bb = RB.mBlk 32 p4 ce) (hb8 : 0 ≤ bb ∧ bb < 8) (ht0 : T bb = 0) (s0 s1 : TK) (js : Nat → SV) : Tri MS Try.prog E (.seq (qt [true, true, true, true, true, true, false]) (qt [true, true, true, true, true, true, true]))
    ⟨pre n np f i ++ [.v (.int .i64 (.lit 2)), .v (.bool (.lit true))] ++ junk js 108 17, base ps rows B p4 N xs c (T 0) (T 1) (T 2) (T 3) (T 4) (T 5) (T 6) (T 7) (vT 0 s0) (vT 1 s1) (.ptr 12 0) n0 n1 n2 ++ [(8, oT B p4 0 s0), (9, oP 0 s0), (10, oT B p4 1 s1), (11, oP 1 s1), (12, some (tk .nilf B p4 2 w b e kk (.ptr 13 0) ce)), (13, some (pu .nilf hq0 fi la 2 pw))], 14, []⟩
    fun x st => x = .normal ∧ ∃ js, st = S n np (W (f + 1)) i ps rows B p4 N xs c ((setI T bb 1) 0) ((setI T bb 1) 1) ((setI T bb 1) 2) ((setI T bb 1) 3) ((setI T bb 1) 4) ((setI T bb 1) 5) ((setI T bb 1) 6) ((setI T bb 1) 7) s0 s1 .nil n0 n1 n2 js := by
  have hd : ∀ (l : List Nat), l.all (Nat.ble 1) = true → ∀ b, b ∈ l → E.D b := fun l hl b hb => hD b (Nat.le_of_ble_eq_true (List.all_eq_true.1 hl b hb))
  have ht : ∀ {k : Nat}, Nat.ble k 30 = true → k ≤ E.top := fun h => by rw [hT]; exact Nat.le_of_ble_eq_true h
  refine Tri.seq (R := fun x st => x = .normal ∧ ∃ js, st = ⟨pre n np f i ++ [.v (.int .i64 (.lit 2)), .v (.bool (.lit true))] ++ junk js 108 17, base ps rows B p4 N xs c (T 0) (T 1) (T 2) (T 3) (T 4) (T 5) (T 6) (T 7) (vT 0 s0) (vT 1 s1) (.ptr 12 0) n0 n1 n2 ++ [(8, oT B p4 0 s0), (9, oP 0 s0), (10, oT B p4 1 s1), (11, oP 1 s1), (12, some (tk .nilf B p4 2 w b e kk (.ptr 13 0) ce)), (13, some (pu .nilf hq0 fi la 2 pw))], 14, []⟩)
    (Tri.allR (m := 17) (n := 108) (codeOK _) (dtrue n f i B p4 c (T 0) (T 1) (T 2) (T 3) (T 4) (T 5) (T 6) (T 7) np N ps rows xs (vT 0 s0) (vT 1 s1) (.ptr 12 0) n0 n1 n2 (oT B p4 0 s0) (oP 0 s0) (oT B p4 1 s1) (oP 1 s1) (some (tk .nilf B p4 2 w b e kk (.ptr 13 0) ce)) (some (pu .nilf hq0 fi la 2 pw)) js (.v (.int .i64 (.lit 2))) hx hp4 hB hc) (Tr.all_ok ⟨rfl, ht rfl, hd _ rfl, fun js => ⟨rfl, js, rfl⟩⟩)) ?_ (fun x s hn hh => absurd hh.1 hn)
  rintro st ⟨_, js, rfl⟩
  refine Tri.listR (m := 18) (n := 107) (l := [qt [true, true, true, true, true, true, true, false], qt [true, true, true, true, true, true, true, true, false]]) (c' := .seq (qt [true, true, true, true, true, true, true, true, true, false]) (qt [true, true, true, true, true, true, true, true, true, true])) codeOK 2 rfl rfl
    (bp_2 n f i B p4 c (T 0) (T 1) (T 2) (T 3) (T 4) (T 5) (T 6) (T 7) w b e kk ce hq0 fi la pw np N ps rows xs (vT 0 s0) (vT 1 s1) n0 n1 n2 (oT B p4 0 s0) (oP 0 s0) (oT B p4 1 s1) (oP 1 s1) js (.v (.bool (.lit true))) hx hp4 hB hc) (Tr.all_ok ⟨rfl, rfl, ht rfl, hd _ rfl, fun js => ?_⟩)
  refine (?_ : Tri MS Try.prog E _ ⟨pre n np f i ++ [.v (.int .i64 (.lit 2)), .v (.bool (.lit true)), .v (ii (RB.mBlk 32 p4 ce))] ++ junk js 107 18, base ps rows B p4 N xs c (T 0) (T 1) (T 2) (T 3) (T 4) (T 5) (T 6) (T 7) (vT 0 s0) (vT 1 s1) .nilp n0 n1 n2 ++ [(8, oT B p4 0 s0), (9, oP 0 s0), (10, oT B p4 1 s1), (11, oP 1 s1), (12, some (tk .nilf B p4 2 w b e kk (.ptr 13 0) ce)), (13, some (pu .nilf hq0 fi la 2 pw))], 14, []⟩ _)
  rw [← hbb]
  refine Tri.seq (R := fun x st => x = .normal ∧ ∃ js, st = ⟨pre n np f i ++ [.v (.int .i64 (.lit 2)), .v (.bool (.lit true)), .v (ii bb)] ++ junk js 107 18, base ps rows B p4 N xs c (T 0) (T 1) (T 2) (T 3) (T 4) (T 5) (T 6) (T 7) (vT 0 s0) (vT 1 s1) .nilp n0 n1 n2 ++ [(8, oT B p4 0 s0), (9, oP 0 s0), (10, oT B p4 1 s1), (11, oP 1 s1), (12, some (tk .nilf B p4 2 w b e kk (.ptr 13 0) ce)), (13, some (pu .nilf hq0 fi la 2 pw))], 14, []⟩)
    (Tri.allR (m := 18) (n := 107) (codeOK _) (bn2 n f i B p4 c (T 0) (T 1) (T 2) (T 3) (T 4) (T 5) (T 6) (T 7) bb np N ps rows xs (vT 0 s0) (vT 1 s1) .nilp n0 n1 n2 (oT B p4 0 s0) (oP 0 s0) (oT B p4 1 s1) (oP 1 s1) (some (tk .nilf B p4 2 w b e kk (.ptr 13 0) ce)) (some (pu .nilf hq0 fi la 2 pw)) js (.v (.bool (.lit true))) hx hp4 hB hc)
      (Tr.all_ite (fun hq => absurd (of_decide_eq_true hq) (by omega)) fun _ => Tr.all_ok ⟨rfl, ht rfl, hd _ rfl, fun js => ⟨rfl, js, rfl⟩⟩)) ?_ (fun x s hn hh => absurd hh.1 hn)
  rintro st ⟨_, js, rfl⟩
  refine Tri.postE (Q := fun x st => x = .normal ∧ ∀ aa ww, At MS E st aa ww → ∃ js, At MS E (S n np (W (f + 1)) i ps rows B p4 N xs c ((setI T bb 1) 0) ((setI T bb 1) 1) ((setI T bb 1) 2) ((setI T bb 1) 3) ((setI T bb 1) 4) ((setI T bb 1) 5) ((setI T bb 1) 6) ((setI T bb 1) 7) s0 s1 .nil n0 n1 n2 js) aa ww) ?_ fun x st aa ww hh hat => let ⟨js', hat'⟩ := hh.2 aa ww hat; ⟨_, hat', hh.1, js', rfl⟩
  clear hbb
  rcases (show bb = 0 ∨ bb = 1 ∨ bb = 2 ∨ bb = 3 ∨ bb = 4 ∨ bb = 5 ∨ bb = 6 ∨ bb = 7 by omega) with rfl | rfl | rfl | rfl | rfl | rfl | rfl | rfl
  · refine Tri.preE fun aa ww hat => ⟨_, at_tm (p' := pre n np f i ++ [.v (.int .i64 (.lit 2)), .v (.bool (.lit true)), .v (.int .i64 (.lit 0))]) (by (repeat' apply And.intro) <;> first | rfl | trivial) hat, ?_⟩
    exact Tri.allR (m := 15) (n := 110) (codeOK _) (tk0 n f i B p4 c (T 0) (T 1) (T 2) (T 3) (T 4) (T 5) (T 6) (T 7) np N ps rows xs (vT 0 s0) (vT 1 s1) .nilp n0 n1 n2 (oT B p4 0 s0) (oP 0 s0) (oT B p4 1 s1) (oP 1 s1) (some (tk .nilf B p4 2 w b e kk (.ptr 13 0) ce)) (some (pu .nilf hq0 fi la 2 pw)) js (.v (.int .i64 (.lit 2))) (.v (.bool (.lit true))) hx hp4 hB hc ht0)
      (Tr.all_ok ⟨rfl, ht rfl, hd _ rfl, fun js => ⟨rfl, fun aa ww hat => drop2 (d := []) hE hT (by rfl) (by simp [length_junk]) (at_wk2 (dirty' := []) (hp' := base ps rows B p4 N xs c ((setI T 0 1) 0) ((setI T 0 1) 1) ((setI T 0 1) 2) ((setI T 0 1) 3) ((setI T 0 1) 4) ((setI T 0 1) 5) ((setI T 0 1) 6) ((setI T 0 1) 7) (vT 0 s0) (vT 1 s1) .nilp n0 n1 n2 ++ [(8, oT B p4 0 s0), (9, oP 0 s0), (10, oT B p4 1 s1), (11, oP 1 s1), (12, some (tk .nilf B p4 2 w b e kk (.ptr 13 0) ce)), (13, some (pu .nilf hq0 fi la 2 pw))]) (by repeat' (first | exact trivial | refine ⟨.inl rfl, ?_⟩ | refine ⟨.inr ⟨_, _, _, rfl, rfl, (by (repeat' apply And.intro) <;> first | rfl | trivial)⟩, ?_⟩)) hat)⟩⟩)
  · refine Tri.preE fun aa ww hat => ⟨_, at_tm (p' := pre n np f i ++ [.v (.int .i64 (.lit 2)), .v (.bool (.lit true)), .v (.int .i64 (.lit 1))]) (by (repeat' apply And.intro) <;> first | rfl | trivial) hat, ?_⟩
    exact Tri.allR (m := 15) (n := 110) (codeOK _) (tk1 n f i B p4 c (T 0) (T 1) (T 2) (T 3) (T 4) (T 5) (T 6) (T 7) np N ps rows xs (vT 0 s0) (vT 1 s1) .nilp n0 n1 n2 (oT B p4 0 s0) (oP 0 s0) (oT B p4 1 s1) (oP 1 s1) (some (tk .nilf B p4 2 w b e kk (.ptr 13 0) ce)) (some (pu .nilf hq0 fi la 2 pw)) js (.v (.int .i64 (.lit 2))) (.v (.bool (.lit true))) hx hp4 hB hc ht0)
      (Tr.all_ok ⟨rfl, ht rfl, hd _ rfl, fun js => ⟨rfl, fun aa ww hat => drop2 (d := []) hE hT (by rfl) (by simp [length_junk]) (at_wk2 (dirty' := []) (hp' := base ps rows B p4 N xs c ((setI T 1 1) 0) ((setI T 1 1) 1) ((setI T 1 1) 2) ((setI T 1 1) 3) ((setI T 1 1) 4) ((setI T 1 1) 5) ((setI T 1 1) 6) ((setI T 1 1) 7) (vT 0 s0) (vT 1 s1) .nilp n0 n1 n2 ++ [(8, oT B p4 0 s0), (9, oP 0 s0), (10, oT B p4 1 s1), (11, oP 1 s1), (12, some (tk .nilf B p4 2 w b e kk (.ptr 13 0) ce)), (13, some (pu .nilf hq0 fi la 2 pw))]) (by repeat' (first | exact trivial | refine ⟨.inl rfl, ?_⟩ | refine ⟨.inr ⟨_, _, _, rfl, rfl, (by (repeat' apply And.intro) <;> first | rfl | trivial)⟩, ?_⟩)) hat)⟩⟩)
  · refine Tri.preE fun aa ww hat => ⟨_, at_tm (p' := pre n np f i ++ [.v (.int .i64 (.lit 2)), .v (.bool (.lit true)), .v (.int .i64 (.lit 2))]) (by (repeat' apply And.intro) <;> first | rfl | trivial) hat, ?_⟩
    exact Tri.allR (m := 15) (n := 110) (codeOK _) (tk2 n f i B p4 c (T 0) (T 1) (T 2) (T 3) (T 4) (T 5) (T 6) (T 7) np N ps rows xs (vT 0 s0) (vT 1 s1) .nilp n0 n1 n2 (oT B p4 0 s0) (oP 0 s0) (oT B p4 1 s1) (oP 1 s1) (some (tk .nilf B p4 2 w b e kk (.ptr 13 0) ce)) (some (pu .nilf hq0 fi la 2 pw)) js (.v (.int .i64 (.lit 2))) (.v (.bool (.lit true))) hx hp4 hB hc ht0)
      (Tr.all_ok ⟨rfl, ht rfl, hd _ rfl, fun js => ⟨rfl, fun aa ww hat => drop2 (d := []) hE hT (by rfl) (by simp [length_junk]) (at_wk2 (dirty' := []) (hp' := base ps rows B p4 N xs c ((setI T 2 1) 0) ((setI T 2 1) 1) ((setI T 2 1) 2) ((setI T 2 1) 3) ((setI T 2 1) 4) ((setI T 2 1) 5) ((setI T 2 1) 6) ((setI T 2 1) 7) (vT 0 s0) (vT 1 s1) .nilp n0 n1 n2 ++ [(8, oT B p4 0 s0), (9, oP 0 s0), (10, oT B p4 1 s1), (11, oP 1 s1), (12, some (tk .nilf B p4 2 w b e kk (.ptr 13 0) ce)), (13, some (pu .nilf hq0 fi la 2 pw))]) (by repeat' (first | exact trivial | refine ⟨.inl rfl, ?_⟩ | refine ⟨.inr ⟨_, _, _, rfl, rfl, (by (repeat' apply And.intro) <;> first | rfl | trivial)⟩, ?_⟩)) hat)⟩⟩)
  · refine Tri.preE fun aa ww hat => ⟨_, at_tm (p' := pre n np f i ++ [.v (.int .i64 (.lit 2)), .v (.bool (.lit true)), .v (.int .i64 (.lit 3))]) (by (repeat' apply And.intro) <;> first | rfl | trivial) hat, ?_⟩
    exact Tri.allR (m := 15) (n := 110) (codeOK _) (tk3 n f i B p4 c (T 0) (T 1) (T 2) (T 3) (T 4) (T 5) (T 6) (T 7) np N ps rows xs (vT 0 s0) (vT 1 s1) .nilp n0 n1 n2 (oT B p4 0 s0) (oP 0 s0) (oT B p4 1 s1) (oP 1 s1) (some (tk .nilf B p4 2 w b e kk (.ptr 13 0) ce)) (some (pu .nilf hq0 fi la 2 pw)) js (.v (.int .i64 (.lit 2))) (.v (.bool (.lit true))) hx hp4 hB hc ht0)
      (Tr.all_ok ⟨rfl, ht rfl, hd _ rfl, fun js => ⟨rfl, fun aa ww hat => drop2 (d := []) hE hT (by rfl) (by simp [length_junk]) (at_wk2 (dirty' := []) (hp' := base ps rows B p4 N xs c ((setI T 3 1) 0) ((setI T 3 1) 1) ((setI T 3 1) 2) ((setI T 3 1) 3) ((setI T 3 1) 4) ((setI T 3 1) 5) ((setI T 3 1) 6) ((setI T 3 1) 7) (vT 0 s0) (vT 1 s1) .nilp n0 n1 n2 ++ [(8, oT B p4 0 s0), (9, oP 0 s0), (10, oT B p4 1 s1), (11, oP 1 s1), (12, some (tk .nilf B p4 2 w b e kk (.ptr 13 0) ce)), (13, some (pu .nilf hq0 fi la 2 pw))]) (by repeat' (first | exact trivial | refine ⟨.inl rfl, ?_⟩ | refine ⟨.inr ⟨_, _, _, rfl, rfl, (by (repeat' apply And.intro) <;> first | rfl | trivial)⟩, ?_⟩)) hat)⟩⟩)
  · refine Tri.preE fun aa ww hat => ⟨_, at_tm (p' := pre n np f i ++ [.v (.int .i64 (.lit 2)), .v (.bool (.lit true)), .v (.int .i64 (.lit 4))]) (by (repeat' apply And.intro) <;> first | rfl | trivial) hat, ?_⟩
    exact Tri.allR (m := 15) (n := 110) (codeOK _) (tk4 n f i B p4 c (T 0) (T 1) (T 2) (T 3) (T 4) (T 5) (T 6) (T 7) np N ps rows xs (vT 0 s0) (vT 1 s1) .nilp n0 n1 n2 (oT B p4 0 s0) (oP 0 s0) (oT B p4 1 s1) (oP 1 s1) (some (tk .nilf B p4 2 w b e kk (.ptr 13 0) ce)) (some (pu .nilf hq0 fi la 2 pw)) js (.v (.int .i64 (.lit 2))) (.v (.bool (.lit true))) hx hp4 hB hc ht0)
      (Tr.all_ok ⟨rfl, ht rfl, hd _ rfl, fun js => ⟨rfl, fun aa ww hat => drop2 (d := []) hE hT (by rfl) (by simp [length_junk]) (at_wk2 (dirty' := []) (hp' := base ps rows B p4 N xs c ((setI T 4 1) 0) ((setI T 4 1) 1) ((setI T 4 1) 2) ((setI T 4 1) 3) ((setI T 4 1) 4) ((setI T 4 1) 5) ((setI T 4 1) 6) ((setI T 4 1) 7) (vT 0 s0) (vT 1 s1) .nilp n0 n1 n2 ++ [(8, oT B p4 0 s0), (9, oP 0 s0), (10, oT B p4 1 s1), (11, oP 1 s1), (12, some (tk .nilf B p4 2 w b e kk (.ptr 13 0) ce)), (13, some (pu .nilf hq0 fi la 2 pw))]) (by repeat' (first | exact trivial | refine ⟨.inl rfl, ?_⟩ | refine ⟨.inr ⟨_, _, _, rfl, rfl, (by (repeat' apply And.intro) <;> first | rfl | trivial)⟩, ?_⟩)) hat)⟩⟩)
  · refine Tri.preE fun aa ww hat => ⟨_, at_tm (p' := pre n np f i ++ [.v (.int .i64 (.lit 2)), .v (.bool (.lit true)), .v (.int .i64 (.lit 5))]) (by (repeat' apply And.intro) <;> first | rfl | trivial) hat, ?_⟩
    exact Tri.allR (m := 15) (n := 110) (codeOK _) (tk5 n f i B p4 c (T 0) (T 1) (T 2) (T 3) (T 4) (T 5) (T 6) (T 7) np N ps rows xs (vT 0 s0) (vT 1 s1) .nilp n0 n1 n2 (oT B p4 0 s0) (oP 0 s0) (oT B p4 1 s1) (oP 1 s1) (some (tk .nilf B p4 2 w b e kk (.ptr 13 0) ce)) (some (pu .nilf hq0 fi la 2 pw)) js (.v (.int .i64 (.lit 2))) (.v (.bool (.lit true))) hx hp4 hB hc ht0)
      (Tr.all_ok ⟨rfl, ht rfl, hd _ rfl, fun js => ⟨rfl, fun aa ww hat => drop2 (d := []) hE hT (by rfl) (by simp [length_junk]) (at_wk2 (dirty' := []) (hp' := base ps rows B p4 N xs c ((setI T 5 1) 0) ((setI T 5 1) 1) ((setI T 5 1) 2) ((setI T 5 1) 3) ((setI T 5 1) 4) ((setI T 5 1) 5) ((setI T 5 1) 6) ((setI T 5 1) 7) (vT 0 s0) (vT 1 s1) .nilp n0 n1 n2 ++ [(8, oT B p4 0 s0), (9, oP 0 s0), (10, oT B p4 1 s1), (11, oP 1 s1), (12, some (tk .nilf B p4 2 w b e kk (.ptr 13 0) ce)), (13, some (pu .nilf hq0 fi la 2 pw))]) (by repeat' (first | exact trivial | refine ⟨.inl rfl, ?_⟩ | refine ⟨.inr ⟨_, _, _, rfl, rfl, (by (repeat' apply And.intro) <;> first | rfl | trivial)⟩, ?_⟩)) hat)⟩⟩)
  · refine Tri.preE fun aa ww hat => ⟨_, at_tm (p' := pre n np f i ++ [.v (.int .i64 (.lit 2)), .v (.bool (.lit true)), .v (.int .i64 (.lit 6))]) (by (repeat' apply And.intro) <;> first | rfl | trivial) hat, ?_⟩
    exact Tri.allR (m := 15) (n := 110) (codeOK _) (tk6 n f i B p4 c (T 0) (T 1) (T 2) (T 3) (T 4) (T 5) (T 6) (T 7) np N ps rows xs (vT 0 s0) (vT 1 s1) .nilp n0 n1 n2 (oT B p4 0 s0) (oP 0 s0) (oT B p4 1 s1) (oP 1 s1) (some (tk .nilf B p4 2 w b e kk (.ptr 13 0) ce)) (some (pu .nilf hq0 fi la 2 pw)) js (.v (.int .i64 (.lit 2))) (.v (.bool (.lit true))) hx hp4 hB hc ht0)
      (Tr.all_ok ⟨rfl, ht rfl, hd _ rfl, fun js => ⟨rfl, fun aa ww hat => drop2 (d := []) hE hT (by rfl) (by simp [length_junk]) (at_wk2 (dirty' := []) (hp' := base ps rows B p4 N xs c ((setI T 6 1) 0) ((setI T 6 1) 1) ((setI T 6 1) 2) ((setI T 6 1) 3) ((setI T 6 1) 4) ((setI T 6 1) 5) ((setI T 6 1) 6) ((setI T 6 1) 7) (vT 0 s0) (vT 1 s1) .nilp n0 n1 n2 ++ [(8, oT B p4 0 s0), (9, oP 0 s0), (10, oT B p4 1 s1), (11, oP 1 s1), (12, some (tk .nilf B p4 2 w b e kk (.ptr 13 0) ce)), (13, some (pu .nilf hq0 fi la 2 pw))]) (by repeat' (first | exact trivial | refine ⟨.inl rfl, ?_⟩ | refine ⟨.inr ⟨_, _, _, rfl, rfl, (by (repeat' apply And.intro) <;> first | rfl | trivial)⟩, ?_⟩)) hat)⟩⟩)
  · refine Tri.preE fun aa ww hat => ⟨_, at_tm (p' := pre n np f i ++ [.v (.int .i64 (.lit 2)), .v (.bool (.lit true)), .v (.int .i64 (.lit 7))]) (by (repeat' apply And.intro) <;> first | rfl | trivial) hat, ?_⟩
    exact Tri.allR (m := 15) (n := 110) (codeOK _) (tk7 n f i B p4 c (T 0) (T 1) (T 2) (T 3) (T 4) (T 5) (T 6) (T 7) np N ps rows xs (vT 0 s0) (vT 1 s1) .nilp n0 n1 n2 (oT B p4 0 s0) (oP 0 s0) (oT B p4 1 s1) (oP 1 s1) (some (tk .nilf B p4 2 w b e kk (.ptr 13 0) ce)) (some (pu .nilf hq0 fi la 2 pw)) js (.v (.int .i64 (.lit 2))) (.v (.bool (.lit true))) hx hp4 hB hc ht0)
      (Tr.all_ok ⟨rfl, ht rfl, hd _ rfl, fun js => ⟨rfl, fun aa ww hat => drop2 (d := []) hE hT (by rfl) (by simp [length_junk]) (at_wk2 (dirty' := []) (hp' := base ps rows B p4 N xs c ((setI T 7 1) 0) ((setI T 7 1) 1) ((setI T 7 1) 2) ((setI T 7 1) 3) ((setI T 7 1) 4) ((setI T 7 1) 5) ((setI T 7 1) 6) ((setI T 7 1) 7) (vT 0 s0) (vT 1 s1) .nilp n0 n1 n2 ++ [(8, oT B p4 0 s0), (9, oP 0 s0), (10, oT B p4 1 s1), (11, oP 1 s1), (12, some (tk .nilf B p4 2 w b e kk (.ptr 13 0) ce)), (13, some (pu .nilf hq0 fi la 2 pw))]) (by repeat' (first | exact trivial | refine ⟨.inl rfl, ?_⟩ | refine ⟨.inr ⟨_, _, _, rfl, rfl, (by (repeat' apply And.intro) <;> first | rfl | trivial)⟩, ?_⟩)) hat)⟩⟩)
theorem nilN0 (hc9 : c ≤ 90000) (hn : n0 = false) (hm : decide (W (mAt (List.getD xs 2 0) - 1) < 0) = true) (s1 s2 : TK) (js : Nat → SV) : Tri MS Try.prog E stc
    ⟨pre n np f i ++ [.v (.int .i64 (.lit 0))] ++ junk js 109 16, base ps rows B p4 N xs c t0 t1 t2 t3 t4 t5 t6 t7 (vT 0 (.nil)) (vT 1 s1) (vT 2 s2) n0 n1 n2 ++ six B p4 (.nil) s1 s2, 14, []⟩
    fun x st => x = .exit 1 ∧ ∃ js, st = S n np f i ps rows B p4 N xs (c + 1) t0 t1 t2 t3 t4 t5 t6 t7 (.nil) s1 s2 true n1 n2 js := by
  have hd : ∀ (l : List Nat), l.all (Nat.ble 1) = true → ∀ b, b ∈ l → E.D b := fun l hl b hb => hD b (Nat.le_of_ble_eq_true (List.all_eq_true.1 hl b hb))
  have ht : ∀ {k : Nat}, Nat.ble k 30 = true → k ≤ E.top := fun h => by rw [hT]; exact Nat.le_of_ble_eq_true h
  refine Tri.preHp (hp' := base ps rows B p4 N (xs) (c) t0 t1 t2 t3 t4 t5 t6 t7 .nilp (vT 1 s1) (vT 2 s2) n0 n1 n2 ++ [(10, oT B p4 1 s1), (11, oP 1 s1), (12, oT B p4 2 s2), (13, oP 2 s2)]) (fun q => (hget_none (l1 := base ps rows B p4 N (xs) (c) t0 t1 t2 t3 t4 t5 t6 t7 .nilp (vT 1 s1) (vT 2 s2) n0 n1 n2 ++ []) (n := 8) (l2 := [(9, none), (10, oT B p4 1 s1), (11, oP 1 s1), (12, oT B p4 2 s2), (13, oP 2 s2)]) rfl q).trans (hget_none (l1 := base ps rows B p4 N (xs) (c) t0 t1 t2 t3 t4 t5 t6 t7 .nilp (vT 1 s1) (vT 2 s2) n0 n1 n2 ++ []) (n := 9) (l2 := [(10, oT B p4 1 s1), (11, oP 1 s1), (12, oT B p4 2 s2), (13, oP 2 s2)]) rfl q)) ?_
  refine Tri.listR (m := 17) (n := 108) (l := [qt [true, true, false], qt [true, true, true, false], qt [true, true, true, true, false], qt [true, true, true, true, true, false]]) (c' := .seq (qt [true, true, true, true, true, true, false]) (qt [true, true, true, true, true, true, true])) codeOK 4 rfl rfl
    (s0nil n f i B p4 c t0 t1 t2 t3 t4 t5 t6 t7 np N ps rows xs (vT 1 s1) (vT 2 s2) n0 n1 n2 (oT B p4 1 s1) (oP 1 s1) (oT B p4 2 s2) (oP 2 s2) js hx hp4 hB hc hn) (Tr.all_ite (fun _ => Tr.all_ok ⟨rfl, rfl, ht rfl, hd _ rfl, fun js => ?_⟩) fun hq => absurd hq (by rw [hm]; decide))
  refine Tri.preE fun aa ww hat => let ⟨js', hat'⟩ := bornD0 (n := n) (np := np) (f := f) (i := i) (xs := xs) (c := c + 1) (w := xs.getD 2 0) (b := W (mAt (xs.getD 2 0) - 1)) (s1 := s1) (s2 := s2) (kI := 0) (dn := true) (js := js) hE hT hat; ⟨_, hat', ?_⟩
  exact doneN0 E hE hT hD (c := c + 1) hx hp4 hB (by omega) s1 s2 _
theorem loadN0 {w b e kk : Int} (hc9 : c ≤ 90000) (hn : n0 = false) (hm : decide (W (mAt (List.getD xs 2 0) - 1) < 0) = true) (s1 s2 : TK) (js : Nat → SV) : Tri MS Try.prog E stc
    ⟨pre n np f i ++ [.v (.int .i64 (.lit 0))] ++ junk js 109 16, base ps rows B p4 N xs c t0 t1 t2 t3 t4 t5 t6 t7 (vT 0 (.load w b e kk)) (vT 1 s1) (vT 2 s2) n0 n1 n2 ++ six B p4 (.load w b e kk) s1 s2, 14, []⟩
    fun x st => x = .exit 1 ∧ ∃ js, st = S n np f i ps rows B p4 N xs (c + 1) t0 t1 t2 t3 t4 t5 t6 t7 (.nil) s1 s2 true n1 n2 js := by
  have hd : ∀ (l : List Nat), l.all (Nat.ble 1) = true → ∀ b, b ∈ l → E.D b := fun l hl b hb => hD b (Nat.le_of_ble_eq_true (List.all_eq_true.1 hl b hb))
  have ht : ∀ {k : Nat}, Nat.ble k 30 = true → k ≤ E.top := fun h => by rw [hT]; exact Nat.le_of_ble_eq_true h
  refine Tri.preHp (hp' := base ps rows B p4 N (xs) (c) t0 t1 t2 t3 t4 t5 t6 t7 (.ptr 8 0) (vT 1 s1) (vT 2 s2) n0 n1 n2 ++ [(8, oT B p4 0 (.load w b e kk)), (10, oT B p4 1 s1), (11, oP 1 s1), (12, oT B p4 2 s2), (13, oP 2 s2)]) (fun q => hget_none (l1 := base ps rows B p4 N (xs) (c) t0 t1 t2 t3 t4 t5 t6 t7 (.ptr 8 0) (vT 1 s1) (vT 2 s2) n0 n1 n2 ++ [(8, oT B p4 0 (.load w b e kk))]) (n := 9) (l2 := [(10, oT B p4 1 s1), (11, oP 1 s1), (12, oT B p4 2 s2), (13, oP 2 s2)]) rfl q) ?_
  refine Tri.listR (m := 17) (n := 108) (l := [qt [true, true, false], qt [true, true, true, false], qt [true, true, true, true, false], qt [true, true, true, true, true, false]]) (c' := .seq (qt [true, true, true, true, true, true, false]) (qt [true, true, true, true, true, true, true])) codeOK 4 rfl rfl
    (s0load n f i B p4 c t0 t1 t2 t3 t4 t5 t6 t7 w b e kk 0 np N ps rows xs (vT 1 s1) (vT 2 s2) n0 n1 n2 (oT B p4 1 s1) (oP 1 s1) (oT B p4 2 s2) (oP 2 s2) js hx hp4 hB hc hn) (Tr.all_ite (fun _ => Tr.all_ok ⟨rfl, rfl, ht rfl, hd _ rfl, fun js => ?_⟩) fun hq => absurd hq (by rw [hm]; decide))
  refine Tri.preHp (hp' := base ps rows B p4 N (xs) (c + 1) t0 t1 t2 t3 t4 t5 t6 t7 (.ptr 8 0) (vT 1 s1) (vT 2 s2) n0 n1 n2 ++ [(8, some (tk .nilf B p4 0 (xs.getD 2 0) (W (mAt (xs.getD 2 0) - 1)) e kk .nilp 0)), (9, none), (10, oT B p4 1 s1), (11, oP 1 s1), (12, oT B p4 2 s2), (13, oP 2 s2)]) (fun q => (hget_none (l1 := base ps rows B p4 N (xs) (c + 1) t0 t1 t2 t3 t4 t5 t6 t7 (.ptr 8 0) (vT 1 s1) (vT 2 s2) n0 n1 n2 ++ [(8, some (tk .nilf B p4 0 (xs.getD 2 0) (W (mAt (xs.getD 2 0) - 1)) e kk .nilp 0))]) (n := 9) (l2 := [(10, oT B p4 1 s1), (11, oP 1 s1), (12, oT B p4 2 s2), (13, oP 2 s2)]) rfl q).symm) ?_
  exact doneN0 E hE hT hD (c := c + 1) hx hp4 hB (by omega) s1 s2 _
theorem layswap0 {T : Int → Int} {w b e kk fi la pw : Int} (hc9 : c ≤ 90000) (hn : n0 = false) (hb2 : 0 ≤ b ∧ b < B) (hl : 32 ≤ la ∧ la < 32 + 32 * B) (hw : xs.getD 3 0 = pw) (ht0 : T b = 0) (s1 s2 : TK) (js : Nat → SV) : Tri MS Try.prog E stc
    ⟨pre n np f i ++ [.v (.int .i64 (.lit 0))] ++ junk js 109 16, base ps rows B p4 N xs c (T 0) (T 1) (T 2) (T 3) (T 4) (T 5) (T 6) (T 7) (vT 0 (.lay 2 w b e kk fi la pw)) (vT 1 s1) (vT 2 s2) n0 n1 n2 ++ six B p4 (.lay 2 w b e kk fi la pw) s1 s2, 14, []⟩
    fun x st => x = .normal ∧ ∃ js, st = S n np (W (f + 1)) i ps rows B p4 N (xs.set 3 (mNext pw fi)) (c + 1) ((setI T b 1) 0) ((setI T b 1) 1) ((setI T b 1) 2) ((setI T b 1) 3) ((setI T b 1) 4) ((setI T b 1) 5) ((setI T b 1) 6) ((setI T b 1) 7) (.nil) s1 s2 n0 n1 n2 js := by
  have hd : ∀ (l : List Nat), l.all (Nat.ble 1) = true → ∀ b, b ∈ l → E.D b := fun l hl b hb => hD b (Nat.le_of_ble_eq_true (List.all_eq_true.1 hl b hb))
  have ht : ∀ {k : Nat}, Nat.ble k 30 = true → k ≤ E.top := fun h => by rw [hT]; exact Nat.le_of_ble_eq_true h
  have e1 : W (W (32 + W (32 * b)) + W 0) = 32 + 32 * b := by simp only [W, wrap64]; omega
  have e2 : b = RB.mBlk 32 p4 (W (W (32 + W (32 * b)) + W 0)) := by
    rw [e1]; unfold RB.mBlk; rw [if_neg (by omega)]; omega
  refine Tri.listR (m := 17) (n := 108) (l := [qt [true, true, false], qt [true, true, true, false], qt [true, true, true, true, false], qt [true, true, true, true, true, false]]) (c' := .seq (qt [true, true, true, true, true, true, false]) (qt [true, true, true, true, true, true, true])) codeOK 4 rfl rfl
    (s0layswap n f i B p4 c (T 0) (T 1) (T 2) (T 3) (T 4) (T 5) (T 6) (T 7) w b e kk 0 3 fi la pw np N ps rows xs (vT 1 s1) (vT 2 s2) n0 n1 n2 (oT B p4 1 s1) (oP 1 s1) (oT B p4 2 s2) (oP 2 s2) js hx hp4 hB hc hn hb2 rfl hl (by rw [beq_iff_eq]; exact hw)) (Tr.all_ok ⟨rfl, rfl, ht rfl, hd _ rfl, fun js => ?_⟩)
  exact doneP0 E hE hT hD (c := c + 1) (xs := xs.set 3 (mNext pw fi)) (by rw [List.length_set]; exact hx) hp4 hB (by omega) e2 (by omega) ht0 s1 s2 _
theorem nilN1 (hc9 : c ≤ 90000) (hn : n1 = false) (hm : decide (W (mAt (List.getD xs 2 0) - 1) < 0) = true) (s0 s2 : TK) (js : Nat → SV) : Tri MS Try.prog E stc
    ⟨pre n np f i ++ [.v (.int .i64 (.lit 1))] ++ junk js 109 16, base ps rows B p4 N xs c t0 t1 t2 t3 t4 t5 t6 t7 (vT 0 s0) (vT 1 (.nil)) (vT 2 s2) n0 n1 n2 ++ six B p4 s0 (.nil) s2, 14, []⟩
    fun x st => x = .exit 1 ∧ ∃ js, st = S n np f i ps rows B p4 N xs (c + 1) t0 t1 t2 t3 t4 t5 t6 t7 s0 (.nil) s2 n0 true n2 js := by
  have hd : ∀ (l : List Nat), l.all (Nat.ble 1) = true → ∀ b, b ∈ l → E.D b := fun l hl b hb => hD b (Nat.le_of_ble_eq_true (List.all_eq_true.1 hl b hb))
  have ht : ∀ {k : Nat}, Nat.ble k 30 = true → k ≤ E.top := fun h => by rw [hT]; exact Nat.le_of_ble_eq_true h
  refine Tri.preHp (hp' := base ps rows B p4 N (xs) (c) t0 t1 t2 t3 t4 t5 t6 t7 (vT 0 s0) .nilp (vT 2 s2) n0 n1 n2 ++ [(8, oT B p4 0 s0), (9, oP 0 s0), (12, oT B p4 2 s2), (13, oP 2 s2)]) (fun q => (hget_none (l1 := base ps rows B p4 N (xs) (c) t0 t1 t2 t3 t4 t5 t6 t7 (vT 0 s0) .nilp (vT 2 s2) n0 n1 n2 ++ [(8, oT B p4 0 s0), (9, oP 0 s0)]) (n := 10) (l2 := [(11, none), (12, oT B p4 2 s2), (13, oP 2 s2)]) rfl q).trans (hget_none (l1 := base ps rows B p4 N (xs) (c) t0 t1 t2 t3 t4 t5 t6 t7 (vT 0 s0) .nilp (vT 2 s2) n0 n1 n2 ++ [(8, oT B p4 0 s0), (9, oP 0 s0)]) (n := 11) (l2 := [(12, oT B p4 2 s2), (13, oP 2 s2)]) rfl q)) ?_
  refine Tri.listR (m := 17) (n := 108) (l := [qt [true, true, false], qt [true, true, true, false], qt [true, true, true, true, false], qt [true, true, true, true, true, false]]) (c' := .seq (qt [true, true, true, true, true, true, false]) (qt [true, true, true, true, true, true, true])) codeOK 4 rfl rfl
    (s1nil n f i B p4 c t0 t1 t2 t3 t4 t5 t6 t7 np N ps rows xs (vT 0 s0) (vT 2 s2) n0 n1 n2 (oT B p4 0 s0) (oP 0 s0) (oT B p4 2 s2) (oP 2 s2) js hx hp4 hB hc hn) (Tr.all_ite (fun _ => Tr.all_ok ⟨rfl, rfl, ht rfl, hd _ rfl, fun js => ?_⟩) fun hq => absurd hq (by rw [hm]; decide))
  refine Tri.preE fun aa ww hat => let ⟨js', hat'⟩ := bornD1 (n := n) (np := np) (f := f) (i := i) (xs := xs) (c := c + 1) (w := xs.getD 2 0) (b := W (mAt (xs.getD 2 0) - 1)) (s0 := s0) (s2 := s2) (kI := 1) (dn := true) (js := js) hE hT hat; ⟨_, hat', ?_⟩
  exact doneN1 E hE hT hD (c := c + 1) hx hp4 hB (by omega) s0 s2 _
theorem loadN1 {w b e kk : Int} (hc9 : c ≤ 90000) (hn : n1 = false) (hm : decide (W (mAt (List.getD xs 2 0) - 1) < 0) = true) (s0 s2 : TK) (js : Nat → SV) : Tri MS Try.prog E stc
    ⟨pre n np f i ++ [.v (.int .i64 (.lit 1))] ++ junk js 109 16, base ps rows B p4 N xs c t0 t1 t2 t3 t4 t5 t6 t7 (vT 0 s0) (vT 1 (.load w b e kk)) (vT 2 s2) n0 n1 n2 ++ six B p4 s0 (.load w b e kk) s2, 14, []⟩
    fun x st => x = .exit 1 ∧ ∃ js, st = S n np f i ps rows B p4 N xs (c + 1) t0 t1 t2 t3 t4 t5 t6 t7 s0 (.nil) s2 n0 true n2 js := by
  have hd : ∀ (l : List Nat), l.all (Nat.ble 1) = true → ∀ b, b ∈ l → E.D b := fun l hl b hb => hD b (Nat.le_of_ble_eq_true (List.all_eq_true.1 hl b hb))
  have ht : ∀ {k : Nat}, Nat.ble k 30 = true → k ≤ E.top := fun h => by rw [hT]; exact Nat.le_of_ble_eq_true h
  refine Tri.preHp (hp' := base ps rows B p4 N (xs) (c) t0 t1 t2 t3 t4 t5 t6 t7 (vT 0 s0) (.ptr 10 0) (vT 2 s2) n0 n1 n2 ++ [(8, oT B p4 0 s0), (9, oP 0 s0), (10, oT B p4 1 (.load w b e kk)), (12, oT B p4 2 s2), (13, oP 2 s2)]) (fun q => hget_none (l1 := base ps rows B p4 N (xs) (c) t0 t1 t2 t3 t4 t5 t6 t7 (vT 0 s0) (.ptr 10 0) (vT 2 s2) n0 n1 n2 ++ [(8, oT B p4 0 s0), (9, oP 0 s0), (10, oT B p4 1 (.load w b e kk))]) (n := 11) (l2 := [(12, oT B p4 2 s2), (13, oP 2 s2)]) rfl q) ?_
  refine Tri.listR (m := 17) (n := 108) (l := [qt [true, true, false], qt [true, true, true, false], qt [true, true, true, true, false], qt [true, true, true, true, true, false]]) (c' := .seq (qt [true, true, true, true, true, true, false]) (qt [true, true, true, true, true, true, true])) codeOK 4 rfl rfl
    (s1load n f i B p4 c t0 t1 t2 t3 t4 t5 t6 t7 w b e kk 0 np N ps rows xs (vT 0 s0) (vT 2 s2) n0 n1 n2 (oT B p4 0 s0) (oP 0 s0) (oT B p4 2 s2) (oP 2 s2) js hx hp4 hB hc hn) (Tr.all_ite (fun _ => Tr.all_ok ⟨rfl, rfl, ht rfl, hd _ rfl, fun js => ?_⟩) fun hq => absurd hq (by rw [hm]; decide))
  refine Tri.preHp (hp' := base ps rows B p4 N (xs) (c + 1) t0 t1 t2 t3 t4 t5 t6 t7 (vT 0 s0) (.ptr 10 0) (vT 2 s2) n0 n1 n2 ++ [(8, oT B p4 0 s0), (9, oP 0 s0), (10, some (tk .nilf B p4 1 (xs.getD 2 0) (W (mAt (xs.getD 2 0) - 1)) e kk .nilp 0)), (11, none), (12, oT B p4 2 s2), (13, oP 2 s2)]) (fun q => (hget_none (l1 := base ps rows B p4 N (xs) (c + 1) t0 t1 t2 t3 t4 t5 t6 t7 (vT 0 s0) (.ptr 10 0) (vT 2 s2) n0 n1 n2 ++ [(8, oT B p4 0 s0), (9, oP 0 s0), (10, some (tk .nilf B p4 1 (xs.getD 2 0) (W (mAt (xs.getD 2 0) - 1)) e kk .nilp 0))]) (n := 11) (l2 := [(12, oT B p4 2 s2), (13, oP 2 s2)]) rfl q).symm) ?_
  exact doneN1 E hE hT hD (c := c + 1) hx hp4 hB (by omega) s0 s2 _
theorem layswap1 {T : Int → Int} {w b e kk fi la pw : Int} (hc9 : c ≤ 90000) (hn : n1 = false) (hb2 : 0 ≤ b ∧ b < B) (hl : 32 ≤ la ∧ la < 32 + 32 * B) (hw : xs.getD 4 0 = pw) (ht0 : T b = 0) (s0 s2 : TK) (js : Nat → SV) : Tri MS Try.prog E stc
    ⟨pre n np f i ++ [.v (.int .i64 (.lit 1))] ++ junk js 109 16, base ps rows B p4 N xs c (T 0) (T 1) (T 2) (T 3) (T 4) (T 5) (T 6) (T 7) (vT 0 s0) (vT 1 (.lay 2 w b e kk fi la pw)) (vT 2 s2) n0 n1 n2 ++ six B p4 s0 (.lay 2 w b e kk fi la pw) s2, 14, []⟩
    fun x st => x = .normal ∧ ∃ js, st = S n np (W (f + 1)) i ps rows B p4 N (xs.set 4 (mNext pw fi)) (c + 1) ((setI T b 1) 0) ((setI T b 1) 1) ((setI T b 1) 2) ((setI T b 1) 3) ((setI T b 1) 4) ((setI T b 1) 5) ((setI T b 1) 6) ((setI T b 1) 7) s0 (.nil) s2 n0 n1 n2 js := by
  have hd : ∀ (l : List Nat), l.all (Nat.ble 1) = true → ∀ b, b ∈ l → E.D b := fun l hl b hb => hD b (Nat.le_of_ble_eq_true (List.all_eq_true.1 hl b hb))
  have ht : ∀ {k : Nat}, Nat.ble k 30 = true → k ≤ E.top := fun h => by rw [hT]; exact Nat.le_of_ble_eq_true h
  have e1 : W (W (32 + W (32 * b)) + W 0) = 32 + 32 * b := by simp only [W, wrap64]; omega
  have e2 : b = RB.mBlk 32 p4 (W (W (32 + W (32 * b)) + W 0)) := by
    rw [e1]; unfold RB.mBlk; rw [if_neg (by omega)]; omega
  refine Tri.listR (m := 17) (n := 108) (l := [qt [true, true, false], qt [true, true, true, false], qt [true, true, true, true, false], qt [true, true, true, true, true, false]]) (c' := .seq (qt [true, true, true, true, true, true, false]) (qt [true, true, true, true, true, true, true])) codeOK 4 rfl rfl
    (s1layswap n f i B p4 c (T 0) (T 1) (T 2) (T 3) (T 4) (T 5) (T 6) (T 7) w b e kk 0 4 fi la pw np N ps rows xs (vT 0 s0) (vT 2 s2) n0 n1 n2 (oT B p4 0 s0) (oP 0 s0) (oT B p4 2 s2) (oP 2 s2) js hx hp4 hB hc hn hb2 rfl hl (by rw [beq_iff_eq]; exact hw)) (Tr.all_ok ⟨rfl, rfl, ht rfl, hd _ rfl, fun js => ?_⟩)
  exact doneP1 E hE hT hD (c := c + 1) (xs := xs.set 4 (mNext pw fi)) (by rw [List.length_set]; exact hx) hp4 hB (by omega) e2 (by omega) ht0 s0 s2 _
theorem nilN2 (hc9 : c ≤ 90000) (hn : n2 = false) (hm : decide (W (mAt (List.getD xs 2 0) - 1) < 0) = true) (s0 s1 : TK) (js : Nat → SV) : Tri MS Try.prog E stc
    ⟨pre n np f i ++ [.v (.int .i64 (.lit 2))] ++ junk js 109 16, base ps rows B p4 N xs c t0 t1 t2 t3 t4 t5 t6 t7 (vT 0 s0) (vT 1 s1) (vT 2 (.nil)) n0 n1 n2 ++ six B p4 s0 s1 (.nil), 14, []⟩
    fun x st => x = .exit 1 ∧ ∃ js, st = S n np f i ps rows B p4 N xs (c + 1) t0 t1 t2 t3 t4 t5 t6 t7 s0 s1 (.nil) n0 n1 true js := by
  have hd : ∀ (l : List Nat), l.all (Nat.ble 1) = true → ∀ b, b ∈ l → E.D b := fun l hl b hb => hD b (Nat.le_of_ble_eq_true (List.all_eq_true.1 hl b hb))
  have ht : ∀ {k : Nat}, Nat.ble k 30 = true → k ≤ E.top := fun h => by rw [hT]; exact Nat.le_of_ble_eq_true h
  refine Tri.preHp (hp' := base ps rows B p4 N (xs) (c) t0 t1 t2 t3 t4 t5 t6 t7 (vT 0 s0) (vT 1 s1) .nilp n0 n1 n2 ++ [(8, oT B p4 0 s0), (9, oP 0 s0), (10, oT B p4 1 s1), (11, oP 1 s1)]) (fun q => (hget_none (l1 := base ps rows B p4 N (xs) (c) t0 t1 t2 t3 t4 t5 t6 t7 (vT 0 s0) (vT 1 s1) .nilp n0 n1 n2 ++ [(8, oT B p4 0 s0), (9, oP 0 s0), (10, oT B p4 1 s1), (11, oP 1 s1)]) (n := 12) (l2 := [(13, none)]) rfl q).trans (hget_none (l1 := base ps rows B p4 N (xs) (c) t0 t1 t2 t3 t4 t5 t6 t7 (vT 0 s0) (vT 1 s1) .nilp n0 n1 n2 ++ [(8, oT B p4 0 s0), (9, oP 0 s0), (10, oT B p4 1 s1), (11, oP 1 s1)]) (n := 13) (l2 := []) rfl q)) ?_
  refine Tri.listR (m := 17) (n := 108) (l := [qt [true, true, false], qt [true, true, true, false], qt [true, true, true, true, false], qt [true, true, true, true, true, false]]) (c' := .seq (qt [true, true, true, true, true, true, false]) (qt [true, true, true, true, true, true, true])) codeOK 4 rfl rfl
    (s2nil n f i B p4 c t0 t1 t2 t3 t4 t5 t6 t7 np N ps rows xs (vT 0 s0) (vT 1 s1) n0 n1 n2 (oT B p4 0 s0) (oP 0 s0) (oT B p4 1 s1) (oP 1 s1) js hx hp4 hB hc hn) (Tr.all_ite (fun _ => Tr.all_ok ⟨rfl, rfl, ht rfl, hd _ rfl, fun js => ?_⟩) fun hq => absurd hq (by rw [hm]; decide))
  refine Tri.preE fun aa ww hat => let ⟨js', hat'⟩ := bornD2 (n := n) (np := np) (f := f) (i := i) (xs := xs) (c := c + 1) (w := xs.getD 2 0) (b := W (mAt (xs.getD 2 0) - 1)) (s0 := s0) (s1 := s1) (kI := 2) (dn := true) (js := js) hE hT hat; ⟨_, hat', ?_⟩
  exact doneN2 E hE hT hD (c := c + 1) hx hp4 hB (by omega) s0 s1 _
theorem loadN2 {w b e kk : Int} (hc9 : c ≤ 90000) (hn : n2 = false) (hm : decide (W (mAt (List.getD xs 2 0) - 1) < 0) = true) (s0 s1 : TK) (js : Nat → SV) : Tri MS Try.prog E stc
    ⟨pre n np f i ++ [.v (.int .i64 (.lit 2))] ++ junk js 109 16, base ps rows B p4 N xs c t0 t1 t2 t3 t4 t5 t6 t7 (vT 0 s0) (vT 1 s1) (vT 2 (.load w b e kk)) n0 n1 n2 ++ six B p4 s0 s1 (.load w b e kk), 14, []⟩
    fun x st => x = .exit 1 ∧ ∃ js, st = S n np f i ps rows B p4 N xs (c + 1) t0 t1 t2 t3 t4 t5 t6 t7 s0 s1 (.nil) n0 n1 true js := by
  have hd : ∀ (l : List Nat), l.all (Nat.ble 1) = true → ∀ b, b ∈ l → E.D b := fun l hl b hb => hD b (Nat.le_of_ble_eq_true (List.all_eq_true.1 hl b hb))
  have ht : ∀ {k : Nat}, Nat.ble k 30 = true → k ≤ E.top := fun h => by rw [hT]; exact Nat.le_of_ble_eq_true h
  refine Tri.preHp (hp' := base ps rows B p4 N (xs) (c) t0 t1 t2 t3 t4 t5 t6 t7 (vT 0 s0) (vT 1 s1) (.ptr 12 0) n0 n1 n2 ++ [(8, oT B p4 0 s0), (9, oP 0 s0), (10, oT B p4 1 s1), (11, oP 1 s1), (12, oT B p4 2 (.load w b e kk))]) (fun q => hget_none (l1 := base ps rows B p4 N (xs) (c) t0 t1 t2 t3 t4 t5 t6 t7 (vT 0 s0) (vT 1 s1) (.ptr 12 0) n0 n1 n2 ++ [(8, oT B p4 0 s0), (9, oP 0 s0), (10, oT B p4 1 s1), (11, oP 1 s1), (12, oT B p4 2 (.load w b e kk))]) (n := 13) (l2 := []) rfl q) ?_
  refine Tri.listR (m := 17) (n := 108) (l := [qt [true, true, false], qt [true, true, true, false], qt [true, true, true, true, false], qt [true, true, true, true, true, false]]) (c' := .seq (qt [true, true, true, true, true, true, false]) (qt [true, true, true, true, true, true, true])) codeOK 4 rfl rfl
    (s2load n f i B p4 c t0 t1 t2 t3 t4 t5 t6 t7 w b e kk 0 np N ps rows xs (vT 0 s0) (vT 1 s1) n0 n1 n2 (oT B p4 0 s0) (oP 0 s0) (oT B p4 1 s1) (oP 1 s1) js hx hp4 hB hc hn) (Tr.all_ite (fun _ => Tr.all_ok ⟨rfl, rfl, ht rfl, hd _ rfl, fun js => ?_⟩) fun hq => absurd hq (by rw [hm]; decide))
  refine Tri.preHp (hp' := base ps rows B p4 N (xs) (c + 1) t0 t1 t2 t3 t4 t5 t6 t7 (vT 0 s0) (vT 1 s1) (.ptr 12 0) n0 n1 n2 ++ [(8, oT B p4 0 s0), (9, oP 0 s0), (10, oT B p4 1 s1), (11, oP 1 s1), (12, some (tk .nilf B p4 2 (xs.getD 2 0) (W (mAt (xs.getD 2 0) - 1)) e kk .nilp 0)), (13, none)]) (fun q => (hget_none (l1 := base ps rows B p4 N (xs) (c + 1) t0 t1 t2 t3 t4 t5 t6 t7 (vT 0 s0) (vT 1 s1) (.ptr 12 0) n0 n1 n2 ++ [(8, oT B p4 0 s0), (9, oP 0 s0), (10, oT B p4 1 s1), (11, oP 1 s1), (12, some (tk .nilf B p4 2 (xs.getD 2 0) (W (mAt (xs.getD 2 0) - 1)) e kk .nilp 0))]) (n := 13) (l2 := []) rfl q).symm) ?_
  exact doneN2 E hE hT hD (c := c + 1) hx hp4 hB (by omega) s0 s1 _
theorem layswap2 {T : Int → Int} {w b e kk fi la pw : Int} (hc9 : c ≤ 90000) (hn : n2 = false) (hb2 : 0 ≤ b ∧ b < B) (hl : 32 ≤ la ∧ la < 32 + 32 * B) (hw : xs.getD 5 0 = pw) (ht0 : T b = 0) (s0 s1 : TK) (js : Nat → SV) : Tri MS Try.prog E stc
    ⟨pre n np f i ++ [.v (.int .i64 (.lit 2))] ++ junk js 109 16, base ps rows B p4 N xs c (T 0) (T 1) (T 2) (T 3) (T 4) (T 5) (T 6) (T 7) (vT 0 s0) (vT 1 s1) (vT 2 (.lay 2 w b e kk fi la pw)) n0 n1 n2 ++ six B p4 s0 s1 (.lay 2 w b e kk fi la pw), 14, []⟩
    fun x st => x = .normal ∧ ∃ js, st = S n np (W (f + 1)) i ps rows B p4 N (xs.set 5 (mNext pw fi)) (c + 1) ((setI T b 1) 0) ((setI T b 1) 1) ((setI T b 1) 2) ((setI T b 1) 3) ((setI T b 1) 4) ((setI T b 1) 5) ((setI T b 1) 6) ((setI T b 1) 7) s0 s1 (.nil) n0 n1 n2 js := by
  have hd : ∀ (l : List Nat), l.all (Nat.ble 1) = true → ∀ b, b ∈ l → E.D b := fun l hl b hb => hD b (Nat.le_of_ble_eq_true (List.all_eq_true.1 hl b hb))
  have ht : ∀ {k : Nat}, Nat.ble k 30 = true → k ≤ E.top := fun h => by rw [hT]; exact Nat.le_of_ble_eq_true h
  have e1 : W (W (32 + W (32 * b)) + W 0) = 32 + 32 * b := by simp only [W, wrap64]; omega
  have e2 : b = RB.mBlk 32 p4 (W (W (32 + W (32 * b)) + W 0)) := by
    rw [e1]; unfold RB.mBlk; rw [if_neg (by omega)]; omega
  refine Tri.listR (m := 17) (n := 108) (l := [qt [true, true, false], qt [true, true, true, false], qt [true, true, true, true, false], qt [true, true, true, true, true, false]]) (c' := .seq (qt [true, true, true, true, true, true, false]) (qt [true, true, true, true, true, true, true])) codeOK 4 rfl rfl
    (s2layswap n f i B p4 c (T 0) (T 1) (T 2) (T 3) (T 4) (T 5) (T 6) (T 7) w b e kk 0 5 fi la pw np N ps rows xs (vT 0 s0) (vT 1 s1) n0 n1 n2 (oT B p4 0 s0) (oP 0 s0) (oT B p4 1 s1) (oP 1 s1) js hx hp4 hB hc hn hb2 rfl hl (by rw [beq_iff_eq]; exact hw)) (Tr.all_ok ⟨rfl, rfl, ht rfl, hd _ rfl, fun js => ?_⟩)
  exact doneP2 E hE hT hD (c := c + 1) (xs := xs.set 5 (mNext pw fi)) (by rw [List.length_set]; exact hx) hp4 hB (by omega) e2 (by omega) ht0 s0 s1 _
end
end Go.Proofs.Ytmegnipdeanghaa.CarveOnce
