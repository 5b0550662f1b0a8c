/-
  CarveOnce: a name that was used up is given back: the state has its names 0 to 13 again.
-/
import Derived.Test.YtmegnipdeanghaaOCarveOnce
import Derived.Test.YtmegnipdeanghaaEngZi
namespace Go.Proofs.Ytmegnipdeanghaa.CarveOnce
open Go Go.RowKit Go.Proofs.Ytmegnipdeanghaa.Eng
set_option linter.unusedVariables false
set_option linter.unusedSimpArgs false
set_option linter.unusedSectionVars false
set_option maxRecDepth 20000
abbrev r14 : List (Nat × Nat) := [(0, 0), (1, 1), (2, 2), (3, 3), (4, 4), (5, 5), (6, 6), (7, 7), (8, 8), (9, 9), (10, 10), (11, 11), (12, 12), (13, 13)]
theorem settle {n f i B p4 c t0 t1 t2 t3 t4 t5 t6 t7 : Int} {np N : Nat} {ps rows : List (List Int)} {xs : List Int} {n0 n1 n2 : Bool} {s0 s1 s2 : TK} {E : Ctx MObj} (hE : E.nid0 = 1) (hT : E.top = 30) {x15 x16 : SV} {js : Nat → SV} {nid : Nat} (hnid : 14 ≤ nid) {d : List Nat} {a : Act} {w : World}
    (h : At MS E ⟨pre n np f i ++ [x15, x16] ++ junk js 108 17, base ps rows B p4 N xs c t0 t1 t2 t3 t4 t5 t6 t7 (vT 0 s0) (vT 1 s1) (vT 2 s2) n0 n1 n2 ++ six B p4 s0 s1 s2, nid, d⟩ a w) :
    ∃ js, At MS E (S n np f i ps rows B p4 N xs c t0 t1 t2 t3 t4 t5 t6 t7 s0 s1 s2 n0 n1 n2 js) a w := by
  refine at_rename2 (m := 15) (n := 110) (nid' := 14) r14 rfl (by simp [length_junk]) rfl ?_ ?_ ?_ ?_ (by rw [hE]; decide) (by rw [hT]; decide) h
  · intro p hp x hx
    simp only [List.mem_cons, List.not_mem_nil, or_false] at hp
    rcases hp with rfl | rfl | rfl | rfl | rfl | rfl | rfl | rfl | rfl | rfl | rfl | rfl | rfl | rfl
    · exact ⟨x, by cases hx; rfl, hx⟩
    · exact ⟨x, by cases hx; rfl, hx⟩
    · exact ⟨x, by cases hx; rfl, hx⟩
    · exact ⟨x, by cases hx; rfl, hx⟩
    · exact ⟨x, by cases hx; rfl, hx⟩
    · exact ⟨x, by cases hx; rfl, hx⟩
    · exact ⟨x, by cases hx; simp only [renObj, renVVs, vT_keep (k := 0) (s := s0) (r := r14) rfl, vT_keep (k := 1) (s := s1) (r := r14) rfl, vT_keep (k := 2) (s := s2) (r := r14) rfl, Option.map_some], hx⟩
    · exact ⟨x, by cases hx; rfl, hx⟩
    · exact ⟨x, oT_keep (k := 0) rfl rfl hx, hx⟩
    · exact ⟨x, oP_keep (k := 0) hx, hx⟩
    · exact ⟨x, oT_keep (k := 1) rfl rfl hx, hx⟩
    · exact ⟨x, oP_keep (k := 1) hx, hx⟩
    · exact ⟨x, oT_keep (k := 2) rfl rfl hx, hx⟩
    · exact ⟨x, oP_keep (k := 2) hx, hx⟩
  · intro p hp hx
    simp only [List.mem_cons, List.not_mem_nil, or_false] at hp
    rcases hp with rfl | rfl | rfl | rfl | rfl | rfl | rfl | rfl | rfl | rfl | rfl | rfl | rfl | rfl <;> exact hx
  · intro b hb
    have h0 := hb (0, 0) (by simp); have h1 := hb (1, 1) (by simp); have h2 := hb (2, 2) (by simp); have h3 := hb (3, 3) (by simp); have h4 := hb (4, 4) (by simp); have h5 := hb (5, 5) (by simp); have h6 := hb (6, 6) (by simp); have h7 := hb (7, 7) (by simp); have h8 := hb (8, 8) (by simp); have h9 := hb (9, 9) (by simp); have h10 := hb (10, 10) (by simp); have h11 := hb (11, 11) (by simp); have h12 := hb (12, 12) (by simp); have h13 := hb (13, 13) (by simp)
    match b with
    | 0 => exact absurd rfl h0
    | 1 => exact absurd rfl h1
    | 2 => exact absurd rfl h2
    | 3 => exact absurd rfl h3
    | 4 => exact absurd rfl h4
    | 5 => exact absurd rfl h5
    | 6 => exact absurd rfl h6
    | 7 => exact absurd rfl h7
    | 8 => exact absurd rfl h8
    | 9 => exact absurd rfl h9
    | 10 => exact absurd rfl h10
    | 11 => exact absurd rfl h11
    | 12 => exact absurd rfl h12
    | 13 => exact absurd rfl h13
    | b + 14 => rfl
  · have hb : ∀ k, k < 14 → Nat.blt k nid = true := fun k hk => by simp only [Nat.blt_eq]; omega
    rw [hE]
    simp [chkN, nodupB, memN, hb, rfind]
    (repeat' apply And.intro) <;> rfl
theorem settle17 {n f i B p4 c t0 t1 t2 t3 t4 t5 t6 t7 : Int} {np N : Nat} {ps rows : List (List Int)} {xs : List Int} {n0 n1 n2 : Bool} {s0 s1 s2 : TK} {E : Ctx MObj} (hE : E.nid0 = 1) (hT : E.top = 30) {kI : Int} {dn : Bool} {js : Nat → SV} {nid : Nat} (hnid : 14 ≤ nid) {d : List Nat} {a : Act} {w : World}
    (h : At MS E ⟨pre n np f i ++ [.v (.int .i64 (.lit kI)), .v (.bool (.lit dn))] ++ junk js 108 17, base ps rows B p4 N xs c t0 t1 t2 t3 t4 t5 t6 t7 (vT 0 s0) (vT 1 s1) (vT 2 s2) n0 n1 n2 ++ six B p4 s0 s1 s2, nid, d⟩ a w) :
    ∃ js, At MS E ⟨pre n np f i ++ [.v (.int .i64 (.lit kI)), .v (.bool (.lit dn))] ++ junk js 108 17, base ps rows B p4 N xs c t0 t1 t2 t3 t4 t5 t6 t7 (vT 0 s0) (vT 1 s1) (vT 2 s2) n0 n1 n2 ++ six B p4 s0 s1 s2, 14, []⟩ a w := by
  refine at_rename2 (m := 17) (n := 108) (nid' := 14) r14 rfl (by simp [length_junk]) rfl ?_ ?_ ?_ ?_ (by rw [hE]; decide) (by rw [hT]; decide) h
  · intro p hp x hx
    simp only [List.mem_cons, List.not_mem_nil, or_false] at hp
    rcases hp with rfl | rfl | rfl | rfl | rfl | rfl | rfl | rfl | rfl | rfl | rfl | rfl | rfl | rfl
    · exact ⟨x, by cases hx; rfl, hx⟩
    · exact ⟨x, by cases hx; rfl, hx⟩
    · exact ⟨x, by cases hx; rfl, hx⟩
    · exact ⟨x, by cases hx; rfl, hx⟩
    · exact ⟨x, by cases hx; rfl, hx⟩
    · exact ⟨x, by cases hx; rfl, hx⟩
    · exact ⟨x, by cases hx; simp only [renObj, renVVs, vT_keep (k := 0) (s := s0) (r := r14) rfl, vT_keep (k := 1) (s := s1) (r := r14) rfl, vT_keep (k := 2) (s := s2) (r := r14) rfl, Option.map_some], hx⟩
    · exact ⟨x, by cases hx; rfl, hx⟩
    · exact ⟨x, oT_keep (k := 0) rfl rfl hx, hx⟩
    · exact ⟨x, oP_keep (k := 0) hx, hx⟩
    · exact ⟨x, oT_keep (k := 1) rfl rfl hx, hx⟩
    · exact ⟨x, oP_keep (k := 1) hx, hx⟩
    · exact ⟨x, oT_keep (k := 2) rfl rfl hx, hx⟩
    · exact ⟨x, oP_keep (k := 2) hx, hx⟩
  · intro p hp hx
    simp only [List.mem_cons, List.not_mem_nil, or_false] at hp
    rcases hp with rfl | rfl | rfl | rfl | rfl | rfl | rfl | rfl | rfl | rfl | rfl | rfl | rfl | rfl <;> exact hx
  · intro b hb
    have h0 := hb (0, 0) (by simp); have h1 := hb (1, 1) (by simp); have h2 := hb (2, 2) (by simp); have h3 := hb (3, 3) (by simp); have h4 := hb (4, 4) (by simp); have h5 := hb (5, 5) (by simp); have h6 := hb (6, 6) (by simp); have h7 := hb (7, 7) (by simp); have h8 := hb (8, 8) (by simp); have h9 := hb (9, 9) (by simp); have h10 := hb (10, 10) (by simp); have h11 := hb (11, 11) (by simp); have h12 := hb (12, 12) (by simp); have h13 := hb (13, 13) (by simp)
    match b with
    | 0 => exact absurd rfl h0
    | 1 => exact absurd rfl h1
    | 2 => exact absurd rfl h2
    | 3 => exact absurd rfl h3
    | 4 => exact absurd rfl h4
    | 5 => exact absurd rfl h5
    | 6 => exact absurd rfl h6
    | 7 => exact absurd rfl h7
    | 8 => exact absurd rfl h8
    | 9 => exact absurd rfl h9
    | 10 => exact absurd rfl h10
    | 11 => exact absurd rfl h11
    | 12 => exact absurd rfl h12
    | 13 => exact absurd rfl h13
    | b + 14 => rfl
  · have hb : ∀ k, k < 14 → Nat.blt k nid = true := fun k hk => by simp only [Nat.blt_eq]; omega
    rw [hE]
    simp [chkN, nodupB, memN, hb, rfind]
    (repeat' apply And.intro) <;> rfl
end Go.Proofs.Ytmegnipdeanghaa.CarveOnce
