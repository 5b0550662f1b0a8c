/-
  ShakeAll: states, and a round of each thread and of the collector.
-/
import Derived.Test.YtdongoplhnpdiaaTShakeAll1
import Derived.Test.YtdongoplhnpdiaaEngZe
import Derived.Test.YtdongoplhnpdiaaEngZh
import Derived.Test.YtdongoplhnpdiaaEngZi
namespace Go.Proofs.Ytdongoplhnpdiaa.ShakeAll
open Go Go.RowKit Go.Proofs.Ytdongoplhnpdiaa.Eng
set_option linter.unusedVariables false
set_option linter.unusedSimpArgs false
set_option linter.unusedSectionVars false
set_option maxRecDepth 20000
theorem codeOK (c : Code) : CodeOK MS Try.prog c (ev c) :=
  evCode_sound progOK (fun f args hp nid r h _ => evF_sound progOK (lookH_ok L16.tabL_ok) 100 19 f args hp nid r h) 100 c
theorem at_tm {S : Eng.Sys MObj} {E : Ctx MObj} {p p' l : List SV} {hp : HP MObj} {nid : Nat} {d : List Nat} {a : Act} {w : World} (h : wkSs p p') (hat : At S E ⟨p ++ l, hp, nid, d⟩ a w) : At S E ⟨p' ++ l, hp, nid, d⟩ a w :=
  weak_tm (tm_weak h) a w hat
theorem Tri.preHp {E : Ctx MObj} {c : Code} {tm : List SV} {hp hp' : HP MObj} {nid : Nat} {d : List Nat} {Q : VX → St MObj → Prop} (h : ∀ b, hget hp b = hget hp' b) (ht : Tri MS Try.prog E c ⟨tm, hp', nid, d⟩ Q) : Tri MS Try.prog E c ⟨tm, hp, nid, d⟩ Q :=
  Tri.preE fun a w hat => ⟨_, by
    obtain ⟨h0, h1, ρ, F, ha, hr, hch⟩ := hat
    exact ⟨h0, h1, ρ, F, ha, by rw [show hget hp' = hget hp from (funext h).symm]; exact hr, hch⟩, ht⟩
/-- What a thread is at: its phase is none, it learns, it tells, its phase is the one that is asked for. -/
inductive PK where
  | z
  | l (al : Int)
  | t (al : Int)
  | q
def oI (md : Int) : PK → Nat → Int
  | .q, 0 => 5
  | .q, 1 => md
  | _, _ => 0
def vP (k : Nat) : PK → VV
  | .l _ => .ptr (10 + k) 0
  | .t _ => .ptr (10 + k) 0
  | _ => .nilp
def oP (k md : Int) : PK → Option (VObj MObj)
  | .l al => some (po k 0 0 0 0 5 md 0 0 al 2)
  | .t al => some (po k 0 0 0 0 5 md 0 0 al 4)
  | _ => none
theorem oP_keep {k md : Int} {s : PK} {r : List (Nat × Nat)} {x : VObj MObj} (hx : oP k md s = some x) : renObj r x = some x := by
  cases s <;> simp only [oP] at hx <;> cases hx <;> simp [renObj, renVVs, renVV]
theorem vP_keep {k : Nat} {s : PK} {r : List (Nat × Nat)} (h1 : rlook r (10 + k) = some (10 + k)) : renVV r (vP k s) = some (vP k s) := by
  cases s <;> simp [vP, renVV, h1]
abbrev own (md : Int) (s0 s1 s2 : PK) : List VV := ow4 (oI md s0 0) (oI md s0 1) (oI md s0 2) (oI md s0 3) ++ ow4 (oI md s1 0) (oI md s1 1) (oI md s1 2) (oI md s1 3) ++ ow4 (oI md s2 0) (oI md s2 1) (oI md s2 2) (oI md s2 3)
noncomputable abbrev S (n : Int) (np : Nat) (i : Int) (ps rows ls : List (List Int)) (N M : Nat) (xs : List Int) (c md t : Int) (s0 s1 s2 : PK) (js : Nat → SV) : St MObj :=
  ⟨pre n np i ++ junk js 135 15, base ps rows ls N M xs c md t (own md s0 s1 s2) (vP 0 s0) (vP 1 s1) (vP 2 s2) ++ [(10, oP 0 md s0), (11, oP 1 md s1), (12, oP 2 md s2)], 13, []⟩
theorem own_keep (r : List (Nat × Nat)) (md : Int) (s0 s1 s2 : PK) : renVVs r (own md s0 s1 s2) = some (own md s0 s1 s2) := by simp [renVVs, renVV]
abbrev r13 : List (Nat × Nat) := [(0, 0), (1, 1), (2, 2), (3, 3), (4, 4), (5, 5), (6, 6), (7, 7), (8, 8), (9, 9), (10, 10), (11, 11), (12, 12)]
theorem settle {n i c md t : Int} {np N M : Nat} {ps rows ls : List (List Int)} {xs : List Int} {ow : List VV} (how : ∀ r, renVVs r ow = some ow) {s0 s1 s2 : PK} {E : Ctx MObj} (hE : E.nid0 = 1) (hT : E.top = 70) {js : Nat → SV} {d : List Nat} {a : Act} {w : World}
    (h : At MS E ⟨pre n np i ++ junk js 135 15, base ps rows ls N M (xs) (c) md (t) ow (vP 0 s0) (vP 1 s1) (vP 2 s2) ++ [(10, oP 0 md s0), (11, oP 1 md s1), (12, oP 2 md s2)], 14, d⟩ a w) : ∃ js, At MS E ⟨pre n np i ++ junk js 135 15, base ps rows ls N M (xs) (c) md (t) ow (vP 0 s0) (vP 1 s1) (vP 2 s2) ++ [(10, oP 0 md s0), (11, oP 1 md s1), (12, oP 2 md s2)], 13, []⟩ a w := by
  refine at_rename2 (m := 15) (n := 135) (nid' := 13) (dirty' := []) r13 rfl (by simp [length_junk]) rfl ?_ ?_ ?_ (by rw [hE]; rfl) (by rw [hE]; decide) (by rw [hT]; decide) h
  · intro p hp x hx
    simp only [List.mem_cons, List.not_mem_nil, or_false] at hp
    rcases hp with rfl | rfl | rfl | rfl | rfl | rfl | rfl | rfl | rfl | rfl | rfl | rfl | rfl
    · exact ⟨x, by cases hx; rfl, hx⟩
    · exact ⟨x, by cases hx; rfl, hx⟩
    · exact ⟨x, by cases hx; rfl, hx⟩
    · exact ⟨x, by cases hx; rfl, hx⟩
    · exact ⟨x, by cases hx; rfl, hx⟩
    · exact ⟨x, by cases hx; rfl, hx⟩
    · exact ⟨x, by cases hx; rfl, hx⟩
    · exact ⟨x, by cases hx; rfl, hx⟩
    · exact ⟨x, by cases hx; simp only [renObj, how, Option.map_some], hx⟩
    · exact ⟨_, by cases hx; simp only [renObj, renVVs, vP_keep (k := 0) (s := s0) (r := r13) rfl, vP_keep (k := 1) (s := s1) (r := r13) rfl, vP_keep (k := 2) (s := s2) (r := r13) rfl, Option.map_some] <;> rfl, rfl⟩
    · exact ⟨x, oP_keep hx, hx⟩
    · exact ⟨x, oP_keep hx, hx⟩
    · exact ⟨x, oP_keep hx, hx⟩
  · intro p hp hx
    simp only [List.mem_cons, List.not_mem_nil, or_false] at hp
    rcases hp with rfl | rfl | rfl | rfl | rfl | rfl | rfl | rfl | rfl | rfl | rfl | rfl | rfl <;> first | exact hx | (cases hx)
  · intro b hb
    have h0 := hb (0, 0) (by simp); have h1 := hb (1, 1) (by simp); have h2 := hb (2, 2) (by simp); have h3 := hb (3, 3) (by simp); have h4 := hb (4, 4) (by simp); have h5 := hb (5, 5) (by simp); have h6 := hb (6, 6) (by simp); have h7 := hb (7, 7) (by simp); have h8 := hb (8, 8) (by simp); have h9 := hb (9, 9) (by simp); have h10 := hb (10, 10) (by simp); have h11 := hb (11, 11) (by simp); have h12 := hb (12, 12) (by simp)
    match b with
    | 0 => exact absurd rfl h0
    | 1 => exact absurd rfl h1
    | 2 => exact absurd rfl h2
    | 3 => exact absurd rfl h3
    | 4 => exact absurd rfl h4
    | 5 => exact absurd rfl h5
    | 6 => exact absurd rfl h6
    | 7 => exact absurd rfl h7
    | 8 => exact absurd rfl h8
    | 9 => exact absurd rfl h9
    | 10 => exact absurd rfl h10
    | 11 => exact absurd rfl h11
    | 12 => exact absurd rfl h12
    | b + 13 => rfl
abbrev rb0 : List (Nat × Nat) := [(0, 0), (1, 1), (2, 2), (3, 3), (4, 4), (5, 5), (6, 6), (7, 7), (8, 8), (9, 9), (11, 11), (12, 12), (16, 10)]
theorem born0 {n i c md t : Int} {np N M : Nat} {ps rows ls : List (List Int)} {xs : List Int} {ow : List VV} (how : ∀ r, renVVs r ow = some ow) {al pc : Int} {s1 s2 : PK} {E : Ctx MObj} (hE : E.nid0 = 1) (hT : E.top = 70) {js : Nat → SV} {d : List Nat} {a : Act} {w : World}
    (h : At MS E ⟨pre n np i ++ junk js 135 15, base ps rows ls N M (xs) (c) md (t) ow (.ptr 16 0) (vP 1 s1) (vP 2 s2) ++ [(11, oP 1 md s1), (12, oP 2 md s2), (16, some (po 0 0 0 0 0 5 md 0 0 al pc))], 17, d⟩ a w) : ∃ js, At MS E ⟨pre n np i ++ junk js 135 15, base ps rows ls N M (xs) (c) md (t) ow (.ptr 10 0) (vP 1 s1) (vP 2 s2) ++ [(10, some (po 0 0 0 0 0 5 md 0 0 al pc)), (11, oP 1 md s1), (12, oP 2 md s2)], 13, []⟩ a w := by
  refine at_rename2 (m := 15) (n := 135) (nid' := 13) (dirty' := []) rb0 rfl (by simp [length_junk]) rfl ?_ ?_ ?_ (by rw [hE]; rfl) (by rw [hE]; decide) (by rw [hT]; decide) h
  · intro p hp x hx
    simp only [List.mem_cons, List.not_mem_nil, or_false] at hp
    rcases hp with rfl | rfl | rfl | rfl | rfl | rfl | rfl | rfl | rfl | rfl | rfl | rfl | rfl
    · exact ⟨x, by cases hx; rfl, hx⟩
    · exact ⟨x, by cases hx; rfl, hx⟩
    · exact ⟨x, by cases hx; rfl, hx⟩
    · exact ⟨x, by cases hx; rfl, hx⟩
    · exact ⟨x, by cases hx; rfl, hx⟩
    · exact ⟨x, by cases hx; rfl, hx⟩
    · exact ⟨x, by cases hx; rfl, hx⟩
    · exact ⟨x, by cases hx; rfl, hx⟩
    · exact ⟨x, by cases hx; simp only [renObj, how, Option.map_some], hx⟩
    · exact ⟨_, by cases hx; simp only [renObj, renVVs, vP_keep (k := 1) (s := s1) (r := rb0) rfl, vP_keep (k := 2) (s := s2) (r := rb0) rfl, show renVV rb0 (.ptr 16 0) = some (.ptr 10 0) from rfl, Option.map_some] <;> rfl, rfl⟩
    · exact ⟨x, oP_keep hx, hx⟩
    · exact ⟨x, oP_keep hx, hx⟩
    · exact ⟨_, by cases hx; rfl, rfl⟩
  · intro p hp hx
    simp only [List.mem_cons, List.not_mem_nil, or_false] at hp
    rcases hp with rfl | rfl | rfl | rfl | rfl | rfl | rfl | rfl | rfl | rfl | rfl | rfl | rfl <;> first | exact hx | (cases hx)
  · intro b hb
    have h0 := hb (0, 0) (by simp); have h1 := hb (1, 1) (by simp); have h2 := hb (2, 2) (by simp); have h3 := hb (3, 3) (by simp); have h4 := hb (4, 4) (by simp); have h5 := hb (5, 5) (by simp); have h6 := hb (6, 6) (by simp); have h7 := hb (7, 7) (by simp); have h8 := hb (8, 8) (by simp); have h9 := hb (9, 9) (by simp); have h11 := hb (11, 11) (by simp); have h12 := hb (12, 12) (by simp); have h10 := hb (16, 10) (by simp)
    match b with
    | 0 => exact absurd rfl h0
    | 1 => exact absurd rfl h1
    | 2 => exact absurd rfl h2
    | 3 => exact absurd rfl h3
    | 4 => exact absurd rfl h4
    | 5 => exact absurd rfl h5
    | 6 => exact absurd rfl h6
    | 7 => exact absurd rfl h7
    | 8 => exact absurd rfl h8
    | 9 => exact absurd rfl h9
    | 10 => exact absurd rfl h10
    | 11 => exact absurd rfl h11
    | 12 => exact absurd rfl h12
    | b + 13 => rfl
abbrev rd0 : List (Nat × Nat) := [(0, 0), (1, 1), (2, 2), (3, 3), (4, 4), (5, 5), (6, 6), (7, 7), (8, 8), (9, 9), (11, 11), (12, 12)]
theorem drop0 {n i c md t : Int} {np N M : Nat} {ps rows ls : List (List Int)} {xs : List Int} {ow : List VV} (how : ∀ r, renVVs r ow = some ow) {s1 s2 : PK} {E : Ctx MObj} (hE : E.nid0 = 1) (hT : E.top = 70) {js : Nat → SV} {L : HP MObj} {nid : Nat} {d : List Nat} {a : Act} {w : World} (h1 : hget (base ps rows ls N M (xs) (c) md (t) ow .nilp (vP 1 s1) (vP 2 s2) ++ L) 11 = oP 1 md s1) (h2 : hget (base ps rows ls N M (xs) (c) md (t) ow .nilp (vP 1 s1) (vP 2 s2) ++ L) 12 = oP 2 md s2) (hck : chkN rd0 ((base ps rows ls N M (xs) (c) md (t) ow .nilp (vP 1 s1) (vP 2 s2) ++ L).map (·.1)) 1 nid 13 = true)
    (h : At MS E ⟨pre n np i ++ junk js 135 15, base ps rows ls N M (xs) (c) md (t) ow .nilp (vP 1 s1) (vP 2 s2) ++ L, nid, d⟩ a w) : ∃ js, At MS E ⟨pre n np i ++ junk js 135 15, base ps rows ls N M (xs) (c) md (t) ow .nilp (vP 1 s1) (vP 2 s2) ++ [(10, none), (11, oP 1 md s1), (12, oP 2 md s2)], 13, []⟩ a w := by
  refine at_rename2 (m := 15) (n := 135) (nid' := 13) (dirty' := []) rd0 rfl (by simp [length_junk]) rfl ?_ ?_ ?_ (by rw [hE]; exact hck) (by rw [hE]; decide) (by rw [hT]; decide) h
  · intro p hp x hx
    simp only [List.mem_cons, List.not_mem_nil, or_false] at hp
    rcases hp with rfl | rfl | rfl | rfl | rfl | rfl | rfl | rfl | rfl | rfl | rfl | rfl
    · exact ⟨x, by cases hx; rfl, hx⟩
    · exact ⟨x, by cases hx; rfl, hx⟩
    · exact ⟨x, by cases hx; rfl, hx⟩
    · exact ⟨x, by cases hx; rfl, hx⟩
    · exact ⟨x, by cases hx; rfl, hx⟩
    · exact ⟨x, by cases hx; rfl, hx⟩
    · exact ⟨x, by cases hx; rfl, hx⟩
    · exact ⟨x, by cases hx; rfl, hx⟩
    · exact ⟨x, by cases hx; simp only [renObj, how, Option.map_some], hx⟩
    · exact ⟨_, by cases hx; simp only [renObj, renVVs, vP_keep (k := 1) (s := s1) (r := rd0) rfl, vP_keep (k := 2) (s := s2) (r := rd0) rfl, show renVV rd0 .nilp = some .nilp from rfl, Option.map_some] <;> rfl, rfl⟩
    · exact ⟨x, oP_keep ((h1).symm.trans hx), (h1).symm.trans hx⟩
    · exact ⟨x, oP_keep ((h2).symm.trans hx), (h2).symm.trans hx⟩
  · intro p hp hx
    simp only [List.mem_cons, List.not_mem_nil, or_false] at hp
    rcases hp with rfl | rfl | rfl | rfl | rfl | rfl | rfl | rfl | rfl | rfl | rfl | rfl <;> first | (exact h1.symm.trans hx) | (exact h2.symm.trans hx) | exact hx | (cases hx)
  · intro b hb
    have h0 := hb (0, 0) (by simp); have h1 := hb (1, 1) (by simp); have h2 := hb (2, 2) (by simp); have h3 := hb (3, 3) (by simp); have h4 := hb (4, 4) (by simp); have h5 := hb (5, 5) (by simp); have h6 := hb (6, 6) (by simp); have h7 := hb (7, 7) (by simp); have h8 := hb (8, 8) (by simp); have h9 := hb (9, 9) (by simp); have h11 := hb (11, 11) (by simp); have h12 := hb (12, 12) (by simp)
    match b with
    | 0 => exact absurd rfl h0
    | 1 => exact absurd rfl h1
    | 2 => exact absurd rfl h2
    | 3 => exact absurd rfl h3
    | 4 => exact absurd rfl h4
    | 5 => exact absurd rfl h5
    | 6 => exact absurd rfl h6
    | 7 => exact absurd rfl h7
    | 8 => exact absurd rfl h8
    | 9 => exact absurd rfl h9
    | 10 => rfl
    | 11 => exact absurd rfl h11
    | 12 => exact absurd rfl h12
    | b + 13 => rfl
abbrev rb1 : List (Nat × Nat) := [(0, 0), (1, 1), (2, 2), (3, 3), (4, 4), (5, 5), (6, 6), (7, 7), (8, 8), (9, 9), (10, 10), (12, 12), (16, 11)]
theorem born1 {n i c md t : Int} {np N M : Nat} {ps rows ls : List (List Int)} {xs : List Int} {ow : List VV} (how : ∀ r, renVVs r ow = some ow) {al pc : Int} {s0 s2 : PK} {E : Ctx MObj} (hE : E.nid0 = 1) (hT : E.top = 70) {js : Nat → SV} {d : List Nat} {a : Act} {w : World}
    (h : At MS E ⟨pre n np i ++ junk js 135 15, base ps rows ls N M (xs) (c) md (t) ow (vP 0 s0) (.ptr 16 0) (vP 2 s2) ++ [(10, oP 0 md s0), (12, oP 2 md s2), (16, some (po 1 0 0 0 0 5 md 0 0 al pc))], 17, d⟩ a w) : ∃ js, At MS E ⟨pre n np i ++ junk js 135 15, base ps rows ls N M (xs) (c) md (t) ow (vP 0 s0) (.ptr 11 0) (vP 2 s2) ++ [(10, oP 0 md s0), (11, some (po 1 0 0 0 0 5 md 0 0 al pc)), (12, oP 2 md s2)], 13, []⟩ a w := by
  refine at_rename2 (m := 15) (n := 135) (nid' := 13) (dirty' := []) rb1 rfl (by simp [length_junk]) rfl ?_ ?_ ?_ (by rw [hE]; rfl) (by rw [hE]; decide) (by rw [hT]; decide) h
  · intro p hp x hx
    simp only [List.mem_cons, List.not_mem_nil, or_false] at hp
    rcases hp with rfl | rfl | rfl | rfl | rfl | rfl | rfl | rfl | rfl | rfl | rfl | rfl | rfl
    · exact ⟨x, by cases hx; rfl, hx⟩
    · exact ⟨x, by cases hx; rfl, hx⟩
    · exact ⟨x, by cases hx; rfl, hx⟩
    · exact ⟨x, by cases hx; rfl, hx⟩
    · exact ⟨x, by cases hx; rfl, hx⟩
    · exact ⟨x, by cases hx; rfl, hx⟩
    · exact ⟨x, by cases hx; rfl, hx⟩
    · exact ⟨x, by cases hx; rfl, hx⟩
    · exact ⟨x, by cases hx; simp only [renObj, how, Option.map_some], hx⟩
    · exact ⟨_, by cases hx; simp only [renObj, renVVs, vP_keep (k := 0) (s := s0) (r := rb1) rfl, vP_keep (k := 2) (s := s2) (r := rb1) rfl, show renVV rb1 (.ptr 16 0) = some (.ptr 11 0) from rfl, Option.map_some] <;> rfl, rfl⟩
    · exact ⟨x, oP_keep hx, hx⟩
    · exact ⟨x, oP_keep hx, hx⟩
    · exact ⟨_, by cases hx; rfl, rfl⟩
  · intro p hp hx
    simp only [List.mem_cons, List.not_mem_nil, or_false] at hp
    rcases hp with rfl | rfl | rfl | rfl | rfl | rfl | rfl | rfl | rfl | rfl | rfl | rfl | rfl <;> first | exact hx | (cases hx)
  · intro b hb
    have h0 := hb (0, 0) (by simp); have h1 := hb (1, 1) (by simp); have h2 := hb (2, 2) (by simp); have h3 := hb (3, 3) (by simp); have h4 := hb (4, 4) (by simp); have h5 := hb (5, 5) (by simp); have h6 := hb (6, 6) (by simp); have h7 := hb (7, 7) (by simp); have h8 := hb (8, 8) (by simp); have h9 := hb (9, 9) (by simp); have h10 := hb (10, 10) (by simp); have h12 := hb (12, 12) (by simp); have h11 := hb (16, 11) (by simp)
    match b with
    | 0 => exact absurd rfl h0
    | 1 => exact absurd rfl h1
    | 2 => exact absurd rfl h2
    | 3 => exact absurd rfl h3
    | 4 => exact absurd rfl h4
    | 5 => exact absurd rfl h5
    | 6 => exact absurd rfl h6
    | 7 => exact absurd rfl h7
    | 8 => exact absurd rfl h8
    | 9 => exact absurd rfl h9
    | 10 => exact absurd rfl h10
    | 11 => exact absurd rfl h11
    | 12 => exact absurd rfl h12
    | b + 13 => rfl
abbrev rd1 : List (Nat × Nat) := [(0, 0), (1, 1), (2, 2), (3, 3), (4, 4), (5, 5), (6, 6), (7, 7), (8, 8), (9, 9), (10, 10), (12, 12)]
theorem drop1 {n i c md t : Int} {np N M : Nat} {ps rows ls : List (List Int)} {xs : List Int} {ow : List VV} (how : ∀ r, renVVs r ow = some ow) {s0 s2 : PK} {E : Ctx MObj} (hE : E.nid0 = 1) (hT : E.top = 70) {js : Nat → SV} {L : HP MObj} {nid : Nat} {d : List Nat} {a : Act} {w : World} (h0 : hget (base ps rows ls N M (xs) (c) md (t) ow (vP 0 s0) .nilp (vP 2 s2) ++ L) 10 = oP 0 md s0) (h2 : hget (base ps rows ls N M (xs) (c) md (t) ow (vP 0 s0) .nilp (vP 2 s2) ++ L) 12 = oP 2 md s2) (hck : chkN rd1 ((base ps rows ls N M (xs) (c) md (t) ow (vP 0 s0) .nilp (vP 2 s2) ++ L).map (·.1)) 1 nid 13 = true)
    (h : At MS E ⟨pre n np i ++ junk js 135 15, base ps rows ls N M (xs) (c) md (t) ow (vP 0 s0) .nilp (vP 2 s2) ++ L, nid, d⟩ a w) : ∃ js, At MS E ⟨pre n np i ++ junk js 135 15, base ps rows ls N M (xs) (c) md (t) ow (vP 0 s0) .nilp (vP 2 s2) ++ [(10, oP 0 md s0), (11, none), (12, oP 2 md s2)], 13, []⟩ a w := by
  refine at_rename2 (m := 15) (n := 135) (nid' := 13) (dirty' := []) rd1 rfl (by simp [length_junk]) rfl ?_ ?_ ?_ (by rw [hE]; exact hck) (by rw [hE]; decide) (by rw [hT]; decide) h
  · intro p hp x hx
    simp only [List.mem_cons, List.not_mem_nil, or_false] at hp
    rcases hp with rfl | rfl | rfl | rfl | rfl | rfl | rfl | rfl | rfl | rfl | rfl | rfl
    · exact ⟨x, by cases hx; rfl, hx⟩
    · exact ⟨x, by cases hx; rfl, hx⟩
    · exact ⟨x, by cases hx; rfl, hx⟩
    · exact ⟨x, by cases hx; rfl, hx⟩
    · exact ⟨x, by cases hx; rfl, hx⟩
    · exact ⟨x, by cases hx; rfl, hx⟩
    · exact ⟨x, by cases hx; rfl, hx⟩
    · exact ⟨x, by cases hx; rfl, hx⟩
    · exact ⟨x, by cases hx; simp only [renObj, how, Option.map_some], hx⟩
    · exact ⟨_, by cases hx; simp only [renObj, renVVs, vP_keep (k := 0) (s := s0) (r := rd1) rfl, vP_keep (k := 2) (s := s2) (r := rd1) rfl, show renVV rd1 .nilp = some .nilp from rfl, Option.map_some] <;> rfl, rfl⟩
    · exact ⟨x, oP_keep ((h0).symm.trans hx), (h0).symm.trans hx⟩
    · exact ⟨x, oP_keep ((h2).symm.trans hx), (h2).symm.trans hx⟩
  · intro p hp hx
    simp only [List.mem_cons, List.not_mem_nil, or_false] at hp
    rcases hp with rfl | rfl | rfl | rfl | rfl | rfl | rfl | rfl | rfl | rfl | rfl | rfl <;> first | (exact h0.symm.trans hx) | (exact h2.symm.trans hx) | exact hx | (cases hx)
  · intro b hb
    have h0 := hb (0, 0) (by simp); have h1 := hb (1, 1) (by simp); have h2 := hb (2, 2) (by simp); have h3 := hb (3, 3) (by simp); have h4 := hb (4, 4) (by simp); have h5 := hb (5, 5) (by simp); have h6 := hb (6, 6) (by simp); have h7 := hb (7, 7) (by simp); have h8 := hb (8, 8) (by simp); have h9 := hb (9, 9) (by simp); have h10 := hb (10, 10) (by simp); have h12 := hb (12, 12) (by simp)
    match b with
    | 0 => exact absurd rfl h0
    | 1 => exact absurd rfl h1
    | 2 => exact absurd rfl h2
    | 3 => exact absurd rfl h3
    | 4 => exact absurd rfl h4
    | 5 => exact absurd rfl h5
    | 6 => exact absurd rfl h6
    | 7 => exact absurd rfl h7
    | 8 => exact absurd rfl h8
    | 9 => exact absurd rfl h9
    | 10 => exact absurd rfl h10
    | 11 => rfl
    | 12 => exact absurd rfl h12
    | b + 13 => rfl
abbrev rb2 : List (Nat × Nat) := [(0, 0), (1, 1), (2, 2), (3, 3), (4, 4), (5, 5), (6, 6), (7, 7), (8, 8), (9, 9), (10, 10), (11, 11), (16, 12)]
theorem born2 {n i c md t : Int} {np N M : Nat} {ps rows ls : List (List Int)} {xs : List Int} {ow : List VV} (how : ∀ r, renVVs r ow = some ow) {al pc : Int} {s0 s1 : PK} {E : Ctx MObj} (hE : E.nid0 = 1) (hT : E.top = 70) {js : Nat → SV} {d : List Nat} {a : Act} {w : World}
    (h : At MS E ⟨pre n np i ++ junk js 135 15, base ps rows ls N M (xs) (c) md (t) ow (vP 0 s0) (vP 1 s1) (.ptr 16 0) ++ [(10, oP 0 md s0), (11, oP 1 md s1), (16, some (po 2 0 0 0 0 5 md 0 0 al pc))], 17, d⟩ a w) : ∃ js, At MS E ⟨pre n np i ++ junk js 135 15, base ps rows ls N M (xs) (c) md (t) ow (vP 0 s0) (vP 1 s1) (.ptr 12 0) ++ [(10, oP 0 md s0), (11, oP 1 md s1), (12, some (po 2 0 0 0 0 5 md 0 0 al pc))], 13, []⟩ a w := by
  refine at_rename2 (m := 15) (n := 135) (nid' := 13) (dirty' := []) rb2 rfl (by simp [length_junk]) rfl ?_ ?_ ?_ (by rw [hE]; rfl) (by rw [hE]; decide) (by rw [hT]; decide) h
  · intro p hp x hx
    simp only [List.mem_cons, List.not_mem_nil, or_false] at hp
    rcases hp with rfl | rfl | rfl | rfl | rfl | rfl | rfl | rfl | rfl | rfl | rfl | rfl | rfl
    · exact ⟨x, by cases hx; rfl, hx⟩
    · exact ⟨x, by cases hx; rfl, hx⟩
    · exact ⟨x, by cases hx; rfl, hx⟩
    · exact ⟨x, by cases hx; rfl, hx⟩
    · exact ⟨x, by cases hx; rfl, hx⟩
    · exact ⟨x, by cases hx; rfl, hx⟩
    · exact ⟨x, by cases hx; rfl, hx⟩
    · exact ⟨x, by cases hx; rfl, hx⟩
    · exact ⟨x, by cases hx; simp only [renObj, how, Option.map_some], hx⟩
    · exact ⟨_, by cases hx; simp only [renObj, renVVs, vP_keep (k := 0) (s := s0) (r := rb2) rfl, vP_keep (k := 1) (s := s1) (r := rb2) rfl, show renVV rb2 (.ptr 16 0) = some (.ptr 12 0) from rfl, Option.map_some] <;> rfl, rfl⟩
    · exact ⟨x, oP_keep hx, hx⟩
    · exact ⟨x, oP_keep hx, hx⟩
    · exact ⟨_, by cases hx; rfl, rfl⟩
  · intro p hp hx
    simp only [List.mem_cons, List.not_mem_nil, or_false] at hp
    rcases hp with rfl | rfl | rfl | rfl | rfl | rfl | rfl | rfl | rfl | rfl | rfl | rfl | rfl <;> first | exact hx | (cases hx)
  · intro b hb
    have h0 := hb (0, 0) (by simp); have h1 := hb (1, 1) (by simp); have h2 := hb (2, 2) (by simp); have h3 := hb (3, 3) (by simp); have h4 := hb (4, 4) (by simp); have h5 := hb (5, 5) (by simp); have h6 := hb (6, 6) (by simp); have h7 := hb (7, 7) (by simp); have h8 := hb (8, 8) (by simp); have h9 := hb (9, 9) (by simp); have h10 := hb (10, 10) (by simp); have h11 := hb (11, 11) (by simp); have h12 := hb (16, 12) (by simp)
    match b with
    | 0 => exact absurd rfl h0
    | 1 => exact absurd rfl h1
    | 2 => exact absurd rfl h2
    | 3 => exact absurd rfl h3
    | 4 => exact absurd rfl h4
    | 5 => exact absurd rfl h5
    | 6 => exact absurd rfl h6
    | 7 => exact absurd rfl h7
    | 8 => exact absurd rfl h8
    | 9 => exact absurd rfl h9
    | 10 => exact absurd rfl h10
    | 11 => exact absurd rfl h11
    | 12 => exact absurd rfl h12
    | b + 13 => rfl
abbrev rd2 : List (Nat × Nat) := [(0, 0), (1, 1), (2, 2), (3, 3), (4, 4), (5, 5), (6, 6), (7, 7), (8, 8), (9, 9), (10, 10), (11, 11)]
theorem drop2 {n i c md t : Int} {np N M : Nat} {ps rows ls : List (List Int)} {xs : List Int} {ow : List VV} (how : ∀ r, renVVs r ow = some ow) {s0 s1 : PK} {E : Ctx MObj} (hE : E.nid0 = 1) (hT : E.top = 70) {js : Nat → SV} {L : HP MObj} {nid : Nat} {d : List Nat} {a : Act} {w : World} (h0 : hget (base ps rows ls N M (xs) (c) md (t) ow (vP 0 s0) (vP 1 s1) .nilp ++ L) 10 = oP 0 md s0) (h1 : hget (base ps rows ls N M (xs) (c) md (t) ow (vP 0 s0) (vP 1 s1) .nilp ++ L) 11 = oP 1 md s1) (hck : chkN rd2 ((base ps rows ls N M (xs) (c) md (t) ow (vP 0 s0) (vP 1 s1) .nilp ++ L).map (·.1)) 1 nid 13 = true)
    (h : At MS E ⟨pre n np i ++ junk js 135 15, base ps rows ls N M (xs) (c) md (t) ow (vP 0 s0) (vP 1 s1) .nilp ++ L, nid, d⟩ a w) : ∃ js, At MS E ⟨pre n np i ++ junk js 135 15, base ps rows ls N M (xs) (c) md (t) ow (vP 0 s0) (vP 1 s1) .nilp ++ [(10, oP 0 md s0), (11, oP 1 md s1), (12, none)], 13, []⟩ a w := by
  refine at_rename2 (m := 15) (n := 135) (nid' := 13) (dirty' := []) rd2 rfl (by simp [length_junk]) rfl ?_ ?_ ?_ (by rw [hE]; exact hck) (by rw [hE]; decide) (by rw [hT]; decide) h
  · intro p hp x hx
    simp only [List.mem_cons, List.not_mem_nil, or_false] at hp
    rcases hp with rfl | rfl | rfl | rfl | rfl | rfl | rfl | rfl | rfl | rfl | rfl | rfl
    · exact ⟨x, by cases hx; rfl, hx⟩
    · exact ⟨x, by cases hx; rfl, hx⟩
    · exact ⟨x, by cases hx; rfl, hx⟩
    · exact ⟨x, by cases hx; rfl, hx⟩
    · exact ⟨x, by cases hx; rfl, hx⟩
    · exact ⟨x, by cases hx; rfl, hx⟩
    · exact ⟨x, by cases hx; rfl, hx⟩
    · exact ⟨x, by cases hx; rfl, hx⟩
    · exact ⟨x, by cases hx; simp only [renObj, how, Option.map_some], hx⟩
    · exact ⟨_, by cases hx; simp only [renObj, renVVs, vP_keep (k := 0) (s := s0) (r := rd2) rfl, vP_keep (k := 1) (s := s1) (r := rd2) rfl, show renVV rd2 .nilp = some .nilp from rfl, Option.map_some] <;> rfl, rfl⟩
    · exact ⟨x, oP_keep ((h0).symm.trans hx), (h0).symm.trans hx⟩
    · exact ⟨x, oP_keep ((h1).symm.trans hx), (h1).symm.trans hx⟩
  · intro p hp hx
    simp only [List.mem_cons, List.not_mem_nil, or_false] at hp
    rcases hp with rfl | rfl | rfl | rfl | rfl | rfl | rfl | rfl | rfl | rfl | rfl | rfl <;> first | (exact h0.symm.trans hx) | (exact h1.symm.trans hx) | exact hx | (cases hx)
  · intro b hb
    have h0 := hb (0, 0) (by simp); have h1 := hb (1, 1) (by simp); have h2 := hb (2, 2) (by simp); have h3 := hb (3, 3) (by simp); have h4 := hb (4, 4) (by simp); have h5 := hb (5, 5) (by simp); have h6 := hb (6, 6) (by simp); have h7 := hb (7, 7) (by simp); have h8 := hb (8, 8) (by simp); have h9 := hb (9, 9) (by simp); have h10 := hb (10, 10) (by simp); have h11 := hb (11, 11) (by simp)
    match b with
    | 0 => exact absurd rfl h0
    | 1 => exact absurd rfl h1
    | 2 => exact absurd rfl h2
    | 3 => exact absurd rfl h3
    | 4 => exact absurd rfl h4
    | 5 => exact absurd rfl h5
    | 6 => exact absurd rfl h6
    | 7 => exact absurd rfl h7
    | 8 => exact absurd rfl h8
    | 9 => exact absurd rfl h9
    | 10 => exact absurd rfl h10
    | 11 => exact absurd rfl h11
    | 12 => rfl
    | b + 13 => rfl
def upd {α : Type} (s : Nat → α) (k : Nat) (x : α) : Nat → α := fun j => if j = k then x else s j
theorem upd_eq {α : Type} (s : Nat → α) (k : Nat) (x : α) : upd s k x k = x := if_pos rfl
theorem upd_ne {α : Type} (s : Nat → α) {j k : Nat} (x : α) (h : j ≠ k) : upd s k x j = s j := if_neg h
theorem gne {l : List Int} {i j : Nat} (v : Int) (h : i ≠ j) : (l.set i v).getD j 0 = l.getD j 0 := by
  simp [List.getD_eq_getElem?_getD, List.getElem?_set, h]
theorem geq {l : List Int} {i : Nat} (v : Int) (h : i < l.length) : (l.set i v).getD i 0 = v := by
  simp [List.getD_eq_getElem?_getD, List.getElem?_set, h]
theorem W_of {x : Int} (h : -100000 ≤ x) (h2 : x ≤ 100000) : W x = x := wrap_i64_of (by omega) (by omega)
def pot : PK → Int
  | .z => 3
  | .l _ => 2
  | .t _ => 1
  | .q => 0
structure Inv (md : Int) (xs : List Int) (s : Nat → PK) (t : Int) : Prop where
  len : xs.length = 160
  hN : mNo (List.getD xs 0 0) = 5
  hM : mMode (List.getD xs 0 0) = md
  hK : mMark (List.getD xs 0 0) = 0
  hL : mList (List.getD xs 0 0) = 0
  ack : ∀ k : Nat, k < 3 → (xs.getD (10 + k) 0 = 5 ↔ s k = .q)
  ht : 0 ≤ t ∧ t ≤ 3
  told : ∀ k : Nat, k < 3 → (k : Int) < t → s k = .q
def Rel (k : Nat) (s : Nat → PK) (t : Int) (s' : Nat → PK) (t' : Int) : Prop :=
  (∀ j : Nat, j < 3 → s' j = .q ∨ pot (s' j) + (if j = k then 1 else 0) ≤ pot (s j)) ∧ (t' = 3 ∨ (t ≤ t' ∧ (k = 3 → (∀ j : Nat, j < 3 → s j = .q) → t + 1 ≤ t')))
section
variable {md t : Int} {xs : List Int} {s : Nat → PK} {k : Nat}
theorem pot_zero {x : PK} (h : pot x ≤ 0) : x = .q := by cases x <;> simp only [pot] at h <;> first | rfl | omega
theorem pot_le (x : PK) : 0 ≤ pot x ∧ pot x ≤ 3 := by cases x <;> simp only [pot] <;> omega
/-- A thread's step that writes nothing. -/
theorem Inv.move (h : Inv md xs s t) (hk : k < 3) {x : PK} (hx : x ≠ .q) (hs : s k ≠ .q) (hp : pot x + 1 ≤ pot (s k)) : Inv md xs (upd s k x) t ∧ Rel k s t (upd s k x) t := by
  refine ⟨⟨h.len, h.hN, h.hM, h.hK, h.hL, fun j hj => ?_, h.ht, fun j hj hjt => ?_⟩, fun j hj => ?_, .inr ⟨by omega, fun h3 => by omega⟩⟩
  · by_cases hjk : j = k
    · subst hjk; rw [upd_eq, h.ack j hj]; exact ⟨fun e => absurd e hs, fun e => absurd e hx⟩
    · rw [upd_ne _ _ hjk]; exact h.ack j hj
  · by_cases hjk : j = k
    · subst hjk; exact absurd (h.told j hj hjt) hs
    · rw [upd_ne _ _ hjk]; exact h.told j hj hjt
  · by_cases hjk : j = k
    · subst hjk; rw [upd_eq, if_pos rfl]; exact .inr hp
    · rw [upd_ne _ _ hjk, if_neg hjk]; exact .inr (by omega)
/-- It tells. -/
theorem Inv.tell (h : Inv md xs s t) (hk : k < 3) : Inv md (xs.set (10 + k) 5) (upd s k .q) t ∧ Rel k s t (upd s k .q) t := by
  have e0 : (xs.set (10 + k) 5).getD 0 0 = xs.getD 0 0 := gne _ (by omega)
  refine ⟨⟨by rw [List.length_set]; exact h.len, by rw [e0]; exact h.hN, by rw [e0]; exact h.hM, by rw [e0]; exact h.hK, by rw [e0]; exact h.hL, fun j hj => ?_, h.ht, fun j hj hjt => ?_⟩, fun j hj => ?_, .inr ⟨by omega, fun h3 => by omega⟩⟩
  · by_cases hjk : j = k
    · subst hjk; rw [upd_eq, geq _ (by rw [h.len]; omega)]; exact ⟨fun _ => rfl, fun _ => rfl⟩
    · rw [upd_ne _ _ hjk, gne _ (by omega)]; exact h.ack j hj
  · by_cases hjk : j = k
    · subst hjk; exact upd_eq ..
    · rw [upd_ne _ _ hjk]; exact h.told j hj hjt
  · by_cases hjk : j = k
    · subst hjk; exact .inl (upd_eq ..)
    · rw [upd_ne _ _ hjk, if_neg hjk]; exact .inr (by omega)
theorem Inv.stay (h : Inv md xs s t) (hk : k < 3) (hs : s k = .q) : Rel k s t s t :=
  ⟨fun j hj => by
    by_cases hjk : j = k
    · subst hjk; exact .inl hs
    · rw [if_neg hjk]; exact .inr (by omega), .inr ⟨by omega, fun h3 => by omega⟩⟩
/-- The collector's step. -/
theorem Inv.more (h : Inv md xs s t) (ht : t < 3) (ha : xs.getD (10 + t.toNat) 0 = 5) : Inv md xs s (t + 1) ∧ Rel 3 s t s (t + 1) := by
  have h0 := h.ht
  refine ⟨⟨h.len, h.hN, h.hM, h.hK, h.hL, h.ack, by omega, fun j hj hjt => ?_⟩, fun j hj => .inr (by rw [if_neg (by omega)]; omega), .inr ⟨by omega, fun _ _ => by omega⟩⟩
  by_cases hjt2 : (j : Int) < t
  · exact h.told j hj hjt2
  · have : t.toNat = j := by omega
    rw [this] at ha
    exact (h.ack j hj).1 ha
theorem Inv.wait (h : Inv md xs s t) (ht : t < 3) (ha : ¬ xs.getD (10 + t.toNat) 0 = 5) : Rel 3 s t s t := by
  have h0 := h.ht
  refine ⟨fun j hj => .inr (by rw [if_neg (by omega)]; omega), .inr ⟨by omega, fun _ hq => absurd ((h.ack t.toNat (by omega)).2 (hq t.toNat (by omega))) ha⟩⟩
theorem Inv.over (h : Inv md xs s t) (ht : t = 3) : Rel 3 s t s t :=
  ⟨fun j hj => .inr (by rw [if_neg (by omega)]; omega), .inl ht⟩
end
def cnt (k : Int) (σ i : Int) : Int := (i - k + 3) / 4 - (σ - k + 3) / 4
def Near (σ i : Int) (s : Nat → PK) (t : Int) : Prop := (∀ j : Nat, j < 3 → s j = .q ∨ pot (s j) + cnt j σ i ≤ 3) ∧ (t = 3 ∨ (3 - t) + (cnt 3 σ i - 4) ≤ 3)
theorem Near.step {md σ i t t' : Int} {xs : List Int} {s s' : Nat → PK} {k : Nat} (hσ : 0 ≤ σ) (hi : 0 ≤ i) (hk : σ ≤ i → i % 4 = k) (h : Near σ i s t) (hr : Rel k s t s' t') (hv : Inv md xs s' t') (hv0 : 0 ≤ t) : Near σ (i + 1) s' t' := by
  refine ⟨fun j hj => ?_, ?_⟩
  · rcases hr.1 j hj with g | g
    · exact .inl g
    · have hp := pot_le (s' j)
      rcases h.1 j hj with e | e
      · exact .inl (pot_zero (by rw [e, show pot .q = 0 from rfl] at g; split at g <;> omega))
      · refine .inr ?_
        by_cases hs : σ ≤ i
        · have hk := hk hs
          by_cases hjk : j = k
          · rw [if_pos hjk] at g
            unfold cnt at e ⊢
            match j, hj with
            | 0, _ => omega
            | 1, _ => omega
            | 2, _ => omega
          · rw [if_neg hjk] at g
            unfold cnt at e ⊢
            match j, hj with
            | 0, _ => omega
            | 1, _ => omega
            | 2, _ => omega
        · unfold cnt
          match j, hj with
          | 0, _ => omega
          | 1, _ => omega
          | 2, _ => omega
  · rcases hr.2 with g | ⟨g1, g2⟩
    · exact .inl g
    · rcases h.2 with e | e
      · left; have := hv.ht; omega
      · have ht' := hv.ht
        by_cases hs : σ ≤ i
        · have hk := hk hs
          by_cases h3 : k = 3
          · by_cases h4 : cnt 3 σ i ≥ 4
            · have hq : ∀ j, j < 3 → s j = .q := fun j hj => by
                rcases h.1 j hj with e | e
                · exact e
                · refine pot_zero ?_
                  unfold cnt at e h4
                  match j, hj with
                  | 0, _ => omega
                  | 1, _ => omega
                  | 2, _ => omega
              have := g2 h3 hq
              right
              unfold cnt at e ⊢
              omega
            · right
              unfold cnt at h4 ⊢
              omega
          · right
            unfold cnt at e ⊢
            omega
        · right
          unfold cnt
          omega
theorem Near.fin {md σ t : Int} {xs : List Int} {s : Nat → PK} (hσ : 0 ≤ σ) (h : Near σ (σ + 40) s t) (hv : Inv md xs s t) : t = 3 := by
  rcases h.2 with e | e
  · exact e
  · have := hv.ht
    unfold cnt at e
    omega
theorem near0 {σ : Int} (hσ : 0 ≤ σ) : Near σ 0 (fun _ => .z) 0 := by
  refine ⟨fun j hj => .inr ?_, .inr ?_⟩
  · simp only [pot]
    unfold cnt
    match j, hj with
    | 0, _ => omega
    | 1, _ => omega
    | 2, _ => omega
  · unfold cnt
    omega
noncomputable abbrev SF (n : Int) (np : Nat) (i : Int) (ps rows ls : List (List Int)) (N M : Nat) (xs : List Int) (c md t : Int) (s : Nat → PK) (js : Nat → SV) : St MObj := S n np i ps rows ls N M xs c md t (s 0) (s 1) (s 2) js
def Post (n : Int) (np : Nat) (i : Int) (ps rows ls : List (List Int)) (N M : Nat) (c md t : Int) (s : Nat → PK) (k : Nat) : VX → St MObj → Prop := fun x st =>
  (x = .exit 1 ∨ x = .normal) ∧ ∃ xs' s' t', Inv md xs' s' t' ∧ Rel k s t s' t' ∧ ∃ c' js, c ≤ c' ∧ c' ≤ c + 1 ∧ st = SF n np i ps rows ls N M xs' c' md t' s' js
section
variable {n i c md t : Int} {np N M : Nat} {ps rows ls : List (List Int)} {xs : List Int} {s : Nat → PK} (E : Ctx MObj) (hE : E.nid0 = 1) (hT : E.top = 70) (hD : ∀ b, 1 ≤ b → E.D b) (hmd : 0 ≤ md ∧ md < 9) (hc : 0 ≤ c ∧ c ≤ 100000) (h : Inv md xs s t)
include hE hT hD hmd hc h
theorem round0 (js : Nat → SV) : Tri MS Try.prog E (qt [true, true]) ⟨pre n np i ++ [.v (.int .i64 (.lit 0))] ++ junk js 134 16, base ps rows ls N M xs c md t (own md (s 0) (s 1) (s 2)) (vP 0 (s 0)) (vP 1 (s 1)) (vP 2 (s 2)) ++ [(10, oP 0 md (s 0)), (11, oP 1 md (s 1)), (12, oP 2 md (s 2))], 13, []⟩ (Post n np i ps rows ls N M c md t s 0) := by
  have hd : ∀ (l : List Nat), l.all (Nat.ble 1) = true → ∀ b, b ∈ l → E.D b := fun l hl b hb => hD b (Nat.le_of_ble_eq_true (List.all_eq_true.1 hl b hb))
  have ht : ∀ {k : Nat}, Nat.ble k 70 = true → k ≤ E.top := fun h => by rw [hT]; exact Nat.le_of_ble_eq_true h
  have hx := h.len
  refine Tri.postE (Q := fun x st => x = .normal ∧ ∀ aa ww, At MS E st aa ww → ∃ st', At MS E st' aa ww ∧ ∃ xs' s' t', Inv md xs' s' t' ∧ Rel 0 s t s' t' ∧ ∃ c' js, c ≤ c' ∧ c' ≤ c + 1 ∧ st' = SF n np i ps rows ls N M xs' c' md t' s' js) ?_ fun x st aa ww hh hat => let ⟨st', h1, h2⟩ := hh.2 aa ww hat; ⟨st', h1, .inr hh.1, h2⟩
  cases hs : s 0 with
  | z =>
    refine Tri.preHp (hp' := base ps rows ls N M (xs) (c) md t (own md (.z) (s 1) (s 2)) .nilp (vP 1 (s 1)) (vP 2 (s 2)) ++ [(11, oP 1 md (s 1)), (12, oP 2 md (s 2))]) (fun q => hget_none (l1 := base ps rows ls N M (xs) (c) md t (own md (.z) (s 1) (s 2)) .nilp (vP 1 (s 1)) (vP 2 (s 2)) ++ []) (n := 10) (l2 := [(11, oP 1 md (s 1)), (12, oP 2 md (s 2))]) rfl q) ?_
    exact Tri.allR (m := 15) (n := 135) (codeOK _) (z0 n i c md t np N M ps rows ls xs (oI md (s 1) 0) (oI md (s 1) 1) (oI md (s 1) 2) (oI md (s 1) 3) (oI md (s 2) 0) (oI md (s 2) 1) (oI md (s 2) 2) (oI md (s 2) 3) (vP 1 (s 1)) (vP 2 (s 2)) (oP 1 md (s 1)) (oP 2 md (s 2)) js hx hc hmd h.hN h.hM h.hK h.hL) (Tr.all_ite (fun _ => Tr.all_ok ⟨rfl, ht rfl, hd _ rfl, fun js => ⟨rfl, fun aa ww hat => let ⟨js', h'⟩ := born0 (how := fun r => own_keep r md .z (s 1) (s 2)) (al := 0) (pc := 4) (i := i) (n := n) (np := np) (c := c + 1) (t := t) (xs := xs) (js := js) (d := []) (s1 := s 1) (s2 := s 2) hE hT (at_wk2 (dirty' := []) (hp' := base ps rows ls N M (xs) (c + 1) md t (own md (.z) (s 1) (s 2)) (.ptr 16 0) (vP 1 (s 1)) (vP 2 (s 2)) ++ [(11, oP 1 md (s 1)), (12, oP 2 md (s 2)), (16, some (po 0 0 0 0 0 5 md 0 0 0 4))]) (by repeat' (first | exact trivial | refine ⟨.inl rfl, ?_⟩ | refine ⟨.inr ⟨_, _, _, rfl, rfl, (by (repeat' apply And.intro) <;> first | rfl | trivial | exact h.hN | exact h.hM | exact h.hK | exact h.hL)⟩, ?_⟩)) hat); ⟨_, h', xs, upd s 0 (.t 0), t, (h.move (k := 0) (by decide) (by simp) (by rw [hs]; simp) (by rw [hs]; simp only [pot]; decide)).1, (h.move (k := 0) (by decide) (by simp) (by rw [hs]; simp) (by rw [hs]; simp only [pot]; decide)).2, c + 1, js', by omega, by omega, rfl⟩⟩⟩) fun _ => Tr.all_ite (fun _ => Tr.all_ok ⟨rfl, ht rfl, hd _ rfl, fun js => ⟨rfl, fun aa ww hat => let ⟨js', h'⟩ := born0 (how := fun r => own_keep r md .z (s 1) (s 2)) (al := 0) (pc := 2) (i := i) (n := n) (np := np) (c := c + 1) (t := t) (xs := xs) (js := js) (d := []) (s1 := s 1) (s2 := s 2) hE hT (at_wk2 (dirty' := []) (hp' := base ps rows ls N M (xs) (c + 1) md t (own md (.z) (s 1) (s 2)) (.ptr 16 0) (vP 1 (s 1)) (vP 2 (s 2)) ++ [(11, oP 1 md (s 1)), (12, oP 2 md (s 2)), (16, some (po 0 0 0 0 0 5 md 0 0 0 2))]) (by repeat' (first | exact trivial | refine ⟨.inl rfl, ?_⟩ | refine ⟨.inr ⟨_, _, _, rfl, rfl, (by (repeat' apply And.intro) <;> first | rfl | trivial | exact h.hN | exact h.hM | exact h.hK | exact h.hL)⟩, ?_⟩)) hat); ⟨_, h', xs, upd s 0 (.l 0), t, (h.move (k := 0) (by decide) (by simp) (by rw [hs]; simp) (by rw [hs]; simp only [pot]; decide)).1, (h.move (k := 0) (by decide) (by simp) (by rw [hs]; simp) (by rw [hs]; simp only [pot]; decide)).2, c + 1, js', by omega, by omega, rfl⟩⟩⟩) fun _ => Tr.all_ite (fun _ => Tr.all_ok ⟨rfl, ht rfl, hd _ rfl, fun js => ⟨rfl, fun aa ww hat => let ⟨js', h'⟩ := born0 (how := fun r => own_keep r md .z (s 1) (s 2)) (al := 0) (pc := 4) (i := i) (n := n) (np := np) (c := c + 1) (t := t) (xs := xs) (js := js) (d := []) (s1 := s 1) (s2 := s 2) hE hT (at_wk2 (dirty' := []) (hp' := base ps rows ls N M (xs) (c + 1) md t (own md (.z) (s 1) (s 2)) (.ptr 16 0) (vP 1 (s 1)) (vP 2 (s 2)) ++ [(11, oP 1 md (s 1)), (12, oP 2 md (s 2)), (16, some (po 0 0 0 0 0 5 md 0 0 0 4))]) (by repeat' (first | exact trivial | refine ⟨.inl rfl, ?_⟩ | refine ⟨.inr ⟨_, _, _, rfl, rfl, (by (repeat' apply And.intro) <;> first | rfl | trivial | exact h.hN | exact h.hM | exact h.hK | exact h.hL)⟩, ?_⟩)) hat); ⟨_, h', xs, upd s 0 (.t 0), t, (h.move (k := 0) (by decide) (by simp) (by rw [hs]; simp) (by rw [hs]; simp only [pot]; decide)).1, (h.move (k := 0) (by decide) (by simp) (by rw [hs]; simp) (by rw [hs]; simp only [pot]; decide)).2, c + 1, js', by omega, by omega, rfl⟩⟩⟩) fun _ => Tr.all_ok ⟨rfl, ht rfl, hd _ rfl, fun js => ⟨rfl, fun aa ww hat => let ⟨js', h'⟩ := born0 (how := fun r => own_keep r md .z (s 1) (s 2)) (al := 0) (pc := 4) (i := i) (n := n) (np := np) (c := c + 1) (t := t) (xs := xs) (js := js) (d := []) (s1 := s 1) (s2 := s 2) hE hT (at_wk2 (dirty' := []) (hp' := base ps rows ls N M (xs) (c + 1) md t (own md (.z) (s 1) (s 2)) (.ptr 16 0) (vP 1 (s 1)) (vP 2 (s 2)) ++ [(11, oP 1 md (s 1)), (12, oP 2 md (s 2)), (16, some (po 0 0 0 0 0 5 md 0 0 0 4))]) (by repeat' (first | exact trivial | refine ⟨.inl rfl, ?_⟩ | refine ⟨.inr ⟨_, _, _, rfl, rfl, (by (repeat' apply And.intro) <;> first | rfl | trivial | exact h.hN | exact h.hM | exact h.hK | exact h.hL)⟩, ?_⟩)) hat); ⟨_, h', xs, upd s 0 (.t 0), t, (h.move (k := 0) (by decide) (by simp) (by rw [hs]; simp) (by rw [hs]; simp only [pot]; decide)).1, (h.move (k := 0) (by decide) (by simp) (by rw [hs]; simp) (by rw [hs]; simp only [pot]; decide)).2, c + 1, js', by omega, by omega, rfl⟩⟩⟩)
  | l al =>
    exact Tri.allR (m := 15) (n := 135) (codeOK _) (l0 n i c md t np N M ps rows ls xs (oI md (s 1) 0) (oI md (s 1) 1) (oI md (s 1) 2) (oI md (s 1) 3) (oI md (s 2) 0) (oI md (s 2) 1) (oI md (s 2) 2) (oI md (s 2) 3) (vP 1 (s 1)) (vP 2 (s 2)) (oP 1 md (s 1)) (oP 2 md (s 2)) js al hx hc hmd) (Tr.all_ok ⟨rfl, ht rfl, hd _ rfl, fun js => ⟨rfl, fun aa ww hat => ⟨_, hat, xs, upd s 0 (.t (W (xs.getD 9 0))), t, (h.move (k := 0) (by decide) (by simp) (by rw [hs]; simp) (by rw [hs]; simp only [pot]; decide)).1, (h.move (k := 0) (by decide) (by simp) (by rw [hs]; simp) (by rw [hs]; simp only [pot]; decide)).2, c + 1, js, by omega, by omega, rfl⟩⟩⟩)
  | t al =>
    exact Tri.allR (m := 15) (n := 135) (codeOK _) (t0 n i c md t np N M ps rows ls xs (oI md (s 1) 0) (oI md (s 1) 1) (oI md (s 1) 2) (oI md (s 1) 3) (oI md (s 2) 0) (oI md (s 2) 1) (oI md (s 2) 2) (oI md (s 2) 3) (vP 1 (s 1)) (vP 2 (s 2)) (oP 1 md (s 1)) (oP 2 md (s 2)) js al hx hc hmd) (Tr.all_ok ⟨rfl, ht rfl, hd _ rfl, fun js => ⟨rfl, fun aa ww hat => let ⟨js', h'⟩ := drop0 (xs := xs.set 10 5) (c := c + 1) (t := t) (how := fun r => own_keep r md .q (s 1) (s 2)) (i := i) (n := n) (np := np) (s1 := s 1) (s2 := s 2) (d := []) hE hT rfl rfl rfl hat; ⟨_, h', xs.set 10 5, upd s 0 .q, t, (h.tell (k := 0) (by decide)).1, (h.tell (k := 0) (by decide)).2, c + 1, js', by omega, by omega, rfl⟩⟩⟩)
  | q =>
    refine Tri.preHp (hp' := base ps rows ls N M (xs) (c) md t (own md (.q) (s 1) (s 2)) .nilp (vP 1 (s 1)) (vP 2 (s 2)) ++ [(11, oP 1 md (s 1)), (12, oP 2 md (s 2))]) (fun q => hget_none (l1 := base ps rows ls N M (xs) (c) md t (own md (.q) (s 1) (s 2)) .nilp (vP 1 (s 1)) (vP 2 (s 2)) ++ []) (n := 10) (l2 := [(11, oP 1 md (s 1)), (12, oP 2 md (s 2))]) rfl q) ?_
    exact Tri.allR (m := 15) (n := 135) (codeOK _) (q0 n i c md t np N M ps rows ls xs (oI md (s 1) 0) (oI md (s 1) 1) (oI md (s 1) 2) (oI md (s 1) 3) (oI md (s 2) 0) (oI md (s 2) 1) (oI md (s 2) 2) (oI md (s 2) 3) (vP 1 (s 1)) (vP 2 (s 2)) (oP 1 md (s 1)) (oP 2 md (s 2)) js hx hc hmd h.hN h.hM h.hK h.hL) (Tr.all_ok ⟨rfl, ht rfl, hd _ rfl, fun js => ⟨rfl, fun aa ww hat => let ⟨js', h'⟩ := drop0 (xs := xs) (c := c + 1) (t := t) (how := fun r => own_keep r md .q (s 1) (s 2)) (i := i) (n := n) (np := np) (s1 := s 1) (s2 := s 2) (d := []) hE hT rfl rfl rfl hat; ⟨_, h', xs, s, t, h, h.stay (k := 0) (by decide) hs, c + 1, js', by omega, by omega, (show S n np i ps rows ls N M xs (c + 1) md t .q (s 1) (s 2) js' = SF n np i ps rows ls N M xs (c + 1) md t s js' by rw [← hs])⟩⟩⟩)
theorem round1 (js : Nat → SV) : Tri MS Try.prog E (qt [true, true]) ⟨pre n np i ++ [.v (.int .i64 (.lit 1))] ++ junk js 134 16, base ps rows ls N M xs c md t (own md (s 0) (s 1) (s 2)) (vP 0 (s 0)) (vP 1 (s 1)) (vP 2 (s 2)) ++ [(10, oP 0 md (s 0)), (11, oP 1 md (s 1)), (12, oP 2 md (s 2))], 13, []⟩ (Post n np i ps rows ls N M c md t s 1) := by
  have hd : ∀ (l : List Nat), l.all (Nat.ble 1) = true → ∀ b, b ∈ l → E.D b := fun l hl b hb => hD b (Nat.le_of_ble_eq_true (List.all_eq_true.1 hl b hb))
  have ht : ∀ {k : Nat}, Nat.ble k 70 = true → k ≤ E.top := fun h => by rw [hT]; exact Nat.le_of_ble_eq_true h
  have hx := h.len
  refine Tri.postE (Q := fun x st => x = .normal ∧ ∀ aa ww, At MS E st aa ww → ∃ st', At MS E st' aa ww ∧ ∃ xs' s' t', Inv md xs' s' t' ∧ Rel 1 s t s' t' ∧ ∃ c' js, c ≤ c' ∧ c' ≤ c + 1 ∧ st' = SF n np i ps rows ls N M xs' c' md t' s' js) ?_ fun x st aa ww hh hat => let ⟨st', h1, h2⟩ := hh.2 aa ww hat; ⟨st', h1, .inr hh.1, h2⟩
  cases hs : s 1 with
  | z =>
    refine Tri.preHp (hp' := base ps rows ls N M (xs) (c) md t (own md (s 0) (.z) (s 2)) (vP 0 (s 0)) .nilp (vP 2 (s 2)) ++ [(10, oP 0 md (s 0)), (12, oP 2 md (s 2))]) (fun q => hget_none (l1 := base ps rows ls N M (xs) (c) md t (own md (s 0) (.z) (s 2)) (vP 0 (s 0)) .nilp (vP 2 (s 2)) ++ [(10, oP 0 md (s 0))]) (n := 11) (l2 := [(12, oP 2 md (s 2))]) rfl q) ?_
    exact Tri.allR (m := 15) (n := 135) (codeOK _) (z1 n i c md t np N M ps rows ls xs (oI md (s 0) 0) (oI md (s 0) 1) (oI md (s 0) 2) (oI md (s 0) 3) (oI md (s 2) 0) (oI md (s 2) 1) (oI md (s 2) 2) (oI md (s 2) 3) (vP 0 (s 0)) (vP 2 (s 2)) (oP 0 md (s 0)) (oP 2 md (s 2)) js hx hc hmd h.hN h.hM h.hK h.hL) (Tr.all_ite (fun _ => Tr.all_ok ⟨rfl, ht rfl, hd _ rfl, fun js => ⟨rfl, fun aa ww hat => let ⟨js', h'⟩ := born1 (how := fun r => own_keep r md (s 0) .z (s 2)) (al := 0) (pc := 4) (i := i) (n := n) (np := np) (c := c + 1) (t := t) (xs := xs) (js := js) (d := []) (s0 := s 0) (s2 := s 2) hE hT (at_wk2 (dirty' := []) (hp' := base ps rows ls N M (xs) (c + 1) md t (own md (s 0) (.z) (s 2)) (vP 0 (s 0)) (.ptr 16 0) (vP 2 (s 2)) ++ [(10, oP 0 md (s 0)), (12, oP 2 md (s 2)), (16, some (po 1 0 0 0 0 5 md 0 0 0 4))]) (by repeat' (first | exact trivial | refine ⟨.inl rfl, ?_⟩ | refine ⟨.inr ⟨_, _, _, rfl, rfl, (by (repeat' apply And.intro) <;> first | rfl | trivial | exact h.hN | exact h.hM | exact h.hK | exact h.hL)⟩, ?_⟩)) hat); ⟨_, h', xs, upd s 1 (.t 0), t, (h.move (k := 1) (by decide) (by simp) (by rw [hs]; simp) (by rw [hs]; simp only [pot]; decide)).1, (h.move (k := 1) (by decide) (by simp) (by rw [hs]; simp) (by rw [hs]; simp only [pot]; decide)).2, c + 1, js', by omega, by omega, rfl⟩⟩⟩) fun _ => Tr.all_ite (fun _ => Tr.all_ok ⟨rfl, ht rfl, hd _ rfl, fun js => ⟨rfl, fun aa ww hat => let ⟨js', h'⟩ := born1 (how := fun r => own_keep r md (s 0) .z (s 2)) (al := 0) (pc := 2) (i := i) (n := n) (np := np) (c := c + 1) (t := t) (xs := xs) (js := js) (d := []) (s0 := s 0) (s2 := s 2) hE hT (at_wk2 (dirty' := []) (hp' := base ps rows ls N M (xs) (c + 1) md t (own md (s 0) (.z) (s 2)) (vP 0 (s 0)) (.ptr 16 0) (vP 2 (s 2)) ++ [(10, oP 0 md (s 0)), (12, oP 2 md (s 2)), (16, some (po 1 0 0 0 0 5 md 0 0 0 2))]) (by repeat' (first | exact trivial | refine ⟨.inl rfl, ?_⟩ | refine ⟨.inr ⟨_, _, _, rfl, rfl, (by (repeat' apply And.intro) <;> first | rfl | trivial | exact h.hN | exact h.hM | exact h.hK | exact h.hL)⟩, ?_⟩)) hat); ⟨_, h', xs, upd s 1 (.l 0), t, (h.move (k := 1) (by decide) (by simp) (by rw [hs]; simp) (by rw [hs]; simp only [pot]; decide)).1, (h.move (k := 1) (by decide) (by simp) (by rw [hs]; simp) (by rw [hs]; simp only [pot]; decide)).2, c + 1, js', by omega, by omega, rfl⟩⟩⟩) fun _ => Tr.all_ite (fun _ => Tr.all_ok ⟨rfl, ht rfl, hd _ rfl, fun js => ⟨rfl, fun aa ww hat => let ⟨js', h'⟩ := born1 (how := fun r => own_keep r md (s 0) .z (s 2)) (al := 0) (pc := 4) (i := i) (n := n) (np := np) (c := c + 1) (t := t) (xs := xs) (js := js) (d := []) (s0 := s 0) (s2 := s 2) hE hT (at_wk2 (dirty' := []) (hp' := base ps rows ls N M (xs) (c + 1) md t (own md (s 0) (.z) (s 2)) (vP 0 (s 0)) (.ptr 16 0) (vP 2 (s 2)) ++ [(10, oP 0 md (s 0)), (12, oP 2 md (s 2)), (16, some (po 1 0 0 0 0 5 md 0 0 0 4))]) (by repeat' (first | exact trivial | refine ⟨.inl rfl, ?_⟩ | refine ⟨.inr ⟨_, _, _, rfl, rfl, (by (repeat' apply And.intro) <;> first | rfl | trivial | exact h.hN | exact h.hM | exact h.hK | exact h.hL)⟩, ?_⟩)) hat); ⟨_, h', xs, upd s 1 (.t 0), t, (h.move (k := 1) (by decide) (by simp) (by rw [hs]; simp) (by rw [hs]; simp only [pot]; decide)).1, (h.move (k := 1) (by decide) (by simp) (by rw [hs]; simp) (by rw [hs]; simp only [pot]; decide)).2, c + 1, js', by omega, by omega, rfl⟩⟩⟩) fun _ => Tr.all_ok ⟨rfl, ht rfl, hd _ rfl, fun js => ⟨rfl, fun aa ww hat => let ⟨js', h'⟩ := born1 (how := fun r => own_keep r md (s 0) .z (s 2)) (al := 0) (pc := 4) (i := i) (n := n) (np := np) (c := c + 1) (t := t) (xs := xs) (js := js) (d := []) (s0 := s 0) (s2 := s 2) hE hT (at_wk2 (dirty' := []) (hp' := base ps rows ls N M (xs) (c + 1) md t (own md (s 0) (.z) (s 2)) (vP 0 (s 0)) (.ptr 16 0) (vP 2 (s 2)) ++ [(10, oP 0 md (s 0)), (12, oP 2 md (s 2)), (16, some (po 1 0 0 0 0 5 md 0 0 0 4))]) (by repeat' (first | exact trivial | refine ⟨.inl rfl, ?_⟩ | refine ⟨.inr ⟨_, _, _, rfl, rfl, (by (repeat' apply And.intro) <;> first | rfl | trivial | exact h.hN | exact h.hM | exact h.hK | exact h.hL)⟩, ?_⟩)) hat); ⟨_, h', xs, upd s 1 (.t 0), t, (h.move (k := 1) (by decide) (by simp) (by rw [hs]; simp) (by rw [hs]; simp only [pot]; decide)).1, (h.move (k := 1) (by decide) (by simp) (by rw [hs]; simp) (by rw [hs]; simp only [pot]; decide)).2, c + 1, js', by omega, by omega, rfl⟩⟩⟩)
  | l al =>
    exact Tri.allR (m := 15) (n := 135) (codeOK _) (l1 n i c md t np N M ps rows ls xs (oI md (s 0) 0) (oI md (s 0) 1) (oI md (s 0) 2) (oI md (s 0) 3) (oI md (s 2) 0) (oI md (s 2) 1) (oI md (s 2) 2) (oI md (s 2) 3) (vP 0 (s 0)) (vP 2 (s 2)) (oP 0 md (s 0)) (oP 2 md (s 2)) js al hx hc hmd) (Tr.all_ok ⟨rfl, ht rfl, hd _ rfl, fun js => ⟨rfl, fun aa ww hat => ⟨_, hat, xs, upd s 1 (.t (W (xs.getD 9 0))), t, (h.move (k := 1) (by decide) (by simp) (by rw [hs]; simp) (by rw [hs]; simp only [pot]; decide)).1, (h.move (k := 1) (by decide) (by simp) (by rw [hs]; simp) (by rw [hs]; simp only [pot]; decide)).2, c + 1, js, by omega, by omega, rfl⟩⟩⟩)
  | t al =>
    exact Tri.allR (m := 15) (n := 135) (codeOK _) (t1 n i c md t np N M ps rows ls xs (oI md (s 0) 0) (oI md (s 0) 1) (oI md (s 0) 2) (oI md (s 0) 3) (oI md (s 2) 0) (oI md (s 2) 1) (oI md (s 2) 2) (oI md (s 2) 3) (vP 0 (s 0)) (vP 2 (s 2)) (oP 0 md (s 0)) (oP 2 md (s 2)) js al hx hc hmd) (Tr.all_ok ⟨rfl, ht rfl, hd _ rfl, fun js => ⟨rfl, fun aa ww hat => let ⟨js', h'⟩ := drop1 (xs := xs.set 11 5) (c := c + 1) (t := t) (how := fun r => own_keep r md (s 0) .q (s 2)) (i := i) (n := n) (np := np) (s0 := s 0) (s2 := s 2) (d := []) hE hT rfl rfl rfl hat; ⟨_, h', xs.set 11 5, upd s 1 .q, t, (h.tell (k := 1) (by decide)).1, (h.tell (k := 1) (by decide)).2, c + 1, js', by omega, by omega, rfl⟩⟩⟩)
  | q =>
    refine Tri.preHp (hp' := base ps rows ls N M (xs) (c) md t (own md (s 0) (.q) (s 2)) (vP 0 (s 0)) .nilp (vP 2 (s 2)) ++ [(10, oP 0 md (s 0)), (12, oP 2 md (s 2))]) (fun q => hget_none (l1 := base ps rows ls N M (xs) (c) md t (own md (s 0) (.q) (s 2)) (vP 0 (s 0)) .nilp (vP 2 (s 2)) ++ [(10, oP 0 md (s 0))]) (n := 11) (l2 := [(12, oP 2 md (s 2))]) rfl q) ?_
    exact Tri.allR (m := 15) (n := 135) (codeOK _) (q1 n i c md t np N M ps rows ls xs (oI md (s 0) 0) (oI md (s 0) 1) (oI md (s 0) 2) (oI md (s 0) 3) (oI md (s 2) 0) (oI md (s 2) 1) (oI md (s 2) 2) (oI md (s 2) 3) (vP 0 (s 0)) (vP 2 (s 2)) (oP 0 md (s 0)) (oP 2 md (s 2)) js hx hc hmd h.hN h.hM h.hK h.hL) (Tr.all_ok ⟨rfl, ht rfl, hd _ rfl, fun js => ⟨rfl, fun aa ww hat => let ⟨js', h'⟩ := drop1 (xs := xs) (c := c + 1) (t := t) (how := fun r => own_keep r md (s 0) .q (s 2)) (i := i) (n := n) (np := np) (s0 := s 0) (s2 := s 2) (d := []) hE hT rfl rfl rfl hat; ⟨_, h', xs, s, t, h, h.stay (k := 1) (by decide) hs, c + 1, js', by omega, by omega, (show S n np i ps rows ls N M xs (c + 1) md t (s 0) .q (s 2) js' = SF n np i ps rows ls N M xs (c + 1) md t s js' by rw [← hs])⟩⟩⟩)
theorem round2 (js : Nat → SV) : Tri MS Try.prog E (qt [true, true]) ⟨pre n np i ++ [.v (.int .i64 (.lit 2))] ++ junk js 134 16, base ps rows ls N M xs c md t (own md (s 0) (s 1) (s 2)) (vP 0 (s 0)) (vP 1 (s 1)) (vP 2 (s 2)) ++ [(10, oP 0 md (s 0)), (11, oP 1 md (s 1)), (12, oP 2 md (s 2))], 13, []⟩ (Post n np i ps rows ls N M c md t s 2) := by
  have hd : ∀ (l : List Nat), l.all (Nat.ble 1) = true → ∀ b, b ∈ l → E.D b := fun l hl b hb => hD b (Nat.le_of_ble_eq_true (List.all_eq_true.1 hl b hb))
  have ht : ∀ {k : Nat}, Nat.ble k 70 = true → k ≤ E.top := fun h => by rw [hT]; exact Nat.le_of_ble_eq_true h
  have hx := h.len
  refine Tri.postE (Q := fun x st => x = .normal ∧ ∀ aa ww, At MS E st aa ww → ∃ st', At MS E st' aa ww ∧ ∃ xs' s' t', Inv md xs' s' t' ∧ Rel 2 s t s' t' ∧ ∃ c' js, c ≤ c' ∧ c' ≤ c + 1 ∧ st' = SF n np i ps rows ls N M xs' c' md t' s' js) ?_ fun x st aa ww hh hat => let ⟨st', h1, h2⟩ := hh.2 aa ww hat; ⟨st', h1, .inr hh.1, h2⟩
  cases hs : s 2 with
  | z =>
    refine Tri.preHp (hp' := base ps rows ls N M (xs) (c) md t (own md (s 0) (s 1) (.z)) (vP 0 (s 0)) (vP 1 (s 1)) .nilp ++ [(10, oP 0 md (s 0)), (11, oP 1 md (s 1))]) (fun q => hget_none (l1 := base ps rows ls N M (xs) (c) md t (own md (s 0) (s 1) (.z)) (vP 0 (s 0)) (vP 1 (s 1)) .nilp ++ [(10, oP 0 md (s 0)), (11, oP 1 md (s 1))]) (n := 12) (l2 := []) rfl q) ?_
    exact Tri.allR (m := 15) (n := 135) (codeOK _) (z2 n i c md t np N M ps rows ls xs (oI md (s 0) 0) (oI md (s 0) 1) (oI md (s 0) 2) (oI md (s 0) 3) (oI md (s 1) 0) (oI md (s 1) 1) (oI md (s 1) 2) (oI md (s 1) 3) (vP 0 (s 0)) (vP 1 (s 1)) (oP 0 md (s 0)) (oP 1 md (s 1)) js hx hc hmd h.hN h.hM h.hK h.hL) (Tr.all_ite (fun _ => Tr.all_ok ⟨rfl, ht rfl, hd _ rfl, fun js => ⟨rfl, fun aa ww hat => let ⟨js', h'⟩ := born2 (how := fun r => own_keep r md (s 0) (s 1) .z) (al := 0) (pc := 4) (i := i) (n := n) (np := np) (c := c + 1) (t := t) (xs := xs) (js := js) (d := []) (s0 := s 0) (s1 := s 1) hE hT (at_wk2 (dirty' := []) (hp' := base ps rows ls N M (xs) (c + 1) md t (own md (s 0) (s 1) (.z)) (vP 0 (s 0)) (vP 1 (s 1)) (.ptr 16 0) ++ [(10, oP 0 md (s 0)), (11, oP 1 md (s 1)), (16, some (po 2 0 0 0 0 5 md 0 0 0 4))]) (by repeat' (first | exact trivial | refine ⟨.inl rfl, ?_⟩ | refine ⟨.inr ⟨_, _, _, rfl, rfl, (by (repeat' apply And.intro) <;> first | rfl | trivial | exact h.hN | exact h.hM | exact h.hK | exact h.hL)⟩, ?_⟩)) hat); ⟨_, h', xs, upd s 2 (.t 0), t, (h.move (k := 2) (by decide) (by simp) (by rw [hs]; simp) (by rw [hs]; simp only [pot]; decide)).1, (h.move (k := 2) (by decide) (by simp) (by rw [hs]; simp) (by rw [hs]; simp only [pot]; decide)).2, c + 1, js', by omega, by omega, rfl⟩⟩⟩) fun _ => Tr.all_ite (fun _ => Tr.all_ok ⟨rfl, ht rfl, hd _ rfl, fun js => ⟨rfl, fun aa ww hat => let ⟨js', h'⟩ := born2 (how := fun r => own_keep r md (s 0) (s 1) .z) (al := 0) (pc := 2) (i := i) (n := n) (np := np) (c := c + 1) (t := t) (xs := xs) (js := js) (d := []) (s0 := s 0) (s1 := s 1) hE hT (at_wk2 (dirty' := []) (hp' := base ps rows ls N M (xs) (c + 1) md t (own md (s 0) (s 1) (.z)) (vP 0 (s 0)) (vP 1 (s 1)) (.ptr 16 0) ++ [(10, oP 0 md (s 0)), (11, oP 1 md (s 1)), (16, some (po 2 0 0 0 0 5 md 0 0 0 2))]) (by repeat' (first | exact trivial | refine ⟨.inl rfl, ?_⟩ | refine ⟨.inr ⟨_, _, _, rfl, rfl, (by (repeat' apply And.intro) <;> first | rfl | trivial | exact h.hN | exact h.hM | exact h.hK | exact h.hL)⟩, ?_⟩)) hat); ⟨_, h', xs, upd s 2 (.l 0), t, (h.move (k := 2) (by decide) (by simp) (by rw [hs]; simp) (by rw [hs]; simp only [pot]; decide)).1, (h.move (k := 2) (by decide) (by simp) (by rw [hs]; simp) (by rw [hs]; simp only [pot]; decide)).2, c + 1, js', by omega, by omega, rfl⟩⟩⟩) fun _ => Tr.all_ite (fun _ => Tr.all_ok ⟨rfl, ht rfl, hd _ rfl, fun js => ⟨rfl, fun aa ww hat => let ⟨js', h'⟩ := born2 (how := fun r => own_keep r md (s 0) (s 1) .z) (al := 0) (pc := 4) (i := i) (n := n) (np := np) (c := c + 1) (t := t) (xs := xs) (js := js) (d := []) (s0 := s 0) (s1 := s 1) hE hT (at_wk2 (dirty' := []) (hp' := base ps rows ls N M (xs) (c + 1) md t (own md (s 0) (s 1) (.z)) (vP 0 (s 0)) (vP 1 (s 1)) (.ptr 16 0) ++ [(10, oP 0 md (s 0)), (11, oP 1 md (s 1)), (16, some (po 2 0 0 0 0 5 md 0 0 0 4))]) (by repeat' (first | exact trivial | refine ⟨.inl rfl, ?_⟩ | refine ⟨.inr ⟨_, _, _, rfl, rfl, (by (repeat' apply And.intro) <;> first | rfl | trivial | exact h.hN | exact h.hM | exact h.hK | exact h.hL)⟩, ?_⟩)) hat); ⟨_, h', xs, upd s 2 (.t 0), t, (h.move (k := 2) (by decide) (by simp) (by rw [hs]; simp) (by rw [hs]; simp only [pot]; decide)).1, (h.move (k := 2) (by decide) (by simp) (by rw [hs]; simp) (by rw [hs]; simp only [pot]; decide)).2, c + 1, js', by omega, by omega, rfl⟩⟩⟩) fun _ => Tr.all_ok ⟨rfl, ht rfl, hd _ rfl, fun js => ⟨rfl, fun aa ww hat => let ⟨js', h'⟩ := born2 (how := fun r => own_keep r md (s 0) (s 1) .z) (al := 0) (pc := 4) (i := i) (n := n) (np := np) (c := c + 1) (t := t) (xs := xs) (js := js) (d := []) (s0 := s 0) (s1 := s 1) hE hT (at_wk2 (dirty' := []) (hp' := base ps rows ls N M (xs) (c + 1) md t (own md (s 0) (s 1) (.z)) (vP 0 (s 0)) (vP 1 (s 1)) (.ptr 16 0) ++ [(10, oP 0 md (s 0)), (11, oP 1 md (s 1)), (16, some (po 2 0 0 0 0 5 md 0 0 0 4))]) (by repeat' (first | exact trivial | refine ⟨.inl rfl, ?_⟩ | refine ⟨.inr ⟨_, _, _, rfl, rfl, (by (repeat' apply And.intro) <;> first | rfl | trivial | exact h.hN | exact h.hM | exact h.hK | exact h.hL)⟩, ?_⟩)) hat); ⟨_, h', xs, upd s 2 (.t 0), t, (h.move (k := 2) (by decide) (by simp) (by rw [hs]; simp) (by rw [hs]; simp only [pot]; decide)).1, (h.move (k := 2) (by decide) (by simp) (by rw [hs]; simp) (by rw [hs]; simp only [pot]; decide)).2, c + 1, js', by omega, by omega, rfl⟩⟩⟩)
  | l al =>
    exact Tri.allR (m := 15) (n := 135) (codeOK _) (l2 n i c md t np N M ps rows ls xs (oI md (s 0) 0) (oI md (s 0) 1) (oI md (s 0) 2) (oI md (s 0) 3) (oI md (s 1) 0) (oI md (s 1) 1) (oI md (s 1) 2) (oI md (s 1) 3) (vP 0 (s 0)) (vP 1 (s 1)) (oP 0 md (s 0)) (oP 1 md (s 1)) js al hx hc hmd) (Tr.all_ok ⟨rfl, ht rfl, hd _ rfl, fun js => ⟨rfl, fun aa ww hat => ⟨_, hat, xs, upd s 2 (.t (W (xs.getD 9 0))), t, (h.move (k := 2) (by decide) (by simp) (by rw [hs]; simp) (by rw [hs]; simp only [pot]; decide)).1, (h.move (k := 2) (by decide) (by simp) (by rw [hs]; simp) (by rw [hs]; simp only [pot]; decide)).2, c + 1, js, by omega, by omega, rfl⟩⟩⟩)
  | t al =>
    exact Tri.allR (m := 15) (n := 135) (codeOK _) (t2 n i c md t np N M ps rows ls xs (oI md (s 0) 0) (oI md (s 0) 1) (oI md (s 0) 2) (oI md (s 0) 3) (oI md (s 1) 0) (oI md (s 1) 1) (oI md (s 1) 2) (oI md (s 1) 3) (vP 0 (s 0)) (vP 1 (s 1)) (oP 0 md (s 0)) (oP 1 md (s 1)) js al hx hc hmd) (Tr.all_ok ⟨rfl, ht rfl, hd _ rfl, fun js => ⟨rfl, fun aa ww hat => let ⟨js', h'⟩ := drop2 (xs := xs.set 12 5) (c := c + 1) (t := t) (how := fun r => own_keep r md (s 0) (s 1) .q) (i := i) (n := n) (np := np) (s0 := s 0) (s1 := s 1) (d := []) hE hT rfl rfl rfl hat; ⟨_, h', xs.set 12 5, upd s 2 .q, t, (h.tell (k := 2) (by decide)).1, (h.tell (k := 2) (by decide)).2, c + 1, js', by omega, by omega, rfl⟩⟩⟩)
  | q =>
    refine Tri.preHp (hp' := base ps rows ls N M (xs) (c) md t (own md (s 0) (s 1) (.q)) (vP 0 (s 0)) (vP 1 (s 1)) .nilp ++ [(10, oP 0 md (s 0)), (11, oP 1 md (s 1))]) (fun q => hget_none (l1 := base ps rows ls N M (xs) (c) md t (own md (s 0) (s 1) (.q)) (vP 0 (s 0)) (vP 1 (s 1)) .nilp ++ [(10, oP 0 md (s 0)), (11, oP 1 md (s 1))]) (n := 12) (l2 := []) rfl q) ?_
    exact Tri.allR (m := 15) (n := 135) (codeOK _) (q2 n i c md t np N M ps rows ls xs (oI md (s 0) 0) (oI md (s 0) 1) (oI md (s 0) 2) (oI md (s 0) 3) (oI md (s 1) 0) (oI md (s 1) 1) (oI md (s 1) 2) (oI md (s 1) 3) (vP 0 (s 0)) (vP 1 (s 1)) (oP 0 md (s 0)) (oP 1 md (s 1)) js hx hc hmd h.hN h.hM h.hK h.hL) (Tr.all_ok ⟨rfl, ht rfl, hd _ rfl, fun js => ⟨rfl, fun aa ww hat => let ⟨js', h'⟩ := drop2 (xs := xs) (c := c + 1) (t := t) (how := fun r => own_keep r md (s 0) (s 1) .q) (i := i) (n := n) (np := np) (s0 := s 0) (s1 := s 1) (d := []) hE hT rfl rfl rfl hat; ⟨_, h', xs, s, t, h, h.stay (k := 2) (by decide) hs, c + 1, js', by omega, by omega, (show S n np i ps rows ls N M xs (c + 1) md t (s 0) (s 1) .q js' = SF n np i ps rows ls N M xs (c + 1) md t s js' by rw [← hs])⟩⟩⟩)
end
end Go.Proofs.Ytdongoplhnpdiaa.ShakeAll
