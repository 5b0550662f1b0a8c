/-
  ViewNew: of a heap that is new nothing can be come to, and all words of its blocks are free; whatever the numbers of threads and blocks. Printed by genVN.py.
  Conditions: none but the row's own (its arguments are two ints).
-/
import Derived.Test.YtcolladpdmjloaaRows
import Derived.Test.YtcolladpdmjloaaEngZm
import Derived.Test.YtcolladpdmjloaaEngZn
import Derived.Test.YtcolladpdmjloaaEngZi
import Derived.Test.YtcolladpdmjloaaCViewNew0
import Derived.Test.YtcolladpdmjloaaCViewNew1
import Derived.Test.YtcolladpdmjloaaCViewNew2
import Derived.Test.YtcolladpdmjloaaCViewNew3
import Derived.Test.YtcolladpdmjloaaCViewNew4
import Derived.Test.YtcolladpdmjloaaCViewNew5
import Derived.Test.YtcolladpdmjloaaCViewNew6
import Derived.Test.YtcolladpdmjloaaCViewNew7
import Derived.Test.YtcolladpdmjloaaCViewNew8
import Derived.Test.YtcolladpdmjloaaCViewNew9
import Derived.Test.YtcolladpdmjloaaCViewNew10
import Derived.Test.YtcolladpdmjloaaCViewNew11
import Derived.Test.YtcolladpdmjloaaCViewNew12
import Derived.Test.YtcolladpdmjloaaCViewNew13
import Derived.Test.YtcolladpdmjloaaCViewNew14
import Derived.Test.YtcolladpdmjloaaCViewNew15
namespace Go.Proofs.Ytcolladpdmjloaa.ViewNew
open Go Go.RowKit Go.Proofs.Ytcolladpdmjloaa.Eng
set_option linter.unusedVariables false
set_option linter.unusedSimpArgs false
set_option linter.unusedSectionVars false
set_option maxRecDepth 20000
theorem codeOK (c : Code) : CodeOK MS Try.prog c (ev c) :=
  evCode_sound progOK (fun f args hp nid r h _ => evF_sound progOK (lookH_ok ViewC.tabF_ok) 400 20 f args hp nid r h) 400 c
theorem hb : Try.f3.body = some body := by kernel_rfl
noncomputable abbrev lb : Code := .seq (codeAt body [true, true, true, true, true, true, true, true, true, false, true, false, false, false]) (.seq (.block 1 (codeAt body [true, true, true, true, true, true, true, true, true, false, true, false, false, true, false, false])) (codeAt body [true, true, true, true, true, true, true, true, true, false, true, false, false, true, true]))
noncomputable abbrev finC : Code := .seq (.seq (codeAt body [true, true, true, true, true, true, true, true, true, false, false]) (.block 0 (.loop lb))) (codeAt body [true, true, true, true, true, true, true, true, true, true])
theorem restE : (Eng.spine 9 body).2 = finC := by kernel_rfl
abbrev Qt : VX → St MObj → Prop := fun x st => (x = .normal ∨ x = .ret) ∧ ∃ l, (vresults Try.prog st Try.f3.results.toList).run = some l ∧ IsTrue (tupleOf l)
theorem resX (x0 x1 x2 x3 : SV) (hp : HP MObj) (nid : Nat) (r : Bool) (js : Nat → SV) : vresults Try.prog (⟨[x0, x1, x2, x3, .v (.bool (.lit r))] ++ junk js 95 5, hp, nid, []⟩ : St MObj) Try.f3.results.toList = .ok [.one (.bool (.lit r))] := by kernel_rfl
section
variable (t b x h z : Int) (nn : Nat) (rows : List (List Int)) (d : Nat → SV) (hr : nn = rows.length) (hz : 0 ≤ z ∧ z ≤ nn ∧ nn ≤ 4000) (hg : ∀ i : Nat, i < nn → tabAt rows i 0 = if (i : Int) < h then 0 else 3) (E : Ctx MObj) (hT : 200 ≤ E.top) (hD : ∀ b, E.D b)
include hr hz hg hT hD
theorem last (x13 : SV) (js : Nat → SV) : Tri MS Try.prog E finC ⟨fpre d nn x13 ++ junk js 86 14, fhp t b x h z rows, 2, []⟩ Qt := by
  have ht : ∀ {k : Nat}, Nat.ble k 200 = true → k ≤ E.top := fun h => Nat.le_trans (Nat.le_of_ble_eq_true h) hT
  have hd : ∀ (l : List Nat), ∀ b, b ∈ l → E.D b := fun l b hb => hD b
  let Sk : Nat → (Nat → SV) → St MObj := fun k js => ⟨fpre d nn (.v (ii k)) ++ junk js 86 14, fhp t b x h z rows, 2, []⟩
  refine Tri.seq (R := fun x st => x = .normal ∧ ∃ k js, st = Sk k js) ?_ ?_ (fun x s hx hh => absurd hh.1 hx)
  · refine Tri.seq (R := fun x st => x = .normal ∧ ∃ js, st = Sk 0 js) ?_ ?_ (fun x s hx hh => absurd hh.1 hx)
    · refine Tri.postE (Q := fun y st => y = .normal ∧ ∃ js, st = (⟨fpre d nn (.v (lt 0)) ++ junk js 86 14, fhp t b x h z rows, 2, []⟩ : St MObj)) (Tri.allR (m := 14) (n := 86) (codeOK _) (vi t b x h z nn rows x13 d js hz.1) (Tr.all_ok ⟨rfl, ht rfl, hd _, fun js => ⟨rfl, js, rfl⟩⟩)) ?_
      rintro y st aa ww ⟨rfl, js, rfl⟩ hat
      exact ⟨_, at_slot (List.take 13 (fpre d nn (.v (lt 0)))) (x := .v (lt 0)) (y := .v (ii ((0 : Nat) : Int))) (l := junk js 86 14) (d' := []) ⟨rfl, rfl⟩ hat, rfl, js, rfl⟩
    · rintro st ⟨_, js, rfl⟩
      refine Tri.block (R := fun y st => y = .exit 0 ∧ ∃ k js, st = Sk k js) ?_ (fun s hh => by
        rcases hh with hh | hh
        · cases hh.1
        · exact ⟨rfl, hh.2⟩) (fun y s _ hx hh => absurd hh.1 hx)
      refine Tri.loop (J := fun q st => ∃ (k : Nat) (js : Nat → SV), st = Sk k js ∧ (k : Int) ≤ z ∧ q = z.toNat - k) ?_ (k := z.toNat) ⟨0, js, rfl, by omega, rfl⟩
      rintro q st ⟨k, js, rfl, hk, rfl⟩
      refine Tri.seq (R := fun y st => ((y = .normal ∧ (k : Int) < z) ∨ y = .exit 0) ∧ ∃ js, st = Sk k js) (Tri.allR (m := 14) (n := 86) (codeOK _) (vg t b x h z k nn rows d js hz.1) (Tr.all_ite (fun h1 => Tr.all_ok ⟨rfl, ht rfl, hd _, fun js => ⟨.inl ⟨rfl, of_decide_eq_true h1⟩, js, rfl⟩⟩) fun h1 => Tr.all_ok ⟨rfl, ht rfl, hd _, fun js => ⟨.inr rfl, js, rfl⟩⟩)) ?_ ?_
      · rintro st ⟨h1, js, rfl⟩
        have hkz : (k : Int) < z := by
          rcases h1 with h1 | h1
          · exact h1.2
          · cases h1
        have eN : 0 + Int.toNat (k : Int) = k := by omega
        have hgk := hg k (by omega)
        refine Tri.seq (R := fun y st => y = .normal ∧ ∃ js, st = Sk k js) ?_ ?_ (fun y s hx hh => absurd hh.1 hx)
        · refine Tri.block (R := fun y st => y = .normal ∧ ∃ js, st = Sk k js) ?_ (fun s hh => by
            rcases hh with hh | hh
            · exact hh
            · cases hh.1) (fun y s hx _ hh => absurd hh.1 hx)
          exact Tri.allR (m := 14) (n := 86) (codeOK _) (vb t b x h z k nn rows d js ⟨by omega, hkz⟩ ⟨hz.2.1, hz.2.2⟩ hr (fun hl => by rw [eN, hgk, if_pos hl]) (fun hl => by rw [eN, hgk, if_neg (by omega)])) (Tr.all_ite (fun h1 => Tr.all_ok ⟨rfl, ht rfl, hd _, fun js => ⟨rfl, js, rfl⟩⟩) fun h1 => Tr.all_ok ⟨rfl, ht rfl, hd _, fun js => ⟨rfl, js, rfl⟩⟩)
        · rintro st ⟨_, js, rfl⟩
          have e4 : W ((k : Int) + 1) = ((k + 1 : Nat) : Int) := wrap_i64_of (by omega) (by omega)
          refine Tri.allR (m := 14) (n := 86) (codeOK _) (vn t b x h z k nn rows d js (by omega)) (Tr.all_ok ⟨rfl, ht rfl, hd _, fun js => ⟨z.toNat - (k + 1), by omega, k + 1, js, ?_, by omega, rfl⟩⟩)
          simp only [Sk]
          rw [← e4]
      · rintro y st hx ⟨h1, js, rfl⟩
        rcases h1 with h1 | rfl
        · exact absurd h1.1 hx
        · exact ⟨rfl, k, js, rfl⟩
  · rintro st ⟨_, k, js, rfl⟩
    exact Tri.allR (m := 5) (n := 95) (codeOK _) (vf t b x h z k nn rows d js hz.1) (Tr.all_ok ⟨rfl, ht rfl, hd _, fun js => ⟨.inr rfl, _, (congrArg Tr.run (resX _ _ _ _ _ _ true js)).trans rfl, by simp [IsTrue, tupleOf]; rfl⟩⟩)
end
theorem rcons2 {r : List (Nat × Nat)} {x y : SV} {l m : List SV} (h : renSV r x = some y) (hl : renSVs r l = some m) : renSVs r (x :: l) = some (y :: m) := by
  simp only [renSVs, h, hl]
theorem beqF {a b : Nat} (h : (!(Nat.beq a b)) = true) : Nat.beq a b = false := by
  cases h2 : Nat.beq a b with
  | false => rfl
  | true => rw [h2] at h; cases h
/-- A list of so many slots, slot by slot. -/
theorem slots14 : ∀ {l : List SV}, l.length = 100 → ∃ x0 x1 x2 x3 x4 x5 x6 x7 x8 x9 x10 x11 x12 x13 m, l = x0 :: x1 :: x2 :: x3 :: x4 :: x5 :: x6 :: x7 :: x8 :: x9 :: x10 :: x11 :: x12 :: x13 :: m ∧ m.length = 86
  | x0 :: x1 :: x2 :: x3 :: x4 :: x5 :: x6 :: x7 :: x8 :: x9 :: x10 :: x11 :: x12 :: x13 :: m, h => ⟨x0, x1, x2, x3, x4, x5, x6, x7, x8, x9, x10, x11, x12, x13, m, rfl, by simpa using h⟩
def keepS (k : Nat) : Bool := Nat.beq k 4 || Nat.beq k 6 || Nat.beq k 11
theorem good_nid {st : St MObj} (h : good (.normal, st) = true) : st.nid ≤ 200 := by
  have hg : goodS st = true := h
  unfold goodS at hg
  split at hg
  · rw [Bool.and_eq_true] at hg
    have hg := hg.2
    unfold goodH at hg
    split at hg
    · simp only [Bool.and_eq_true] at hg
      exact Nat.le_of_ble_eq_true hg.2.1.2.1
    · cases hg
  · cases hg
theorem rest {st : St MObj} (hg : good (.normal, st) = true) (E : Ctx MObj) (hE : E.nid0 = 0) (hT : 200 ≤ E.top) (hD : ∀ b, E.D b) : Tri MS Try.prog E finC ⟨st.tm, st.hp, st.nid, []⟩ Qt := by
  obtain ⟨tm, hp, nid, dd⟩ := st
  have hg : goodS ⟨tm, hp, nid, dd⟩ = true := hg
  unfold goodS at hg
  simp only [nth_eq] at hg
  split at hg
  · rename_i P Q n h4 h6 h11
    rw [Bool.and_eq_true] at hg
    obtain ⟨hPQ, hg⟩ := hg
    have hPQ := beqF hPQ
    generalize e1 : hget hp P = oP at hg
    generalize e2 : hget hp Q = oQ at hg
    unfold goodH at hg
    split at hg
    · rename_i s0 s1 s2 s3 s4 ty0 rows ty1
      simp only [Bool.and_eq_true, decide_eq_true_eq] at hg
      obtain ⟨⟨rfl, rfl⟩, ⟨hl, hn, hck⟩, ⟨g1, g2, g3, g4⟩, g5⟩ := hg
      obtain ⟨x0, x1, x2, x3, x4, x5, x6, x7, x8, x9, x10, x11, x12, x13, m, rfl, hm⟩ := slots14 (Nat.eq_of_beq_eq_true hl)
      simp only [List.getElem?_cons_succ, List.getElem?_cons_zero, Option.some.injEq] at h4 h6 h11
      subst h4 h6 h11
      refine Tri.preE fun aa ww hat => ?_
      obtain ⟨d, hN, hat⟩ := at_keep keepS hat
      have eP : renSV [(P, 0), (Q, 1)] (.v (.ptr P 0)) = some (.v (.ptr 0 0)) := by
        simp only [renSV, renS1, renVV, rlook, Nat.beq_refl, Option.map_some]
      have eQ : renSV [(P, 0), (Q, 1)] (.v (.ts Q (.lit 0) n none)) = some (.v (.ts 1 (.lit 0) n none)) := by
        simp only [renSV, renS1, renVV, rlook, hPQ, Nat.beq_refl, Option.map_some]
      have h2 : renHP [(P, 0), (Q, 1)] hp [(P, 0), (Q, 1)] = some [(0, some (.cells [.int .i64 s0, .int .i64 s1, .int .i64 s2, .int .i64 s3, .int .i64 s4] 24)), (1, some (.tab [.int .i64] rows 3))] := by
        simp only [renHP, e1, e2, renObj, renVVs, renVV, Option.map_some]
      obtain ⟨js, hat⟩ := at_rename (dirty' := []) (m := 14) (n := 86) (pre := [d 0, d 1, d 2, d 3, .v (.bool (.lit false)), d 5, .v (.ptr P 0), d 7, d 8, d 9, d 10, .v (.ts Q (.lit 0) n none), d 12, d 13]) (pre' := [d 0, d 1, d 2, d 3, .v (.bool (.lit false)), d 5, .v (.ptr 0 0), d 7, d 8, d 9, d 10, .v (.ts 1 (.lit 0) n none), d 12, d 13]) [(P, 0), (Q, 1)] (nid' := 2) rfl (by rw [mixS_len]; simp [hm])
        (rcons2 (hN 0 _) (rcons2 (hN 1 _) (rcons2 (hN 2 _) (rcons2 (hN 3 _) (rcons2 rfl (rcons2 (hN 5 _) (rcons2 eP (rcons2 (hN 7 _) (rcons2 (hN 8 _) (rcons2 (hN 9 _) (rcons2 (hN 10 _) (rcons2 eQ (rcons2 (hN 12 _) (rcons2 (hN 13 _) rfl)))))))))))))) h2 (by rw [hE]; exact hck) (by rw [hE]; exact Nat.zero_le _) (by omega) hat
      have hat := at_slot [d 0, d 1, d 2, d 3, .v (.bool (.lit false)), d 5, .v (.ptr 0 0), d 7, d 8, d 9, d 10] (y := .v (.ts 1 (.lit 0) (.sym rows.length) none)) (d' := []) (by exact ⟨rfl, rfl, by exact_mod_cast g1, rfl⟩) hat
      have hat := at_wk2 (dirty' := []) (hp' := fhp s0.val s1.val s2.val s3.val s4.val rows) (by exact ⟨.inr ⟨_, _, _, rfl, rfl, ⟨⟨rfl, rfl⟩, ⟨rfl, rfl⟩, ⟨rfl, rfl⟩, ⟨rfl, rfl⟩, ⟨rfl, rfl⟩, trivial⟩, rfl⟩, .inl rfl, trivial⟩) hat
      refine ⟨_, hat, ?_⟩
      exact last s0.val s1.val s2.val s3.val s4.val rows.length rows d rfl ⟨g2, by omega, by omega⟩ (fun i hi => of_decide_eq_true (List.all_eq_true.1 g5 i (List.mem_range.2 hi))) E hT hD (d 13) js
    · cases hg
  · cases hg
theorem run_path2 {α : Type} {t : Tr α} {p cs : List Bool} (h1 : t.conds p = cs) (h2 : cs = p) : t.run = (t.path p).run := Tr.run_path (h1.trans h2)
/-- A case: the first statements, by the kernel's test. -/
theorem case (a0 a1 : Int) (h : (t a0 a1).run = some true) (E : Ctx MObj) (hE : E.nid0 = 0) (hT : 200 ≤ E.top) (hD : ∀ b, E.D b) : Tri MS Try.prog E body (st0 a0 a1) Qt := by
  rw [Tr.run_vmap] at h
  obtain ⟨⟨x, st⟩, h1, h2⟩ := h
  have h2 : good (x, st) = true := h2
  cases x with
  | exit k => cases h2
  | ret => cases h2
  | normal =>
    have hn : st.nid ≤ 200 := good_nid h2
    exact Tri.listE codeOK 9 restE h1 (Nat.le_trans hn hT) (fun b _ => hD b) (rest h2 E hE hT hD)
theorem law (a0 a1 : Int) (ha0 : CK.fits (.int .i64) a0) (ha1 : CK.fits (.int .i64) a1) (E : Ctx MObj) (hE : E.nid0 = 0) (hT : 200 ≤ E.top) (hD : ∀ b, E.D b) : Tri MS Try.prog E body (st0 a0 a1) Qt := by
  have k0 := kM_range (c := a0) (n := 8) (by decide) ha0
  have k1 := kM_range (c := a1) (n := 8) (by decide) ha1
  refine case a0 a1 ?_ E hE hT hD
  rcases (show kM a0 8 = 0 ∨ kM a0 8 = 1 ∨ kM a0 8 = 2 ∨ kM a0 8 = 3 ∨ kM a0 8 = 4 ∨ kM a0 8 = 5 ∨ kM a0 8 = 6 ∨ kM a0 8 = 7 by omega) with h0 | h0 | h0 | h0 | h0 | h0 | h0 | h0 <;> rcases (show kM a1 8 = 0 ∨ kM a1 8 = 1 ∨ kM a1 8 = 2 ∨ kM a1 8 = 3 ∨ kM a1 8 = 4 ∨ kM a1 8 = 5 ∨ kM a1 8 = 6 ∨ kM a1 8 = 7 by omega) with h1 | h1 | h1 | h1 | h1 | h1 | h1 | h1
  · exact (run_path2 (c0_0_0 a0 a1) (by simp [h0])).trans ((run_path2 (c0_0_1 a0 a1) (by simp [h1])).trans (r0_0 a0 a1))
  · exact (run_path2 (c0_1_0 a0 a1) (by simp [h0])).trans ((run_path2 (c0_1_1 a0 a1) (by simp [h1])).trans (r0_1 a0 a1))
  · exact (run_path2 (c0_2_0 a0 a1) (by simp [h0])).trans ((run_path2 (c0_2_1 a0 a1) (by simp [h1])).trans (r0_2 a0 a1))
  · exact (run_path2 (c0_3_0 a0 a1) (by simp [h0])).trans ((run_path2 (c0_3_1 a0 a1) (by simp [h1])).trans (r0_3 a0 a1))
  · exact (run_path2 (c0_4_0 a0 a1) (by simp [h0])).trans ((run_path2 (c0_4_1 a0 a1) (by simp [h1])).trans (r0_4 a0 a1))
  · exact (run_path2 (c0_5_0 a0 a1) (by simp [h0])).trans ((run_path2 (c0_5_1 a0 a1) (by simp [h1])).trans (r0_5 a0 a1))
  · exact (run_path2 (c0_6_0 a0 a1) (by simp [h0])).trans ((run_path2 (c0_6_1 a0 a1) (by simp [h1])).trans (r0_6 a0 a1))
  · exact (run_path2 (c0_7_0 a0 a1) (by simp [h0])).trans ((run_path2 (c0_7_1 a0 a1) (by simp [h1])).trans (r0_7 a0 a1))
  · exact (run_path2 (c1_0_0 a0 a1) (by simp [h0])).trans ((run_path2 (c1_0_1 a0 a1) (by simp [h1])).trans (r1_0 a0 a1))
  · exact (run_path2 (c1_1_0 a0 a1) (by simp [h0])).trans ((run_path2 (c1_1_1 a0 a1) (by simp [h1])).trans (r1_1 a0 a1))
  · exact (run_path2 (c1_2_0 a0 a1) (by simp [h0])).trans ((run_path2 (c1_2_1 a0 a1) (by simp [h1])).trans (r1_2 a0 a1))
  · exact (run_path2 (c1_3_0 a0 a1) (by simp [h0])).trans ((run_path2 (c1_3_1 a0 a1) (by simp [h1])).trans (r1_3 a0 a1))
  · exact (run_path2 (c1_4_0 a0 a1) (by simp [h0])).trans ((run_path2 (c1_4_1 a0 a1) (by simp [h1])).trans (r1_4 a0 a1))
  · exact (run_path2 (c1_5_0 a0 a1) (by simp [h0])).trans ((run_path2 (c1_5_1 a0 a1) (by simp [h1])).trans (r1_5 a0 a1))
  · exact (run_path2 (c1_6_0 a0 a1) (by simp [h0])).trans ((run_path2 (c1_6_1 a0 a1) (by simp [h1])).trans (r1_6 a0 a1))
  · exact (run_path2 (c1_7_0 a0 a1) (by simp [h0])).trans ((run_path2 (c1_7_1 a0 a1) (by simp [h1])).trans (r1_7 a0 a1))
  · exact (run_path2 (c2_0_0 a0 a1) (by simp [h0])).trans ((run_path2 (c2_0_1 a0 a1) (by simp [h1])).trans (r2_0 a0 a1))
  · exact (run_path2 (c2_1_0 a0 a1) (by simp [h0])).trans ((run_path2 (c2_1_1 a0 a1) (by simp [h1])).trans (r2_1 a0 a1))
  · exact (run_path2 (c2_2_0 a0 a1) (by simp [h0])).trans ((run_path2 (c2_2_1 a0 a1) (by simp [h1])).trans (r2_2 a0 a1))
  · exact (run_path2 (c2_3_0 a0 a1) (by simp [h0])).trans ((run_path2 (c2_3_1 a0 a1) (by simp [h1])).trans (r2_3 a0 a1))
  · exact (run_path2 (c2_4_0 a0 a1) (by simp [h0])).trans ((run_path2 (c2_4_1 a0 a1) (by simp [h1])).trans (r2_4 a0 a1))
  · exact (run_path2 (c2_5_0 a0 a1) (by simp [h0])).trans ((run_path2 (c2_5_1 a0 a1) (by simp [h1])).trans (r2_5 a0 a1))
  · exact (run_path2 (c2_6_0 a0 a1) (by simp [h0])).trans ((run_path2 (c2_6_1 a0 a1) (by simp [h1])).trans (r2_6 a0 a1))
  · exact (run_path2 (c2_7_0 a0 a1) (by simp [h0])).trans ((run_path2 (c2_7_1 a0 a1) (by simp [h1])).trans (r2_7 a0 a1))
  · exact (run_path2 (c3_0_0 a0 a1) (by simp [h0])).trans ((run_path2 (c3_0_1 a0 a1) (by simp [h1])).trans (r3_0 a0 a1))
  · exact (run_path2 (c3_1_0 a0 a1) (by simp [h0])).trans ((run_path2 (c3_1_1 a0 a1) (by simp [h1])).trans (r3_1 a0 a1))
  · exact (run_path2 (c3_2_0 a0 a1) (by simp [h0])).trans ((run_path2 (c3_2_1 a0 a1) (by simp [h1])).trans (r3_2 a0 a1))
  · exact (run_path2 (c3_3_0 a0 a1) (by simp [h0])).trans ((run_path2 (c3_3_1 a0 a1) (by simp [h1])).trans (r3_3 a0 a1))
  · exact (run_path2 (c3_4_0 a0 a1) (by simp [h0])).trans ((run_path2 (c3_4_1 a0 a1) (by simp [h1])).trans (r3_4 a0 a1))
  · exact (run_path2 (c3_5_0 a0 a1) (by simp [h0])).trans ((run_path2 (c3_5_1 a0 a1) (by simp [h1])).trans (r3_5 a0 a1))
  · exact (run_path2 (c3_6_0 a0 a1) (by simp [h0])).trans ((run_path2 (c3_6_1 a0 a1) (by simp [h1])).trans (r3_6 a0 a1))
  · exact (run_path2 (c3_7_0 a0 a1) (by simp [h0])).trans ((run_path2 (c3_7_1 a0 a1) (by simp [h1])).trans (r3_7 a0 a1))
  · exact (run_path2 (c4_0_0 a0 a1) (by simp [h0])).trans ((run_path2 (c4_0_1 a0 a1) (by simp [h1])).trans (r4_0 a0 a1))
  · exact (run_path2 (c4_1_0 a0 a1) (by simp [h0])).trans ((run_path2 (c4_1_1 a0 a1) (by simp [h1])).trans (r4_1 a0 a1))
  · exact (run_path2 (c4_2_0 a0 a1) (by simp [h0])).trans ((run_path2 (c4_2_1 a0 a1) (by simp [h1])).trans (r4_2 a0 a1))
  · exact (run_path2 (c4_3_0 a0 a1) (by simp [h0])).trans ((run_path2 (c4_3_1 a0 a1) (by simp [h1])).trans (r4_3 a0 a1))
  · exact (run_path2 (c4_4_0 a0 a1) (by simp [h0])).trans ((run_path2 (c4_4_1 a0 a1) (by simp [h1])).trans (r4_4 a0 a1))
  · exact (run_path2 (c4_5_0 a0 a1) (by simp [h0])).trans ((run_path2 (c4_5_1 a0 a1) (by simp [h1])).trans (r4_5 a0 a1))
  · exact (run_path2 (c4_6_0 a0 a1) (by simp [h0])).trans ((run_path2 (c4_6_1 a0 a1) (by simp [h1])).trans (r4_6 a0 a1))
  · exact (run_path2 (c4_7_0 a0 a1) (by simp [h0])).trans ((run_path2 (c4_7_1 a0 a1) (by simp [h1])).trans (r4_7 a0 a1))
  · exact (run_path2 (c5_0_0 a0 a1) (by simp [h0])).trans ((run_path2 (c5_0_1 a0 a1) (by simp [h1])).trans (r5_0 a0 a1))
  · exact (run_path2 (c5_1_0 a0 a1) (by simp [h0])).trans ((run_path2 (c5_1_1 a0 a1) (by simp [h1])).trans (r5_1 a0 a1))
  · exact (run_path2 (c5_2_0 a0 a1) (by simp [h0])).trans ((run_path2 (c5_2_1 a0 a1) (by simp [h1])).trans (r5_2 a0 a1))
  · exact (run_path2 (c5_3_0 a0 a1) (by simp [h0])).trans ((run_path2 (c5_3_1 a0 a1) (by simp [h1])).trans (r5_3 a0 a1))
  · exact (run_path2 (c5_4_0 a0 a1) (by simp [h0])).trans ((run_path2 (c5_4_1 a0 a1) (by simp [h1])).trans (r5_4 a0 a1))
  · exact (run_path2 (c5_5_0 a0 a1) (by simp [h0])).trans ((run_path2 (c5_5_1 a0 a1) (by simp [h1])).trans (r5_5 a0 a1))
  · exact (run_path2 (c5_6_0 a0 a1) (by simp [h0])).trans ((run_path2 (c5_6_1 a0 a1) (by simp [h1])).trans (r5_6 a0 a1))
  · exact (run_path2 (c5_7_0 a0 a1) (by simp [h0])).trans ((run_path2 (c5_7_1 a0 a1) (by simp [h1])).trans (r5_7 a0 a1))
  · exact (run_path2 (c6_0_0 a0 a1) (by simp [h0])).trans ((run_path2 (c6_0_1 a0 a1) (by simp [h1])).trans (r6_0 a0 a1))
  · exact (run_path2 (c6_1_0 a0 a1) (by simp [h0])).trans ((run_path2 (c6_1_1 a0 a1) (by simp [h1])).trans (r6_1 a0 a1))
  · exact (run_path2 (c6_2_0 a0 a1) (by simp [h0])).trans ((run_path2 (c6_2_1 a0 a1) (by simp [h1])).trans (r6_2 a0 a1))
  · exact (run_path2 (c6_3_0 a0 a1) (by simp [h0])).trans ((run_path2 (c6_3_1 a0 a1) (by simp [h1])).trans (r6_3 a0 a1))
  · exact (run_path2 (c6_4_0 a0 a1) (by simp [h0])).trans ((run_path2 (c6_4_1 a0 a1) (by simp [h1])).trans (r6_4 a0 a1))
  · exact (run_path2 (c6_5_0 a0 a1) (by simp [h0])).trans ((run_path2 (c6_5_1 a0 a1) (by simp [h1])).trans (r6_5 a0 a1))
  · exact (run_path2 (c6_6_0 a0 a1) (by simp [h0])).trans ((run_path2 (c6_6_1 a0 a1) (by simp [h1])).trans (r6_6 a0 a1))
  · exact (run_path2 (c6_7_0 a0 a1) (by simp [h0])).trans ((run_path2 (c6_7_1 a0 a1) (by simp [h1])).trans (r6_7 a0 a1))
  · exact (run_path2 (c7_0_0 a0 a1) (by simp [h0])).trans ((run_path2 (c7_0_1 a0 a1) (by simp [h1])).trans (r7_0 a0 a1))
  · exact (run_path2 (c7_1_0 a0 a1) (by simp [h0])).trans ((run_path2 (c7_1_1 a0 a1) (by simp [h1])).trans (r7_1 a0 a1))
  · exact (run_path2 (c7_2_0 a0 a1) (by simp [h0])).trans ((run_path2 (c7_2_1 a0 a1) (by simp [h1])).trans (r7_2 a0 a1))
  · exact (run_path2 (c7_3_0 a0 a1) (by simp [h0])).trans ((run_path2 (c7_3_1 a0 a1) (by simp [h1])).trans (r7_3 a0 a1))
  · exact (run_path2 (c7_4_0 a0 a1) (by simp [h0])).trans ((run_path2 (c7_4_1 a0 a1) (by simp [h1])).trans (r7_4 a0 a1))
  · exact (run_path2 (c7_5_0 a0 a1) (by simp [h0])).trans ((run_path2 (c7_5_1 a0 a1) (by simp [h1])).trans (r7_5 a0 a1))
  · exact (run_path2 (c7_6_0 a0 a1) (by simp [h0])).trans ((run_path2 (c7_6_1 a0 a1) (by simp [h1])).trans (r7_6 a0 a1))
  · exact (run_path2 (c7_7_0 a0 a1) (by simp [h0])).trans ((run_path2 (c7_7_1 a0 a1) (by simp [h1])).trans (r7_7 a0 a1))
abbrev ts : List TypeId := [3, 3]
abbrev kss : List (List CK) := [[.int .i64], [.int .i64]]
theorem hts : Try.f3.params.toList = ts := by kernel_rfl
theorem args (a0 a1 : Int) : mkArgs Try.prog ts kss [[a0], [a1]] = [.v (ii a0), .v (ii a1)] := by kernel_rfl
theorem shapes : shapesK Try.prog ts kss := ⟨by kernel_rfl, by kernel_rfl, trivial⟩
theorem core (w : World) (vals : List Value) (ha : F2 (ArgOK Try.prog w) ts vals) :
    Calls Try.prog 3 vals.toArray w fun e W' => ∃ v, e = .returned v ∧ v = .bool true ∧ Below w.heap.size w W' := by
  obtain ⟨nss, hf, hr⟩ := args_plain shapes ha
  match nss, hf, hr with
  | [[a0], [a1]], hf, hr =>
    rw [args] at hr
    refine (calls_of_tri (R := IsTrue) Try.func3 hb 200 (law a0 a1 hf.1.1 hf.2.1.1 (lawCtx MObj 200 w) rfl (Nat.le_refl _) (fun _ => trivial)) hr).mono ?_
    rintro e w' ⟨v, x, ρ, rfl, hv, hR, hbel⟩
    exact ⟨v, rfl, hR.value hv, hbel⟩
theorem own : ownKnob Try.prog.godebug = none := by kernel_rfl
theorem lifted {H : Type} (os : Os) (started : os.Started) (enc : TypeId × Value → H) : ReturnsInHanded {} Try.checked os 3 .any (Rows.viewNewSpec.pre6 enc Try.prog Try.f3 Rows.viewNewRow.domain false) (Rows.viewNewSpec.post enc Try.prog Try.f3 false true false false) :=
  law_lifted own started (by kernel_rfl) (by kernel_rfl)
    (ChangeSpec.witness6 (enc := enc) (C := Try.checked) false ⟨#[], #[.int .i64 0, .int .i64 0], []⟩ 8 (by kernel_rfl) (by kernel_rfl) (by kernel_rfl) (by kernel_rfl))
    (tb := 4) (by kernel_rfl) (by kernel_rfl) rfl
    (fun ds hd => by
      match ds, hd with
      | [_, _], _ => exact ⟨rfl, rfl, rfl⟩)
    (by kernel_rfl) (by kernel_rfl) (fun W vals ha => core W vals (hts ▸ ha))
theorem proved : Rows.ViewNewSaid :=
  OpenClaim.holds_of_wide 3 Try.f3 rfl rfl rfl rfl rfl rfl rfl ⟨rfl, rfl, rfl, rfl, rfl⟩ rfl rfl rfl rfl rfl (by kernel_rfl) Try.func3 (by kernel_rfl) (of_decide_eq_true (by kernel_rfl))
    (by unfold Func.isWrapper; first | (rw [if_pos (by decide +kernel)]; kernel_rfl) | (rw [if_neg (by decide +kernel)]; exact ⟨rfl, rfl⟩))
    (fun os started H enc _ => lifted os started enc)
end Go.Proofs.Ytcolladpdmjloaa.ViewNew
