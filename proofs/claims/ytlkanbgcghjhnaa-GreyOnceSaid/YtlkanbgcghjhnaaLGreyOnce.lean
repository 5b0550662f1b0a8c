/-
  GreyOnce: each object is told once at the most, and all that were asked for are told when all is done, whatever is picked. The loop; the row.
  Conditions: none but the row's own (its argument is a slice of ints).
-/
import Derived.Test.YtlkanbgcghjhnaaRows
import Derived.Test.YtlkanbgcghjhnaaLGreyOnce0
namespace Go.Proofs.Ytlkanbgcghjhnaa.GreyOnce
open Go Go.RowKit Go.Proofs.Ytlkanbgcghjhnaa.Eng
set_option linter.unusedVariables false
set_option linter.unusedSimpArgs false
set_option linter.unusedSectionVars false
set_option maxRecDepth 20000
set_option maxHeartbeats 2000000
noncomputable abbrev lbody : Code := .seq (codeAt body [true, true, true, true, true, true, true, true, false, true, false, false, false]) (.seq (.block 1 (codeAt body [true, true, true, true, true, true, true, true, false, true, false, false, true, false, false])) (codeAt body [true, true, true, true, true, true, true, true, false, true, false, false, true, true]))
noncomputable abbrev initC : Code := (codeAt body [true, true, true, true, true, true, true, true, false, false])
noncomputable abbrev finC : Code := (codeAt body [true, true, true, true, true, true, true, true, true])
theorem restE : (Eng.spine 8 body).2 = .seq (.seq initC (.block 0 (.loop lbody))) finC := by kernel_rfl
theorem cbE : (Eng.spine 2 (codeAt body [true, true, true, true, true, true, true, true, false, true, false, false, true, false, false])).2 = rest1 := by kernel_rfl
section
variable (np : Nat) (ps : List (List Int)) (ys : List Int) (hnp : np = ps.length) (hf : RFits [.int .i64] ps) (E : Ctx MObj) (hE : E.nid0 = 1) (hT : E.top = 60) (hD : ∀ b, 1 ≤ b → E.D b)
include hnp hf hE hT hD
theorem round {i : Int} (hi : 0 ≤ i ∧ i ≤ 600) {st : St MObj} (hJ : J np ps ys i st) :
    Tri MS Try.prog E lbody st fun x st => (x = .normal ∧ i < 600 ∧ J np ps ys (i + 1) st) ∨ (x = .exit 0 ∧ i = 600 ∧ J np ps ys i st) := by
  have ht : ∀ {k : Nat}, Nat.ble k 60 = true → k ≤ E.top := fun h => by rw [hT]; exact Nat.le_of_ble_eq_true h
  have hd : ∀ (l : List Nat), l.all (Nat.ble 1) = true → ∀ b, b ∈ l → E.D b := fun l hl b hb => hD b (Nat.le_of_ble_eq_true (List.all_eq_true.1 hl b hb))
  obtain ⟨xs, L, s, N, D, A, c, js, G, hc, hp, rfl⟩ := hJ
  have hx := G.inv.len
  refine Tri.seq (R := fun x st => ((x = .normal ∧ i < 600) ∨ (x = .exit 0 ∧ i = 600)) ∧ ∃ js, st = (⟨pre np i ++ junk js 128 11, bas ps xs ys c s N (bOf A) (bOf D), 7, []⟩ : St MObj)) (Tri.allR (m := 11) (n := 128) (codeOK _) (g i c np ps xs ys (.abs (.grp (GS s))) (oN N) (SO (bOf A)) (SO (bOf D)) js hx (by omega) hi) (Tr.all_ite (fun h => Tr.all_ok ⟨rfl, ht rfl, hd _ rfl, fun js => ⟨.inl ⟨rfl, of_decide_eq_true h⟩, js, rfl⟩⟩) fun h => Tr.all_ok ⟨rfl, ht rfl, hd _ rfl, fun js => ⟨.inr ⟨rfl, by have := of_decide_eq_false h; omega⟩, js, rfl⟩⟩)) ?_ ?_
  · rintro st ⟨h1, js, rfl⟩
    have hi6 : i < 600 := by
      rcases h1 with h1 | h1
      · exact h1.2
      · cases h1.1
    refine Tri.seq (R := fun x st => x = .normal ∧ JB np ps ys i st) ?_ ?_ (fun x s hx hh => absurd hh.1 hx)
    · refine Tri.block (R := fun x st => (x = .normal ∨ x = .exit 1) ∧ JB np ps ys i st) ?_ (fun st hh => by
        rcases hh with hh | hh <;> exact ⟨rfl, hh.2⟩) (fun x s h1 h2 hh => by
        rcases hh.1 with h | h
        · exact absurd h h1
        · exact absurd h h2)
      have go : ∀ (kk : Int), 0 ≤ kk ∧ kk < 64 → (300 ≤ i → kk = Int.tmod i 4) → ∀ js, Tri MS Try.prog E rest1 ⟨pre np i ++ [.v (ii kk)] ++ junk js 127 12, bas ps xs ys c s N (bOf A) (bOf D), 7, []⟩ fun x st => (x = .normal ∨ x = .exit 1) ∧ JB np ps ys i st := by
        intro kk hk hki js
        have hk4 : 0 ≤ Int.tmod kk 4 ∧ Int.tmod kk 4 < 4 := ⟨Int.tmod_nonneg _ hk.1, Int.tmod_lt_of_pos _ (by decide)⟩
        have hq300 : 300 ≤ i → Int.tmod kk 4 = (((i - 300).toNat % 4 : Nat) : Int) := fun h => by
          rw [hki h, Int.tmod_eq_emod_of_nonneg hi.1, Int.tmod_eq_emod_of_nonneg (by omega)]
          omega
        by_cases h3 : Int.tmod kk 4 = 3
        · refine Tri.seq (partN E hE hT hD G hc hp ⟨hi.1, hi6⟩ h3 (fun h => by have := hq300 h; omega) js) (fun st hh => by cases hh.1) (fun x s hx hh => by obtain ⟨rfl, hh⟩ := hh; exact ⟨.inr rfl, hh⟩)
        · obtain ⟨q, hq, hkq⟩ : ∃ q : Nat, q < 3 ∧ Int.tmod kk 4 = (q : Int) := ⟨(Int.tmod kk 4).toNat, by omega, by omega⟩
          refine Tri.preE fun aa ww hat => ?_
          obtain ⟨d, hN, hat⟩ := at_plain (pre := pre np i ++ [.v (ii kk)]) (m := 12) (n := 127) rfl hat
          refine ⟨_, hat, ?_⟩
          have fin : ∀ js, Tri MS Try.prog E rest2 ⟨pre np i ++ [.v (ii kk), d 12, d 13, d 14, .v (ii (Int.tmod kk 4))] ++ junk js 123 16, bas ps xs ys c s N (bOf A) (bOf D), 7, []⟩ fun x st => (x = .normal ∨ x = .exit 1) ∧ JB np ps ys i st := fun js => by
            refine Tri.preE fun aa ww hat => ⟨_, at_slot (pre np i ++ [.v (ii kk), d 12, d 13, d 14]) (y := .v (lt q)) (d' := []) (by exact ⟨rfl, hkq⟩) hat, ?_⟩
            exact (partS E hE hT hD G hc hp ⟨hi.1, hi6⟩ hq hk hkq (fun h => by have := hq300 h; omega) d hN js).mono fun x st hh => ⟨.inl hh.1, hh.2⟩
          rcases q3 hq with rfl | rfl | rfl
          · exact Tri.listR (m := 16) (n := 123) (l := [(codeAt body [true, true, true, true, true, true, true, true, false, true, false, false, true, false, false, true, true, false]), (codeAt body [true, true, true, true, true, true, true, true, false, true, false, false, true, false, false, true, true, true, false])]) (c' := rest2) codeOK 2 rfl rfl (sj0 i c np ps xs ys kk (.abs (.grp (GS s))) (oN N) (SO (bOf A)) (SO (bOf D)) d hx (by omega) hkq) (Tr.all_ok ⟨rfl, rfl, ht rfl, hd _ rfl, fun js => fin js⟩)
          · exact Tri.listR (m := 16) (n := 123) (l := [(codeAt body [true, true, true, true, true, true, true, true, false, true, false, false, true, false, false, true, true, false]), (codeAt body [true, true, true, true, true, true, true, true, false, true, false, false, true, false, false, true, true, true, false])]) (c' := rest2) codeOK 2 rfl rfl (sj1 i c np ps xs ys kk (.abs (.grp (GS s))) (oN N) (SO (bOf A)) (SO (bOf D)) d hx (by omega) hkq) (Tr.all_ok ⟨rfl, rfl, ht rfl, hd _ rfl, fun js => fin js⟩)
          · exact Tri.listR (m := 16) (n := 123) (l := [(codeAt body [true, true, true, true, true, true, true, true, false, true, false, false, true, false, false, true, true, false]), (codeAt body [true, true, true, true, true, true, true, true, false, true, false, false, true, false, false, true, true, true, false])]) (c' := rest2) codeOK 2 rfl rfl (sj2 i c np ps xs ys kk (.abs (.grp (GS s))) (oN N) (SO (bOf A)) (SO (bOf D)) d hx (by omega) hkq) (Tr.all_ok ⟨rfl, rfl, ht rfl, hd _ rfl, fun js => fin js⟩)
      have hm4 : 0 ≤ Int.tmod i 4 ∧ Int.tmod i 4 < 64 := by
        have h1 := Int.tmod_nonneg (a := i) 4 hi.1
        have h2 := Int.tmod_lt_of_pos i (b := 4) (by decide)
        omega
      refine Tri.listR (m := 12) (n := 127) (l := [(codeAt body [true, true, true, true, true, true, true, true, false, true, false, false, true, false, false, false]), (codeAt body [true, true, true, true, true, true, true, true, false, true, false, false, true, false, false, true, false])]) (c' := rest1) codeOK 2 rfl cbE (kx i c np ps xs ys (.abs (.grp (GS s))) (oN N) (SO (bOf A)) (SO (bOf D)) js hx (by omega) ⟨hi.1, hi6⟩ hnp) (Tr.all_ite (fun e0 => Tr.all_ite (fun e1 => Tr.all_ok ⟨rfl, rfl, ht rfl, hd _ rfl, fun js => ?_⟩) fun e1 => Tr.all_ok ⟨rfl, rfl, ht rfl, hd _ rfl, fun js => ?_⟩) fun e0 => Tr.all_ok ⟨rfl, rfl, ht rfl, hd _ rfl, fun js => ?_⟩)
      · have e0 := of_decide_eq_true e0
        have e1 := of_decide_eq_true e1
        have hix : i.toNat < ps.length := by omega
        exact go _ (kM_range (by decide) (tab_fits hf hix (j := 0) rfl)) (fun h => by omega) js
      · exact go _ hm4 (fun _ => rfl) js
      · exact go _ hm4 (fun _ => rfl) js
    · rintro st ⟨_, xs, L, s, N, D, A, c, js, G, hc, hp, rfl⟩
      have e4 : W (i + 1) = i + 1 := wrap_i64_of (by omega) (by omega)
      refine Tri.allR (m := 11) (n := 128) (codeOK _) (inc i c np ps xs ys (.abs (.grp (GS s))) (oN N) (SO (bOf A)) (SO (bOf D)) js G.inv.len (by omega) hi) (Tr.all_ok ⟨rfl, ht rfl, hd _ rfl, fun js => .inl ⟨rfl, hi6, xs, L, s, N, D, A, c, js, G, hc, hp, ?_⟩⟩)
      rw [← e4]
  · rintro x st hx' ⟨h1, js, rfl⟩
    rcases h1 with h1 | h1
    · exact absurd h1.1 hx'
    · exact .inr ⟨h1.1, h1.2, xs, L, s, N, D, A, c, js, G, hc, hp, rfl⟩
abbrev Qt : VX → St MObj → Prop := fun x st => (x = .normal ∨ x = .ret) ∧ ∃ l, (vresults Try.prog st Try.f4.results.toList).run = some l ∧ IsTrue (tupleOf l)
omit hnp hf hE hT hD in
theorem resX (hp : HP MObj) (nid : Nat) (r : Bool) (js : Nat → SV) : vresults Try.prog (⟨[.v (.an 0 (.sym np)), .t [], .v (.bool (.sym r)), .v (.bool (.lit true)), .v (.ptr 1 0), .v (.ptr 2 0)] ++ junk js 133 6, hp, nid, []⟩ : St MObj) Try.f4.results.toList = .ok [.one (.bool (.sym r))] := by kernel_rfl
theorem loop {st : St MObj} (h : J np ps ys 0 st) : Tri MS Try.prog E (.block 0 (.loop lbody)) st fun x st => x = .normal ∧ J np ps ys 600 st := by
  have ht : ∀ {k : Nat}, Nat.ble k 60 = true → k ≤ E.top := fun h => by rw [hT]; exact Nat.le_of_ble_eq_true h
  have hd : ∀ (l : List Nat), l.all (Nat.ble 1) = true → ∀ b, b ∈ l → E.D b := fun l hl b hb => hD b (Nat.le_of_ble_eq_true (List.all_eq_true.1 hl b hb))
  · refine Tri.block (R := fun x st => x = .exit 0 ∧ J np ps ys 600 st) ?_ (fun st hh => by
      rcases hh with hh | hh
      · cases hh.1
      · exact ⟨rfl, hh.2⟩) (fun x s h1 h2 hh => absurd hh.1 h2)
    refine Tri.loop (J := fun k st => ∃ i : Int, 0 ≤ i ∧ i ≤ 600 ∧ k = (600 - i).toNat ∧ J np ps ys i st) ?_ (k := (600 - 0 : Int).toNat) ⟨0, by decide, by decide, rfl, h⟩
    rintro k st ⟨i, h0, h1, rfl, hJ⟩
    refine (round np ps ys hnp hf E hE hT hD ⟨h0, h1⟩ hJ).mono ?_
    rintro x st (⟨rfl, h2, h3⟩ | ⟨rfl, rfl, h3⟩)
    · exact ⟨(600 - (i + 1)).toNat, by omega, i + 1, by omega, by omega, rfl, h3⟩
    · exact ⟨rfl, h3⟩
theorem last {st : St MObj} (h : J np ps ys 600 st) : Tri MS Try.prog E finC st Qt := by
  have ht : ∀ {k : Nat}, Nat.ble k 60 = true → k ≤ E.top := fun h => by rw [hT]; exact Nat.le_of_ble_eq_true h
  have hd : ∀ (l : List Nat), l.all (Nat.ble 1) = true → ∀ b, b ∈ l → E.D b := fun l hl b hb => hD b (Nat.le_of_ble_eq_true (List.all_eq_true.1 hl b hb))
  · obtain ⟨xs, L, s, N, D, A, c, js, G, hc, hp, rfl⟩ := h
    obtain ⟨p1, p2⟩ := hp (by decide)
    have hAD := GreyOnceP.finish G.inv p1 p2
    have e : bOf A = bOf D := by
      funext j
      show decide _ = decide _
      congr 1
      exact propext (hAD _)
    rw [e]
    exact Tri.allR (m := 6) (n := 133) (codeOK _) (fin 600 c np ps xs ys (bOf D) (.abs (.grp (GS s))) (oN N) js G.inv.len (by omega)) (Tr.all_ok ⟨rfl, ht rfl, hd _ rfl, fun js => ⟨.inr rfl, _, (congrArg Tr.run (resX np _ _ _ js)).trans rfl, by simp [IsTrue, tupleOf]; rfl⟩⟩)
end
abbrev s0 : Nat → WS := fun _ => .idle
abbrev W0 : List Int := [0, 0, 0, 0, 0, 0, 0, 0, 0, 0, 0, 0, 0, 0, 0, 0, 0, 0, 0, 0, 0, 0, 0, 0, 0, 0, 0, 0, 0, 0, 0, 0, 0, 0, 0, 0, 0, 0, 0, 0, 0, 0, 0, 0, 0, 0, 0, 0, 0, 0, 0, 0, 0, 0, 0, 0, 0, 0, 0, 0, 0, 0, 0, 0, 0, 0, 0, 0, 0, 0, 0, 0, 0, 0, 0, 0, 0, 0, 0, 0, 0, 0, 0, 0, 0, 0, 0, 0, 0, 0, 0, 0, 0, 0, 0, 0, 17, 0, 0, 0, 17, 0, 0, 0, 17, 0, 0, 0, 17, 0, 0, 0, 17, 0, 0, 0, 17, 0, 0, 0, 17, 0, 0, 0, 17, 0, 0, 0, 17, 0, 0, 0, 17, 0, 0, 0, 17, 0, 0, 0, 17, 0, 0, 0, 17, 0, 0, 0, 17, 0, 0, 0, 17, 0, 0, 0, 17, 0, 0, 0]
theorem good0 : Good W0 [] s0 N0 [] [] where
  inv := by
    refine ⟨rfl, rfl, fun y => Nat.le_of_ble_eq_true rfl, fun y h => absurd h (Nat.lt_irrefl 0), fun y h => absurd h (Nat.lt_irrefl 0), fun y hy _ => ?_, List.nodup_nil, fun y hy => (by cases hy), fun y h => absurd h (Nat.lt_irrefl 0), fun q _ y hy => (by cases hy), fun y hy => (by cases hy), fun q _ => trivial, trivial⟩
    obtain ⟨k, hk, rfl⟩ := GreyOnceP.mem_cells.1 hy
    rcases (show k = 0 ∨ k = 1 ∨ k = 2 ∨ k = 3 ∨ k = 4 ∨ k = 5 ∨ k = 6 ∨ k = 7 ∨ k = 8 ∨ k = 9 ∨ k = 10 ∨ k = 11 ∨ k = 12 ∨ k = 13 ∨ k = 14 ∨ k = 15 by omega) with rfl | rfl | rfl | rfl | rfl | rfl | rfl | rfl | rfl | rfl | rfl | rfl | rfl | rfl | rfl | rfl <;> rfl
  sh := fun k _ => trivial
  nok := ⟨by decide, .inl rfl⟩
section
variable (np : Nat) (ps : List (List Int)) (hnp : np = ps.length) (hf : RFits [.int .i64] ps) (E : Ctx MObj) (hE : E.nid0 = 1) (hT : E.top = 60) (hD : ∀ b, 1 ≤ b → E.D b)
include hnp hf hE hT hD
theorem runs : Tri MS Try.prog E body ⟨[.v (.an 0 (.sym np))] ++ List.replicate (nt - 1) .undef, [(0, some (.rotab [.int .i64] ps))], 1, []⟩ Qt := by
  have ht : ∀ {k : Nat}, Nat.ble k 60 = true → k ≤ E.top := fun h => by rw [hT]; exact Nat.le_of_ble_eq_true h
  have hd : ∀ (l : List Nat), l.all (Nat.ble 1) = true → ∀ b, b ∈ l → E.D b := fun l hl b hb => hD b (Nat.le_of_ble_eq_true (List.all_eq_true.1 hl b hb))
  refine Tri.listR (m := 11) (n := 128) (l := (Eng.spine 8 body).1) codeOK 8 rfl restE (start np ps (Nat.zero_le _)) (Tr.all_ok ⟨rfl, rfl, ht rfl, hd _ rfl, fun js => ?_⟩)
  refine Tri.preE fun aa ww hat => ?_
  have h2 := at_grpfold (b := 3) (g := GS s0) rfl rfl (fun n => rfl) hat
  have h3 := at_wk2 (dirty' := []) (hp' := bas ps W0 W0 16 s0 N0 (bOf []) (bOf [])) (by exact ⟨.inl rfl, .inl rfl, .inl rfl, .inl rfl, .inr ⟨_, _, _, rfl, rfl, (by (repeat' apply And.intro) <;> first | rfl | trivial), rfl⟩, .inr ⟨_, _, _, rfl, rfl, ⟨rfl, rfl, rfl, rfl, rfl, rfl, rfl, rfl, rfl, rfl, rfl, rfl, rfl, rfl, rfl, rfl, rfl, rfl, rfl, rfl, rfl, rfl, rfl, rfl, rfl, rfl, rfl, rfl, rfl, rfl, rfl, rfl, rfl, rfl, rfl, rfl, rfl, rfl, rfl, rfl, rfl, rfl, rfl, rfl, rfl, rfl, rfl, rfl, rfl, rfl, rfl, rfl, rfl, rfl, rfl, rfl, rfl, rfl, rfl, rfl, rfl, rfl, rfl, rfl, rfl, rfl, rfl, rfl, rfl, rfl, rfl, rfl, rfl, rfl, rfl, rfl, rfl, rfl, rfl, rfl, rfl, rfl, rfl, rfl, rfl, rfl, rfl, rfl, rfl, rfl, rfl, rfl, rfl, rfl, rfl, rfl, rfl, rfl, rfl, rfl, rfl, rfl, rfl, rfl, rfl, rfl, rfl, rfl, rfl, rfl, rfl, rfl, rfl, rfl, rfl, rfl, rfl, rfl, rfl, rfl, rfl, rfl, rfl, rfl, rfl, rfl, rfl, rfl, rfl, rfl, rfl, rfl, rfl, rfl, rfl, rfl, rfl, rfl, rfl, rfl, rfl, rfl, rfl, rfl, rfl, rfl, rfl, rfl, rfl, rfl, rfl, rfl, rfl, rfl, rfl, rfl, rfl, rfl, rfl, rfl, trivial⟩, rfl⟩, .inr ⟨_, _, _, rfl, rfl, ⟨rfl, rfl, rfl, rfl, rfl, rfl, rfl, rfl, rfl, rfl, rfl, rfl, rfl, rfl, rfl, rfl, rfl, rfl, rfl, rfl, rfl, rfl, rfl, rfl, rfl, rfl, rfl, rfl, rfl, rfl, rfl, rfl, rfl, rfl, rfl, rfl, rfl, rfl, rfl, rfl, rfl, rfl, rfl, rfl, rfl, rfl, rfl, rfl, rfl, rfl, rfl, rfl, rfl, rfl, rfl, rfl, rfl, rfl, rfl, rfl, rfl, rfl, rfl, rfl, rfl, rfl, rfl, rfl, rfl, rfl, rfl, rfl, rfl, rfl, rfl, rfl, rfl, rfl, rfl, rfl, rfl, rfl, rfl, rfl, rfl, rfl, rfl, rfl, rfl, rfl, rfl, rfl, rfl, rfl, rfl, rfl, rfl, rfl, rfl, rfl, rfl, rfl, rfl, rfl, rfl, rfl, rfl, rfl, rfl, rfl, rfl, rfl, rfl, rfl, rfl, rfl, rfl, rfl, rfl, rfl, rfl, rfl, rfl, rfl, rfl, rfl, rfl, rfl, rfl, rfl, rfl, rfl, rfl, rfl, rfl, rfl, rfl, rfl, rfl, rfl, rfl, rfl, rfl, rfl, rfl, rfl, rfl, rfl, rfl, rfl, rfl, rfl, rfl, rfl, rfl, rfl, rfl, rfl, rfl, rfl, trivial⟩, rfl⟩, trivial⟩) h2
  refine ⟨_, h3, ?_⟩
  refine Tri.seq (R := fun x st => x = .normal ∧ J np ps W0 600 st) ?_ (fun st hh => last np ps W0 hnp hf E hE hT hD hh.2) (fun x s hx hh => absurd hh.1 hx)
  refine Tri.seq (R := fun x st => x = .normal ∧ J np ps W0 0 st) ?_ (fun st hh => loop np ps W0 hnp hf E hE hT hD hh.2) (fun x s hx hh => absurd hh.1 hx)
  refine Tri.postE (Q := fun x st => x = .normal ∧ LS 11 128 (init_l0 16 np ps W0 W0 (.abs (.grp (GS s0))) (oN N0) (SO (bOf [])) (SO (bOf []))) st) (Tri.allR (m := 11) (n := 128) (codeOK _) (init 16 np ps W0 W0 (.abs (.grp (GS s0))) (oN N0) (SO (bOf [])) (SO (bOf [])) (.t []) js rfl (by decide)) (Tr.all_ok ⟨rfl, ht rfl, hd _ rfl, fun js => ⟨rfl, js, rfl⟩⟩)) ?_
  rintro x st aa ww ⟨rfl, js, rfl⟩ hat
  have h4 := at_slot (List.take 10 (pre np 0)) (x := .v (lt 0)) (y := .v (ii 0)) (l := junk js 128 11) (d' := []) ⟨rfl, rfl⟩ hat
  exact ⟨_, h4, rfl, W0, [], s0, N0, [], [], 16, js, good0, by decide, fun h => absurd h (by decide), rfl⟩
end
theorem hb : Try.f4.body = some body := by kernel_rfl
abbrev ts : List TypeId := [22]
theorem hts : Try.f4.params.toList = ts := by kernel_rfl
theorem core (w : World) (vals : List Value) (ha : F2 (ArgOK Try.prog w) ts vals) :
    Calls Try.prog 4 vals.toArray w fun e W' => ∃ v, e = .returned v ∧ v = .bool true ∧ Below w.heap.size w W' := by
  obtain ⟨v, rfl⟩ : ∃ v, vals = [v] := by
    match vals, ha with
    | [v], _ => exact ⟨v, rfl⟩
    | [], ha => exact ha.elim
    | _ :: _ :: _, ha => exact ha.2.elim
  obtain ⟨xs, p, hf, hlen, hall⟩ := arg_slice (e := 3) (ks := [.int .i64]) ha.1 (by kernel_rfl) (by kernel_rfl) (by kernel_rfl) (by decide)
  let ρ0 : Rho := fun b => match b with | 0 => some p | _ + 1 => none
  have hρ : ∀ b, 1 ≤ b → ρ0 b = none := fun b hb => by
    match b, hb with
    | b + 1, _ => rfl
  refine (calls_of_triA (S := MS) (vargs := [v]) (R := IsTrue) Try.func4 hb 1 60 (by omega) hρ (hp := [(0, some (.rotab [.int .i64] xs))]) (fun b o ho => ?_) (runs xs.length xs rfl hf _ rfl rfl (fun b hb => hb)) ⟨(hall MS ρ0 0 rfl).1, trivial⟩).mono ?_
  · match b, ho with
    | 0, ho =>
      injection ho with ho
      subst ho
      exact (hall MS ρ0 0 rfl).2
    | b + 1, ho => cases ho
  · rintro e w' ⟨v, x, ρ, rfl, hv, hR, hbel⟩
    exact ⟨v, rfl, hR.value hv, hbel⟩
theorem own : ownKnob Try.prog.godebug = none := by kernel_rfl
theorem lifted {H : Type} (os : Os) (started : os.Started) (enc : TypeId × Value → H) : ReturnsInHanded {} Try.checked os 4 .any (Rows.greyOnceSpec.pre6 enc Try.prog Try.f4 Rows.greyOnceRow.domain false) (Rows.greyOnceSpec.post enc Try.prog Try.f4 false true false false) :=
  law_lifted own started (by kernel_rfl) (by kernel_rfl)
    (ChangeSpec.witness6 (enc := enc) (C := Try.checked) false ⟨#[], #[.slice none 0 0], []⟩ 8 (by kernel_rfl) (by kernel_rfl) (by kernel_rfl) (by kernel_rfl))
    (tb := 4) (by kernel_rfl) (by kernel_rfl) rfl
    (fun ds hd => by
      match ds, hd with
      | [_], _ => exact ⟨rfl, rfl, rfl⟩)
    (by kernel_rfl) (by kernel_rfl) (fun W vals ha => core W vals (hts ▸ ha))
theorem proved : Rows.GreyOnceSaid :=
  OpenClaim.holds_of_wide 4 Try.f4 rfl rfl rfl rfl rfl rfl rfl ⟨rfl, rfl, rfl, rfl, rfl⟩ rfl rfl rfl rfl rfl (by kernel_rfl) Try.func4 (by kernel_rfl) (of_decide_eq_true (by kernel_rfl))
    (by unfold Func.isWrapper; first | (rw [if_pos (by decide +kernel)]; kernel_rfl) | (rw [if_neg (by decide +kernel)]; exact ⟨rfl, rfl⟩))
    (fun os started H enc _ => lifted os started enc)
end Go.Proofs.Ytlkanbgcghjhnaa.GreyOnce
