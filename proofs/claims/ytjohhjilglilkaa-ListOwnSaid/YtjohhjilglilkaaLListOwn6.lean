/-
  ListOwn: behind the law's loop: all workers' cells are seen, each once. Printed by genLO6.py.
-/
import Derived.Test.YtjohhjilglilkaaLListOwn5
namespace Go.Proofs.Ytjohhjilglilkaa.ListOwn
open Go Go.RowKit Go.Proofs.Ytjohhjilglilkaa.Eng ListOwnP
set_option linter.unusedVariables false
set_option linter.unusedSimpArgs false
set_option linter.unusedSectionVars false
set_option maxRecDepth 20000
set_option maxHeartbeats 2000000
theorem rcons {r : List (Nat × Nat)} {x : SV} {l : List SV} (h : renSV r x = some x) (hl : renSVs r l = some l) : renSVs r (x :: l) = some (x :: l) := by
  simp only [renSVs, h, hl]
abbrev R6 : List (Nat × Nat) := [(0, 0), (1, 1), (2, 2), (3, 3), (4, 4), (5, 5)]
theorem ren22 (n : Int) (np : Nat) (mn i f k : Int) (d : Nat → SV) (hN : ∀ t, NoName (d t)) : renSVs R6 (pre0 n np mn i f d ++ [.v (lt k)]) = some (pre0 n np mn i f d ++ [.v (lt k)]) :=
  (rcons rfl (rcons rfl (rcons rfl (rcons rfl (rcons rfl (rcons rfl (rcons rfl (rcons rfl (rcons rfl (rcons rfl (rcons rfl (rcons rfl (rcons (hN 12 _) (rcons (hN 13 _) (rcons (hN 14 _) (rcons (hN 15 _) (rcons (hN 16 _) (rcons (hN 17 _) (rcons (hN 18 _) (rcons rfl (rcons rfl (rcons rfl rfl))))))))))))))))))))))
abbrev H0 (ps : List (List Int)) (xs : List Int) (c : Int) (s : Nat → WS) (b : Nat → Bool) : HP MObj := bs2 ps xs c 0 NP NU (.abs (.grp (GH s))) (SO b)
section
variable (n mn i c : Int) (np : Nat) (ps : List (List Int)) (xs : List Int) (d : Nat → SV) (hx : xs.length = 160) (hc : 0 ≤ c ∧ c ≤ 100000) (E : Ctx MObj) (hE : E.nid0 = 1) (hT : E.top = 60) (hD : ∀ b, 1 ≤ b → E.D b)
include hx hc hE hT hD
theorem seeX {q : Nat} (hq : q < 4) (s : Nat → WS) (X : WS) (l : List Int) (hj : ∀ a ∈ X.h.own, ∃ j : Nat, j < 12 ∧ a = 96 + 4 * (j : Int)) (nd : (l ++ X.h.own).Nodup) (hl : l.length + X.h.own.length ≤ 12) (x23 : SV) (js : Nat → SV) :
    TriX MS (inner.wp Try.prog) E ⟨PA n np mn i l.length d (lt q) (.v (ii 0)) x23 js, H0 ps xs c (upd s q X) (bOf l), 6, []⟩ fun x st => x = .normal ∧ ∃ x22 x23 js nid, (nid = 6 ∨ nid = 7) ∧ st = ⟨PA n np mn i (l ++ X.h.own).length d (lt q) x22 x23 js, H0 ps xs c (upd s q X) (bOf (l ++ X.h.own)), nid, []⟩ := by
  obtain ⟨h, z⟩ := X
  cases h with

  | nil =>
    refine tri_group (mono_wp _) 4 (GH (upd s q (⟨.nil, z⟩ : WS))) (fH q (⟨.nil, z⟩ : WS)) (oth fH q (upd s q (⟨.nil, z⟩ : WS))) (mK q) (CL cH (upd s q (⟨.nil, z⟩ : WS))) (PN q .nils) 31 (upHP (fHb 6 (⟨.nil, z⟩ : WS))) (Z (bq q)) rfl (hg own_H hq _ s (⟨.nil, z⟩ : WS)) (hk own_H hq (⟨.nil, z⟩ : WS)) (own_H.nd q _) (mK_len q) (Z0 _) (hZL own_H hq _) (hZF own_H hq _) (by rcases q4 hq with rfl | rfl | rfl | rfl <;> rfl) (by rcases q4 hq with rfl | rfl | rfl | rfl <;> rfl) (by rw [hT]; exact Nat.le_of_ble_eq_true rfl) (hD 4 (by decide)) ?_
    intro vs E1 n1 t1 u1
    rw [rawAC hq]
    have e0 : l ++ HS.own .nil = l := List.append_nil l
    rw [e0]
    refine TriX.mono (mono_wp _) (in_hn n mn i c np ps xs d hx hc E1 (t1.trans hT) (fun b hb => u1 b (hD b hb)) hq (f := l.length) (by omega) vs (SO (bOf l)) x23 js) ?_
    rintro x st ⟨rfl, x22, x23, js, rfl⟩
    have gH : ∀ m, hget (GH (upd s q (⟨.nil, z⟩ : WS))) m = hget ((0, some (.cells (mixAt (mK q) (CL cH (upd s q (⟨.nil, z⟩ : WS))) (PN q (cH q (⟨.nil, z⟩ : WS)))) 31)) :: (dnHP (upHP (fH q (⟨.nil, z⟩ : WS))) ++ oth fH q (upd s q (⟨.nil, z⟩ : WS)))) m := fun m => by
      rw [hg own_H hq _ s (⟨.nil, z⟩ : WS) m, mixPN hq, dnH]
    refine ⟨AC q .nils vs, PN q (cH q (⟨.nil, z⟩ : WS)), [], upHP (fH q (⟨.nil, z⟩ : WS)), GH (upd s q (⟨.nil, z⟩ : WS)), ?_, ?_, ?_, ?_, gH, rfl, x22, x23, js, 6, .inl rfl, ?_⟩ <;> rcases q4 hq with rfl | rfl | rfl | rfl <;> rfl
  | es =>
    refine tri_group (mono_wp _) 4 (GH (upd s q (⟨.es, z⟩ : WS))) (fH q (⟨.es, z⟩ : WS)) (oth fH q (upd s q (⟨.es, z⟩ : WS))) (mK q) (CL cH (upd s q (⟨.es, z⟩ : WS))) (PN q (.es true)) 31 (upHP (fHb 6 (⟨.es, z⟩ : WS))) (Z (bq q)) rfl (hg own_H hq _ s (⟨.es, z⟩ : WS)) (hk own_H hq (⟨.es, z⟩ : WS)) (own_H.nd q _) (mK_len q) (Z0 _) (hZL own_H hq _) (hZF own_H hq _) (by rcases q4 hq with rfl | rfl | rfl | rfl <;> rfl) (by rcases q4 hq with rfl | rfl | rfl | rfl <;> rfl) (by rw [hT]; exact Nat.le_of_ble_eq_true rfl) (hD 4 (by decide)) ?_
    intro vs E1 n1 t1 u1
    rw [rawAC hq]
    have e0 : l ++ HS.own .es = l := List.append_nil l
    rw [e0]
    refine TriX.mono (mono_wp _) (in_he n mn i c np ps xs d hx hc E1 (t1.trans hT) (fun b hb => u1 b (hD b hb)) hq (f := l.length) (by omega) vs (SO (bOf l)) x23 js) ?_
    rintro x st ⟨rfl, x22, x23, js, rfl⟩
    have gH : ∀ m, hget (GH (upd s q (⟨.es, z⟩ : WS))) m = hget ((0, some (.cells (mixAt (mK q) (CL cH (upd s q (⟨.es, z⟩ : WS))) (PN q (cH q (⟨.es, z⟩ : WS)))) 31)) :: (dnHP (upHP (fH q (⟨.es, z⟩ : WS))) ++ oth fH q (upd s q (⟨.es, z⟩ : WS)))) m := fun m => by
      rw [hg own_H hq _ s (⟨.es, z⟩ : WS) m, mixPN hq, dnH]
    refine ⟨AC q (.es true) vs, PN q (cH q (⟨.es, z⟩ : WS)), [], upHP (fH q (⟨.es, z⟩ : WS)), GH (upd s q (⟨.es, z⟩ : WS)), ?_, ?_, ?_, ?_, gH, rfl, x22, x23, js, 6, .inl rfl, ?_⟩ <;> rcases q4 hq with rfl | rfl | rfl | rfl <;> rfl
  | tab rows =>
    refine tri_group (mono_wp _) 4 (GH (upd s q (⟨.tab rows, z⟩ : WS))) (fH q (⟨.tab rows, z⟩ : WS)) (oth fH q (upd s q (⟨.tab rows, z⟩ : WS))) (mK q) (CL cH (upd s q (⟨.tab rows, z⟩ : WS))) (PN q (.ts 6 (.lit 0) (.sym rows.length) none)) 31 (upHP (fHb 6 (⟨.tab rows, z⟩ : WS))) (Z (bq q)) rfl (hg own_H hq _ s (⟨.tab rows, z⟩ : WS)) (hk own_H hq (⟨.tab rows, z⟩ : WS)) (own_H.nd q _) (mK_len q) (Z0 _) (hZL own_H hq _) (hZF own_H hq _) (by rcases q4 hq with rfl | rfl | rfl | rfl <;> rfl) (by rcases q4 hq with rfl | rfl | rfl | rfl <;> rfl) (by rw [hT]; exact Nat.le_of_ble_eq_true rfl) (hD 4 (by decide)) ?_
    intro vs E1 n1 t1 u1
    rw [rawAC hq]
    refine TriX.mono (mono_wp _) (in_tab n mn i c np ps xs d hx hc E1 (t1.trans hT) (fun b hb => u1 b (hD b hb)) hq rows vs l (HS.own (.tab rows)) rfl hj nd hl x23 js) ?_
    rintro x st ⟨rfl, x22, x23, js, rfl⟩
    have gH : ∀ m, hget (GH (upd s q (⟨.tab rows, z⟩ : WS))) m = hget ((0, some (.cells (mixAt (mK q) (CL cH (upd s q (⟨.tab rows, z⟩ : WS))) (PN q (cH q (⟨.tab rows, z⟩ : WS)))) 31)) :: (dnHP (upHP (fH q (⟨.tab rows, z⟩ : WS))) ++ oth fH q (upd s q (⟨.tab rows, z⟩ : WS)))) m := fun m => by
      rw [hg own_H hq _ s (⟨.tab rows, z⟩ : WS) m, mixPN hq, dnH]
    refine ⟨AC q (.ts 6 (.lit 0) (.sym rows.length) none) vs, PN q (cH q (⟨.tab rows, z⟩ : WS)), [(6, bq q)], upHP (fH q (⟨.tab rows, z⟩ : WS)), GH (upd s q (⟨.tab rows, z⟩ : WS)), ?_, ?_, ?_, ?_, gH, rfl, x22, x23, js, 7, .inr rfl, ?_⟩ <;> rcases q4 hq with rfl | rfl | rfl | rfl <;> rfl
theorem seeW (hN : ∀ t, NoName (d t)) {q : Nat} (hq : q < 4) (s : Nat → WS) (l : List Int) (hj : ∀ a ∈ (s q).h.own, ∃ j : Nat, j < 12 ∧ a = 96 + 4 * (j : Int)) (nd : (l ++ (s q).h.own).Nodup) (hl : l.length + (s q).h.own.length ≤ 12) (x23 : SV) (js : Nat → SV) :
    Tri MS Try.prog E inner ⟨PA n np mn i l.length d (lt q) (.v (ii 0)) x23 js, H0 ps xs c s (bOf l), 6, []⟩ fun x st => x = .normal ∧ ∃ x22 x23 js, st = ⟨PA n np mn i (l ++ (s q).h.own).length d (lt q) x22 x23 js, H0 ps xs c s (bOf (l ++ (s q).h.own)), 6, []⟩ := by
  have h0 := seeX n mn i c np ps xs d hx hc E hE hT hD hq s (s q) l hj nd hl x23 js
  rw [← upd_self] at h0
  refine Tri.postE h0 ?_
  rintro x st a w ⟨rfl, x22, x23, js, nid, hnid, rfl⟩ hat
  obtain ⟨js1, hn1, hat1⟩ := at_plain (pre := pre0 n np mn i (l ++ (s q).h.own).length d ++ [.v (lt q)]) (js := fun t => if t = 22 then x22 else if t = 23 then x23 else js t) (n := 243) (m := 22) rfl (show At MS E ⟨_, _, _, _⟩ a w from (by
    have e : junk (fun t => if t = 22 then x22 else if t = 23 then x23 else js t) 243 22 = x22 :: x23 :: junk js 241 24 := rfl
    rw [e]
    exact hat))
  obtain ⟨js2, hat2⟩ := at_rename (dirty' := []) (m := 22) (n := 243) (pre := pre0 n np mn i (l ++ (s q).h.own).length d ++ [.v (lt q)]) (pre' := pre0 n np mn i (l ++ (s q).h.own).length d ++ [.v (lt q)]) R6 (nid' := 6) (hp' := H0 ps xs c s (bOf (l ++ (s q).h.own))) rfl (by simp [length_junk]) (ren22 n np mn i _ _ d hN) rfl (by rw [hE]; rcases hnid with rfl | rfl <;> rfl) (by omega) (by omega) hat1
  exact ⟨_, hat2, rfl, js2 22, js2 23, js2, rfl⟩
/-- The cells of the first k workers. -/
def acc (o : Nat → List Int) : Nat → List Int
  | 0 => []
  | k + 1 => acc o k ++ o k
abbrev PK (n : Int) (np : Nat) (mn i f : Int) (d : Nat → SV) (k : VV) (js : Nat → SV) : List SV := pre0 n np mn i f d ++ [.v k] ++ junk js 243 22
theorem workers (hN : ∀ t, NoName (d t)) (s : Nat → WS) (hj : ∀ q, q < 4 → ∀ a ∈ (s q).h.own, ∃ j : Nat, j < 12 ∧ a = 96 + 4 * (j : Int)) (nd : (acc (own' s) 4).Nodup) (hl : (acc (own' s) 4).length ≤ 12) (js : Nat → SV) :
    Tri MS Try.prog E (.block 2 (.loop (.seq (codeAt body [true, true, true, true, true, true, true, true, true, true, true, false, true, false, false, false]) (.seq (.block 3 (codeAt body [true, true, true, true, true, true, true, true, true, true, true, false, true, false, false, true, false, false])) (codeAt body [true, true, true, true, true, true, true, true, true, true, true, false, true, false, false, true, true]))))) ⟨PK n np mn i 0 d (ii 0) js, H0 ps xs c s (bOf []), 6, []⟩ fun x st => x = .normal ∧ ∃ js, st = ⟨pre0 n np mn i (acc (own' s) 4).length d ++ junk js 244 21, H0 ps xs c s (bOf (acc (own' s) 4)), 6, []⟩ := by
  have hd : ∀ (l : List Nat), l.all (Nat.ble 1) = true → ∀ b, b ∈ l → E.D b := fun l hl b hb => hD b (Nat.le_of_ble_eq_true (List.all_eq_true.1 hl b hb))
  have ht : ∀ {k : Nat}, Nat.ble k 60 = true → k ≤ E.top := fun h => by rw [hT]; exact Nat.le_of_ble_eq_true h
  have pieces : ∀ k, k < 4 → (acc (own' s) k ++ own' s k).Nodup ∧ (acc (own' s) k).length + (own' s k).length ≤ 12 := fun k hk => by
    have h1 : ∀ m, k + 1 ≤ m → m ≤ 4 → List.Sublist (acc (own' s) (k + 1)) (acc (own' s) m) := by
      intro m
      induction m with
      | zero => intro h; omega
      | succ m ih =>
        intro h1 h2
        by_cases e : k + 1 = m + 1
        · rw [e]; exact List.Sublist.refl _
        · exact (ih (by omega) (by omega)).trans (List.sublist_append_left _ _)
    have h2 := h1 4 (by omega) (Nat.le_refl _)
    exact ⟨h2.nodup nd, by have := h2.length_le; rw [show acc (own' s) (k + 1) = acc (own' s) k ++ own' s k from rfl, List.length_append] at this; omega⟩
  let Sk : Nat → (Nat → SV) → St MObj := fun k js => ⟨PK n np mn i (acc (own' s) k).length d (ii k) js, H0 ps xs c s (bOf (acc (own' s) k)), 6, []⟩
  refine Tri.block (R := fun x st => x = .exit 2 ∧ ∃ js, st = Sk 4 js) ?_ (fun st hh => by
    rcases hh with hh | hh
    · cases hh.1
    · obtain ⟨_, js, rfl⟩ := hh
      exact ⟨rfl, fun t => if t = 21 then .v (ii 4) else js t, rfl⟩) (fun x s h1 h2 hh => absurd hh.1 h2)
  refine Tri.loop (J := fun m st => ∃ k : Nat, k ≤ 4 ∧ m = 4 - k ∧ ∃ js, st = Sk k js) ?_ (k := 4) ⟨0, by decide, rfl, js, rfl⟩
  rintro m st ⟨k, hk, rfl, js, rfl⟩
  have hfl : (((acc (own' s) k).length : Nat) : Int) ≤ 12 := by
    rcases Nat.lt_or_ge k 4 with h | h
    · have := (pieces k h).2; omega
    · obtain rfl : k = 4 := by omega
      omega
  refine Tri.seq (R := fun x st => ((x = .normal ∧ k < 4) ∨ (x = .exit 2 ∧ 4 ≤ k)) ∧ ∃ js, st = Sk k js) (Tri.allR (m := 24) (n := 241) (codeOK _) (g2 n mn i ((acc (own' s) k).length : Nat) c 0 np ps xs k (js 22) (js 23) NP NU (.abs (.grp (GH s))) (SO (bOf (acc (own' s) k))) d js hx hc (by omega)) (Tr.all_ite (fun h => Tr.all_ok ⟨rfl, ht rfl, hd _ rfl, fun js' => ⟨.inl ⟨rfl, by have := of_decide_eq_true h; omega⟩, fun t => if t = 22 then js 22 else if t = 23 then js 23 else js' t, rfl⟩⟩) fun h => Tr.all_ok ⟨rfl, ht rfl, hd _ rfl, fun js' => ⟨.inr ⟨rfl, by have := of_decide_eq_false h; omega⟩, fun t => if t = 22 then js 22 else if t = 23 then js 23 else js' t, rfl⟩⟩)) ?_ ?_
  · rintro st ⟨h1, js, rfl⟩
    have hk4 : k < 4 := by
      rcases h1 with h1 | h1
      · exact h1.2
      · cases h1.1
    obtain ⟨p1, p2⟩ := pieces k hk4
    refine Tri.seq (R := fun x st => x = .normal ∧ ∃ js, st = (⟨PK n np mn i (acc (own' s) (k + 1)).length d (lt k) js, H0 ps xs c s (bOf (acc (own' s) (k + 1))), 6, []⟩ : St MObj)) ?_ ?_ (fun x s hx hh => absurd hh.1 hx)
    · refine Tri.block (R := fun x st => x = .normal ∧ ∃ js, st = (⟨PK n np mn i (acc (own' s) (k + 1)).length d (lt k) js, H0 ps xs c s (bOf (acc (own' s) (k + 1))), 6, []⟩ : St MObj)) ?_ (fun s hh => by
        rcases hh with hh | hh
        · exact ⟨rfl, hh.2⟩
        · cases hh.1) (fun x s h1 h2 hh => absurd hh.1 h1)
      refine Tri.preE fun aa ww hat => ⟨_, at_slot (pre0 n np mn i ((acc (own' s) k).length : Nat) d) (y := .v (lt k)) (d' := []) (by exact ⟨rfl, rfl⟩) hat, ?_⟩
      have after : ∀ js', Tri MS Try.prog E (codeAt body [true, true, true, true, true, true, true, true, true, true, true, false, true, false, false, true, false, false, true, true]) ⟨PA n np mn i (acc (own' s) k).length d (lt k) (.v (lt 0)) (js 23) js', H0 ps xs c s (bOf (acc (own' s) k)), 6, []⟩ fun x st => x = .normal ∧ ∃ js, st = (⟨PK n np mn i (acc (own' s) (k + 1)).length d (lt k) js, H0 ps xs c s (bOf (acc (own' s) (k + 1))), 6, []⟩ : St MObj) := fun js' => by
        rw [innerE]
        refine Tri.preE fun aa ww hat => ⟨_, at_slot (pre0 n np mn i ((acc (own' s) k).length : Nat) d ++ [.v (lt k)]) (y := .v (ii 0)) (d' := []) (by exact ⟨rfl, rfl⟩) hat, ?_⟩
        refine (seeW n mn i c np ps xs d hx hc E hE hT hD hN hk4 s (acc (own' s) k) (hj k hk4) p1 p2 (js 23) js').mono ?_
        rintro x st ⟨rfl, x22, x23, js, rfl⟩
        exact ⟨rfl, fun t => if t = 22 then x22 else if t = 23 then x23 else js t, rfl⟩
      have spE : ∀ (a b c : Code), (Eng.spine 2 (.seq a (.seq b c))).2 = c := fun a b c => rfl
      rcases q4 hk4 with rfl | rfl | rfl | rfl
      · exact Tri.listR (m := 24) (n := 241) (l := [(codeAt body [true, true, true, true, true, true, true, true, true, true, true, false, true, false, false, true, false, false, false]), (codeAt body [true, true, true, true, true, true, true, true, true, true, true, false, true, false, false, true, false, false, true, false])]) (c' := (codeAt body [true, true, true, true, true, true, true, true, true, true, true, false, true, false, false, true, false, false, true, true])) codeOK 2 rfl rfl (ck0 n mn i ((acc (own' s) 0).length : Nat) c 0 np ps xs (js 22) (js 23) (.abs (.grp (GH s))) (SO (bOf (acc (own' s) 0))) d js hx hc (by omega)) (Tr.all_ok ⟨rfl, rfl, ht rfl, hd _ rfl, fun js' => after js'⟩)
      · exact Tri.listR (m := 24) (n := 241) (l := [(codeAt body [true, true, true, true, true, true, true, true, true, true, true, false, true, false, false, true, false, false, false]), (codeAt body [true, true, true, true, true, true, true, true, true, true, true, false, true, false, false, true, false, false, true, false])]) (c' := (codeAt body [true, true, true, true, true, true, true, true, true, true, true, false, true, false, false, true, false, false, true, true])) codeOK 2 rfl rfl (ck1 n mn i ((acc (own' s) 1).length : Nat) c 0 np ps xs (js 22) (js 23) (.abs (.grp (GH s))) (SO (bOf (acc (own' s) 1))) d js hx hc (by omega)) (Tr.all_ok ⟨rfl, rfl, ht rfl, hd _ rfl, fun js' => after js'⟩)
      · exact Tri.listR (m := 24) (n := 241) (l := [(codeAt body [true, true, true, true, true, true, true, true, true, true, true, false, true, false, false, true, false, false, false]), (codeAt body [true, true, true, true, true, true, true, true, true, true, true, false, true, false, false, true, false, false, true, false])]) (c' := (codeAt body [true, true, true, true, true, true, true, true, true, true, true, false, true, false, false, true, false, false, true, true])) codeOK 2 rfl rfl (ck2 n mn i ((acc (own' s) 2).length : Nat) c 0 np ps xs (js 22) (js 23) (.abs (.grp (GH s))) (SO (bOf (acc (own' s) 2))) d js hx hc (by omega)) (Tr.all_ok ⟨rfl, rfl, ht rfl, hd _ rfl, fun js' => after js'⟩)
      · exact Tri.listR (m := 24) (n := 241) (l := [(codeAt body [true, true, true, true, true, true, true, true, true, true, true, false, true, false, false, true, false, false, false]), (codeAt body [true, true, true, true, true, true, true, true, true, true, true, false, true, false, false, true, false, false, true, false])]) (c' := (codeAt body [true, true, true, true, true, true, true, true, true, true, true, false, true, false, false, true, false, false, true, true])) codeOK 2 rfl rfl (ck3 n mn i ((acc (own' s) 3).length : Nat) c 0 np ps xs (js 22) (js 23) (.abs (.grp (GH s))) (SO (bOf (acc (own' s) 3))) d js hx hc (by omega)) (Tr.all_ok ⟨rfl, rfl, ht rfl, hd _ rfl, fun js' => after js'⟩)
    · rintro st ⟨_, js, rfl⟩
      have er : W ((k : Int) + 1) = ((k + 1 : Nat) : Int) := wrap_i64_of (by omega) (by omega)
      have hfl2 : (((acc (own' s) (k + 1)).length : Nat) : Int) ≤ 12 := by
        rw [show acc (own' s) (k + 1) = acc (own' s) k ++ own' s k from rfl, List.length_append]; omega
      refine Tri.preE fun aa ww hat => ⟨_, at_slot (pre0 n np mn i ((acc (own' s) (k + 1)).length : Nat) d) (y := .v (ii k)) (d' := []) (by exact ⟨rfl, rfl⟩) hat, ?_⟩
      refine Tri.allR (m := 24) (n := 241) (codeOK _) (k2 n mn i ((acc (own' s) (k + 1)).length : Nat) c 0 np ps xs k (js 22) (js 23) NP NU (.abs (.grp (GH s))) (SO (bOf (acc (own' s) (k + 1)))) d js hx hc (by omega) (by omega)) (Tr.all_ok ⟨rfl, ht rfl, hd _ rfl, fun js' => ⟨4 - (k + 1), by omega, k + 1, hk4, rfl, fun t => if t = 22 then js 22 else if t = 23 then js 23 else js' t, ?_⟩⟩)
      simp only [Sk]
      rw [← er]
      rfl
  · rintro x st hx' ⟨h1, js, rfl⟩
    rcases h1 with h1 | h1
    · exact absurd h1.1 hx'
    · obtain rfl : k = 4 := by omega
      obtain rfl := h1.1
      exact ⟨rfl, js, rfl⟩
end
end Go.Proofs.Ytjohhjilglilkaa.ListOwn
