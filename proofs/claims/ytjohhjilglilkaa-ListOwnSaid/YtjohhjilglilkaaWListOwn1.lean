/-
  ListOwn: the steps that leave alone what a worker has. Printed by genLOW.py.
-/
import Derived.Test.YtjohhjilglilkaaWListOwn0
import Derived.Test.YtjohhjilglilkaaPListOwn3
import Derived.Test.YtjohhjilglilkaaMod2
namespace Go.Proofs.Ytjohhjilglilkaa.ListOwn
open Go Go.RowKit Go.Proofs.Ytjohhjilglilkaa.Eng
set_option linter.unusedVariables false
set_option linter.unusedSimpArgs false
set_option linter.unusedSectionVars false
set_option maxRecDepth 20000
set_option maxHeartbeats 4000000
/-- What it is at in the plain law. -/
def ZS.abs : ZS → ListOwnP.PW
  | .idle => .idle
  | .pop 0 _ _ _ => .pop0
  | .pop 1 w _ _ => .pop1 w
  | .pop _ w h _ => .pop2 w h
  | .push 0 a _ => .push0 a
  | .push 1 a w => .push1 a w
  | .push _ a w => .push2 a w
def ZS.ok : ZS → Prop
  | .pop j _ _ _ => j ≤ 2
  | .push j _ _ => j ≤ 2
  | .idle => True
/-- Nothing changes. -/
def KI (xs : List Int) (t : Int) (X : WS) : WS → List Int → Int → Prop := fun Y ys t' => Y = X ∧ ys = xs ∧ t' = t
/-- A step in the plain law's words. -/
def KS (xs : List Int) (t : Int) (X : WS) : WS → List Int → Int → Prop := fun Y ys t' => t' = t ∧ ListOwnP.PStep xs X.h.own X.z.abs Y.h.own Y.z.abs ys ∧ Y.z.ok ∧ Y.h = X.h ∧ ys.length = 160
theorem ne_of_beq {a b : Int} (h : (a == b) = false) : a ≠ b := fun e => by rw [e] at h; simp at h
section
variable {n mn i c t : Int} {np : Nat} {ps : List (List Int)} {xs : List Int} {q : Nat} (hq : q < 4) (hx : xs.length = 160) (hc : 0 ≤ c ∧ c ≤ 100000) (E : Ctx MObj) (hE : E.nid0 = 1) (hT : E.top = 60) (hD : ∀ b, 1 ≤ b → E.D b)
include hq hx hc hE hT hD
theorem w_iN  (hs : HS) (s : Nat → WS) (js : Nat → SV) : TriX MS ((qt [true, true, true, true]).wp Try.prog) E ⟨pre n np mn i ++ [.v (lt q), .v (.bool (.lit false)), .v (.bool (.lit false))] ++ junk js 250 15, bas ps xs c t (upd s q (⟨hs, .idle⟩ : WS)), 5, []⟩ (Mid n np mn i ps c s q (KI xs t (⟨hs, .idle⟩ : WS))) := by
  refine step2 hq hx hc E hE hT hD s (⟨hs, .idle⟩ : WS) 0 0 .nilp .nilp _ _ js _ (by decide) ⟨rfl, rfl⟩ (by rcases q4 hq with rfl | rfl | rfl | rfl <;> exact ⟨⟨rfl, rfl⟩, rfl, rfl⟩) (fun _ => rfl) ?_
  intro vP vU E2 hT2 hD2
  have ht : ∀ {k : Nat}, Nat.ble k 60 = true → k ≤ E2.top := fun h => by rw [hT2]; exact Nat.le_of_ble_eq_true h
  have hdd : ∀ (l : List Nat), l.all (Nat.ble 1) = true → ∀ b, b ∈ l → E2.D b := fun l hl b hb => hD2 b (Nat.le_of_ble_eq_true (List.all_eq_true.1 hl b hb))
  refine TriX.postE (mono_wp _) (Q := fun x s' => x = .normal ∧ ((LS (iN_l0 q n mn i c t np ps xs vP vU (.abs (.grp (GH (upd s q (⟨hs, .idle⟩ : WS)))))) s'))) (fun aa ww hat => Tri.allR (m := 12) (n := 253) (codeOK _) (iN q n mn i c t np ps xs vP vU (.abs (.grp (GH (upd s q (⟨hs, .idle⟩ : WS))))) js hq hx hc) ?_ aa ww (at_wk2 (dirty' := []) (hp' := base ps xs c t (.cells (AC q .nilp vP) 28) (.cells (AC q .nilp vU) 30) (.abs (.grp (GH (upd s q (⟨hs, .idle⟩ : WS)))))) (by repeat' (first | exact trivial | refine ⟨.inl rfl, ?_⟩ | refine ⟨.inr ⟨_, _, _, rfl, rfl, (by (repeat' apply And.intro) <;> first | rfl | trivial)⟩, ?_⟩)) hat)) ?_
  · exact Tr.all_ok ⟨rfl, ht rfl, hdd _ rfl, fun js => ⟨rfl, ⟨js, rfl⟩⟩⟩
  · rintro x s' ac aw ⟨rfl, hq'⟩ hat
    obtain ⟨js, rfl⟩ := hq'
    · have k1 := at_can hat
      exact ⟨_, k1, rfl, (⟨hs, .idle⟩ : WS), xs, c, t, .nilp, .nilp, [], [], ⟨js, rfl⟩, by rcases q4 hq with rfl | rfl | rfl | rfl <;> exact ⟨rfl, rfl, rfl, rfl, rfl, rfl, rfl, rfl, rfl, rfl⟩, ⟨rfl, rfl, rfl⟩, by show 5 ≤ 5 ∧ _; omega⟩
theorem w_iP  (hs : HS) (s : Nat → WS) (js : Nat → SV) : TriX MS ((qt [true, true, true, true]).wp Try.prog) E ⟨pre n np mn i ++ [.v (lt q), .v (.bool (.lit true)), .v (.bool (.lit true))] ++ junk js 250 15, bas ps xs c t (upd s q (⟨hs, .idle⟩ : WS)), 5, []⟩ (Mid n np mn i ps c s q (KS xs t (⟨hs, .idle⟩ : WS))) := by
  refine step2 hq hx hc E hE hT hD s (⟨hs, .idle⟩ : WS) 0 0 .nilp .nilp _ _ js _ (by decide) ⟨rfl, rfl⟩ (by rcases q4 hq with rfl | rfl | rfl | rfl <;> exact ⟨⟨rfl, rfl⟩, rfl, rfl⟩) (fun _ => rfl) ?_
  intro vP vU E2 hT2 hD2
  have ht : ∀ {k : Nat}, Nat.ble k 60 = true → k ≤ E2.top := fun h => by rw [hT2]; exact Nat.le_of_ble_eq_true h
  have hdd : ∀ (l : List Nat), l.all (Nat.ble 1) = true → ∀ b, b ∈ l → E2.D b := fun l hl b hb => hD2 b (Nat.le_of_ble_eq_true (List.all_eq_true.1 hl b hb))
  refine TriX.postE (mono_wp _) (Q := fun x s' => x = .normal ∧ ((LS (iP_l0 q n mn i c t np ps xs vP vU (.abs (.grp (GH (upd s q (⟨hs, .idle⟩ : WS)))))) s' ∧ (mAt (List.getD xs 3 0) == 0) = true) ∨ (LS (iP_l1 q n mn i c t np ps xs vP vU (.abs (.grp (GH (upd s q (⟨hs, .idle⟩ : WS)))))) s' ∧ (mAt (List.getD xs 3 0) == 0) = false))) (fun aa ww hat => Tri.allR (m := 12) (n := 253) (codeOK _) (iP q n mn i c t np ps xs vP vU (.abs (.grp (GH (upd s q (⟨hs, .idle⟩ : WS))))) js hq hx hc) ?_ aa ww (at_wk2 (dirty' := []) (hp' := base ps xs c t (.cells (AC q .nilp vP) 28) (.cells (AC q .nilp vU) 30) (.abs (.grp (GH (upd s q (⟨hs, .idle⟩ : WS)))))) (by repeat' (first | exact trivial | refine ⟨.inl rfl, ?_⟩ | refine ⟨.inr ⟨_, _, _, rfl, rfl, (by (repeat' apply And.intro) <;> first | rfl | trivial)⟩, ?_⟩)) hat)) ?_
  · exact Tr.all_ite (fun e0 => Tr.all_ok ⟨rfl, ht rfl, hdd _ rfl, fun js => ⟨rfl, Or.inl ⟨⟨js, rfl⟩, e0⟩⟩⟩) fun e0 => Tr.all_ok ⟨rfl, ht rfl, hdd _ rfl, fun js => ⟨rfl, Or.inr (⟨⟨js, rfl⟩, e0⟩)⟩⟩
  · rintro x s' ac aw ⟨rfl, hq'⟩ hat
    rcases hq' with ⟨⟨js, rfl⟩, he⟩ | ⟨⟨js, rfl⟩, he⟩
    · have k1 := at_can hat
      exact ⟨_, k1, rfl, (⟨hs, .idle⟩ : WS), xs, (c + 1), t, .nilp, .nilp, [], [], ⟨js, rfl⟩, by rcases q4 hq with rfl | rfl | rfl | rfl <;> exact ⟨rfl, rfl, rfl, rfl, rfl, rfl, rfl, rfl, rfl, rfl⟩, ⟨rfl, .popNone (.inl rfl) (eq_of_beq he), trivial, rfl, by first | exact hx | (rw [List.length_set]; exact hx)⟩, by show 5 ≤ 6 ∧ _; omega⟩
    · have k1 := at_can hat
      exact ⟨_, k1, rfl, (⟨hs, .pop 1 (List.getD xs 3 0) 0 0⟩ : WS), xs, (c + 1), t, (.ptr 5 0), .nilp, [(5, bq q)], [], ⟨js, rfl⟩, by rcases q4 hq with rfl | rfl | rfl | rfl <;> exact ⟨rfl, rfl, rfl, rfl, rfl, rfl, rfl, rfl, rfl, rfl⟩, ⟨rfl, .popLoad (.inl rfl) (ne_of_beq he), (Nat.le_of_ble_eq_true rfl), rfl, by first | exact hx | (rw [List.length_set]; exact hx)⟩, by show 5 ≤ 6 ∧ _; omega⟩
theorem w_p0 (w h se : Int) (bg pp : Bool) (hs : HS) (s : Nat → WS) (js : Nat → SV) : TriX MS ((qt [true, true, true, true]).wp Try.prog) E ⟨pre n np mn i ++ [.v (lt q), .v (.bool (.sym bg)), .v (.bool (.sym pp))] ++ junk js 250 15, bas ps xs c t (upd s q (⟨hs, .pop 0 w h se⟩ : WS)), 5, []⟩ (Mid n np mn i ps c s q (KS xs t (⟨hs, .pop 0 w h se⟩ : WS))) := by
  refine step2 hq hx hc E hE hT hD s (⟨hs, .pop 0 w h se⟩ : WS) 1 0 (.ptr 5 0) .nilp _ _ js _ (by decide) ⟨rfl, rfl⟩ (by rcases q4 hq with rfl | rfl | rfl | rfl <;> exact ⟨⟨rfl, rfl⟩, rfl, rfl⟩) (fun _ => rfl) ?_
  intro vP vU E2 hT2 hD2
  have ht : ∀ {k : Nat}, Nat.ble k 60 = true → k ≤ E2.top := fun h => by rw [hT2]; exact Nat.le_of_ble_eq_true h
  have hdd : ∀ (l : List Nat), l.all (Nat.ble 1) = true → ∀ b, b ∈ l → E2.D b := fun l hl b hb => hD2 b (Nat.le_of_ble_eq_true (List.all_eq_true.1 hl b hb))
  refine TriX.postE (mono_wp _) (Q := fun x s' => x = .normal ∧ ((LS (p0_l0 q n mn i c t np ps xs h vP vU (.abs (.grp (GH (upd s q (⟨hs, .pop 0 w h se⟩ : WS)))))) s' ∧ (mAt (List.getD xs 3 0) == 0) = true) ∨ (LS (p0_l1 q n mn i c t np ps xs h se vP vU (.abs (.grp (GH (upd s q (⟨hs, .pop 0 w h se⟩ : WS)))))) s' ∧ (mAt (List.getD xs 3 0) == 0) = false) ∨ (LS (p0_l2 q n mn i c t np ps xs h vP vU (.abs (.grp (GH (upd s q (⟨hs, .pop 0 w h se⟩ : WS)))))) s' ∧ (mAt (List.getD xs 3 0) == 0) = true) ∨ (LS (p0_l3 q n mn i c t np ps xs h se vP vU (.abs (.grp (GH (upd s q (⟨hs, .pop 0 w h se⟩ : WS)))))) s' ∧ (mAt (List.getD xs 3 0) == 0) = false))) (fun aa ww hat => Tri.allR (m := 12) (n := 253) (codeOK _) (p0 q n mn i c t np ps xs bg pp w h se vP vU (.abs (.grp (GH (upd s q (⟨hs, .pop 0 w h se⟩ : WS))))) js hq hx hc) ?_ aa ww (at_wk2 (dirty' := []) (hp' := [(5, some (po (.fn 14 [] []) w h se))] ++ base ps xs c t (.cells (AC q (.ptr 5 0) vP) 28) (.cells (AC q .nilp vU) 30) (.abs (.grp (GH (upd s q (⟨hs, .pop 0 w h se⟩ : WS)))))) (by repeat' (first | exact trivial | refine ⟨.inl rfl, ?_⟩ | refine ⟨.inr ⟨_, _, _, rfl, rfl, (by (repeat' apply And.intro) <;> first | rfl | trivial)⟩, ?_⟩)) hat)) ?_
  · exact Tr.all_ite (fun e0 => Tr.all_ite (fun e1 => Tr.all_ok ⟨rfl, ht rfl, hdd _ rfl, fun js => ⟨rfl, Or.inl ⟨⟨js, rfl⟩, e1⟩⟩⟩) fun e1 => Tr.all_ok ⟨rfl, ht rfl, hdd _ rfl, fun js => ⟨rfl, Or.inr (Or.inl ⟨⟨js, rfl⟩, e1⟩)⟩⟩) fun e0 => Tr.all_ite (fun e1 => Tr.all_ok ⟨rfl, ht rfl, hdd _ rfl, fun js => ⟨rfl, Or.inr (Or.inr (Or.inl ⟨⟨js, rfl⟩, e1⟩))⟩⟩) fun e1 => Tr.all_ok ⟨rfl, ht rfl, hdd _ rfl, fun js => ⟨rfl, Or.inr (Or.inr (Or.inr (⟨⟨js, rfl⟩, e1⟩)))⟩⟩
  · rintro x s' ac aw ⟨rfl, hq'⟩ hat
    rcases hq' with ⟨⟨js, rfl⟩, he⟩ | ⟨⟨js, rfl⟩, he⟩ | ⟨⟨js, rfl⟩, he⟩ | ⟨⟨js, rfl⟩, he⟩
    · have k1 := at_can hat
      exact ⟨_, k1, rfl, (⟨hs, .idle⟩ : WS), xs, (c + 1), t, .nilp, .nilp, [], [], ⟨js, rfl⟩, by rcases q4 hq with rfl | rfl | rfl | rfl <;> exact ⟨rfl, rfl, rfl, rfl, rfl, rfl, rfl, rfl, rfl, rfl⟩, ⟨rfl, .popNone (.inr rfl) (eq_of_beq he), trivial, rfl, by first | exact hx | (rw [List.length_set]; exact hx)⟩, by show 5 ≤ 6 ∧ _; omega⟩
    · have k1 := at_can hat
      exact ⟨_, k1, rfl, (⟨hs, .pop 1 (List.getD xs 3 0) h se⟩ : WS), xs, (c + 1), t, (.ptr 5 0), .nilp, [(5, bq q)], [], ⟨js, rfl⟩, by rcases q4 hq with rfl | rfl | rfl | rfl <;> exact ⟨rfl, rfl, rfl, rfl, rfl, rfl, rfl, rfl, rfl, rfl⟩, ⟨rfl, .popLoad (.inr rfl) (ne_of_beq he), (Nat.le_of_ble_eq_true rfl), rfl, by first | exact hx | (rw [List.length_set]; exact hx)⟩, by show 5 ≤ 6 ∧ _; omega⟩
    · have k1 := at_can hat
      exact ⟨_, k1, rfl, (⟨hs, .idle⟩ : WS), xs, (c + 1), t, .nilp, .nilp, [], [], ⟨js, rfl⟩, by rcases q4 hq with rfl | rfl | rfl | rfl <;> exact ⟨rfl, rfl, rfl, rfl, rfl, rfl, rfl, rfl, rfl, rfl⟩, ⟨rfl, .popNone (.inr rfl) (eq_of_beq he), trivial, rfl, by first | exact hx | (rw [List.length_set]; exact hx)⟩, by show 5 ≤ 6 ∧ _; omega⟩
    · have k1 := at_can hat
      exact ⟨_, k1, rfl, (⟨hs, .pop 1 (List.getD xs 3 0) h se⟩ : WS), xs, (c + 1), t, (.ptr 5 0), .nilp, [(5, bq q)], [], ⟨js, rfl⟩, by rcases q4 hq with rfl | rfl | rfl | rfl <;> exact ⟨rfl, rfl, rfl, rfl, rfl, rfl, rfl, rfl, rfl, rfl⟩, ⟨rfl, .popLoad (.inr rfl) (ne_of_beq he), (Nat.le_of_ble_eq_true rfl), rfl, by first | exact hx | (rw [List.length_set]; exact hx)⟩, by show 5 ≤ 6 ∧ _; omega⟩
theorem w_p1 (w h se : Int) (bg pp : Bool) (hs : HS) (s : Nat → WS) (hin : inb (mAt w) xs.length = true) (js : Nat → SV) : TriX MS ((qt [true, true, true, true]).wp Try.prog) E ⟨pre n np mn i ++ [.v (lt q), .v (.bool (.sym bg)), .v (.bool (.sym pp))] ++ junk js 250 15, bas ps xs c t (upd s q (⟨hs, .pop 1 w h se⟩ : WS)), 5, []⟩ (Mid n np mn i ps c s q (KS xs t (⟨hs, .pop 1 w h se⟩ : WS))) := by
  refine step2 hq hx hc E hE hT hD s (⟨hs, .pop 1 w h se⟩ : WS) 1 0 (.ptr 5 0) .nilp _ _ js _ (by decide) ⟨rfl, rfl⟩ (by rcases q4 hq with rfl | rfl | rfl | rfl <;> exact ⟨⟨rfl, rfl⟩, rfl, rfl⟩) (fun _ => rfl) ?_
  intro vP vU E2 hT2 hD2
  have ht : ∀ {k : Nat}, Nat.ble k 60 = true → k ≤ E2.top := fun h => by rw [hT2]; exact Nat.le_of_ble_eq_true h
  have hdd : ∀ (l : List Nat), l.all (Nat.ble 1) = true → ∀ b, b ∈ l → E2.D b := fun l hl b hb => hD2 b (Nat.le_of_ble_eq_true (List.all_eq_true.1 hl b hb))
  refine TriX.postE (mono_wp _) (Q := fun x s' => x = .normal ∧ ((LS (p1_l0 q n mn i c t np ps xs w se vP vU (.abs (.grp (GH (upd s q (⟨hs, .pop 1 w h se⟩ : WS)))))) s') ∨ (LS (p1_l1 q n mn i c t np ps xs w se vP vU (.abs (.grp (GH (upd s q (⟨hs, .pop 1 w h se⟩ : WS)))))) s'))) (fun aa ww hat => Tri.allR (m := 12) (n := 253) (codeOK _) (p1 q n mn i c t np ps xs bg pp w h se vP vU (.abs (.grp (GH (upd s q (⟨hs, .pop 1 w h se⟩ : WS))))) js hq hx hc hin) ?_ aa ww (at_wk2 (dirty' := []) (hp' := [(5, some (po (.fn 17 [] []) w h se))] ++ base ps xs c t (.cells (AC q (.ptr 5 0) vP) 28) (.cells (AC q .nilp vU) 30) (.abs (.grp (GH (upd s q (⟨hs, .pop 1 w h se⟩ : WS)))))) (by repeat' (first | exact trivial | refine ⟨.inl rfl, ?_⟩ | refine ⟨.inr ⟨_, _, _, rfl, rfl, (by (repeat' apply And.intro) <;> first | rfl | trivial)⟩, ?_⟩)) hat)) ?_
  · exact Tr.all_ite (fun e0 => Tr.all_ok ⟨rfl, ht rfl, hdd _ rfl, fun js => ⟨rfl, Or.inl ⟨js, rfl⟩⟩⟩) fun e0 => Tr.all_ok ⟨rfl, ht rfl, hdd _ rfl, fun js => ⟨rfl, Or.inr (⟨js, rfl⟩)⟩⟩
  · rintro x s' ac aw ⟨rfl, hq'⟩ hat
    rcases hq' with ⟨js, rfl⟩ | ⟨js, rfl⟩
    · have k1 := at_can hat
      exact ⟨_, k1, rfl, (⟨hs, .pop 2 w (List.getD xs (Int.toNat (mAt w)) 0) se⟩ : WS), xs, (c + 1), t, (.ptr 5 0), .nilp, [(5, bq q)], [], ⟨js, rfl⟩, by rcases q4 hq with rfl | rfl | rfl | rfl <;> exact ⟨rfl, rfl, rfl, rfl, rfl, rfl, rfl, rfl, rfl, rfl⟩, ⟨rfl, .popLink, (Nat.le_of_ble_eq_true rfl), rfl, by first | exact hx | (rw [List.length_set]; exact hx)⟩, by show 5 ≤ 6 ∧ _; omega⟩
    · have k1 := at_can hat
      exact ⟨_, k1, rfl, (⟨hs, .pop 2 w (List.getD xs (Int.toNat (mAt w)) 0) se⟩ : WS), xs, (c + 1), t, (.ptr 5 0), .nilp, [(5, bq q)], [], ⟨js, rfl⟩, by rcases q4 hq with rfl | rfl | rfl | rfl <;> exact ⟨rfl, rfl, rfl, rfl, rfl, rfl, rfl, rfl, rfl, rfl⟩, ⟨rfl, .popLink, (Nat.le_of_ble_eq_true rfl), rfl, by first | exact hx | (rw [List.length_set]; exact hx)⟩, by show 5 ≤ 6 ∧ _; omega⟩
theorem w_u0 (a w : Int) (bg pp : Bool) (hs : HS) (s : Nat → WS) (hin : inb a xs.length = true) (js : Nat → SV) : TriX MS ((qt [true, true, true, true]).wp Try.prog) E ⟨pre n np mn i ++ [.v (lt q), .v (.bool (.sym bg)), .v (.bool (.sym pp))] ++ junk js 250 15, bas ps xs c t (upd s q (⟨hs, .push 0 a w⟩ : WS)), 5, []⟩ (Mid n np mn i ps c s q (KS xs t (⟨hs, .push 0 a w⟩ : WS))) := by
  refine step2 hq hx hc E hE hT hD s (⟨hs, .push 0 a w⟩ : WS) 0 1 .nilp (.ptr 5 0) _ _ js _ (by decide) ⟨rfl, rfl⟩ (by rcases q4 hq with rfl | rfl | rfl | rfl <;> exact ⟨⟨rfl, rfl⟩, rfl, rfl⟩) (fun _ => rfl) ?_
  intro vP vU E2 hT2 hD2
  have ht : ∀ {k : Nat}, Nat.ble k 60 = true → k ≤ E2.top := fun h => by rw [hT2]; exact Nat.le_of_ble_eq_true h
  have hdd : ∀ (l : List Nat), l.all (Nat.ble 1) = true → ∀ b, b ∈ l → E2.D b := fun l hl b hb => hD2 b (Nat.le_of_ble_eq_true (List.all_eq_true.1 hl b hb))
  refine TriX.postE (mono_wp _) (Q := fun x s' => x = .normal ∧ ((LS (u0_l0 q n mn i c t np ps xs a vP vU (.abs (.grp (GH (upd s q (⟨hs, .push 0 a w⟩ : WS)))))) s') ∨ (LS (u0_l1 q n mn i c t np ps xs a vP vU (.abs (.grp (GH (upd s q (⟨hs, .push 0 a w⟩ : WS)))))) s'))) (fun aa ww hat => Tri.allR (m := 12) (n := 253) (codeOK _) (u0 q n mn i c t np ps xs bg pp a w vP vU (.abs (.grp (GH (upd s q (⟨hs, .push 0 a w⟩ : WS))))) js hq hx hc hin) ?_ aa ww (at_wk2 (dirty' := []) (hp' := [(5, some (pu (.fn 15 [] []) a w))] ++ base ps xs c t (.cells (AC q .nilp vP) 28) (.cells (AC q (.ptr 5 0) vU) 30) (.abs (.grp (GH (upd s q (⟨hs, .push 0 a w⟩ : WS)))))) (by repeat' (first | exact trivial | refine ⟨.inl rfl, ?_⟩ | refine ⟨.inr ⟨_, _, _, rfl, rfl, (by (repeat' apply And.intro) <;> first | rfl | trivial)⟩, ?_⟩)) hat)) ?_
  · exact Tr.all_ite (fun e0 => Tr.all_ok ⟨rfl, ht rfl, hdd _ rfl, fun js => ⟨rfl, Or.inl ⟨js, rfl⟩⟩⟩) fun e0 => Tr.all_ok ⟨rfl, ht rfl, hdd _ rfl, fun js => ⟨rfl, Or.inr (⟨js, rfl⟩)⟩⟩
  · rintro x s' ac aw ⟨rfl, hq'⟩ hat
    rcases hq' with ⟨js, rfl⟩ | ⟨js, rfl⟩
    · have k1 := at_can hat
      exact ⟨_, k1, rfl, (⟨hs, .push 1 a (List.getD xs 3 0)⟩ : WS), xs, (c + 1), t, .nilp, (.ptr 5 0), [], [(5, bq q)], ⟨js, rfl⟩, by rcases q4 hq with rfl | rfl | rfl | rfl <;> exact ⟨rfl, rfl, rfl, rfl, rfl, rfl, rfl, rfl, rfl, rfl⟩, ⟨rfl, .pushLoad, (Nat.le_of_ble_eq_true rfl), rfl, by first | exact hx | (rw [List.length_set]; exact hx)⟩, by show 5 ≤ 6 ∧ _; omega⟩
    · have k1 := at_can hat
      exact ⟨_, k1, rfl, (⟨hs, .push 1 a (List.getD xs 3 0)⟩ : WS), xs, (c + 1), t, .nilp, (.ptr 5 0), [], [(5, bq q)], ⟨js, rfl⟩, by rcases q4 hq with rfl | rfl | rfl | rfl <;> exact ⟨rfl, rfl, rfl, rfl, rfl, rfl, rfl, rfl, rfl, rfl⟩, ⟨rfl, .pushLoad, (Nat.le_of_ble_eq_true rfl), rfl, by first | exact hx | (rw [List.length_set]; exact hx)⟩, by show 5 ≤ 6 ∧ _; omega⟩
theorem w_u1 (a w : Int) (bg pp : Bool) (hs : HS) (s : Nat → WS) (hin : inb a xs.length = true) (js : Nat → SV) : TriX MS ((qt [true, true, true, true]).wp Try.prog) E ⟨pre n np mn i ++ [.v (lt q), .v (.bool (.sym bg)), .v (.bool (.sym pp))] ++ junk js 250 15, bas ps xs c t (upd s q (⟨hs, .push 1 a w⟩ : WS)), 5, []⟩ (Mid n np mn i ps c s q (KS xs t (⟨hs, .push 1 a w⟩ : WS))) := by
  refine step2 hq hx hc E hE hT hD s (⟨hs, .push 1 a w⟩ : WS) 0 1 .nilp (.ptr 5 0) _ _ js _ (by decide) ⟨rfl, rfl⟩ (by rcases q4 hq with rfl | rfl | rfl | rfl <;> exact ⟨⟨rfl, rfl⟩, rfl, rfl⟩) (fun _ => rfl) ?_
  intro vP vU E2 hT2 hD2
  have ht : ∀ {k : Nat}, Nat.ble k 60 = true → k ≤ E2.top := fun h => by rw [hT2]; exact Nat.le_of_ble_eq_true h
  have hdd : ∀ (l : List Nat), l.all (Nat.ble 1) = true → ∀ b, b ∈ l → E2.D b := fun l hl b hb => hD2 b (Nat.le_of_ble_eq_true (List.all_eq_true.1 hl b hb))
  refine TriX.postE (mono_wp _) (Q := fun x s' => x = .normal ∧ ((LS (u1_l0 q n mn i c t np ps xs a w vP vU (.abs (.grp (GH (upd s q (⟨hs, .push 1 a w⟩ : WS)))))) s') ∨ (LS (u1_l1 q n mn i c t np ps xs a w vP vU (.abs (.grp (GH (upd s q (⟨hs, .push 1 a w⟩ : WS)))))) s'))) (fun aa ww hat => Tri.allR (m := 12) (n := 253) (codeOK _) (u1 q n mn i c t np ps xs bg pp a w vP vU (.abs (.grp (GH (upd s q (⟨hs, .push 1 a w⟩ : WS))))) js hq hx hc hin) ?_ aa ww (at_wk2 (dirty' := []) (hp' := [(5, some (pu (.fn 20 [] []) a w))] ++ base ps xs c t (.cells (AC q .nilp vP) 28) (.cells (AC q (.ptr 5 0) vU) 30) (.abs (.grp (GH (upd s q (⟨hs, .push 1 a w⟩ : WS)))))) (by repeat' (first | exact trivial | refine ⟨.inl rfl, ?_⟩ | refine ⟨.inr ⟨_, _, _, rfl, rfl, (by (repeat' apply And.intro) <;> first | rfl | trivial)⟩, ?_⟩)) hat)) ?_
  · exact Tr.all_ite (fun e0 => Tr.all_ok ⟨rfl, ht rfl, hdd _ rfl, fun js => ⟨rfl, Or.inl ⟨js, rfl⟩⟩⟩) fun e0 => Tr.all_ok ⟨rfl, ht rfl, hdd _ rfl, fun js => ⟨rfl, Or.inr (⟨js, rfl⟩)⟩⟩
  · rintro x s' ac aw ⟨rfl, hq'⟩ hat
    rcases hq' with ⟨js, rfl⟩ | ⟨js, rfl⟩
    · have k1 := at_can hat
      exact ⟨_, k1, rfl, (⟨hs, .push 2 a w⟩ : WS), (List.set xs (Int.toNat a) (mWord 0 0 0 0 0 0 (mAt w))), (c + 1), t, .nilp, (.ptr 5 0), [], [(5, bq q)], ⟨js, rfl⟩, by rcases q4 hq with rfl | rfl | rfl | rfl <;> exact ⟨rfl, rfl, rfl, rfl, rfl, rfl, rfl, rfl, rfl, rfl⟩, ⟨rfl, .pushLink (by rw [link_word]; unfold mAt; omega), (Nat.le_of_ble_eq_true rfl), rfl, by first | exact hx | (rw [List.length_set]; exact hx)⟩, by show 5 ≤ 6 ∧ _; omega⟩
    · have k1 := at_can hat
      exact ⟨_, k1, rfl, (⟨hs, .push 2 a w⟩ : WS), (List.set xs (Int.toNat a) (mWord 0 0 0 0 0 0 (mAt w))), (c + 1), t, .nilp, (.ptr 5 0), [], [(5, bq q)], ⟨js, rfl⟩, by rcases q4 hq with rfl | rfl | rfl | rfl <;> exact ⟨rfl, rfl, rfl, rfl, rfl, rfl, rfl, rfl, rfl, rfl⟩, ⟨rfl, .pushLink (by rw [link_word]; unfold mAt; omega), (Nat.le_of_ble_eq_true rfl), rfl, by first | exact hx | (rw [List.length_set]; exact hx)⟩, by show 5 ≤ 6 ∧ _; omega⟩
theorem w_u2 (a w : Int) (bg pp : Bool) (hs : HS) (s : Nat → WS) (hin : inb a xs.length = true) (js : Nat → SV) : TriX MS ((qt [true, true, true, true]).wp Try.prog) E ⟨pre n np mn i ++ [.v (lt q), .v (.bool (.sym bg)), .v (.bool (.sym pp))] ++ junk js 250 15, bas ps xs c t (upd s q (⟨hs, .push 2 a w⟩ : WS)), 5, []⟩ (Mid n np mn i ps c s q (KS xs t (⟨hs, .push 2 a w⟩ : WS))) := by
  refine step2 hq hx hc E hE hT hD s (⟨hs, .push 2 a w⟩ : WS) 0 1 .nilp (.ptr 5 0) _ _ js _ (by decide) ⟨rfl, rfl⟩ (by rcases q4 hq with rfl | rfl | rfl | rfl <;> exact ⟨⟨rfl, rfl⟩, rfl, rfl⟩) (fun _ => rfl) ?_
  intro vP vU E2 hT2 hD2
  have ht : ∀ {k : Nat}, Nat.ble k 60 = true → k ≤ E2.top := fun h => by rw [hT2]; exact Nat.le_of_ble_eq_true h
  have hdd : ∀ (l : List Nat), l.all (Nat.ble 1) = true → ∀ b, b ∈ l → E2.D b := fun l hl b hb => hD2 b (Nat.le_of_ble_eq_true (List.all_eq_true.1 hl b hb))
  refine TriX.postE (mono_wp _) (Q := fun x s' => x = .normal ∧ ((LS (u2_l0 q n mn i c t np ps xs a w vP vU (.abs (.grp (GH (upd s q (⟨hs, .push 2 a w⟩ : WS)))))) s' ∧ (List.getD xs 3 0 == w) = true) ∨ (LS (u2_l1 q n mn i c t np ps xs a w vP vU (.abs (.grp (GH (upd s q (⟨hs, .push 2 a w⟩ : WS)))))) s' ∧ (List.getD xs 3 0 == w) = false) ∨ (LS (u2_l2 q n mn i c t np ps xs a w vP vU (.abs (.grp (GH (upd s q (⟨hs, .push 2 a w⟩ : WS)))))) s' ∧ (List.getD xs 3 0 == w) = true) ∨ (LS (u2_l3 q n mn i c t np ps xs a w vP vU (.abs (.grp (GH (upd s q (⟨hs, .push 2 a w⟩ : WS)))))) s' ∧ (List.getD xs 3 0 == w) = false))) (fun aa ww hat => Tri.allR (m := 12) (n := 253) (codeOK _) (u2 q n mn i c t np ps xs bg pp a w vP vU (.abs (.grp (GH (upd s q (⟨hs, .push 2 a w⟩ : WS))))) js hq hx hc hin) ?_ aa ww (at_wk2 (dirty' := []) (hp' := [(5, some (pu (.fn 27 [] []) a w))] ++ base ps xs c t (.cells (AC q .nilp vP) 28) (.cells (AC q (.ptr 5 0) vU) 30) (.abs (.grp (GH (upd s q (⟨hs, .push 2 a w⟩ : WS)))))) (by repeat' (first | exact trivial | refine ⟨.inl rfl, ?_⟩ | refine ⟨.inr ⟨_, _, _, rfl, rfl, (by (repeat' apply And.intro) <;> first | rfl | trivial)⟩, ?_⟩)) hat)) ?_
  · exact Tr.all_ite (fun e0 => Tr.all_ite (fun e1 => Tr.all_ok ⟨rfl, ht rfl, hdd _ rfl, fun js => ⟨rfl, Or.inl ⟨⟨js, rfl⟩, e1⟩⟩⟩) fun e1 => Tr.all_ok ⟨rfl, ht rfl, hdd _ rfl, fun js => ⟨rfl, Or.inr (Or.inl ⟨⟨js, rfl⟩, e1⟩)⟩⟩) fun e0 => Tr.all_ite (fun e1 => Tr.all_ok ⟨rfl, ht rfl, hdd _ rfl, fun js => ⟨rfl, Or.inr (Or.inr (Or.inl ⟨⟨js, rfl⟩, e1⟩))⟩⟩) fun e1 => Tr.all_ok ⟨rfl, ht rfl, hdd _ rfl, fun js => ⟨rfl, Or.inr (Or.inr (Or.inr (⟨⟨js, rfl⟩, e1⟩)))⟩⟩
  · rintro x s' ac aw ⟨rfl, hq'⟩ hat
    rcases hq' with ⟨⟨js, rfl⟩, he⟩ | ⟨⟨js, rfl⟩, he⟩ | ⟨⟨js, rfl⟩, he⟩ | ⟨⟨js, rfl⟩, he⟩
    · have k1 := at_can hat
      exact ⟨_, k1, rfl, (⟨hs, .idle⟩ : WS), (List.set xs 3 (mNext w a)), (c + 1), t, .nilp, .nilp, [], [], ⟨js, rfl⟩, by rcases q4 hq with rfl | rfl | rfl | rfl <;> exact ⟨rfl, rfl, rfl, rfl, rfl, rfl, rfl, rfl, rfl, rfl⟩, ⟨rfl, .pushOk (eq_of_beq he), trivial, rfl, by first | exact hx | (rw [List.length_set]; exact hx)⟩, by show 5 ≤ 6 ∧ _; omega⟩
    · have k1 := at_can hat
      exact ⟨_, k1, rfl, (⟨hs, .push 0 a w⟩ : WS), xs, (c + 1), t, .nilp, (.ptr 5 0), [], [(5, bq q)], ⟨js, rfl⟩, by rcases q4 hq with rfl | rfl | rfl | rfl <;> exact ⟨rfl, rfl, rfl, rfl, rfl, rfl, rfl, rfl, rfl, rfl⟩, ⟨rfl, .pushFail (ne_of_beq he), (Nat.le_of_ble_eq_true rfl), rfl, by first | exact hx | (rw [List.length_set]; exact hx)⟩, by show 5 ≤ 6 ∧ _; omega⟩
    · have k1 := at_can hat
      exact ⟨_, k1, rfl, (⟨hs, .idle⟩ : WS), (List.set xs 3 (mNext w a)), (c + 1), t, .nilp, .nilp, [], [], ⟨js, rfl⟩, by rcases q4 hq with rfl | rfl | rfl | rfl <;> exact ⟨rfl, rfl, rfl, rfl, rfl, rfl, rfl, rfl, rfl, rfl⟩, ⟨rfl, .pushOk (eq_of_beq he), trivial, rfl, by first | exact hx | (rw [List.length_set]; exact hx)⟩, by show 5 ≤ 6 ∧ _; omega⟩
    · have k1 := at_can hat
      exact ⟨_, k1, rfl, (⟨hs, .push 0 a w⟩ : WS), xs, (c + 1), t, .nilp, (.ptr 5 0), [], [(5, bq q)], ⟨js, rfl⟩, by rcases q4 hq with rfl | rfl | rfl | rfl <;> exact ⟨rfl, rfl, rfl, rfl, rfl, rfl, rfl, rfl, rfl, rfl⟩, ⟨rfl, .pushFail (ne_of_beq he), (Nat.le_of_ble_eq_true rfl), rfl, by first | exact hx | (rw [List.length_set]; exact hx)⟩, by show 5 ≤ 6 ∧ _; omega⟩
end
end Go.Proofs.Ytjohhjilglilkaa.ListOwn
