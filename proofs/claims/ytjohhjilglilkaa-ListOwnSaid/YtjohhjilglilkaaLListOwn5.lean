/-
  ListOwn: behind the law's loop: what the workers have is seen, each cell once. Printed by genLO5.py.
-/
import Derived.Test.YtjohhjilglilkaaLListOwn4
import Derived.Test.YtjohhjilglilkaaTListOwn3
import Derived.Test.YtjohhjilglilkaaPListOwn4
import Derived.Test.YtjohhjilglilkaaEngZm
namespace Go.Proofs.Ytjohhjilglilkaa.ListOwn
open Go Go.RowKit Go.Proofs.Ytjohhjilglilkaa.Eng ListOwnP
set_option linter.unusedVariables false
set_option linter.unusedSimpArgs false
set_option linter.unusedSectionVars false
set_option maxRecDepth 20000
set_option maxHeartbeats 2000000
abbrev SO (b : Nat → Bool) : VObj MObj := .cells (SEEN b) 38
abbrev NP : VObj MObj := .cells [.nilp, .nilp, .nilp, .nilp] 28
abbrev NU : VObj MObj := .cells [.nilp, .nilp, .nilp, .nilp] 30
abbrev PA (n : Int) (np : Nat) (mn i f : Int) (d : Nat → SV) (k : VV) (x22 x23 : SV) (js : Nat → SV) : List SV := pre0 n np mn i f d ++ [.v k, x22, x23] ++ junk js 241 24
abbrev HT (q : Nat) (rows : List (List Int)) (vs : Nat → Value) (ps : List (List Int)) (xs : List Int) (c : Int) (os : VObj MObj) : HP MObj := [(6, some (.tab [.int .i64] rows 3))] ++ bs2 ps xs c 0 NP NU (.cells (AC q (.ts 6 (.lit 0) (.sym rows.length) none) vs) 31) os
noncomputable abbrev gA : Code := (codeAt body [true, true, true, true, true, true, true, true, true, true, true, false, true, false, false, true, false, false, true, true, false, false, false])
noncomputable abbrev gB : Code := (codeAt body [true, true, true, true, true, true, true, true, true, true, true, false, true, false, false, true, false, false, true, true, false, false, true, false, false, false])
noncomputable abbrev gC : Code := (codeAt body [true, true, true, true, true, true, true, true, true, true, true, false, true, false, false, true, false, false, true, true, false, false, true, false, false, true])
noncomputable abbrev gI : Code := (codeAt body [true, true, true, true, true, true, true, true, true, true, true, false, true, false, false, true, false, false, true, true, false, false, true, true])
noncomputable abbrev inner : Code := .block 4 (.loop (.seq gA (.seq (.block 5 (.seq gB gC)) gI)))
theorem innerE : (codeAt body [true, true, true, true, true, true, true, true, true, true, true, false, true, false, false, true, false, false, true, true]) = inner := by kernel_rfl
section
variable (n mn i c : Int) (np : Nat) (ps : List (List Int)) (xs : List Int) (d : Nat → SV) (hx : xs.length = 160) (hc : 0 ≤ c ∧ c ≤ 100000) (E : Ctx MObj) (hT : E.top = 60) (hD : ∀ b, 1 ≤ b → E.D b)
include hx hc hT hD

theorem htQ {q : Nat} (hq : q < 4) {f r : Int} (hf : 0 ≤ f ∧ f ≤ 1000) (hr : 0 ≤ r ∧ r ≤ 1000) (x23 : SV) (rows : List (List Int)) (vs : Nat → Value) (os : VObj MObj) (js : Nat → SV) :
    Tri MS Try.prog E gA ⟨PA n np mn i f d (lt q) (.v (ii r)) x23 js, HT q rows vs ps xs c os, 7, []⟩ fun x st => ((x = .normal ∧ r < rows.length) ∨ (x = .exit 4 ∧ rows.length ≤ r)) ∧ ∃ js, st = ⟨PA n np mn i f d (lt q) (.v (ii r)) x23 js, HT q rows vs ps xs c os, 7, []⟩ := by
  have hd : ∀ (l : List Nat), l.all (Nat.ble 1) = true → ∀ b, b ∈ l → E.D b := fun l hl b hb => hD b (Nat.le_of_ble_eq_true (List.all_eq_true.1 hl b hb))
  have ht : ∀ {k : Nat}, Nat.ble k 60 = true → k ≤ E.top := fun h => by rw [hT]; exact Nat.le_of_ble_eq_true h
  rcases q4 hq with rfl | rfl | rfl | rfl
  · exact Tri.allR (m := 24) (n := 241) (codeOK _) (ht0 n mn i f c 0 np ps xs r x23 rows NP NU os vs d js hx hc hf hr) (Tr.all_ite (fun h => Tr.all_ok ⟨rfl, ht rfl, hd _ rfl, fun js => ⟨.inl ⟨rfl, of_decide_eq_true h⟩, js, rfl⟩⟩) fun h => Tr.all_ok ⟨rfl, ht rfl, hd _ rfl, fun js => ⟨.inr ⟨rfl, Int.not_lt.1 (of_decide_eq_false h)⟩, js, rfl⟩⟩)
  · exact Tri.allR (m := 24) (n := 241) (codeOK _) (ht1 n mn i f c 0 np ps xs r x23 rows NP NU os vs d js hx hc hf hr) (Tr.all_ite (fun h => Tr.all_ok ⟨rfl, ht rfl, hd _ rfl, fun js => ⟨.inl ⟨rfl, of_decide_eq_true h⟩, js, rfl⟩⟩) fun h => Tr.all_ok ⟨rfl, ht rfl, hd _ rfl, fun js => ⟨.inr ⟨rfl, Int.not_lt.1 (of_decide_eq_false h)⟩, js, rfl⟩⟩)
  · exact Tri.allR (m := 24) (n := 241) (codeOK _) (ht2 n mn i f c 0 np ps xs r x23 rows NP NU os vs d js hx hc hf hr) (Tr.all_ite (fun h => Tr.all_ok ⟨rfl, ht rfl, hd _ rfl, fun js => ⟨.inl ⟨rfl, of_decide_eq_true h⟩, js, rfl⟩⟩) fun h => Tr.all_ok ⟨rfl, ht rfl, hd _ rfl, fun js => ⟨.inr ⟨rfl, Int.not_lt.1 (of_decide_eq_false h)⟩, js, rfl⟩⟩)
  · exact Tri.allR (m := 24) (n := 241) (codeOK _) (ht3 n mn i f c 0 np ps xs r x23 rows NP NU os vs d js hx hc hf hr) (Tr.all_ite (fun h => Tr.all_ok ⟨rfl, ht rfl, hd _ rfl, fun js => ⟨.inl ⟨rfl, of_decide_eq_true h⟩, js, rfl⟩⟩) fun h => Tr.all_ok ⟨rfl, ht rfl, hd _ rfl, fun js => ⟨.inr ⟨rfl, Int.not_lt.1 (of_decide_eq_false h)⟩, js, rfl⟩⟩)
theorem hbQ {q : Nat} (hq : q < 4) {f r : Int} (hf : 0 ≤ f ∧ f ≤ 1000) (rows : List (List Int)) (hr : 0 ≤ r ∧ r < rows.length) (x23 : SV) (vs : Nat → Value) (os : VObj MObj) (js : Nat → SV) :
    Tri MS Try.prog E gB ⟨PA n np mn i f d (lt q) (.v (ii r)) x23 js, HT q rows vs ps xs c os, 7, []⟩ fun x st => x = .normal ∧ ∃ js, st = ⟨PA n np mn i f d (lt q) (.v (ii r)) (.v (ii (tabAt rows (0 + r.toNat) 0))) js, HT q rows vs ps xs c os, 7, []⟩ := by
  have hd : ∀ (l : List Nat), l.all (Nat.ble 1) = true → ∀ b, b ∈ l → E.D b := fun l hl b hb => hD b (Nat.le_of_ble_eq_true (List.all_eq_true.1 hl b hb))
  have ht : ∀ {k : Nat}, Nat.ble k 60 = true → k ≤ E.top := fun h => by rw [hT]; exact Nat.le_of_ble_eq_true h
  rcases q4 hq with rfl | rfl | rfl | rfl
  · exact Tri.allR (m := 24) (n := 241) (codeOK _) (hb0 n mn i f c 0 np ps xs r x23 rows NP NU os vs d js hx hc hf hr) (Tr.all_ok ⟨rfl, ht rfl, hd _ rfl, fun js => ⟨rfl, js, rfl⟩⟩)
  · exact Tri.allR (m := 24) (n := 241) (codeOK _) (hb1 n mn i f c 0 np ps xs r x23 rows NP NU os vs d js hx hc hf hr) (Tr.all_ok ⟨rfl, ht rfl, hd _ rfl, fun js => ⟨rfl, js, rfl⟩⟩)
  · exact Tri.allR (m := 24) (n := 241) (codeOK _) (hb2 n mn i f c 0 np ps xs r x23 rows NP NU os vs d js hx hc hf hr) (Tr.all_ok ⟨rfl, ht rfl, hd _ rfl, fun js => ⟨rfl, js, rfl⟩⟩)
  · exact Tri.allR (m := 24) (n := 241) (codeOK _) (hb3 n mn i f c 0 np ps xs r x23 rows NP NU os vs d js hx hc hf hr) (Tr.all_ok ⟨rfl, ht rfl, hd _ rfl, fun js => ⟨rfl, js, rfl⟩⟩)
omit hx hc hT hD in
theorem seen_wk {o6 : Option (VObj MObj)} {L : List VV} {b : Nat → Bool} {op ou oh : VObj MObj} {tm : List SV} {t : Int} {dd : List Nat} {a : Act} {w : World} {nid : Nat} (hat : At MS E ⟨tm, [(6, o6)] ++ bs2 ps xs c t op ou oh (.cells L 38), nid, dd⟩ a w) (h : wkVs L (SEEN b)) : At MS E ⟨tm, [(6, o6)] ++ bs2 ps xs c t op ou oh (SO b), nid, []⟩ a w :=
  at_wk2 (hp := (6, o6) :: bs2 ps xs c t op ou oh (.cells L 38)) (hp' := (6, o6) :: bs2 ps xs c t op ou oh (SO b)) ⟨.inl rfl, .inl rfl, .inl rfl, .inl rfl, .inl rfl, .inl rfl, .inr ⟨_, _, _, rfl, rfl, h, rfl⟩, trivial⟩ hat
theorem cJ {j : Nat} (hj : j < 12) {f : Int} (hf : 0 ≤ f ∧ f ≤ 1000) (x21 x22 : SV) (b : Nat → Bool) (hb : b j = false) (op ou oh o6 : VObj MObj) (js : Nat → SV) :
    Tri MS Try.prog E gC ⟨pre0 n np mn i f d ++ [x21, x22, .v (lt (96 + 4 * (j : Int)))] ++ junk js 241 24, [(6, some o6)] ++ bs2 ps xs c 0 op ou oh (SO b), 7, []⟩ fun x st => x = .normal ∧ ∃ js, st = ⟨pre0 n np mn i (f + 1) d ++ [x21, x22, .v (lt (96 + 4 * (j : Int)))] ++ junk js 241 24, [(6, some o6)] ++ bs2 ps xs c 0 op ou oh (SO (bset b j)), 7, []⟩ := by
  have hd : ∀ (l : List Nat), l.all (Nat.ble 1) = true → ∀ b, b ∈ l → E.D b := fun l hl b hb => hD b (Nat.le_of_ble_eq_true (List.all_eq_true.1 hl b hb))
  have ht : ∀ {k : Nat}, Nat.ble k 60 = true → k ≤ E.top := fun h => by rw [hT]; exact Nat.le_of_ble_eq_true h
  have ef : W (f + 1) = f + 1 := wrap_i64_of (by omega) (by omega)
  rcases (show j = 0 ∨ j = 1 ∨ j = 2 ∨ j = 3 ∨ j = 4 ∨ j = 5 ∨ j = 6 ∨ j = 7 ∨ j = 8 ∨ j = 9 ∨ j = 10 ∨ j = 11 by omega) with rfl | rfl | rfl | rfl | rfl | rfl | rfl | rfl | rfl | rfl | rfl | rfl
  · have k := c0 n mn i f c 0 np ps xs x21 x22 b op ou oh o6 d js hx hc hf hb
    rw [← ef]
    refine Tri.postE (Q := fun x st => x = .normal ∧ ∀ aa ww, At MS E st aa ww → ∃ st', At MS E st' aa ww ∧ ∃ js, st' = (⟨pre0 n np mn i (W (f + 1)) d ++ [x21, x22, .v (lt (96 + 4 * ((0 : Nat) : Int)))] ++ junk js 241 24, [(6, some o6)] ++ bs2 ps xs c 0 op ou oh (SO (bset b 0)), 7, []⟩ : St MObj)) (Tri.allR (m := 24) (n := 241) (codeOK _) k (Tr.all_ok ⟨rfl, ht rfl, hd _ rfl, fun js => ⟨rfl, fun aa ww hat => ⟨_, seen_wk c ps xs E (b := bset b 0) hat ⟨rfl, rfl, rfl, rfl, rfl, rfl, rfl, rfl, rfl, rfl, rfl, rfl, rfl, rfl, rfl, rfl, rfl, rfl, rfl, rfl, rfl, rfl, rfl, rfl, rfl, rfl, rfl, rfl, rfl, rfl, rfl, rfl, rfl, rfl, rfl, rfl, rfl, rfl, rfl, rfl, rfl, rfl, rfl, rfl, rfl, rfl, rfl, rfl, rfl, rfl, rfl, rfl, rfl, rfl, rfl, rfl, rfl, rfl, rfl, rfl, rfl, rfl, rfl, rfl, rfl, rfl, rfl, rfl, rfl, rfl, rfl, rfl, rfl, rfl, rfl, rfl, rfl, rfl, rfl, rfl, rfl, rfl, rfl, rfl, rfl, rfl, rfl, rfl, rfl, rfl, rfl, rfl, rfl, rfl, rfl, rfl, rfl, rfl, rfl, rfl, rfl, rfl, rfl, rfl, rfl, rfl, rfl, rfl, rfl, rfl, rfl, rfl, rfl, rfl, rfl, rfl, rfl, rfl, rfl, rfl, rfl, rfl, rfl, rfl, rfl, rfl, rfl, rfl, rfl, rfl, rfl, rfl, rfl, rfl, rfl, rfl, rfl, rfl, rfl, rfl, rfl, rfl, rfl, rfl, rfl, rfl, rfl, rfl, rfl, rfl, rfl, rfl, rfl, rfl, rfl, rfl, rfl, rfl, rfl, rfl, trivial⟩, js, rfl⟩⟩⟩)) ?_
    rintro x st aa ww ⟨rfl, h⟩ hat
    obtain ⟨st', h1, js, rfl⟩ := h aa ww hat
    exact ⟨_, h1, rfl, js, rfl⟩
  · have k := c1 n mn i f c 0 np ps xs x21 x22 b op ou oh o6 d js hx hc hf hb
    rw [← ef]
    refine Tri.postE (Q := fun x st => x = .normal ∧ ∀ aa ww, At MS E st aa ww → ∃ st', At MS E st' aa ww ∧ ∃ js, st' = (⟨pre0 n np mn i (W (f + 1)) d ++ [x21, x22, .v (lt (96 + 4 * ((1 : Nat) : Int)))] ++ junk js 241 24, [(6, some o6)] ++ bs2 ps xs c 0 op ou oh (SO (bset b 1)), 7, []⟩ : St MObj)) (Tri.allR (m := 24) (n := 241) (codeOK _) k (Tr.all_ok ⟨rfl, ht rfl, hd _ rfl, fun js => ⟨rfl, fun aa ww hat => ⟨_, seen_wk c ps xs E (b := bset b 1) hat ⟨rfl, rfl, rfl, rfl, rfl, rfl, rfl, rfl, rfl, rfl, rfl, rfl, rfl, rfl, rfl, rfl, rfl, rfl, rfl, rfl, rfl, rfl, rfl, rfl, rfl, rfl, rfl, rfl, rfl, rfl, rfl, rfl, rfl, rfl, rfl, rfl, rfl, rfl, rfl, rfl, rfl, rfl, rfl, rfl, rfl, rfl, rfl, rfl, rfl, rfl, rfl, rfl, rfl, rfl, rfl, rfl, rfl, rfl, rfl, rfl, rfl, rfl, rfl, rfl, rfl, rfl, rfl, rfl, rfl, rfl, rfl, rfl, rfl, rfl, rfl, rfl, rfl, rfl, rfl, rfl, rfl, rfl, rfl, rfl, rfl, rfl, rfl, rfl, rfl, rfl, rfl, rfl, rfl, rfl, rfl, rfl, rfl, rfl, rfl, rfl, rfl, rfl, rfl, rfl, rfl, rfl, rfl, rfl, rfl, rfl, rfl, rfl, rfl, rfl, rfl, rfl, rfl, rfl, rfl, rfl, rfl, rfl, rfl, rfl, rfl, rfl, rfl, rfl, rfl, rfl, rfl, rfl, rfl, rfl, rfl, rfl, rfl, rfl, rfl, rfl, rfl, rfl, rfl, rfl, rfl, rfl, rfl, rfl, rfl, rfl, rfl, rfl, rfl, rfl, rfl, rfl, rfl, rfl, rfl, rfl, trivial⟩, js, rfl⟩⟩⟩)) ?_
    rintro x st aa ww ⟨rfl, h⟩ hat
    obtain ⟨st', h1, js, rfl⟩ := h aa ww hat
    exact ⟨_, h1, rfl, js, rfl⟩
  · have k := c2 n mn i f c 0 np ps xs x21 x22 b op ou oh o6 d js hx hc hf hb
    rw [← ef]
    refine Tri.postE (Q := fun x st => x = .normal ∧ ∀ aa ww, At MS E st aa ww → ∃ st', At MS E st' aa ww ∧ ∃ js, st' = (⟨pre0 n np mn i (W (f + 1)) d ++ [x21, x22, .v (lt (96 + 4 * ((2 : Nat) : Int)))] ++ junk js 241 24, [(6, some o6)] ++ bs2 ps xs c 0 op ou oh (SO (bset b 2)), 7, []⟩ : St MObj)) (Tri.allR (m := 24) (n := 241) (codeOK _) k (Tr.all_ok ⟨rfl, ht rfl, hd _ rfl, fun js => ⟨rfl, fun aa ww hat => ⟨_, seen_wk c ps xs E (b := bset b 2) hat ⟨rfl, rfl, rfl, rfl, rfl, rfl, rfl, rfl, rfl, rfl, rfl, rfl, rfl, rfl, rfl, rfl, rfl, rfl, rfl, rfl, rfl, rfl, rfl, rfl, rfl, rfl, rfl, rfl, rfl, rfl, rfl, rfl, rfl, rfl, rfl, rfl, rfl, rfl, rfl, rfl, rfl, rfl, rfl, rfl, rfl, rfl, rfl, rfl, rfl, rfl, rfl, rfl, rfl, rfl, rfl, rfl, rfl, rfl, rfl, rfl, rfl, rfl, rfl, rfl, rfl, rfl, rfl, rfl, rfl, rfl, rfl, rfl, rfl, rfl, rfl, rfl, rfl, rfl, rfl, rfl, rfl, rfl, rfl, rfl, rfl, rfl, rfl, rfl, rfl, rfl, rfl, rfl, rfl, rfl, rfl, rfl, rfl, rfl, rfl, rfl, rfl, rfl, rfl, rfl, rfl, rfl, rfl, rfl, rfl, rfl, rfl, rfl, rfl, rfl, rfl, rfl, rfl, rfl, rfl, rfl, rfl, rfl, rfl, rfl, rfl, rfl, rfl, rfl, rfl, rfl, rfl, rfl, rfl, rfl, rfl, rfl, rfl, rfl, rfl, rfl, rfl, rfl, rfl, rfl, rfl, rfl, rfl, rfl, rfl, rfl, rfl, rfl, rfl, rfl, rfl, rfl, rfl, rfl, rfl, rfl, trivial⟩, js, rfl⟩⟩⟩)) ?_
    rintro x st aa ww ⟨rfl, h⟩ hat
    obtain ⟨st', h1, js, rfl⟩ := h aa ww hat
    exact ⟨_, h1, rfl, js, rfl⟩
  · have k := c3 n mn i f c 0 np ps xs x21 x22 b op ou oh o6 d js hx hc hf hb
    rw [← ef]
    refine Tri.postE (Q := fun x st => x = .normal ∧ ∀ aa ww, At MS E st aa ww → ∃ st', At MS E st' aa ww ∧ ∃ js, st' = (⟨pre0 n np mn i (W (f + 1)) d ++ [x21, x22, .v (lt (96 + 4 * ((3 : Nat) : Int)))] ++ junk js 241 24, [(6, some o6)] ++ bs2 ps xs c 0 op ou oh (SO (bset b 3)), 7, []⟩ : St MObj)) (Tri.allR (m := 24) (n := 241) (codeOK _) k (Tr.all_ok ⟨rfl, ht rfl, hd _ rfl, fun js => ⟨rfl, fun aa ww hat => ⟨_, seen_wk c ps xs E (b := bset b 3) hat ⟨rfl, rfl, rfl, rfl, rfl, rfl, rfl, rfl, rfl, rfl, rfl, rfl, rfl, rfl, rfl, rfl, rfl, rfl, rfl, rfl, rfl, rfl, rfl, rfl, rfl, rfl, rfl, rfl, rfl, rfl, rfl, rfl, rfl, rfl, rfl, rfl, rfl, rfl, rfl, rfl, rfl, rfl, rfl, rfl, rfl, rfl, rfl, rfl, rfl, rfl, rfl, rfl, rfl, rfl, rfl, rfl, rfl, rfl, rfl, rfl, rfl, rfl, rfl, rfl, rfl, rfl, rfl, rfl, rfl, rfl, rfl, rfl, rfl, rfl, rfl, rfl, rfl, rfl, rfl, rfl, rfl, rfl, rfl, rfl, rfl, rfl, rfl, rfl, rfl, rfl, rfl, rfl, rfl, rfl, rfl, rfl, rfl, rfl, rfl, rfl, rfl, rfl, rfl, rfl, rfl, rfl, rfl, rfl, rfl, rfl, rfl, rfl, rfl, rfl, rfl, rfl, rfl, rfl, rfl, rfl, rfl, rfl, rfl, rfl, rfl, rfl, rfl, rfl, rfl, rfl, rfl, rfl, rfl, rfl, rfl, rfl, rfl, rfl, rfl, rfl, rfl, rfl, rfl, rfl, rfl, rfl, rfl, rfl, rfl, rfl, rfl, rfl, rfl, rfl, rfl, rfl, rfl, rfl, rfl, rfl, trivial⟩, js, rfl⟩⟩⟩)) ?_
    rintro x st aa ww ⟨rfl, h⟩ hat
    obtain ⟨st', h1, js, rfl⟩ := h aa ww hat
    exact ⟨_, h1, rfl, js, rfl⟩
  · have k := c4 n mn i f c 0 np ps xs x21 x22 b op ou oh o6 d js hx hc hf hb
    rw [← ef]
    refine Tri.postE (Q := fun x st => x = .normal ∧ ∀ aa ww, At MS E st aa ww → ∃ st', At MS E st' aa ww ∧ ∃ js, st' = (⟨pre0 n np mn i (W (f + 1)) d ++ [x21, x22, .v (lt (96 + 4 * ((4 : Nat) : Int)))] ++ junk js 241 24, [(6, some o6)] ++ bs2 ps xs c 0 op ou oh (SO (bset b 4)), 7, []⟩ : St MObj)) (Tri.allR (m := 24) (n := 241) (codeOK _) k (Tr.all_ok ⟨rfl, ht rfl, hd _ rfl, fun js => ⟨rfl, fun aa ww hat => ⟨_, seen_wk c ps xs E (b := bset b 4) hat ⟨rfl, rfl, rfl, rfl, rfl, rfl, rfl, rfl, rfl, rfl, rfl, rfl, rfl, rfl, rfl, rfl, rfl, rfl, rfl, rfl, rfl, rfl, rfl, rfl, rfl, rfl, rfl, rfl, rfl, rfl, rfl, rfl, rfl, rfl, rfl, rfl, rfl, rfl, rfl, rfl, rfl, rfl, rfl, rfl, rfl, rfl, rfl, rfl, rfl, rfl, rfl, rfl, rfl, rfl, rfl, rfl, rfl, rfl, rfl, rfl, rfl, rfl, rfl, rfl, rfl, rfl, rfl, rfl, rfl, rfl, rfl, rfl, rfl, rfl, rfl, rfl, rfl, rfl, rfl, rfl, rfl, rfl, rfl, rfl, rfl, rfl, rfl, rfl, rfl, rfl, rfl, rfl, rfl, rfl, rfl, rfl, rfl, rfl, rfl, rfl, rfl, rfl, rfl, rfl, rfl, rfl, rfl, rfl, rfl, rfl, rfl, rfl, rfl, rfl, rfl, rfl, rfl, rfl, rfl, rfl, rfl, rfl, rfl, rfl, rfl, rfl, rfl, rfl, rfl, rfl, rfl, rfl, rfl, rfl, rfl, rfl, rfl, rfl, rfl, rfl, rfl, rfl, rfl, rfl, rfl, rfl, rfl, rfl, rfl, rfl, rfl, rfl, rfl, rfl, rfl, rfl, rfl, rfl, rfl, rfl, trivial⟩, js, rfl⟩⟩⟩)) ?_
    rintro x st aa ww ⟨rfl, h⟩ hat
    obtain ⟨st', h1, js, rfl⟩ := h aa ww hat
    exact ⟨_, h1, rfl, js, rfl⟩
  · have k := c5 n mn i f c 0 np ps xs x21 x22 b op ou oh o6 d js hx hc hf hb
    rw [← ef]
    refine Tri.postE (Q := fun x st => x = .normal ∧ ∀ aa ww, At MS E st aa ww → ∃ st', At MS E st' aa ww ∧ ∃ js, st' = (⟨pre0 n np mn i (W (f + 1)) d ++ [x21, x22, .v (lt (96 + 4 * ((5 : Nat) : Int)))] ++ junk js 241 24, [(6, some o6)] ++ bs2 ps xs c 0 op ou oh (SO (bset b 5)), 7, []⟩ : St MObj)) (Tri.allR (m := 24) (n := 241) (codeOK _) k (Tr.all_ok ⟨rfl, ht rfl, hd _ rfl, fun js => ⟨rfl, fun aa ww hat => ⟨_, seen_wk c ps xs E (b := bset b 5) hat ⟨rfl, rfl, rfl, rfl, rfl, rfl, rfl, rfl, rfl, rfl, rfl, rfl, rfl, rfl, rfl, rfl, rfl, rfl, rfl, rfl, rfl, rfl, rfl, rfl, rfl, rfl, rfl, rfl, rfl, rfl, rfl, rfl, rfl, rfl, rfl, rfl, rfl, rfl, rfl, rfl, rfl, rfl, rfl, rfl, rfl, rfl, rfl, rfl, rfl, rfl, rfl, rfl, rfl, rfl, rfl, rfl, rfl, rfl, rfl, rfl, rfl, rfl, rfl, rfl, rfl, rfl, rfl, rfl, rfl, rfl, rfl, rfl, rfl, rfl, rfl, rfl, rfl, rfl, rfl, rfl, rfl, rfl, rfl, rfl, rfl, rfl, rfl, rfl, rfl, rfl, rfl, rfl, rfl, rfl, rfl, rfl, rfl, rfl, rfl, rfl, rfl, rfl, rfl, rfl, rfl, rfl, rfl, rfl, rfl, rfl, rfl, rfl, rfl, rfl, rfl, rfl, rfl, rfl, rfl, rfl, rfl, rfl, rfl, rfl, rfl, rfl, rfl, rfl, rfl, rfl, rfl, rfl, rfl, rfl, rfl, rfl, rfl, rfl, rfl, rfl, rfl, rfl, rfl, rfl, rfl, rfl, rfl, rfl, rfl, rfl, rfl, rfl, rfl, rfl, rfl, rfl, rfl, rfl, rfl, rfl, trivial⟩, js, rfl⟩⟩⟩)) ?_
    rintro x st aa ww ⟨rfl, h⟩ hat
    obtain ⟨st', h1, js, rfl⟩ := h aa ww hat
    exact ⟨_, h1, rfl, js, rfl⟩
  · have k := c6 n mn i f c 0 np ps xs x21 x22 b op ou oh o6 d js hx hc hf hb
    rw [← ef]
    refine Tri.postE (Q := fun x st => x = .normal ∧ ∀ aa ww, At MS E st aa ww → ∃ st', At MS E st' aa ww ∧ ∃ js, st' = (⟨pre0 n np mn i (W (f + 1)) d ++ [x21, x22, .v (lt (96 + 4 * ((6 : Nat) : Int)))] ++ junk js 241 24, [(6, some o6)] ++ bs2 ps xs c 0 op ou oh (SO (bset b 6)), 7, []⟩ : St MObj)) (Tri.allR (m := 24) (n := 241) (codeOK _) k (Tr.all_ok ⟨rfl, ht rfl, hd _ rfl, fun js => ⟨rfl, fun aa ww hat => ⟨_, seen_wk c ps xs E (b := bset b 6) hat ⟨rfl, rfl, rfl, rfl, rfl, rfl, rfl, rfl, rfl, rfl, rfl, rfl, rfl, rfl, rfl, rfl, rfl, rfl, rfl, rfl, rfl, rfl, rfl, rfl, rfl, rfl, rfl, rfl, rfl, rfl, rfl, rfl, rfl, rfl, rfl, rfl, rfl, rfl, rfl, rfl, rfl, rfl, rfl, rfl, rfl, rfl, rfl, rfl, rfl, rfl, rfl, rfl, rfl, rfl, rfl, rfl, rfl, rfl, rfl, rfl, rfl, rfl, rfl, rfl, rfl, rfl, rfl, rfl, rfl, rfl, rfl, rfl, rfl, rfl, rfl, rfl, rfl, rfl, rfl, rfl, rfl, rfl, rfl, rfl, rfl, rfl, rfl, rfl, rfl, rfl, rfl, rfl, rfl, rfl, rfl, rfl, rfl, rfl, rfl, rfl, rfl, rfl, rfl, rfl, rfl, rfl, rfl, rfl, rfl, rfl, rfl, rfl, rfl, rfl, rfl, rfl, rfl, rfl, rfl, rfl, rfl, rfl, rfl, rfl, rfl, rfl, rfl, rfl, rfl, rfl, rfl, rfl, rfl, rfl, rfl, rfl, rfl, rfl, rfl, rfl, rfl, rfl, rfl, rfl, rfl, rfl, rfl, rfl, rfl, rfl, rfl, rfl, rfl, rfl, rfl, rfl, rfl, rfl, rfl, rfl, trivial⟩, js, rfl⟩⟩⟩)) ?_
    rintro x st aa ww ⟨rfl, h⟩ hat
    obtain ⟨st', h1, js, rfl⟩ := h aa ww hat
    exact ⟨_, h1, rfl, js, rfl⟩
  · have k := c7 n mn i f c 0 np ps xs x21 x22 b op ou oh o6 d js hx hc hf hb
    rw [← ef]
    refine Tri.postE (Q := fun x st => x = .normal ∧ ∀ aa ww, At MS E st aa ww → ∃ st', At MS E st' aa ww ∧ ∃ js, st' = (⟨pre0 n np mn i (W (f + 1)) d ++ [x21, x22, .v (lt (96 + 4 * ((7 : Nat) : Int)))] ++ junk js 241 24, [(6, some o6)] ++ bs2 ps xs c 0 op ou oh (SO (bset b 7)), 7, []⟩ : St MObj)) (Tri.allR (m := 24) (n := 241) (codeOK _) k (Tr.all_ok ⟨rfl, ht rfl, hd _ rfl, fun js => ⟨rfl, fun aa ww hat => ⟨_, seen_wk c ps xs E (b := bset b 7) hat ⟨rfl, rfl, rfl, rfl, rfl, rfl, rfl, rfl, rfl, rfl, rfl, rfl, rfl, rfl, rfl, rfl, rfl, rfl, rfl, rfl, rfl, rfl, rfl, rfl, rfl, rfl, rfl, rfl, rfl, rfl, rfl, rfl, rfl, rfl, rfl, rfl, rfl, rfl, rfl, rfl, rfl, rfl, rfl, rfl, rfl, rfl, rfl, rfl, rfl, rfl, rfl, rfl, rfl, rfl, rfl, rfl, rfl, rfl, rfl, rfl, rfl, rfl, rfl, rfl, rfl, rfl, rfl, rfl, rfl, rfl, rfl, rfl, rfl, rfl, rfl, rfl, rfl, rfl, rfl, rfl, rfl, rfl, rfl, rfl, rfl, rfl, rfl, rfl, rfl, rfl, rfl, rfl, rfl, rfl, rfl, rfl, rfl, rfl, rfl, rfl, rfl, rfl, rfl, rfl, rfl, rfl, rfl, rfl, rfl, rfl, rfl, rfl, rfl, rfl, rfl, rfl, rfl, rfl, rfl, rfl, rfl, rfl, rfl, rfl, rfl, rfl, rfl, rfl, rfl, rfl, rfl, rfl, rfl, rfl, rfl, rfl, rfl, rfl, rfl, rfl, rfl, rfl, rfl, rfl, rfl, rfl, rfl, rfl, rfl, rfl, rfl, rfl, rfl, rfl, rfl, rfl, rfl, rfl, rfl, rfl, trivial⟩, js, rfl⟩⟩⟩)) ?_
    rintro x st aa ww ⟨rfl, h⟩ hat
    obtain ⟨st', h1, js, rfl⟩ := h aa ww hat
    exact ⟨_, h1, rfl, js, rfl⟩
  · have k := c8 n mn i f c 0 np ps xs x21 x22 b op ou oh o6 d js hx hc hf hb
    rw [← ef]
    refine Tri.postE (Q := fun x st => x = .normal ∧ ∀ aa ww, At MS E st aa ww → ∃ st', At MS E st' aa ww ∧ ∃ js, st' = (⟨pre0 n np mn i (W (f + 1)) d ++ [x21, x22, .v (lt (96 + 4 * ((8 : Nat) : Int)))] ++ junk js 241 24, [(6, some o6)] ++ bs2 ps xs c 0 op ou oh (SO (bset b 8)), 7, []⟩ : St MObj)) (Tri.allR (m := 24) (n := 241) (codeOK _) k (Tr.all_ok ⟨rfl, ht rfl, hd _ rfl, fun js => ⟨rfl, fun aa ww hat => ⟨_, seen_wk c ps xs E (b := bset b 8) hat ⟨rfl, rfl, rfl, rfl, rfl, rfl, rfl, rfl, rfl, rfl, rfl, rfl, rfl, rfl, rfl, rfl, rfl, rfl, rfl, rfl, rfl, rfl, rfl, rfl, rfl, rfl, rfl, rfl, rfl, rfl, rfl, rfl, rfl, rfl, rfl, rfl, rfl, rfl, rfl, rfl, rfl, rfl, rfl, rfl, rfl, rfl, rfl, rfl, rfl, rfl, rfl, rfl, rfl, rfl, rfl, rfl, rfl, rfl, rfl, rfl, rfl, rfl, rfl, rfl, rfl, rfl, rfl, rfl, rfl, rfl, rfl, rfl, rfl, rfl, rfl, rfl, rfl, rfl, rfl, rfl, rfl, rfl, rfl, rfl, rfl, rfl, rfl, rfl, rfl, rfl, rfl, rfl, rfl, rfl, rfl, rfl, rfl, rfl, rfl, rfl, rfl, rfl, rfl, rfl, rfl, rfl, rfl, rfl, rfl, rfl, rfl, rfl, rfl, rfl, rfl, rfl, rfl, rfl, rfl, rfl, rfl, rfl, rfl, rfl, rfl, rfl, rfl, rfl, rfl, rfl, rfl, rfl, rfl, rfl, rfl, rfl, rfl, rfl, rfl, rfl, rfl, rfl, rfl, rfl, rfl, rfl, rfl, rfl, rfl, rfl, rfl, rfl, rfl, rfl, rfl, rfl, rfl, rfl, rfl, rfl, trivial⟩, js, rfl⟩⟩⟩)) ?_
    rintro x st aa ww ⟨rfl, h⟩ hat
    obtain ⟨st', h1, js, rfl⟩ := h aa ww hat
    exact ⟨_, h1, rfl, js, rfl⟩
  · have k := c9 n mn i f c 0 np ps xs x21 x22 b op ou oh o6 d js hx hc hf hb
    rw [← ef]
    refine Tri.postE (Q := fun x st => x = .normal ∧ ∀ aa ww, At MS E st aa ww → ∃ st', At MS E st' aa ww ∧ ∃ js, st' = (⟨pre0 n np mn i (W (f + 1)) d ++ [x21, x22, .v (lt (96 + 4 * ((9 : Nat) : Int)))] ++ junk js 241 24, [(6, some o6)] ++ bs2 ps xs c 0 op ou oh (SO (bset b 9)), 7, []⟩ : St MObj)) (Tri.allR (m := 24) (n := 241) (codeOK _) k (Tr.all_ok ⟨rfl, ht rfl, hd _ rfl, fun js => ⟨rfl, fun aa ww hat => ⟨_, seen_wk c ps xs E (b := bset b 9) hat ⟨rfl, rfl, rfl, rfl, rfl, rfl, rfl, rfl, rfl, rfl, rfl, rfl, rfl, rfl, rfl, rfl, rfl, rfl, rfl, rfl, rfl, rfl, rfl, rfl, rfl, rfl, rfl, rfl, rfl, rfl, rfl, rfl, rfl, rfl, rfl, rfl, rfl, rfl, rfl, rfl, rfl, rfl, rfl, rfl, rfl, rfl, rfl, rfl, rfl, rfl, rfl, rfl, rfl, rfl, rfl, rfl, rfl, rfl, rfl, rfl, rfl, rfl, rfl, rfl, rfl, rfl, rfl, rfl, rfl, rfl, rfl, rfl, rfl, rfl, rfl, rfl, rfl, rfl, rfl, rfl, rfl, rfl, rfl, rfl, rfl, rfl, rfl, rfl, rfl, rfl, rfl, rfl, rfl, rfl, rfl, rfl, rfl, rfl, rfl, rfl, rfl, rfl, rfl, rfl, rfl, rfl, rfl, rfl, rfl, rfl, rfl, rfl, rfl, rfl, rfl, rfl, rfl, rfl, rfl, rfl, rfl, rfl, rfl, rfl, rfl, rfl, rfl, rfl, rfl, rfl, rfl, rfl, rfl, rfl, rfl, rfl, rfl, rfl, rfl, rfl, rfl, rfl, rfl, rfl, rfl, rfl, rfl, rfl, rfl, rfl, rfl, rfl, rfl, rfl, rfl, rfl, rfl, rfl, rfl, rfl, trivial⟩, js, rfl⟩⟩⟩)) ?_
    rintro x st aa ww ⟨rfl, h⟩ hat
    obtain ⟨st', h1, js, rfl⟩ := h aa ww hat
    exact ⟨_, h1, rfl, js, rfl⟩
  · have k := c10 n mn i f c 0 np ps xs x21 x22 b op ou oh o6 d js hx hc hf hb
    rw [← ef]
    refine Tri.postE (Q := fun x st => x = .normal ∧ ∀ aa ww, At MS E st aa ww → ∃ st', At MS E st' aa ww ∧ ∃ js, st' = (⟨pre0 n np mn i (W (f + 1)) d ++ [x21, x22, .v (lt (96 + 4 * ((10 : Nat) : Int)))] ++ junk js 241 24, [(6, some o6)] ++ bs2 ps xs c 0 op ou oh (SO (bset b 10)), 7, []⟩ : St MObj)) (Tri.allR (m := 24) (n := 241) (codeOK _) k (Tr.all_ok ⟨rfl, ht rfl, hd _ rfl, fun js => ⟨rfl, fun aa ww hat => ⟨_, seen_wk c ps xs E (b := bset b 10) hat ⟨rfl, rfl, rfl, rfl, rfl, rfl, rfl, rfl, rfl, rfl, rfl, rfl, rfl, rfl, rfl, rfl, rfl, rfl, rfl, rfl, rfl, rfl, rfl, rfl, rfl, rfl, rfl, rfl, rfl, rfl, rfl, rfl, rfl, rfl, rfl, rfl, rfl, rfl, rfl, rfl, rfl, rfl, rfl, rfl, rfl, rfl, rfl, rfl, rfl, rfl, rfl, rfl, rfl, rfl, rfl, rfl, rfl, rfl, rfl, rfl, rfl, rfl, rfl, rfl, rfl, rfl, rfl, rfl, rfl, rfl, rfl, rfl, rfl, rfl, rfl, rfl, rfl, rfl, rfl, rfl, rfl, rfl, rfl, rfl, rfl, rfl, rfl, rfl, rfl, rfl, rfl, rfl, rfl, rfl, rfl, rfl, rfl, rfl, rfl, rfl, rfl, rfl, rfl, rfl, rfl, rfl, rfl, rfl, rfl, rfl, rfl, rfl, rfl, rfl, rfl, rfl, rfl, rfl, rfl, rfl, rfl, rfl, rfl, rfl, rfl, rfl, rfl, rfl, rfl, rfl, rfl, rfl, rfl, rfl, rfl, rfl, rfl, rfl, rfl, rfl, rfl, rfl, rfl, rfl, rfl, rfl, rfl, rfl, rfl, rfl, rfl, rfl, rfl, rfl, rfl, rfl, rfl, rfl, rfl, rfl, trivial⟩, js, rfl⟩⟩⟩)) ?_
    rintro x st aa ww ⟨rfl, h⟩ hat
    obtain ⟨st', h1, js, rfl⟩ := h aa ww hat
    exact ⟨_, h1, rfl, js, rfl⟩
  · have k := c11 n mn i f c 0 np ps xs x21 x22 b op ou oh o6 d js hx hc hf hb
    rw [← ef]
    refine Tri.postE (Q := fun x st => x = .normal ∧ ∀ aa ww, At MS E st aa ww → ∃ st', At MS E st' aa ww ∧ ∃ js, st' = (⟨pre0 n np mn i (W (f + 1)) d ++ [x21, x22, .v (lt (96 + 4 * ((11 : Nat) : Int)))] ++ junk js 241 24, [(6, some o6)] ++ bs2 ps xs c 0 op ou oh (SO (bset b 11)), 7, []⟩ : St MObj)) (Tri.allR (m := 24) (n := 241) (codeOK _) k (Tr.all_ok ⟨rfl, ht rfl, hd _ rfl, fun js => ⟨rfl, fun aa ww hat => ⟨_, seen_wk c ps xs E (b := bset b 11) hat ⟨rfl, rfl, rfl, rfl, rfl, rfl, rfl, rfl, rfl, rfl, rfl, rfl, rfl, rfl, rfl, rfl, rfl, rfl, rfl, rfl, rfl, rfl, rfl, rfl, rfl, rfl, rfl, rfl, rfl, rfl, rfl, rfl, rfl, rfl, rfl, rfl, rfl, rfl, rfl, rfl, rfl, rfl, rfl, rfl, rfl, rfl, rfl, rfl, rfl, rfl, rfl, rfl, rfl, rfl, rfl, rfl, rfl, rfl, rfl, rfl, rfl, rfl, rfl, rfl, rfl, rfl, rfl, rfl, rfl, rfl, rfl, rfl, rfl, rfl, rfl, rfl, rfl, rfl, rfl, rfl, rfl, rfl, rfl, rfl, rfl, rfl, rfl, rfl, rfl, rfl, rfl, rfl, rfl, rfl, rfl, rfl, rfl, rfl, rfl, rfl, rfl, rfl, rfl, rfl, rfl, rfl, rfl, rfl, rfl, rfl, rfl, rfl, rfl, rfl, rfl, rfl, rfl, rfl, rfl, rfl, rfl, rfl, rfl, rfl, rfl, rfl, rfl, rfl, rfl, rfl, rfl, rfl, rfl, rfl, rfl, rfl, rfl, rfl, rfl, rfl, rfl, rfl, rfl, rfl, rfl, rfl, rfl, rfl, rfl, rfl, rfl, rfl, rfl, rfl, rfl, rfl, rfl, rfl, rfl, rfl, trivial⟩, js, rfl⟩⟩⟩)) ?_
    rintro x st aa ww ⟨rfl, h⟩ hat
    obtain ⟨st', h1, js, rfl⟩ := h aa ww hat
    exact ⟨_, h1, rfl, js, rfl⟩
/-- The inner loop over a table. -/
theorem in_tab {q : Nat} (hq : q < 4) (rows : List (List Int)) (vs : Nat → Value) (l own : List Int) (ho : own = rows.map fun r => r.getD 0 0) (hj : ∀ a ∈ own, ∃ j : Nat, j < 12 ∧ a = 96 + 4 * (j : Int)) (nd : (l ++ own).Nodup) (hl : l.length + own.length ≤ 12) (x23 : SV) (js : Nat → SV) :
    Tri MS Try.prog E inner ⟨PA n np mn i l.length d (lt q) (.v (ii 0)) x23 js, HT q rows vs ps xs c (SO (bOf l)), 7, []⟩ fun x st => x = .normal ∧ ∃ x22 x23 js, st = ⟨PA n np mn i (l ++ own).length d (lt q) x22 x23 js, HT q rows vs ps xs c (SO (bOf (l ++ own))), 7, []⟩ := by
  have hd : ∀ (l : List Nat), l.all (Nat.ble 1) = true → ∀ b, b ∈ l → E.D b := fun l hl b hb => hD b (Nat.le_of_ble_eq_true (List.all_eq_true.1 hl b hb))
  have ht : ∀ {k : Nat}, Nat.ble k 60 = true → k ≤ E.top := fun h => by rw [hT]; exact Nat.le_of_ble_eq_true h
  have hrl : own.length = rows.length := by rw [ho]; simp
  let Sr : Nat → SV → (Nat → SV) → St MObj := fun r x23 js => ⟨PA n np mn i (l ++ own.take r).length d (lt q) (.v (ii r)) x23 js, HT q rows vs ps xs c (SO (bOf (l ++ own.take r))), 7, []⟩
  refine Tri.block (R := fun x st => x = .exit 4 ∧ ∃ x23 js, st = Sr own.length x23 js) ?_ (fun s hh => by
    rcases hh with hh | hh
    · cases hh.1
    · obtain ⟨_, x23, js, rfl⟩ := hh
      simp only [Sr, List.take_length]
      exact ⟨trivial, _, x23, js, rfl⟩) (fun x s h1 h2 hh => absurd hh.1 h2)
  refine Tri.loop (J := fun k st => ∃ r : Nat, r ≤ own.length ∧ k = own.length - r ∧ ∃ x23 js, st = Sr r x23 js) ?_ (k := own.length) ⟨0, Nat.zero_le _, rfl, x23, js, by simp only [Sr, List.take_zero, List.append_nil]; rfl⟩
  rintro k st ⟨r, hr, rfl, x23, js, rfl⟩
  have hfl : (((l ++ own.take r).length : Nat) : Int) = l.length + r := by rw [List.length_append, List.length_take, Nat.min_eq_left hr]; omega
  refine Tri.seq (R := fun x st => ((x = .normal ∧ r < own.length) ∨ (x = .exit 4 ∧ own.length ≤ r)) ∧ ∃ js, st = Sr r x23 js) ((htQ n mn i c np ps xs d hx hc E hT hD hq (f := ((l ++ own.take r).length : Nat)) (r := r) (by omega) (by omega) x23 rows vs _ js).mono fun x st ⟨h1, h2⟩ => ⟨h1.imp (fun h => ⟨h.1, by omega⟩) (fun h => ⟨h.1, by omega⟩), h2⟩) ?_ ?_
  · rintro st ⟨h1, js, rfl⟩
    have hlt : r < own.length := by
      rcases h1 with h1 | h1
      · exact h1.2
      · cases h1.1
    have hlt2 : r < rows.length := by omega
    obtain ⟨j, hj12, hja⟩ := hj own[r] (List.getElem_mem ..)
    have hta : tabAt rows (0 + (r : Int).toNat) 0 = own[r] := by
      subst ho
      rw [Nat.zero_add, Int.toNat_natCast]
      simp [tabAt, List.getD_eq_getElem?_getD, hlt2]
    have htk : own.take (r + 1) = own.take r ++ [own[r]] := List.take_succ_eq_append_getElem hlt
    have hnb : bOf (l ++ own.take r) j = false := bOf_false (by
      rw [← hja]
      intro hm
      have h2 : (l ++ own.take (r + 1)).Nodup := (List.Sublist.append (List.Sublist.refl l) (List.take_sublist (r + 1) own)).nodup nd
      rw [htk, ← List.append_assoc, List.nodup_append] at h2
      exact h2.2.2 _ hm _ (List.mem_singleton.2 rfl) rfl)
    refine Tri.seq (R := fun x st => x = .normal ∧ ∃ x23 js, st = (⟨PA n np mn i (((l ++ own.take r).length : Nat) + 1) d (lt q) (.v (ii r)) x23 js, HT q rows vs ps xs c (SO (bset (bOf (l ++ own.take r)) j)), 7, []⟩ : St MObj)) ?_ ?_ (fun x s hx hh => absurd hh.1 hx)
    · refine Tri.block (R := fun x st => x = .normal ∧ ∃ x23 js, st = (⟨PA n np mn i (((l ++ own.take r).length : Nat) + 1) d (lt q) (.v (ii r)) x23 js, HT q rows vs ps xs c (SO (bset (bOf (l ++ own.take r)) j)), 7, []⟩ : St MObj)) ?_ (fun s hh => by
        rcases hh with hh | hh
        · exact ⟨rfl, hh.2⟩
        · cases hh.1) (fun x s h1 h2 hh => absurd hh.1 h1)
      refine Tri.seq (R := fun x st => x = .normal ∧ ∃ js, st = (⟨PA n np mn i ((l ++ own.take r).length : Nat) d (lt q) (.v (ii r)) (.v (ii (tabAt rows (0 + (r : Int).toNat) 0))) js, HT q rows vs ps xs c (SO (bOf (l ++ own.take r))), 7, []⟩ : St MObj)) (hbQ n mn i c np ps xs d hx hc E hT hD hq (f := ((l ++ own.take r).length : Nat)) (r := r) (by omega) rows (by omega) x23 vs _ js) ?_ (fun x s hx hh => absurd hh.1 hx)
      rintro st ⟨_, js, rfl⟩
      refine Tri.preE fun aa ww hat => ⟨_, at_slot (pre0 n np mn i ((l ++ own.take r).length : Nat) d ++ [.v (lt q), .v (ii r)]) (y := .v (lt (96 + 4 * (j : Int)))) (d' := []) (by exact ⟨rfl, hta.trans hja⟩) hat, ?_⟩
      refine (cJ n mn i c np ps xs d hx hc E hT hD hj12 (f := ((l ++ own.take r).length : Nat)) (by omega) (.v (lt q)) (.v (ii r)) (bOf (l ++ own.take r)) hnb NP NU _ _ js).mono ?_
      rintro x st ⟨rfl, js, rfl⟩
      exact ⟨rfl, _, js, rfl⟩
    · rintro st ⟨_, x23, js, rfl⟩
      have er : W ((r : Int) + 1) = ((r + 1 : Nat) : Int) := wrap_i64_of (by omega) (by omega)
      refine Tri.allR (m := 24) (n := 241) (codeOK _) (i4 n mn i (((l ++ own.take r).length : Nat) + 1) c 0 np ps xs r (.v (lt q)) x23 NP NU _ (SO (bset (bOf (l ++ own.take r)) j)) _ d js hx hc (by omega) (by omega)) (Tr.all_ok ⟨rfl, ht rfl, hd _ rfl, fun js => ⟨own.length - (r + 1), by omega, r + 1, hlt, rfl, x23, js, ?_⟩⟩)
      have e1 : l ++ own.take (r + 1) = l ++ own.take r ++ [96 + 4 * (j : Int)] := by rw [htk, hja, List.append_assoc]
      have e2 : (((l ++ own.take (r + 1)).length : Nat) : Int) = ((l ++ own.take r).length : Nat) + 1 := by rw [e1, List.length_append]; rfl
      simp only [Sr]
      rw [e2, e1, ← bset_of, ← er]
      rfl
  · rintro x st hx' ⟨h1, js, rfl⟩
    rcases h1 with h1 | h1
    · exact absurd h1.1 hx'
    · obtain rfl : r = own.length := by omega
      obtain rfl := h1.1
      exact ⟨rfl, x23, js, rfl⟩
theorem in_hn {q : Nat} (hq : q < 4) {f : Int} (hf : 0 ≤ f ∧ f ≤ 1000) (vs : Nat → Value) (os : VObj MObj) (x23 : SV) (js : Nat → SV) :
    Tri MS Try.prog E inner ⟨PA n np mn i f d (lt q) (.v (ii 0)) x23 js, bs2 ps xs c 0 NP NU (.cells (AC q .nils vs) 31) os, 6, []⟩ fun x st => x = .normal ∧ ∃ x22 x23 js, st = ⟨PA n np mn i f d (lt q) x22 x23 js, bs2 ps xs c 0 NP NU (.cells (AC q .nils vs) 31) os, 6, []⟩ := by
  have hd : ∀ (l : List Nat), l.all (Nat.ble 1) = true → ∀ b, b ∈ l → E.D b := fun l hl b hb => hD b (Nat.le_of_ble_eq_true (List.all_eq_true.1 hl b hb))
  have ht : ∀ {k : Nat}, Nat.ble k 60 = true → k ≤ E.top := fun h => by rw [hT]; exact Nat.le_of_ble_eq_true h
  refine Tri.block (R := fun x st => x = .exit 4 ∧ ∃ js, st = (⟨PA n np mn i f d (lt q) (.v (ii 0)) x23 js, bs2 ps xs c 0 NP NU (.cells (AC q .nils vs) 31) os, 6, []⟩ : St MObj)) ?_ (fun s hh => by
    rcases hh with hh | hh
    · cases hh.1
    · obtain ⟨_, js, rfl⟩ := hh
      exact ⟨rfl, _, x23, js, rfl⟩) (fun x s h1 h2 hh => absurd hh.1 h2)
  refine Tri.loop (J := fun k st => st = (⟨PA n np mn i f d (lt q) (.v (ii 0)) x23 js, bs2 ps xs c 0 NP NU (.cells (AC q .nils vs) 31) os, 6, []⟩ : St MObj)) ?_ (k := 0) rfl
  rintro k st rfl
  refine Tri.seq (R := fun x st => x = .exit 4 ∧ ∃ js, st = (⟨PA n np mn i f d (lt q) (.v (ii 0)) x23 js, bs2 ps xs c 0 NP NU (.cells (AC q .nils vs) 31) os, 6, []⟩ : St MObj)) ?_ (fun st hh => by cases hh.1) (fun x s hx hh => by obtain ⟨rfl, hh⟩ := hh; exact ⟨rfl, hh⟩)
  rcases q4 hq with rfl | rfl | rfl | rfl
  · exact Tri.allR (m := 24) (n := 241) (codeOK _) (hn0 n mn i f c 0 np ps xs x23 NP NU os vs d js hx hc hf) (Tr.all_ok ⟨rfl, ht rfl, hd _ rfl, fun js => ⟨rfl, js, rfl⟩⟩)
  · exact Tri.allR (m := 24) (n := 241) (codeOK _) (hn1 n mn i f c 0 np ps xs x23 NP NU os vs d js hx hc hf) (Tr.all_ok ⟨rfl, ht rfl, hd _ rfl, fun js => ⟨rfl, js, rfl⟩⟩)
  · exact Tri.allR (m := 24) (n := 241) (codeOK _) (hn2 n mn i f c 0 np ps xs x23 NP NU os vs d js hx hc hf) (Tr.all_ok ⟨rfl, ht rfl, hd _ rfl, fun js => ⟨rfl, js, rfl⟩⟩)
  · exact Tri.allR (m := 24) (n := 241) (codeOK _) (hn3 n mn i f c 0 np ps xs x23 NP NU os vs d js hx hc hf) (Tr.all_ok ⟨rfl, ht rfl, hd _ rfl, fun js => ⟨rfl, js, rfl⟩⟩)
theorem in_he {q : Nat} (hq : q < 4) {f : Int} (hf : 0 ≤ f ∧ f ≤ 1000) (vs : Nat → Value) (os : VObj MObj) (x23 : SV) (js : Nat → SV) :
    Tri MS Try.prog E inner ⟨PA n np mn i f d (lt q) (.v (ii 0)) x23 js, bs2 ps xs c 0 NP NU (.cells (AC q (.es true) vs) 31) os, 6, []⟩ fun x st => x = .normal ∧ ∃ x22 x23 js, st = ⟨PA n np mn i f d (lt q) x22 x23 js, bs2 ps xs c 0 NP NU (.cells (AC q (.es true) vs) 31) os, 6, []⟩ := by
  have hd : ∀ (l : List Nat), l.all (Nat.ble 1) = true → ∀ b, b ∈ l → E.D b := fun l hl b hb => hD b (Nat.le_of_ble_eq_true (List.all_eq_true.1 hl b hb))
  have ht : ∀ {k : Nat}, Nat.ble k 60 = true → k ≤ E.top := fun h => by rw [hT]; exact Nat.le_of_ble_eq_true h
  refine Tri.block (R := fun x st => x = .exit 4 ∧ ∃ js, st = (⟨PA n np mn i f d (lt q) (.v (ii 0)) x23 js, bs2 ps xs c 0 NP NU (.cells (AC q (.es true) vs) 31) os, 6, []⟩ : St MObj)) ?_ (fun s hh => by
    rcases hh with hh | hh
    · cases hh.1
    · obtain ⟨_, js, rfl⟩ := hh
      exact ⟨rfl, _, x23, js, rfl⟩) (fun x s h1 h2 hh => absurd hh.1 h2)
  refine Tri.loop (J := fun k st => st = (⟨PA n np mn i f d (lt q) (.v (ii 0)) x23 js, bs2 ps xs c 0 NP NU (.cells (AC q (.es true) vs) 31) os, 6, []⟩ : St MObj)) ?_ (k := 0) rfl
  rintro k st rfl
  refine Tri.seq (R := fun x st => x = .exit 4 ∧ ∃ js, st = (⟨PA n np mn i f d (lt q) (.v (ii 0)) x23 js, bs2 ps xs c 0 NP NU (.cells (AC q (.es true) vs) 31) os, 6, []⟩ : St MObj)) ?_ (fun st hh => by cases hh.1) (fun x s hx hh => by obtain ⟨rfl, hh⟩ := hh; exact ⟨rfl, hh⟩)
  rcases q4 hq with rfl | rfl | rfl | rfl
  · exact Tri.allR (m := 24) (n := 241) (codeOK _) (he0 n mn i f c 0 np ps xs x23 NP NU os vs d js hx hc hf) (Tr.all_ok ⟨rfl, ht rfl, hd _ rfl, fun js => ⟨rfl, js, rfl⟩⟩)
  · exact Tri.allR (m := 24) (n := 241) (codeOK _) (he1 n mn i f c 0 np ps xs x23 NP NU os vs d js hx hc hf) (Tr.all_ok ⟨rfl, ht rfl, hd _ rfl, fun js => ⟨rfl, js, rfl⟩⟩)
  · exact Tri.allR (m := 24) (n := 241) (codeOK _) (he2 n mn i f c 0 np ps xs x23 NP NU os vs d js hx hc hf) (Tr.all_ok ⟨rfl, ht rfl, hd _ rfl, fun js => ⟨rfl, js, rfl⟩⟩)
  · exact Tri.allR (m := 24) (n := 241) (codeOK _) (he3 n mn i f c 0 np ps xs x23 NP NU os vs d js hx hc hf) (Tr.all_ok ⟨rfl, ht rfl, hd _ rfl, fun js => ⟨rfl, js, rfl⟩⟩)
end
end Go.Proofs.Ytjohhjilglilkaa.ListOwn
