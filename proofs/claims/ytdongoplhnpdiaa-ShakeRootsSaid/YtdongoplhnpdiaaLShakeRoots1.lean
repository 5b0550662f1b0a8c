/-
  ShakeRoots: a step of the Poll, in each mode.
-/
import Derived.Test.YtdongoplhnpdiaaTShakeRoots3
import Derived.Test.YtdongoplhnpdiaaDShakeRoots
import Derived.Test.YtdongoplhnpdiaaEngZi
namespace Go.Proofs.Ytdongoplhnpdiaa.ShakeRoots
open Go Go.RowKit Go.Proofs.Ytdongoplhnpdiaa.Eng
set_option linter.unusedVariables false
set_option linter.unusedSimpArgs false
set_option linter.unusedSectionVars false
set_option maxRecDepth 20000
theorem codeOK (c : Code) : CodeOK MS Try.prog c (ev c) :=
  evCode_sound progOK (fun f args hp nid r h _ => evF_sound progOK (lookH_ok LSR.tabL_ok) 100 19 f args hp nid r h) 100 c
theorem at_tm {S : Eng.Sys MObj} {E : Ctx MObj} {p p' l : List SV} {hp : HP MObj} {nid : Nat} {d : List Nat} {a : Act} {w : World} (h : wkSs p p') (hat : At S E ⟨p ++ l, hp, nid, d⟩ a w) : At S E ⟨p' ++ l, hp, nid, d⟩ a w :=
  weak_tm (tm_weak h) a w hat
def oF (N : Int) (L : Int → Int) : FT → VObj MObj
  | .look => po 0 0 0 0 0 0 0 0 N (L 0) (L 1) (L 2) (L 3) (L 4) (L 5) (L 6) (L 7) 0 0 .nilp
  | .fix r => po 0 0 0 0 5 8 1 0 N (L 0) (L 1) (L 2) (L 3) (L 4) (L 5) (L 6) (L 7) 3 r .nilp
  | .tell r => po 0 0 0 0 5 8 1 0 N (L 0) (L 1) (L 2) (L 3) (L 4) (L 5) (L 6) (L 7) 4 r .nilp
  | .over r => po 5 8 1 0 5 8 1 0 N (L 0) (L 1) (L 2) (L 3) (L 4) (L 5) (L 6) (L 7) 5 r .nilp
def dF : FT → Bool
  | .over _ => true
  | _ => false
noncomputable abbrev SF (n0 n1 : Nat) (i : Int) (ts ls : List (List Int)) (xs ws : List Int) (c c2 N : Int) (A L : Int → Int) (s : FT) (js : Nat → SV) : St MObj :=
  ⟨pre n0 n1 true (dF s) i ++ junk js 127 18, base ts ls xs ws c c2 8 N (A 0) (A 1) (A 2) (A 3) (A 4) (A 5) (A 6) (A 7) ++ [(8, some (oF N L s))], 10, []⟩
def oR (N : Int) (A : Int → Int) : RT → VObj MObj
  | .look => po 0 0 0 0 0 0 0 0 N (A 0) (A 1) (A 2) (A 3) (A 4) (A 5) (A 6) (A 7) 0 0 .nilp
  | .sh r _ _ _ _ _ _ _ _ _ => po 0 0 0 0 5 2 1 0 N (A 0) (A 1) (A 2) (A 3) (A 4) (A 5) (A 6) (A 7) 1 r (.ptr 9 0)
  | .tell r => po 0 0 0 0 5 2 1 0 N (A 0) (A 1) (A 2) (A 3) (A 4) (A 5) (A 6) (A 7) 4 r .nilp
  | .over r => po 5 2 1 0 5 2 1 0 N (A 0) (A 1) (A 2) (A 3) (A 4) (A 5) (A 6) (A 7) 5 r .nilp
  | .tellP r _ _ _ _ _ _ _ _ _ => po 0 0 0 0 5 2 1 0 N (A 0) (A 1) (A 2) (A 3) (A 4) (A 5) (A 6) (A 7) 4 r (.ptr 9 0)
  | .overP r _ _ _ _ _ _ _ _ _ => po 5 2 1 0 5 2 1 0 N (A 0) (A 1) (A 2) (A 3) (A 4) (A 5) (A 6) (A 7) 5 r (.ptr 9 0)
def exR (A : Int → Int) : RT → HP MObj
  | .sh r k w h0 h1 h2 h3 h4 h5 h6 => [(9, some (sd (A r) 1 k w h0 h1 h2 h3 h4 h5 h6))]
  | .tellP _ a w h0 h1 h2 h3 h4 h5 h6 => [(9, some (sd a 1 5 w h0 h1 h2 h3 h4 h5 h6))]
  | .overP _ a w h0 h1 h2 h3 h4 h5 h6 => [(9, some (sd a 1 5 w h0 h1 h2 h3 h4 h5 h6))]
  | _ => []
def dR : RT → Bool
  | .over _ => true
  | .overP .. => true
  | _ => false
noncomputable abbrev SR (n0 n1 : Nat) (i : Int) (ts ls : List (List Int)) (xs ws : List Int) (c c2 N : Int) (A : Int → Int) (s : RT) (js : Nat → SV) : St MObj :=
  ⟨pre n0 n1 false (dR s) i ++ junk js 127 18, base ts ls xs ws c c2 2 N (A 0) (A 1) (A 2) (A 3) (A 4) (A 5) (A 6) (A 7) ++ (8, some (oR N A s)) :: exR A s, 10, []⟩
abbrev rS : List (Nat × Nat) := [(0, 0), (1, 1), (2, 2), (3, 3), (4, 4), (5, 5), (6, 6), (7, 7), (8, 8), (10, 9)]
abbrev rT : List (Nat × Nat) := [(0, 0), (1, 1), (2, 2), (3, 3), (4, 4), (5, 5), (6, 6), (7, 7), (8, 8), (9, 9)]
abbrev rT0 : List (Nat × Nat) := [(0, 0), (1, 1), (2, 2), (3, 3), (4, 4), (5, 5), (6, 6), (7, 7), (8, 8)]
section
variable {n0 n1 : Nat} {i c c2 N : Int} {ts ls : List (List Int)} {xs ws : List Int} {A L : Int → Int} (E : Ctx MObj) (hE : E.nid0 = 2) (hT : E.top = 30) (hD : ∀ b, 2 ≤ b → E.D b) (hk : Known N A ws) (hc : 0 ≤ c ∧ c ≤ 100000)
include hE hT hD hk hc
theorem stepF {s : FT} (h : InvF N A ws xs L s) (hs : dF s = false) (js : Nat → SV) : Tri MS Try.prog E (at1 [true, false, false]) (SF n0 n1 i ts ls xs ws c c2 N A L s js) fun x st => x = .normal ∧ ∃ xs' L' s' c' js, InvF N A ws xs' L' s' ∧ potF s' < potF s ∧ 0 ≤ potF s' ∧ c ≤ c' ∧ c' ≤ c + 1 ∧ st = SF n0 n1 i ts ls xs' ws c' c2 N A L' s' js := by
  have hd : ∀ (l : List Nat), l.all (Nat.ble 2) = true → ∀ b, b ∈ l → E.D b := fun l hl b hb => hD b (Nat.le_of_ble_eq_true (List.all_eq_true.1 hl b hb))
  have ht : ∀ {k : Nat}, Nat.ble k 30 = true → k ≤ E.top := fun h => by rw [hT]; exact Nat.le_of_ble_eq_true h
  have hN := hk.hN
  have hx := h.len
  refine Tri.postE (Q := fun x st => x = .normal ∧ ∀ aa ww, At MS E st aa ww → ∃ st', At MS E st' aa ww ∧ ∃ xs' L' s' c' js, InvF N A ws xs' L' s' ∧ potF s' < potF s ∧ 0 ≤ potF s' ∧ c ≤ c' ∧ c' ≤ c + 1 ∧ st' = SF n0 n1 i ts ls xs' ws c' c2 N A L' s' js) ?_ fun x st aa ww hh hat => let ⟨st', h1, h2⟩ := hh.2 aa ww hat; ⟨st', h1, hh.1, h2⟩
  cases s with
  | look =>
    obtain ⟨p1, p2, p3, p4⟩ := h.ph rfl
    have hl := h.lk rfl
    obtain ⟨g1, g2⟩ := h.go hk (r := 0) (by decide) (L' := L) (fun j h1 h2 => by rw [if_neg (by omega)]; exact hl j h1 h2)
    refine Tri.allR (m := 18) (n := 127) (codeOK _) (lookF n0 n1 true i c c2 N (A 0) (A 1) (A 2) (A 3) (A 4) (A 5) (A 6) (A 7) (L 0) (L 1) (L 2) (L 3) (L 4) (L 5) (L 6) (L 7) 0 ts ls xs ws js hx hc hN p1 p3 p4 p2) (Tr.all_ite (fun q => Tr.all_ok ⟨rfl, ht rfl, hd _ rfl, fun js => ⟨rfl, fun aa ww hat => ?_⟩⟩) fun q => Tr.all_ok ⟨rfl, ht rfl, hd _ rfl, fun js => ⟨rfl, fun aa ww hat => ?_⟩⟩)
    · have q : nxt 0 N L < N := of_decide_eq_true q
      have g := g1 q
      exact ⟨_, at_wk2 (dirty' := []) (hp' := base ts ls xs ws (c + 1) c2 8 N (A 0) (A 1) (A 2) (A 3) (A 4) (A 5) (A 6) (A 7) ++ [(8, some (oF N L (.fix (nxt 0 N L))))]) (by repeat' (first | exact trivial | refine ⟨.inl rfl, ?_⟩ | refine ⟨.inr ⟨_, _, _, rfl, rfl, (by (repeat' apply And.intro) <;> first | rfl | trivial | exact p1 | exact p2 | exact p3 | exact p4)⟩, ?_⟩)) hat, xs, L, .fix (nxt 0 N L), c + 1, js, g.1, by show 9 - nxt 0 N L < 10; omega, by show 0 ≤ 9 - nxt 0 N L; omega, by omega, by omega, rfl⟩
    · have q : ¬ nxt 0 N L < N := of_decide_eq_false q
      exact ⟨_, at_wk2 (dirty' := []) (hp' := base ts ls xs ws (c + 1) c2 8 N (A 0) (A 1) (A 2) (A 3) (A 4) (A 5) (A 6) (A 7) ++ [(8, some (oF N L (.tell 0)))]) (by repeat' (first | exact trivial | refine ⟨.inl rfl, ?_⟩ | refine ⟨.inr ⟨_, _, _, rfl, rfl, (by (repeat' apply And.intro) <;> first | rfl | trivial | exact p1 | exact p2 | exact p3 | exact p4)⟩, ?_⟩)) hat, xs, L, .tell 0, c + 1, js, g2 q 0, by decide, by decide, by omega, by omega, rfl⟩
  | fix r =>
    obtain ⟨r0, r1, r2, _⟩ := h.fx r rfl
    have hst := h.step hk
    obtain ⟨g1, g2⟩ := h.go hk (r := r + 1) (by omega) hst
    have e1 : W (r + 1) = r + 1 := W_of (by omega) (by omega)
    have rg : ∀ j, 0 ≤ j → j < 8 → 0 ≤ L j ∧ L j < 160 := fun j h1 h2 => h.range hk h1 h2
    have key : ∀ (L' : Int → Int), L' = setL L r (mMoved (xs.getD (L r).toNat 0) (L r)) → ∀ (js : Nat → SV) aa ww (q : nxt (W (r + 1)) N L' < N), At MS E ⟨pre n0 n1 true false i ++ junk js 127 18, base ts ls xs ws (c + 1) c2 8 N (A 0) (A 1) (A 2) (A 3) (A 4) (A 5) (A 6) (A 7) ++ [(8, some (oF N L' (.fix (nxt (W (r + 1)) N L'))))], 10, []⟩ aa ww → ∃ st', At MS E st' aa ww ∧ ∃ xs' L' s' c' js, InvF N A ws xs' L' s' ∧ potF s' < potF (.fix r) ∧ 0 ≤ potF s' ∧ c ≤ c' ∧ c' ≤ c + 1 ∧ st' = SF n0 n1 i ts ls xs' ws c' c2 N A L' s' js := by
      rintro L' rfl js aa ww q hat
      rw [e1] at q hat
      have g := g1 q
      exact ⟨_, hat, xs, _, _, c + 1, js, g.1, by show 9 - nxt (r + 1) N _ < 9 - r; omega, by show 0 ≤ 9 - nxt (r + 1) N _; omega, by omega, by omega, rfl⟩
    have key2 : ∀ (L' : Int → Int), L' = setL L r (mMoved (xs.getD (L r).toNat 0) (L r)) → ∀ (js : Nat → SV) aa ww (q : ¬ nxt (W (r + 1)) N L' < N), At MS E ⟨pre n0 n1 true false i ++ junk js 127 18, base ts ls xs ws (c + 1) c2 8 N (A 0) (A 1) (A 2) (A 3) (A 4) (A 5) (A 6) (A 7) ++ [(8, some (oF N L' (.tell r)))], 10, []⟩ aa ww → ∃ st', At MS E st' aa ww ∧ ∃ xs' L' s' c' js, InvF N A ws xs' L' s' ∧ potF s' < potF (.fix r) ∧ 0 ≤ potF s' ∧ c ≤ c' ∧ c' ≤ c + 1 ∧ st' = SF n0 n1 i ts ls xs' ws c' c2 N A L' s' js := by
      rintro L' rfl js aa ww q hat
      rw [e1] at q
      exact ⟨_, hat, xs, _, _, c + 1, js, g2 q r, by show (1 : Int) < 9 - r; omega, (show (0 : Int) ≤ 1 by decide), by omega, by omega, rfl⟩
    have run := fix n0 n1 true i c c2 N (A 0) (A 1) (A 2) (A 3) (A 4) (A 5) (A 6) (A 7) (L 0) (L 1) (L 2) (L 3) (L 4) (L 5) (L 6) (L 7) r ts ls xs ws js hx hc hN (rg 0 (by decide) (by decide)) (rg 1 (by decide) (by decide)) (rg 2 (by decide) (by decide)) (rg 3 (by decide) (by decide)) (rg 4 (by decide) (by decide)) (rg 5 (by decide) (by decide)) (rg 6 (by decide) (by decide)) (rg 7 (by decide) (by decide)) ⟨r0, by omega⟩
    rcases (show r = 0 ∨ r = 1 ∨ r = 2 ∨ r = 3 ∨ r = 4 ∨ r = 5 ∨ r = 6 ∨ r = 7 by omega) with rfl | rfl | rfl | rfl | rfl | rfl | rfl | rfl
    · exact Tri.allR (m := 18) (n := 127) (codeOK _) run (Tr.all_ite (fun z => absurd z (by decide)) fun _ => Tr.all_ite (fun z => absurd z (by decide)) fun _ => Tr.all_ite (fun z => absurd z (by decide)) fun _ => Tr.all_ite (fun z => absurd z (by decide)) fun _ => Tr.all_ite (fun z => absurd z (by decide)) fun _ => Tr.all_ite (fun z => absurd z (by decide)) fun _ => Tr.all_ite (fun z => absurd z (by decide)) fun _ => Tr.all_ite (fun q => Tr.all_ok ⟨rfl, ht rfl, hd _ rfl, fun js => ⟨rfl, fun aa ww hat => key _ rfl js aa ww (of_decide_eq_true q) hat⟩⟩) fun q => Tr.all_ok ⟨rfl, ht rfl, hd _ rfl, fun js => ⟨rfl, fun aa ww hat => key2 _ rfl js aa ww (of_decide_eq_false q) hat⟩⟩)
    · exact Tri.allR (m := 18) (n := 127) (codeOK _) run (Tr.all_ite (fun z => absurd z (by decide)) fun _ => Tr.all_ite (fun z => absurd z (by decide)) fun _ => Tr.all_ite (fun z => absurd z (by decide)) fun _ => Tr.all_ite (fun z => absurd z (by decide)) fun _ => Tr.all_ite (fun z => absurd z (by decide)) fun _ => Tr.all_ite (fun z => absurd z (by decide)) fun _ => Tr.all_ite (fun _ => Tr.all_ite (fun q => Tr.all_ok ⟨rfl, ht rfl, hd _ rfl, fun js => ⟨rfl, fun aa ww hat => key _ rfl js aa ww (of_decide_eq_true q) hat⟩⟩) fun q => Tr.all_ok ⟨rfl, ht rfl, hd _ rfl, fun js => ⟨rfl, fun aa ww hat => key2 _ rfl js aa ww (of_decide_eq_false q) hat⟩⟩) fun z => absurd z (by decide))
    · exact Tri.allR (m := 18) (n := 127) (codeOK _) run (Tr.all_ite (fun z => absurd z (by decide)) fun _ => Tr.all_ite (fun z => absurd z (by decide)) fun _ => Tr.all_ite (fun z => absurd z (by decide)) fun _ => Tr.all_ite (fun z => absurd z (by decide)) fun _ => Tr.all_ite (fun z => absurd z (by decide)) fun _ => Tr.all_ite (fun _ => Tr.all_ite (fun q => Tr.all_ok ⟨rfl, ht rfl, hd _ rfl, fun js => ⟨rfl, fun aa ww hat => key _ rfl js aa ww (of_decide_eq_true q) hat⟩⟩) fun q => Tr.all_ok ⟨rfl, ht rfl, hd _ rfl, fun js => ⟨rfl, fun aa ww hat => key2 _ rfl js aa ww (of_decide_eq_false q) hat⟩⟩) fun z => absurd z (by decide))
    · exact Tri.allR (m := 18) (n := 127) (codeOK _) run (Tr.all_ite (fun z => absurd z (by decide)) fun _ => Tr.all_ite (fun z => absurd z (by decide)) fun _ => Tr.all_ite (fun z => absurd z (by decide)) fun _ => Tr.all_ite (fun z => absurd z (by decide)) fun _ => Tr.all_ite (fun _ => Tr.all_ite (fun q => Tr.all_ok ⟨rfl, ht rfl, hd _ rfl, fun js => ⟨rfl, fun aa ww hat => key _ rfl js aa ww (of_decide_eq_true q) hat⟩⟩) fun q => Tr.all_ok ⟨rfl, ht rfl, hd _ rfl, fun js => ⟨rfl, fun aa ww hat => key2 _ rfl js aa ww (of_decide_eq_false q) hat⟩⟩) fun z => absurd z (by decide))
    · exact Tri.allR (m := 18) (n := 127) (codeOK _) run (Tr.all_ite (fun z => absurd z (by decide)) fun _ => Tr.all_ite (fun z => absurd z (by decide)) fun _ => Tr.all_ite (fun z => absurd z (by decide)) fun _ => Tr.all_ite (fun _ => Tr.all_ite (fun q => Tr.all_ok ⟨rfl, ht rfl, hd _ rfl, fun js => ⟨rfl, fun aa ww hat => key _ rfl js aa ww (of_decide_eq_true q) hat⟩⟩) fun q => Tr.all_ok ⟨rfl, ht rfl, hd _ rfl, fun js => ⟨rfl, fun aa ww hat => key2 _ rfl js aa ww (of_decide_eq_false q) hat⟩⟩) fun z => absurd z (by decide))
    · exact Tri.allR (m := 18) (n := 127) (codeOK _) run (Tr.all_ite (fun z => absurd z (by decide)) fun _ => Tr.all_ite (fun z => absurd z (by decide)) fun _ => Tr.all_ite (fun _ => Tr.all_ite (fun q => Tr.all_ok ⟨rfl, ht rfl, hd _ rfl, fun js => ⟨rfl, fun aa ww hat => key _ rfl js aa ww (of_decide_eq_true q) hat⟩⟩) fun q => Tr.all_ok ⟨rfl, ht rfl, hd _ rfl, fun js => ⟨rfl, fun aa ww hat => key2 _ rfl js aa ww (of_decide_eq_false q) hat⟩⟩) fun z => absurd z (by decide))
    · exact Tri.allR (m := 18) (n := 127) (codeOK _) run (Tr.all_ite (fun z => absurd z (by decide)) fun _ => Tr.all_ite (fun _ => Tr.all_ite (fun q => Tr.all_ok ⟨rfl, ht rfl, hd _ rfl, fun js => ⟨rfl, fun aa ww hat => key _ rfl js aa ww (of_decide_eq_true q) hat⟩⟩) fun q => Tr.all_ok ⟨rfl, ht rfl, hd _ rfl, fun js => ⟨rfl, fun aa ww hat => key2 _ rfl js aa ww (of_decide_eq_false q) hat⟩⟩) fun z => absurd z (by decide))
    · exact Tri.allR (m := 18) (n := 127) (codeOK _) run (Tr.all_ite (fun _ => Tr.all_ite (fun q => Tr.all_ok ⟨rfl, ht rfl, hd _ rfl, fun js => ⟨rfl, fun aa ww hat => key _ rfl js aa ww (of_decide_eq_true q) hat⟩⟩) fun q => Tr.all_ok ⟨rfl, ht rfl, hd _ rfl, fun js => ⟨rfl, fun aa ww hat => key2 _ rfl js aa ww (of_decide_eq_false q) hat⟩⟩) fun z => absurd z (by decide))
  | tell r =>
    refine Tri.allR (m := 18) (n := 127) (codeOK _) (tellF n0 n1 true i c c2 N (A 0) (A 1) (A 2) (A 3) (A 4) (A 5) (A 6) (A 7) (L 0) (L 1) (L 2) (L 3) (L 4) (L 5) (L 6) (L 7) r ts ls xs ws js hx hc hN) (Tr.all_ok ⟨rfl, ht rfl, hd _ rfl, fun js => ⟨rfl, fun aa ww hat => let ⟨js', h'⟩ := at_rename (dirty' := []) (m := 18) (n := 127) rT0 (nid' := 10) rfl (by simp [length_junk]) rfl rfl (by rw [hE]; rfl) (by rw [hE]; decide) (by rw [hT]; decide) hat; ⟨_, h', xs.set 10 5, L, .over r, c + 1, js', ?_, (show (0 : Int) < 1 by decide), (show (0 : Int) ≤ 0 by decide), by omega, by omega, rfl⟩⟩⟩)
    exact ⟨by rw [List.length_set]; exact hx, fun a ha => by rw [gne _ (by omega)]; exact h.same a ha, (fun e => by cases e), (fun e => by cases e), (fun q e => by cases e), (fun q e => by
      rcases e with e | e
      · cases e
      · exact h.dn r (.inl rfl))⟩
  | over r => cases hs
theorem stepR {s : RT} (h : InvR N A xs s) (hs : dR s = false) (js : Nat → SV) : Tri MS Try.prog E (at1 [true, false, false]) (SR n0 n1 i ts ls xs ws c c2 N A s js) fun x st => x = .normal ∧ ∃ xs' s' c' js, InvR N A xs' s' ∧ potR s' < potR s ∧ 0 ≤ potR s' ∧ c ≤ c' ∧ c' ≤ c + 1 ∧ st = SR n0 n1 i ts ls xs' ws c' c2 N A s' js := by
  have hd : ∀ (l : List Nat), l.all (Nat.ble 2) = true → ∀ b, b ∈ l → E.D b := fun l hl b hb => hD b (Nat.le_of_ble_eq_true (List.all_eq_true.1 hl b hb))
  have ht : ∀ {k : Nat}, Nat.ble k 30 = true → k ≤ E.top := fun h => by rw [hT]; exact Nat.le_of_ble_eq_true h
  have hN := hk.hN
  have hx := h.len
  refine Tri.postE (Q := fun x st => x = .normal ∧ ∀ aa ww, At MS E st aa ww → ∃ st', At MS E st' aa ww ∧ ∃ xs' s' c' js, InvR N A xs' s' ∧ potR s' < potR s ∧ 0 ≤ potR s' ∧ c ≤ c' ∧ c' ≤ c + 1 ∧ st' = SR n0 n1 i ts ls xs' ws c' c2 N A s' js) ?_ fun x st aa ww hh hat => let ⟨st', h1, h2⟩ := hh.2 aa ww hat; ⟨st', h1, hh.1, h2⟩
  cases s with
  | look =>
    obtain ⟨p1, p2, p3, p4⟩ := h.ph rfl
    obtain ⟨g1, g2⟩ := go hk hx h.obj (r := 0) (by decide) (fun j h1 h2 h3 => absurd h3 (by omega))
    refine Tri.allR (m := 18) (n := 127) (codeOK _) (lookS n0 n1 false i c c2 N (A 0) (A 1) (A 2) (A 3) (A 4) (A 5) (A 6) (A 7) (A 0) (A 1) (A 2) (A 3) (A 4) (A 5) (A 6) (A 7) 0 ts ls xs ws js hx hc hN p1 p3 p4 p2) (Tr.all_ite (fun q => Tr.all_ok ⟨rfl, ht rfl, hd _ rfl, fun js => ⟨rfl, fun aa ww hat => ?_⟩⟩) fun q => Tr.all_ok ⟨rfl, ht rfl, hd _ rfl, fun js => ⟨rfl, fun aa ww hat => ?_⟩⟩)
    · have q : nxt 0 N A < N := of_decide_eq_true q
      have g := g1 q
      have ea : lfn A (nxt 0 N A) = A (nxt 0 N A) := lfn_eq A ⟨g.2, by omega⟩
      obtain ⟨js', h'⟩ := at_rename (dirty' := []) (m := 18) (n := 127) rS (nid' := 10) rfl (by simp [length_junk]) rfl rfl (by rw [hE]; rfl) (by rw [hE]; decide) (by rw [hT]; decide) (at_wk2 (dirty' := []) (hp' := base ts ls (xs) ws (c + 1) c2 2 N (A 0) (A 1) (A 2) (A 3) (A 4) (A 5) (A 6) (A 7) ++ [(8, some (po 0 0 0 0 5 2 1 0 N (A 0) (A 1) (A 2) (A 3) (A 4) (A 5) (A 6) (A 7) 1 (nxt 0 N A) (.ptr 10 0))), (10, some (sd (A (nxt 0 N A)) 1 0 0 0 0 0 0 0 0 0))]) (by repeat' (first | exact trivial | refine ⟨.inl rfl, ?_⟩ | refine ⟨.inr ⟨_, _, _, rfl, rfl, (by (repeat' apply And.intro) <;> first | rfl | trivial | exact p1 | exact p2 | exact p3 | exact p4 | exact ea)⟩, ?_⟩)) hat)
      exact ⟨_, h', xs, .sh (nxt 0 N A) 0 0 0 0 0 0 0 0 0, c + 1, js', g.1, by show 5 * (8 - nxt 0 N A) - ((0 : Nat) : Int) + 1 < 42; omega, by show 0 ≤ 5 * (8 - nxt 0 N A) - ((0 : Nat) : Int) + 1; omega, by omega, by omega, rfl⟩
    · have q : ¬ nxt 0 N A < N := of_decide_eq_false q
      exact ⟨_, at_wk2 (dirty' := []) (hp' := base ts ls (xs) ws (c + 1) c2 2 N (A 0) (A 1) (A 2) (A 3) (A 4) (A 5) (A 6) (A 7) ++ [(8, some (oR N A (.tell 0)))]) (by repeat' (first | exact trivial | refine ⟨.inl rfl, ?_⟩ | refine ⟨.inr ⟨_, _, _, rfl, rfl, (by (repeat' apply And.intro) <;> first | rfl | trivial | exact p1 | exact p2 | exact p3 | exact p4)⟩, ?_⟩)) hat, xs, .tell 0, c + 1, js, ⟨hx, h.obj, (fun e => by cases e), (fun r k w h0 h1 h2 h3 h4 h5 h6 e => by cases e), fun _ => g2 q⟩, by decide, by decide, by omega, by omega, rfl⟩
  | sh r k w h0 h1 h2 h3 h4 h5 h6 =>
    obtain ⟨a0, a1, a2, hm, hk5, i1, i2, i3, i4⟩ := h.sh r k w h0 h1 h2 h3 h4 h5 h6 rfl
    obtain ⟨ho1, ho2, _⟩ := hk.obj r a0 (by omega) a2
    obtain ⟨kk, hkk, hA⟩ := hk.shp r a0 (by omega) a2
    have hst : mHState (xs.getD (A r).toNat 0) = 1 := by rw [show (A r).toNat = 96 + 4 * kk by omega]; exact h.obj kk hkk
    have e1 : W (r + 1) = r + 1 := W_of (by omega) (by omega)
    rcases (show k = 0 ∨ k = 1 ∨ k = 2 ∨ k = 3 ∨ k = 4 by omega) with rfl | rfl | rfl | rfl | rfl
    · refine Tri.allR (m := 18) (n := 127) (codeOK _) (r0 n0 n1 false i c c2 N (A 0) (A 1) (A 2) (A 3) (A 4) (A 5) (A 6) (A 7) (A 0) (A 1) (A 2) (A 3) (A 4) (A 5) (A 6) (A 7) r (A r) w h0 h1 h2 h3 h4 h5 h6 ts ls xs ws js hx hc hN ⟨ho1, ho2⟩ ⟨a0, by omega⟩ (by rw [hst]; rfl)) (Tr.all_ite (fun z => ?_) fun z => Tr.all_ok ⟨rfl, ht rfl, hd _ rfl, fun js => ⟨rfl, fun aa ww hat => ?_⟩⟩)
      · refine (Tr.all_ite (fun q => Tr.all_ok ⟨rfl, ht rfl, hd _ rfl, fun js => ⟨rfl, fun aa ww hat => ?_⟩⟩) fun q => Tr.all_ok ⟨rfl, ht rfl, hd _ rfl, fun js => ⟨rfl, fun aa ww hat => ?_⟩⟩)
        · have q : nxt (W (r + 1)) N A < N := of_decide_eq_true q
          have en : nxt (W (r + 1)) N A = nxt (r + 1) N A := by rw [e1]
          rw [en] at q
          obtain ⟨g1, g2⟩ := go hk (xs := xs) hx h.obj (r := r + 1) (by omega) (fun j h1 h2 h3 h4 => by
            by_cases e : j = r
            · rw [e]; exact eq_of_beq z
            · exact hm j h1 h2 (by omega) h4)
          have g := g1 q
          have ea : lfn A (nxt (W (r + 1)) N A) = A (nxt (r + 1) N A) := by rw [en]; exact lfn_eq A ⟨by omega, by omega⟩
          obtain ⟨js', h'⟩ := at_rename (dirty' := []) (m := 18) (n := 127) rS (nid' := 10) rfl (by simp [length_junk]) rfl rfl (by rw [hE]; rfl) (by rw [hE]; decide) (by rw [hT]; decide) (at_wk2 (dirty' := []) (hp' := base ts ls (xs) ws (c + 1) c2 2 N (A 0) (A 1) (A 2) (A 3) (A 4) (A 5) (A 6) (A 7) ++ [(8, some (po 0 0 0 0 5 2 1 0 N (A 0) (A 1) (A 2) (A 3) (A 4) (A 5) (A 6) (A 7) 1 (nxt (r + 1) N A) (.ptr 10 0))), (9, some (sd (A r) 1 5 (xs.getD (A r).toNat 0) (mHState (xs.getD (A r).toNat 0)) (mHClass (xs.getD (A r).toNat 0)) (mHCount (xs.getD (A r).toNat 0)) (mHMark (xs.getD (A r).toNat 0)) (mHGrey (xs.getD (A r).toNat 0)) (mHTag (xs.getD (A r).toNat 0)) (mHLink (xs.getD (A r).toNat 0)))), (10, some (sd (A (nxt (r + 1) N A)) 1 0 0 0 0 0 0 0 0 0))]) (by repeat' (first | exact trivial | refine ⟨.inl rfl, ?_⟩ | refine ⟨.inr ⟨_, _, _, rfl, rfl, (by (repeat' apply And.intro) <;> first | rfl | trivial | exact en | exact ea)⟩, ?_⟩)) hat)
          exact ⟨_, h', xs, .sh (nxt (r + 1) N A) 0 0 0 0 0 0 0 0 0, c + 1, js', g.1, by show 5 * (8 - nxt (r + 1) N A) - ((0 : Nat) : Int) + 1 < 5 * (8 - r) - ((0 : Nat) : Int) + 1; omega, by show 0 ≤ 5 * (8 - nxt (r + 1) N A) - ((0 : Nat) : Int) + 1; omega, by omega, by omega, rfl⟩
        · have q : ¬ nxt (W (r + 1)) N A < N := of_decide_eq_false q
          rw [e1] at q
          obtain ⟨g1, g2⟩ := go hk (xs := xs) hx h.obj (r := r + 1) (by omega) (fun j h1 h2 h3 h4 => by
            by_cases e : j = r
            · rw [e]; exact eq_of_beq z
            · exact hm j h1 h2 (by omega) h4)
          obtain ⟨js', h'⟩ := at_rename (dirty' := []) (m := 18) (n := 127) rT (nid' := 10) rfl (by simp [length_junk]) rfl rfl (by rw [hE]; rfl) (by rw [hE]; decide) (by rw [hT]; decide) (at_wk2 (dirty' := []) (hp' := base ts ls (xs) ws (c + 1) c2 2 N (A 0) (A 1) (A 2) (A 3) (A 4) (A 5) (A 6) (A 7) ++ (8, some (oR N A (.tellP r (A r) (xs.getD (A r).toNat 0) (mHState (xs.getD (A r).toNat 0)) (mHClass (xs.getD (A r).toNat 0)) (mHCount (xs.getD (A r).toNat 0)) (mHMark (xs.getD (A r).toNat 0)) (mHGrey (xs.getD (A r).toNat 0)) (mHTag (xs.getD (A r).toNat 0)) (mHLink (xs.getD (A r).toNat 0))))) :: exR A (.tellP r (A r) (xs.getD (A r).toNat 0) (mHState (xs.getD (A r).toNat 0)) (mHClass (xs.getD (A r).toNat 0)) (mHCount (xs.getD (A r).toNat 0)) (mHMark (xs.getD (A r).toNat 0)) (mHGrey (xs.getD (A r).toNat 0)) (mHTag (xs.getD (A r).toNat 0)) (mHLink (xs.getD (A r).toNat 0)))) (by repeat' (first | exact trivial | refine ⟨.inl rfl, ?_⟩ | refine ⟨.inr ⟨_, _, _, rfl, rfl, (by (repeat' apply And.intro) <;> first | rfl | trivial)⟩, ?_⟩)) hat)
          exact ⟨_, h', xs, (.tellP r (A r) (xs.getD (A r).toNat 0) (mHState (xs.getD (A r).toNat 0)) (mHClass (xs.getD (A r).toNat 0)) (mHCount (xs.getD (A r).toNat 0)) (mHMark (xs.getD (A r).toNat 0)) (mHGrey (xs.getD (A r).toNat 0)) (mHTag (xs.getD (A r).toNat 0)) (mHLink (xs.getD (A r).toNat 0))), c + 1, js', ⟨hx, h.obj, (fun e => by cases e), (fun r k w h0 h1 h2 h3 h4 h5 h6 e => by cases e), fun _ => g2 q⟩, by show (1 : Int) < 5 * (8 - r) - ((0 : Nat) : Int) + 1; omega, (show (0 : Int) ≤ 1 by decide), by omega, by omega, rfl⟩
      · have hs0 := hst
        obtain ⟨js', h'⟩ := at_rename (dirty' := []) (m := 18) (n := 127) rT (nid' := 10) rfl (by simp [length_junk]) rfl rfl (by rw [hE]; rfl) (by rw [hE]; decide) (by rw [hT]; decide) (at_wk2 (dirty' := []) (hp' := base ts ls (xs) ws (c + 1) c2 2 N (A 0) (A 1) (A 2) (A 3) (A 4) (A 5) (A 6) (A 7) ++ (8, some (oR N A (.sh r 1 (xs.getD (A r).toNat 0) (mHState (xs.getD (A r).toNat 0)) (mHClass (xs.getD (A r).toNat 0)) (mHCount (xs.getD (A r).toNat 0)) (mHMark (xs.getD (A r).toNat 0)) (mHGrey (xs.getD (A r).toNat 0)) (mHTag (xs.getD (A r).toNat 0)) (mHLink (xs.getD (A r).toNat 0))))) :: exR A (.sh r 1 (xs.getD (A r).toNat 0) (mHState (xs.getD (A r).toNat 0)) (mHClass (xs.getD (A r).toNat 0)) (mHCount (xs.getD (A r).toNat 0)) (mHMark (xs.getD (A r).toNat 0)) (mHGrey (xs.getD (A r).toNat 0)) (mHTag (xs.getD (A r).toNat 0)) (mHLink (xs.getD (A r).toNat 0)))) (by repeat' (first | exact trivial | refine ⟨.inl rfl, ?_⟩ | refine ⟨.inr ⟨_, _, _, rfl, rfl, (by (repeat' apply And.intro) <;> first | rfl | trivial)⟩, ?_⟩)) hat)
        exact ⟨_, h', xs, (.sh r 1 (xs.getD (A r).toNat 0) (mHState (xs.getD (A r).toNat 0)) (mHClass (xs.getD (A r).toNat 0)) (mHCount (xs.getD (A r).toNat 0)) (mHMark (xs.getD (A r).toNat 0)) (mHGrey (xs.getD (A r).toNat 0)) (mHTag (xs.getD (A r).toNat 0)) (mHLink (xs.getD (A r).toNat 0))), c + 1, js', ⟨hx, h.obj, (fun e => by cases e), (fun r' k' w' h0' h1' h2' h3' h4' h5' h6' e => by
          injection e with e1 e2 e3 e4
          subst e1 e2 e3 e4
          exact ⟨a0, a1, a2, hm, by decide, (fun _ => hst), (fun _ => rfl), (fun h => absurd h (by decide)), (fun h => absurd h (by decide))⟩), (fun e => by cases e)⟩, by show 5 * (8 - r) - ((1 : Nat) : Int) + 1 < 5 * (8 - r) - ((0 : Nat) : Int) + 1; omega, by show 0 ≤ 5 * (8 - r) - ((1 : Nat) : Int) + 1; omega, by omega, by omega, rfl⟩
    · have hh0 : h0 = 1 := i1 (by decide)
      subst hh0
      refine Tri.allR (m := 18) (n := 127) (codeOK _) ((r1 n0 n1 false i c c2 N (A 0) (A 1) (A 2) (A 3) (A 4) (A 5) (A 6) (A 7) (A 0) (A 1) (A 2) (A 3) (A 4) (A 5) (A 6) (A 7) r (A r) w 1 h1 h2 h3 h4 h5 h6 ts ls xs ws js hx hc hN ⟨ho1, ho2⟩ ⟨a0, by omega⟩ (by rw [i2 rfl]; exact beq_self_eq_true w))) (Tr.all_ok ⟨rfl, ht rfl, hd _ rfl, fun js => ⟨rfl, fun aa ww hat => ?_⟩⟩)
      · have hv : mHState (mWord 1 h1 h2 1 1 h5 0) = 1 := state_word ..
        obtain ⟨js', h'⟩ := at_rename (dirty' := []) (m := 18) (n := 127) rT (nid' := 10) rfl (by simp [length_junk]) rfl rfl (by rw [hE]; rfl) (by rw [hE]; decide) (by rw [hT]; decide) (at_wk2 (dirty' := []) (hp' := base ts ls (xs.set (A r).toNat (mWord 1 h1 h2 1 1 h5 0)) ws (c + 1) c2 2 N (A 0) (A 1) (A 2) (A 3) (A 4) (A 5) (A 6) (A 7) ++ (8, some (oR N A (.sh r 2 w 1 h1 h2 h3 h4 h5 0))) :: exR A (.sh r 2 w 1 h1 h2 h3 h4 h5 0)) (by repeat' (first | exact trivial | refine ⟨.inl rfl, ?_⟩ | refine ⟨.inr ⟨_, _, _, rfl, rfl, (by (repeat' apply And.intro) <;> first | rfl | trivial)⟩, ?_⟩)) hat)
        exact ⟨_, h', xs.set (A r).toNat (mWord 1 h1 h2 1 1 h5 0), (.sh r 2 w 1 h1 h2 h3 h4 h5 0), c + 1, js', ⟨(by rw [List.length_set]; exact hx), (obj_set hx h.obj hv), (fun e => by cases e), (fun r' k' w' h0' h1' h2' h3' h4' h5' h6' e => by
          injection e with e1 e2 e3 e4
          subst e1 e2 e3 e4
          exact ⟨a0, a1, a2, (mark_set hk hx hm (mark_word ..)), by decide, (fun _ => rfl), (fun h => absurd h (by decide)), (fun _ => by rw [geq _ (by omega)]; exact mark_word ..), (fun h => absurd h (by decide))⟩), (fun e => by cases e)⟩, by show 5 * (8 - r) - ((2 : Nat) : Int) + 1 < 5 * (8 - r) - ((1 : Nat) : Int) + 1; omega, by show 0 ≤ 5 * (8 - r) - ((2 : Nat) : Int) + 1; omega, by omega, by omega, rfl⟩
    · have hh0 : h0 = 1 := i1 (by decide)
      refine Tri.allR (m := 18) (n := 127) (codeOK _) (r2 n0 n1 false i c c2 N (A 0) (A 1) (A 2) (A 3) (A 4) (A 5) (A 6) (A 7) (A 0) (A 1) (A 2) (A 3) (A 4) (A 5) (A 6) (A 7) r (A r) w h0 h1 h2 h3 h4 h5 h6 ts ls xs ws js hx hc hN ⟨ho1, ho2⟩ ⟨a0, by omega⟩) (Tr.all_ok ⟨rfl, ht rfl, hd _ rfl, fun js => ⟨rfl, fun aa ww hat => ?_⟩⟩)
      · have hs0 := hst
        obtain ⟨js', h'⟩ := at_rename (dirty' := []) (m := 18) (n := 127) rT (nid' := 10) rfl (by simp [length_junk]) rfl rfl (by rw [hE]; rfl) (by rw [hE]; decide) (by rw [hT]; decide) (at_wk2 (dirty' := []) (hp' := base ts ls (xs) ws (c + 1) c2 2 N (A 0) (A 1) (A 2) (A 3) (A 4) (A 5) (A 6) (A 7) ++ (8, some (oR N A (.sh r 3 (xs.getD 1 0) h0 h1 h2 h3 h4 h5 h6))) :: exR A (.sh r 3 (xs.getD 1 0) h0 h1 h2 h3 h4 h5 h6)) (by repeat' (first | exact trivial | refine ⟨.inl rfl, ?_⟩ | refine ⟨.inr ⟨_, _, _, rfl, rfl, (by (repeat' apply And.intro) <;> first | rfl | trivial)⟩, ?_⟩)) hat)
        exact ⟨_, h', xs, (.sh r 3 (xs.getD 1 0) h0 h1 h2 h3 h4 h5 h6), c + 1, js', ⟨hx, h.obj, (fun e => by cases e), (fun r' k' w' h0' h1' h2' h3' h4' h5' h6' e => by
          injection e with e1 e2 e3 e4
          subst e1 e2 e3 e4
          exact ⟨a0, a1, a2, hm, by decide, (fun _ => hh0), (fun h => absurd h (by decide)), (fun _ => i3 (by decide)), (fun _ => rfl)⟩), (fun e => by cases e)⟩, by show 5 * (8 - r) - ((3 : Nat) : Int) + 1 < 5 * (8 - r) - ((2 : Nat) : Int) + 1; omega, by show 0 ≤ 5 * (8 - r) - ((3 : Nat) : Int) + 1; omega, by omega, by omega, rfl⟩
    · have hh0 : h0 = 1 := i1 (by decide)
      subst hh0
      refine Tri.allR (m := 18) (n := 127) (codeOK _) ((r3 n0 n1 false i c c2 N (A 0) (A 1) (A 2) (A 3) (A 4) (A 5) (A 6) (A 7) (A 0) (A 1) (A 2) (A 3) (A 4) (A 5) (A 6) (A 7) r (A r) w 1 h1 h2 h3 h4 h5 h6 ts ls xs ws js hx hc hN ⟨ho1, ho2⟩ ⟨a0, by omega⟩)) (Tr.all_ok ⟨rfl, ht rfl, hd _ rfl, fun js => ⟨rfl, fun aa ww hat => ?_⟩⟩)
      · have hv : mHState (mWord 1 h1 h2 1 1 h5 (mAt w)) = 1 := state_word ..
        obtain ⟨js', h'⟩ := at_rename (dirty' := []) (m := 18) (n := 127) rT (nid' := 10) rfl (by simp [length_junk]) rfl rfl (by rw [hE]; rfl) (by rw [hE]; decide) (by rw [hT]; decide) (at_wk2 (dirty' := []) (hp' := base ts ls (xs.set (A r).toNat (mWord 1 h1 h2 1 1 h5 (mAt w))) ws (c + 1) c2 2 N (A 0) (A 1) (A 2) (A 3) (A 4) (A 5) (A 6) (A 7) ++ (8, some (oR N A (.sh r 4 w 1 h1 h2 h3 h4 h5 (mAt w)))) :: exR A (.sh r 4 w 1 h1 h2 h3 h4 h5 (mAt w))) (by repeat' (first | exact trivial | refine ⟨.inl rfl, ?_⟩ | refine ⟨.inr ⟨_, _, _, rfl, rfl, (by (repeat' apply And.intro) <;> first | rfl | trivial)⟩, ?_⟩)) hat)
        exact ⟨_, h', xs.set (A r).toNat (mWord 1 h1 h2 1 1 h5 (mAt w)), (.sh r 4 w 1 h1 h2 h3 h4 h5 (mAt w)), c + 1, js', ⟨(by rw [List.length_set]; exact hx), (obj_set hx h.obj hv), (fun e => by cases e), (fun r' k' w' h0' h1' h2' h3' h4' h5' h6' e => by
          injection e with e1 e2 e3 e4
          subst e1 e2 e3 e4
          exact ⟨a0, a1, a2, (mark_set hk hx hm (mark_word ..)), by decide, (fun _ => rfl), (fun h => absurd h (by decide)), (fun _ => by rw [geq _ (by omega)]; exact mark_word ..), (fun _ => by rw [gne _ (by omega)]; exact i4 (by decide))⟩), (fun e => by cases e)⟩, by show 5 * (8 - r) - ((4 : Nat) : Int) + 1 < 5 * (8 - r) - ((3 : Nat) : Int) + 1; omega, by show 0 ≤ 5 * (8 - r) - ((4 : Nat) : Int) + 1; omega, by omega, by omega, rfl⟩
    · refine Tri.allR (m := 18) (n := 127) (codeOK _) (r4 n0 n1 false i c c2 N (A 0) (A 1) (A 2) (A 3) (A 4) (A 5) (A 6) (A 7) (A 0) (A 1) (A 2) (A 3) (A 4) (A 5) (A 6) (A 7) r (A r) w h0 h1 h2 h3 h4 h5 h6 ts ls xs ws js hx hc hN ⟨ho1, ho2⟩ ⟨a0, by omega⟩ (by rw [i4 (by decide)]; exact beq_self_eq_true w)) (Tr.all_ite (fun q => Tr.all_ok ⟨rfl, ht rfl, hd _ rfl, fun js => ⟨rfl, fun aa ww hat => ?_⟩⟩) fun q => Tr.all_ok ⟨rfl, ht rfl, hd _ rfl, fun js => ⟨rfl, fun aa ww hat => ?_⟩⟩)
      · have q : nxt (W (r + 1)) N A < N := of_decide_eq_true q
        have en : nxt (W (r + 1)) N A = nxt (r + 1) N A := by rw [e1]
        rw [en] at q
        obtain ⟨g1, g2⟩ := go hk (xs := xs.set 1 (mNext w (A r))) (by rw [List.length_set]; exact hx) (fun k hk => by rw [gne _ (by omega)]; exact h.obj k hk) (r := r + 1) (by omega) (fun j h1 h2 h3 h4 => by
          by_cases e : j = r
          · rw [e]; exact (by rw [gne _ (by omega)]; exact i3 (by decide))
          · exact (mark_low hk hm (by decide)) j h1 h2 (by omega) h4)
        have g := g1 q
        have ea : lfn A (nxt (W (r + 1)) N A) = A (nxt (r + 1) N A) := by rw [en]; exact lfn_eq A ⟨by omega, by omega⟩
        obtain ⟨js', h'⟩ := at_rename (dirty' := []) (m := 18) (n := 127) rS (nid' := 10) rfl (by simp [length_junk]) rfl rfl (by rw [hE]; rfl) (by rw [hE]; decide) (by rw [hT]; decide) (at_wk2 (dirty' := []) (hp' := base ts ls (xs.set 1 (mNext w (A r))) ws (c + 1) c2 2 N (A 0) (A 1) (A 2) (A 3) (A 4) (A 5) (A 6) (A 7) ++ [(8, some (po 0 0 0 0 5 2 1 0 N (A 0) (A 1) (A 2) (A 3) (A 4) (A 5) (A 6) (A 7) 1 (nxt (r + 1) N A) (.ptr 10 0))), (9, some (sd (A r) 1 5 w h0 h1 h2 h3 h4 h5 h6)), (10, some (sd (A (nxt (r + 1) N A)) 1 0 0 0 0 0 0 0 0 0))]) (by repeat' (first | exact trivial | refine ⟨.inl rfl, ?_⟩ | refine ⟨.inr ⟨_, _, _, rfl, rfl, (by (repeat' apply And.intro) <;> first | rfl | trivial | exact en | exact ea)⟩, ?_⟩)) hat)
        exact ⟨_, h', xs.set 1 (mNext w (A r)), .sh (nxt (r + 1) N A) 0 0 0 0 0 0 0 0 0, c + 1, js', g.1, by show 5 * (8 - nxt (r + 1) N A) - ((0 : Nat) : Int) + 1 < 5 * (8 - r) - ((4 : Nat) : Int) + 1; omega, by show 0 ≤ 5 * (8 - nxt (r + 1) N A) - ((0 : Nat) : Int) + 1; omega, by omega, by omega, rfl⟩
      · have q : ¬ nxt (W (r + 1)) N A < N := of_decide_eq_false q
        rw [e1] at q
        obtain ⟨g1, g2⟩ := go hk (xs := xs.set 1 (mNext w (A r))) (by rw [List.length_set]; exact hx) (fun k hk => by rw [gne _ (by omega)]; exact h.obj k hk) (r := r + 1) (by omega) (fun j h1 h2 h3 h4 => by
          by_cases e : j = r
          · rw [e]; exact (by rw [gne _ (by omega)]; exact i3 (by decide))
          · exact (mark_low hk hm (by decide)) j h1 h2 (by omega) h4)
        obtain ⟨js', h'⟩ := at_rename (dirty' := []) (m := 18) (n := 127) rT (nid' := 10) rfl (by simp [length_junk]) rfl rfl (by rw [hE]; rfl) (by rw [hE]; decide) (by rw [hT]; decide) (at_wk2 (dirty' := []) (hp' := base ts ls (xs.set 1 (mNext w (A r))) ws (c + 1) c2 2 N (A 0) (A 1) (A 2) (A 3) (A 4) (A 5) (A 6) (A 7) ++ (8, some (oR N A (.tellP r (A r) w h0 h1 h2 h3 h4 h5 h6))) :: exR A (.tellP r (A r) w h0 h1 h2 h3 h4 h5 h6)) (by repeat' (first | exact trivial | refine ⟨.inl rfl, ?_⟩ | refine ⟨.inr ⟨_, _, _, rfl, rfl, (by (repeat' apply And.intro) <;> first | rfl | trivial)⟩, ?_⟩)) hat)
        exact ⟨_, h', xs.set 1 (mNext w (A r)), (.tellP r (A r) w h0 h1 h2 h3 h4 h5 h6), c + 1, js', ⟨(by rw [List.length_set]; exact hx), (fun k hk => by rw [gne _ (by omega)]; exact h.obj k hk), (fun e => by cases e), (fun r k w h0 h1 h2 h3 h4 h5 h6 e => by cases e), fun _ => g2 q⟩, by show (1 : Int) < 5 * (8 - r) - ((4 : Nat) : Int) + 1; omega, (show (0 : Int) ≤ 1 by decide), by omega, by omega, rfl⟩
  | tell r =>
    refine Tri.allR (m := 18) (n := 127) (codeOK _) (tellN n0 n1 false i c c2 N (A 0) (A 1) (A 2) (A 3) (A 4) (A 5) (A 6) (A 7) (A 0) (A 1) (A 2) (A 3) (A 4) (A 5) (A 6) (A 7) r ts ls xs ws js hx hc hN) (Tr.all_ok ⟨rfl, ht rfl, hd _ rfl, fun js => ⟨rfl, fun aa ww hat => let ⟨js', h'⟩ := at_rename (dirty' := []) (m := 18) (n := 127) rT0 (nid' := 10) rfl (by simp [length_junk]) rfl rfl (by rw [hE]; rfl) (by rw [hE]; decide) (by rw [hT]; decide) hat; ⟨_, h', xs.set 10 5, (.over r), c + 1, js', ?_, (show (0 : Int) < 1 by decide), (show (0 : Int) ≤ 0 by decide), by omega, by omega, rfl⟩⟩⟩)
    exact ⟨by rw [List.length_set]; exact hx, (fun k hk => by rw [gne _ (by omega)]; exact h.obj k hk), (fun e => by cases e), (fun r k w h0 h1 h2 h3 h4 h5 h6 e => by cases e), fun _ => mark_low hk (h.dn rfl) (by decide)⟩
  | tellP r a w h0 h1 h2 h3 h4 h5 h6 =>
    refine Tri.allR (m := 18) (n := 127) (codeOK _) (tellP n0 n1 false i c c2 N (A 0) (A 1) (A 2) (A 3) (A 4) (A 5) (A 6) (A 7) (A 0) (A 1) (A 2) (A 3) (A 4) (A 5) (A 6) (A 7) r ts ls xs ws js a w h0 h1 h2 h3 h4 h5 h6 hx hc hN) (Tr.all_ok ⟨rfl, ht rfl, hd _ rfl, fun js => ⟨rfl, fun aa ww hat => let ⟨js', h'⟩ := at_rename (dirty' := []) (m := 18) (n := 127) rT (nid' := 10) rfl (by simp [length_junk]) rfl rfl (by rw [hE]; rfl) (by rw [hE]; decide) (by rw [hT]; decide) hat; ⟨_, h', xs.set 10 5, (.overP r a w h0 h1 h2 h3 h4 h5 h6), c + 1, js', ?_, (show (0 : Int) < 1 by decide), (show (0 : Int) ≤ 0 by decide), by omega, by omega, rfl⟩⟩⟩)
    exact ⟨by rw [List.length_set]; exact hx, (fun k hk => by rw [gne _ (by omega)]; exact h.obj k hk), (fun e => by cases e), (fun r k w h0 h1 h2 h3 h4 h5 h6 e => by cases e), fun _ => mark_low hk (h.dn rfl) (by decide)⟩
  | over r => cases hs
  | overP r a w h0 h1 h2 h3 h4 h5 h6 => cases hs
end
end Go.Proofs.Ytdongoplhnpdiaa.ShakeRoots
