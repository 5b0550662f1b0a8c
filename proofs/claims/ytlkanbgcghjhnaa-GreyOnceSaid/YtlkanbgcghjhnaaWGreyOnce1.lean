/-
  GreyOnce: a Shade's step, whichever thread it is. Printed by genGNW.py.
-/
import Derived.Test.YtlkanbgcghjhnaaWGreyOnce0
namespace Go.Proofs.Ytlkanbgcghjhnaa.GreyOnce
open Go Go.RowKit Go.Proofs.Ytlkanbgcghjhnaa.Eng
set_option linter.unusedVariables false
set_option linter.unusedSimpArgs false
set_option linter.unusedSectionVars false
set_option maxRecDepth 20000
set_option maxHeartbeats 4000000
theorem shut {E : Ctx MObj} {ps : List (List Int)} {xs ys : List Int} {c : Int} {M O : List VV} {os on oa ot : VObj MObj} {tm : List SV} {dd : List Nat} {ac : Act} {w : World} {nid : Nat} (hat : At MS E ⟨tm, [(7, some (.cells M 53)), (0, some (.rotab [.int .i64] ps)), (1, some (.abs (.mem 66 xs c 0))), (2, some (.abs (.mem 70 ys 16 0))), (3, some os), (4, some on), (5, some oa), (6, some ot)], nid, dd⟩ ac w) (h2 : wkVs M O) : At MS E ⟨tm, [(7, some (.cells O 53)), (0, some (.rotab [.int .i64] ps)), (1, some (.abs (.mem 66 xs c 0))), (2, some (.abs (.mem 70 ys 16 0))), (3, some os), (4, some on), (5, some oa), (6, some ot)], nid, []⟩ ac w :=
  at_wk2 (by exact ⟨.inr ⟨_, _, _, rfl, rfl, h2, rfl⟩, .inl rfl, .inl rfl, .inl rfl, .inl rfl, .inl rfl, .inl rfl, .inl rfl, trivial⟩) hat
theorem ren11 (np : Nat) (i : Int) : renSVs R7 (pre np i) = some (pre np i) := rfl
/-- What is known of a thread's data. -/
def WS.ok : WS → Prop
  | .idle => True
  | .sh 0 a _ _ _ _ _ _ _ _ => 96 ≤ a ∧ a < 160
  | .sh 1 a w p1 p2 p3 p4 p5 p6 p7 => (96 ≤ a ∧ a < 160) ∧ p1 = mHState w ∧ p2 = mHClass w ∧ p3 = mHCount w ∧ p6 = mHTag w
  | .sh j a _ p1 p2 p3 _ _ p6 _ => (96 ≤ a ∧ a < 160) ∧ j ≤ 4 ∧ p1 = 1 ∧ p2 = 0 ∧ p3 = 1 ∧ p6 = 0
/-- What it is at in the plain law. -/
def WS.abs : WS → GreyOnceP.PW
  | .idle => .idle
  | .sh 0 a _ _ _ _ _ _ _ _ => .rdy a
  | .sh 1 a w _ _ _ _ _ _ _ => .clm a w
  | .sh 2 a _ _ _ _ _ _ _ _ => .fst a
  | .sh 3 a w _ _ _ _ _ _ _ => .lnk a w
  | .sh _ a w _ _ _ _ _ _ _ => .lay a w
theorem word401 : mWord 1 0 1 1 1 0 0 = 401 := rfl
theorem wordL (l : Int) (h : 0 ≤ l ∧ l < 4096) : mWord 1 0 1 1 1 0 l = 401 + 4096 * l := by unfold mWord; omega
theorem ne_of_beq {a b : Int} (h : (a == b) = false) : a ≠ b := fun e => by rw [e] at h; simp at h
section
variable {ps : List (List Int)} {xs ys : List Int} {c i : Int} {np : Nat} {N : NS} {a t : Nat → Bool} {q : Nat} (hq : q < 3) (hx : xs.length = 160) (hc : 0 ≤ c ∧ c ≤ 100000) (E : Ctx MObj) (hE : E.nid0 = 1) (hT : E.top = 60) (hD : ∀ b, 1 ≤ b → E.D b)
include hq hx hc hE hT hD

theorem w_N (s : Nat → WS) (x11 x12 x13 x14 : SV) (js : Nat → SV) :
    Tri MS Try.prog E cST ⟨pre np i ++ [x11, x12, x13, x14, .v (lt q)] ++ junk js 123 16, bas ps xs ys c (upd s q WS.idle) N a t, 7, []⟩ fun x st => x = .normal ∧ ∃ Y xs' c' js, (GreyOnceP.SStep xs (WS.abs WS.idle) Y.abs xs' ∧ Y.ok ∧ xs'.length = 160) ∧ (c ≤ c' ∧ c' ≤ c + 1) ∧ st = ⟨pre np i ++ junk js 128 11, bas ps xs' ys c' (upd s q Y) N a t, 7, []⟩ := by
  refine (open1 hq E hE hT hD (m := 11) (n := 128) s WS.idle 0 .nilp (fun pre' Y xs' c' a' => pre' = pre np i ∧ (GreyOnceP.SStep xs (WS.abs WS.idle) Y.abs xs' ∧ Y.ok ∧ xs'.length = 160) ∧ (c ≤ c' ∧ c' ≤ c + 1) ∧ a' = a) (by decide) rfl (by rcases q3 hq with rfl | rfl | rfl <;> exact ⟨rfl, rfl⟩) ?_).mono ?_
  · intro vS E2 hT2 hD2
    have ht : ∀ {k : Nat}, Nat.ble k 60 = true → k ≤ E2.top := fun h => by rw [hT2]; exact Nat.le_of_ble_eq_true h
    have hdd : ∀ (l : List Nat), l.all (Nat.ble 1) = true → ∀ b, b ∈ l → E2.D b := fun l hl b hb => hD2 b (Nat.le_of_ble_eq_true (List.all_eq_true.1 hl b hb))
    rcases q3 hq with rfl | rfl | rfl
    · refine Tri.postE (Q := fun x st => x = .normal ∧ ((LS 11 128 (s0N_l0 i c np ps xs ys vS (oN N) (SO a) (SO t)) st))) (Tri.allR (m := 11) (n := 128) (codeOK _) (s0N i c np ps xs ys x11 x12 x13 x14 vS (oN N) (SO a) (SO t) js hx hc) (Tr.all_ok ⟨rfl, ht rfl, hdd _ rfl, fun js => ⟨rfl, ⟨js, rfl⟩⟩⟩)) ?_
      rintro x st aa ww ⟨rfl, hl⟩ hat
      obtain ⟨js, rfl⟩ := hl
      have k1 := hat
      exact ⟨_, k1, rfl, WS.idle, xs, c, a, .nilp, [], pre np i, js, rfl, rfl, ren11 _ _, ⟨rfl, rfl, rfl, rfl, rfl, rfl⟩, by show 7 ≤ 7; omega, rfl, ⟨.stay, trivial, hx⟩, by omega, rfl⟩
    · refine Tri.postE (Q := fun x st => x = .normal ∧ ((LS 11 128 (s1N_l0 i c np ps xs ys vS (oN N) (SO a) (SO t)) st))) (Tri.allR (m := 11) (n := 128) (codeOK _) (s1N i c np ps xs ys x11 x12 x13 x14 vS (oN N) (SO a) (SO t) js hx hc) (Tr.all_ok ⟨rfl, ht rfl, hdd _ rfl, fun js => ⟨rfl, ⟨js, rfl⟩⟩⟩)) ?_
      rintro x st aa ww ⟨rfl, hl⟩ hat
      obtain ⟨js, rfl⟩ := hl
      have k1 := hat
      exact ⟨_, k1, rfl, WS.idle, xs, c, a, .nilp, [], pre np i, js, rfl, rfl, ren11 _ _, ⟨rfl, rfl, rfl, rfl, rfl, rfl⟩, by show 7 ≤ 7; omega, rfl, ⟨.stay, trivial, hx⟩, by omega, rfl⟩
    · refine Tri.postE (Q := fun x st => x = .normal ∧ ((LS 11 128 (s2N_l0 i c np ps xs ys vS (oN N) (SO a) (SO t)) st))) (Tri.allR (m := 11) (n := 128) (codeOK _) (s2N i c np ps xs ys x11 x12 x13 x14 vS (oN N) (SO a) (SO t) js hx hc) (Tr.all_ok ⟨rfl, ht rfl, hdd _ rfl, fun js => ⟨rfl, ⟨js, rfl⟩⟩⟩)) ?_
      rintro x st aa ww ⟨rfl, hl⟩ hat
      obtain ⟨js, rfl⟩ := hl
      have k1 := hat
      exact ⟨_, k1, rfl, WS.idle, xs, c, a, .nilp, [], pre np i, js, rfl, rfl, ren11 _ _, ⟨rfl, rfl, rfl, rfl, rfl, rfl⟩, by show 7 ≤ 7; omega, rfl, ⟨.stay, trivial, hx⟩, by omega, rfl⟩
  · rintro x st ⟨rfl, Y, xs', c', a', pre', js, ⟨rfl, hK, h2, rfl⟩, rfl⟩
    exact ⟨rfl, Y, xs', c', js, hK, h2, rfl⟩
theorem w_0 (b w p1 p2 p3 p4 p5 p6 p7 : Int) (hok : WS.ok (.sh 0 b w p1 p2 p3 p4 p5 p6 p7)) (s : Nat → WS) (x11 x12 x13 x14 : SV) (js : Nat → SV) :
    Tri MS Try.prog E cST ⟨pre np i ++ [x11, x12, x13, x14, .v (lt q)] ++ junk js 123 16, bas ps xs ys c (upd s q (WS.sh 0 b w p1 p2 p3 p4 p5 p6 p7)) N a t, 7, []⟩ fun x st => x = .normal ∧ ∃ Y xs' c' js, (GreyOnceP.SStep xs (WS.abs (WS.sh 0 b w p1 p2 p3 p4 p5 p6 p7)) Y.abs xs' ∧ Y.ok ∧ xs'.length = 160) ∧ (c ≤ c' ∧ c' ≤ c + 1) ∧ st = ⟨pre np i ++ junk js 128 11, bas ps xs' ys c' (upd s q Y) N a t, 7, []⟩ := by
  refine (open1 hq E hE hT hD (m := 11) (n := 128) s (WS.sh 0 b w p1 p2 p3 p4 p5 p6 p7) 1 (.ptr 7 0) (fun pre' Y xs' c' a' => pre' = pre np i ∧ (GreyOnceP.SStep xs (WS.abs (WS.sh 0 b w p1 p2 p3 p4 p5 p6 p7)) Y.abs xs' ∧ Y.ok ∧ xs'.length = 160) ∧ (c ≤ c' ∧ c' ≤ c + 1) ∧ a' = a) (by decide) rfl (by rcases q3 hq with rfl | rfl | rfl <;> exact ⟨rfl, rfl⟩) ?_).mono ?_
  · intro vS E2 hT2 hD2
    have ht : ∀ {k : Nat}, Nat.ble k 60 = true → k ≤ E2.top := fun h => by rw [hT2]; exact Nat.le_of_ble_eq_true h
    have hdd : ∀ (l : List Nat), l.all (Nat.ble 1) = true → ∀ b, b ∈ l → E2.D b := fun l hl b hb => hD2 b (Nat.le_of_ble_eq_true (List.all_eq_true.1 hl b hb))
    rcases q3 hq with rfl | rfl | rfl
    · refine Tri.postE (Q := fun x st => x = .normal ∧ ((LS 11 128 (s0_0_l0 i c np ps xs ys vS (oN N) (SO a) (SO t) b) st ∧ (mHState (List.getD xs (Int.toNat b) 0) != 1) = true) ∨ (LS 11 128 (s0_0_l1 i c np ps xs ys vS (oN N) (SO a) (SO t) b) st ∧ (mHMark (List.getD xs (Int.toNat b) 0) == 1) = true) ∨ (LS 11 128 (s0_0_l2 i c np ps xs ys vS (oN N) (SO a) (SO t) b) st ∧ (mHState (List.getD xs (Int.toNat b) 0) != 1) = false ∧ (mHMark (List.getD xs (Int.toNat b) 0) == 1) = false))) (Tri.allR (m := 11) (n := 128) (codeOK _) (s0_0 i c np ps xs ys x11 x12 x13 x14 vS (oN N) (SO a) (SO t) b w p1 p2 p3 p4 p5 p6 p7 js hx hc (inb_iff.2 (by have := (show 96 ≤ b ∧ b < 160 from hok); rw [hx]; omega))) (Tr.all_ite (fun e0 => Tr.all_ok ⟨rfl, ht rfl, hdd _ rfl, fun js => ⟨rfl, .inl (⟨⟨js, rfl⟩, e0⟩)⟩⟩) fun e0 => Tr.all_ite (fun e1 => Tr.all_ok ⟨rfl, ht rfl, hdd _ rfl, fun js => ⟨rfl, .inr (.inl (⟨⟨js, rfl⟩, e1⟩))⟩⟩) fun e1 => Tr.all_ok ⟨rfl, ht rfl, hdd _ rfl, fun js => ⟨rfl, .inr (.inr (⟨⟨js, rfl⟩, e0, e1⟩))⟩⟩)) ?_
      rintro x st aa ww ⟨rfl, hl⟩ hat
      rcases hl with ⟨⟨js, rfl⟩, e0⟩ | ⟨⟨js, rfl⟩, e0⟩ | ⟨⟨js, rfl⟩, e0, e1⟩
      · have k1 := hat
        exact ⟨_, k1, rfl, WS.idle, xs, (c + 1), a, .nilp, [], pre np i, js, rfl, rfl, ren11 _ _, ⟨rfl, rfl, rfl, rfl, rfl, rfl⟩, by show 7 ≤ 8; omega, rfl, ⟨.over (.inl (by simpa using e0)), trivial, hx⟩, by omega, rfl⟩
      · have k1 := hat
        exact ⟨_, k1, rfl, WS.idle, xs, (c + 1), a, .nilp, [], pre np i, js, rfl, rfl, ren11 _ _, ⟨rfl, rfl, rfl, rfl, rfl, rfl⟩, by show 7 ≤ 8; omega, rfl, ⟨.over (.inr (eq_of_beq e0)), trivial, hx⟩, by omega, rfl⟩
      · have k1 := shut (O := objL (WS.sh 1 b (List.getD xs (Int.toNat b) 0) (mHState (List.getD xs (Int.toNat b) 0)) (mHClass (List.getD xs (Int.toNat b) 0)) (mHCount (List.getD xs (Int.toNat b) 0)) (mHMark (List.getD xs (Int.toNat b) 0)) (mHGrey (List.getD xs (Int.toNat b) 0)) (mHTag (List.getD xs (Int.toNat b) 0)) (mHLink (List.getD xs (Int.toNat b) 0)))) hat (by (repeat' apply And.intro) <;> first | rfl | trivial)
        exact ⟨_, k1, rfl, (WS.sh 1 b (List.getD xs (Int.toNat b) 0) (mHState (List.getD xs (Int.toNat b) 0)) (mHClass (List.getD xs (Int.toNat b) 0)) (mHCount (List.getD xs (Int.toNat b) 0)) (mHMark (List.getD xs (Int.toNat b) 0)) (mHGrey (List.getD xs (Int.toNat b) 0)) (mHTag (List.getD xs (Int.toNat b) 0)) (mHLink (List.getD xs (Int.toNat b) 0))), xs, (c + 1), a, (.ptr 7 0), [(7, bq 0)], pre np i, js, rfl, rfl, ren11 _ _, ⟨rfl, rfl, rfl, rfl, rfl, rfl⟩, by show 7 ≤ 8; omega, rfl, ⟨.load (by simpa using e0) (ne_of_beq e1), ⟨hok, rfl, rfl, rfl, rfl⟩, hx⟩, by omega, rfl⟩
    · refine Tri.postE (Q := fun x st => x = .normal ∧ ((LS 11 128 (s1_0_l0 i c np ps xs ys vS (oN N) (SO a) (SO t) b) st ∧ (mHState (List.getD xs (Int.toNat b) 0) != 1) = true) ∨ (LS 11 128 (s1_0_l1 i c np ps xs ys vS (oN N) (SO a) (SO t) b) st ∧ (mHMark (List.getD xs (Int.toNat b) 0) == 1) = true) ∨ (LS 11 128 (s1_0_l2 i c np ps xs ys vS (oN N) (SO a) (SO t) b) st ∧ (mHState (List.getD xs (Int.toNat b) 0) != 1) = false ∧ (mHMark (List.getD xs (Int.toNat b) 0) == 1) = false))) (Tri.allR (m := 11) (n := 128) (codeOK _) (s1_0 i c np ps xs ys x11 x12 x13 x14 vS (oN N) (SO a) (SO t) b w p1 p2 p3 p4 p5 p6 p7 js hx hc (inb_iff.2 (by have := (show 96 ≤ b ∧ b < 160 from hok); rw [hx]; omega))) (Tr.all_ite (fun e0 => Tr.all_ok ⟨rfl, ht rfl, hdd _ rfl, fun js => ⟨rfl, .inl (⟨⟨js, rfl⟩, e0⟩)⟩⟩) fun e0 => Tr.all_ite (fun e1 => Tr.all_ok ⟨rfl, ht rfl, hdd _ rfl, fun js => ⟨rfl, .inr (.inl (⟨⟨js, rfl⟩, e1⟩))⟩⟩) fun e1 => Tr.all_ok ⟨rfl, ht rfl, hdd _ rfl, fun js => ⟨rfl, .inr (.inr (⟨⟨js, rfl⟩, e0, e1⟩))⟩⟩)) ?_
      rintro x st aa ww ⟨rfl, hl⟩ hat
      rcases hl with ⟨⟨js, rfl⟩, e0⟩ | ⟨⟨js, rfl⟩, e0⟩ | ⟨⟨js, rfl⟩, e0, e1⟩
      · have k1 := hat
        exact ⟨_, k1, rfl, WS.idle, xs, (c + 1), a, .nilp, [], pre np i, js, rfl, rfl, ren11 _ _, ⟨rfl, rfl, rfl, rfl, rfl, rfl⟩, by show 7 ≤ 8; omega, rfl, ⟨.over (.inl (by simpa using e0)), trivial, hx⟩, by omega, rfl⟩
      · have k1 := hat
        exact ⟨_, k1, rfl, WS.idle, xs, (c + 1), a, .nilp, [], pre np i, js, rfl, rfl, ren11 _ _, ⟨rfl, rfl, rfl, rfl, rfl, rfl⟩, by show 7 ≤ 8; omega, rfl, ⟨.over (.inr (eq_of_beq e0)), trivial, hx⟩, by omega, rfl⟩
      · have k1 := shut (O := objL (WS.sh 1 b (List.getD xs (Int.toNat b) 0) (mHState (List.getD xs (Int.toNat b) 0)) (mHClass (List.getD xs (Int.toNat b) 0)) (mHCount (List.getD xs (Int.toNat b) 0)) (mHMark (List.getD xs (Int.toNat b) 0)) (mHGrey (List.getD xs (Int.toNat b) 0)) (mHTag (List.getD xs (Int.toNat b) 0)) (mHLink (List.getD xs (Int.toNat b) 0)))) hat (by (repeat' apply And.intro) <;> first | rfl | trivial)
        exact ⟨_, k1, rfl, (WS.sh 1 b (List.getD xs (Int.toNat b) 0) (mHState (List.getD xs (Int.toNat b) 0)) (mHClass (List.getD xs (Int.toNat b) 0)) (mHCount (List.getD xs (Int.toNat b) 0)) (mHMark (List.getD xs (Int.toNat b) 0)) (mHGrey (List.getD xs (Int.toNat b) 0)) (mHTag (List.getD xs (Int.toNat b) 0)) (mHLink (List.getD xs (Int.toNat b) 0))), xs, (c + 1), a, (.ptr 7 0), [(7, bq 1)], pre np i, js, rfl, rfl, ren11 _ _, ⟨rfl, rfl, rfl, rfl, rfl, rfl⟩, by show 7 ≤ 8; omega, rfl, ⟨.load (by simpa using e0) (ne_of_beq e1), ⟨hok, rfl, rfl, rfl, rfl⟩, hx⟩, by omega, rfl⟩
    · refine Tri.postE (Q := fun x st => x = .normal ∧ ((LS 11 128 (s2_0_l0 i c np ps xs ys vS (oN N) (SO a) (SO t) b) st ∧ (mHState (List.getD xs (Int.toNat b) 0) != 1) = true) ∨ (LS 11 128 (s2_0_l1 i c np ps xs ys vS (oN N) (SO a) (SO t) b) st ∧ (mHMark (List.getD xs (Int.toNat b) 0) == 1) = true) ∨ (LS 11 128 (s2_0_l2 i c np ps xs ys vS (oN N) (SO a) (SO t) b) st ∧ (mHState (List.getD xs (Int.toNat b) 0) != 1) = false ∧ (mHMark (List.getD xs (Int.toNat b) 0) == 1) = false))) (Tri.allR (m := 11) (n := 128) (codeOK _) (s2_0 i c np ps xs ys x11 x12 x13 x14 vS (oN N) (SO a) (SO t) b w p1 p2 p3 p4 p5 p6 p7 js hx hc (inb_iff.2 (by have := (show 96 ≤ b ∧ b < 160 from hok); rw [hx]; omega))) (Tr.all_ite (fun e0 => Tr.all_ok ⟨rfl, ht rfl, hdd _ rfl, fun js => ⟨rfl, .inl (⟨⟨js, rfl⟩, e0⟩)⟩⟩) fun e0 => Tr.all_ite (fun e1 => Tr.all_ok ⟨rfl, ht rfl, hdd _ rfl, fun js => ⟨rfl, .inr (.inl (⟨⟨js, rfl⟩, e1⟩))⟩⟩) fun e1 => Tr.all_ok ⟨rfl, ht rfl, hdd _ rfl, fun js => ⟨rfl, .inr (.inr (⟨⟨js, rfl⟩, e0, e1⟩))⟩⟩)) ?_
      rintro x st aa ww ⟨rfl, hl⟩ hat
      rcases hl with ⟨⟨js, rfl⟩, e0⟩ | ⟨⟨js, rfl⟩, e0⟩ | ⟨⟨js, rfl⟩, e0, e1⟩
      · have k1 := hat
        exact ⟨_, k1, rfl, WS.idle, xs, (c + 1), a, .nilp, [], pre np i, js, rfl, rfl, ren11 _ _, ⟨rfl, rfl, rfl, rfl, rfl, rfl⟩, by show 7 ≤ 8; omega, rfl, ⟨.over (.inl (by simpa using e0)), trivial, hx⟩, by omega, rfl⟩
      · have k1 := hat
        exact ⟨_, k1, rfl, WS.idle, xs, (c + 1), a, .nilp, [], pre np i, js, rfl, rfl, ren11 _ _, ⟨rfl, rfl, rfl, rfl, rfl, rfl⟩, by show 7 ≤ 8; omega, rfl, ⟨.over (.inr (eq_of_beq e0)), trivial, hx⟩, by omega, rfl⟩
      · have k1 := shut (O := objL (WS.sh 1 b (List.getD xs (Int.toNat b) 0) (mHState (List.getD xs (Int.toNat b) 0)) (mHClass (List.getD xs (Int.toNat b) 0)) (mHCount (List.getD xs (Int.toNat b) 0)) (mHMark (List.getD xs (Int.toNat b) 0)) (mHGrey (List.getD xs (Int.toNat b) 0)) (mHTag (List.getD xs (Int.toNat b) 0)) (mHLink (List.getD xs (Int.toNat b) 0)))) hat (by (repeat' apply And.intro) <;> first | rfl | trivial)
        exact ⟨_, k1, rfl, (WS.sh 1 b (List.getD xs (Int.toNat b) 0) (mHState (List.getD xs (Int.toNat b) 0)) (mHClass (List.getD xs (Int.toNat b) 0)) (mHCount (List.getD xs (Int.toNat b) 0)) (mHMark (List.getD xs (Int.toNat b) 0)) (mHGrey (List.getD xs (Int.toNat b) 0)) (mHTag (List.getD xs (Int.toNat b) 0)) (mHLink (List.getD xs (Int.toNat b) 0))), xs, (c + 1), a, (.ptr 7 0), [(7, bq 2)], pre np i, js, rfl, rfl, ren11 _ _, ⟨rfl, rfl, rfl, rfl, rfl, rfl⟩, by show 7 ≤ 8; omega, rfl, ⟨.load (by simpa using e0) (ne_of_beq e1), ⟨hok, rfl, rfl, rfl, rfl⟩, hx⟩, by omega, rfl⟩
  · rintro x st ⟨rfl, Y, xs', c', a', pre', js, ⟨rfl, hK, h2, rfl⟩, rfl⟩
    exact ⟨rfl, Y, xs', c', js, hK, h2, rfl⟩
theorem w_1 (b w p1 p2 p3 p4 p5 p6 p7 : Int) (hok : WS.ok (.sh 1 b w p1 p2 p3 p4 p5 p6 p7)) (hw : w = 17) (s : Nat → WS) (x11 x12 x13 x14 : SV) (js : Nat → SV) :
    Tri MS Try.prog E cST ⟨pre np i ++ [x11, x12, x13, x14, .v (lt q)] ++ junk js 123 16, bas ps xs ys c (upd s q (WS.sh 1 b w p1 p2 p3 p4 p5 p6 p7)) N a t, 7, []⟩ fun x st => x = .normal ∧ ∃ Y xs' c' js, (GreyOnceP.SStep xs (WS.abs (WS.sh 1 b w p1 p2 p3 p4 p5 p6 p7)) Y.abs xs' ∧ Y.ok ∧ xs'.length = 160) ∧ (c ≤ c' ∧ c' ≤ c + 1) ∧ st = ⟨pre np i ++ junk js 128 11, bas ps xs' ys c' (upd s q Y) N a t, 7, []⟩ := by
  refine (open1 hq E hE hT hD (m := 11) (n := 128) s (WS.sh 1 b w p1 p2 p3 p4 p5 p6 p7) 1 (.ptr 7 0) (fun pre' Y xs' c' a' => pre' = pre np i ∧ (GreyOnceP.SStep xs (WS.abs (WS.sh 1 b w p1 p2 p3 p4 p5 p6 p7)) Y.abs xs' ∧ Y.ok ∧ xs'.length = 160) ∧ (c ≤ c' ∧ c' ≤ c + 1) ∧ a' = a) (by decide) rfl (by rcases q3 hq with rfl | rfl | rfl <;> exact ⟨rfl, rfl⟩) ?_).mono ?_
  · intro vS E2 hT2 hD2
    have ht : ∀ {k : Nat}, Nat.ble k 60 = true → k ≤ E2.top := fun h => by rw [hT2]; exact Nat.le_of_ble_eq_true h
    have hdd : ∀ (l : List Nat), l.all (Nat.ble 1) = true → ∀ b, b ∈ l → E2.D b := fun l hl b hb => hD2 b (Nat.le_of_ble_eq_true (List.all_eq_true.1 hl b hb))
    rcases q3 hq with rfl | rfl | rfl
    · refine Tri.postE (Q := fun x st => x = .normal ∧ ((LS 11 128 (s0_1_l0 i c np ps xs ys vS (oN N) (SO a) (SO t) b w p1 p2 p3 p4 p5 p6) st ∧ ((List.getD xs (Int.toNat b) 0) == w) = true) ∨ (LS 11 128 (s0_1_l1 i c np ps xs ys vS (oN N) (SO a) (SO t) b w p1 p2 p3 p4 p5 p6) st ∧ ((List.getD xs (Int.toNat b) 0) == w) = false))) (Tri.allR (m := 11) (n := 128) (codeOK _) (s0_1 i c np ps xs ys x11 x12 x13 x14 vS (oN N) (SO a) (SO t) b w p1 p2 p3 p4 p5 p6 p7 js hx hc (inb_iff.2 (by have := (show (96 ≤ b ∧ b < 160) ∧ _ from hok).1; rw [hx]; omega))) (Tr.all_ite (fun e0 => Tr.all_ok ⟨rfl, ht rfl, hdd _ rfl, fun js => ⟨rfl, .inl (⟨⟨js, rfl⟩, e0⟩)⟩⟩) fun e0 => Tr.all_ok ⟨rfl, ht rfl, hdd _ rfl, fun js => ⟨rfl, .inr (⟨⟨js, rfl⟩, e0⟩)⟩⟩)) ?_
      rintro x st aa ww ⟨rfl, hl⟩ hat
      rcases hl with ⟨⟨js, rfl⟩, e0⟩ | ⟨⟨js, rfl⟩, e0⟩
      · have k1 := shut (O := objL (WS.sh 2 b w p1 p2 p3 p4 p5 p6 0)) hat (by (repeat' apply And.intro) <;> first | rfl | trivial)
        exact ⟨_, k1, rfl, (WS.sh 2 b w p1 p2 p3 p4 p5 p6 0), (List.set xs (Int.toNat b) (mWord p1 p2 p3 1 1 p6 0)), (c + 1), a, (.ptr 7 0), [(7, bq 0)], pre np i, js, rfl, rfl, ren11 _ _, ⟨rfl, rfl, rfl, rfl, rfl, rfl⟩, by show 7 ≤ 9; omega, rfl, by obtain ⟨h0, h1, h2, h3, h4⟩ := hok; subst hw h1 h2 h3 h4; exact ⟨.claim (eq_of_beq e0), ⟨h0, by decide, rfl, rfl, rfl, rfl⟩, by rw [List.length_set]; exact hx⟩, by omega, rfl⟩
      · have k1 := shut (O := objL (WS.sh 0 b w p1 p2 p3 p4 p5 p6 0)) hat (by (repeat' apply And.intro) <;> first | rfl | trivial)
        exact ⟨_, k1, rfl, (WS.sh 0 b w p1 p2 p3 p4 p5 p6 0), xs, (c + 1), a, (.ptr 7 0), [(7, bq 0)], pre np i, js, rfl, rfl, ren11 _ _, ⟨rfl, rfl, rfl, rfl, rfl, rfl⟩, by show 7 ≤ 9; omega, rfl, ⟨.fail (ne_of_beq e0), hok.1, hx⟩, by omega, rfl⟩
    · refine Tri.postE (Q := fun x st => x = .normal ∧ ((LS 11 128 (s1_1_l0 i c np ps xs ys vS (oN N) (SO a) (SO t) b w p1 p2 p3 p4 p5 p6) st ∧ ((List.getD xs (Int.toNat b) 0) == w) = true) ∨ (LS 11 128 (s1_1_l1 i c np ps xs ys vS (oN N) (SO a) (SO t) b w p1 p2 p3 p4 p5 p6) st ∧ ((List.getD xs (Int.toNat b) 0) == w) = false))) (Tri.allR (m := 11) (n := 128) (codeOK _) (s1_1 i c np ps xs ys x11 x12 x13 x14 vS (oN N) (SO a) (SO t) b w p1 p2 p3 p4 p5 p6 p7 js hx hc (inb_iff.2 (by have := (show (96 ≤ b ∧ b < 160) ∧ _ from hok).1; rw [hx]; omega))) (Tr.all_ite (fun e0 => Tr.all_ok ⟨rfl, ht rfl, hdd _ rfl, fun js => ⟨rfl, .inl (⟨⟨js, rfl⟩, e0⟩)⟩⟩) fun e0 => Tr.all_ok ⟨rfl, ht rfl, hdd _ rfl, fun js => ⟨rfl, .inr (⟨⟨js, rfl⟩, e0⟩)⟩⟩)) ?_
      rintro x st aa ww ⟨rfl, hl⟩ hat
      rcases hl with ⟨⟨js, rfl⟩, e0⟩ | ⟨⟨js, rfl⟩, e0⟩
      · have k1 := shut (O := objL (WS.sh 2 b w p1 p2 p3 p4 p5 p6 0)) hat (by (repeat' apply And.intro) <;> first | rfl | trivial)
        exact ⟨_, k1, rfl, (WS.sh 2 b w p1 p2 p3 p4 p5 p6 0), (List.set xs (Int.toNat b) (mWord p1 p2 p3 1 1 p6 0)), (c + 1), a, (.ptr 7 0), [(7, bq 1)], pre np i, js, rfl, rfl, ren11 _ _, ⟨rfl, rfl, rfl, rfl, rfl, rfl⟩, by show 7 ≤ 9; omega, rfl, by obtain ⟨h0, h1, h2, h3, h4⟩ := hok; subst hw h1 h2 h3 h4; exact ⟨.claim (eq_of_beq e0), ⟨h0, by decide, rfl, rfl, rfl, rfl⟩, by rw [List.length_set]; exact hx⟩, by omega, rfl⟩
      · have k1 := shut (O := objL (WS.sh 0 b w p1 p2 p3 p4 p5 p6 0)) hat (by (repeat' apply And.intro) <;> first | rfl | trivial)
        exact ⟨_, k1, rfl, (WS.sh 0 b w p1 p2 p3 p4 p5 p6 0), xs, (c + 1), a, (.ptr 7 0), [(7, bq 1)], pre np i, js, rfl, rfl, ren11 _ _, ⟨rfl, rfl, rfl, rfl, rfl, rfl⟩, by show 7 ≤ 9; omega, rfl, ⟨.fail (ne_of_beq e0), hok.1, hx⟩, by omega, rfl⟩
    · refine Tri.postE (Q := fun x st => x = .normal ∧ ((LS 11 128 (s2_1_l0 i c np ps xs ys vS (oN N) (SO a) (SO t) b w p1 p2 p3 p4 p5 p6) st ∧ ((List.getD xs (Int.toNat b) 0) == w) = true) ∨ (LS 11 128 (s2_1_l1 i c np ps xs ys vS (oN N) (SO a) (SO t) b w p1 p2 p3 p4 p5 p6) st ∧ ((List.getD xs (Int.toNat b) 0) == w) = false))) (Tri.allR (m := 11) (n := 128) (codeOK _) (s2_1 i c np ps xs ys x11 x12 x13 x14 vS (oN N) (SO a) (SO t) b w p1 p2 p3 p4 p5 p6 p7 js hx hc (inb_iff.2 (by have := (show (96 ≤ b ∧ b < 160) ∧ _ from hok).1; rw [hx]; omega))) (Tr.all_ite (fun e0 => Tr.all_ok ⟨rfl, ht rfl, hdd _ rfl, fun js => ⟨rfl, .inl (⟨⟨js, rfl⟩, e0⟩)⟩⟩) fun e0 => Tr.all_ok ⟨rfl, ht rfl, hdd _ rfl, fun js => ⟨rfl, .inr (⟨⟨js, rfl⟩, e0⟩)⟩⟩)) ?_
      rintro x st aa ww ⟨rfl, hl⟩ hat
      rcases hl with ⟨⟨js, rfl⟩, e0⟩ | ⟨⟨js, rfl⟩, e0⟩
      · have k1 := shut (O := objL (WS.sh 2 b w p1 p2 p3 p4 p5 p6 0)) hat (by (repeat' apply And.intro) <;> first | rfl | trivial)
        exact ⟨_, k1, rfl, (WS.sh 2 b w p1 p2 p3 p4 p5 p6 0), (List.set xs (Int.toNat b) (mWord p1 p2 p3 1 1 p6 0)), (c + 1), a, (.ptr 7 0), [(7, bq 2)], pre np i, js, rfl, rfl, ren11 _ _, ⟨rfl, rfl, rfl, rfl, rfl, rfl⟩, by show 7 ≤ 9; omega, rfl, by obtain ⟨h0, h1, h2, h3, h4⟩ := hok; subst hw h1 h2 h3 h4; exact ⟨.claim (eq_of_beq e0), ⟨h0, by decide, rfl, rfl, rfl, rfl⟩, by rw [List.length_set]; exact hx⟩, by omega, rfl⟩
      · have k1 := shut (O := objL (WS.sh 0 b w p1 p2 p3 p4 p5 p6 0)) hat (by (repeat' apply And.intro) <;> first | rfl | trivial)
        exact ⟨_, k1, rfl, (WS.sh 0 b w p1 p2 p3 p4 p5 p6 0), xs, (c + 1), a, (.ptr 7 0), [(7, bq 2)], pre np i, js, rfl, rfl, ren11 _ _, ⟨rfl, rfl, rfl, rfl, rfl, rfl⟩, by show 7 ≤ 9; omega, rfl, ⟨.fail (ne_of_beq e0), hok.1, hx⟩, by omega, rfl⟩
  · rintro x st ⟨rfl, Y, xs', c', a', pre', js, ⟨rfl, hK, h2, rfl⟩, rfl⟩
    exact ⟨rfl, Y, xs', c', js, hK, h2, rfl⟩
theorem w_2 (b w p1 p2 p3 p4 p5 p6 p7 : Int) (hok : WS.ok (.sh 2 b w p1 p2 p3 p4 p5 p6 p7)) (s : Nat → WS) (x11 x12 x13 x14 : SV) (js : Nat → SV) :
    Tri MS Try.prog E cST ⟨pre np i ++ [x11, x12, x13, x14, .v (lt q)] ++ junk js 123 16, bas ps xs ys c (upd s q (WS.sh 2 b w p1 p2 p3 p4 p5 p6 p7)) N a t, 7, []⟩ fun x st => x = .normal ∧ ∃ Y xs' c' js, (GreyOnceP.SStep xs (WS.abs (WS.sh 2 b w p1 p2 p3 p4 p5 p6 p7)) Y.abs xs' ∧ Y.ok ∧ xs'.length = 160) ∧ (c ≤ c' ∧ c' ≤ c + 1) ∧ st = ⟨pre np i ++ junk js 128 11, bas ps xs' ys c' (upd s q Y) N a t, 7, []⟩ := by
  refine (open1 hq E hE hT hD (m := 11) (n := 128) s (WS.sh 2 b w p1 p2 p3 p4 p5 p6 p7) 1 (.ptr 7 0) (fun pre' Y xs' c' a' => pre' = pre np i ∧ (GreyOnceP.SStep xs (WS.abs (WS.sh 2 b w p1 p2 p3 p4 p5 p6 p7)) Y.abs xs' ∧ Y.ok ∧ xs'.length = 160) ∧ (c ≤ c' ∧ c' ≤ c + 1) ∧ a' = a) (by decide) rfl (by rcases q3 hq with rfl | rfl | rfl <;> exact ⟨rfl, rfl⟩) ?_).mono ?_
  · intro vS E2 hT2 hD2
    have ht : ∀ {k : Nat}, Nat.ble k 60 = true → k ≤ E2.top := fun h => by rw [hT2]; exact Nat.le_of_ble_eq_true h
    have hdd : ∀ (l : List Nat), l.all (Nat.ble 1) = true → ∀ b, b ∈ l → E2.D b := fun l hl b hb => hD2 b (Nat.le_of_ble_eq_true (List.all_eq_true.1 hl b hb))
    rcases q3 hq with rfl | rfl | rfl
    · refine Tri.postE (Q := fun x st => x = .normal ∧ ((LS 11 128 (s0_2_l0 i c np ps xs ys vS (oN N) (SO a) (SO t) b p1 p2 p3 p4 p5 p6 p7) st))) (Tri.allR (m := 11) (n := 128) (codeOK _) (s0_2 i c np ps xs ys x11 x12 x13 x14 vS (oN N) (SO a) (SO t) b w p1 p2 p3 p4 p5 p6 p7 js hx hc (inb_iff.2 (by have := (show (96 ≤ b ∧ b < 160) ∧ _ from hok).1; rw [hx]; omega))) (Tr.all_ok ⟨rfl, ht rfl, hdd _ rfl, fun js => ⟨rfl, ⟨js, rfl⟩⟩⟩)) ?_
      rintro x st aa ww ⟨rfl, hl⟩ hat
      obtain ⟨js, rfl⟩ := hl
      have k1 := shut (O := objL (WS.sh 3 b (List.getD xs 1 0) p1 p2 p3 p4 p5 p6 p7)) hat (by (repeat' apply And.intro) <;> first | rfl | trivial)
      exact ⟨_, k1, rfl, (WS.sh 3 b (List.getD xs 1 0) p1 p2 p3 p4 p5 p6 p7), xs, (c + 1), a, (.ptr 7 0), [(7, bq 0)], pre np i, js, rfl, rfl, ren11 _ _, ⟨rfl, rfl, rfl, rfl, rfl, rfl⟩, by show 7 ≤ 8; omega, rfl, ⟨.first, ⟨hok.1, by decide, hok.2.2⟩, hx⟩, by omega, rfl⟩
    · refine Tri.postE (Q := fun x st => x = .normal ∧ ((LS 11 128 (s1_2_l0 i c np ps xs ys vS (oN N) (SO a) (SO t) b p1 p2 p3 p4 p5 p6 p7) st))) (Tri.allR (m := 11) (n := 128) (codeOK _) (s1_2 i c np ps xs ys x11 x12 x13 x14 vS (oN N) (SO a) (SO t) b w p1 p2 p3 p4 p5 p6 p7 js hx hc (inb_iff.2 (by have := (show (96 ≤ b ∧ b < 160) ∧ _ from hok).1; rw [hx]; omega))) (Tr.all_ok ⟨rfl, ht rfl, hdd _ rfl, fun js => ⟨rfl, ⟨js, rfl⟩⟩⟩)) ?_
      rintro x st aa ww ⟨rfl, hl⟩ hat
      obtain ⟨js, rfl⟩ := hl
      have k1 := shut (O := objL (WS.sh 3 b (List.getD xs 1 0) p1 p2 p3 p4 p5 p6 p7)) hat (by (repeat' apply And.intro) <;> first | rfl | trivial)
      exact ⟨_, k1, rfl, (WS.sh 3 b (List.getD xs 1 0) p1 p2 p3 p4 p5 p6 p7), xs, (c + 1), a, (.ptr 7 0), [(7, bq 1)], pre np i, js, rfl, rfl, ren11 _ _, ⟨rfl, rfl, rfl, rfl, rfl, rfl⟩, by show 7 ≤ 8; omega, rfl, ⟨.first, ⟨hok.1, by decide, hok.2.2⟩, hx⟩, by omega, rfl⟩
    · refine Tri.postE (Q := fun x st => x = .normal ∧ ((LS 11 128 (s2_2_l0 i c np ps xs ys vS (oN N) (SO a) (SO t) b p1 p2 p3 p4 p5 p6 p7) st))) (Tri.allR (m := 11) (n := 128) (codeOK _) (s2_2 i c np ps xs ys x11 x12 x13 x14 vS (oN N) (SO a) (SO t) b w p1 p2 p3 p4 p5 p6 p7 js hx hc (inb_iff.2 (by have := (show (96 ≤ b ∧ b < 160) ∧ _ from hok).1; rw [hx]; omega))) (Tr.all_ok ⟨rfl, ht rfl, hdd _ rfl, fun js => ⟨rfl, ⟨js, rfl⟩⟩⟩)) ?_
      rintro x st aa ww ⟨rfl, hl⟩ hat
      obtain ⟨js, rfl⟩ := hl
      have k1 := shut (O := objL (WS.sh 3 b (List.getD xs 1 0) p1 p2 p3 p4 p5 p6 p7)) hat (by (repeat' apply And.intro) <;> first | rfl | trivial)
      exact ⟨_, k1, rfl, (WS.sh 3 b (List.getD xs 1 0) p1 p2 p3 p4 p5 p6 p7), xs, (c + 1), a, (.ptr 7 0), [(7, bq 2)], pre np i, js, rfl, rfl, ren11 _ _, ⟨rfl, rfl, rfl, rfl, rfl, rfl⟩, by show 7 ≤ 8; omega, rfl, ⟨.first, ⟨hok.1, by decide, hok.2.2⟩, hx⟩, by omega, rfl⟩
  · rintro x st ⟨rfl, Y, xs', c', a', pre', js, ⟨rfl, hK, h2, rfl⟩, rfl⟩
    exact ⟨rfl, Y, xs', c', js, hK, h2, rfl⟩
theorem w_3 (b w p1 p2 p3 p4 p5 p6 p7 : Int) (hok : WS.ok (.sh 3 b w p1 p2 p3 p4 p5 p6 p7)) (s : Nat → WS) (x11 x12 x13 x14 : SV) (js : Nat → SV) :
    Tri MS Try.prog E cST ⟨pre np i ++ [x11, x12, x13, x14, .v (lt q)] ++ junk js 123 16, bas ps xs ys c (upd s q (WS.sh 3 b w p1 p2 p3 p4 p5 p6 p7)) N a t, 7, []⟩ fun x st => x = .normal ∧ ∃ Y xs' c' js, (GreyOnceP.SStep xs (WS.abs (WS.sh 3 b w p1 p2 p3 p4 p5 p6 p7)) Y.abs xs' ∧ Y.ok ∧ xs'.length = 160) ∧ (c ≤ c' ∧ c' ≤ c + 1) ∧ st = ⟨pre np i ++ junk js 128 11, bas ps xs' ys c' (upd s q Y) N a t, 7, []⟩ := by
  refine (open1 hq E hE hT hD (m := 11) (n := 128) s (WS.sh 3 b w p1 p2 p3 p4 p5 p6 p7) 1 (.ptr 7 0) (fun pre' Y xs' c' a' => pre' = pre np i ∧ (GreyOnceP.SStep xs (WS.abs (WS.sh 3 b w p1 p2 p3 p4 p5 p6 p7)) Y.abs xs' ∧ Y.ok ∧ xs'.length = 160) ∧ (c ≤ c' ∧ c' ≤ c + 1) ∧ a' = a) (by decide) rfl (by rcases q3 hq with rfl | rfl | rfl <;> exact ⟨rfl, rfl⟩) ?_).mono ?_
  · intro vS E2 hT2 hD2
    have ht : ∀ {k : Nat}, Nat.ble k 60 = true → k ≤ E2.top := fun h => by rw [hT2]; exact Nat.le_of_ble_eq_true h
    have hdd : ∀ (l : List Nat), l.all (Nat.ble 1) = true → ∀ b, b ∈ l → E2.D b := fun l hl b hb => hD2 b (Nat.le_of_ble_eq_true (List.all_eq_true.1 hl b hb))
    rcases q3 hq with rfl | rfl | rfl
    · refine Tri.postE (Q := fun x st => x = .normal ∧ ((LS 11 128 (s0_3_l0 i c np ps xs ys vS (oN N) (SO a) (SO t) b w p1 p2 p3 p4 p5 p6) st))) (Tri.allR (m := 11) (n := 128) (codeOK _) (s0_3 i c np ps xs ys x11 x12 x13 x14 vS (oN N) (SO a) (SO t) b w p1 p2 p3 p4 p5 p6 p7 js hx hc (inb_iff.2 (by have := (show (96 ≤ b ∧ b < 160) ∧ _ from hok).1; rw [hx]; omega))) (Tr.all_ok ⟨rfl, ht rfl, hdd _ rfl, fun js => ⟨rfl, ⟨js, rfl⟩⟩⟩)) ?_
      rintro x st aa ww ⟨rfl, hl⟩ hat
      obtain ⟨js, rfl⟩ := hl
      have k1 := shut (O := objL (WS.sh 4 b w p1 p2 p3 p4 p5 p6 (mAt w))) hat (by (repeat' apply And.intro) <;> first | rfl | trivial)
      exact ⟨_, k1, rfl, (WS.sh 4 b w p1 p2 p3 p4 p5 p6 (mAt w)), (List.set xs (Int.toNat b) (mWord p1 p2 p3 1 1 p6 (mAt w))), (c + 1), a, (.ptr 7 0), [(7, bq 0)], pre np i, js, rfl, rfl, ren11 _ _, ⟨rfl, rfl, rfl, rfl, rfl, rfl⟩, by show 7 ≤ 9; omega, rfl, by obtain ⟨h0, h5, h1, h2, h3, h4⟩ := hok; subst h1 h2 h3 h4; rw [wordL _ (GreyOnceP.mAt_rng w)]; exact ⟨.link, ⟨h0, by decide, rfl, rfl, rfl, rfl⟩, by rw [List.length_set]; exact hx⟩, by omega, rfl⟩
    · refine Tri.postE (Q := fun x st => x = .normal ∧ ((LS 11 128 (s1_3_l0 i c np ps xs ys vS (oN N) (SO a) (SO t) b w p1 p2 p3 p4 p5 p6) st))) (Tri.allR (m := 11) (n := 128) (codeOK _) (s1_3 i c np ps xs ys x11 x12 x13 x14 vS (oN N) (SO a) (SO t) b w p1 p2 p3 p4 p5 p6 p7 js hx hc (inb_iff.2 (by have := (show (96 ≤ b ∧ b < 160) ∧ _ from hok).1; rw [hx]; omega))) (Tr.all_ok ⟨rfl, ht rfl, hdd _ rfl, fun js => ⟨rfl, ⟨js, rfl⟩⟩⟩)) ?_
      rintro x st aa ww ⟨rfl, hl⟩ hat
      obtain ⟨js, rfl⟩ := hl
      have k1 := shut (O := objL (WS.sh 4 b w p1 p2 p3 p4 p5 p6 (mAt w))) hat (by (repeat' apply And.intro) <;> first | rfl | trivial)
      exact ⟨_, k1, rfl, (WS.sh 4 b w p1 p2 p3 p4 p5 p6 (mAt w)), (List.set xs (Int.toNat b) (mWord p1 p2 p3 1 1 p6 (mAt w))), (c + 1), a, (.ptr 7 0), [(7, bq 1)], pre np i, js, rfl, rfl, ren11 _ _, ⟨rfl, rfl, rfl, rfl, rfl, rfl⟩, by show 7 ≤ 9; omega, rfl, by obtain ⟨h0, h5, h1, h2, h3, h4⟩ := hok; subst h1 h2 h3 h4; rw [wordL _ (GreyOnceP.mAt_rng w)]; exact ⟨.link, ⟨h0, by decide, rfl, rfl, rfl, rfl⟩, by rw [List.length_set]; exact hx⟩, by omega, rfl⟩
    · refine Tri.postE (Q := fun x st => x = .normal ∧ ((LS 11 128 (s2_3_l0 i c np ps xs ys vS (oN N) (SO a) (SO t) b w p1 p2 p3 p4 p5 p6) st))) (Tri.allR (m := 11) (n := 128) (codeOK _) (s2_3 i c np ps xs ys x11 x12 x13 x14 vS (oN N) (SO a) (SO t) b w p1 p2 p3 p4 p5 p6 p7 js hx hc (inb_iff.2 (by have := (show (96 ≤ b ∧ b < 160) ∧ _ from hok).1; rw [hx]; omega))) (Tr.all_ok ⟨rfl, ht rfl, hdd _ rfl, fun js => ⟨rfl, ⟨js, rfl⟩⟩⟩)) ?_
      rintro x st aa ww ⟨rfl, hl⟩ hat
      obtain ⟨js, rfl⟩ := hl
      have k1 := shut (O := objL (WS.sh 4 b w p1 p2 p3 p4 p5 p6 (mAt w))) hat (by (repeat' apply And.intro) <;> first | rfl | trivial)
      exact ⟨_, k1, rfl, (WS.sh 4 b w p1 p2 p3 p4 p5 p6 (mAt w)), (List.set xs (Int.toNat b) (mWord p1 p2 p3 1 1 p6 (mAt w))), (c + 1), a, (.ptr 7 0), [(7, bq 2)], pre np i, js, rfl, rfl, ren11 _ _, ⟨rfl, rfl, rfl, rfl, rfl, rfl⟩, by show 7 ≤ 9; omega, rfl, by obtain ⟨h0, h5, h1, h2, h3, h4⟩ := hok; subst h1 h2 h3 h4; rw [wordL _ (GreyOnceP.mAt_rng w)]; exact ⟨.link, ⟨h0, by decide, rfl, rfl, rfl, rfl⟩, by rw [List.length_set]; exact hx⟩, by omega, rfl⟩
  · rintro x st ⟨rfl, Y, xs', c', a', pre', js, ⟨rfl, hK, h2, rfl⟩, rfl⟩
    exact ⟨rfl, Y, xs', c', js, hK, h2, rfl⟩
theorem w_4 (b w p1 p2 p3 p4 p5 p6 p7 : Int) (hok : WS.ok (.sh 4 b w p1 p2 p3 p4 p5 p6 p7)) (s : Nat → WS) (x11 x12 x13 x14 : SV) (js : Nat → SV) :
    Tri MS Try.prog E cST ⟨pre np i ++ [x11, x12, x13, x14, .v (lt q)] ++ junk js 123 16, bas ps xs ys c (upd s q (WS.sh 4 b w p1 p2 p3 p4 p5 p6 p7)) N a t, 7, []⟩ fun x st => x = .normal ∧ ∃ Y xs' c' js, (GreyOnceP.SStep xs (WS.abs (WS.sh 4 b w p1 p2 p3 p4 p5 p6 p7)) Y.abs xs' ∧ Y.ok ∧ xs'.length = 160) ∧ (c ≤ c' ∧ c' ≤ c + 1) ∧ st = ⟨pre np i ++ junk js 128 11, bas ps xs' ys c' (upd s q Y) N a t, 7, []⟩ := by
  refine (open1 hq E hE hT hD (m := 11) (n := 128) s (WS.sh 4 b w p1 p2 p3 p4 p5 p6 p7) 1 (.ptr 7 0) (fun pre' Y xs' c' a' => pre' = pre np i ∧ (GreyOnceP.SStep xs (WS.abs (WS.sh 4 b w p1 p2 p3 p4 p5 p6 p7)) Y.abs xs' ∧ Y.ok ∧ xs'.length = 160) ∧ (c ≤ c' ∧ c' ≤ c + 1) ∧ a' = a) (by decide) rfl (by rcases q3 hq with rfl | rfl | rfl <;> exact ⟨rfl, rfl⟩) ?_).mono ?_
  · intro vS E2 hT2 hD2
    have ht : ∀ {k : Nat}, Nat.ble k 60 = true → k ≤ E2.top := fun h => by rw [hT2]; exact Nat.le_of_ble_eq_true h
    have hdd : ∀ (l : List Nat), l.all (Nat.ble 1) = true → ∀ b, b ∈ l → E2.D b := fun l hl b hb => hD2 b (Nat.le_of_ble_eq_true (List.all_eq_true.1 hl b hb))
    rcases q3 hq with rfl | rfl | rfl
    · refine Tri.postE (Q := fun x st => x = .normal ∧ ((LS 11 128 (s0_4_l0 i c np ps xs ys vS (oN N) (SO a) (SO t) b w p1 p2 p3 p4 p5 p6 p7) st ∧ (List.getD xs 1 0 == w) = true) ∨ (LS 11 128 (s0_4_l1 i c np ps xs ys vS (oN N) (SO a) (SO t) b w p1 p2 p3 p4 p5 p6 p7) st ∧ (List.getD xs 1 0 == w) = false))) (Tri.allR (m := 11) (n := 128) (codeOK _) (s0_4 i c np ps xs ys x11 x12 x13 x14 vS (oN N) (SO a) (SO t) b w p1 p2 p3 p4 p5 p6 p7 js hx hc (inb_iff.2 (by have := (show (96 ≤ b ∧ b < 160) ∧ _ from hok).1; rw [hx]; omega))) (Tr.all_ite (fun e0 => Tr.all_ok ⟨rfl, ht rfl, hdd _ rfl, fun js => ⟨rfl, .inl (⟨⟨js, rfl⟩, e0⟩)⟩⟩) fun e0 => Tr.all_ok ⟨rfl, ht rfl, hdd _ rfl, fun js => ⟨rfl, .inr (⟨⟨js, rfl⟩, e0⟩)⟩⟩)) ?_
      rintro x st aa ww ⟨rfl, hl⟩ hat
      rcases hl with ⟨⟨js, rfl⟩, e0⟩ | ⟨⟨js, rfl⟩, e0⟩
      · have k1 := hat
        exact ⟨_, k1, rfl, WS.idle, (List.set xs 1 (mNext w b)), (c + 1), a, .nilp, [], pre np i, js, rfl, rfl, ren11 _ _, ⟨rfl, rfl, rfl, rfl, rfl, rfl⟩, by show 7 ≤ 8; omega, rfl, ⟨.lay (eq_of_beq e0), trivial, by rw [List.length_set]; exact hx⟩, by omega, rfl⟩
      · have k1 := shut (O := objL (WS.sh 2 b w p1 p2 p3 p4 p5 p6 p7)) hat (by (repeat' apply And.intro) <;> first | rfl | trivial)
        exact ⟨_, k1, rfl, (WS.sh 2 b w p1 p2 p3 p4 p5 p6 p7), xs, (c + 1), a, (.ptr 7 0), [(7, bq 0)], pre np i, js, rfl, rfl, ren11 _ _, ⟨rfl, rfl, rfl, rfl, rfl, rfl⟩, by show 7 ≤ 8; omega, rfl, ⟨.back (ne_of_beq e0), ⟨hok.1, by decide, hok.2.2⟩, hx⟩, by omega, rfl⟩
    · refine Tri.postE (Q := fun x st => x = .normal ∧ ((LS 11 128 (s1_4_l0 i c np ps xs ys vS (oN N) (SO a) (SO t) b w p1 p2 p3 p4 p5 p6 p7) st ∧ (List.getD xs 1 0 == w) = true) ∨ (LS 11 128 (s1_4_l1 i c np ps xs ys vS (oN N) (SO a) (SO t) b w p1 p2 p3 p4 p5 p6 p7) st ∧ (List.getD xs 1 0 == w) = false))) (Tri.allR (m := 11) (n := 128) (codeOK _) (s1_4 i c np ps xs ys x11 x12 x13 x14 vS (oN N) (SO a) (SO t) b w p1 p2 p3 p4 p5 p6 p7 js hx hc (inb_iff.2 (by have := (show (96 ≤ b ∧ b < 160) ∧ _ from hok).1; rw [hx]; omega))) (Tr.all_ite (fun e0 => Tr.all_ok ⟨rfl, ht rfl, hdd _ rfl, fun js => ⟨rfl, .inl (⟨⟨js, rfl⟩, e0⟩)⟩⟩) fun e0 => Tr.all_ok ⟨rfl, ht rfl, hdd _ rfl, fun js => ⟨rfl, .inr (⟨⟨js, rfl⟩, e0⟩)⟩⟩)) ?_
      rintro x st aa ww ⟨rfl, hl⟩ hat
      rcases hl with ⟨⟨js, rfl⟩, e0⟩ | ⟨⟨js, rfl⟩, e0⟩
      · have k1 := hat
        exact ⟨_, k1, rfl, WS.idle, (List.set xs 1 (mNext w b)), (c + 1), a, .nilp, [], pre np i, js, rfl, rfl, ren11 _ _, ⟨rfl, rfl, rfl, rfl, rfl, rfl⟩, by show 7 ≤ 8; omega, rfl, ⟨.lay (eq_of_beq e0), trivial, by rw [List.length_set]; exact hx⟩, by omega, rfl⟩
      · have k1 := shut (O := objL (WS.sh 2 b w p1 p2 p3 p4 p5 p6 p7)) hat (by (repeat' apply And.intro) <;> first | rfl | trivial)
        exact ⟨_, k1, rfl, (WS.sh 2 b w p1 p2 p3 p4 p5 p6 p7), xs, (c + 1), a, (.ptr 7 0), [(7, bq 1)], pre np i, js, rfl, rfl, ren11 _ _, ⟨rfl, rfl, rfl, rfl, rfl, rfl⟩, by show 7 ≤ 8; omega, rfl, ⟨.back (ne_of_beq e0), ⟨hok.1, by decide, hok.2.2⟩, hx⟩, by omega, rfl⟩
    · refine Tri.postE (Q := fun x st => x = .normal ∧ ((LS 11 128 (s2_4_l0 i c np ps xs ys vS (oN N) (SO a) (SO t) b w p1 p2 p3 p4 p5 p6 p7) st ∧ (List.getD xs 1 0 == w) = true) ∨ (LS 11 128 (s2_4_l1 i c np ps xs ys vS (oN N) (SO a) (SO t) b w p1 p2 p3 p4 p5 p6 p7) st ∧ (List.getD xs 1 0 == w) = false))) (Tri.allR (m := 11) (n := 128) (codeOK _) (s2_4 i c np ps xs ys x11 x12 x13 x14 vS (oN N) (SO a) (SO t) b w p1 p2 p3 p4 p5 p6 p7 js hx hc (inb_iff.2 (by have := (show (96 ≤ b ∧ b < 160) ∧ _ from hok).1; rw [hx]; omega))) (Tr.all_ite (fun e0 => Tr.all_ok ⟨rfl, ht rfl, hdd _ rfl, fun js => ⟨rfl, .inl (⟨⟨js, rfl⟩, e0⟩)⟩⟩) fun e0 => Tr.all_ok ⟨rfl, ht rfl, hdd _ rfl, fun js => ⟨rfl, .inr (⟨⟨js, rfl⟩, e0⟩)⟩⟩)) ?_
      rintro x st aa ww ⟨rfl, hl⟩ hat
      rcases hl with ⟨⟨js, rfl⟩, e0⟩ | ⟨⟨js, rfl⟩, e0⟩
      · have k1 := hat
        exact ⟨_, k1, rfl, WS.idle, (List.set xs 1 (mNext w b)), (c + 1), a, .nilp, [], pre np i, js, rfl, rfl, ren11 _ _, ⟨rfl, rfl, rfl, rfl, rfl, rfl⟩, by show 7 ≤ 8; omega, rfl, ⟨.lay (eq_of_beq e0), trivial, by rw [List.length_set]; exact hx⟩, by omega, rfl⟩
      · have k1 := shut (O := objL (WS.sh 2 b w p1 p2 p3 p4 p5 p6 p7)) hat (by (repeat' apply And.intro) <;> first | rfl | trivial)
        exact ⟨_, k1, rfl, (WS.sh 2 b w p1 p2 p3 p4 p5 p6 p7), xs, (c + 1), a, (.ptr 7 0), [(7, bq 2)], pre np i, js, rfl, rfl, ren11 _ _, ⟨rfl, rfl, rfl, rfl, rfl, rfl⟩, by show 7 ≤ 8; omega, rfl, ⟨.back (ne_of_beq e0), ⟨hok.1, by decide, hok.2.2⟩, hx⟩, by omega, rfl⟩
  · rintro x st ⟨rfl, Y, xs', c', a', pre', js, ⟨rfl, hK, h2, rfl⟩, rfl⟩
    exact ⟨rfl, Y, xs', c', js, hK, h2, rfl⟩
end
end Go.Proofs.Ytlkanbgcghjhnaa.GreyOnce
