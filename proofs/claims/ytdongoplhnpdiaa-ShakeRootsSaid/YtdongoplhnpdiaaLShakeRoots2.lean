/-
  ShakeRoots: its loops.
-/
import Derived.Test.YtdongoplhnpdiaaLShakeRoots1
namespace Go.Proofs.Ytdongoplhnpdiaa.ShakeRoots
open Go Go.RowKit Go.Proofs.Ytdongoplhnpdiaa.Eng
set_option linter.unusedVariables false
set_option linter.unusedSimpArgs false
set_option linter.unusedSectionVars false
set_option maxRecDepth 20000
theorem hb : Try.f3.body = some body := by kernel_rfl
theorem Tri.preHp {E : Ctx MObj} {c : Code} {tm : List SV} {hp hp' : HP MObj} {nid : Nat} {d : List Nat} {Q : VX → St MObj → Prop} (h : ∀ b, hget hp b = hget hp' b) (ht : Tri MS Try.prog E c ⟨tm, hp', nid, d⟩ Q) : Tri MS Try.prog E c ⟨tm, hp, nid, d⟩ Q :=
  Tri.preE fun a w hat => ⟨_, at_ext h hat, ht⟩
/-! ### What is known at the start -/
abbrev wsE (ts : List (List Int)) : List Int := [0, 0, 0, 0, 0, 0, 0, 0, 0, 0, 0, 0, 0, 0, 0, 0, 0, 0, 0, 0, 0, 0, 0, 0, 0, 0, 0, 0, 0, 0, 0, 0, 0, 0, 0, 0, 0, 0, 0, 0, 0, 0, 0, 0, 0, 0, 0, 0, 0, 0, 0, 0, 0, 0, 0, 0, 0, 0, 0, 0, 0, 0, 0, 0, 0, 0, 0, 0, 0, 0, 0, 0, 0, 0, 0, 0, 0, 0, 0, 0, 0, 0, 0, 0, 0, 0, 0, 0, 0, 0, 0, 0, 0, 0, 0, 0, Laid.hdr ts 0, 0, 0, 0, Laid.hdr ts 1, 0, 0, 0, Laid.hdr ts 2, 0, 0, 0, Laid.hdr ts 3, 0, 0, 0, Laid.hdr ts 4, 0, 0, 0, Laid.hdr ts 5, 0, 0, 0, Laid.hdr ts 6, 0, 0, 0, Laid.hdr ts 7, 0, 0, 0, 49, 0, 0, 0, 49, 0, 0, 0, 49, 0, 0, 0, 49, 0, 0, 0, 49, 0, 0, 0, 49, 0, 0, 0, 49, 0, 0, 0, 49, 0, 0, 0]
abbrev xsE (w : Int) (ts : List (List Int)) : List Int := [w, 0, 0, 0, 0, 0, 0, 0, 0, 0, 0, 0, 0, 0, 0, 0, 0, 0, 0, 0, 0, 0, 0, 0, 0, 0, 0, 0, 0, 0, 0, 0, 0, 0, 0, 0, 0, 0, 0, 0, 0, 0, 0, 0, 0, 0, 0, 0, 0, 0, 0, 0, 0, 0, 0, 0, 0, 0, 0, 0, 0, 0, 0, 0, 0, 0, 0, 0, 0, 0, 0, 0, 0, 0, 0, 0, 0, 0, 0, 0, 0, 0, 0, 0, 0, 0, 0, 0, 0, 0, 0, 0, 0, 0, 0, 0, Laid.hdr ts 0, 0, 0, 0, Laid.hdr ts 1, 0, 0, 0, Laid.hdr ts 2, 0, 0, 0, Laid.hdr ts 3, 0, 0, 0, Laid.hdr ts 4, 0, 0, 0, Laid.hdr ts 5, 0, 0, 0, Laid.hdr ts 6, 0, 0, 0, Laid.hdr ts 7, 0, 0, 0, 49, 0, 0, 0, 49, 0, 0, 0, 49, 0, 0, 0, 49, 0, 0, 0, 49, 0, 0, 0, 49, 0, 0, 0, 49, 0, 0, 0, 49, 0, 0, 0]
theorem ws_at (ts : List (List Int)) : ∀ k : Nat, k < 16 → (wsE ts).getD (96 + 4 * k) 0 = Laid.hdr ts k := fun k hk => by
  match k, hk with
  | 0, _ => rfl
  | 1, _ => rfl
  | 2, _ => rfl
  | 3, _ => rfl
  | 4, _ => rfl
  | 5, _ => rfl
  | 6, _ => rfl
  | 7, _ => rfl
  | 8, _ => rfl
  | 9, _ => rfl
  | 10, _ => rfl
  | 11, _ => rfl
  | 12, _ => rfl
  | 13, _ => rfl
  | 14, _ => rfl
  | 15, _ => rfl
  | k + 16, hk => exact absurd hk (by omega)
theorem xs_at (w : Int) (ts : List (List Int)) : ∀ k : Nat, k < 16 → (xsE w ts).getD (96 + 4 * k) 0 = Laid.hdr ts k := fun k hk => by
  match k, hk with
  | 0, _ => rfl
  | 1, _ => rfl
  | 2, _ => rfl
  | 3, _ => rfl
  | 4, _ => rfl
  | 5, _ => rfl
  | 6, _ => rfl
  | 7, _ => rfl
  | 8, _ => rfl
  | 9, _ => rfl
  | 10, _ => rfl
  | 11, _ => rfl
  | 12, _ => rfl
  | 13, _ => rfl
  | 14, _ => rfl
  | 15, _ => rfl
  | k + 16, hk => exact absurd hk (by omega)
theorem xs_ws (w : Int) (ts : List (List Int)) : ∀ a : Nat, 96 ≤ a → (xsE w ts).getD a 0 = (wsE ts).getD a 0 := fun a ha => by
  match a, ha with
  | 0, ha => exact absurd ha (by decide)
  | a + 1, _ => rfl
theorem hdr_state (ts : List (List Int)) (k : Nat) : mHState (Laid.hdr ts k) = 1 := by
  unfold Laid.hdr
  split <;> (unfold mHState mWord; omega)
theorem hdr_moved (ts : List (List Int)) (k : Nat) (hk : k < 16) : 0 ≤ mMoved (Laid.hdr ts k) (96 + 4 * (k : Int)) ∧ mMoved (Laid.hdr ts k) (96 + 4 * (k : Int)) < 160 := by
  unfold Laid.hdr
  split
  · rename_i h
    unfold Laid.mv at h
    simp only [Bool.and_eq_true, decide_eq_true_eq] at h
    have h8 := h.1
    unfold mMoved
    split
    · unfold mHLink mWord; omega
    · omega
  · unfold mMoved
    split
    · rename_i h; have := h.2; unfold mHTag mWord at this; omega
    · omega
def rA (ls : List (List Int)) (j : Int) : Int := Some16.Lf ls (Some16.rN ls) j
theorem known {ts ls : List (List Int)} (hf : Laid.fitB ls = true) : Known (Some16.rN ls) (rA ls) (wsE ts) := by
  have hN : 0 ≤ Some16.rN ls ∧ Some16.rN ls ≤ 8 ∧ Some16.rN ls ≤ ls.length := by unfold Some16.rN; split <;> omega
  have shp : ∀ j, 0 ≤ j → j < 8 → rA ls j ≠ 0 → ∃ k : Nat, k < 16 ∧ rA ls j = 96 + 4 * k := fun j h0 h1 hne => by
    unfold rA Some16.Lf at hne ⊢
    by_cases hj : j < Some16.rN ls
    · rw [if_pos hj] at hne ⊢
      have hr := Laid.fitB_at hf (i := j.toNat) (by omega) 17 (by decide)
      unfold Some16.rv at hne ⊢
      by_cases hk : kM (tabAt ls j.toNat 0) 17 < 16
      · rw [if_pos hk]
        exact ⟨(kM (tabAt ls j.toNat 0) 17).toNat, by omega, by omega⟩
      · rw [if_neg hk] at hne; exact absurd rfl hne
    · rw [if_neg hj] at hne; exact absurd rfl hne
  refine ⟨⟨hN.1, hN.2.1⟩, rfl, fun j h0 h1 h2 => ?_, fun j h0 h1 hne => ?_, fun j h0 h1 hne => ?_, shp, fun k hk => ?_⟩
  · unfold rA Some16.Lf; rw [if_neg (by omega)]
  · obtain ⟨k, hk, e⟩ := shp j h0 h1 hne
    rw [e]
    refine ⟨by omega, by omega, ?_⟩
    rw [show (96 + 4 * (k : Int)).toNat = 96 + 4 * k by omega, ws_at ts k hk]
    exact hdr_state ts k
  · obtain ⟨k, hk, e⟩ := shp j h0 h1 hne
    rw [e, show (96 + 4 * (k : Int)).toNat = 96 + 4 * k by omega, ws_at ts k hk]
    exact hdr_moved ts k hk
  · rw [ws_at ts k hk]; exact hdr_state ts k
/-! ### The loops -/
noncomputable abbrev init1C : Code := codeAt body [true, true, true, true, true, true, true, true, true, true, true, true, false, false]
noncomputable abbrev rest1 : Code := codeAt body [true, true, true, true, true, true, true, true, true, true, true, true, true]
noncomputable abbrev rest2 : Code := codeAt body [true, true, true, true, true, true, true, true, true, true, true, true, true, true, true]
theorem restE : (Eng.spine 12 body).2 = .seq (.seq init1C (.block 0 (.loop (.seq (at1 [false]) (.seq (.block 1 (at1 [true, false, false])) (at1 [true, true])))))) rest1 := by kernel_rfl
noncomputable abbrev init2C : Code := codeAt body [true, true, true, true, true, true, true, true, true, true, true, true, true, true, true, false, false]
noncomputable abbrev fin2C : Code := codeAt body [true, true, true, true, true, true, true, true, true, true, true, true, true, true, true, true]
theorem rest2E : rest2 = .seq (.seq init2C (.block 2 (.loop (.seq (at2 [false]) (.seq (.block 3 (at2 [true, false, false])) (at2 [true, true])))))) fin2C := by kernel_rfl
theorem resX (x0 x1 x2 x3 x4 x5 x7 x8 x9 x10 x11 x12 x13 x14 x15 x16 x17 x18 x19 x20 x21 : SV) (hp : HP MObj) (nid : Nat) (js : Nat → SV) : vresults Try.prog (⟨[x0, x1, x2, x3, x4, x5, .v (.bool (.lit true)), x7, x8, x9, x10, x11, x12, x13, x14, x15, x16, x17, x18, x19, x20, x21] ++ junk js 123 22, hp, nid, []⟩ : St MObj) Try.f3.results.toList = .ok [.one (.bool (.lit true))] := by kernel_rfl
abbrev Q : VX → St MObj → Prop := fun x st => (x = .normal ∨ x = .ret) ∧ ∃ l, (vresults Try.prog st Try.f3.results.toList).run = some l ∧ IsTrue (tupleOf l)
abbrev rG : List (Nat × Nat) := [(0, 0), (1, 1), (2, 2), (3, 3), (4, 4), (5, 5), (6, 6), (7, 7), (8, 8), (12, 10), (13, 11)]
abbrev rH : List (Nat × Nat) := [(0, 0), (1, 1), (2, 2), (3, 3), (4, 4), (5, 5), (6, 6), (7, 7), (8, 8), (9, 9), (12, 10), (13, 11)]
section
variable {n0 n1 : Nat} {N : Int} {ts ls : List (List Int)} {ws : List Int} {A : Int → Int} (E : Ctx MObj) (hE : E.nid0 = 2) (hT : E.top = 30) (hD : ∀ b, 2 ≤ b → E.D b) (hk : Known N A ws)
include hE hT hD hk
theorem lastF {i c c2 md : Int} {xs : List Int} {L : Int → Int} {tr : VV} {ob os ot : Option (VObj MObj)} (hx : xs.length = 160) (hc : 0 ≤ c ∧ c ≤ 90000) (hL : ∀ j, 0 ≤ j → j < 8 → L j = fixed A ws j) (x21 : SV) (js : Nat → SV) :
    Tri MS Try.prog E rest2 ⟨pre2 n0 n1 true i x21 ++ junk js 123 22, base2 ts ls xs ws c c2 md N (A 0) (A 1) (A 2) (A 3) (A 4) (A 5) (A 6) (A 7) (L 0) (L 1) (L 2) (L 3) (L 4) (L 5) (L 6) (L 7) tr ob os ot, 14, []⟩ Q := by
  have hd : ∀ (l : List Nat), l.all (Nat.ble 2) = true → ∀ b, b ∈ l → E.D b := fun l hl b hb => hD b (Nat.le_of_ble_eq_true (List.all_eq_true.1 hl b hb))
  have ht : ∀ {k : Nat}, Nat.ble k 30 = true → k ≤ E.top := fun h => by rw [hT]; exact Nat.le_of_ble_eq_true h
  have hN := hk.hN
  have hwl := hk.len
  have hr : ∀ j, 0 ≤ j → j < 8 → 0 ≤ A j ∧ A j < 160 := fun j h0 h1 => by
    by_cases h : A j = 0
    · omega
    · have := hk.obj j h0 h1 h; omega
  rw [rest2E]
  refine Tri.seq (R := fun x s => x = .normal ∧ ∃ (c j : Int) (js : Nat → SV), 0 ≤ c ∧ c ≤ 100000 ∧ s = ⟨pre2 n0 n1 true i (.v (ii j)) ++ junk js 123 22, base2 ts ls xs ws c c2 md N (A 0) (A 1) (A 2) (A 3) (A 4) (A 5) (A 6) (A 7) (L 0) (L 1) (L 2) (L 3) (L 4) (L 5) (L 6) (L 7) tr ob os ot, 14, []⟩) ?_ ?_ (fun x s hx hh => absurd hh.1 hx)
  · refine Tri.seq (R := fun x s => x = .normal ∧ ∃ (js : Nat → SV), s = ⟨pre2 n0 n1 true i (.v (.int .i64 (.lit 0))) ++ junk js 123 22, base2 ts ls xs ws c c2 md N (A 0) (A 1) (A 2) (A 3) (A 4) (A 5) (A 6) (A 7) (L 0) (L 1) (L 2) (L 3) (L 4) (L 5) (L 6) (L 7) tr ob os ot, 14, []⟩) (Tri.allR (m := 22) (n := 123) (codeOK _) (init2 n0 n1 i c c2 md N (A 0) (A 1) (A 2) (A 3) (A 4) (A 5) (A 6) (A 7) (L 0) (L 1) (L 2) (L 3) (L 4) (L 5) (L 6) (L 7) ts ls xs ws tr ob os ot x21 js true hx ⟨hc.1, by omega⟩ hN hwl) (Tr.all_ok ⟨rfl, ht rfl, hd _ rfl, fun js => ⟨rfl, js, rfl⟩⟩)) ?_ (fun x s hx hh => absurd hh.1 hx)
    rintro s ⟨_, js, rfl⟩
    refine Tri.preE fun aa ww hat => ⟨_, at_tm (p' := pre2 n0 n1 true i (.v (ii 0))) (by (repeat' apply And.intro) <;> first | rfl | trivial) hat, ?_⟩
    refine Tri.block (R := fun x s => x = .exit 2 ∧ ∃ (c j : Int) (js : Nat → SV), 0 ≤ c ∧ c ≤ 100000 ∧ s = ⟨pre2 n0 n1 true i (.v (ii j)) ++ junk js 123 22, base2 ts ls xs ws c c2 md N (A 0) (A 1) (A 2) (A 3) (A 4) (A 5) (A 6) (A 7) (L 0) (L 1) (L 2) (L 3) (L 4) (L 5) (L 6) (L 7) tr ob os ot, 14, []⟩) ?_ (fun s hh => by
      rcases hh with hh | hh
      · cases hh.1
      · exact ⟨rfl, hh.2⟩) (fun x s _ hx hh => absurd hh.1 hx)
    refine Tri.loop (J := fun q s => ∃ (j c : Int) (js : Nat → SV), 0 ≤ j ∧ j ≤ N ∧ 0 ≤ c ∧ c ≤ 90000 + j ∧ s = ⟨pre2 n0 n1 true i (.v (ii j)) ++ junk js 123 22, base2 ts ls xs ws c c2 md N (A 0) (A 1) (A 2) (A 3) (A 4) (A 5) (A 6) (A 7) (L 0) (L 1) (L 2) (L 3) (L 4) (L 5) (L 6) (L 7) tr ob os ot, 14, []⟩ ∧ q = (8 - j).toNat) ?_ (k := 8) ⟨0, c, js, by decide, hN.1, hc.1, by omega, rfl, rfl⟩
    rintro q s ⟨j, c, js, h0, h1, hc0, hc1, rfl, rfl⟩
    refine Tri.seq (R := fun x st => ∃ js, st = ⟨pre2 n0 n1 true i (.v (ii j)) ++ junk js 123 22, base2 ts ls xs ws c c2 md N (A 0) (A 1) (A 2) (A 3) (A 4) (A 5) (A 6) (A 7) (L 0) (L 1) (L 2) (L 3) (L 4) (L 5) (L 6) (L 7) tr ob os ot, 14, []⟩ ∧ ((x = .normal ∧ j < N) ∨ (x = .exit 2 ∧ ¬ j < N))) (Tri.allR (m := 22) (n := 123) (codeOK _) (g2 n0 n1 i c c2 md N (A 0) (A 1) (A 2) (A 3) (A 4) (A 5) (A 6) (A 7) (L 0) (L 1) (L 2) (L 3) (L 4) (L 5) (L 6) (L 7) ts ls xs ws tr ob os ot js true j hx ⟨hc0, by omega⟩ hN hwl) (Tr.all_ite (fun q => Tr.all_ok ⟨rfl, ht rfl, hd _ rfl, fun js => ⟨js, rfl, .inl ⟨rfl, of_decide_eq_true q⟩⟩⟩) fun q => Tr.all_ok ⟨rfl, ht rfl, hd _ rfl, fun js => ⟨js, rfl, .inr ⟨rfl, of_decide_eq_false q⟩⟩⟩)) ?_ ?_
    · rintro st ⟨js, rfl, h | h⟩
      rotate_left
      · cases h.1
      obtain ⟨_, hj⟩ := h
      refine Tri.seq (R := fun x st => x = .normal ∧ ∃ (c' : Int) (js : Nat → SV), c ≤ c' ∧ c' ≤ c + 1 ∧ st = ⟨pre2 n0 n1 true i (.v (ii j)) ++ junk js 123 22, base2 ts ls xs ws c' c2 md N (A 0) (A 1) (A 2) (A 3) (A 4) (A 5) (A 6) (A 7) (L 0) (L 1) (L 2) (L 3) (L 4) (L 5) (L 6) (L 7) tr ob os ot, 14, []⟩) (Tri.block (R := fun x st => x = .normal ∧ ∃ (c' : Int) (js : Nat → SV), c ≤ c' ∧ c' ≤ c + 1 ∧ st = ⟨pre2 n0 n1 true i (.v (ii j)) ++ junk js 123 22, base2 ts ls xs ws c' c2 md N (A 0) (A 1) (A 2) (A 3) (A 4) (A 5) (A 6) (A 7) (L 0) (L 1) (L 2) (L 3) (L 4) (L 5) (L 6) (L 7) tr ob os ot, 14, []⟩) ?_ (fun s hh => by
        rcases hh with hh | hh
        · exact hh
        · cases hh.1) (fun x s hx _ hh => absurd hh.1 hx)) ?_ (fun x s hx hh => absurd hh.1 hx)
      · refine Tri.postE (Q := fun x st => x = .normal ∧ ∀ aa ww, At MS E st aa ww → ∃ (st' : St MObj), At MS E st' aa ww ∧ ∃ (c' : Int) (js : Nat → SV), c ≤ c' ∧ c' ≤ c + 1 ∧ st' = ⟨pre2 n0 n1 true i (.v (ii j)) ++ junk js 123 22, base2 ts ls xs ws c' c2 md N (A 0) (A 1) (A 2) (A 3) (A 4) (A 5) (A 6) (A 7) (L 0) (L 1) (L 2) (L 3) (L 4) (L 5) (L 6) (L 7) tr ob os ot, 14, []⟩) ?_ (fun x st aa ww hh hat => let ⟨st', h1, h2⟩ := hh.2 aa ww hat; ⟨st', h1, hh.1, h2⟩)
        rcases (show j = 0 ∨ j = 1 ∨ j = 2 ∨ j = 3 ∨ j = 4 ∨ j = 5 ∨ j = 6 ∨ j = 7 by omega) with rfl | rfl | rfl | rfl | rfl | rfl | rfl | rfl
        · refine Tri.preE fun aa ww hat => ⟨_, at_tm (p' := pre2 n0 n1 true i (.v (.int .i64 (.lit 0)))) (by (repeat' apply And.intro) <;> first | rfl | trivial) hat, ?_⟩
          exact Tri.allR (m := 22) (n := 123) (codeOK _) (cF0 n0 n1 i c c2 md N (A 0) (A 1) (A 2) (A 3) (A 4) (A 5) (A 6) (A 7) (L 0) (L 1) (L 2) (L 3) (L 4) (L 5) (L 6) (L 7) ts ls xs ws tr ob os ot js hx ⟨hc0, by omega⟩ hN hwl (hr 0 (by decide) (by decide)) (fun z => by rw [hL 0 (by decide) (by decide)]; have z : A 0 = 0 := (by simpa using z); rw [fixed_zero z, z]; simp) (fun z => by rw [hL 0 (by decide) (by decide)]; have z : A 0 ≠ 0 := (by simpa using z); unfold fixed; rw [if_neg z, tabAt_rowsW]; simp)) (Tr.all_ite (fun _ => Tr.all_ok ⟨rfl, ht rfl, hd _ rfl, fun js => ⟨rfl, fun aa ww hat => ⟨_, at_tm (p' := pre2 n0 n1 true i (.v (ii 0))) (by (repeat' apply And.intro) <;> first | rfl | trivial) hat, c, js, by omega, by omega, rfl⟩⟩⟩) fun _ => Tr.all_ok ⟨rfl, ht rfl, hd _ rfl, fun js => ⟨rfl, fun aa ww hat => ⟨_, at_tm (p' := pre2 n0 n1 true i (.v (ii 0))) (by (repeat' apply And.intro) <;> first | rfl | trivial) hat, c, js, by omega, by omega, rfl⟩⟩⟩)
        · refine Tri.preE fun aa ww hat => ⟨_, at_tm (p' := pre2 n0 n1 true i (.v (.int .i64 (.lit 1)))) (by (repeat' apply And.intro) <;> first | rfl | trivial) hat, ?_⟩
          exact Tri.allR (m := 22) (n := 123) (codeOK _) (cF1 n0 n1 i c c2 md N (A 0) (A 1) (A 2) (A 3) (A 4) (A 5) (A 6) (A 7) (L 0) (L 1) (L 2) (L 3) (L 4) (L 5) (L 6) (L 7) ts ls xs ws tr ob os ot js hx ⟨hc0, by omega⟩ hN hwl (hr 1 (by decide) (by decide)) (fun z => by rw [hL 1 (by decide) (by decide)]; have z : A 1 = 0 := (by simpa using z); rw [fixed_zero z, z]; simp) (fun z => by rw [hL 1 (by decide) (by decide)]; have z : A 1 ≠ 0 := (by simpa using z); unfold fixed; rw [if_neg z, tabAt_rowsW]; simp)) (Tr.all_ite (fun _ => Tr.all_ok ⟨rfl, ht rfl, hd _ rfl, fun js => ⟨rfl, fun aa ww hat => ⟨_, at_tm (p' := pre2 n0 n1 true i (.v (ii 1))) (by (repeat' apply And.intro) <;> first | rfl | trivial) hat, c, js, by omega, by omega, rfl⟩⟩⟩) fun _ => Tr.all_ok ⟨rfl, ht rfl, hd _ rfl, fun js => ⟨rfl, fun aa ww hat => ⟨_, at_tm (p' := pre2 n0 n1 true i (.v (ii 1))) (by (repeat' apply And.intro) <;> first | rfl | trivial) hat, c, js, by omega, by omega, rfl⟩⟩⟩)
        · refine Tri.preE fun aa ww hat => ⟨_, at_tm (p' := pre2 n0 n1 true i (.v (.int .i64 (.lit 2)))) (by (repeat' apply And.intro) <;> first | rfl | trivial) hat, ?_⟩
          exact Tri.allR (m := 22) (n := 123) (codeOK _) (cF2 n0 n1 i c c2 md N (A 0) (A 1) (A 2) (A 3) (A 4) (A 5) (A 6) (A 7) (L 0) (L 1) (L 2) (L 3) (L 4) (L 5) (L 6) (L 7) ts ls xs ws tr ob os ot js hx ⟨hc0, by omega⟩ hN hwl (hr 2 (by decide) (by decide)) (fun z => by rw [hL 2 (by decide) (by decide)]; have z : A 2 = 0 := (by simpa using z); rw [fixed_zero z, z]; simp) (fun z => by rw [hL 2 (by decide) (by decide)]; have z : A 2 ≠ 0 := (by simpa using z); unfold fixed; rw [if_neg z, tabAt_rowsW]; simp)) (Tr.all_ite (fun _ => Tr.all_ok ⟨rfl, ht rfl, hd _ rfl, fun js => ⟨rfl, fun aa ww hat => ⟨_, at_tm (p' := pre2 n0 n1 true i (.v (ii 2))) (by (repeat' apply And.intro) <;> first | rfl | trivial) hat, c, js, by omega, by omega, rfl⟩⟩⟩) fun _ => Tr.all_ok ⟨rfl, ht rfl, hd _ rfl, fun js => ⟨rfl, fun aa ww hat => ⟨_, at_tm (p' := pre2 n0 n1 true i (.v (ii 2))) (by (repeat' apply And.intro) <;> first | rfl | trivial) hat, c, js, by omega, by omega, rfl⟩⟩⟩)
        · refine Tri.preE fun aa ww hat => ⟨_, at_tm (p' := pre2 n0 n1 true i (.v (.int .i64 (.lit 3)))) (by (repeat' apply And.intro) <;> first | rfl | trivial) hat, ?_⟩
          exact Tri.allR (m := 22) (n := 123) (codeOK _) (cF3 n0 n1 i c c2 md N (A 0) (A 1) (A 2) (A 3) (A 4) (A 5) (A 6) (A 7) (L 0) (L 1) (L 2) (L 3) (L 4) (L 5) (L 6) (L 7) ts ls xs ws tr ob os ot js hx ⟨hc0, by omega⟩ hN hwl (hr 3 (by decide) (by decide)) (fun z => by rw [hL 3 (by decide) (by decide)]; have z : A 3 = 0 := (by simpa using z); rw [fixed_zero z, z]; simp) (fun z => by rw [hL 3 (by decide) (by decide)]; have z : A 3 ≠ 0 := (by simpa using z); unfold fixed; rw [if_neg z, tabAt_rowsW]; simp)) (Tr.all_ite (fun _ => Tr.all_ok ⟨rfl, ht rfl, hd _ rfl, fun js => ⟨rfl, fun aa ww hat => ⟨_, at_tm (p' := pre2 n0 n1 true i (.v (ii 3))) (by (repeat' apply And.intro) <;> first | rfl | trivial) hat, c, js, by omega, by omega, rfl⟩⟩⟩) fun _ => Tr.all_ok ⟨rfl, ht rfl, hd _ rfl, fun js => ⟨rfl, fun aa ww hat => ⟨_, at_tm (p' := pre2 n0 n1 true i (.v (ii 3))) (by (repeat' apply And.intro) <;> first | rfl | trivial) hat, c, js, by omega, by omega, rfl⟩⟩⟩)
        · refine Tri.preE fun aa ww hat => ⟨_, at_tm (p' := pre2 n0 n1 true i (.v (.int .i64 (.lit 4)))) (by (repeat' apply And.intro) <;> first | rfl | trivial) hat, ?_⟩
          exact Tri.allR (m := 22) (n := 123) (codeOK _) (cF4 n0 n1 i c c2 md N (A 0) (A 1) (A 2) (A 3) (A 4) (A 5) (A 6) (A 7) (L 0) (L 1) (L 2) (L 3) (L 4) (L 5) (L 6) (L 7) ts ls xs ws tr ob os ot js hx ⟨hc0, by omega⟩ hN hwl (hr 4 (by decide) (by decide)) (fun z => by rw [hL 4 (by decide) (by decide)]; have z : A 4 = 0 := (by simpa using z); rw [fixed_zero z, z]; simp) (fun z => by rw [hL 4 (by decide) (by decide)]; have z : A 4 ≠ 0 := (by simpa using z); unfold fixed; rw [if_neg z, tabAt_rowsW]; simp)) (Tr.all_ite (fun _ => Tr.all_ok ⟨rfl, ht rfl, hd _ rfl, fun js => ⟨rfl, fun aa ww hat => ⟨_, at_tm (p' := pre2 n0 n1 true i (.v (ii 4))) (by (repeat' apply And.intro) <;> first | rfl | trivial) hat, c, js, by omega, by omega, rfl⟩⟩⟩) fun _ => Tr.all_ok ⟨rfl, ht rfl, hd _ rfl, fun js => ⟨rfl, fun aa ww hat => ⟨_, at_tm (p' := pre2 n0 n1 true i (.v (ii 4))) (by (repeat' apply And.intro) <;> first | rfl | trivial) hat, c, js, by omega, by omega, rfl⟩⟩⟩)
        · refine Tri.preE fun aa ww hat => ⟨_, at_tm (p' := pre2 n0 n1 true i (.v (.int .i64 (.lit 5)))) (by (repeat' apply And.intro) <;> first | rfl | trivial) hat, ?_⟩
          exact Tri.allR (m := 22) (n := 123) (codeOK _) (cF5 n0 n1 i c c2 md N (A 0) (A 1) (A 2) (A 3) (A 4) (A 5) (A 6) (A 7) (L 0) (L 1) (L 2) (L 3) (L 4) (L 5) (L 6) (L 7) ts ls xs ws tr ob os ot js hx ⟨hc0, by omega⟩ hN hwl (hr 5 (by decide) (by decide)) (fun z => by rw [hL 5 (by decide) (by decide)]; have z : A 5 = 0 := (by simpa using z); rw [fixed_zero z, z]; simp) (fun z => by rw [hL 5 (by decide) (by decide)]; have z : A 5 ≠ 0 := (by simpa using z); unfold fixed; rw [if_neg z, tabAt_rowsW]; simp)) (Tr.all_ite (fun _ => Tr.all_ok ⟨rfl, ht rfl, hd _ rfl, fun js => ⟨rfl, fun aa ww hat => ⟨_, at_tm (p' := pre2 n0 n1 true i (.v (ii 5))) (by (repeat' apply And.intro) <;> first | rfl | trivial) hat, c, js, by omega, by omega, rfl⟩⟩⟩) fun _ => Tr.all_ok ⟨rfl, ht rfl, hd _ rfl, fun js => ⟨rfl, fun aa ww hat => ⟨_, at_tm (p' := pre2 n0 n1 true i (.v (ii 5))) (by (repeat' apply And.intro) <;> first | rfl | trivial) hat, c, js, by omega, by omega, rfl⟩⟩⟩)
        · refine Tri.preE fun aa ww hat => ⟨_, at_tm (p' := pre2 n0 n1 true i (.v (.int .i64 (.lit 6)))) (by (repeat' apply And.intro) <;> first | rfl | trivial) hat, ?_⟩
          exact Tri.allR (m := 22) (n := 123) (codeOK _) (cF6 n0 n1 i c c2 md N (A 0) (A 1) (A 2) (A 3) (A 4) (A 5) (A 6) (A 7) (L 0) (L 1) (L 2) (L 3) (L 4) (L 5) (L 6) (L 7) ts ls xs ws tr ob os ot js hx ⟨hc0, by omega⟩ hN hwl (hr 6 (by decide) (by decide)) (fun z => by rw [hL 6 (by decide) (by decide)]; have z : A 6 = 0 := (by simpa using z); rw [fixed_zero z, z]; simp) (fun z => by rw [hL 6 (by decide) (by decide)]; have z : A 6 ≠ 0 := (by simpa using z); unfold fixed; rw [if_neg z, tabAt_rowsW]; simp)) (Tr.all_ite (fun _ => Tr.all_ok ⟨rfl, ht rfl, hd _ rfl, fun js => ⟨rfl, fun aa ww hat => ⟨_, at_tm (p' := pre2 n0 n1 true i (.v (ii 6))) (by (repeat' apply And.intro) <;> first | rfl | trivial) hat, c, js, by omega, by omega, rfl⟩⟩⟩) fun _ => Tr.all_ok ⟨rfl, ht rfl, hd _ rfl, fun js => ⟨rfl, fun aa ww hat => ⟨_, at_tm (p' := pre2 n0 n1 true i (.v (ii 6))) (by (repeat' apply And.intro) <;> first | rfl | trivial) hat, c, js, by omega, by omega, rfl⟩⟩⟩)
        · refine Tri.preE fun aa ww hat => ⟨_, at_tm (p' := pre2 n0 n1 true i (.v (.int .i64 (.lit 7)))) (by (repeat' apply And.intro) <;> first | rfl | trivial) hat, ?_⟩
          exact Tri.allR (m := 22) (n := 123) (codeOK _) (cF7 n0 n1 i c c2 md N (A 0) (A 1) (A 2) (A 3) (A 4) (A 5) (A 6) (A 7) (L 0) (L 1) (L 2) (L 3) (L 4) (L 5) (L 6) (L 7) ts ls xs ws tr ob os ot js hx ⟨hc0, by omega⟩ hN hwl (hr 7 (by decide) (by decide)) (fun z => by rw [hL 7 (by decide) (by decide)]; have z : A 7 = 0 := (by simpa using z); rw [fixed_zero z, z]; simp) (fun z => by rw [hL 7 (by decide) (by decide)]; have z : A 7 ≠ 0 := (by simpa using z); unfold fixed; rw [if_neg z, tabAt_rowsW]; simp)) (Tr.all_ite (fun _ => Tr.all_ok ⟨rfl, ht rfl, hd _ rfl, fun js => ⟨rfl, fun aa ww hat => ⟨_, at_tm (p' := pre2 n0 n1 true i (.v (ii 7))) (by (repeat' apply And.intro) <;> first | rfl | trivial) hat, c, js, by omega, by omega, rfl⟩⟩⟩) fun _ => Tr.all_ok ⟨rfl, ht rfl, hd _ rfl, fun js => ⟨rfl, fun aa ww hat => ⟨_, at_tm (p' := pre2 n0 n1 true i (.v (ii 7))) (by (repeat' apply And.intro) <;> first | rfl | trivial) hat, c, js, by omega, by omega, rfl⟩⟩⟩)
      · rintro st ⟨_, c', js, h3, h4, rfl⟩
        have e4 : W (j + 1) = j + 1 := W_of (by omega) (by omega)
        refine Tri.allR (m := 22) (n := 123) (codeOK _) (inc2 n0 n1 i c' c2 md N (A 0) (A 1) (A 2) (A 3) (A 4) (A 5) (A 6) (A 7) (L 0) (L 1) (L 2) (L 3) (L 4) (L 5) (L 6) (L 7) ts ls xs ws tr ob os ot js true j hx ⟨by omega, by omega⟩ hN hwl) (Tr.all_ok ⟨rfl, ht rfl, hd _ rfl, fun js => ⟨(8 - (j + 1)).toNat, by omega, j + 1, c', js, by omega, by omega, by omega, by omega, ?_, rfl⟩⟩)
        show (⟨pre2 n0 n1 true i (.v (ii (W (j + 1)))) ++ junk js 123 22, base2 ts ls xs ws c' c2 md N (A 0) (A 1) (A 2) (A 3) (A 4) (A 5) (A 6) (A 7) (L 0) (L 1) (L 2) (L 3) (L 4) (L 5) (L 6) (L 7) tr ob os ot, 14, []⟩ : St MObj) = _
        rw [e4]
    · rintro x st hx ⟨js, rfl, h | h⟩
      · exact absurd h.1 hx
      · obtain ⟨rfl, hge⟩ := h
        exact ⟨rfl, c, j, js, hc0, by omega, rfl⟩
  · rintro st ⟨_, c, j, js, hc0, hc1, rfl⟩
    exact Tri.allR (m := 22) (n := 123) (codeOK _) (fin2 n0 n1 i c c2 md N (A 0) (A 1) (A 2) (A 3) (A 4) (A 5) (A 6) (A 7) (L 0) (L 1) (L 2) (L 3) (L 4) (L 5) (L 6) (L 7) ts ls xs ws tr ob os ot js true j hx ⟨hc0, by omega⟩ hN hwl)
      (Tr.all_ok ⟨rfl, ht rfl, hd _ rfl, fun js => ⟨.inr rfl, _, (congrArg Tr.run (resX _ _ _ _ _ _ _ _ _ _ _ _ _ _ _ _ _ _ _ _ _ _ _ js)).trans rfl, by simp [IsTrue, tupleOf]; rfl⟩⟩)
theorem lastS {i c c2 md : Int} {xs : List Int} {L : Int → Int} {tr : VV} {ob os ot : Option (VObj MObj)} (hx : xs.length = 160) (hc : 0 ≤ c ∧ c ≤ 90000) (hL : ∀ j, 0 ≤ j → j < 8 → L j = A j) (hm : Marked A xs 8) (x21 : SV) (js : Nat → SV) :
    Tri MS Try.prog E rest2 ⟨pre2 n0 n1 false i x21 ++ junk js 123 22, base2 ts ls xs ws c c2 md N (A 0) (A 1) (A 2) (A 3) (A 4) (A 5) (A 6) (A 7) (L 0) (L 1) (L 2) (L 3) (L 4) (L 5) (L 6) (L 7) tr ob os ot, 14, []⟩ Q := by
  have hd : ∀ (l : List Nat), l.all (Nat.ble 2) = true → ∀ b, b ∈ l → E.D b := fun l hl b hb => hD b (Nat.le_of_ble_eq_true (List.all_eq_true.1 hl b hb))
  have ht : ∀ {k : Nat}, Nat.ble k 30 = true → k ≤ E.top := fun h => by rw [hT]; exact Nat.le_of_ble_eq_true h
  have hN := hk.hN
  have hwl := hk.len
  have hr : ∀ j, 0 ≤ j → j < 8 → 0 ≤ A j ∧ A j < 160 := fun j h0 h1 => by
    by_cases h : A j = 0
    · omega
    · have := hk.obj j h0 h1 h; omega
  rw [rest2E]
  refine Tri.seq (R := fun x s => x = .normal ∧ ∃ (c j : Int) (js : Nat → SV), 0 ≤ c ∧ c ≤ 100000 ∧ s = ⟨pre2 n0 n1 false i (.v (ii j)) ++ junk js 123 22, base2 ts ls xs ws c c2 md N (A 0) (A 1) (A 2) (A 3) (A 4) (A 5) (A 6) (A 7) (L 0) (L 1) (L 2) (L 3) (L 4) (L 5) (L 6) (L 7) tr ob os ot, 14, []⟩) ?_ ?_ (fun x s hx hh => absurd hh.1 hx)
  · refine Tri.seq (R := fun x s => x = .normal ∧ ∃ (js : Nat → SV), s = ⟨pre2 n0 n1 false i (.v (.int .i64 (.lit 0))) ++ junk js 123 22, base2 ts ls xs ws c c2 md N (A 0) (A 1) (A 2) (A 3) (A 4) (A 5) (A 6) (A 7) (L 0) (L 1) (L 2) (L 3) (L 4) (L 5) (L 6) (L 7) tr ob os ot, 14, []⟩) (Tri.allR (m := 22) (n := 123) (codeOK _) (init2 n0 n1 i c c2 md N (A 0) (A 1) (A 2) (A 3) (A 4) (A 5) (A 6) (A 7) (L 0) (L 1) (L 2) (L 3) (L 4) (L 5) (L 6) (L 7) ts ls xs ws tr ob os ot x21 js false hx ⟨hc.1, by omega⟩ hN hwl) (Tr.all_ok ⟨rfl, ht rfl, hd _ rfl, fun js => ⟨rfl, js, rfl⟩⟩)) ?_ (fun x s hx hh => absurd hh.1 hx)
    rintro s ⟨_, js, rfl⟩
    refine Tri.preE fun aa ww hat => ⟨_, at_tm (p' := pre2 n0 n1 false i (.v (ii 0))) (by (repeat' apply And.intro) <;> first | rfl | trivial) hat, ?_⟩
    refine Tri.block (R := fun x s => x = .exit 2 ∧ ∃ (c j : Int) (js : Nat → SV), 0 ≤ c ∧ c ≤ 100000 ∧ s = ⟨pre2 n0 n1 false i (.v (ii j)) ++ junk js 123 22, base2 ts ls xs ws c c2 md N (A 0) (A 1) (A 2) (A 3) (A 4) (A 5) (A 6) (A 7) (L 0) (L 1) (L 2) (L 3) (L 4) (L 5) (L 6) (L 7) tr ob os ot, 14, []⟩) ?_ (fun s hh => by
      rcases hh with hh | hh
      · cases hh.1
      · exact ⟨rfl, hh.2⟩) (fun x s _ hx hh => absurd hh.1 hx)
    refine Tri.loop (J := fun q s => ∃ (j c : Int) (js : Nat → SV), 0 ≤ j ∧ j ≤ N ∧ 0 ≤ c ∧ c ≤ 90000 + j ∧ s = ⟨pre2 n0 n1 false i (.v (ii j)) ++ junk js 123 22, base2 ts ls xs ws c c2 md N (A 0) (A 1) (A 2) (A 3) (A 4) (A 5) (A 6) (A 7) (L 0) (L 1) (L 2) (L 3) (L 4) (L 5) (L 6) (L 7) tr ob os ot, 14, []⟩ ∧ q = (8 - j).toNat) ?_ (k := 8) ⟨0, c, js, by decide, hN.1, hc.1, by omega, rfl, rfl⟩
    rintro q s ⟨j, c, js, h0, h1, hc0, hc1, rfl, rfl⟩
    refine Tri.seq (R := fun x st => ∃ js, st = ⟨pre2 n0 n1 false i (.v (ii j)) ++ junk js 123 22, base2 ts ls xs ws c c2 md N (A 0) (A 1) (A 2) (A 3) (A 4) (A 5) (A 6) (A 7) (L 0) (L 1) (L 2) (L 3) (L 4) (L 5) (L 6) (L 7) tr ob os ot, 14, []⟩ ∧ ((x = .normal ∧ j < N) ∨ (x = .exit 2 ∧ ¬ j < N))) (Tri.allR (m := 22) (n := 123) (codeOK _) (g2 n0 n1 i c c2 md N (A 0) (A 1) (A 2) (A 3) (A 4) (A 5) (A 6) (A 7) (L 0) (L 1) (L 2) (L 3) (L 4) (L 5) (L 6) (L 7) ts ls xs ws tr ob os ot js false j hx ⟨hc0, by omega⟩ hN hwl) (Tr.all_ite (fun q => Tr.all_ok ⟨rfl, ht rfl, hd _ rfl, fun js => ⟨js, rfl, .inl ⟨rfl, of_decide_eq_true q⟩⟩⟩) fun q => Tr.all_ok ⟨rfl, ht rfl, hd _ rfl, fun js => ⟨js, rfl, .inr ⟨rfl, of_decide_eq_false q⟩⟩⟩)) ?_ ?_
    · rintro st ⟨js, rfl, h | h⟩
      rotate_left
      · cases h.1
      obtain ⟨_, hj⟩ := h
      refine Tri.seq (R := fun x st => x = .normal ∧ ∃ (c' : Int) (js : Nat → SV), c ≤ c' ∧ c' ≤ c + 1 ∧ st = ⟨pre2 n0 n1 false i (.v (ii j)) ++ junk js 123 22, base2 ts ls xs ws c' c2 md N (A 0) (A 1) (A 2) (A 3) (A 4) (A 5) (A 6) (A 7) (L 0) (L 1) (L 2) (L 3) (L 4) (L 5) (L 6) (L 7) tr ob os ot, 14, []⟩) (Tri.block (R := fun x st => x = .normal ∧ ∃ (c' : Int) (js : Nat → SV), c ≤ c' ∧ c' ≤ c + 1 ∧ st = ⟨pre2 n0 n1 false i (.v (ii j)) ++ junk js 123 22, base2 ts ls xs ws c' c2 md N (A 0) (A 1) (A 2) (A 3) (A 4) (A 5) (A 6) (A 7) (L 0) (L 1) (L 2) (L 3) (L 4) (L 5) (L 6) (L 7) tr ob os ot, 14, []⟩) ?_ (fun s hh => by
        rcases hh with hh | hh
        · exact hh
        · cases hh.1) (fun x s hx _ hh => absurd hh.1 hx)) ?_ (fun x s hx hh => absurd hh.1 hx)
      · refine Tri.postE (Q := fun x st => x = .normal ∧ ∀ aa ww, At MS E st aa ww → ∃ (st' : St MObj), At MS E st' aa ww ∧ ∃ (c' : Int) (js : Nat → SV), c ≤ c' ∧ c' ≤ c + 1 ∧ st' = ⟨pre2 n0 n1 false i (.v (ii j)) ++ junk js 123 22, base2 ts ls xs ws c' c2 md N (A 0) (A 1) (A 2) (A 3) (A 4) (A 5) (A 6) (A 7) (L 0) (L 1) (L 2) (L 3) (L 4) (L 5) (L 6) (L 7) tr ob os ot, 14, []⟩) ?_ (fun x st aa ww hh hat => let ⟨st', h1, h2⟩ := hh.2 aa ww hat; ⟨st', h1, hh.1, h2⟩)
        rcases (show j = 0 ∨ j = 1 ∨ j = 2 ∨ j = 3 ∨ j = 4 ∨ j = 5 ∨ j = 6 ∨ j = 7 by omega) with rfl | rfl | rfl | rfl | rfl | rfl | rfl | rfl
        · refine Tri.preE fun aa ww hat => ⟨_, at_tm (p' := pre2 n0 n1 false i (.v (.int .i64 (.lit 0)))) (by (repeat' apply And.intro) <;> first | rfl | trivial) hat, ?_⟩
          exact Tri.allR (m := 22) (n := 123) (codeOK _) (cS0 n0 n1 i c c2 md N (A 0) (A 1) (A 2) (A 3) (A 4) (A 5) (A 6) (A 7) (L 0) (L 1) (L 2) (L 3) (L 4) (L 5) (L 6) (L 7) ts ls xs ws tr ob os ot js hx ⟨hc0, by omega⟩ hN hwl (hr 0 (by decide) (by decide)) (by rw [hL 0 (by decide) (by decide)]; simp) (fun z => by have z : A 0 ≠ 0 := (by simpa using z); rw [hm 0 (by decide) (by decide) (by decide) z]; rfl)) (Tr.all_ite (fun _ => Tr.all_ok ⟨rfl, ht rfl, hd _ rfl, fun js => ⟨rfl, fun aa ww hat => ⟨_, at_tm (p' := pre2 n0 n1 false i (.v (ii 0))) (by (repeat' apply And.intro) <;> first | rfl | trivial) hat, c + 1, js, by omega, by omega, rfl⟩⟩⟩) fun _ => Tr.all_ok ⟨rfl, ht rfl, hd _ rfl, fun js => ⟨rfl, fun aa ww hat => ⟨_, at_tm (p' := pre2 n0 n1 false i (.v (ii 0))) (by (repeat' apply And.intro) <;> first | rfl | trivial) hat, c, js, by omega, by omega, rfl⟩⟩⟩)
        · refine Tri.preE fun aa ww hat => ⟨_, at_tm (p' := pre2 n0 n1 false i (.v (.int .i64 (.lit 1)))) (by (repeat' apply And.intro) <;> first | rfl | trivial) hat, ?_⟩
          exact Tri.allR (m := 22) (n := 123) (codeOK _) (cS1 n0 n1 i c c2 md N (A 0) (A 1) (A 2) (A 3) (A 4) (A 5) (A 6) (A 7) (L 0) (L 1) (L 2) (L 3) (L 4) (L 5) (L 6) (L 7) ts ls xs ws tr ob os ot js hx ⟨hc0, by omega⟩ hN hwl (hr 1 (by decide) (by decide)) (by rw [hL 1 (by decide) (by decide)]; simp) (fun z => by have z : A 1 ≠ 0 := (by simpa using z); rw [hm 1 (by decide) (by decide) (by decide) z]; rfl)) (Tr.all_ite (fun _ => Tr.all_ok ⟨rfl, ht rfl, hd _ rfl, fun js => ⟨rfl, fun aa ww hat => ⟨_, at_tm (p' := pre2 n0 n1 false i (.v (ii 1))) (by (repeat' apply And.intro) <;> first | rfl | trivial) hat, c + 1, js, by omega, by omega, rfl⟩⟩⟩) fun _ => Tr.all_ok ⟨rfl, ht rfl, hd _ rfl, fun js => ⟨rfl, fun aa ww hat => ⟨_, at_tm (p' := pre2 n0 n1 false i (.v (ii 1))) (by (repeat' apply And.intro) <;> first | rfl | trivial) hat, c, js, by omega, by omega, rfl⟩⟩⟩)
        · refine Tri.preE fun aa ww hat => ⟨_, at_tm (p' := pre2 n0 n1 false i (.v (.int .i64 (.lit 2)))) (by (repeat' apply And.intro) <;> first | rfl | trivial) hat, ?_⟩
          exact Tri.allR (m := 22) (n := 123) (codeOK _) (cS2 n0 n1 i c c2 md N (A 0) (A 1) (A 2) (A 3) (A 4) (A 5) (A 6) (A 7) (L 0) (L 1) (L 2) (L 3) (L 4) (L 5) (L 6) (L 7) ts ls xs ws tr ob os ot js hx ⟨hc0, by omega⟩ hN hwl (hr 2 (by decide) (by decide)) (by rw [hL 2 (by decide) (by decide)]; simp) (fun z => by have z : A 2 ≠ 0 := (by simpa using z); rw [hm 2 (by decide) (by decide) (by decide) z]; rfl)) (Tr.all_ite (fun _ => Tr.all_ok ⟨rfl, ht rfl, hd _ rfl, fun js => ⟨rfl, fun aa ww hat => ⟨_, at_tm (p' := pre2 n0 n1 false i (.v (ii 2))) (by (repeat' apply And.intro) <;> first | rfl | trivial) hat, c + 1, js, by omega, by omega, rfl⟩⟩⟩) fun _ => Tr.all_ok ⟨rfl, ht rfl, hd _ rfl, fun js => ⟨rfl, fun aa ww hat => ⟨_, at_tm (p' := pre2 n0 n1 false i (.v (ii 2))) (by (repeat' apply And.intro) <;> first | rfl | trivial) hat, c, js, by omega, by omega, rfl⟩⟩⟩)
        · refine Tri.preE fun aa ww hat => ⟨_, at_tm (p' := pre2 n0 n1 false i (.v (.int .i64 (.lit 3)))) (by (repeat' apply And.intro) <;> first | rfl | trivial) hat, ?_⟩
          exact Tri.allR (m := 22) (n := 123) (codeOK _) (cS3 n0 n1 i c c2 md N (A 0) (A 1) (A 2) (A 3) (A 4) (A 5) (A 6) (A 7) (L 0) (L 1) (L 2) (L 3) (L 4) (L 5) (L 6) (L 7) ts ls xs ws tr ob os ot js hx ⟨hc0, by omega⟩ hN hwl (hr 3 (by decide) (by decide)) (by rw [hL 3 (by decide) (by decide)]; simp) (fun z => by have z : A 3 ≠ 0 := (by simpa using z); rw [hm 3 (by decide) (by decide) (by decide) z]; rfl)) (Tr.all_ite (fun _ => Tr.all_ok ⟨rfl, ht rfl, hd _ rfl, fun js => ⟨rfl, fun aa ww hat => ⟨_, at_tm (p' := pre2 n0 n1 false i (.v (ii 3))) (by (repeat' apply And.intro) <;> first | rfl | trivial) hat, c + 1, js, by omega, by omega, rfl⟩⟩⟩) fun _ => Tr.all_ok ⟨rfl, ht rfl, hd _ rfl, fun js => ⟨rfl, fun aa ww hat => ⟨_, at_tm (p' := pre2 n0 n1 false i (.v (ii 3))) (by (repeat' apply And.intro) <;> first | rfl | trivial) hat, c, js, by omega, by omega, rfl⟩⟩⟩)
        · refine Tri.preE fun aa ww hat => ⟨_, at_tm (p' := pre2 n0 n1 false i (.v (.int .i64 (.lit 4)))) (by (repeat' apply And.intro) <;> first | rfl | trivial) hat, ?_⟩
          exact Tri.allR (m := 22) (n := 123) (codeOK _) (cS4 n0 n1 i c c2 md N (A 0) (A 1) (A 2) (A 3) (A 4) (A 5) (A 6) (A 7) (L 0) (L 1) (L 2) (L 3) (L 4) (L 5) (L 6) (L 7) ts ls xs ws tr ob os ot js hx ⟨hc0, by omega⟩ hN hwl (hr 4 (by decide) (by decide)) (by rw [hL 4 (by decide) (by decide)]; simp) (fun z => by have z : A 4 ≠ 0 := (by simpa using z); rw [hm 4 (by decide) (by decide) (by decide) z]; rfl)) (Tr.all_ite (fun _ => Tr.all_ok ⟨rfl, ht rfl, hd _ rfl, fun js => ⟨rfl, fun aa ww hat => ⟨_, at_tm (p' := pre2 n0 n1 false i (.v (ii 4))) (by (repeat' apply And.intro) <;> first | rfl | trivial) hat, c + 1, js, by omega, by omega, rfl⟩⟩⟩) fun _ => Tr.all_ok ⟨rfl, ht rfl, hd _ rfl, fun js => ⟨rfl, fun aa ww hat => ⟨_, at_tm (p' := pre2 n0 n1 false i (.v (ii 4))) (by (repeat' apply And.intro) <;> first | rfl | trivial) hat, c, js, by omega, by omega, rfl⟩⟩⟩)
        · refine Tri.preE fun aa ww hat => ⟨_, at_tm (p' := pre2 n0 n1 false i (.v (.int .i64 (.lit 5)))) (by (repeat' apply And.intro) <;> first | rfl | trivial) hat, ?_⟩
          exact Tri.allR (m := 22) (n := 123) (codeOK _) (cS5 n0 n1 i c c2 md N (A 0) (A 1) (A 2) (A 3) (A 4) (A 5) (A 6) (A 7) (L 0) (L 1) (L 2) (L 3) (L 4) (L 5) (L 6) (L 7) ts ls xs ws tr ob os ot js hx ⟨hc0, by omega⟩ hN hwl (hr 5 (by decide) (by decide)) (by rw [hL 5 (by decide) (by decide)]; simp) (fun z => by have z : A 5 ≠ 0 := (by simpa using z); rw [hm 5 (by decide) (by decide) (by decide) z]; rfl)) (Tr.all_ite (fun _ => Tr.all_ok ⟨rfl, ht rfl, hd _ rfl, fun js => ⟨rfl, fun aa ww hat => ⟨_, at_tm (p' := pre2 n0 n1 false i (.v (ii 5))) (by (repeat' apply And.intro) <;> first | rfl | trivial) hat, c + 1, js, by omega, by omega, rfl⟩⟩⟩) fun _ => Tr.all_ok ⟨rfl, ht rfl, hd _ rfl, fun js => ⟨rfl, fun aa ww hat => ⟨_, at_tm (p' := pre2 n0 n1 false i (.v (ii 5))) (by (repeat' apply And.intro) <;> first | rfl | trivial) hat, c, js, by omega, by omega, rfl⟩⟩⟩)
        · refine Tri.preE fun aa ww hat => ⟨_, at_tm (p' := pre2 n0 n1 false i (.v (.int .i64 (.lit 6)))) (by (repeat' apply And.intro) <;> first | rfl | trivial) hat, ?_⟩
          exact Tri.allR (m := 22) (n := 123) (codeOK _) (cS6 n0 n1 i c c2 md N (A 0) (A 1) (A 2) (A 3) (A 4) (A 5) (A 6) (A 7) (L 0) (L 1) (L 2) (L 3) (L 4) (L 5) (L 6) (L 7) ts ls xs ws tr ob os ot js hx ⟨hc0, by omega⟩ hN hwl (hr 6 (by decide) (by decide)) (by rw [hL 6 (by decide) (by decide)]; simp) (fun z => by have z : A 6 ≠ 0 := (by simpa using z); rw [hm 6 (by decide) (by decide) (by decide) z]; rfl)) (Tr.all_ite (fun _ => Tr.all_ok ⟨rfl, ht rfl, hd _ rfl, fun js => ⟨rfl, fun aa ww hat => ⟨_, at_tm (p' := pre2 n0 n1 false i (.v (ii 6))) (by (repeat' apply And.intro) <;> first | rfl | trivial) hat, c + 1, js, by omega, by omega, rfl⟩⟩⟩) fun _ => Tr.all_ok ⟨rfl, ht rfl, hd _ rfl, fun js => ⟨rfl, fun aa ww hat => ⟨_, at_tm (p' := pre2 n0 n1 false i (.v (ii 6))) (by (repeat' apply And.intro) <;> first | rfl | trivial) hat, c, js, by omega, by omega, rfl⟩⟩⟩)
        · refine Tri.preE fun aa ww hat => ⟨_, at_tm (p' := pre2 n0 n1 false i (.v (.int .i64 (.lit 7)))) (by (repeat' apply And.intro) <;> first | rfl | trivial) hat, ?_⟩
          exact Tri.allR (m := 22) (n := 123) (codeOK _) (cS7 n0 n1 i c c2 md N (A 0) (A 1) (A 2) (A 3) (A 4) (A 5) (A 6) (A 7) (L 0) (L 1) (L 2) (L 3) (L 4) (L 5) (L 6) (L 7) ts ls xs ws tr ob os ot js hx ⟨hc0, by omega⟩ hN hwl (hr 7 (by decide) (by decide)) (by rw [hL 7 (by decide) (by decide)]; simp) (fun z => by have z : A 7 ≠ 0 := (by simpa using z); rw [hm 7 (by decide) (by decide) (by decide) z]; rfl)) (Tr.all_ite (fun _ => Tr.all_ok ⟨rfl, ht rfl, hd _ rfl, fun js => ⟨rfl, fun aa ww hat => ⟨_, at_tm (p' := pre2 n0 n1 false i (.v (ii 7))) (by (repeat' apply And.intro) <;> first | rfl | trivial) hat, c + 1, js, by omega, by omega, rfl⟩⟩⟩) fun _ => Tr.all_ok ⟨rfl, ht rfl, hd _ rfl, fun js => ⟨rfl, fun aa ww hat => ⟨_, at_tm (p' := pre2 n0 n1 false i (.v (ii 7))) (by (repeat' apply And.intro) <;> first | rfl | trivial) hat, c, js, by omega, by omega, rfl⟩⟩⟩)
      · rintro st ⟨_, c', js, h3, h4, rfl⟩
        have e4 : W (j + 1) = j + 1 := W_of (by omega) (by omega)
        refine Tri.allR (m := 22) (n := 123) (codeOK _) (inc2 n0 n1 i c' c2 md N (A 0) (A 1) (A 2) (A 3) (A 4) (A 5) (A 6) (A 7) (L 0) (L 1) (L 2) (L 3) (L 4) (L 5) (L 6) (L 7) ts ls xs ws tr ob os ot js false j hx ⟨by omega, by omega⟩ hN hwl) (Tr.all_ok ⟨rfl, ht rfl, hd _ rfl, fun js => ⟨(8 - (j + 1)).toNat, by omega, j + 1, c', js, by omega, by omega, by omega, by omega, ?_, rfl⟩⟩)
        show (⟨pre2 n0 n1 false i (.v (ii (W (j + 1)))) ++ junk js 123 22, base2 ts ls xs ws c' c2 md N (A 0) (A 1) (A 2) (A 3) (A 4) (A 5) (A 6) (A 7) (L 0) (L 1) (L 2) (L 3) (L 4) (L 5) (L 6) (L 7) tr ob os ot, 14, []⟩ : St MObj) = _
        rw [e4]
    · rintro x st hx ⟨js, rfl, h | h⟩
      · exact absurd h.1 hx
      · obtain ⟨rfl, hge⟩ := h
        exact ⟨rfl, c, j, js, hc0, by omega, rfl⟩
  · rintro st ⟨_, c, j, js, hc0, hc1, rfl⟩
    exact Tri.allR (m := 22) (n := 123) (codeOK _) (fin2 n0 n1 i c c2 md N (A 0) (A 1) (A 2) (A 3) (A 4) (A 5) (A 6) (A 7) (L 0) (L 1) (L 2) (L 3) (L 4) (L 5) (L 6) (L 7) ts ls xs ws tr ob os ot js false j hx ⟨hc0, by omega⟩ hN hwl)
      (Tr.all_ok ⟨rfl, ht rfl, hd _ rfl, fun js => ⟨.inr rfl, _, (congrArg Tr.run (resX _ _ _ _ _ _ _ _ _ _ _ _ _ _ _ _ _ _ _ _ _ _ _ js)).trans rfl, by simp [IsTrue, tupleOf]; rfl⟩⟩)
theorem afterF {i c c2 r : Int} {xs : List Int} {L : Int → Int} (hL : ∀ j, 0 ≤ j → j < 8 → L j = fixed A ws j) (hx : xs.length = 160) (hc : 0 ≤ c ∧ c ≤ 90000) (js : Nat → SV) :
    Tri MS Try.prog E rest1 ⟨pre n0 n1 true true i ++ junk js 127 18, base ts ls xs ws c c2 8 N (A 0) (A 1) (A 2) (A 3) (A 4) (A 5) (A 6) (A 7) ++ [(8, (some (po 5 8 1 0 5 8 1 0 N (L 0) (L 1) (L 2) (L 3) (L 4) (L 5) (L 6) (L 7) 5 r .nilp)))], 10, []⟩ Q := by
  have hd : ∀ (l : List Nat), l.all (Nat.ble 2) = true → ∀ b, b ∈ l → E.D b := fun l hl b hb => hD b (Nat.le_of_ble_eq_true (List.all_eq_true.1 hl b hb))
  have ht : ∀ {k : Nat}, Nat.ble k 30 = true → k ≤ E.top := fun h => by rw [hT]; exact Nat.le_of_ble_eq_true h
  have hN := hk.hN
  refine Tri.listR (m := 21) (n := 124) (l := [codeAt body [true, true, true, true, true, true, true, true, true, true, true, true, true, false], codeAt body [true, true, true, true, true, true, true, true, true, true, true, true, true, true, false]]) (c' := rest2) codeOK 2 rfl rfl
    (resF n0 n1 true i c c2 N (A 0) (A 1) (A 2) (A 3) (A 4) (A 5) (A 6) (A 7) (L 0) (L 1) (L 2) (L 3) (L 4) (L 5) (L 6) (L 7) r ts ls xs ws js hx ⟨hc.1, by omega⟩ hN) (Tr.all_ok ⟨rfl, rfl, ht rfl, hd _ rfl, fun js => ?_⟩)
  refine Tri.preE fun aa ww hat => ?_
  obtain ⟨js1, hq1⟩ := at_rename (dirty' := []) (m := 21) (n := 124) rG (nid' := 12) rfl (by simp [length_junk]) rfl rfl (by rw [hE]; rfl) (by rw [hE]; decide) (by rw [hT]; decide) hat
  have hq1 : At MS E ⟨pre n0 n1 true true i ++ [.v (.ptr 10 0), .v (ii 0), .v (.ptr 11 0)] ++ junk js1 124 21, base ts ls xs ws c c2 8 N (A 0) (A 1) (A 2) (A 3) (A 4) (A 5) (A 6) (A 7) ++ [(8, (some (po 5 8 1 0 5 8 1 0 N (L 0) (L 1) (L 2) (L 3) (L 4) (L 5) (L 6) (L 7) 5 r .nilp))), (10, some (.cells [ii 5, ii 8, ii 1, ii 0] 34)), (11, some (.cells (rc N (L 0) (L 1) (L 2) (L 3) (L 4) (L 5) (L 6) (L 7)) 39))], 12, []⟩ aa ww := hq1
  obtain ⟨tr, o2, htr, _, hq2⟩ := at_memopen (b := 3) rfl (hD 3 (by decide)) (by rw [hT]; decide) hq1
  refine ⟨_, hq2, ?_⟩
  refine Tri.preHp (hp' := base2 ts ls xs ws c c2 8 N (A 0) (A 1) (A 2) (A 3) (A 4) (A 5) (A 6) (A 7) (L 0) (L 1) (L 2) (L 3) (L 4) (L 5) (L 6) (L 7) tr (some (po 5 8 1 0 5 8 1 0 N (L 0) (L 1) (L 2) (L 3) (L 4) (L 5) (L 6) (L 7) 5 r .nilp)) none o2) ?_ ?_
  · intro q
    cases o2 with
    | none =>
      match q with
      | 0 => rfl
      | 1 => rfl
      | 2 => rfl
      | 3 => rfl
      | 4 => rfl
      | 5 => rfl
      | 6 => rfl
      | 7 => rfl
      | 8 => rfl
      | 9 => rfl
      | 10 => rfl
      | 11 => rfl
      | 12 => rfl
      | 13 => rfl
      | q + 14 => rfl
    | some o =>
      match q with
      | 0 => rfl
      | 1 => rfl
      | 2 => rfl
      | 3 => rfl
      | 4 => rfl
      | 5 => rfl
      | 6 => rfl
      | 7 => rfl
      | 8 => rfl
      | 9 => rfl
      | 10 => rfl
      | 11 => rfl
      | 12 => rfl
      | 13 => rfl
      | q + 14 => rfl
  · exact lastF E hE hT hD hk (L := L) hx ⟨hc.1, hc.2⟩ hL (js1 21) js1
theorem afterN {i c c2 r : Int} {xs : List Int} (hm : Marked A xs 8) (hx : xs.length = 160) (hc : 0 ≤ c ∧ c ≤ 90000) (js : Nat → SV) :
    Tri MS Try.prog E rest1 ⟨pre n0 n1 false true i ++ junk js 127 18, base ts ls xs ws c c2 2 N (A 0) (A 1) (A 2) (A 3) (A 4) (A 5) (A 6) (A 7) ++ [(8, (some (po 5 2 1 0 5 2 1 0 N (A 0) (A 1) (A 2) (A 3) (A 4) (A 5) (A 6) (A 7) 5 r .nilp)))], 10, []⟩ Q := by
  have hd : ∀ (l : List Nat), l.all (Nat.ble 2) = true → ∀ b, b ∈ l → E.D b := fun l hl b hb => hD b (Nat.le_of_ble_eq_true (List.all_eq_true.1 hl b hb))
  have ht : ∀ {k : Nat}, Nat.ble k 30 = true → k ≤ E.top := fun h => by rw [hT]; exact Nat.le_of_ble_eq_true h
  have hN := hk.hN
  refine Tri.listR (m := 21) (n := 124) (l := [codeAt body [true, true, true, true, true, true, true, true, true, true, true, true, true, false], codeAt body [true, true, true, true, true, true, true, true, true, true, true, true, true, true, false]]) (c' := rest2) codeOK 2 rfl rfl
    (resN n0 n1 false i c c2 N (A 0) (A 1) (A 2) (A 3) (A 4) (A 5) (A 6) (A 7) (A 0) (A 1) (A 2) (A 3) (A 4) (A 5) (A 6) (A 7) r ts ls xs ws js hx ⟨hc.1, by omega⟩ hN) (Tr.all_ok ⟨rfl, rfl, ht rfl, hd _ rfl, fun js => ?_⟩)
  refine Tri.preE fun aa ww hat => ?_
  obtain ⟨js1, hq1⟩ := at_rename (dirty' := []) (m := 21) (n := 124) rG (nid' := 12) rfl (by simp [length_junk]) rfl rfl (by rw [hE]; rfl) (by rw [hE]; decide) (by rw [hT]; decide) hat
  have hq1 : At MS E ⟨pre n0 n1 false true i ++ [.v (.ptr 10 0), .v (ii 0), .v (.ptr 11 0)] ++ junk js1 124 21, base ts ls xs ws c c2 2 N (A 0) (A 1) (A 2) (A 3) (A 4) (A 5) (A 6) (A 7) ++ [(8, (some (po 5 2 1 0 5 2 1 0 N (A 0) (A 1) (A 2) (A 3) (A 4) (A 5) (A 6) (A 7) 5 r .nilp))), (10, some (.cells [ii 5, ii 2, ii 1, ii 0] 34)), (11, some (.cells (rc N (A 0) (A 1) (A 2) (A 3) (A 4) (A 5) (A 6) (A 7)) 39))], 12, []⟩ aa ww := hq1
  obtain ⟨tr, o2, htr, _, hq2⟩ := at_memopen (b := 3) rfl (hD 3 (by decide)) (by rw [hT]; decide) hq1
  refine ⟨_, hq2, ?_⟩
  refine Tri.preHp (hp' := base2 ts ls xs ws c c2 2 N (A 0) (A 1) (A 2) (A 3) (A 4) (A 5) (A 6) (A 7) (A 0) (A 1) (A 2) (A 3) (A 4) (A 5) (A 6) (A 7) tr (some (po 5 2 1 0 5 2 1 0 N (A 0) (A 1) (A 2) (A 3) (A 4) (A 5) (A 6) (A 7) 5 r .nilp)) none o2) ?_ ?_
  · intro q
    cases o2 with
    | none =>
      match q with
      | 0 => rfl
      | 1 => rfl
      | 2 => rfl
      | 3 => rfl
      | 4 => rfl
      | 5 => rfl
      | 6 => rfl
      | 7 => rfl
      | 8 => rfl
      | 9 => rfl
      | 10 => rfl
      | 11 => rfl
      | 12 => rfl
      | 13 => rfl
      | q + 14 => rfl
    | some o =>
      match q with
      | 0 => rfl
      | 1 => rfl
      | 2 => rfl
      | 3 => rfl
      | 4 => rfl
      | 5 => rfl
      | 6 => rfl
      | 7 => rfl
      | 8 => rfl
      | 9 => rfl
      | 10 => rfl
      | 11 => rfl
      | 12 => rfl
      | 13 => rfl
      | q + 14 => rfl
  · exact lastS E hE hT hD hk (L := A) hx ⟨hc.1, hc.2⟩ (fun _ _ _ => rfl) hm (js1 21) js1
theorem afterP {i c c2 r : Int} {xs : List Int} {a w h0 h1 h2 h3 h4 h5 h6 : Int} (hm : Marked A xs 8) (hx : xs.length = 160) (hc : 0 ≤ c ∧ c ≤ 90000) (js : Nat → SV) :
    Tri MS Try.prog E rest1 ⟨pre n0 n1 false true i ++ junk js 127 18, base ts ls xs ws c c2 2 N (A 0) (A 1) (A 2) (A 3) (A 4) (A 5) (A 6) (A 7) ++ [(8, (some (po 5 2 1 0 5 2 1 0 N (A 0) (A 1) (A 2) (A 3) (A 4) (A 5) (A 6) (A 7) 5 r (.ptr 9 0)))), (9, (some (sd a 1 5 w h0 h1 h2 h3 h4 h5 h6)))], 10, []⟩ Q := by
  have hd : ∀ (l : List Nat), l.all (Nat.ble 2) = true → ∀ b, b ∈ l → E.D b := fun l hl b hb => hD b (Nat.le_of_ble_eq_true (List.all_eq_true.1 hl b hb))
  have ht : ∀ {k : Nat}, Nat.ble k 30 = true → k ≤ E.top := fun h => by rw [hT]; exact Nat.le_of_ble_eq_true h
  have hN := hk.hN
  refine Tri.listR (m := 21) (n := 124) (l := [codeAt body [true, true, true, true, true, true, true, true, true, true, true, true, true, false], codeAt body [true, true, true, true, true, true, true, true, true, true, true, true, true, true, false]]) (c' := rest2) codeOK 2 rfl rfl
    (resP n0 n1 false i c c2 N (A 0) (A 1) (A 2) (A 3) (A 4) (A 5) (A 6) (A 7) (A 0) (A 1) (A 2) (A 3) (A 4) (A 5) (A 6) (A 7) r ts ls xs ws js a w h0 h1 h2 h3 h4 h5 h6 hx ⟨hc.1, by omega⟩ hN) (Tr.all_ok ⟨rfl, rfl, ht rfl, hd _ rfl, fun js => ?_⟩)
  refine Tri.preE fun aa ww hat => ?_
  obtain ⟨js1, hq1⟩ := at_rename (dirty' := []) (m := 21) (n := 124) rH (nid' := 12) rfl (by simp [length_junk]) rfl rfl (by rw [hE]; rfl) (by rw [hE]; decide) (by rw [hT]; decide) hat
  have hq1 : At MS E ⟨pre n0 n1 false true i ++ [.v (.ptr 10 0), .v (ii 0), .v (.ptr 11 0)] ++ junk js1 124 21, base ts ls xs ws c c2 2 N (A 0) (A 1) (A 2) (A 3) (A 4) (A 5) (A 6) (A 7) ++ [(8, (some (po 5 2 1 0 5 2 1 0 N (A 0) (A 1) (A 2) (A 3) (A 4) (A 5) (A 6) (A 7) 5 r (.ptr 9 0)))), (9, (some (sd a 1 5 w h0 h1 h2 h3 h4 h5 h6))), (10, some (.cells [ii 5, ii 2, ii 1, ii 0] 34)), (11, some (.cells (rc N (A 0) (A 1) (A 2) (A 3) (A 4) (A 5) (A 6) (A 7)) 39))], 12, []⟩ aa ww := hq1
  obtain ⟨tr, o2, htr, _, hq2⟩ := at_memopen (b := 3) rfl (hD 3 (by decide)) (by rw [hT]; decide) hq1
  refine ⟨_, hq2, ?_⟩
  refine Tri.preHp (hp' := base2 ts ls xs ws c c2 2 N (A 0) (A 1) (A 2) (A 3) (A 4) (A 5) (A 6) (A 7) (A 0) (A 1) (A 2) (A 3) (A 4) (A 5) (A 6) (A 7) tr (some (po 5 2 1 0 5 2 1 0 N (A 0) (A 1) (A 2) (A 3) (A 4) (A 5) (A 6) (A 7) 5 r (.ptr 9 0))) (some (sd a 1 5 w h0 h1 h2 h3 h4 h5 h6)) o2) ?_ ?_
  · intro q
    cases o2 with
    | none =>
      match q with
      | 0 => rfl
      | 1 => rfl
      | 2 => rfl
      | 3 => rfl
      | 4 => rfl
      | 5 => rfl
      | 6 => rfl
      | 7 => rfl
      | 8 => rfl
      | 9 => rfl
      | 10 => rfl
      | 11 => rfl
      | 12 => rfl
      | 13 => rfl
      | q + 14 => rfl
    | some o =>
      match q with
      | 0 => rfl
      | 1 => rfl
      | 2 => rfl
      | 3 => rfl
      | 4 => rfl
      | 5 => rfl
      | 6 => rfl
      | 7 => rfl
      | 8 => rfl
      | 9 => rfl
      | 10 => rfl
      | 11 => rfl
      | 12 => rfl
      | 13 => rfl
      | q + 14 => rfl
  · exact lastS E hE hT hD hk (L := A) hx ⟨hc.1, hc.2⟩ (fun _ _ _ => rfl) hm (js1 21) js1
def JF (n0 n1 : Nat) (N : Int) (ts ls : List (List Int)) (ws : List Int) (A : Int → Int) (c2 i : Int) (st : St MObj) : Prop :=
  ∃ (xs : List Int) (L : Int → Int) (s : FT) (c : Int) (js : Nat → SV), InvF N A ws xs L s ∧ 0 ≤ potF s ∧ potF s + i ≤ 10 ∧ 0 ≤ c ∧ c ≤ 300 + i ∧ st = SF n0 n1 (i) ts ls xs ws c c2 N A L s js
def DF (n0 n1 : Nat) (N : Int) (ts ls : List (List Int)) (ws : List Int) (A : Int → Int) (c2 : Int) (st : St MObj) : Prop :=
  ∃ (i : Int) (xs : List Int) (L : Int → Int) (s : FT) (c : Int) (js : Nat → SV), InvF N A ws xs L s ∧ dF s = true ∧ 0 ≤ c ∧ c ≤ 90000 ∧ st = SF n0 n1 (i) ts ls xs ws c c2 N A L s js
theorem guardF {i c c2 : Int} {xs : List Int} {L : Int → Int} {s : FT} (hx : xs.length = 160) (hc : 0 ≤ c ∧ c ≤ 90000) (hi : i < 60) (js : Nat → SV) : Tri MS Try.prog E (at1 [false]) (SF n0 n1 (i) ts ls xs ws c c2 N A L s js) fun x st => ∃ js, st = SF n0 n1 (i) ts ls xs ws c c2 N A L s js ∧ ((x = .normal ∧ dF s = false) ∨ (x = .exit 0 ∧ dF s = true)) := by
  have hd : ∀ (l : List Nat), l.all (Nat.ble 2) = true → ∀ b, b ∈ l → E.D b := fun l hl b hb => hD b (Nat.le_of_ble_eq_true (List.all_eq_true.1 hl b hb))
  have ht : ∀ {k : Nat}, Nat.ble k 30 = true → k ≤ E.top := fun h => by rw [hT]; exact Nat.le_of_ble_eq_true h
  have hN := hk.hN
  have hc5 : 0 ≤ c ∧ c ≤ 100000 := ⟨hc.1, by omega⟩
  cases s with
  | look => exact Tri.allR (m := 18) (n := 127) (codeOK _) (gfalse n0 n1 true i c c2 N (A 0) (A 1) (A 2) (A 3) (A 4) (A 5) (A 6) (A 7) ts ls xs ws js (some (oF N L (.look))) 8 hx hc5 hN) (Tr.all_ite (fun _ => Tr.all_ok ⟨rfl, ht rfl, hd _ rfl, fun js => ⟨js, rfl, .inl ⟨rfl, rfl⟩⟩⟩) fun q => absurd hi (of_decide_eq_false q))
  | fix r => exact Tri.allR (m := 18) (n := 127) (codeOK _) (gfalse n0 n1 true i c c2 N (A 0) (A 1) (A 2) (A 3) (A 4) (A 5) (A 6) (A 7) ts ls xs ws js (some (oF N L (.fix r))) 8 hx hc5 hN) (Tr.all_ite (fun _ => Tr.all_ok ⟨rfl, ht rfl, hd _ rfl, fun js => ⟨js, rfl, .inl ⟨rfl, rfl⟩⟩⟩) fun q => absurd hi (of_decide_eq_false q))
  | tell r => exact Tri.allR (m := 18) (n := 127) (codeOK _) (gfalse n0 n1 true i c c2 N (A 0) (A 1) (A 2) (A 3) (A 4) (A 5) (A 6) (A 7) ts ls xs ws js (some (oF N L (.tell r))) 8 hx hc5 hN) (Tr.all_ite (fun _ => Tr.all_ok ⟨rfl, ht rfl, hd _ rfl, fun js => ⟨js, rfl, .inl ⟨rfl, rfl⟩⟩⟩) fun q => absurd hi (of_decide_eq_false q))
  | over r => exact Tri.allR (m := 18) (n := 127) (codeOK _) (gtrue n0 n1 true i c c2 N (A 0) (A 1) (A 2) (A 3) (A 4) (A 5) (A 6) (A 7) ts ls xs ws js (some (oF N L (.over r))) 8 hx hc5 hN) (Tr.all_ite (fun _ => Tr.all_ok ⟨rfl, ht rfl, hd _ rfl, fun js => ⟨js, rfl, .inr ⟨rfl, rfl⟩⟩⟩) fun q => absurd hi (of_decide_eq_false q))
theorem incF {i c c2 : Int} {xs : List Int} {L : Int → Int} {s : FT} (hx : xs.length = 160) (hc : 0 ≤ c ∧ c ≤ 90000) (hi : 0 ≤ i ∧ i < 60) (js : Nat → SV) : Tri MS Try.prog E (at1 [true, true]) (SF n0 n1 (i) ts ls xs ws c c2 N A L s js) fun x st => x = .normal ∧ ∃ js, st = SF n0 n1 (i + 1) ts ls xs ws c c2 N A L s js := by
  have hd : ∀ (l : List Nat), l.all (Nat.ble 2) = true → ∀ b, b ∈ l → E.D b := fun l hl b hb => hD b (Nat.le_of_ble_eq_true (List.all_eq_true.1 hl b hb))
  have ht : ∀ {k : Nat}, Nat.ble k 30 = true → k ≤ E.top := fun h => by rw [hT]; exact Nat.le_of_ble_eq_true h
  have hN := hk.hN
  have hc5 : 0 ≤ c ∧ c ≤ 100000 := ⟨hc.1, by omega⟩
  have e4 : W (i + 1) = i + 1 := W_of (by omega) (by omega)
  cases s with
  | look =>
    refine Tri.allR (m := 18) (n := 127) (codeOK _) (incfalse n0 n1 true i c c2 N (A 0) (A 1) (A 2) (A 3) (A 4) (A 5) (A 6) (A 7) ts ls xs ws js (some (oF N L (.look))) 8 hx hc5 hN) (Tr.all_ok ⟨rfl, ht rfl, hd _ rfl, fun js => ⟨rfl, js, ?_⟩⟩)
    show (⟨pre n0 n1 true false (W (i + 1)) ++ junk js 127 18, base ts ls xs ws c c2 8 N (A 0) (A 1) (A 2) (A 3) (A 4) (A 5) (A 6) (A 7) ++ [(8, (some (oF N L (.look))))], 10, []⟩ : St MObj) = _
    rw [e4]; rfl
  | fix r =>
    refine Tri.allR (m := 18) (n := 127) (codeOK _) (incfalse n0 n1 true i c c2 N (A 0) (A 1) (A 2) (A 3) (A 4) (A 5) (A 6) (A 7) ts ls xs ws js (some (oF N L (.fix r))) 8 hx hc5 hN) (Tr.all_ok ⟨rfl, ht rfl, hd _ rfl, fun js => ⟨rfl, js, ?_⟩⟩)
    show (⟨pre n0 n1 true false (W (i + 1)) ++ junk js 127 18, base ts ls xs ws c c2 8 N (A 0) (A 1) (A 2) (A 3) (A 4) (A 5) (A 6) (A 7) ++ [(8, (some (oF N L (.fix r))))], 10, []⟩ : St MObj) = _
    rw [e4]; rfl
  | tell r =>
    refine Tri.allR (m := 18) (n := 127) (codeOK _) (incfalse n0 n1 true i c c2 N (A 0) (A 1) (A 2) (A 3) (A 4) (A 5) (A 6) (A 7) ts ls xs ws js (some (oF N L (.tell r))) 8 hx hc5 hN) (Tr.all_ok ⟨rfl, ht rfl, hd _ rfl, fun js => ⟨rfl, js, ?_⟩⟩)
    show (⟨pre n0 n1 true false (W (i + 1)) ++ junk js 127 18, base ts ls xs ws c c2 8 N (A 0) (A 1) (A 2) (A 3) (A 4) (A 5) (A 6) (A 7) ++ [(8, (some (oF N L (.tell r))))], 10, []⟩ : St MObj) = _
    rw [e4]; rfl
  | over r =>
    refine Tri.allR (m := 18) (n := 127) (codeOK _) (inctrue n0 n1 true i c c2 N (A 0) (A 1) (A 2) (A 3) (A 4) (A 5) (A 6) (A 7) ts ls xs ws js (some (oF N L (.over r))) 8 hx hc5 hN) (Tr.all_ok ⟨rfl, ht rfl, hd _ rfl, fun js => ⟨rfl, js, ?_⟩⟩)
    show (⟨pre n0 n1 true true (W (i + 1)) ++ junk js 127 18, base ts ls xs ws c c2 8 N (A 0) (A 1) (A 2) (A 3) (A 4) (A 5) (A 6) (A 7) ++ [(8, (some (oF N L (.over r))))], 10, []⟩ : St MObj) = _
    rw [e4]; rfl
theorem loopF {c2 : Int} {st : St MObj} (h : JF n0 n1 N ts ls ws A c2 0 st) : Tri MS Try.prog E (.block 0 (.loop (.seq (at1 [false]) (.seq (.block 1 (at1 [true, false, false])) (at1 [true, true]))))) st fun x st => x = .normal ∧ DF n0 n1 N ts ls ws A c2 st := by
  refine Tri.block (R := fun x s => x = .exit 0 ∧ DF n0 n1 N ts ls ws A c2 s) ?_ (fun s hh => by
    rcases hh with hh | hh
    · cases hh.1
    · exact ⟨rfl, hh.2⟩) (fun x s _ hx hh => absurd hh.1 hx)
  refine Tri.loop (J := fun q s => ∃ i : Int, 0 ≤ i ∧ JF n0 n1 N ts ls ws A c2 i s ∧ q = (60 - i).toNat) ?_ (k := 60) ⟨0, by decide, h, rfl⟩
  rintro q st ⟨i, h0, ⟨xs, L, s, c, js, hv, hp0, hp1, hc0, hc1, rfl⟩, rfl⟩
  refine Tri.seq (guardF E hE hT hD hk hv.len ⟨hc0, by omega⟩ (by omega) js) ?_ ?_
  · rintro st ⟨js, rfl, h | h⟩
    rotate_left
    · cases h.1
    refine Tri.seq (R := fun x st => x = .normal ∧ ∃ xs' L' s' c' js, InvF N A ws xs' L' s' ∧ potF s' < potF s ∧ 0 ≤ potF s' ∧ c ≤ c' ∧ c' ≤ c + 1 ∧ st = SF n0 n1 (i) ts ls xs' ws c' c2 N A L' s' js) (Tri.block (stepF E hE hT hD hk ⟨hc0, by omega⟩ hv h.2 js) (fun s hh => by
      rcases hh with hh | hh
      · exact hh
      · cases hh.1) (fun x s hx _ hh => absurd hh.1 hx)) ?_ (fun x s hx hh => absurd hh.1 hx)
    rintro st ⟨_, xs', L', s', c', js, hv', g1, g2, g3, g4, rfl⟩
    refine (incF E hE hT hD hk hv'.len ⟨by omega, by omega⟩ ⟨h0, by omega⟩ js).mono ?_
    rintro x st ⟨rfl, js, rfl⟩
    exact ⟨(60 - (i + 1)).toNat, by omega, i + 1, by omega, ⟨xs', L', s', c', js, hv', g2, by omega, by omega, by omega, rfl⟩, rfl⟩
  · rintro x st hx ⟨js, rfl, h | h⟩
    · exact absurd h.1 hx
    · obtain ⟨rfl, hd⟩ := h
      exact ⟨rfl, i, xs, L, s, c, js, hv, hd, hc0, by omega, rfl⟩
def JR (n0 n1 : Nat) (N : Int) (ts ls : List (List Int)) (ws : List Int) (A : Int → Int) (c2 i : Int) (st : St MObj) : Prop :=
  ∃ (xs : List Int) (s : RT) (c : Int) (js : Nat → SV), InvR N A xs s ∧ 0 ≤ potR s ∧ potR s + i ≤ 42 ∧ 0 ≤ c ∧ c ≤ 300 + i ∧ st = SR n0 n1 (i) ts ls xs ws c c2 N A s js
def DR (n0 n1 : Nat) (N : Int) (ts ls : List (List Int)) (ws : List Int) (A : Int → Int) (c2 : Int) (st : St MObj) : Prop :=
  ∃ (i : Int) (xs : List Int) (s : RT) (c : Int) (js : Nat → SV), InvR N A xs s ∧ dR s = true ∧ 0 ≤ c ∧ c ≤ 90000 ∧ st = SR n0 n1 (i) ts ls xs ws c c2 N A s js
theorem guardR {i c c2 : Int} {xs : List Int} {s : RT} (hx : xs.length = 160) (hc : 0 ≤ c ∧ c ≤ 90000) (hi : i < 60) (js : Nat → SV) : Tri MS Try.prog E (at1 [false]) (SR n0 n1 (i) ts ls xs ws c c2 N A s js) fun x st => ∃ js, st = SR n0 n1 (i) ts ls xs ws c c2 N A s js ∧ ((x = .normal ∧ dR s = false) ∨ (x = .exit 0 ∧ dR s = true)) := by
  have hd : ∀ (l : List Nat), l.all (Nat.ble 2) = true → ∀ b, b ∈ l → E.D b := fun l hl b hb => hD b (Nat.le_of_ble_eq_true (List.all_eq_true.1 hl b hb))
  have ht : ∀ {k : Nat}, Nat.ble k 30 = true → k ≤ E.top := fun h => by rw [hT]; exact Nat.le_of_ble_eq_true h
  have hN := hk.hN
  have hc5 : 0 ≤ c ∧ c ≤ 100000 := ⟨hc.1, by omega⟩
  cases s with
  | look => exact Tri.allR (m := 18) (n := 127) (codeOK _) (gfalse n0 n1 false i c c2 N (A 0) (A 1) (A 2) (A 3) (A 4) (A 5) (A 6) (A 7) ts ls xs ws js (some (oR N A (.look))) 2 hx hc5 hN) (Tr.all_ite (fun _ => Tr.all_ok ⟨rfl, ht rfl, hd _ rfl, fun js => ⟨js, rfl, .inl ⟨rfl, rfl⟩⟩⟩) fun q => absurd hi (of_decide_eq_false q))
  | sh r k w h0 h1 h2 h3 h4 h5 h6 => exact Tri.allR (m := 18) (n := 127) (codeOK _) (gfalse2 n0 n1 false i c c2 N (A 0) (A 1) (A 2) (A 3) (A 4) (A 5) (A 6) (A 7) ts ls xs ws js (some (oR N A (.sh r k w h0 h1 h2 h3 h4 h5 h6))) (some (sd (A r) 1 k w h0 h1 h2 h3 h4 h5 h6)) 2 hx hc5 hN) (Tr.all_ite (fun _ => Tr.all_ok ⟨rfl, ht rfl, hd _ rfl, fun js => ⟨js, rfl, .inl ⟨rfl, rfl⟩⟩⟩) fun q => absurd hi (of_decide_eq_false q))
  | tell r => exact Tri.allR (m := 18) (n := 127) (codeOK _) (gfalse n0 n1 false i c c2 N (A 0) (A 1) (A 2) (A 3) (A 4) (A 5) (A 6) (A 7) ts ls xs ws js (some (oR N A (.tell r))) 2 hx hc5 hN) (Tr.all_ite (fun _ => Tr.all_ok ⟨rfl, ht rfl, hd _ rfl, fun js => ⟨js, rfl, .inl ⟨rfl, rfl⟩⟩⟩) fun q => absurd hi (of_decide_eq_false q))
  | over r => exact Tri.allR (m := 18) (n := 127) (codeOK _) (gtrue n0 n1 false i c c2 N (A 0) (A 1) (A 2) (A 3) (A 4) (A 5) (A 6) (A 7) ts ls xs ws js (some (oR N A (.over r))) 2 hx hc5 hN) (Tr.all_ite (fun _ => Tr.all_ok ⟨rfl, ht rfl, hd _ rfl, fun js => ⟨js, rfl, .inr ⟨rfl, rfl⟩⟩⟩) fun q => absurd hi (of_decide_eq_false q))
  | tellP r a w h0 h1 h2 h3 h4 h5 h6 => exact Tri.allR (m := 18) (n := 127) (codeOK _) (gfalse2 n0 n1 false i c c2 N (A 0) (A 1) (A 2) (A 3) (A 4) (A 5) (A 6) (A 7) ts ls xs ws js (some (oR N A (.tellP r a w h0 h1 h2 h3 h4 h5 h6))) (some (sd a 1 5 w h0 h1 h2 h3 h4 h5 h6)) 2 hx hc5 hN) (Tr.all_ite (fun _ => Tr.all_ok ⟨rfl, ht rfl, hd _ rfl, fun js => ⟨js, rfl, .inl ⟨rfl, rfl⟩⟩⟩) fun q => absurd hi (of_decide_eq_false q))
  | overP r a w h0 h1 h2 h3 h4 h5 h6 => exact Tri.allR (m := 18) (n := 127) (codeOK _) (gtrue2 n0 n1 false i c c2 N (A 0) (A 1) (A 2) (A 3) (A 4) (A 5) (A 6) (A 7) ts ls xs ws js (some (oR N A (.overP r a w h0 h1 h2 h3 h4 h5 h6))) (some (sd a 1 5 w h0 h1 h2 h3 h4 h5 h6)) 2 hx hc5 hN) (Tr.all_ite (fun _ => Tr.all_ok ⟨rfl, ht rfl, hd _ rfl, fun js => ⟨js, rfl, .inr ⟨rfl, rfl⟩⟩⟩) fun q => absurd hi (of_decide_eq_false q))
theorem incR {i c c2 : Int} {xs : List Int} {s : RT} (hx : xs.length = 160) (hc : 0 ≤ c ∧ c ≤ 90000) (hi : 0 ≤ i ∧ i < 60) (js : Nat → SV) : Tri MS Try.prog E (at1 [true, true]) (SR n0 n1 (i) ts ls xs ws c c2 N A s js) fun x st => x = .normal ∧ ∃ js, st = SR n0 n1 (i + 1) ts ls xs ws c c2 N A s js := by
  have hd : ∀ (l : List Nat), l.all (Nat.ble 2) = true → ∀ b, b ∈ l → E.D b := fun l hl b hb => hD b (Nat.le_of_ble_eq_true (List.all_eq_true.1 hl b hb))
  have ht : ∀ {k : Nat}, Nat.ble k 30 = true → k ≤ E.top := fun h => by rw [hT]; exact Nat.le_of_ble_eq_true h
  have hN := hk.hN
  have hc5 : 0 ≤ c ∧ c ≤ 100000 := ⟨hc.1, by omega⟩
  have e4 : W (i + 1) = i + 1 := W_of (by omega) (by omega)
  cases s with
  | look =>
    refine Tri.allR (m := 18) (n := 127) (codeOK _) (incfalse n0 n1 false i c c2 N (A 0) (A 1) (A 2) (A 3) (A 4) (A 5) (A 6) (A 7) ts ls xs ws js (some (oR N A (.look))) 2 hx hc5 hN) (Tr.all_ok ⟨rfl, ht rfl, hd _ rfl, fun js => ⟨rfl, js, ?_⟩⟩)
    show (⟨pre n0 n1 false false (W (i + 1)) ++ junk js 127 18, base ts ls xs ws c c2 2 N (A 0) (A 1) (A 2) (A 3) (A 4) (A 5) (A 6) (A 7) ++ [(8, (some (oR N A (.look))))], 10, []⟩ : St MObj) = _
    rw [e4]; rfl
  | sh r k w h0 h1 h2 h3 h4 h5 h6 =>
    refine Tri.allR (m := 18) (n := 127) (codeOK _) (incfalse2 n0 n1 false i c c2 N (A 0) (A 1) (A 2) (A 3) (A 4) (A 5) (A 6) (A 7) ts ls xs ws js (some (oR N A (.sh r k w h0 h1 h2 h3 h4 h5 h6))) (some (sd (A r) 1 k w h0 h1 h2 h3 h4 h5 h6)) 2 hx hc5 hN) (Tr.all_ok ⟨rfl, ht rfl, hd _ rfl, fun js => ⟨rfl, js, ?_⟩⟩)
    show (⟨pre n0 n1 false false (W (i + 1)) ++ junk js 127 18, base ts ls xs ws c c2 2 N (A 0) (A 1) (A 2) (A 3) (A 4) (A 5) (A 6) (A 7) ++ [(8, (some (oR N A (.sh r k w h0 h1 h2 h3 h4 h5 h6)))), (9, (some (sd (A r) 1 k w h0 h1 h2 h3 h4 h5 h6)))], 10, []⟩ : St MObj) = _
    rw [e4]; rfl
  | tell r =>
    refine Tri.allR (m := 18) (n := 127) (codeOK _) (incfalse n0 n1 false i c c2 N (A 0) (A 1) (A 2) (A 3) (A 4) (A 5) (A 6) (A 7) ts ls xs ws js (some (oR N A (.tell r))) 2 hx hc5 hN) (Tr.all_ok ⟨rfl, ht rfl, hd _ rfl, fun js => ⟨rfl, js, ?_⟩⟩)
    show (⟨pre n0 n1 false false (W (i + 1)) ++ junk js 127 18, base ts ls xs ws c c2 2 N (A 0) (A 1) (A 2) (A 3) (A 4) (A 5) (A 6) (A 7) ++ [(8, (some (oR N A (.tell r))))], 10, []⟩ : St MObj) = _
    rw [e4]; rfl
  | over r =>
    refine Tri.allR (m := 18) (n := 127) (codeOK _) (inctrue n0 n1 false i c c2 N (A 0) (A 1) (A 2) (A 3) (A 4) (A 5) (A 6) (A 7) ts ls xs ws js (some (oR N A (.over r))) 2 hx hc5 hN) (Tr.all_ok ⟨rfl, ht rfl, hd _ rfl, fun js => ⟨rfl, js, ?_⟩⟩)
    show (⟨pre n0 n1 false true (W (i + 1)) ++ junk js 127 18, base ts ls xs ws c c2 2 N (A 0) (A 1) (A 2) (A 3) (A 4) (A 5) (A 6) (A 7) ++ [(8, (some (oR N A (.over r))))], 10, []⟩ : St MObj) = _
    rw [e4]; rfl
  | tellP r a w h0 h1 h2 h3 h4 h5 h6 =>
    refine Tri.allR (m := 18) (n := 127) (codeOK _) (incfalse2 n0 n1 false i c c2 N (A 0) (A 1) (A 2) (A 3) (A 4) (A 5) (A 6) (A 7) ts ls xs ws js (some (oR N A (.tellP r a w h0 h1 h2 h3 h4 h5 h6))) (some (sd a 1 5 w h0 h1 h2 h3 h4 h5 h6)) 2 hx hc5 hN) (Tr.all_ok ⟨rfl, ht rfl, hd _ rfl, fun js => ⟨rfl, js, ?_⟩⟩)
    show (⟨pre n0 n1 false false (W (i + 1)) ++ junk js 127 18, base ts ls xs ws c c2 2 N (A 0) (A 1) (A 2) (A 3) (A 4) (A 5) (A 6) (A 7) ++ [(8, (some (oR N A (.tellP r a w h0 h1 h2 h3 h4 h5 h6)))), (9, (some (sd a 1 5 w h0 h1 h2 h3 h4 h5 h6)))], 10, []⟩ : St MObj) = _
    rw [e4]; rfl
  | overP r a w h0 h1 h2 h3 h4 h5 h6 =>
    refine Tri.allR (m := 18) (n := 127) (codeOK _) (inctrue2 n0 n1 false i c c2 N (A 0) (A 1) (A 2) (A 3) (A 4) (A 5) (A 6) (A 7) ts ls xs ws js (some (oR N A (.overP r a w h0 h1 h2 h3 h4 h5 h6))) (some (sd a 1 5 w h0 h1 h2 h3 h4 h5 h6)) 2 hx hc5 hN) (Tr.all_ok ⟨rfl, ht rfl, hd _ rfl, fun js => ⟨rfl, js, ?_⟩⟩)
    show (⟨pre n0 n1 false true (W (i + 1)) ++ junk js 127 18, base ts ls xs ws c c2 2 N (A 0) (A 1) (A 2) (A 3) (A 4) (A 5) (A 6) (A 7) ++ [(8, (some (oR N A (.overP r a w h0 h1 h2 h3 h4 h5 h6)))), (9, (some (sd a 1 5 w h0 h1 h2 h3 h4 h5 h6)))], 10, []⟩ : St MObj) = _
    rw [e4]; rfl
theorem loopR {c2 : Int} {st : St MObj} (h : JR n0 n1 N ts ls ws A c2 0 st) : Tri MS Try.prog E (.block 0 (.loop (.seq (at1 [false]) (.seq (.block 1 (at1 [true, false, false])) (at1 [true, true]))))) st fun x st => x = .normal ∧ DR n0 n1 N ts ls ws A c2 st := by
  refine Tri.block (R := fun x s => x = .exit 0 ∧ DR n0 n1 N ts ls ws A c2 s) ?_ (fun s hh => by
    rcases hh with hh | hh
    · cases hh.1
    · exact ⟨rfl, hh.2⟩) (fun x s _ hx hh => absurd hh.1 hx)
  refine Tri.loop (J := fun q s => ∃ i : Int, 0 ≤ i ∧ JR n0 n1 N ts ls ws A c2 i s ∧ q = (60 - i).toNat) ?_ (k := 60) ⟨0, by decide, h, rfl⟩
  rintro q st ⟨i, h0, ⟨xs, s, c, js, hv, hp0, hp1, hc0, hc1, rfl⟩, rfl⟩
  refine Tri.seq (guardR E hE hT hD hk hv.len ⟨hc0, by omega⟩ (by omega) js) ?_ ?_
  · rintro st ⟨js, rfl, h | h⟩
    rotate_left
    · cases h.1
    refine Tri.seq (R := fun x st => x = .normal ∧ ∃ xs' s' c' js, InvR N A xs' s' ∧ potR s' < potR s ∧ 0 ≤ potR s' ∧ c ≤ c' ∧ c' ≤ c + 1 ∧ st = SR n0 n1 (i) ts ls xs' ws c' c2 N A s' js) (Tri.block (stepR E hE hT hD hk ⟨hc0, by omega⟩ hv h.2 js) (fun s hh => by
      rcases hh with hh | hh
      · exact hh
      · cases hh.1) (fun x s hx _ hh => absurd hh.1 hx)) ?_ (fun x s hx hh => absurd hh.1 hx)
    rintro st ⟨_, xs', s', c', js, hv', g1, g2, g3, g4, rfl⟩
    refine (incR E hE hT hD hk hv'.len ⟨by omega, by omega⟩ ⟨h0, by omega⟩ js).mono ?_
    rintro x st ⟨rfl, js, rfl⟩
    exact ⟨(60 - (i + 1)).toNat, by omega, i + 1, by omega, ⟨xs', s', c', js, hv', g2, by omega, by omega, by omega, rfl⟩, rfl⟩
  · rintro x st hx ⟨js, rfl, h | h⟩
    · exact absurd h.1 hx
    · obtain ⟨rfl, hd⟩ := h
      exact ⟨rfl, i, xs, s, c, js, hv, hd, hc0, by omega, rfl⟩
end
end Go.Proofs.Ytdongoplhnpdiaa.ShakeRoots
