/-
  AllocPlays: cells are reserved, and objects made, as the document says, step by step: both memories hold the same words, and each worker is at the same step in both.
-/
import Derived.Test.YtkbleapcnbphjaaGreatRows
import Derived.Test.YtkbleapcnbphjaaGreatWAllocPlays0
import Derived.Test.YtkbleapcnbphjaaGreatWAllocPlays1
import Derived.Test.YtkbleapcnbphjaaGreatWAllocPlays2
import Derived.Test.YtkbleapcnbphjaaGreatWAllocPlays3
namespace Go.Proofs.YtkbleapcnbphjaaGreat.AllocPlays
open Go Go.RowKit Go.Proofs.YtkbleapcnbphjaaGreat.Eng
set_option linter.unusedVariables false
set_option linter.unusedSimpArgs false
set_option linter.unusedSectionVars false
set_option maxRecDepth 20000
set_option maxHeartbeats 1000000
theorem hb : Tryz.f3.body = some body := by kernel_rfl
noncomputable abbrev initC : Code := codeAt body [true, true, true, true, true, true, true, true, true, false, false]
noncomputable abbrev finC : Code := codeAt body [true, true, true, true, true, true, true, true, true, true]
noncomputable abbrev smC : Code := qt [true, true]
noncomputable abbrev lbody : Code := .seq (at' [false]) (.seq (.block 1 (qt [])) (at' [true, true]))
theorem restE : (Eng.spine 9 body).2 = .seq (.seq initC (.block 0 (.loop lbody))) finC := by kernel_rfl
theorem kxE : (Eng.spine 2 (qt [])).2 = smC := by kernel_rfl
theorem resX (n : Int) (np : Nat) (x6 x7 x8 x9 x10 x11 x12 x13 x14 : SV) (hp : HP MObj) (nid : Nat) (r : Bool) (js : Nat → SV) : vresults Tryz.prog (⟨[.v (ii n), .v (.an 0 (.sym np)), .t [], .t [], .v (.bool (.lit r)), .v (.bool (.lit true)), x6, x7, x8, x9, x10, x11, x12, x13, x14] ++ junk js 177 15, hp, nid, []⟩ : St MObj) Tryz.f3.results.toList = .ok [.one (.bool (.lit r))] := by kernel_rfl
noncomputable abbrev St0 (n : Int) (np : Nat) (i : Int) (ps : List (List Int)) (B p4 : Int) (xs : List Int) (c d2 t : Int) (s : Nat → AS) (js : Nat → SV) : St MObj := ⟨pre n np i ++ junk js 177 15, bas ps B p4 xs c d2 t s, 8, []⟩
/-- What holds ahead of round i. -/
def J (n : Int) (np : Nat) (ps : List (List Int)) (B p4 : Int) (i j : Int) (st : St MObj) : Prop :=
  ∃ xs c d2 t s js, (xs.length : Int) = 32 + 32 * B ∧ (∀ k, k < 4 → AS.ok (s k)) ∧ (0 ≤ c ∧ c ≤ 1000 + 2 * j) ∧ (0 ≤ d2 ∧ d2 ≤ 1000 + 2 * j) ∧ st = St0 n np i ps B p4 xs c d2 t s js
theorem at_tm {S : Eng.Sys MObj} {E : Ctx MObj} {p p' l : List SV} {hp : HP MObj} {nid : Nat} {d : List Nat} {a : Act} {w : World} (h : wkSs p p') (hat : At S E ⟨p ++ l, hp, nid, d⟩ a w) : At S E ⟨p' ++ l, hp, nid, d⟩ a w :=
  weak_tm (tm_weak h) a w hat
section
variable {n i B p4 c d t : Int} {np : Nat} {ps : List (List Int)} {xs : List Int} {q : Nat} (hq : q < 4) (hx : (xs.length : Int) = 32 + 32 * B) (hp4 : p4 = 32 + 32 * B) (hB : 1 ≤ B ∧ B ≤ 4) (hc : 0 ≤ c ∧ c ≤ 100000) (hc2 : 0 ≤ d ∧ d ≤ 100000) (E : Ctx MObj) (hE : E.nid0 = 1) (hT : E.top = 60) (hD : ∀ b, 1 ≤ b → E.D b)
include hq hx hp4 hB hc hc2 hE hT hD
/-- A worker's step, whatever it is at. -/
theorem stepW (s : Nat → AS) (ho : ∀ k, k < 4 → (s k).ok) (kk : Int) (hkk : 0 ≤ kk ∧ kk < 64) (js : Nat → SV) : TriX MS (smC.wp Tryz.prog) E ⟨pre n np i ++ [.v (ii kk), .v (lt q)] ++ junk js 175 17, bas ps B p4 xs c d t s, 8, []⟩ (Mid n np i ps B p4 c d) := by
  have h0 := ho q hq
  have hs := upd_self s q
  generalize s q = x at hs h0
  rw [hs]
  cases x with
  | idle vb vd => exact w_idle hq hx hp4 hB hc hc2 E hE hT hD vb vd kk hkk s h0 ho js
  | res r wb =>
    cases r with
    | pp j cl st hd w h se sn rc va vb =>
      rcases (show j = 0 ∨ j = 1 ∨ j = 2 by have := h0.1; omega) with rfl | rfl | rfl
      · exact w_cp0 hq hx hp4 hB hc hc2 E hE hT hD cl st hd w h se sn rc va vb wb kk hkk s h0 ho js
      · exact w_cp1 hq hx hp4 hB hc hc2 E hE hT hD cl st hd w h se sn rc va vb wb kk hkk s h0 ho js
      · exact w_cp2 hq hx hp4 hB hc hc2 E hE hT hD cl st hd w h se sn rc va vb wb kk hkk s h0 ho js
    | ld cl st sn rc w b e k va u => exact w_ct0 hq hx hp4 hB hc hc2 E hE hT hD cl st sn rc w b e k va u wb kk hkk s h0 ho js
    | tk j cl st sn rc w e k va u =>
      rcases (show j = 1 ∨ j = 2 ∨ j = 3 ∨ j = 4 by have := h0.1; omega) with rfl | rfl | rfl | rfl
      · exact w_ct1 hq hx hp4 hB hc hc2 E hE hT hD cl st sn rc w e k va u wb kk hkk s h0 ho js
      · exact w_ct2 hq hx hp4 hB hc hc2 E hE hT hD cl st sn rc w e k va u wb kk hkk s h0 ho js
      · exact w_ct3 hq hx hp4 hB hc hc2 E hE hT hD cl st sn rc w e k va u wb kk hkk s h0 ho js
      · exact w_ct4 hq hx hp4 hB hc hc2 E hE hT hD cl st sn rc w e k va u wb kk hkk s h0 ho js
    | lay j cl st sn rc w e k hd fi la pw va u =>
      rcases (show j = 0 ∨ j = 1 ∨ j = 2 by have := h0.1; omega) with rfl | rfl | rfl
      · exact w_cl0 hq hx hp4 hB hc hc2 E hE hT hD cl st sn rc w e k hd fi la pw va u wb kk hkk s h0 ho js
      · exact w_cl1 hq hx hp4 hB hc hc2 E hE hT hD cl st sn rc w e k hd fi la pw va u wb kk hkk s h0 ho js
      · exact w_cl2 hq hx hp4 hB hc hc2 E hE hT hD cl st sn rc w e k hd fi la pw va u wb kk hkk s h0 ho js
    | look cl st sn rc va vb vc u => exact w_clk hq hx hp4 hB hc hc2 E hE hT hD cl st sn rc va vb vc u wb kk hkk s h0 ho js
  | all cn mk r wd =>
    cases r with
    | pp j cl st hd w h se sn rc va vb =>
      rcases (show j = 0 ∨ j = 1 ∨ j = 2 by have := h0.2.1; omega) with rfl | rfl | rfl
      · exact w_ap0 hq hx hp4 hB hc hc2 E hE hT hD cn mk cl st hd w h se sn rc va vb wd kk hkk s h0 ho js
      · exact w_ap1 hq hx hp4 hB hc hc2 E hE hT hD cn mk cl st hd w h se sn rc va vb wd kk hkk s h0 ho js
      · exact w_ap2 hq hx hp4 hB hc hc2 E hE hT hD cn mk cl st hd w h se sn rc va vb wd kk hkk s h0 ho js
    | ld cl st sn rc w b e k va u => exact w_at0 hq hx hp4 hB hc hc2 E hE hT hD cn mk cl st sn rc w b e k va u wd kk hkk s h0 ho js
    | tk j cl st sn rc w e k va u =>
      rcases (show j = 1 ∨ j = 2 ∨ j = 3 ∨ j = 4 by have := h0.2.1; omega) with rfl | rfl | rfl | rfl
      · exact w_at1 hq hx hp4 hB hc hc2 E hE hT hD cn mk cl st sn rc w e k va u wd kk hkk s h0 ho js
      · exact w_at2 hq hx hp4 hB hc hc2 E hE hT hD cn mk cl st sn rc w e k va u wd kk hkk s h0 ho js
      · exact w_at3 hq hx hp4 hB hc hc2 E hE hT hD cn mk cl st sn rc w e k va u wd kk hkk s h0 ho js
      · exact w_at4 hq hx hp4 hB hc hc2 E hE hT hD cn mk cl st sn rc w e k va u wd kk hkk s h0 ho js
    | lay j cl st sn rc w e k hd fi la pw va u =>
      rcases (show j = 0 ∨ j = 1 ∨ j = 2 by have := h0.2.1; omega) with rfl | rfl | rfl
      · exact w_al0 hq hx hp4 hB hc hc2 E hE hT hD cn mk cl st sn rc w e k hd fi la pw va u wd kk hkk s h0 ho js
      · exact w_al1 hq hx hp4 hB hc hc2 E hE hT hD cn mk cl st sn rc w e k hd fi la pw va u wd kk hkk s h0 ho js
      · exact w_al2 hq hx hp4 hB hc hc2 E hE hT hD cn mk cl st sn rc w e k hd fi la pw va u wd kk hkk s h0 ho js
    | look cl st sn rc va vb vc u => exact w_alk hq hx hp4 hB hc hc2 E hE hT hD cn mk cl st sn rc va vb vc u wd kk hkk s h0 ho js
  | clr cn mk k at' u v wd => exact w_clr hq hx hp4 hB hc hc2 E hE hT hD cn mk k at' u v wd kk hkk s h0 ho js
  | sea cn mk k K at' u v wd => exact w_sel hq hx hp4 hB hc hc2 E hE hT hD cn mk k K at' u v wd kk hkk s h0 ho js
theorem stepR (s : Nat → AS) (ho : ∀ k, k < 4 → (s k).ok) (kk : Int) (hkk : 0 ≤ kk ∧ kk < 64) (js : Nat → SV) : Tri MS Tryz.prog E smC ⟨pre n np i ++ [.v (ii kk), .v (lt q)] ++ junk js 175 17, bas ps B p4 xs c d t s, 8, []⟩
    fun x st => x = .normal ∧ ∃ s' xs' c' d' t' js, st = St0 n np i ps B p4 xs' c' d' t' s' js ∧ (xs'.length : Int) = 32 + 32 * B ∧ (∀ k, k < 4 → (s' k).ok) ∧ c ≤ c' ∧ c' ≤ c + 2 ∧ d ≤ d' ∧ d' ≤ d + 2 := by
  refine TriX.postE (mono_wp _) (stepW hq hx hp4 hB hc hc2 E hE hT hD s ho kk hkk js) ?_
  rintro x ⟨tm, hp, nid, dd⟩ ac w ⟨rfl, s', xs', c', d', t', ⟨js', h0⟩, h1, h2, h3, h4, h5, h6, h7, h8, h9⟩ hat
  have h0 : tm = pre n np i ++ junk js' 177 15 := h0
  subst h0
  have h2 : renChk R8 hp E.nid0 nid 8 = true := by rw [hE]; exact h2
  obtain ⟨js2, h10⟩ := at_rename (dirty' := []) (m := 15) (n := 177) (pre := pre n np i) (pre' := pre n np i) R8 rfl (by simp [length_junk]) rfl h1 h2 (by omega) (by omega) hat
  exact ⟨_, h10, rfl, s', xs', c', d', t', js2, rfl, h4, h5, h6, h7, h8, h9⟩
end
section
variable (n : Int) (np : Nat) (ps : List (List Int)) (hnp : np = ps.length) (hf : RFits [.int .i64] ps) (E : Ctx MObj) (hE : E.nid0 = 1) (hT : E.top = 60) (hD : ∀ b, 1 ≤ b → E.D b)
include hnp hf hE hT hD
abbrev Q : VX → St MObj → Prop := fun x st => (x = .normal ∨ x = .ret) ∧ ∃ l, (vresults Tryz.prog st Tryz.f3.results.toList).run = some l ∧ IsTrue (tupleOf l)
section
variable {B p4 : Int} (hp4 : p4 = 32 + 32 * B) (hB : 1 ≤ B ∧ B ≤ 4)
include hp4 hB
theorem round {i : Int} (hi : 0 ≤ i ∧ i ≤ 300) {st : St MObj} (hJ : J n np ps B p4 i i st) :
    Tri MS Tryz.prog E lbody st fun x st => (x = .normal ∧ i + 1 ≤ 300 ∧ J n np ps B p4 (i + 1) (i + 1) st) ∨ (x = .exit 0 ∧ J n np ps B p4 i i st) := by
  obtain ⟨xs, c, d2, t, s, js, hx, hok, hc, hc2, rfl⟩ := hJ
  have hd : ∀ (l : List Nat), l.all (Nat.ble 1) = true → ∀ b, b ∈ l → E.D b := fun l hl b hb => hD b (Nat.le_of_ble_eq_true (List.all_eq_true.1 hl b hb))
  have ht : ∀ {k : Nat}, Nat.ble k 60 = true → k ≤ E.top := fun h => by rw [hT]; exact Nat.le_of_ble_eq_true h
  refine Tri.seq (R := fun x st => ∃ js, st = St0 n np i ps B p4 xs c d2 t s js ∧ ((x = .normal ∧ i < np ∧ i < 300) ∨ x = .exit 0)) ?_ ?_ ?_
  · exact Tri.allR (m := 15) (n := 177) (codeOK _) (g n i B p4 c d2 t np ps xs _ _ _ _ js hx hp4 hB (by omega) (by omega)) (Tr.all_ite (fun h1 => Tr.all_ite (fun h2 => Tr.all_ok ⟨rfl, ht rfl, hd _ rfl, fun js => ⟨js, rfl, .inl ⟨rfl, of_decide_eq_true h1, of_decide_eq_true h2⟩⟩⟩) fun _ => Tr.all_ok ⟨rfl, ht rfl, hd _ rfl, fun js => ⟨js, rfl, .inr rfl⟩⟩) fun _ => Tr.all_ok ⟨rfl, ht rfl, hd _ rfl, fun js => ⟨js, rfl, .inr rfl⟩⟩)
  · rintro st ⟨js, rfl, h | h⟩
    rotate_left
    · cases h
    obtain ⟨_, hin, hi3⟩ := h
    have hix : i.toNat < ps.length := by omega
    have k0 := kM_range (c := tabAt ps i.toNat 0) (n := 64) (by decide) (tab_fits hf hix (j := 0) rfl)
    have k1 : 0 ≤ Int.tmod (kM (tabAt ps (Int.toNat i) 0) 64) 4 ∧ Int.tmod (kM (tabAt ps (Int.toNat i) 0) 64) 4 < 4 := ⟨Int.tmod_nonneg _ k0.1, Int.tmod_lt_of_pos _ (by decide)⟩
    refine Tri.seq (R := fun x st => x = .normal ∧ J n np ps B p4 i (i + 1) st) ?_ ?_ (fun x s hx hh => absurd hh.1 hx)
    · refine Tri.block (R := fun x st => x = .normal ∧ J n np ps B p4 i (i + 1) st) ?_ (fun s hh => by
        rcases hh with hh | hh
        · exact ⟨rfl, hh.2⟩
        · exact ⟨rfl, hh.2⟩) (fun x s h1 h2 hh => absurd hh.1 h1)
      refine Tri.listR (m := 17) (n := 175) (l := [qt [false], qt [true, false]]) (c' := smC) codeOK 2 rfl kxE (kx n i B p4 c d2 t np ps xs _ _ _ _ js hx hp4 hB (by omega) (by omega) ⟨hi.1, hi3⟩ hin hnp)
        (Tr.all_ok ⟨rfl, rfl, ht rfl, hd _ rfl, fun js => ?_⟩)
      obtain ⟨q, hq, hkq⟩ : ∃ q : Nat, q < 4 ∧ Int.tmod (kM (tabAt ps (Int.toNat i) 0) 64) 4 = (q : Int) := ⟨(Int.tmod (kM (tabAt ps (Int.toNat i) 0) 64) 4).toNat, by omega, by omega⟩
      refine Tri.preE fun aa ww hat => ⟨_, at_tm (p' := pre n np i ++ [.v (ii (kM (tabAt ps (Int.toNat i) 0) 64)), .v (lt q)]) (by (repeat' apply And.intro) <;> first | rfl | trivial | exact hkq) hat, ?_⟩
      refine (stepR hq hx hp4 hB (by omega) (by omega) E hE hT hD s hok _ k0 js).mono ?_
      rintro x st ⟨rfl, s', xs', c', d', t', js', rfl, g1, g2, g3, g4, g5, g6⟩
      exact ⟨rfl, xs', c', d', t', s', js', g1, g2, by omega, by omega, rfl⟩
    · rintro st ⟨_, xs', c', d', t', s', js, g1, g2, g3, g4, rfl⟩
      have e4 : W (i + 1) = i + 1 := wrap_i64_of (by omega) (by omega)
      refine Tri.allR (m := 15) (n := 177) (codeOK _) (inc n i B p4 c' d' t' np ps xs' _ _ _ _ js g1 hp4 hB (by omega) (by omega)) (Tr.all_ok ⟨rfl, ht rfl, hd _ rfl, fun js => .inl ⟨rfl, by omega, ?_⟩⟩)
      rw [← e4]
      refine ⟨xs', c', d', t', s', js, g1, g2, ?_, ?_, rfl⟩
      · rw [e4]; exact g3
      · rw [e4]; exact g4
  · rintro x st hx' ⟨js, rfl, h | h⟩
    · exact absurd h.1 hx'
    · exact .inr ⟨h, xs, c, d2, t, s, js, hx, hok, hc, hc2, rfl⟩
theorem rest {xs : List Int} {c : Int} (vs us : Nat → Value) (hx : (xs.length : Int) = 32 + 32 * B) (hc : 0 ≤ c ∧ c ≤ 1000) (js : Nat → SV) :
    Tri MS Tryz.prog E (.seq (.seq initC (.block 0 (.loop lbody))) finC) ⟨List.take 14 (pre n np 0) ++ [.t []] ++ junk js 177 15, bas ps B p4 xs c 0 0 fun q => .idle (vs q) (us q), 8, []⟩ Q := by
  have hd : ∀ (l : List Nat), l.all (Nat.ble 1) = true → ∀ b, b ∈ l → E.D b := fun l hl b hb => hD b (Nat.le_of_ble_eq_true (List.all_eq_true.1 hl b hb))
  have ht : ∀ {k : Nat}, Nat.ble k 60 = true → k ≤ E.top := fun h => by rw [hT]; exact Nat.le_of_ble_eq_true h
  refine Tri.seq (R := fun x s => x = .normal ∧ ∃ i, 0 ≤ i ∧ i ≤ 300 ∧ J n np ps B p4 i i s) ?_ ?_ (fun x s hx hh => absurd hh.1 hx)
  · refine Tri.seq (R := fun x s => x = .normal ∧ J n np ps B p4 0 0 s) ?_ ?_ (fun x s hx hh => absurd hh.1 hx)
    · refine Tri.postE (Q := fun x s => x = .normal ∧ ∀ aa ww, At MS E s aa ww → ∃ s', At MS E s' aa ww ∧ J n np ps B p4 0 0 s') (Tri.allR (m := 15) (n := 177) (codeOK _) (init n B p4 c 0 0 np ps xs _ _ _ _ (.t []) js hx hp4 hB (by omega) (by omega)) (Tr.all_ok ⟨rfl, ht rfl, hd _ rfl, fun js => ⟨rfl, fun aa ww hat => ⟨St0 n np 0 ps B p4 xs c 0 0 (fun q => .idle (vs q) (us q)) js, at_tm (p' := pre n np 0) (by (repeat' apply And.intro) <;> first | rfl | trivial) hat, xs, c, 0, 0, (fun q => .idle (vs q) (us q)), js, hx, fun _ _ => trivial, by omega, by omega, rfl⟩⟩⟩)) ?_
      rintro x s aa ww ⟨rfl, hh⟩ hat
      obtain ⟨s', h1, h2⟩ := hh aa ww hat
      exact ⟨s', h1, rfl, h2⟩
    · rintro s ⟨_, hJ⟩
      refine Tri.block (R := fun x s => x = .exit 0 ∧ ∃ i, 0 ≤ i ∧ i ≤ 300 ∧ J n np ps B p4 i i s) ?_ (fun s hh => by
        rcases hh with hh | hh
        · cases hh.1
        · exact ⟨rfl, hh.2⟩) (fun x s _ hx hh => absurd hh.1 hx)
      refine Tri.loop (J := fun k s => ∃ i : Int, 0 ≤ i ∧ i ≤ 300 ∧ J n np ps B p4 i i s ∧ k = (300 - i).toNat) ?_ (k := (300 - 0 : Int).toNat) ⟨0, by decide, by decide, hJ, rfl⟩
      rintro k s ⟨i, h0, h1, hJ, rfl⟩
      refine (round n np ps hnp hf E hE hT hD hp4 hB ⟨h0, h1⟩ hJ).mono ?_
      rintro x s (⟨rfl, h2, h3⟩ | ⟨rfl, h3⟩)
      · exact ⟨(300 - (i + 1)).toNat, by omega, i + 1, by omega, h2, h3, rfl⟩
      · exact ⟨rfl, i, h0, h1, h3⟩
  · rintro s ⟨_, i, h0, h1, xs', c', d', t', s', js, g1, g2, g3, g4, rfl⟩
    exact Tri.allR (m := 15) (n := 177) (codeOK _) (fin n i B p4 c' d' t' np ps xs' _ _ _ _ js g1 hp4 hB (by omega) (by omega) (by omega)) (Tr.all_ok ⟨rfl, ht rfl, hd _ rfl, fun js => ⟨.inr rfl, _, (congrArg Tr.run (resX n np _ _ _ _ _ _ _ _ _ _ _ true js)).trans rfl, rfl⟩⟩)
end
/-- The law's state when its head is over. -/
theorem settle0 {B p4 c : Int} {N : Nat} {rows : List (List Int)} {xs : List Int} {js : Nat → SV} {d : List Nat} {a : Act} {w : World}
    (h : At MS E ⟨[.v (ii n), .v (.an 0 (.sym np)), .t [], .t [], .v (.bool (.lit false)), .v (.bool (.lit true)), .v (.ptr 1 0), .v (.int .i64 (.lit 0)), .v (.ptr 6 0), .v (.ptr 5 0), .v (.ptr 7 0), .v (.ptr 8 0), .v (.ptr 9 0), .v (.ptr 10 0), .t []] ++ junk js 177 15,
      [(0, some (.rotab [.int .i64] ps)), (1, some (.cells [.int .i64 (.lit 4), .int .i64 (.lit B), .int .i64 (.lit 14), .int .i64 (.lit 32), .int .i64 (.lit p4)] 25)), (4, some (.tab [.int .u64] rows 57)), (5, some (.cells [.ts 4 (.lit 0) (.lit N) none, .int .i64 (.lit 0), .int .i64 (.lit 0), .nils] 66)), (6, some (.abs (.mem 110 xs c 0))), (7, some (.cells [.nilp, .nilp, .nilp, .nilp] 35)), (8, some (.cells [.nilp, .nilp, .nilp, .nilp] 37)), (9, some (.cells [.nilp, .nilp, .nilp, .nilp] 39)), (10, some (.cells [.nilp, .nilp, .nilp, .nilp] 41))], 11, d⟩ a w) (hr : rows = rowsW xs) (hN : N = xs.length) :
    ∃ (vs us : Nat → Value) (js : Nat → SV), At MS E ⟨List.take 14 (pre n np 0) ++ [.t []] ++ junk js 177 15, bas ps B p4 xs c 0 0 fun q => .idle (vs q) (us q), 8, []⟩ a w := by
  subst hr hN
  have h1 := at_memfold (b := 5) (x1 := 4) (x2 := 14) (ty := 66) (xs := xs) (c := 0) (t := 0) (isMem_nil rfl rfl rfl (by decide) (by decide) (by decide) rfl rfl rfl rfl) (hD 5 (by decide)) (hD 4 (by decide)) (hD 14 (by decide)) h
  have h2 := at_can h1
  obtain ⟨vs, h3⟩ := at_forget 8 [true, true, true, true] rfl rfl h2
  obtain ⟨us, h3⟩ := at_forget 10 [true, true, true, true] rfl rfl h3
  have h4 := at_grpfold (b := 7) (g := GA B p4 fun q => .idle (vs q) (us q)) rfl rfl (fun n => rfl) h3
  have h4 := at_grpfold (b := 8) (g := GB B p4 fun q => .idle (vs q) (us q)) rfl rfl (fun n => rfl) h4
  have h4 := at_grpfold (b := 9) (g := GC B p4 fun q => .idle (vs q) (us q)) rfl rfl (fun n => rfl) h4
  have h4 := at_grpfold (b := 10) (g := GD B p4 fun q => .idle (vs q) (us q)) rfl rfl (fun n => rfl) h4
  obtain ⟨js', h5⟩ := at_rename (dirty' := []) (m := 15) (n := 177) (pre' := List.take 14 (pre n np 0) ++ [.t []]) [(0, 0), (1, 1), (6, 2), (5, 3), (7, 4), (8, 5), (9, 6), (10, 7)] (nid' := 8) rfl (by simp [length_junk]) rfl rfl (by rw [hE]; rfl) (by omega) (by omega) h4
  exact ⟨vs, us, js', h5⟩
theorem runs (hn : CK.fits (.int .i64) n) : Tri MS Tryz.prog E body ⟨[.v (ii n), .v (.an 0 (.sym np))] ++ List.replicate (nt - 2) .undef, [(0, some (.rotab [.int .i64] ps))], 1, []⟩ Q := by
  have hd : ∀ (l : List Nat), l.all (Nat.ble 1) = true → ∀ b, b ∈ l → E.D b := fun l hl b hb => hD b (Nat.le_of_ble_eq_true (List.all_eq_true.1 hl b hb))
  have ht : ∀ {k : Nat}, Nat.ble k 60 = true → k ≤ E.top := fun h => by rw [hT]; exact Nat.le_of_ble_eq_true h
  have hkn := kM_range (c := n) (n := 4) (by decide) hn
  rcases (show kM n 4 = 0 ∨ kM n 4 = 1 ∨ kM n 4 = 2 ∨ kM n 4 = 3 by omega) with hk | hk | hk | hk
  · refine Tri.listR (m := 15) (n := 177) (l := (Eng.spine 9 body).1) codeOK 9 rfl restE (start0 n np ps hk) (Tr.all_ok ⟨rfl, rfl, ht rfl, hd _ rfl, fun js => ?_⟩)
    refine Tri.preE fun aa ww hat => let ⟨vs, us, js', hat'⟩ := settle0 n np ps hnp hf E hE hT hD (B := 1) (p4 := 64) (c := 64) (N := 64) hat rfl rfl; ⟨_, hat', ?_⟩
    exact rest n np ps hnp hf E hE hT hD (B := 1) (by decide) (by decide) vs us (by decide) (by decide) js'
  · refine Tri.listR (m := 15) (n := 177) (l := (Eng.spine 9 body).1) codeOK 9 rfl restE (start1 n np ps hk) (Tr.all_ok ⟨rfl, rfl, ht rfl, hd _ rfl, fun js => ?_⟩)
    refine Tri.preE fun aa ww hat => let ⟨vs, us, js', hat'⟩ := settle0 n np ps hnp hf E hE hT hD (B := 2) (p4 := 96) (c := 96) (N := 96) hat rfl rfl; ⟨_, hat', ?_⟩
    exact rest n np ps hnp hf E hE hT hD (B := 2) (by decide) (by decide) vs us (by decide) (by decide) js'
  · refine Tri.listR (m := 15) (n := 177) (l := (Eng.spine 9 body).1) codeOK 9 rfl restE (start2 n np ps hk) (Tr.all_ok ⟨rfl, rfl, ht rfl, hd _ rfl, fun js => ?_⟩)
    refine Tri.preE fun aa ww hat => let ⟨vs, us, js', hat'⟩ := settle0 n np ps hnp hf E hE hT hD (B := 3) (p4 := 128) (c := 128) (N := 128) hat rfl rfl; ⟨_, hat', ?_⟩
    exact rest n np ps hnp hf E hE hT hD (B := 3) (by decide) (by decide) vs us (by decide) (by decide) js'
  · refine Tri.listR (m := 15) (n := 177) (l := (Eng.spine 9 body).1) codeOK 9 rfl restE (start3 n np ps hk) (Tr.all_ok ⟨rfl, rfl, ht rfl, hd _ rfl, fun js => ?_⟩)
    refine Tri.preE fun aa ww hat => let ⟨vs, us, js', hat'⟩ := settle0 n np ps hnp hf E hE hT hD (B := 4) (p4 := 160) (c := 160) (N := 160) hat rfl rfl; ⟨_, hat', ?_⟩
    exact rest n np ps hnp hf E hE hT hD (B := 4) (by decide) (by decide) vs us (by decide) (by decide) js'
end
abbrev ks : List CK := [.int .i64]
abbrev ts : List TypeId := [3, 22]
theorem hts : Tryz.f3.params.toList = ts := by kernel_rfl
theorem arg0 (n : Int) : (SV.s (mkS1 Tryz.prog 3 [.int .i64] [n])) = .v (ii n) := by kernel_rfl
theorem core (w : World) (vals : List Value) (ha : F2 (ArgOK Tryz.prog w) ts vals) :
    Calls Tryz.prog 3 vals.toArray w fun e W' => ∃ v, e = .returned v ∧ v = .bool true ∧ Below w.heap.size w W' := by
  obtain ⟨u, v, rfl⟩ : ∃ u v, vals = [u, v] := by
    match vals, ha with
    | [u, v], _ => exact ⟨u, v, rfl⟩
    | [], ha => exact ha.elim
    | [_], ha => exact ha.2.elim
    | _ :: _ :: _ :: _, ha => exact ha.2.2.elim
  obtain ⟨ns, cs, hcs, hr⟩ := arg_plain (ks := [.int .i64]) ha.1 (by kernel_rfl)
  obtain ⟨n0, rfl, hfit⟩ : ∃ n0, ns = [n0] ∧ CK.fits (.int .i64) n0 := by
    have := hcs.fits'
    match ns, this with
    | [n0], h => exact ⟨n0, rfl, h.1⟩
    | [], h => exact h.elim
    | _ :: _ :: _, h => exact h.2.elim
  obtain ⟨xs, p, hf, hlen, hall⟩ := arg_slice (e := 3) (ks := ks) ha.2.1 (by kernel_rfl) (by kernel_rfl) (by kernel_rfl) (by decide)
  let ρ0 : Rho := fun b => match b with | 0 => some p | _ + 1 => none
  have hρ : ∀ b, 1 ≤ b → ρ0 b = none := fun b hb => by
    match b, hb with
    | b + 1, _ => rfl
  have hr0 : Eng.RS ρ0 (.s (mkS1 Tryz.prog 3 [.int .i64] [n0])) u := hr ρ0
  rw [arg0] at hr0
  refine (calls_of_triA (S := MS) (vargs := [u, v]) (R := IsTrue) Tryz.func3 hb 1 60 (by omega) hρ (hp := [(0, some (.rotab ks xs))]) (fun b o ho => ?_) (runs n0 xs.length xs rfl hf _ rfl rfl (fun b hb => hb) hfit) ⟨hr0, (hall MS ρ0 0 rfl).1, trivial⟩).mono ?_
  · match b, ho with
    | 0, ho =>
      injection ho with ho
      subst ho
      exact (hall MS ρ0 0 rfl).2
    | b + 1, ho => cases ho
  · rintro e w' ⟨v, x, ρ, rfl, hv, hR, hbel⟩
    exact ⟨v, rfl, hR.value hv, hbel⟩
theorem own : ownKnob Tryz.prog.godebug = none := by kernel_rfl
theorem lifted {H : Type} (os : Os) (started : os.Started) (enc : TypeId × Value → H) : ReturnsInHanded {} Tryz.checked os 3 .any (Rows.allocPlaysSpec.pre6 enc Tryz.prog Tryz.f3 Rows.allocPlaysRow.domain false) (Rows.allocPlaysSpec.post enc Tryz.prog Tryz.f3 false true false false) :=
  law_lifted own started (by kernel_rfl) (by kernel_rfl)
    (ChangeSpec.witness6 (enc := enc) (C := Tryz.checked) false ⟨#[], #[.int .i64 0, .slice none 0 0], []⟩ 8 (by kernel_rfl) (by kernel_rfl) (by kernel_rfl) (by kernel_rfl))
    (tb := 4) (by kernel_rfl) (by kernel_rfl) rfl
    (fun ds hd => by
      match ds, hd with
      | [_, _], _ => exact ⟨rfl, rfl, rfl⟩)
    (by kernel_rfl) (by kernel_rfl) (fun W vals ha => core W vals (hts ▸ ha))
theorem proved : Rows.AllocPlaysSaid :=
  OpenClaim.holds_of_wide 3 Tryz.f3 rfl rfl rfl rfl rfl rfl rfl ⟨rfl, rfl, rfl, rfl, rfl⟩ rfl rfl rfl rfl rfl (by kernel_rfl) Tryz.func3 (by kernel_rfl) (of_decide_eq_true (by kernel_rfl))
    (by unfold Func.isWrapper; first | (rw [if_pos (by decide +kernel)]; kernel_rfl) | (rw [if_neg (by decide +kernel)]; exact ⟨rfl, rfl⟩))
    (fun os started H enc _ => lifted os started enc)
end Go.Proofs.YtkbleapcnbphjaaGreat.AllocPlays
