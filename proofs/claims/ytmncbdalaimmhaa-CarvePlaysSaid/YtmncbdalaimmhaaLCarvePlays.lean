/-
  CarvePlays: blocks are taken and given back as the document says, step by step: both memories hold the same words, and each worker is at the same step in both.
-/
import Derived.Test.YtmncbdalaimmhaaRows
import Derived.Test.YtmncbdalaimmhaaWCarvePlays
import Derived.Test.YtmncbdalaimmhaaTCarvePlays0
import Derived.Test.YtmncbdalaimmhaaTCarvePlays1
namespace Go.Proofs.Ytmncbdalaimmhaa.CarvePlays
open Go Go.RowKit Go.Proofs.Ytmncbdalaimmhaa.Eng
set_option linter.unusedVariables false
set_option linter.unusedSimpArgs false
set_option linter.unusedSectionVars false
set_option maxRecDepth 20000
set_option maxHeartbeats 1000000
theorem hb : Try.f3.body = some body := by kernel_rfl
noncomputable abbrev initC : Code := codeAt body [true, true, true, true, true, true, false, false]
noncomputable abbrev finC : Code := codeAt body [true, true, true, true, true, true, true]
noncomputable abbrev smC : Code := qt [true, true, true, true, true]
noncomputable abbrev lbody : Code := .seq (at' [false]) (.seq (.block 1 (qt [])) (at' [true, true]))
theorem restE : (Eng.spine 6 body).2 = .seq (.seq initC (.block 0 (.loop lbody))) finC := by kernel_rfl
theorem kxE : (Eng.spine 2 (qt [])).2 = seqs three smC := by kernel_rfl
theorem resX (n : Int) (np : Nat) (x6 x7 x8 x9 x10 x11 : SV) (hp : HP MObj) (nid : Nat) (r : Bool) (js : Nat → SV) : vresults Try.prog (⟨[.v (ii n), .v (.an 0 (.sym np)), .t [], .t [], .v (.bool (.lit r)), .v (.bool (.lit true)), x6, x7, x8, x9, x10, x11] ++ junk js 70 12, hp, nid, []⟩ : St MObj) Try.f3.results.toList = .ok [.one (.bool (.lit r))] := by kernel_rfl
noncomputable abbrev St0 (n : Int) (np : Nat) (i : Int) (ps : List (List Int)) (B p4 : Int) (xs : List Int) (c d2 t : Int) (s : Nat → WS) (js : Nat → SV) : St MObj := ⟨pre n np i ++ junk js 70 12, base ps B p4 xs c d2 t (.abs (.grp (WG B p4 s))), 5, []⟩
/-- What holds ahead of round i. -/
def J (n : Int) (np : Nat) (ps : List (List Int)) (B p4 : Int) (i j : Int) (st : St MObj) : Prop :=
  ∃ xs c d2 t s js, (xs.length : Int) = 32 + 32 * B ∧ (∀ k, k < 4 → WS.ok j.toNat (s k)) ∧ (0 ≤ c ∧ c ≤ 1000 + j) ∧ (0 ≤ d2 ∧ d2 ≤ 1000 + j) ∧ st = St0 n np i ps B p4 xs c d2 t s js
theorem at_tm {S : Eng.Sys MObj} {E : Ctx MObj} {p p' l : List SV} {hp : HP MObj} {nid : Nat} {d : List Nat} {a : Act} {w : World} (h : wkSs p p') (hat : At S E ⟨p ++ l, hp, nid, d⟩ a w) : At S E ⟨p' ++ l, hp, nid, d⟩ a w :=
  weak_tm (tm_weak h) a w hat
theorem upd_self (s : Nat → WS) (q : Nat) : s = upd s q (s q) := by
  funext j
  by_cases h : j = q
  · rw [h, upd_eq]
  · rw [upd_ne _ _ h]
section
variable {n i B p4 c d2 t : Int} {np : Nat} {ps : List (List Int)} {xs : List Int} {q K : Nat} (hq : q < 4) (hx : (xs.length : Int) = 32 + 32 * B) (hp4 : p4 = 32 + 32 * B) (hB : 1 ≤ B ∧ B ≤ 8) (hc : 0 ≤ c ∧ c ≤ 100000) (hc2 : 0 ≤ d2 ∧ d2 ≤ 100000) (hK : K ≤ 999) (E : Ctx MObj) (hE : E.nid0 = 1) (hT : E.top = 60) (hD : ∀ b, 1 ≤ b → E.D b)
include hq hx hp4 hB hc hc2 hK hE hT hD
/-- A worker's step, whatever it is at. -/
theorem stepW (s : Nat → WS) (ho : ∀ k, k < 4 → (s k).ok K) (kk : Int) (hkk : 0 ≤ kk ∧ kk < 24) (js : Nat → SV) : TriX MS (listX Try.prog three) E ⟨pre n np i ++ [.v (ii kk), .v (.ptr 4 (5 * q))] ++ junk js 68 14, base ps B p4 xs c d2 t (.abs (.grp (WG B p4 s))), 5, []⟩ (Mid n np i ps B p4 c d2 K) := by
  have h0 := ho q hq
  have hs := upd_self s q
  generalize s q = x at hs h0
  rw [hs]
  cases x with
  | idle h vp vq =>
    cases h with
    | nil => exact wiN hq hx hp4 hB hc hc2 hK E hE hT hD vp vq kk hkk s h0 ho js
    | es => exact wiE hq hx hp4 hB hc hc2 hK E hE hT hD vp vq kk hkk s h0 ho js
    | tab rows => exact wiT hq hx hp4 hB hc hc2 hK E hE hT hD vp vq rows kk hkk s h0 ho js
  | load cl st w b e k h vq => exact wt0 hq hx hp4 hB hc hc2 hK E hE hT hD cl st w e k vq b h kk hkk s h0 ho js
  | take j cl st w e k h vq =>
    rcases (show j = 1 ∨ j = 2 ∨ j = 3 ∨ j = 4 by have := h0.1; omega) with rfl | rfl | rfl | rfl
    · exact wt1 hq hx hp4 hB hc hc2 hK E hE hT hD cl st w e k vq h kk hkk s h0 ho js
    · exact wt2 hq hx hp4 hB hc hc2 hK E hE hT hD cl st w e k vq h kk hkk s h0 ho js
    · exact wt3 hq hx hp4 hB hc hc2 hK E hE hT hD cl st w e k vq h kk hkk s h0 ho js
    · exact wt4 hq hx hp4 hB hc hc2 hK E hE hT hD cl st w e k vq h kk hkk s h0 ho js
  | lay j cl st w e k hd fi la pw h vq =>
    rcases (show j = 0 ∨ j = 1 ∨ j = 2 by have := h0.1; omega) with rfl | rfl | rfl
    · exact wl0 hq hx hp4 hB hc hc2 hK E hE hT hD cl st w e k hd fi la pw vq h kk hkk s h0 ho js
    · exact wl1 hq hx hp4 hB hc hc2 hK E hE hT hD cl st w e k hd fi la pw vq h kk hkk s h0 ho js
    · cases h with
      | nil => exact wl2n hq hx hp4 hB hc hc2 hK E hE hT hD cl st w e k hd fi la pw vq kk hkk s h0 ho js
      | es => exact wl2e hq hx hp4 hB hc hc2 hK E hE hT hD cl st w e k hd fi la pw vq kk hkk s h0 ho js
      | tab rows => exact wl2t hq hx hp4 hB hc hc2 hK E hE hT hD cl st w e k hd fi la pw vq rows kk hkk s h0 ho js
  | give j b w h vp =>
    rcases (show j = 0 ∨ j = 1 ∨ j = 2 by have := h0.1; omega) with rfl | rfl | rfl
    · exact wg0 hq hx hp4 hB hc hc2 hK E hE hT hD b w vp h kk hkk s h0 ho js
    · exact wg1 hq hx hp4 hB hc hc2 hK E hE hT hD b w vp h kk hkk s h0 ho js
    · exact wg2 hq hx hp4 hB hc hc2 hK E hE hT hD b w vp h kk hkk s h0 ho js
theorem stepR (s : Nat → WS) (ho : ∀ k, k < 4 → (s k).ok K) (kk : Int) (hkk : 0 ≤ kk ∧ kk < 24) (js : Nat → SV) : TriX MS (listX Try.prog three) E ⟨pre n np i ++ [.v (ii kk), .v (.ptr 4 (5 * q))] ++ junk js 68 14, base ps B p4 xs c d2 t (.abs (.grp (WG B p4 s))), 5, []⟩
    fun x st => x = .normal ∧ ∃ s' xs' c' d2' t' js, st = St0 n np i ps B p4 xs' c' d2' t' s' js ∧ (xs'.length : Int) = 32 + 32 * B ∧ (∀ k, k < 4 → (s' k).ok (K + 1)) ∧ c ≤ c' ∧ c' ≤ c + 1 ∧ d2 ≤ d2' ∧ d2' ≤ d2 + 1 := by
  refine TriX.postE (mono_list _) (stepW hq hx hp4 hB hc hc2 hK E hE hT hD s ho kk hkk js) ?_
  rintro x ⟨tm, hp, nid, dd⟩ ac w ⟨rfl, s', xs', c', d2', t', ⟨js', h0⟩, h1, h2, h3, h4, h5, h6, h7, h8, h9⟩ hat
  have h0 : tm = pre n np i ++ junk js' 70 12 := h0
  subst h0
  have h2 : renChk R5 hp E.nid0 nid 5 = true := by rw [hE]; exact h2
  obtain ⟨js2, h10⟩ := at_rename (dirty' := []) (m := 12) (n := 70) (pre := pre n np i) (pre' := pre n np i) R5 rfl (by simp [length_junk]) rfl h1 h2 (by omega) (by omega) hat
  exact ⟨_, h10, rfl, s', xs', c', d2', t', js2, rfl, h4, h5, h6, h7, h8, h9⟩
end
section
variable (n : Int) (np : Nat) (ps : List (List Int)) (hnp : np = ps.length) (hf : RFits [.int .i64] ps) (E : Ctx MObj) (hE : E.nid0 = 1) (hT : E.top = 60) (hD : ∀ b, 1 ≤ b → E.D b)
include hnp hf hE hT hD
abbrev Q : VX → St MObj → Prop := fun x st => (x = .normal ∨ x = .ret) ∧ ∃ l, (vresults Try.prog st Try.f3.results.toList).run = some l ∧ IsTrue (tupleOf l)
section
variable {B p4 : Int} (hp4 : p4 = 32 + 32 * B) (hB : 1 ≤ B ∧ B ≤ 8)
include hp4 hB
theorem round {i : Int} (hi : 0 ≤ i ∧ i ≤ 300) {st : St MObj} (hJ : J n np ps B p4 i i st) :
    Tri MS Try.prog E lbody st fun x st => (x = .normal ∧ i + 1 ≤ 300 ∧ J n np ps B p4 (i + 1) (i + 1) st) ∨ (x = .exit 0 ∧ J n np ps B p4 i i st) := by
  obtain ⟨xs, c, d2, t, s, js, hx, hok, hc, hc2, rfl⟩ := hJ
  have hd : ∀ (l : List Nat), l.all (Nat.ble 1) = true → ∀ b, b ∈ l → E.D b := fun l hl b hb => hD b (Nat.le_of_ble_eq_true (List.all_eq_true.1 hl b hb))
  have ht : ∀ {k : Nat}, Nat.ble k 60 = true → k ≤ E.top := fun h => by rw [hT]; exact Nat.le_of_ble_eq_true h
  refine Tri.seq (R := fun x st => ∃ js, st = St0 n np i ps B p4 xs c d2 t s js ∧ ((x = .normal ∧ i < np ∧ i < 300) ∨ x = .exit 0)) ?_ ?_ ?_
  · exact Tri.allR (m := 12) (n := 70) (codeOK _) (g n i B p4 c d2 t np ps xs _ js hx hp4 hB (by omega) (by omega)) (Tr.all_ite (fun h1 => Tr.all_ite (fun h2 => Tr.all_ok ⟨rfl, ht rfl, hd _ rfl, fun js => ⟨js, rfl, .inl ⟨rfl, of_decide_eq_true h1, of_decide_eq_true h2⟩⟩⟩) fun _ => Tr.all_ok ⟨rfl, ht rfl, hd _ rfl, fun js => ⟨js, rfl, .inr rfl⟩⟩) fun _ => Tr.all_ok ⟨rfl, ht rfl, hd _ rfl, fun js => ⟨js, rfl, .inr rfl⟩⟩)
  · rintro st ⟨js, rfl, h | h⟩
    rotate_left
    · cases h
    obtain ⟨_, hin, hi3⟩ := h
    have hix : i.toNat < ps.length := by omega
    have k0 := kM_range (c := tabAt ps i.toNat 0) (n := 24) (by decide) (tab_fits hf hix (j := 0) rfl)
    have k1 : 0 ≤ Int.tmod (kM (tabAt ps (Int.toNat i) 0) 24) 4 ∧ Int.tmod (kM (tabAt ps (Int.toNat i) 0) 24) 4 < 4 := ⟨Int.tmod_nonneg _ k0.1, Int.tmod_lt_of_pos _ (by decide)⟩
    refine Tri.seq (R := fun x st => x = .normal ∧ J n np ps B p4 i (i + 1) st) ?_ ?_ (fun x s hx hh => absurd hh.1 hx)
    · refine Tri.block (R := fun x st => x = .normal ∧ J n np ps B p4 i (i + 1) st) ?_ (fun s hh => by
        rcases hh with hh | hh
        · exact ⟨rfl, hh.2⟩
        · exact ⟨rfl, hh.2⟩) (fun x s h1 h2 hh => absurd hh.1 h1)
      have key : ∀ (q : Nat), q < 4 → ∀ (kk : Int), 0 ≤ kk ∧ kk < 24 → ∀ js, Tri MS Try.prog E (seqs three smC) ⟨pre n np i ++ [.v (ii kk), .v (.ptr 4 (5 * q))] ++ junk js 68 14, base ps B p4 xs c d2 t (.abs (.grp (WG B p4 s))), 5, []⟩ fun x st => x = .normal ∧ J n np ps B p4 i (i + 1) st := by
        intro q hq kk hkk js
        refine TriX.rest (stepR hq hx hp4 hB (by omega) (by omega) (K := i.toNat) (by omega) E hE hT hD s hok kk hkk js) ?_ (fun x s hx hh => absurd hh.1 hx)
        rintro st ⟨_, s', xs', c', d2', t', js, rfl, g1, g2, g3, g4, g5, g6⟩
        have e1 : i.toNat + 1 = (i + 1).toNat := by omega
        rw [e1] at g2
        exact Tri.allR (m := 12) (n := 70) (codeOK _) (sm n i B p4 c' d2' t' np ps xs' _ js g1 hp4 hB (by omega) (by omega) ⟨hi.1, hi3⟩ (by omega)) (Tr.all_ite (fun _ => Tr.all_ok ⟨rfl, ht rfl, hd _ rfl, fun js => ⟨rfl, xs', c', d2', t', s', js, g1, g2, by omega, by omega, rfl⟩⟩) fun _ => Tr.all_ok ⟨rfl, ht rfl, hd _ rfl, fun js => ⟨rfl, xs', c', d2', t', s', js, g1, g2, by omega, by omega, rfl⟩⟩)
      refine Tri.listR (m := 14) (n := 68) (l := [qt [false], qt [true, false]]) (c' := seqs three smC) codeOK 2 rfl kxE (kx n i B p4 c d2 t np ps xs _ js hx hp4 hB (by omega) (by omega) ⟨hi.1, hi3⟩ hin hnp k0 k1)
        (Tr.all_ite (fun _ => Tr.all_ok ⟨rfl, rfl, ht rfl, hd _ rfl, fun js => key 3 (by decide) _ k0 js⟩) fun _ => Tr.all_ite (fun _ => Tr.all_ok ⟨rfl, rfl, ht rfl, hd _ rfl, fun js => key 2 (by decide) _ k0 js⟩) fun _ => Tr.all_ite (fun _ => Tr.all_ok ⟨rfl, rfl, ht rfl, hd _ rfl, fun js => key 1 (by decide) _ k0 js⟩) fun _ => Tr.all_ok ⟨rfl, rfl, ht rfl, hd _ rfl, fun js => key 0 (by decide) _ k0 js⟩)
    · rintro st ⟨_, xs', c', d2', t', s', js, g1, g2, g3, g4, rfl⟩
      have e4 : W (i + 1) = i + 1 := wrap_i64_of (by omega) (by omega)
      refine Tri.allR (m := 12) (n := 70) (codeOK _) (inc n i B p4 c' d2' t' np ps xs' _ js g1 hp4 hB (by omega) (by omega)) (Tr.all_ok ⟨rfl, ht rfl, hd _ rfl, fun js => .inl ⟨rfl, by omega, ?_⟩⟩)
      rw [← e4]
      refine ⟨xs', c', d2', t', s', js, g1, ?_, ?_, ?_, rfl⟩
      · rw [e4]; exact g2
      · rw [e4]; exact g3
      · rw [e4]; exact g4
  · rintro x st hx' ⟨js, rfl, h | h⟩
    · exact absurd h.1 hx'
    · exact .inr ⟨h, xs, c, d2, t, s, js, hx, hok, hc, hc2, rfl⟩
theorem rest {xs : List Int} {c : Int} (vs : Nat → Value) (hx : (xs.length : Int) = 32 + 32 * B) (hc : 0 ≤ c ∧ c ≤ 1000) (js : Nat → SV) :
    Tri MS Try.prog E (.seq (.seq initC (.block 0 (.loop lbody))) finC) ⟨List.take 11 (pre n np 0) ++ [.t []] ++ junk js 70 12, base ps B p4 xs c 0 0 (.abs (.grp (WG B p4 fun q => .idle .nil (vs (5 * q + 2)) (vs (5 * q + 3))))), 5, []⟩ Q := by
  have hd : ∀ (l : List Nat), l.all (Nat.ble 1) = true → ∀ b, b ∈ l → E.D b := fun l hl b hb => hD b (Nat.le_of_ble_eq_true (List.all_eq_true.1 hl b hb))
  have ht : ∀ {k : Nat}, Nat.ble k 60 = true → k ≤ E.top := fun h => by rw [hT]; exact Nat.le_of_ble_eq_true h
  refine Tri.seq (R := fun x s => x = .normal ∧ ∃ i, 0 ≤ i ∧ i ≤ 300 ∧ J n np ps B p4 i i s) ?_ ?_ (fun x s hx hh => absurd hh.1 hx)
  · refine Tri.seq (R := fun x s => x = .normal ∧ J n np ps B p4 0 0 s) ?_ ?_ (fun x s hx hh => absurd hh.1 hx)
    · refine Tri.postE (Q := fun x s => x = .normal ∧ ∀ aa ww, At MS E s aa ww → ∃ s', At MS E s' aa ww ∧ J n np ps B p4 0 0 s') (Tri.allR (m := 12) (n := 70) (codeOK _) (init n B p4 c 0 0 np ps xs _ (.t []) js hx hp4 hB (by omega) (by omega)) (Tr.all_ok ⟨rfl, ht rfl, hd _ rfl, fun js => ⟨rfl, fun aa ww hat => ⟨St0 n np 0 ps B p4 xs c 0 0 (fun q => .idle .nil (vs (5 * q + 2)) (vs (5 * q + 3))) js, at_tm (p' := pre n np 0) (by (repeat' apply And.intro) <;> first | rfl | trivial) hat, xs, c, 0, 0, (fun q => .idle .nil (vs (5 * q + 2)) (vs (5 * q + 3))), js, hx, fun _ _ => trivial, by omega, by omega, rfl⟩⟩⟩)) ?_
      rintro x s aa ww ⟨rfl, hh⟩ hat
      obtain ⟨s', h1, h2⟩ := hh aa ww hat
      exact ⟨s', h1, rfl, h2⟩
    · rintro s ⟨_, hJ⟩
      refine Tri.block (R := fun x s => x = .exit 0 ∧ ∃ i, 0 ≤ i ∧ i ≤ 300 ∧ J n np ps B p4 i i s) ?_ (fun s hh => by
        rcases hh with hh | hh
        · cases hh.1
        · exact ⟨rfl, hh.2⟩) (fun x s _ hx hh => absurd hh.1 hx)
      refine Tri.loop (J := fun k s => ∃ i : Int, 0 ≤ i ∧ i ≤ 300 ∧ J n np ps B p4 i i s ∧ k = (300 - i).toNat) ?_ (k := (300 - 0 : Int).toNat) ⟨0, by decide, by decide, hJ, rfl⟩
      rintro k s ⟨i, h0, h1, hJ, rfl⟩
      refine (round n np ps hnp hf E hE hT hD hp4 hB ⟨h0, h1⟩ hJ).mono ?_
      rintro x s (⟨rfl, h2, h3⟩ | ⟨rfl, h3⟩)
      · exact ⟨(300 - (i + 1)).toNat, by omega, i + 1, by omega, h2, h3, rfl⟩
      · exact ⟨rfl, i, h0, h1, h3⟩
  · rintro s ⟨_, i, h0, h1, xs', c', d2', t', s', js, g1, g2, g3, g4, rfl⟩
    exact Tri.allR (m := 12) (n := 70) (codeOK _) (fin n i B p4 c' d2' t' np ps xs' _ js g1 hp4 hB (by omega) (by omega) (by omega)) (Tr.all_ok ⟨rfl, ht rfl, hd _ rfl, fun js => ⟨.inr rfl, _, (congrArg Tr.run (resX n np _ _ _ _ _ _ _ _ true js)).trans rfl, rfl⟩⟩)
end
abbrev mk2 : List Bool := [false, false, true, true, false, false, false, true, true, false, false, false, true, true, false, false, false, true, true, false]
/-- The law's state when its head is over. -/
theorem settle0 {B p4 c : Int} {N : Nat} {rows : List (List Int)} {xs : List Int} {js : Nat → SV} {d : List Nat} {a : Act} {w : World}
    (h : At MS E ⟨[.v (ii n), .v (.an 0 (.sym np)), .t [], .t [], .v (.bool (.lit false)), .v (.bool (.lit true)), .v (.ptr 1 0), .v (.int .i64 (.lit 0)), .v (.ptr 6 0), .v (.ptr 5 0), .v (.ptr 7 0), .t []] ++ junk js 70 12,
      [(0, some (.rotab [.int .i64] ps)), (1, some (.cells [.int .i64 (.lit 4), .int .i64 (.lit B), .int .i64 (.lit 14), .int .i64 (.lit 32), .int .i64 (.lit p4)] 25)), (4, some (.tab [.int .u64] rows 52)), (5, some (.cells [.ts 4 (.lit 0) (.lit N) none, .int .i64 (.lit 0), .int .i64 (.lit 0), .nils] 68)), (6, some (.abs (.mem 95 xs c 0))), (7, some (.cells [.nilp, .nilp, .nilp, .nilp, .nils, .nilp, .nilp, .nilp, .nilp, .nils, .nilp, .nilp, .nilp, .nilp, .nils, .nilp, .nilp, .nilp, .nilp, .nils] 40))], 8, d⟩ a w) (hr : rows = rowsW xs) (hN : N = xs.length) :
    ∃ (vs : Nat → Value) (js : Nat → SV), At MS E ⟨List.take 11 (pre n np 0) ++ [.t []] ++ junk js 70 12, base ps B p4 xs c 0 0 (.abs (.grp (WG B p4 fun q => .idle .nil (vs (5 * q + 2)) (vs (5 * q + 3))))), 5, []⟩ a w := by
  subst hr hN
  have h1 := at_memfold (b := 5) (x1 := 4) (x2 := 9) (ty := 68) (xs := xs) (c := 0) (t := 0) (isMem_nil rfl rfl rfl (by decide) (by decide) (by decide) rfl rfl rfl rfl) (hD 5 (by decide)) (hD 4 (by decide)) (hD 9 (by decide)) h
  have h2 := at_can h1
  obtain ⟨vs, h3⟩ := at_forget 7 mk2 rfl rfl h2
  have h4 := at_grpfold (b := 7) (g := WG B p4 fun q => .idle .nil (vs (5 * q + 2)) (vs (5 * q + 3))) rfl rfl (fun n => rfl) h3
  obtain ⟨js', h5⟩ := at_rename (dirty' := []) (m := 12) (n := 70) [(0, 0), (1, 1), (6, 2), (5, 3), (7, 4)] (nid' := 5) rfl (by simp [length_junk]) rfl rfl (by rw [hE]; rfl) (by omega) (by omega) h4
  exact ⟨vs, js', h5⟩
theorem runs (hn : CK.fits (.int .i64) n) : Tri MS Try.prog E body ⟨[.v (ii n), .v (.an 0 (.sym np))] ++ List.replicate (nt - 2) .undef, [(0, some (.rotab [.int .i64] ps))], 1, []⟩ Q := by
  have hd : ∀ (l : List Nat), l.all (Nat.ble 1) = true → ∀ b, b ∈ l → E.D b := fun l hl b hb => hD b (Nat.le_of_ble_eq_true (List.all_eq_true.1 hl b hb))
  have ht : ∀ {k : Nat}, Nat.ble k 60 = true → k ≤ E.top := fun h => by rw [hT]; exact Nat.le_of_ble_eq_true h
  have hkn := kM_range (c := n) (n := 8) (by decide) hn
  rcases (show kM n 8 = 0 ∨ kM n 8 = 1 ∨ kM n 8 = 2 ∨ kM n 8 = 3 ∨ kM n 8 = 4 ∨ kM n 8 = 5 ∨ kM n 8 = 6 ∨ kM n 8 = 7 by omega) with hk | hk | hk | hk | hk | hk | hk | hk
  · refine Tri.listR (m := 12) (n := 70) (l := (Eng.spine 6 body).1) codeOK 6 rfl restE (start0 n np ps hk) (Tr.all_ok ⟨rfl, rfl, ht rfl, hd _ rfl, fun js => ?_⟩)
    refine Tri.preE fun aa ww hat => let ⟨vs, js', hat'⟩ := settle0 n np ps hnp hf E hE hT hD (B := 1) (p4 := 64) (c := 64) (N := 64) hat rfl rfl; ⟨_, hat', ?_⟩
    exact rest n np ps hnp hf E hE hT hD (B := 1) (by decide) (by decide) vs (by decide) (by decide) js'
  · refine Tri.listR (m := 12) (n := 70) (l := (Eng.spine 6 body).1) codeOK 6 rfl restE (start1 n np ps hk) (Tr.all_ok ⟨rfl, rfl, ht rfl, hd _ rfl, fun js => ?_⟩)
    refine Tri.preE fun aa ww hat => let ⟨vs, js', hat'⟩ := settle0 n np ps hnp hf E hE hT hD (B := 2) (p4 := 96) (c := 96) (N := 96) hat rfl rfl; ⟨_, hat', ?_⟩
    exact rest n np ps hnp hf E hE hT hD (B := 2) (by decide) (by decide) vs (by decide) (by decide) js'
  · refine Tri.listR (m := 12) (n := 70) (l := (Eng.spine 6 body).1) codeOK 6 rfl restE (start2 n np ps hk) (Tr.all_ok ⟨rfl, rfl, ht rfl, hd _ rfl, fun js => ?_⟩)
    refine Tri.preE fun aa ww hat => let ⟨vs, js', hat'⟩ := settle0 n np ps hnp hf E hE hT hD (B := 3) (p4 := 128) (c := 128) (N := 128) hat rfl rfl; ⟨_, hat', ?_⟩
    exact rest n np ps hnp hf E hE hT hD (B := 3) (by decide) (by decide) vs (by decide) (by decide) js'
  · refine Tri.listR (m := 12) (n := 70) (l := (Eng.spine 6 body).1) codeOK 6 rfl restE (start3 n np ps hk) (Tr.all_ok ⟨rfl, rfl, ht rfl, hd _ rfl, fun js => ?_⟩)
    refine Tri.preE fun aa ww hat => let ⟨vs, js', hat'⟩ := settle0 n np ps hnp hf E hE hT hD (B := 4) (p4 := 160) (c := 160) (N := 160) hat rfl rfl; ⟨_, hat', ?_⟩
    exact rest n np ps hnp hf E hE hT hD (B := 4) (by decide) (by decide) vs (by decide) (by decide) js'
  · refine Tri.listR (m := 12) (n := 70) (l := (Eng.spine 6 body).1) codeOK 6 rfl restE (start4 n np ps hk) (Tr.all_ok ⟨rfl, rfl, ht rfl, hd _ rfl, fun js => ?_⟩)
    refine Tri.preE fun aa ww hat => let ⟨vs, js', hat'⟩ := settle0 n np ps hnp hf E hE hT hD (B := 5) (p4 := 192) (c := 192) (N := 192) hat rfl rfl; ⟨_, hat', ?_⟩
    exact rest n np ps hnp hf E hE hT hD (B := 5) (by decide) (by decide) vs (by decide) (by decide) js'
  · refine Tri.listR (m := 12) (n := 70) (l := (Eng.spine 6 body).1) codeOK 6 rfl restE (start5 n np ps hk) (Tr.all_ok ⟨rfl, rfl, ht rfl, hd _ rfl, fun js => ?_⟩)
    refine Tri.preE fun aa ww hat => let ⟨vs, js', hat'⟩ := settle0 n np ps hnp hf E hE hT hD (B := 6) (p4 := 224) (c := 224) (N := 224) hat rfl rfl; ⟨_, hat', ?_⟩
    exact rest n np ps hnp hf E hE hT hD (B := 6) (by decide) (by decide) vs (by decide) (by decide) js'
  · refine Tri.listR (m := 12) (n := 70) (l := (Eng.spine 6 body).1) codeOK 6 rfl restE (start6 n np ps hk) (Tr.all_ok ⟨rfl, rfl, ht rfl, hd _ rfl, fun js => ?_⟩)
    refine Tri.preE fun aa ww hat => let ⟨vs, js', hat'⟩ := settle0 n np ps hnp hf E hE hT hD (B := 7) (p4 := 256) (c := 256) (N := 256) hat rfl rfl; ⟨_, hat', ?_⟩
    exact rest n np ps hnp hf E hE hT hD (B := 7) (by decide) (by decide) vs (by decide) (by decide) js'
  · refine Tri.listR (m := 12) (n := 70) (l := (Eng.spine 6 body).1) codeOK 6 rfl restE (start7 n np ps hk) (Tr.all_ok ⟨rfl, rfl, ht rfl, hd _ rfl, fun js => ?_⟩)
    refine Tri.preE fun aa ww hat => let ⟨vs, js', hat'⟩ := settle0 n np ps hnp hf E hE hT hD (B := 8) (p4 := 288) (c := 288) (N := 288) hat rfl rfl; ⟨_, hat', ?_⟩
    exact rest n np ps hnp hf E hE hT hD (B := 8) (by decide) (by decide) vs (by decide) (by decide) js'
end
abbrev ks : List CK := [.int .i64]
abbrev ts : List TypeId := [3, 22]
theorem hts : Try.f3.params.toList = ts := by kernel_rfl
theorem arg0 (n : Int) : (SV.s (mkS1 Try.prog 3 [.int .i64] [n])) = .v (ii n) := by kernel_rfl
theorem core (w : World) (vals : List Value) (ha : F2 (ArgOK Try.prog w) ts vals) :
    Calls Try.prog 3 vals.toArray w fun e W' => ∃ v, e = .returned v ∧ v = .bool true ∧ Below w.heap.size w W' := by
  obtain ⟨u, v, rfl⟩ : ∃ u v, vals = [u, v] := by
    match vals, ha with
    | [u, v], _ => exact ⟨u, v, rfl⟩
    | [], ha => exact ha.elim
    | [_], ha => exact ha.2.elim
    | _ :: _ :: _ :: _, ha => exact ha.2.2.elim
  obtain ⟨ns, cs, hcs, hr⟩ := arg_plain (ks := [.int .i64]) ha.1 (by kernel_rfl)
  obtain ⟨n0, rfl, hfit⟩ : ∃ n0, ns = [n0] ∧ CK.fits (.int .i64) n0 := by
    have := hcs.fits'
    match ns, this with
    | [n0], h => exact ⟨n0, rfl, h.1⟩
    | [], h => exact h.elim
    | _ :: _ :: _, h => exact h.2.elim
  obtain ⟨xs, p, hf, hlen, hall⟩ := arg_slice (e := 3) (ks := ks) ha.2.1 (by kernel_rfl) (by kernel_rfl) (by kernel_rfl) (by decide)
  let ρ0 : Rho := fun b => match b with | 0 => some p | _ + 1 => none
  have hρ : ∀ b, 1 ≤ b → ρ0 b = none := fun b hb => by
    match b, hb with
    | b + 1, _ => rfl
  have hr0 : RS ρ0 (.s (mkS1 Try.prog 3 [.int .i64] [n0])) u := hr ρ0
  rw [arg0] at hr0
  refine (calls_of_triA (S := MS) (vargs := [u, v]) (R := IsTrue) Try.func3 hb 1 60 (by omega) hρ (hp := [(0, some (.rotab ks xs))]) (fun b o ho => ?_) (runs n0 xs.length xs rfl hf _ rfl rfl (fun b hb => hb) hfit) ⟨hr0, (hall MS ρ0 0 rfl).1, trivial⟩).mono ?_
  · match b, ho with
    | 0, ho =>
      injection ho with ho
      subst ho
      exact (hall MS ρ0 0 rfl).2
    | b + 1, ho => cases ho
  · rintro e w' ⟨v, x, ρ, rfl, hv, hR, hbel⟩
    exact ⟨v, rfl, hR.value hv, hbel⟩
theorem own : ownKnob Try.prog.godebug = none := by kernel_rfl
theorem lifted {H : Type} (os : Os) (started : os.Started) (enc : TypeId × Value → H) : ReturnsInHanded {} Try.checked os 3 .any (Rows.carvePlaysSpec.pre6 enc Try.prog Try.f3 Rows.carvePlaysRow.domain false) (Rows.carvePlaysSpec.post enc Try.prog Try.f3 false true false false) :=
  law_lifted own started (by kernel_rfl) (by kernel_rfl)
    (ChangeSpec.witness6 (enc := enc) (C := Try.checked) false ⟨#[], #[.int .i64 0, .slice none 0 0], []⟩ 8 (by kernel_rfl) (by kernel_rfl) (by kernel_rfl) (by kernel_rfl))
    (tb := 4) (by kernel_rfl) (by kernel_rfl) rfl
    (fun ds hd => by
      match ds, hd with
      | [_, _], _ => exact ⟨rfl, rfl, rfl⟩)
    (by kernel_rfl) (by kernel_rfl) (fun W vals ha => core W vals (hts ▸ ha))
theorem proved : Rows.CarvePlaysSaid :=
  OpenClaim.holds_of_wide 3 Try.f3 rfl rfl rfl rfl rfl rfl rfl ⟨rfl, rfl, rfl, rfl, rfl⟩ rfl rfl rfl rfl rfl (by kernel_rfl) Try.func3 (by kernel_rfl) (of_decide_eq_true (by kernel_rfl))
    (by unfold Func.isWrapper; first | (rw [if_pos (by decide +kernel)]; kernel_rfl) | (rw [if_neg (by decide +kernel)]; exact ⟨rfl, rfl⟩))
    (fun os started H enc _ => lifted os started enc)
end Go.Proofs.Ytmncbdalaimmhaa.CarvePlays
