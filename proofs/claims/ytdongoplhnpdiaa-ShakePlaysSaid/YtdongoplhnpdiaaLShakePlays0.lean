/-
  ShakePlays: handshakes and polls do what the document says, step by step: both memories hold the same words, and each poll and the collector are at the same step in both.
-/
import Derived.Test.YtdongoplhnpdiaaRows
import Derived.Test.YtdongoplhnpdiaaWShakePlays
import Derived.Test.YtdongoplhnpdiaaEngZk
namespace Go.Proofs.Ytdongoplhnpdiaa.ShakePlays
open Go Go.RowKit Go.Proofs.Ytdongoplhnpdiaa.Eng
set_option linter.unusedVariables false
set_option linter.unusedSimpArgs false
set_option linter.unusedSectionVars false
set_option maxRecDepth 20000
set_option maxHeartbeats 1000000
theorem hb : Try.f5.body = some body := by kernel_rfl
noncomputable abbrev initC : Code := codeAt body [true, true, true, true, true, true, true, true, true, true, true, true, true, true, false, false]
noncomputable abbrev finC : Code := codeAt body [true, true, true, true, true, true, true, true, true, true, true, true, true, true, true]
noncomputable abbrev lbody : Code := .seq (at' [false]) (.seq (.block 3 (.seq (qt [false]) (qt [true]))) (at' [true, true]))
theorem restE : (Eng.spine 14 body).2 = .seq (.seq initC (.block 2 (.loop lbody))) finC := by kernel_rfl
theorem resX (x0 x1 x2 x3 x4 x5 x7 x8 x9 x10 x11 x12 x13 x14 x15 x16 x17 x18 x19 x20 x21 : SV) (hp : HP MObj) (nid : Nat) (r : Bool) (js : Nat → SV) : vresults Try.prog (⟨[x0, x1, x2, x3, x4, x5, .v (.bool (.lit r)), x7, x8, x9, x10, x11, x12, x13, x14, x15, x16, x17, x18, x19, x20, x21] ++ junk js 216 22, hp, nid, []⟩ : St MObj) Try.f5.results.toList = .ok [.one (.bool (.lit r))] := by kernel_rfl
/-- How the collector's two objects stand together. -/
def CSok (tl : Bool) (th pc : Int) : Prop := (tl = false ∧ th = 0 ∧ pc = 1) ∨ (tl = true ∧ (0 ≤ th ∧ th < 3) ∧ pc = 2) ∨ (tl = true ∧ th = 3 ∧ pc = 0)
noncomputable abbrev St0 (A : AG) (nm np : Nat) (ak i c d t g0 g1 g2 g3 : Int) (tl : Bool) (th pc : Int) (ms ps : List (List Int)) (xs : List Int) (s : Nat → TD) (js : Nat → SV) : St MObj := ⟨pre A nm np ak i ++ junk js 216 22, bas A ms ps xs c d t s (caS g0 g1 g2 g3 tl th) (cbS g0 g1 g2 g3 pc th), 17, []⟩
/-- What holds behind a step that began at the counts c and d. -/
def JC (A : AG) (nm np : Nat) (i : Int) (ms ps : List (List Int)) (c d : Int) (st : St MObj) : Prop :=
  ∃ ak c' d' t g0 g1 g2 g3 tl th pc xs s js, xs.length = 160 ∧ (∀ k, k < 3 → (s k).ok) ∧ c ≤ c' ∧ c' ≤ c + 2 ∧ d ≤ d' ∧ d' ≤ d + 2 ∧ (0 ≤ ak ∧ ak ≤ 8) ∧ CSok tl th pc ∧ st = St0 A nm np ak i c' d' t g0 g1 g2 g3 tl th pc ms ps xs s js
/-- What holds ahead of round i. -/
def J (A : AG) (nm np : Nat) (ms ps : List (List Int)) (i j : Int) (st : St MObj) : Prop :=
  ∃ ak c d t g0 g1 g2 g3 tl th pc xs s js, xs.length = 160 ∧ (∀ k, k < 3 → (s k).ok) ∧ (0 ≤ c ∧ c ≤ 1000 + 2 * j) ∧ (0 ≤ d ∧ d ≤ 1000 + 2 * j) ∧ (0 ≤ ak ∧ ak ≤ 8) ∧ CSok tl th pc ∧ st = St0 A nm np ak i c d t g0 g1 g2 g3 tl th pc ms ps xs s js
theorem at_tm {S : Eng.Sys MObj} {E : Ctx MObj} {p p' l : List SV} {hp : HP MObj} {nid : Nat} {d : List Nat} {a : Act} {w : World} (h : wkSs p p') (hat : At S E ⟨p ++ l, hp, nid, d⟩ a w) : At S E ⟨p' ++ l, hp, nid, d⟩ a w :=
  weak_tm (tm_weak h) a w hat
abbrev RN1 : List (Nat × Nat) := [(0, 0), (1, 1), (2, 2), (3, 3), (4, 4), (5, 5), (6, 6), (7, 7), (8, 8), (9, 9), (10, 10), (11, 11), (12, 12), (13, 13), (14, 14), (21, 15), (24, 16)]
abbrev RN2 : List (Nat × Nat) := [(0, 0), (1, 1), (2, 2), (3, 3), (4, 4), (5, 5), (6, 6), (7, 7), (8, 8), (9, 9), (10, 10), (11, 11), (12, 12), (13, 13), (14, 14), (20, 15), (23, 16)]
theorem ne_of_beq_false {a b : Int} (h : (a == b) = false) : a ≠ b := fun e => by rw [e] at h; simp at h
section
variable {A : AG} {nm np : Nat} {ak i c d t g0 g1 g2 g3 pc th : Int} {tl : Bool} {ms ps : List (List Int)} {xs : List Int} (hx : xs.length = 160) (hc : 0 ≤ c ∧ c ≤ 100000) (hd : 0 ≤ d ∧ d ≤ 100000) (E : Ctx MObj) (hE : E.nid0 = 6) (hT : E.top = 60) (hD : ∀ b, 6 ≤ b → E.D b)
include hx hc hd hE hT hD
/-- A thread's step, whatever it is at. -/
theorem stepW {q : Nat} (hq : q < 3) (s : Nat → TD) (ho : ∀ k, k < 3 → (s k).ok) (js : Nat → SV) : TriX MS ((qt [true]).wp Try.prog) E ⟨pre A nm np ak i ++ [.v (lt q)] ++ junk js 215 23, bas A ms ps xs c d t s (caS g0 g1 g2 g3 tl th) (cbS g0 g1 g2 g3 pc th), 17, []⟩ (Mid A nm np ak i ms ps c d (caS g0 g1 g2 g3 tl th) (cbS g0 g1 g2 g3 pc th)) := by
  have h0 := ho q hq
  have hs := upd_self s q
  generalize s q = x at hs h0
  rw [hs]
  obtain ⟨o0, o1, o2, o3, a, N, L0, L1, L2, L3, L4, L5, L6, L7, z⟩ := x
  cases z with
  | idle vb => exact w_idle hq hx hc hd E hE hT hD o0 o1 o2 o3 a N L0 L1 L2 L3 L4 L5 L6 L7 vb s h0 ho js
  | s0 p0 p1 p2 p3 rt at' mk ua ub => exact w_s0 hq hx hc hd E hE hT hD o0 o1 o2 o3 a N L0 L1 L2 L3 L4 L5 L6 L7 p0 p1 p2 p3 rt at' mk ua ub s h0 ho js
  | s1 p0 p1 p2 p3 rt at' mk w h0' h1 h2 h3 h4 h5 h6 => exact w_s1 hq hx hc hd E hE hT hD o0 o1 o2 o3 a N L0 L1 L2 L3 L4 L5 L6 L7 p0 p1 p2 p3 rt at' mk w h0' h1 h2 h3 h4 h5 h6 s h0 ho js
  | sn j p0 p1 p2 p3 rt at' mk w h0' h1 h2 h3 h4 h5 h6 =>
    rcases h0.2.1 with rfl | rfl | rfl
    · exact w_s2 hq hx hc hd E hE hT hD o0 o1 o2 o3 a N L0 L1 L2 L3 L4 L5 L6 L7 p0 p1 p2 p3 rt at' mk w h0' h1 h2 h3 h4 h5 h6 s h0 ho js
    · exact w_s3 hq hx hc hd E hE hT hD o0 o1 o2 o3 a N L0 L1 L2 L3 L4 L5 L6 L7 p0 p1 p2 p3 rt at' mk w h0' h1 h2 h3 h4 h5 h6 s h0 ho js
    · exact w_s4 hq hx hc hd E hE hT hD o0 o1 o2 o3 a N L0 L1 L2 L3 L4 L5 L6 L7 p0 p1 p2 p3 rt at' mk w h0' h1 h2 h3 h4 h5 h6 s h0 ho js
  | learn p0 p1 p2 p3 => exact w_learn hq hx hc hd E hE hT hD o0 o1 o2 o3 a N L0 L1 L2 L3 L4 L5 L6 L7 p0 p1 p2 p3 s h0 ho js
  | fix p0 p1 p2 p3 rt => exact w_fix hq hx hc hd E hE hT hD o0 o1 o2 o3 a N L0 L1 L2 L3 L4 L5 L6 L7 p0 p1 p2 p3 rt s h0 ho js
  | tell p0 p1 p2 p3 rt kk va vb => exact w_tell hq hx hc hd E hE hT hD o0 o1 o2 o3 a N L0 L1 L2 L3 L4 L5 L6 L7 p0 p1 p2 p3 rt kk va vb s h0 ho js
theorem stepT {q : Nat} (hq : q < 3) (s : Nat → TD) (ho : ∀ k, k < 3 → (s k).ok) (hak : 0 ≤ ak ∧ ak ≤ 8) (hcs : CSok tl th pc) (js : Nat → SV) : Tri MS Try.prog E (qt [true]) ⟨pre A nm np ak i ++ [.v (lt q)] ++ junk js 215 23, bas A ms ps xs c d t s (caS g0 g1 g2 g3 tl th) (cbS g0 g1 g2 g3 pc th), 17, []⟩
    fun x st => x = .normal ∧ JC A nm np i ms ps c d st := by
  refine TriX.postE (mono_wp _) (stepW hx hc hd E hE hT hD hq s ho js) ?_
  rintro x ⟨tm, hp, nid, dd⟩ ac w ⟨rfl, s', xs', c', d', t', ⟨js', h0⟩, h1, h2, h3, h4, h5, h6, h7, h8, h9⟩ hat
  have h0 : tm = pre A nm np ak i ++ junk js' 216 22 := h0
  subst h0
  have h2 : renChk R17 hp E.nid0 nid 17 = true := by rw [hE]; exact h2
  obtain ⟨js2, h10⟩ := at_rename (dirty' := []) (m := 22) (n := 216) (pre := pre A nm np ak i) (pre' := pre A nm np ak i) R17 rfl (by simp [length_junk]) rfl h1 h2 (by omega) (by omega) hat
  exact ⟨_, h10, rfl, ak, c', d', t', g0, g1, g2, g3, tl, th, pc, xs', s', js2, h4, h5, h6, h7, h8, h9, hak, hcs, rfl⟩
theorem sc0 (s : Nat → TD) (hok : ∀ k, k < 3 → (s k).ok) (hak : 0 ≤ ak ∧ ak ≤ 8) (hnm : nm = ms.length) (js : Nat → SV) : Tri MS Try.prog E (qt [true]) ⟨pre A nm np ak i ++ [.v (lt 3)] ++ junk js 215 23, bas A ms ps xs c d t s (caS g0 g1 g2 g3 false 0) (cbS g0 g1 g2 g3 1 0), 17, []⟩ fun x st => x = .exit 3 ∧ JC A nm np i ms ps c d st := by
  have hdd : ∀ (l : List Nat), l.all (Nat.ble 6) = true → ∀ b, b ∈ l → E.D b := fun l hl b hb => hD b (Nat.le_of_ble_eq_true (List.all_eq_true.1 hl b hb))
  have ht : ∀ {k : Nat}, Nat.ble k 60 = true → k ≤ E.top := fun h => by rw [hT]; exact Nat.le_of_ble_eq_true h
  refine Tri.postE (Q := fun x st => x = .exit 3 ∧ ∀ aa ww, At MS E st aa ww → ∃ st', At MS E st' aa ww ∧ JC A nm np i ms ps c d st') (fun aa ww hat => Tri.allR (m := 22) (n := 216) (codeOK _) (c0 A nm np ak i c d t ms ps xs g0 g1 g2 g3 (OL s) (AL s) (RL s) (.abs (.grp (GA s))) (.abs (.grp (GB s))) js hx hc hd hak hnm) ?_ aa ww (at_wk2 (dirty' := []) (hp' := base A ms ps xs c d t (OL s) (AL s) (RL s) (.abs (.grp (GA s))) (.abs (.grp (GB s))) (caO g0 g1 g2 g3 false 0) (cbO g0 g1 g2 g3 1 0)) (by repeat' (first | exact trivial | refine ⟨.inl rfl, ?_⟩ | refine ⟨.inr ⟨_, _, _, rfl, rfl, (by (repeat' apply And.intro) <;> first | rfl | trivial)⟩, ?_⟩)) hat)) ?_
  · exact Tr.all_ok ⟨rfl, ht rfl, hdd _ rfl, fun js => ⟨rfl, fun aa ww hat => by
    have h1 := at_can hat
    obtain ⟨js2, h2⟩ := at_rename (dirty' := []) (m := 22) (n := 216) (pre' := pre A nm np ak i) R17 (nid' := 17) rfl (by simp [length_junk]) rfl rfl (by rw [hE]; rfl) (by omega) (by omega) h1
    exact ⟨St0 A nm np ak i (c + 1) (d + 1) t g0 g1 g2 g3 true 0 2 ms ps (List.set xs 0 (mPhase g0 g1 g2 g3)) s js2, h2, ak, (c + 1), (d + 1), t, g0, g1, g2, g3, true, 0, 2, (List.set xs 0 (mPhase g0 g1 g2 g3)), s, js2, by first | exact hx | (rw [List.length_set]; exact hx), hok, by omega, by omega, by omega, by omega, hak, .inr (.inl ⟨rfl, by decide, rfl⟩), rfl⟩⟩⟩
  · rintro x st aa ww ⟨rfl, hh⟩ hat
    obtain ⟨st', h1, h2⟩ := hh aa ww hat
    exact ⟨st', h1, rfl, h2⟩
theorem sc1 (s : Nat → TD) (hok : ∀ k, k < 3 → (s k).ok) (hak : 0 ≤ ak ∧ ak ≤ 8) (hnm : nm = ms.length) (hth : 0 ≤ th ∧ th < 3) (js : Nat → SV) : Tri MS Try.prog E (qt [true]) ⟨pre A nm np ak i ++ [.v (lt 3)] ++ junk js 215 23, bas A ms ps xs c d t s (caS g0 g1 g2 g3 true th) (cbS g0 g1 g2 g3 2 th), 17, []⟩ fun x st => x = .exit 3 ∧ JC A nm np i ms ps c d st := by
  have hdd : ∀ (l : List Nat), l.all (Nat.ble 6) = true → ∀ b, b ∈ l → E.D b := fun l hl b hb => hD b (Nat.le_of_ble_eq_true (List.all_eq_true.1 hl b hb))
  have ht : ∀ {k : Nat}, Nat.ble k 60 = true → k ≤ E.top := fun h => by rw [hT]; exact Nat.le_of_ble_eq_true h
  refine Tri.postE (Q := fun x st => x = .exit 3 ∧ ∀ aa ww, At MS E st aa ww → ∃ st', At MS E st' aa ww ∧ JC A nm np i ms ps c d st') (fun aa ww hat => Tri.allR (m := 22) (n := 216) (codeOK _) (c1 A nm np ak i c d t ms ps xs g0 g1 g2 g3 th (OL s) (AL s) (RL s) (.abs (.grp (GA s))) (.abs (.grp (GB s))) js hx hc hd hak hnm hth) ?_ aa ww (at_wk2 (dirty' := []) (hp' := base A ms ps xs c d t (OL s) (AL s) (RL s) (.abs (.grp (GA s))) (.abs (.grp (GB s))) (caO g0 g1 g2 g3 true th) (cbO g0 g1 g2 g3 2 th)) (by repeat' (first | exact trivial | refine ⟨.inl rfl, ?_⟩ | refine ⟨.inr ⟨_, _, _, rfl, rfl, (by (repeat' apply And.intro) <;> first | rfl | trivial)⟩, ?_⟩)) hat)) ?_
  · have e : W (th + 1) = th + 1 := wrap_i64_of (by omega) (by omega)
    have wak : ak < 8 → 0 ≤ W (ak + 1) ∧ W (ak + 1) ≤ 8 := fun h => by rw [show W (ak + 1) = ak + 1 from wrap_i64_of (by omega) (by omega)]; omega
    exact Tr.all_ite (fun e0 => Tr.all_ite (fun e1 => Tr.all_ite (fun e2 => Tr.all_ite (fun e3 => Tr.all_ok ⟨rfl, ht rfl, hdd _ rfl, fun js => ⟨rfl, fun aa ww hat => by
    have h1 := at_can hat
    obtain ⟨js2, h2⟩ := at_rename (dirty' := []) (m := 22) (n := 216) (pre' := pre A nm np (W (ak + 1)) i) RN1 (nid' := 17) rfl (by simp [length_junk]) rfl rfl (by rw [hE]; rfl) (by omega) (by omega) h1
    exact ⟨St0 A nm np (W (ak + 1)) i (c + 1) (d + 1) t (W (ak + 1)) (kM (tabAt ms (Int.toNat ak) 0) 9) (Int.tmod ak 2) (Int.tmod (W (Int.tdiv ak 2)) 2) false 0 1 ms ps xs s js2, h2, (W (ak + 1)), (c + 1), (d + 1), t, (W (ak + 1)), (kM (tabAt ms (Int.toNat ak) 0) 9), (Int.tmod ak 2), (Int.tmod (W (Int.tdiv ak 2)) 2), false, 0, 1, xs, s, js2, by first | exact hx | (rw [List.length_set]; exact hx), hok, by omega, by omega, by omega, by omega, wak (of_decide_eq_true e3), .inl ⟨rfl, rfl, rfl⟩, rfl⟩⟩⟩) fun e3 => Tr.all_ok ⟨rfl, ht rfl, hdd _ rfl, fun js => ⟨rfl, fun aa ww hat => by
    have h1 := at_can hat
    obtain ⟨js2, h2⟩ := at_rename (dirty' := []) (m := 22) (n := 216) (pre' := pre A nm np ak i) R17 (nid' := 17) rfl (by simp [length_junk]) rfl rfl (by rw [hE]; rfl) (by omega) (by omega) h1
    exact ⟨St0 A nm np ak i (c + 1) (d + 1) t g0 g1 g2 g3 true (W (th + 1)) 0 ms ps xs s js2, h2, ak, (c + 1), (d + 1), t, g0, g1, g2, g3, true, (W (th + 1)), 0, xs, s, js2, by first | exact hx | (rw [List.length_set]; exact hx), hok, by omega, by omega, by omega, by omega, hak, .inr (.inr ⟨rfl, eq_of_beq e1, rfl⟩), rfl⟩⟩⟩) fun e2 => Tr.all_ok ⟨rfl, ht rfl, hdd _ rfl, fun js => ⟨rfl, fun aa ww hat => by
    have h1 := at_can hat
    obtain ⟨js2, h2⟩ := at_rename (dirty' := []) (m := 22) (n := 216) (pre' := pre A nm np ak i) R17 (nid' := 17) rfl (by simp [length_junk]) rfl rfl (by rw [hE]; rfl) (by omega) (by omega) h1
    exact ⟨St0 A nm np ak i (c + 1) (d + 1) t g0 g1 g2 g3 true (W (th + 1)) 0 ms ps xs s js2, h2, ak, (c + 1), (d + 1), t, g0, g1, g2, g3, true, (W (th + 1)), 0, xs, s, js2, by first | exact hx | (rw [List.length_set]; exact hx), hok, by omega, by omega, by omega, by omega, hak, .inr (.inr ⟨rfl, eq_of_beq e1, rfl⟩), rfl⟩⟩⟩) fun e1 => Tr.all_ok ⟨rfl, ht rfl, hdd _ rfl, fun js => ⟨rfl, fun aa ww hat => by
    have h1 := at_can hat
    obtain ⟨js2, h2⟩ := at_rename (dirty' := []) (m := 22) (n := 216) (pre' := pre A nm np ak i) R17 (nid' := 17) rfl (by simp [length_junk]) rfl rfl (by rw [hE]; rfl) (by omega) (by omega) h1
    exact ⟨St0 A nm np ak i (c + 1) (d + 1) t g0 g1 g2 g3 true (W (th + 1)) 2 ms ps xs s js2, h2, ak, (c + 1), (d + 1), t, g0, g1, g2, g3, true, (W (th + 1)), 2, xs, s, js2, by first | exact hx | (rw [List.length_set]; exact hx), hok, by omega, by omega, by omega, by omega, hak, .inr (.inl ⟨rfl, (by have := ne_of_beq_false e1; rw [e] at this ⊢; omega), rfl⟩), rfl⟩⟩⟩) fun e0 => Tr.all_ite (fun e1 => absurd e1 (by simp; omega)) fun e1 => Tr.all_ok ⟨rfl, ht rfl, hdd _ rfl, fun js => ⟨rfl, fun aa ww hat => by
    have h1 := at_can hat
    obtain ⟨js2, h2⟩ := at_rename (dirty' := []) (m := 22) (n := 216) (pre' := pre A nm np ak i) R17 (nid' := 17) rfl (by simp [length_junk]) rfl rfl (by rw [hE]; rfl) (by omega) (by omega) h1
    exact ⟨St0 A nm np ak i (c + 1) (d + 1) t g0 g1 g2 g3 true th 2 ms ps xs s js2, h2, ak, (c + 1), (d + 1), t, g0, g1, g2, g3, true, th, 2, xs, s, js2, by first | exact hx | (rw [List.length_set]; exact hx), hok, by omega, by omega, by omega, by omega, hak, .inr (.inl ⟨rfl, hth, rfl⟩), rfl⟩⟩⟩
  · rintro x st aa ww ⟨rfl, hh⟩ hat
    obtain ⟨st', h1, h2⟩ := hh aa ww hat
    exact ⟨st', h1, rfl, h2⟩
theorem sc2 (s : Nat → TD) (hok : ∀ k, k < 3 → (s k).ok) (hak : 0 ≤ ak ∧ ak ≤ 8) (hnm : nm = ms.length) (js : Nat → SV) : Tri MS Try.prog E (qt [true]) ⟨pre A nm np ak i ++ [.v (lt 3)] ++ junk js 215 23, bas A ms ps xs c d t s (caS g0 g1 g2 g3 true 3) (cbS g0 g1 g2 g3 0 3), 17, []⟩ fun x st => x = .exit 3 ∧ JC A nm np i ms ps c d st := by
  have hdd : ∀ (l : List Nat), l.all (Nat.ble 6) = true → ∀ b, b ∈ l → E.D b := fun l hl b hb => hD b (Nat.le_of_ble_eq_true (List.all_eq_true.1 hl b hb))
  have ht : ∀ {k : Nat}, Nat.ble k 60 = true → k ≤ E.top := fun h => by rw [hT]; exact Nat.le_of_ble_eq_true h
  refine Tri.postE (Q := fun x st => x = .exit 3 ∧ ∀ aa ww, At MS E st aa ww → ∃ st', At MS E st' aa ww ∧ JC A nm np i ms ps c d st') (fun aa ww hat => Tri.allR (m := 22) (n := 216) (codeOK _) (c2 A nm np ak i c d t ms ps xs g0 g1 g2 g3 (OL s) (AL s) (RL s) (.abs (.grp (GA s))) (.abs (.grp (GB s))) js hx hc hd hak hnm) ?_ aa ww (at_wk2 (dirty' := []) (hp' := base A ms ps xs c d t (OL s) (AL s) (RL s) (.abs (.grp (GA s))) (.abs (.grp (GB s))) (caO g0 g1 g2 g3 true 3) (cbO g0 g1 g2 g3 0 3)) (by repeat' (first | exact trivial | refine ⟨.inl rfl, ?_⟩ | refine ⟨.inr ⟨_, _, _, rfl, rfl, (by (repeat' apply And.intro) <;> first | rfl | trivial)⟩, ?_⟩)) hat)) ?_
  · have wak : ak < 8 → 0 ≤ W (ak + 1) ∧ W (ak + 1) ≤ 8 := fun h => by rw [show W (ak + 1) = ak + 1 from wrap_i64_of (by omega) (by omega)]; omega
    exact Tr.all_ite (fun e2 => Tr.all_ite (fun e3 => Tr.all_ok ⟨rfl, ht rfl, hdd _ rfl, fun js => ⟨rfl, fun aa ww hat => by
    have h1 := at_can hat
    obtain ⟨js2, h2⟩ := at_rename (dirty' := []) (m := 22) (n := 216) (pre' := pre A nm np (W (ak + 1)) i) RN2 (nid' := 17) rfl (by simp [length_junk]) rfl rfl (by rw [hE]; rfl) (by omega) (by omega) h1
    exact ⟨St0 A nm np (W (ak + 1)) i c d t (W (ak + 1)) (kM (tabAt ms (Int.toNat ak) 0) 9) (Int.tmod ak 2) (Int.tmod (W (Int.tdiv ak 2)) 2) false 0 1 ms ps xs s js2, h2, (W (ak + 1)), c, d, t, (W (ak + 1)), (kM (tabAt ms (Int.toNat ak) 0) 9), (Int.tmod ak 2), (Int.tmod (W (Int.tdiv ak 2)) 2), false, 0, 1, xs, s, js2, by first | exact hx | (rw [List.length_set]; exact hx), hok, by omega, by omega, by omega, by omega, wak (of_decide_eq_true e3), .inl ⟨rfl, rfl, rfl⟩, rfl⟩⟩⟩) fun e3 => Tr.all_ok ⟨rfl, ht rfl, hdd _ rfl, fun js => ⟨rfl, fun aa ww hat => by
    have h1 := at_can hat
    obtain ⟨js2, h2⟩ := at_rename (dirty' := []) (m := 22) (n := 216) (pre' := pre A nm np ak i) R17 (nid' := 17) rfl (by simp [length_junk]) rfl rfl (by rw [hE]; rfl) (by omega) (by omega) h1
    exact ⟨St0 A nm np ak i c d t g0 g1 g2 g3 true 3 0 ms ps xs s js2, h2, ak, c, d, t, g0, g1, g2, g3, true, 3, 0, xs, s, js2, by first | exact hx | (rw [List.length_set]; exact hx), hok, by omega, by omega, by omega, by omega, hak, .inr (.inr ⟨rfl, rfl, rfl⟩), rfl⟩⟩⟩) fun e2 => Tr.all_ok ⟨rfl, ht rfl, hdd _ rfl, fun js => ⟨rfl, fun aa ww hat => by
    have h1 := at_can hat
    obtain ⟨js2, h2⟩ := at_rename (dirty' := []) (m := 22) (n := 216) (pre' := pre A nm np ak i) R17 (nid' := 17) rfl (by simp [length_junk]) rfl rfl (by rw [hE]; rfl) (by omega) (by omega) h1
    exact ⟨St0 A nm np ak i c d t g0 g1 g2 g3 true 3 0 ms ps xs s js2, h2, ak, c, d, t, g0, g1, g2, g3, true, 3, 0, xs, s, js2, by first | exact hx | (rw [List.length_set]; exact hx), hok, by omega, by omega, by omega, by omega, hak, .inr (.inr ⟨rfl, rfl, rfl⟩), rfl⟩⟩⟩
  · rintro x st aa ww ⟨rfl, hh⟩ hat
    obtain ⟨st', h1, h2⟩ := hh aa ww hat
    exact ⟨st', h1, rfl, h2⟩
theorem stepC (s : Nat → TD) (hok : ∀ k, k < 3 → (s k).ok) (hak : 0 ≤ ak ∧ ak ≤ 8) (hcs : CSok tl th pc) (hnm : nm = ms.length) (js : Nat → SV) : Tri MS Try.prog E (qt [true]) ⟨pre A nm np ak i ++ [.v (lt 3)] ++ junk js 215 23, bas A ms ps xs c d t s (caS g0 g1 g2 g3 tl th) (cbS g0 g1 g2 g3 pc th), 17, []⟩
    fun x st => x = .exit 3 ∧ JC A nm np i ms ps c d st := by
  rcases hcs with ⟨rfl, rfl, rfl⟩ | ⟨rfl, hth, rfl⟩ | ⟨rfl, rfl, rfl⟩
  · exact sc0 hx hc hd E hE hT hD s hok hak hnm js
  · exact sc1 hx hc hd E hE hT hD s hok hak hnm hth js
  · exact sc2 hx hc hd E hE hT hD s hok hak hnm js
end
end Go.Proofs.Ytdongoplhnpdiaa.ShakePlays
