/-
  GreyOnce: a round of the law's loop. Printed by genGNL.py.
-/
import Derived.Test.YtlkanbgcghjhnaaWGreyOnce2
namespace Go.Proofs.Ytlkanbgcghjhnaa.GreyOnce
open Go Go.RowKit Go.Proofs.Ytlkanbgcghjhnaa.Eng
set_option linter.unusedVariables false
set_option linter.unusedSimpArgs false
set_option linter.unusedSectionVars false
set_option maxRecDepth 20000
set_option maxHeartbeats 4000000
abbrev zz (s : Nat → WS) : Nat → GreyOnceP.PW := fun k => (s k).abs
theorem zz_upd (s : Nat → WS) (q : Nat) (Y : WS) : zz (upd s q Y) = GreyOnceP.upd (zz s) q Y.abs := by
  funext k
  show (upd s q Y k).abs = GreyOnceP.upd (zz s) q Y.abs k
  by_cases h : k = q
  · rw [h, upd_eq, GreyOnceP.upd_eq]
  · rw [upd_ne _ _ h, GreyOnceP.upd_ne _ _ h]
/-- Which objects are among these. -/
def bOf (l : List Int) : Nat → Bool := fun j => decide ((96 + 4 * (j : Int)) ∈ l)
theorem bOf_set {l m : List Int} {j : Nat} (h : ∀ y, y ∈ m ↔ y ∈ l ∨ y = 96 + 4 * (j : Int)) : bset (bOf l) j = bOf m := by
  funext i
  unfold bset
  cases e : Nat.beq i j with
  | true => rw [Nat.eq_of_beq_eq_true e]; exact (decide_eq_true ((h _).2 (.inr rfl))).symm
  | false =>
    have hne : i ≠ j := Nat.ne_of_beq_eq_false e
    show decide _ = decide _
    congr 1
    rw [h]
    refine propext ⟨.inl, fun h => ?_⟩
    rcases h with h | h
    · exact h
    · omega
theorem bOf_cons (l : List Int) (j : Nat) : bset (bOf l) j = bOf ((96 + 4 * (j : Int)) :: l) := bOf_set fun y => by simp [or_comm]
structure Good (xs L : List Int) (s : Nat → WS) (N : NS) (D A : List Int) : Prop where
  inv : GreyOnceP.Inv xs L (zz s) N.abs D A
  sh : ∀ k, k < 3 → (s k).ok
  nok : N.ok
def Pot (xs : List Int) (z : Nat → GreyOnceP.PW) (nz : GreyOnceP.NW) (D A : List Int) (i : Int) : Prop := 300 ≤ i → GreyOnceP.PA xs z nz ((i - 300) / 4) ((i - 300).toNat % 4) ∧ GreyOnceP.PB xs z nz D A ((i - 300) / 4)
def J (np : Nat) (ps : List (List Int)) (ys : List Int) (i : Int) (st : St MObj) : Prop := ∃ xs L s N D A c js, Good xs L s N D A ∧ (0 ≤ c ∧ c ≤ 1000 + i) ∧ Pot xs (zz s) N.abs D A i ∧ st = (⟨pre np i ++ junk js 128 11, bas ps xs ys c s N (bOf A) (bOf D), 7, []⟩ : St MObj)
/-- Behind a round's body: all holds of the next round, but for the number. -/
def JB (np : Nat) (ps : List (List Int)) (ys : List Int) (i : Int) (st : St MObj) : Prop := ∃ xs L s N D A c js, Good xs L s N D A ∧ (0 ≤ c ∧ c ≤ 1000 + (i + 1)) ∧ Pot xs (zz s) N.abs D A (i + 1) ∧ st = (⟨pre np i ++ junk js 128 11, bas ps xs ys c s N (bOf A) (bOf D), 7, []⟩ : St MObj)
section
variable {xs L : List Int} {s : Nat → WS} {N : NS} {D A : List Int} (G : Good xs L s N D A)
include G
theorem Good.keepS {q : Nat} (hq : q < 3) {Y : WS} {ys : List Int} (h : GreyOnceP.SStep xs (s q).abs Y.abs ys) (hY : Y.ok) : ∃ L', Good ys L' (upd s q Y) N D A := by
  obtain ⟨L', h1⟩ := GreyOnceP.keepS G.inv hq (x := Y.abs) h
  refine ⟨L', by rw [zz_upd]; exact h1, fun k hk => ?_, G.nok⟩
  by_cases e : k = q
  · rw [e, upd_eq]; exact hY
  · rw [upd_ne _ _ e]; exact G.sh k hk
theorem Good.keepN {Y : NS} {ys D' : List Int} (h : GreyOnceP.NStep xs D N.abs Y.abs ys D') (hY : Y.ok) : ∃ L', Good ys L' s Y D' A := by
  obtain ⟨L', h1⟩ := GreyOnceP.keepN G.inv h
  exact ⟨L', h1, G.sh, hY⟩
theorem Good.pot0 {i : Int} (hi : i + 1 ≤ 300) : Pot xs (zz s) N.abs D A (i + 1) := fun h => by
  obtain rfl : i = 299 := by omega
  exact GreyOnceP.pot0 G.inv
end
/-- A thread's turn. -/
theorem potS {xs L : List Int} {s : Nat → WS} {N : NS} {D A : List Int} (G : Good xs L s N D A) {i : Int} (hi : 300 ≤ i) {q : Nat} (hq : q < 3) (hqi : (i - 300).toNat % 4 = q) {Y : WS} {ys : List Int} (h : GreyOnceP.SStep xs (s q).abs Y.abs ys) (hp : Pot xs (zz s) N.abs D A i) : Pot ys (zz (upd s q Y)) N.abs D A (i + 1) := fun _ => by
  obtain ⟨h1, h2⟩ := hp hi
  rw [hqi] at h1
  have e1 : (i + 1 - 300) / 4 = (i - 300) / 4 := by omega
  have e2 : (i + 1 - 300).toNat % 4 = q + 1 := by omega
  rw [e1, e2, zz_upd]
  exact GreyOnceP.potS G.inv hq h h1 h2
theorem potN {xs L : List Int} {s : Nat → WS} {N : NS} {D A : List Int} (G : Good xs L s N D A) {i : Int} (hi : 300 ≤ i ∧ i < 600) (hqi : (i - 300).toNat % 4 = 3) {Y : NS} {ys D' : List Int} (h : GreyOnceP.NStep xs D N.abs Y.abs ys D') (hp : Pot xs (zz s) N.abs D A i) : Pot ys (zz s) Y.abs D' A (i + 1) := fun _ => by
  obtain ⟨h1, h2⟩ := hp hi.1
  rw [hqi] at h1
  have e1 : (i + 1 - 300) / 4 = (i - 300) / 4 + 1 := by omega
  have e2 : (i + 1 - 300).toNat % 4 = 0 := by omega
  rw [e1, e2]
  exact GreyOnceP.potN G.inv h (by omega) h1 h2
noncomputable abbrev rest1 : Code := .seq (codeAt body [true, true, true, true, true, true, true, true, false, true, false, false, true, false, false, true, true, false]) (.seq (codeAt body [true, true, true, true, true, true, true, true, false, true, false, false, true, false, false, true, true, true, false]) (.seq cBG cST))
noncomputable abbrev rest2 : Code := .seq cBG cST
theorem rest1E : (codeAt body [true, true, true, true, true, true, true, true, false, true, false, false, true, false, false, true, true]) = rest1 := by kernel_rfl
section
variable {ps : List (List Int)} {ys : List Int} {i : Int} {np : Nat} (E : Ctx MObj) (hE : E.nid0 = 1) (hT : E.top = 60) (hD : ∀ b, 1 ≤ b → E.D b)
include hE hT hD
/-- A Shade's step, whatever it is at. -/
theorem stepW {xs : List Int} {c : Int} {N : NS} {a t : Nat → Bool} {q : Nat} (hq : q < 3) (hx : xs.length = 160) (hc : 0 ≤ c ∧ c ≤ 100000) (s : Nat → WS) (hok : (s q).ok) (hw : ∀ b w, (s q).abs = .clm b w → w = 17) (x11 x12 x13 x14 : SV) (js : Nat → SV) :
    Tri MS Try.prog E cST ⟨pre np i ++ [x11, x12, x13, x14, .v (lt q)] ++ junk js 123 16, bas ps xs ys c s N a t, 7, []⟩ fun x st => x = .normal ∧ ∃ Y xs' c' js, (GreyOnceP.SStep xs (s q).abs Y.abs xs' ∧ Y.ok ∧ xs'.length = 160) ∧ (c ≤ c' ∧ c' ≤ c + 1) ∧ st = ⟨pre np i ++ junk js 128 11, bas ps xs' ys c' (upd s q Y) N a t, 7, []⟩ := by
  have key : ∀ X, s q = X → X.ok → (∀ b w, X.abs = .clm b w → w = 17) → Tri MS Try.prog E cST ⟨pre np i ++ [x11, x12, x13, x14, .v (lt q)] ++ junk js 123 16, bas ps xs ys c (upd s q X) N a t, 7, []⟩ fun x st => x = .normal ∧ ∃ Y xs' c' js, (GreyOnceP.SStep xs X.abs Y.abs xs' ∧ Y.ok ∧ xs'.length = 160) ∧ (c ≤ c' ∧ c' ≤ c + 1) ∧ st = ⟨pre np i ++ junk js 128 11, bas ps xs' ys c' (upd s q Y) N a t, 7, []⟩ := by
    intro X hX hok hw
    cases X with
    | idle => exact w_N hq hx hc E hE hT hD s x11 x12 x13 x14 js
    | sh j b w p1 p2 p3 p4 p5 p6 p7 =>
      have hj : j ≤ 4 := by
        match j, hok with
        | 0, _ => omega
        | 1, _ => omega
        | j + 2, h => exact h.2.1
      rcases (show j = 0 ∨ j = 1 ∨ j = 2 ∨ j = 3 ∨ j = 4 by omega) with rfl | rfl | rfl | rfl | rfl
      · exact w_0 hq hx hc E hE hT hD b w p1 p2 p3 p4 p5 p6 p7 hok s x11 x12 x13 x14 js
      · exact w_1 hq hx hc E hE hT hD b w p1 p2 p3 p4 p5 p6 p7 hok (hw b w rfl) s x11 x12 x13 x14 js
      · exact w_2 hq hx hc E hE hT hD b w p1 p2 p3 p4 p5 p6 p7 hok s x11 x12 x13 x14 js
      · exact w_3 hq hx hc E hE hT hD b w p1 p2 p3 p4 p5 p6 p7 hok s x11 x12 x13 x14 js
      · exact w_4 hq hx hc E hE hT hD b w p1 p2 p3 p4 p5 p6 p7 hok s x11 x12 x13 x14 js
  have h := key (s q) rfl hok hw
  rw [← upd_self] at h
  exact h
/-- A thread's part of a round. -/
theorem partS {xs L : List Int} {s : Nat → WS} {N : NS} {D A : List Int} (G : Good xs L s N D A) {c : Int} (hc : 0 ≤ c ∧ c ≤ 1000 + i) (hp : Pot xs (zz s) N.abs D A i) (hi : 0 ≤ i ∧ i < 600) {q : Nat} (hq : q < 3) {kk : Int} (hk : 0 ≤ kk ∧ kk < 64) (hkq : Int.tmod kk 4 = q) (hqi : 300 ≤ i → (i - 300).toNat % 4 = q) (d : Nat → SV) (hN : ∀ t, NoName (d t)) (js : Nat → SV) :
    Tri MS Try.prog E rest2 ⟨P16 np i (ii kk) d q ++ junk js 123 16, bas ps xs ys c s N (bOf A) (bOf D), 7, []⟩ fun x st => x = .normal ∧ JB np ps ys i st := by
  have hx := G.inv.len
  -- the step, from what holds behind the beginning
  have step : ∀ {s : Nat → WS} {A : List Int} (G : Good xs L s N D A) (hp : Pot xs (zz s) N.abs D A i) (k11 : VV) (js : Nat → SV), Tri MS Try.prog E cST ⟨P16 np i k11 d q ++ junk js 123 16, bas ps xs ys c s N (bOf A) (bOf D), 7, []⟩ fun x st => x = .normal ∧ JB np ps ys i st := fun {s A} G hp k11 js => by
    refine (stepW (np := np) (i := i) (ps := ps) (ys := ys) E hE hT hD hq hx (by omega) s (G.sh q hq) (fun b w h => by
      have h1 := G.inv.ok q hq
      have h2 : zz s q = .clm b w := h
      rw [h2] at h1
      exact h1.2) (.v k11) (d 12) (d 13) (d 14) js).mono ?_
    rintro x st ⟨rfl, Y, xs', c', js', ⟨h1, h2, h3⟩, h4, rfl⟩
    obtain ⟨L', G'⟩ := G.keepS hq h1 h2
    refine ⟨rfl, xs', L', upd s q Y, N, D, A, c', js', G', by omega, ?_, rfl⟩
    by_cases h : 300 ≤ i
    · exact potS G h hq (hqi h) h1 hp
    · exact G'.pot0 (by omega)
  by_cases hid : s q = .idle
  · by_cases h1 : i < np
    · by_cases h2 : i < 300
      · -- a Shade is begun
        obtain ⟨r, hr, hkr⟩ : ∃ r : Nat, r < 16 ∧ kk = 4 * (r : Int) + (q : Int) := by
          rw [Int.tmod_eq_emod_of_nonneg hk.1] at hkq
          exact ⟨(kk / 4).toNat, by omega, by omega⟩
        subst hkr
        have ha : (96 + 4 * (r : Int)) ∈ GreyOnceP.cells := GreyOnceP.mem_cells.2 ⟨r, hr, rfl⟩
        obtain ⟨A', I', hA'⟩ := G.inv.ask hq (a := 96 + 4 * (r : Int)) (by show (s q).abs = _; rw [hid]; rfl) ha
        have G' : Good xs L (upd s q (.sh 0 (96 + 4 * (r : Int)) 0 0 0 0 0 0 0 0)) N D A' := by
          refine ⟨by rw [zz_upd]; exact I', fun k hk => ?_, G.nok⟩
          by_cases e : k = q
          · rw [e, upd_eq]; exact GreyOnceP.rng ha
          · rw [upd_ne _ _ e]; exact G.sh k hk
        refine Tri.preE fun aa ww hat => ⟨_, at_slot (pre np i) (y := .v (lt (4 * (r : Int) + (q : Int)))) (d' := []) (by exact ⟨rfl, rfl⟩) hat, ?_⟩
        have hb := w_bg (ps := ps) (xs := xs) (ys := ys) (c := c) (i := i) (np := np) (N := N) (a := bOf A) (t := bOf D) hq hx (by omega) hN E hE hT hD hr ⟨hi.1, h2⟩ h1 s js
        rw [← hid, ← upd_self, bOf_set hA'] at hb
        refine Tri.seq hb ?_ (fun x s hx hh => absurd hh.1 hx)
        rintro st ⟨_, js', rfl⟩
        exact step G' (fun h => by omega) _ js'
      · have hb := w_bnb (ps := ps) (xs := xs) (ys := ys) (c := c) (i := i) (np := np) (N := N) (a := bOf A) (t := bOf D) hq hx (by omega) hN E hE hT hD (decide_eq_true h1) (decide_eq_false h2) kk s js
        rw [← hid, ← upd_self] at hb
        refine Tri.seq hb ?_ (fun x s hx hh => absurd hh.1 hx)
        rintro st ⟨_, js', rfl⟩
        exact step G hp _ js'
    · have hb := w_bna (ps := ps) (xs := xs) (ys := ys) (c := c) (i := i) (np := np) (N := N) (a := bOf A) (t := bOf D) hq hx (by omega) hN E hE hT hD (decide_eq_false h1) kk s js
      rw [← hid, ← upd_self] at hb
      refine Tri.seq hb ?_ (fun x s hx hh => absurd hh.1 hx)
      rintro st ⟨_, js', rfl⟩
      exact step G hp _ js'
  · obtain ⟨j, b, w, p1, p2, p3, p4, p5, p6, p7, hs⟩ : ∃ j b w p1 p2 p3 p4 p5 p6 p7, s q = .sh j b w p1 p2 p3 p4 p5 p6 p7 := by
      cases h : s q with
      | idle => exact absurd h hid
      | sh j b w p1 p2 p3 p4 p5 p6 p7 => exact ⟨j, b, w, p1, p2, p3, p4, p5, p6, p7, rfl⟩
    have hb := w_bb (ps := ps) (xs := xs) (ys := ys) (c := c) (i := i) (np := np) (N := N) (a := bOf A) (t := bOf D) hq hx (by omega) hN E hE hT hD j b w p1 p2 p3 p4 p5 p6 p7 kk s js
    rw [← hs, ← upd_self] at hb
    refine Tri.seq hb ?_ (fun x s hx hh => absurd hh.1 hx)
    rintro st ⟨_, js', rfl⟩
    exact step G hp _ js'
/-- The part of the one that takes. -/
theorem partN {xs L : List Int} {s : Nat → WS} {N : NS} {D A : List Int} (G : Good xs L s N D A) {c : Int} (hc : 0 ≤ c ∧ c ≤ 1000 + i) (hp : Pot xs (zz s) N.abs D A i) (hi : 0 ≤ i ∧ i < 600) {kk : Int} (hkq : Int.tmod kk 4 = 3) (hqi : 300 ≤ i → (i - 300).toNat % 4 = 3) (js : Nat → SV) :
    Tri MS Try.prog E cNX ⟨pre np i ++ [.v (ii kk)] ++ junk js 127 12, bas ps xs ys c s N (bOf A) (bOf D), 7, []⟩ fun x st => x = .exit 1 ∧ JB np ps ys i st := by
  have hx := G.inv.len
  have done : ∀ {x : VX} {st : St MObj}, Post ps ys np i c s (bOf A) (KN xs D N (bOf D)) x st → x = .exit 1 ∧ JB np ps ys i st := by
    rintro x st ⟨rfl, Y, xs', c', t', js', ⟨D', h1, h2⟩, h3, h4, h5, rfl⟩
    obtain ⟨L', G'⟩ := G.keepN h1 h3
    have et : t' = bOf D' := by
      rcases h2 with ⟨rfl, rfl⟩ | ⟨j, hj, rfl, rfl⟩
      · rfl
      · exact bOf_cons _ _
    subst et
    refine ⟨rfl, xs', L', s, Y, D', A, c', js', G', by omega, ?_, rfl⟩
    by_cases h : 300 ≤ i
    · exact potN G ⟨h, hi.2⟩ (hqi h) h1 hp
    · exact G'.pot0 (by omega)
  have hn := G.nok
  have ho := G.inv.okn
  obtain ⟨j, w, n1, n2, n3, n4, n5, n6, n7⟩ := N
  obtain ⟨hw, hj | hj | ⟨hj | hj, hg⟩⟩ := hn
  · have hj : j = 0 := hj
    subst hj
    exact (n_0 D hx (by omega) E hE hT hD hkq w n1 n2 n3 n4 n5 n6 n7 hw (fun h => by
      rcases G.inv.hd with ⟨_, h1⟩ | ⟨a, l, rfl, h1, _⟩
      · exact absurd h1 h
      · have h2 : mAt (List.getD xs 1 0) = a := h1
        rw [h2]
        exact GreyOnceP.rng (G.inv.cells_of (G.inv.inL (List.mem_cons_self ..)))) s js).mono fun x st h => done h
  · have hj : j = 3 := hj
    subst hj
    have ho : mAt w ∈ L := ho
    obtain ⟨l, h0, h1, h2⟩ := G.inv.gr (mAt w) (by have := List.count_pos_iff.2 ho; omega)
    have h2 : List.getD xs (Int.toNat (mAt w)) 0 = 401 + 4096 * l := h2
    exact (n_3 D hx (by omega) E hE hT hD hkq w n1 n2 n3 n4 n5 n6 n7 hw (by rw [h2]; unfold mHState mHClass mHCount mHMark mHTag; omega) s js).mono fun x st h => done h
  · have hj : j = 1 := hj
    subst hj
    exact (n_1 D hx (by omega) E hE hT hD hkq w n1 n2 n3 n4 n5 n6 n7 hw hg s js).mono fun x st h => done h
  · have hj : j = 4 := hj
    subst hj
    obtain ⟨h1, h2, _⟩ := G.inv.tell (w := w) rfl
    obtain ⟨r, hr, hr2⟩ := GreyOnceP.mem_cells.1 h1
    exact (n_4 D hx (by omega) E hE hT hD hkq w n1 n2 n3 n4 n5 n6 n7 hw hg ⟨r, hr, hr2, decide_eq_false (by rw [← hr2]; exact h2)⟩ (by omega) s js).mono fun x st h => done h
end
end Go.Proofs.Ytlkanbgcghjhnaa.GreyOnce
