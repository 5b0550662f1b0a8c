/-
  ShakeRoots, the plain law: what is known of the words and of the roots; what is kept while roots are fixed, and while they are shaded.
-/
import Derived.Test.YtdongoplhnpdiaaEvSome16
import Derived.Test.YtdongoplhnpdiaaEvFrom
namespace Go.Proofs.Ytdongoplhnpdiaa.ShakeRoots
open Go Go.RowKit Go.Proofs.Ytdongoplhnpdiaa.Eng
set_option linter.unusedVariables false
set_option linter.unusedSimpArgs false
theorem gne {l : List Int} {i j : Nat} (v : Int) (h : i ≠ j) : (l.set i v).getD j 0 = l.getD j 0 := by
  simp [List.getD_eq_getElem?_getD, List.getElem?_set, h]
theorem geq {l : List Int} {i : Nat} (v : Int) (h : i < l.length) : (l.set i v).getD i 0 = v := by
  simp [List.getD_eq_getElem?_getD, List.getElem?_set, h]
theorem W_of {x : Int} (h : -100000 ≤ x) (h2 : x ≤ 100000) : W x = x := wrap_i64_of (by omega) (by omega)
/-- The next root. -/
def lfn (L : Int → Int) : Int → Int := From.lf (L 0) (L 1) (L 2) (L 3) (L 4) (L 5) (L 6) (L 7)
theorem lfn_eq (L : Int → Int) {i : Int} (h : 0 ≤ i ∧ i < 8) : lfn L i = L i := by
  rcases (show i = 0 ∨ i = 1 ∨ i = 2 ∨ i = 3 ∨ i = 4 ∨ i = 5 ∨ i = 6 ∨ i = 7 by omega) with rfl | rfl | rfl | rfl | rfl | rfl | rfl | rfl <;> rfl
def nxt (r N : Int) (L : Int → Int) : Int := From.nx r N (lfn L) 8 0
theorem nxt_spec {r N : Int} {L : Int → Int} (hN : 0 ≤ N ∧ N ≤ 8) (hr : 0 ≤ r) : (nxt r N L < N → r ≤ nxt r N L ∧ L (nxt r N L) ≠ 0) ∧ (∀ j, r ≤ j → j < nxt r N L → j < N → L j = 0) ∧ nxt r N L ≤ N := by
  obtain ⟨g1, g2, g3⟩ := From.nx_spec (root := r) (N := N) (L := lfn L) 8 0 (by omega)
  refine ⟨fun h => ?_, fun j h1 h2 h3 => ?_, g3 hN.1⟩
  · obtain ⟨a, b, c⟩ := g1 h
    refine ⟨b, ?_⟩
    have h : From.nx r N (lfn L) 8 0 < N := h
    rw [lfn_eq L ⟨by omega, by omega⟩] at c
    exact c
  · rcases g2 j (by omega) h2 h3 with h | h
    · omega
    · rwa [lfn_eq L ⟨by omega, by omega⟩] at h
def setL (L : Int → Int) (r v : Int) : Int → Int := fun j => if j = r then v else L j
/-- What is known at the start. -/
structure Known (N : Int) (A : Int → Int) (ws : List Int) : Prop where
  hN : 0 ≤ N ∧ N ≤ 8
  len : ws.length = 160
  out : ∀ j, 0 ≤ j → j < 8 → N ≤ j → A j = 0
  obj : ∀ j, 0 ≤ j → j < 8 → A j ≠ 0 → 96 ≤ A j ∧ A j < 160 ∧ mHState (ws.getD (A j).toNat 0) = 1
  mov : ∀ j, 0 ≤ j → j < 8 → A j ≠ 0 → 0 ≤ mMoved (ws.getD (A j).toNat 0) (A j) ∧ mMoved (ws.getD (A j).toNat 0) (A j) < 160
  shp : ∀ j, 0 ≤ j → j < 8 → A j ≠ 0 → ∃ k : Nat, k < 16 ∧ A j = 96 + 4 * k
  objs : ∀ k : Nat, k < 16 → mHState (ws.getD (96 + 4 * k) 0) = 1
def fixed (A : Int → Int) (ws : List Int) (j : Int) : Int := if A j = 0 then 0 else mMoved (ws.getD (A j).toNat 0) (A j)
/-- The mode Fix. -/
inductive FT where
  | look
  | fix (r : Int)
  | tell (r : Int)
  | over (r : Int)
def potF : FT → Int
  | .look => 10
  | .fix r => 9 - r
  | .tell _ => 1
  | .over _ => 0
structure InvF (N : Int) (A : Int → Int) (ws xs : List Int) (L : Int → Int) (s : FT) : Prop where
  len : xs.length = 160
  same : ∀ a : Nat, 96 ≤ a → xs.getD a 0 = ws.getD a 0
  ph : s = .look → mNo (xs.getD 0 0) = 5 ∧ mMode (xs.getD 0 0) = 8 ∧ mMark (xs.getD 0 0) = 1 ∧ mList (xs.getD 0 0) = 0
  lk : s = .look → ∀ j, 0 ≤ j → j < 8 → L j = A j
  fx : ∀ r, s = .fix r → 0 ≤ r ∧ r < N ∧ A r ≠ 0 ∧ ∀ j, 0 ≤ j → j < 8 → L j = if j < r then fixed A ws j else A j
  dn : ∀ r, s = .tell r ∨ s = .over r → ∀ j, 0 ≤ j → j < 8 → L j = fixed A ws j
section
variable {N : Int} {A : Int → Int} {ws xs : List Int} {L : Int → Int}
theorem fixed_zero {j : Int} (h : A j = 0) : fixed A ws j = 0 := if_pos h
theorem InvF.range (hk : Known N A ws) {r : Int} (h : InvF N A ws xs L (.fix r)) {j : Int} (h0 : 0 ≤ j) (h1 : j < 8) : 0 ≤ L j ∧ L j < 160 := by
  have := (h.fx r rfl).2.2.2 j h0 h1
  rw [this]
  by_cases hA : A j = 0
  · unfold fixed; rw [if_pos hA, hA]; split <;> decide
  · have h2 := hk.mov j h0 h1 hA; have h3 := hk.obj j h0 h1 hA
    unfold fixed; rw [if_neg hA]; split <;> omega
/-- Where it goes on: with the roots L' that are fixed up to r. -/
theorem InvF.go (hk : Known N A ws) {s0 : FT} (h : InvF N A ws xs L s0) {r : Int} (hr : 0 ≤ r ∧ r ≤ 8) {L' : Int → Int} (hL : ∀ j, 0 ≤ j → j < 8 → L' j = if j < r then fixed A ws j else A j) :
    (nxt r N L' < N → InvF N A ws xs L' (.fix (nxt r N L')) ∧ r ≤ nxt r N L') ∧ (¬ nxt r N L' < N → ∀ q, InvF N A ws xs L' (.tell q)) := by
  obtain ⟨g1, g2, g3⟩ := nxt_spec (r := r) (N := N) (L := L') hk.hN hr.1
  have hN := hk.hN
  have hz : ∀ j, r ≤ j → j < 8 → j < nxt r N L' → A j = 0 := fun j h1 h2 h3 => by
    by_cases hj : j < N
    · have := g2 j h1 h3 hj
      rw [hL j (by omega) h2, if_neg (by omega)] at this
      exact this
    · exact hk.out j (by omega) h2 (by omega)
  constructor
  · intro hlt
    obtain ⟨a, b⟩ := g1 hlt
    refine ⟨⟨h.len, h.same, (fun e => by cases e), (fun e => by cases e), (fun q e => ?_), (fun q e => by rcases e with e | e <;> cases e)⟩, a⟩
    injection e with e
    subst e
    refine ⟨by omega, hlt, ?_, fun j h1 h2 => ?_⟩
    · rw [hL _ (by omega) (by omega), if_neg (by omega)] at b; exact b
    · rw [hL j h1 h2]
      by_cases hj : j < r
      · rw [if_pos hj, if_pos (by omega)]
      · rw [if_neg hj]
        by_cases hj2 : j < nxt r N L'
        · rw [if_pos hj2, hz j (by omega) h2 hj2, fixed_zero (hz j (by omega) h2 hj2)]
        · rw [if_neg hj2]
  · intro hge q
    refine ⟨h.len, h.same, (fun e => by cases e), (fun e => by cases e), (fun q e => by cases e), (fun q' e j h1 h2 => ?_)⟩
    rw [hL j h1 h2]
    by_cases hj : j < r
    · rw [if_pos hj]
    · rw [if_neg hj]
      have : A j = 0 := by
        by_cases hjN : j < N
        · exact hz j (by omega) h2 (by omega)
        · exact hk.out j h1 h2 (by omega)
      rw [this, fixed_zero this]
theorem InvF.step (hk : Known N A ws) {r : Int} (h : InvF N A ws xs L (.fix r)) : ∀ j, 0 ≤ j → j < 8 → setL L r (mMoved (xs.getD (L r).toNat 0) (L r)) j = if j < r + 1 then fixed A ws j else A j := fun j h1 h2 => by
  obtain ⟨a, b, c, d⟩ := h.fx r rfl
  have hN := hk.hN
  have e := d r a (by omega)
  rw [if_neg (by omega)] at e
  have ho := hk.obj r a (by omega) c
  unfold setL
  by_cases hj : j = r
  · rw [if_pos hj, if_pos (by omega), hj, e, h.same _ (by omega)]
    unfold fixed
    rw [if_neg c]
  · rw [if_neg hj, d j h1 h2]
    by_cases hj2 : j < r
    · rw [if_pos hj2, if_pos (by omega)]
    · rw [if_neg hj2, if_neg (by omega)]
end
/-- The mode Roots: what a root is at. -/
inductive RT where
  | look
  | sh (r : Int) (k : Nat) (w h0 h1 h2 h3 h4 h5 h6 : Int)
  | tell (r : Int)
  | over (r : Int)
  | tellP (r a w h0 h1 h2 h3 h4 h5 h6 : Int)
  | overP (r a w h0 h1 h2 h3 h4 h5 h6 : Int)
def potR : RT → Int
  | .look => 42
  | .sh r k _ _ _ _ _ _ _ _ => 5 * (8 - r) - k + 1
  | .tell _ => 1
  | .tellP .. => 1
  | .over _ => 0
  | .overP .. => 0
/-- Where the first r roots have the mark. -/
def Marked (A : Int → Int) (xs : List Int) (r : Int) : Prop := ∀ j, 0 ≤ j → j < 8 → j < r → A j ≠ 0 → mHMark (xs.getD (A j).toNat 0) = 1
def RT.fin : RT → Bool
  | .tell _ => true
  | .over _ => true
  | .tellP .. => true
  | .overP .. => true
  | _ => false
structure InvR (N : Int) (A : Int → Int) (xs : List Int) (s : RT) : Prop where
  len : xs.length = 160
  obj : ∀ k : Nat, k < 16 → mHState (xs.getD (96 + 4 * k) 0) = 1
  ph : s = .look → mNo (xs.getD 0 0) = 5 ∧ mMode (xs.getD 0 0) = 2 ∧ mMark (xs.getD 0 0) = 1 ∧ mList (xs.getD 0 0) = 0
  sh : ∀ r k w h0 h1 h2 h3 h4 h5 h6, s = .sh r k w h0 h1 h2 h3 h4 h5 h6 → 0 ≤ r ∧ r < N ∧ A r ≠ 0 ∧ Marked A xs r ∧ k < 5 ∧ (1 ≤ k → h0 = 1) ∧ (k = 1 → xs.getD (A r).toNat 0 = w) ∧ (2 ≤ k → mHMark (xs.getD (A r).toNat 0) = 1) ∧ (3 ≤ k → xs.getD 1 0 = w)
  dn : s.fin = true → Marked A xs 8
section
variable {N : Int} {A : Int → Int} {ws xs : List Int}
theorem state_word (c n m g t l : Int) : mHState (mWord 1 c n m g t l) = 1 := by unfold mHState mWord; omega
theorem mark_word (c n g t l : Int) : mHMark (mWord 1 c n 1 g t l) = 1 := by unfold mHMark mWord; omega
/-- A word of an object is written, with the mark. -/
theorem obj_set (hl : xs.length = 160) (hs : ∀ k : Nat, k < 16 → mHState (xs.getD (96 + 4 * k) 0) = 1) {a : Nat} {v : Int} (hv : mHState v = 1) : ∀ k : Nat, k < 16 → mHState ((xs.set a v).getD (96 + 4 * k) 0) = 1 := fun k hk => by
  by_cases e : a = 96 + 4 * k
  · rw [e, geq _ (by omega)]; exact hv
  · rw [gne _ e]; exact hs k hk
theorem mark_set (hk : Known N A ws) (hl : xs.length = 160) {r : Int} (h : Marked A xs r) {a : Nat} {v : Int} (hv : mHMark v = 1) : Marked A (xs.set a v) r := fun j h1 h2 h3 h4 => by
  have ho := hk.obj j h1 h2 h4
  by_cases e : a = (A j).toNat
  · rw [e, geq _ (by omega)]; exact hv
  · rw [gne _ e]; exact h j h1 h2 h3 h4
theorem mark_low (hk : Known N A ws) {r : Int} (h : Marked A xs r) {a : Nat} {v : Int} (ha : a < 96) : Marked A (xs.set a v) r := fun j h1 h2 h3 h4 => by
  have ho := hk.obj j h1 h2 h4
  rw [gne _ (by omega)]; exact h j h1 h2 h3 h4
/-- Where it goes on. -/
theorem go (hk : Known N A ws) (hl : xs.length = 160) (hs : ∀ k : Nat, k < 16 → mHState (xs.getD (96 + 4 * k) 0) = 1) {r : Int} (hr : 0 ≤ r ∧ r ≤ 8) (hm : Marked A xs r) :
    (nxt r N A < N → InvR N A xs (.sh (nxt r N A) 0 0 0 0 0 0 0 0 0) ∧ r ≤ nxt r N A) ∧ (¬ nxt r N A < N → Marked A xs 8) := by
  obtain ⟨g1, g2, g3⟩ := nxt_spec (r := r) (N := N) (L := A) hk.hN hr.1
  have hN := hk.hN
  have hz : ∀ j, r ≤ j → j < 8 → j < nxt r N A → A j = 0 := fun j h1 h2 h3 => by
    by_cases hj : j < N
    · exact g2 j h1 h3 hj
    · exact hk.out j (by omega) h2 (by omega)
  constructor
  · intro hlt
    obtain ⟨a, b⟩ := g1 hlt
    refine ⟨⟨hl, hs, (fun e => by cases e), (fun r' k w h0 h1 h2 h3 h4 h5 h6 e => ?_), (fun e => by cases e)⟩, a⟩
    injection e with e1 e2
    subst e1 e2
    refine ⟨by omega, hlt, b, fun j h1 h2 h3 h4 => ?_, by decide, (fun h => absurd h (by decide)), (fun h => absurd h (by decide)), (fun h => absurd h (by decide)), (fun h => absurd h (by decide))⟩
    by_cases hj : j < r
    · exact hm j h1 h2 hj h4
    · exact absurd (hz j (by omega) h2 h3) h4
  · intro hge j h1 h2 h3 h4
    by_cases hj : j < r
    · exact hm j h1 h2 hj h4
    · have : A j = 0 := by
        by_cases hjN : j < N
        · exact hz j (by omega) h2 (by omega)
        · exact hk.out j h1 h2 (by omega)
      exact absurd this h4
end
end Go.Proofs.Ytdongoplhnpdiaa.ShakeRoots
