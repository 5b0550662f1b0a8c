/-
  ListOwn, the plain law: what was begun comes to an end: a measure that each step in turn makes smaller.
-/
import Derived.Test.YtjohhjilglilkaaPListOwn
namespace Go.Proofs.Ytjohhjilglilkaa.ListOwnP
open Go.Proofs.Ytjohhjilglilkaa.Eng
set_option linter.unusedSectionVars false
/-- How far a worker is from its end: three steps, three more if what it saw of the head is old, and ten for what its end may cost the others. -/
def cost (xs : List Int) : PW → Nat
  | .idle => 0
  | .pop0 => 13
  | .pop1 w => if w = at' xs 3 then 12 else 15
  | .pop2 w _ => if w = at' xs 3 then 11 else 14
  | .push0 _ => 13
  | .push1 _ w => if w = at' xs 3 then 12 else 15
  | .push2 _ w => if w = at' xs 3 then 11 else 14
def phi (xs : List Int) (z : Nat → PW) : Nat := cost xs (z 0) + cost xs (z 1) + cost xs (z 2) + cost xs (z 3)
theorem cost_le (xs : List Int) (x : PW) : cost xs x ≤ 15 := by
  cases x <;> simp only [cost] <;> (try split) <;> omega
theorem cost_pos {xs : List Int} {x : PW} (h : x ≠ .idle) : 11 ≤ cost xs x := by
  cases x with
  | idle => exact absurd rfl h
  | pop0 => exact Nat.le_of_ble_eq_true rfl
  | push0 a => exact Nat.le_of_ble_eq_true rfl
  | _ => simp only [cost]; split <;> omega
theorem cost_head (xs : List Int) (v : Int) (x : PW) : cost (xs.set 3 v) x ≤ cost xs x + 3 := by
  cases x <;> simp only [cost] <;> (try split) <;> (try split) <;> omega
theorem cost_same {xs ys : List Int} (h : at' ys 3 = at' xs 3) (x : PW) : cost ys x = cost xs x := by
  cases x <;> simp only [cost, h]
theorem phi_upd (xs : List Int) (z : Nat → PW) {q : Nat} (hq : q < 4) (x : PW) : phi xs (upd z q x) + cost xs (z q) = phi xs z + cost xs x := by
  rcases (show q = 0 ∨ q = 1 ∨ q = 2 ∨ q = 3 by omega) with rfl | rfl | rfl | rfl <;> simp [phi, upd] <;> omega
theorem phi_same {xs ys : List Int} (h : at' ys 3 = at' xs 3) (z : Nat → PW) : phi ys z = phi xs z := by
  unfold phi
  rw [cost_same h, cost_same h, cost_same h, cost_same h]
/-- A worker comes nearer to its end, the head stays. -/
theorem phi_turn {xs ys : List Int} (h : at' ys 3 = at' xs 3) {z : Nat → PW} {q : Nat} (hq : q < 4) {x : PW} (hx : cost xs x + 1 ≤ cost xs (z q)) : phi ys (upd z q x) + 1 ≤ phi xs z := by
  rw [phi_same h]
  have := phi_upd xs z hq x
  omega
/-- A worker is done, and turns the head. -/
theorem phi_done {xs : List Int} {z : Nat → PW} {q : Nat} (hq : q < 4) (v : Int) (hz : z q ≠ .idle) : phi (xs.set 3 v) (upd z q .idle) + 1 ≤ phi xs z := by
  have h1 := cost_pos (xs := xs) hz
  have h0 := cost_head xs v (z 0)
  have h2 := cost_head xs v (z 1)
  have h3 := cost_head xs v (z 2)
  have h4 := cost_head xs v (z 3)
  have h5 := phi_upd (xs.set 3 v) z hq .idle
  have h6 : cost (xs.set 3 v) .idle = 0 := rfl
  have h7 := cost_pos (xs := xs.set 3 v) hz
  have e1 : phi (xs.set 3 v) z = cost (xs.set 3 v) (z 0) + cost (xs.set 3 v) (z 1) + cost (xs.set 3 v) (z 2) + cost (xs.set 3 v) (z 3) := rfl
  have e2 : phi xs z = cost xs (z 0) + cost xs (z 1) + cost xs (z 2) + cost xs (z 3) := rfl
  rcases (show q = 0 ∨ q = 1 ∨ q = 2 ∨ q = 3 by omega) with rfl | rfl | rfl | rfl <;> omega
/-- All is done, or it will be within m rounds in turn. -/
def Soon (xs : List Int) (z : Nat → PW) (i m : Nat) : Prop := (∀ q, q < 4 → z q = .idle) ∨ ∃ q, q < 4 ∧ z q ≠ .idle ∧ 4 * phi xs z + (q + 4 - i % 4) % 4 ≤ m
theorem soon_any {xs : List Int} {z : Nat → PW} {i m : Nat} (h : 4 * phi xs z + 3 ≤ m) : Soon xs z i m := by
  by_cases h0 : ∀ q, q < 4 → z q = .idle
  · exact .inl h0
  · have : ∃ q, q < 4 ∧ z q ≠ .idle := Classical.byContradiction fun hn => h0 fun q hq => Classical.byContradiction fun hz => hn ⟨q, hq, hz⟩
    obtain ⟨q, hq, hz⟩ := this
    exact .inr ⟨q, hq, hz, by omega⟩
theorem phi_le (xs : List Int) (z : Nat → PW) : phi xs z ≤ 60 := by
  have h0 := cost_le xs (z 0)
  have h1 := cost_le xs (z 1)
  have h2 := cost_le xs (z 2)
  have h3 := cost_le xs (z 3)
  unfold phi
  omega
/-- A round of a worker that has nothing under way. -/
theorem soon_idle {xs ys : List Int} (h : at' ys 3 = at' xs 3) {z : Nat → PW} {i m : Nat} (hs : Soon xs z i (m + 1)) (hz : z (i % 4) = .idle) : Soon ys z (i + 1) m := by
  rcases hs with hs | ⟨q, hq, h1, h2⟩
  · exact .inl hs
  · refine .inr ⟨q, hq, h1, ?_⟩
    rw [phi_same h]
    have : q ≠ i % 4 := fun e => h1 (e ▸ hz)
    omega
/-- A round of a worker that has something under way. -/
theorem soon_step {xs ys : List Int} {z z' : Nat → PW} {i m : Nat} (hs : Soon xs z i (m + 1)) (hz : z (i % 4) ≠ .idle) (hp : phi ys z' + 1 ≤ phi xs z) : Soon ys z' (i + 1) m := by
  rcases hs with hs | ⟨q, hq, h1, h2⟩
  · exact absurd (hs _ (Nat.mod_lt _ (by decide))) hz
  · exact soon_any (by omega)
/-- Behind enough rounds all is done. -/
theorem soon_end {xs : List Int} {z : Nat → PW} {i : Nat} (hs : Soon xs z i 0) : ∀ q, q < 4 → z q = .idle := by
  rcases hs with hs | ⟨q, hq, h1, h2⟩
  · exact hs
  · have h3 := cost_pos (xs := xs) h1
    exfalso
    unfold phi at h2
    rcases (show q = 0 ∨ q = 1 ∨ q = 2 ∨ q = 3 by omega) with rfl | rfl | rfl | rfl <;> omega
end Go.Proofs.Ytjohhjilglilkaa.ListOwnP
