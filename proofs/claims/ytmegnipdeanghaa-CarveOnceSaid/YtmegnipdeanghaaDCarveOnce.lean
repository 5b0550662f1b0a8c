/-
  CarveOnce, the plain law: the head of the free blocks behind so many takes, the words that tell it, what a taker is at.
-/
import Derived.Test.YtmegnipdeanghaaEngG
import Derived.Test.YtmegnipdeanghaaMod
namespace Go.Proofs.Ytmegnipdeanghaa.CarveOnce
open Go Go.Proofs.Ytmegnipdeanghaa.Eng
set_option linter.unusedVariables false
set_option linter.unusedSimpArgs false
theorem gne {l : List Int} {i j : Nat} (v : Int) (h : i ≠ j) : (l.set i v).getD j 0 = l.getD j 0 := by
  simp [List.getD_eq_getElem?_getD, List.getElem?_set, h]
theorem geq {l : List Int} {i : Nat} (v : Int) (h : i < l.length) : (l.set i v).getD i 0 = v := by
  simp [List.getD_eq_getElem?_getD, List.getElem?_set, h]
/-- The next free block's number and one, and the head behind d takes (B blocks). -/
def nx (B i : Int) : Int := if i + 1 = B then 0 else i + 2
def hw (B d : Int) : Int := (if d < B then d + 1 else 0) + 4096 * d
theorem hw_at {B d : Int} (hB : 1 ≤ B ∧ B ≤ 8) (hd : 0 ≤ d ∧ d ≤ B) : mAt (hw B d) = if d < B then d + 1 else 0 := by
  unfold hw mAt
  split <;> omega
theorem hw_inj {B d d' : Int} (hB : 1 ≤ B ∧ B ≤ 8) (hd : 0 ≤ d ∧ d ≤ B) (hd' : 0 ≤ d' ∧ d' ≤ B) (h : hw B d = hw B d') : d = d' := by
  unfold hw at h
  split at h <;> split at h <;> omega
theorem hw_next {B d : Int} (hB : 1 ≤ B ∧ B ≤ 8) (hd : 0 ≤ d ∧ d < B) : mNext (hw B d) (mBNext (32 * nx B d)) = hw B (d + 1) := by
  unfold hw nx mNext mTop mVer mBNext
  rw [if_pos hd.2]
  rcases (show d = 0 ∨ d = 1 ∨ d = 2 ∨ d = 3 ∨ d = 4 ∨ d = 5 ∨ d = 6 ∨ d = 7 by omega) with rfl | rfl | rfl | rfl | rfl | rfl | rfl | rfl <;> split <;> split <;> omega
/-- The words tell that d blocks were taken. -/
structure Mem (xs : List Int) (B d : Int) : Prop where
  len : (xs.length : Int) = 32 + 32 * B
  dd : 0 ≤ d ∧ d ≤ B
  head : xs.getD 2 0 = hw B d
  entry : ∀ i : Int, d ≤ i → i < B → xs.getD (13 + i).toNat 0 = 32 * nx B i
/-- What is written elsewhere: an entry of a block that was taken, a cell, a list's head. -/
theorem Mem.other {xs : List Int} {B d : Int} (h : Mem xs B d) (hB : 1 ≤ B ∧ B ≤ 8) {a : Nat} (v : Int) (ha : (3 ≤ a ∧ a ≤ 8) ∨ 32 ≤ a ∨ (13 ≤ a ∧ (a : Int) < 13 + d)) : Mem (xs.set a v) B d := by
  have hd := h.dd
  refine ⟨by rw [List.length_set]; exact h.len, h.dd, ?_, fun i h1 h2 => ?_⟩
  · rw [gne _ (by omega)]; exact h.head
  · rw [gne _ (by omega)]; exact h.entry i h1 h2
/-- A block is taken. -/
theorem Mem.take {xs : List Int} {B d : Int} (h : Mem xs B d) (hB : 1 ≤ B ∧ B ≤ 8) (hd : d < B) {w e : Int} (hw' : w = hw B d) (he : e = 32 * nx B d) : Mem (xs.set 2 (mNext w (mBNext e))) B (d + 1) := by
  have hd0 := h.dd
  have hl := h.len
  refine ⟨by rw [List.length_set]; exact h.len, by omega, ?_, fun i h1 h2 => ?_⟩
  · rw [geq _ (by omega), hw', he]; exact hw_next hB ⟨hd0.1, hd⟩
  · rw [gne _ (by omega)]; exact h.entry i (by omega) h2
/-- What a taker is at: w the word it read, b its block, e the entry, kk the next cell, hd fi la pw its Push. -/
inductive TK where
  | nil
  | load (w b e kk : Int)
  | look (w b e kk : Int)
  | swap (w b e kk : Int)
  | use (w b e kk : Int)
  | link (w b e kk : Int)
  | lay (j : Nat) (w b e kk fi la pw : Int)
/-- A block that it holds. -/
def TK.held : TK → Option Int
  | .use _ b _ _ => some b
  | .link _ b _ _ => some b
  | .lay _ _ b _ _ _ _ _ => some b
  | _ => none
/-- How many cells of class k are linked, and one. -/
def last (k : Nat) : Int := if k = 0 then 7 else if k = 1 then 3 else 1
def TK.ok (xs : List Int) (B d : Int) (k : Nat) : TK → Prop
  | .nil => True
  | .load .. => True
  | .look w b _ _ => 0 ≤ b ∧ b ≤ d ∧ b < B ∧ w = hw B b
  | .swap w b e _ => 0 ≤ b ∧ b ≤ d ∧ b < B ∧ w = hw B b ∧ (b = d → e = 32 * nx B d)
  | .use _ b _ _ => 0 ≤ b ∧ b < d
  | .link _ b _ kk => 0 ≤ b ∧ b < d ∧ 1 ≤ kk ∧ kk ≤ last k
  | .lay j _ b _ _ _ la pw => 0 ≤ b ∧ b < d ∧ 32 ≤ la ∧ la < 32 + 32 * B ∧ j < 3 ∧ (1 ≤ j → xs.getD (3 + k) 0 = pw)
/-- What it may still need: its own steps, at most. -/
def TK.left (B d : Int) (k : Nat) : TK → Int
  | .nil => 17 * (B - d) + 1
  | .load .. => 17 * (B - d) + 1
  | .look _ b _ _ => if b = d then 17 * (B - d) else 17 * (B - d) + 3
  | .swap _ b _ _ => if b = d then 17 * (B - d) - 1 else 17 * (B - d) + 2
  | .use .. => 17 * (B - d) + 15
  | .link _ _ _ kk => 17 * (B - d) + 14 - kk
  | .lay j .. => 17 * (B - d) + 6 - j
/-- The others' steps: a taker's state goes on to hold when one more block is taken, and when elsewhere is written. -/
theorem TK.ok_take {xs : List Int} {B d : Int} {k : Nat} (hB : 1 ≤ B ∧ B ≤ 8) (hd : 0 ≤ d ∧ d < B) (v : Int) {s : TK} (h : s.ok xs B d k) : s.ok (xs.set 2 v) B (d + 1) k := by
  cases s with
  | nil => trivial
  | load => trivial
  | look w b e kk => exact ⟨h.1, by have := h.2.1; omega, h.2.2.1, h.2.2.2⟩
  | swap w b e kk => exact ⟨h.1, by have := h.2.1; omega, h.2.2.1, h.2.2.2.1, fun hb => by have := h.2.1; omega⟩
  | use w b e kk => exact ⟨h.1, by have := h.2; omega⟩
  | link w b e kk => exact ⟨h.1, by have := h.2.1; omega, h.2.2⟩
  | lay j w b e kk fi la pw =>
    refine ⟨h.1, by have := h.2.1; omega, h.2.2.1, h.2.2.2.1, h.2.2.2.2.1, fun hj => ?_⟩
    rw [gne _ (by omega)]
    exact h.2.2.2.2.2 hj
theorem TK.ok_other {xs : List Int} {B d : Int} {k : Nat} {a : Nat} (ha : a ≠ 3 + k) (v : Int) {s : TK} (h : s.ok xs B d k) : s.ok (xs.set a v) B d k := by
  cases s with
  | lay j w b e kk fi la pw =>
    refine ⟨h.1, h.2.1, h.2.2.1, h.2.2.2.1, h.2.2.2.2.1, fun hj => ?_⟩
    rw [gne _ ha]
    exact h.2.2.2.2.2 hj
  | _ => exact h
theorem TK.left_take {B d : Int} {k : Nat} (s : TK) (hs : ∀ w b e kk, s = .look w b e kk ∨ s = .swap w b e kk → b ≤ d) : s.left B (d + 1) k ≤ s.left B d k := by
  cases s with
  | look w b e kk =>
    have := hs w b e kk (.inl rfl)
    simp only [TK.left]
    split <;> split <;> omega
  | swap w b e kk =>
    have := hs w b e kk (.inr rfl)
    simp only [TK.left]
    split <;> split <;> omega
  | _ => simp only [TK.left]; omega
end Go.Proofs.Ytmegnipdeanghaa.CarveOnce
