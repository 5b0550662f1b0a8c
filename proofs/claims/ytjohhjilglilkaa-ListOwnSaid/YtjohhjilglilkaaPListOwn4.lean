/-
  ListOwn, the plain law: behind the loop nothing is under way: what is left on the list is popped in turn; which cells were seen.
-/
import Derived.Test.YtjohhjilglilkaaPListOwn3
namespace Go.Proofs.Ytjohhjilglilkaa.ListOwnP
open Go.Proofs.Ytjohhjilglilkaa.Eng
set_option linter.unusedSectionVars false
abbrev zI : Nat → PW := fun _ => .idle
def flat (o : Nat → List Int) : List Int := o 0 ++ o 1 ++ o 2 ++ o 3
/-- Which of the cells are among these. -/
def bOf (l : List Int) : Nat → Bool := fun j => decide ((96 + 4 * (j : Int)) ∈ l)
def bset (b : Nat → Bool) (j : Nat) : Nat → Bool := fun i => match Nat.beq i j with
  | true => true
  | false => b i
theorem bOf_nil (j : Nat) : bOf [] j = false := decide_eq_false (by simp)
theorem bOf_false {l : List Int} {j : Nat} (h : (96 + 4 * (j : Int)) ∉ l) : bOf l j = false := decide_eq_false h
theorem bset_of (l : List Int) (j : Nat) : bset (bOf l) j = bOf (l ++ [96 + 4 * (j : Int)]) := by
  funext i
  unfold bset
  cases h : Nat.beq i j with
  | true => rw [Nat.eq_of_beq_eq_true h]; exact (decide_eq_true (by simp)).symm
  | false =>
    have hne : i ≠ j := Nat.ne_of_beq_eq_false h
    show decide _ = decide _
    congr 1
    simp only [List.mem_append, List.mem_singleton, eq_iff_iff]
    constructor
    · exact .inl
    · rintro (h | h)
      · exact h
      · omega
theorem bOf_perm {l m : List Int} (h : l.Perm m) : bOf l = bOf m := by
  funext i
  show decide _ = decide _
  congr 1
  exact propext h.mem_iff
theorem bOf_cells {n j : Nat} : bOf (cells n) j = decide (j < n) := by
  show decide _ = decide _
  congr 1
  simp only [cells, List.mem_map, List.mem_range, eq_iff_iff]
  constructor
  · rintro ⟨i, hi, h⟩; omega
  · intro h; exact ⟨j, h, rfl⟩
theorem cell_lit {n : Nat} (hn : n ≤ 12) {a : Int} (h : a ∈ cells n) : ∃ j : Nat, j < 12 ∧ a = 96 + 4 * (j : Int) := by
  simp only [cells, List.mem_map, List.mem_range] at h
  obtain ⟨j, hj, rfl⟩ := h
  exact ⟨j, by omega, rfl⟩
theorem allOf_idle (L : List Int) (o : Nat → List Int) : (allOf L o zI).Perm (L ++ flat o) := by
  refine List.perm_iff_count.2 fun y => ?_
  simp only [allOf, flat, PW.cell, List.count_append, List.count_nil]
  omega
section
variable {n : Nat} {xs : List Int} {V : Int} {L : List Int} {own : Nat → List Int} (I : Inv n xs V L own zI)
include I
theorem Inv.permI : (L ++ flat own).Perm (cells n) := (allOf_idle L own).symm.trans I.perm
theorem Inv.ndI : (L ++ flat own).Nodup := I.permI.nodup_iff.2 (cells_nodup n)
theorem Inv.lenI : L.length + (flat own).length = n := by
  have h := I.permI.length_eq
  simpa [cells] using h
theorem Inv.memI {a : Int} (h : a ∈ L ++ flat own) : a ∈ cells n := I.permI.mem_iff.1 h
end
/-- The first of the list is popped. -/
theorem Inv.take {n : Nat} {xs : List Int} {V a : Int} {l : List Int} {own : Nat → List Int} (I : Inv n xs V (a :: l) own zI) (hV : V + 1 ≤ 1000000) :
    mAt (at' xs 3) = a ∧ ∃ own', Inv n (xs.set 3 (mNext (at' xs 3) (mHLink (at' xs a)))) (V + 1) l own' zI ∧ (flat own').Perm (flat own ++ [a]) := by
  have ha : mAt (at' xs 3) = a := I.ch.1
  have hm : mAt (at' xs 3) ∈ cells n := by rw [ha]; exact I.inL (List.mem_cons_self ..)
  have I2 := I.turn (q := 0) (by decide) (x' := .pop2 (at' xs 3) (at' xs (mAt (at' xs 3)))) rfl ⟨.inl rfl, hm, fun _ => rfl⟩
  obtain ⟨l', e, I3⟩ := I2.popOk (q := 0) (by decide) (upd_eq _ _ _) rfl hV
  injection e with e1 e2
  subst e2
  rw [upd_upd, upd_self2 (s := zI) rfl, ha] at I3
  refine ⟨ha, _, I3, ?_⟩
  refine List.perm_iff_count.2 fun y => ?_
  simp [flat, upd, List.count_append, List.count_cons]
  omega
end Go.Proofs.Ytjohhjilglilkaa.ListOwnP
