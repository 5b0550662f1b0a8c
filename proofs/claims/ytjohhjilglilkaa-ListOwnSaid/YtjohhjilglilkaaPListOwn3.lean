/-
  ListOwn, the plain law: a worker's step as a relation, what it keeps, and that it comes nearer to the end.
-/
import Derived.Test.YtjohhjilglilkaaPListOwn2

namespace Go.Proofs.Ytjohhjilglilkaa.ListOwnP
open Go.Proofs.Ytjohhjilglilkaa.Eng
set_option linter.unusedSectionVars false
/-- A worker's step: what it has and is at, ahead and behind; the words behind. -/
inductive PStep (xs : List Int) : List Int → PW → List Int → PW → List Int → Prop where
  | stay {o} : PStep xs o .idle o .idle xs
  | popNone {o p} : p = .idle ∨ p = .pop0 → mAt (at' xs 3) = 0 → PStep xs o p o .idle xs
  | popLoad {o p} : p = .idle ∨ p = .pop0 → mAt (at' xs 3) ≠ 0 → PStep xs o p o (.pop1 (at' xs 3)) xs
  | popLink {o w} : PStep xs o (.pop1 w) o (.pop2 w (at' xs (mAt w))) xs
  | popOk {o w h} : at' xs 3 = w → PStep xs o (.pop2 w h) (o ++ [mAt w]) .idle (xs.set 3 (mNext w (mHLink h)))
  | popFail {o w h} : at' xs 3 ≠ w → PStep xs o (.pop2 w h) o .pop0 xs
  | pushBegin {a o} : PStep xs (a :: o) .idle o (.push1 a (at' xs 3)) xs
  | pushLoad {o a} : PStep xs o (.push0 a) o (.push1 a (at' xs 3)) xs
  | pushLink {o a w v} : mHLink v = mAt w → PStep xs o (.push1 a w) o (.push2 a w) (xs.set a.toNat v)
  | pushOk {o a w} : at' xs 3 = w → PStep xs o (.push2 a w) o .idle (xs.set 3 (mNext w a))
  | pushFail {o a w} : at' xs 3 ≠ w → PStep xs o (.push2 a w) o (.push0 a) xs
theorem upd_self2 {α : Type} {s : Nat → α} {q : Nat} {x : α} (h : s q = x) : upd s q x = s := by rw [← h, upd_same]
theorem upd_upd {α : Type} (s : Nat → α) (q : Nat) (x y : α) : upd (upd s q x) q y = upd s q y := by
  funext j
  by_cases h : j = q
  · rw [h, upd_eq, upd_eq]
  · rw [upd_ne _ _ h, upd_ne _ _ h, upd_ne _ _ h]
theorem keeps {n : Nat} {xs ys : List Int} {V : Int} {L : List Int} {own : Nat → List Int} {z : Nat → PW} (I : Inv n xs V L own z) {q : Nat} (hq : q < 4) (hV : V + 1 ≤ 1000000) {o' : List Int} {p' : PW} (h : PStep xs (own q) (z q) o' p' ys) :
    ∃ V' L', V ≤ V' ∧ V' ≤ V + 1 ∧ Inv n ys V' L' (upd own q o') (upd z q p') := by
  generalize ho : own q = o at h
  generalize hz : z q = p at h
  have cell0 : ∀ {p}, p = PW.idle ∨ p = .pop0 → p.cell = [] := fun h => by rcases h with rfl | rfl <;> rfl
  cases h with
  | stay => rw [upd_self2 ho, upd_self2 hz]; exact ⟨V, L, Int.le_refl _, by omega, I⟩
  | popNone hp h0 => rw [upd_self2 ho]; exact ⟨V, L, Int.le_refl _, by omega, I.turn hq (by rw [hz, cell0 hp]; rfl) trivial⟩
  | popLoad hp h0 =>
    rw [upd_self2 ho]
    refine ⟨V, L, Int.le_refl _, by omega, I.turn hq (by rw [hz, cell0 hp]; rfl) ⟨.inl rfl, ?_⟩⟩
    rcases I.hd with ⟨_, h1⟩ | ⟨a, l, rfl, h1, _⟩
    · exact absurd h1 h0
    · rw [h1]; exact I.inL (List.mem_cons_self ..)
  | popLink =>
    have hok := I.ok q hq
    rw [hz] at hok
    rw [upd_self2 ho]
    exact ⟨V, L, Int.le_refl _, by omega, I.turn hq (by rw [hz]; rfl) ⟨hok.1, hok.2, fun _ => rfl⟩⟩
  | popOk hw =>
    obtain ⟨l, _, h2⟩ := I.popOk hq hz hw.symm hV
    rw [ho] at h2
    exact ⟨V + 1, l, by omega, Int.le_refl _, h2⟩
  | popFail hw => rw [upd_self2 ho]; exact ⟨V, L, Int.le_refl _, by omega, I.turn hq (by rw [hz]; rfl) trivial⟩
  | pushBegin =>
    have h1 := I.begin hq ho hz
    have h2 := h1.turn hq (x' := .push1 _ (at' xs 3)) (by rw [upd_eq]; rfl) (.inl rfl)
    rw [upd_upd] at h2
    exact ⟨V, L, Int.le_refl _, by omega, h2⟩
  | pushLoad => rw [upd_self2 ho]; exact ⟨V, L, Int.le_refl _, by omega, I.turn hq (by rw [hz]; rfl) (.inl rfl)⟩
  | pushLink hv => rw [upd_self2 ho]; exact ⟨V, L, Int.le_refl _, by omega, I.store hq hz hv⟩
  | pushOk hw => rw [upd_self2 ho]; exact ⟨V + 1, _, by omega, Int.le_refl _, I.pushOk hq hz hw.symm hV⟩
  | pushFail hw => rw [upd_self2 ho]; exact ⟨V, L, Int.le_refl _, by omega, I.turn hq (by rw [hz]; rfl) trivial⟩
/-- A step of a worker that has something under way comes nearer to the end. -/
theorem nearer {n : Nat} {xs ys : List Int} {V : Int} {L : List Int} {own : Nat → List Int} {z : Nat → PW} (I : Inv n xs V L own z) {q : Nat} (hq : q < 4) {o' : List Int} {p' : PW} (hz : z q ≠ .idle) (h : PStep xs (own q) (z q) o' p' ys) : phi ys (upd z q p') + 1 ≤ phi xs z := by
  generalize ho : own q = o at h
  generalize hp : z q = p at h
  cases h with
  | stay => exact absurd hp hz
  | popNone h1 h0 => refine phi_turn rfl hq ?_; have := cost_pos (xs := xs) hz; show 0 + 1 ≤ _; omega
  | popLoad h1 h0 =>
    rcases h1 with rfl | rfl
    · exact absurd hp hz
    · refine phi_turn rfl hq ?_; rw [hp]; simp [cost]
  | popLink => refine phi_turn rfl hq ?_; rw [hp]; simp only [cost]; split <;> omega
  | popOk hw => exact phi_done hq _ hz
  | popFail hw => refine phi_turn rfl hq ?_; rw [hp]; simp only [cost]; rw [if_neg (Ne.symm hw)]; exact Nat.le_refl _
  | pushBegin => exact absurd hp hz
  | pushLoad => refine phi_turn rfl hq ?_; rw [hp]; simp [cost]
  | @pushLink _ a w v hv =>
    have ha : a ∈ (z q).cell := by rw [hp]; exact List.mem_singleton.2 rfl
    have hr := I.rng (I.cellq hq ha)
    refine phi_turn (getD_set_ne (by show a.toNat ≠ 3; omega)) hq ?_
    rw [hp]; simp only [cost]; split <;> omega
  | pushOk hw => exact phi_done hq _ hz
  | pushFail hw => refine phi_turn rfl hq ?_; rw [hp]; simp only [cost]; rw [if_neg (Ne.symm hw)]; exact Nat.le_refl _
end Go.Proofs.Ytjohhjilglilkaa.ListOwnP
