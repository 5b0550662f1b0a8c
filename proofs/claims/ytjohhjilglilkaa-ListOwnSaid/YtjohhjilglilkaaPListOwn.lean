/-
  ListOwn, the plain law: a list in the words of a memory, whose head has a version; four workers pop and push. What is kept, step by step.
-/
import Derived.Test.YtjohhjilglilkaaMod
namespace Go.Proofs.Ytjohhjilglilkaa.ListOwnP
open Go.Proofs.Ytjohhjilglilkaa.Eng
set_option linter.unusedVariables false
set_option linter.unusedSimpArgs false
set_option linter.unusedSectionVars false
/-- What a worker is at. -/
inductive PW where
  | idle
  | pop0
  | pop1 (w : Int)
  | pop2 (w h : Int)
  | push0 (a : Int)
  | push1 (a w : Int)
  | push2 (a w : Int)
/-- The cell that a worker's push holds. -/
def PW.cell : PW → List Int
  | .push0 a => [a]
  | .push1 a _ => [a]
  | .push2 a _ => [a]
  | _ => []
abbrev at' (xs : List Int) (a : Int) : Int := xs.getD a.toNat 0
/-- The list from x on. -/
def Ch (xs : List Int) : Int → List Int → Prop
  | x, [] => x = 0
  | x, a :: l => x = a ∧ Ch xs (mHLink (at' xs a)) l
/-- The cells of a list of this many. -/
def cells (n : Nat) : List Int := (List.range n).map fun j : Nat => 96 + 4 * (j : Int)
theorem mem_cells {n : Nat} (hn : n ≤ 12) {a : Int} (h : a ∈ cells n) : 96 ≤ a ∧ a < 160 := by
  simp only [cells, List.mem_map, List.mem_range] at h
  obtain ⟨j, hj, rfl⟩ := h
  omega
theorem getD_set_ne {xs : List Int} {p q : Nat} {v : Int} (h : p ≠ q) : (xs.set p v).getD q 0 = xs.getD q 0 := by
  simp only [List.getD_eq_getElem?_getD, List.getElem?_set_ne h]
theorem getD_set_eq {xs : List Int} {p : Nat} {v : Int} (h : p < xs.length) : (xs.set p v).getD p 0 = v := by
  simp only [List.getD_eq_getElem?_getD, List.getElem?_set_self h, Option.getD_some]
theorem Ch.set {xs : List Int} {p : Nat} {v : Int} : ∀ {l : List Int} {x : Int}, (∀ a ∈ l, a.toNat ≠ p) → Ch xs x l → Ch (xs.set p v) x l
  | [], _, _, h => h
  | a :: l, x, hp, h => by
    refine ⟨h.1, ?_⟩
    have e : at' (xs.set p v) a = at' xs a := getD_set_ne (Ne.symm (hp a (List.mem_cons_self ..)))
    rw [e]
    exact Ch.set (fun b hb => hp b (List.mem_cons_of_mem _ hb)) h.2
/-- What all have: on the list, in hands, in pushes under way. -/
def allOf (L : List Int) (own : Nat → List Int) (z : Nat → PW) : List Int := L ++ (own 0 ++ (z 0).cell) ++ (own 1 ++ (z 1).cell) ++ (own 2 ++ (z 2).cell) ++ (own 3 ++ (z 3).cell)
/-- What is known of a worker. -/
def okW (n : Nat) (xs : List Int) (V : Int) : PW → Prop
  | .pop1 w => (w = at' xs 3 ∨ mVer w < V) ∧ mAt w ∈ cells n
  | .pop2 w h => (w = at' xs 3 ∨ mVer w < V) ∧ mAt w ∈ cells n ∧ (w = at' xs 3 → h = at' xs (mAt w))
  | .push1 _ w => w = at' xs 3 ∨ mVer w < V
  | .push2 a w => (w = at' xs 3 ∨ mVer w < V) ∧ mHLink (at' xs a) = mAt w
  | _ => True
structure Inv (n : Nat) (xs : List Int) (V : Int) (L : List Int) (own : Nat → List Int) (z : Nat → PW) : Prop where
  hn : n ≤ 12
  len : xs.length = 160
  ver : mVer (at' xs 3) = V
  low : 0 ≤ V ∧ V ≤ 1000000
  ch : Ch xs (mAt (at' xs 3)) L
  perm : (allOf L own z).Perm (cells n)
  ok : ∀ q, q < 4 → okW n xs V (z q)
def upd {α : Type} (s : Nat → α) (q : Nat) (x : α) : Nat → α := fun j => if j = q then x else s j
theorem upd_eq {α : Type} (s : Nat → α) (q : Nat) (x : α) : upd s q x q = x := if_pos rfl
theorem upd_ne {α : Type} (s : Nat → α) {j q : Nat} (x : α) (h : j ≠ q) : upd s q x j = s j := if_neg h
theorem cells_nodup (n : Nat) : (cells n).Nodup := by
  unfold cells
  refine List.Pairwise.map _ (fun a b h => ?_) List.nodup_range
  omega
section
variable {n : Nat} {xs : List Int} {V : Int} {L : List Int} {own : Nat → List Int} {z : Nat → PW} (I : Inv n xs V L own z)
include I
theorem Inv.mem {a : Int} (h : a ∈ allOf L own z) : a ∈ cells n := I.perm.mem_iff.1 h
theorem Inv.nd : (allOf L own z).Nodup := I.perm.nodup_iff.2 (cells_nodup n)
theorem Inv.inL {a : Int} (h : a ∈ L) : a ∈ cells n := I.mem (by unfold allOf; simp [h])
theorem Inv.rng {a : Int} (h : a ∈ cells n) : 96 ≤ a ∧ a < 160 := mem_cells I.hn h
/-- A worker's cell under way is not on the list, and no other's. -/
theorem Inv.apart {q : Nat} (hq : q < 4) {a : Int} (ha : a ∈ (z q).cell) : a ∉ L := by
  have h := I.nd
  unfold allOf at h
  intro hL
  rcases (show q = 0 ∨ q = 1 ∨ q = 2 ∨ q = 3 by omega) with rfl | rfl | rfl | rfl <;> simp only [List.append_assoc, List.nodup_append, List.mem_append] at h <;> exact h.2.2 a hL a (by simp [ha]) rfl
theorem Inv.hd : L = [] ∧ mAt (at' xs 3) = 0 ∨ ∃ a l, L = a :: l ∧ mAt (at' xs 3) = a ∧ Ch xs (mHLink (at' xs a)) l := by
  have h := I.ch
  cases L with
  | nil => exact .inl ⟨rfl, h⟩
  | cons a l => exact .inr ⟨a, l, rfl, h.1, h.2⟩
end
theorem perm_upd {n : Nat} {L L' : List Int} {own : Nat → List Int} {z : Nat → PW} {q : Nat} (hq : q < 4) {o' : List Int} {x' : PW} (h : ∀ y, L'.count y + (o'.count y + x'.cell.count y) = L.count y + ((own q).count y + (z q).cell.count y)) (hp : (allOf L own z).Perm (cells n)) : (allOf L' (upd own q o') (upd z q x')).Perm (cells n) := by
  refine List.Perm.trans (List.perm_iff_count.2 fun y => ?_) hp
  have h := h y
  rcases (show q = 0 ∨ q = 1 ∨ q = 2 ∨ q = 3 by omega) with rfl | rfl | rfl | rfl <;> simp [allOf, List.count_append, upd] <;> omega
theorem upd_same {α : Type} (s : Nat → α) (q : Nat) : upd s q (s q) = s := by
  funext j
  by_cases h : j = q
  · rw [h, upd_eq]
  · rw [upd_ne _ _ h]
theorem mAt_next {w a : Int} (h : 0 ≤ a ∧ a < 4096) : mAt (mNext w a) = a := by unfold mAt mNext mTop; omega
theorem mVer_next {w a : Int} (h0 : 0 ≤ a ∧ a < 4096) (h : 0 ≤ mVer w ∧ mVer w < 1000000000000) : mVer (mNext w a) = mVer w + 1 := by
  unfold mNext mTop
  generalize mVer w = v at h
  unfold mVer
  omega
theorem mHLink_rng (w : Int) : 0 ≤ mHLink w ∧ mHLink w < 4096 := by unfold mHLink; omega
section
variable {n : Nat} {xs : List Int} {V : Int} {L : List Int} {own : Nat → List Int} {z : Nat → PW} (I : Inv n xs V L own z) {q : Nat} (hq : q < 4)
include I hq
/-- A worker comes to something else; the memory stays. -/
theorem Inv.turn {x' : PW} (hc : x'.cell = (z q).cell) (hx : okW n xs V x') : Inv n xs V L own (upd z q x') where
  hn := I.hn
  len := I.len
  ver := I.ver
  low := I.low
  ch := I.ch
  perm := by
    have h := perm_upd (L' := L) (own := own) (z := z) (o' := own q) (x' := x') hq (fun y => by rw [hc]) I.perm
    rw [upd_same] at h
    exact h
  ok := fun j hj => by
    by_cases e : j = q
    · rw [e, upd_eq]; exact hx
    · rw [upd_ne _ _ e]; exact I.ok j hj
/-- A push begins. -/
theorem Inv.begin {a : Int} {r : List Int} (ho : own q = a :: r) (hz : z q = .idle) : Inv n xs V L (upd own q r) (upd z q (.push0 a)) where
  hn := I.hn
  len := I.len
  ver := I.ver
  low := I.low
  ch := I.ch
  perm := perm_upd hq (fun y => by rw [ho, hz]; simp [PW.cell, List.count_cons]) I.perm
  ok := fun j hj => by
    by_cases e : j = q
    · rw [e, upd_eq]; trivial
    · rw [upd_ne _ _ e]; exact I.ok j hj
theorem Inv.cellq {a : Int} (ha : a ∈ (z q).cell) : a ∈ cells n := I.mem (by
  unfold allOf
  rcases (show q = 0 ∨ q = 1 ∨ q = 2 ∨ q = 3 by omega) with rfl | rfl | rfl | rfl <;> simp [ha])
/-- Two workers hold unlike cells. -/
theorem Inv.apart2 {j : Nat} (hj : j < 4) (hjq : j ≠ q) {a b : Int} (ha : a ∈ (z q).cell) (hb : b ∈ (z j).cell) : a ≠ b := by
  have h := I.nd
  unfold allOf at h
  rintro rfl
  have h2 := List.nodup_iff_count.1 h a
  simp only [List.count_append] at h2
  have c1 : 0 < (z q).cell.count a := List.count_pos_iff.2 ha
  have c2 : 0 < (z j).cell.count a := List.count_pos_iff.2 hb
  rcases (show q = 0 ∨ q = 1 ∨ q = 2 ∨ q = 3 by omega) with rfl | rfl | rfl | rfl <;> rcases (show j = 0 ∨ j = 1 ∨ j = 2 ∨ j = 3 by omega) with rfl | rfl | rfl | rfl <;> first | exact absurd rfl hjq | omega
/-- A push writes its cell's link. -/
theorem Inv.store {a w v : Int} (hz : z q = .push1 a w) (hv : mHLink v = mAt w) : Inv n (xs.set a.toNat v) V L own (upd z q (.push2 a w)) := by
  have ha : a ∈ (z q).cell := by rw [hz]; exact List.mem_singleton.2 rfl
  have hr := I.rng (I.cellq hq ha)
  have h3 : at' (xs.set a.toNat v) 3 = at' xs 3 := getD_set_ne (by show a.toNat ≠ 3; omega)
  have hL := I.apart hq ha
  have hw := I.ok q hq
  rw [hz] at hw
  have hch : Ch (xs.set a.toNat v) (mAt (at' xs 3)) L := Ch.set (fun b hb e => by
    have h1 := I.rng (I.inL hb)
    have h2 : b = a := by omega
    rw [h2] at hb
    exact hL hb) I.ch
  refine ⟨I.hn, by simp [I.len], by rw [h3]; exact I.ver, I.low, by rw [h3]; exact hch, ?_, fun j hj => ?_⟩
  · have h := perm_upd (L' := L) (own := own) (z := z) (o' := own q) (x' := .push2 a w) hq (fun y => by rw [hz]; rfl) I.perm
    rw [upd_same] at h
    exact h
  · by_cases e : j = q
    · rw [e, upd_eq]
      exact ⟨by rw [h3]; exact hw, by rw [show at' (xs.set a.toNat v) a = v from getD_set_eq (by rw [I.len]; omega)]; exact hv⟩
    · rw [upd_ne _ _ e]
      have hj2 := I.ok j hj
      cases hzj : z j with
      | idle => trivial
      | pop0 => trivial
      | push0 _ => trivial
      | pop1 u => rw [hzj] at hj2; exact ⟨by rw [h3]; exact hj2.1, hj2.2⟩
      | push1 b u => rw [hzj] at hj2; show _ ∨ _; rw [h3]; exact hj2
      | pop2 u k =>
        rw [hzj] at hj2
        refine ⟨by rw [h3]; exact hj2.1, hj2.2.1, fun hu => ?_⟩
        rw [h3] at hu
        have hk := hj2.2.2 hu
        rw [hk]
        refine (getD_set_ne ?_).symm
        intro e2
        have hr2 := I.rng hj2.2.1
        have e3 : a = mAt u := by omega
        rcases I.hd with ⟨rfl, h0⟩ | ⟨b, l, rfl, h0, _⟩
        · rw [hu, h0] at hr2; omega
        · exact hL (by rw [e3, hu, h0]; exact List.mem_cons_self ..)
      | push2 b u =>
        rw [hzj] at hj2
        refine ⟨by rw [h3]; exact hj2.1, ?_⟩
        have hab := I.apart2 hq hj e ha (b := b) (by rw [hzj]; exact List.mem_singleton.2 rfl)
        have hrb := I.rng (I.cellq hj (a := b) (by rw [hzj]; exact List.mem_singleton.2 rfl))
        rw [show at' (xs.set a.toNat v) b = at' xs b from getD_set_ne (by omega)]
        exact hj2.2
end
/-- When the head changes, what the others have seen of it is old. -/
theorem okW_head {n : Nat} {xs : List Int} {V v : Int} {x : PW} (hx : okW n xs V x) (hver : mVer (at' xs 3) = V) (hl : xs.length = 160) (hv : mVer v = V + 1) (hc : ∀ a ∈ x.cell, 96 ≤ a) : okW n (xs.set 3 v) (V + 1) x := by
  have h3 : at' (xs.set 3 v) 3 = v := getD_set_eq (by rw [hl]; decide)
  have old : ∀ {w : Int}, (w = at' xs 3 ∨ mVer w < V) → mVer w < V + 1 := fun {w} h => by
    rcases h with rfl | h <;> omega
  cases x with
  | idle => trivial
  | pop0 => trivial
  | push0 _ => trivial
  | pop1 w => exact ⟨.inr (old hx.1), hx.2⟩
  | pop2 w h =>
    refine ⟨.inr (old hx.1), hx.2.1, fun e => ?_⟩
    have h1 := old hx.1
    rw [e, h3] at h1
    omega
  | push1 a w => exact .inr (old hx)
  | push2 a w =>
    refine ⟨.inr (old hx.1), ?_⟩
    have ha := hc a (List.mem_singleton.2 rfl)
    rw [show at' (xs.set 3 v) a = at' xs a from getD_set_ne (by omega)]
    exact hx.2
section
variable {n : Nat} {xs : List Int} {V : Int} {L : List Int} {own : Nat → List Int} {z : Nat → PW} (I : Inv n xs V L own z) {q : Nat} (hq : q < 4)
include I hq
theorem Inv.others {x' : PW} {v : Int} (hv : mVer v = V + 1) (hx : okW n (xs.set 3 v) (V + 1) x') : ∀ j, j < 4 → okW n (xs.set 3 v) (V + 1) (upd z q x' j) := fun j hj => by
  by_cases e : j = q
  · rw [e, upd_eq]; exact hx
  · rw [upd_ne _ _ e]
    exact okW_head (I.ok j hj) I.ver I.len hv (fun a ha => (I.rng (I.cellq hj ha)).1)
/-- A Pop takes the first cell. -/
theorem Inv.popOk {w h : Int} (hz : z q = .pop2 w h) (hw : w = at' xs 3) (hV : V + 1 ≤ 1000000) :
    ∃ l, L = mAt w :: l ∧ Inv n (xs.set 3 (mNext w (mHLink h))) (V + 1) l (upd own q (own q ++ [mAt w])) (upd z q .idle) := by
  have hok := I.ok q hq
  rw [hz] at hok
  have hr := I.rng hok.2.1
  have hh := hok.2.2 hw
  have hv : mVer w = V := by rw [hw]; exact I.ver
  have hl := mHLink_rng h
  have hlow := I.low
  rcases I.hd with ⟨_, h0⟩ | ⟨a, l, rfl, h0, hch⟩
  · rw [← hw] at h0; omega
  · rw [← hw] at h0
    subst h0
    have e3 : at' (xs.set 3 (mNext w (mHLink h))) 3 = mNext w (mHLink h) := getD_set_eq (by rw [I.len]; decide)
    have ev : mVer (mNext w (mHLink h)) = V + 1 := by rw [mVer_next hl (by omega), hv]
    refine ⟨l, rfl, I.hn, by simp [I.len], by rw [e3]; exact ev, by omega, ?_, ?_, I.others hq ev trivial⟩
    · rw [e3, mAt_next hl, hh]
      exact Ch.set (fun b hb e => by
        have := I.rng (I.inL (List.mem_cons_of_mem _ hb))
        omega) hch
    · exact perm_upd hq (fun y => by rw [hz]; simp [PW.cell, List.count_append, List.count_cons]; omega) I.perm
/-- A Push lays its cell ahead. -/
theorem Inv.pushOk {a w : Int} (hz : z q = .push2 a w) (hw : w = at' xs 3) (hV : V + 1 ≤ 1000000) : Inv n (xs.set 3 (mNext w a)) (V + 1) (a :: L) own (upd z q .idle) := by
  have hok := I.ok q hq
  rw [hz] at hok
  have ha : a ∈ (z q).cell := by rw [hz]; exact List.mem_singleton.2 rfl
  have hr := I.rng (I.cellq hq ha)
  have hv : mVer w = V := by rw [hw]; exact I.ver
  have hlow := I.low
  have e3 : at' (xs.set 3 (mNext w a)) 3 = mNext w a := getD_set_eq (by rw [I.len]; decide)
  have ev : mVer (mNext w a) = V + 1 := by rw [mVer_next (by omega) (by omega), hv]
  refine ⟨I.hn, by simp [I.len], by rw [e3]; exact ev, by omega, ?_, ?_, I.others hq ev trivial⟩
  · rw [e3, mAt_next (by omega)]
    refine ⟨rfl, ?_⟩
    rw [show at' (xs.set 3 (mNext w a)) a = at' xs a from getD_set_ne (by omega), hok.2, hw]
    exact Ch.set (fun b hb e => by
      have := I.rng (I.inL hb)
      omega) I.ch
  · have h := perm_upd (L' := a :: L) (own := own) (z := z) (o' := own q) (x' := .idle) hq (fun y => by rw [hz]; simp [PW.cell, List.count_cons]; omega) I.perm
    rw [upd_same] at h
    exact h
end
end Go.Proofs.Ytjohhjilglilkaa.ListOwnP
