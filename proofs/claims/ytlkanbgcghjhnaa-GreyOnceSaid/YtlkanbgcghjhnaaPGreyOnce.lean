/-
  GreyOnce, the plain law: a list of grey objects in the words of a memory; three threads shade, one takes. What is kept, step by step.
-/
import Derived.Test.YtlkanbgcghjhnaaMod
namespace Go.Proofs.Ytlkanbgcghjhnaa.GreyOnceP
open Go.Proofs.Ytlkanbgcghjhnaa.Eng
set_option linter.unusedVariables false
set_option linter.unusedSimpArgs false
set_option linter.unusedSectionVars false
/-- What a thread that shades is at. -/
inductive PW where
  | idle
  | rdy (a : Int)
  | clm (a w : Int)
  | fst (a : Int)
  | lnk (a w : Int)
  | lay (a w : Int)
/-- What the one that takes is at. -/
inductive NW where
  | rdy
  | lnk (w : Int)
  | clm (w l : Int)
  | lay (w : Int)
/-- The object that a thread has claimed; the one that it goes for. -/
def PW.cell : PW → List Int
  | .fst a => [a]
  | .lnk a _ => [a]
  | .lay a _ => [a]
  | _ => []
def PW.pend : PW → List Int
  | .rdy a => [a]
  | .clm a _ => [a]
  | _ => []
def NW.cell : NW → List Int
  | .lay w => [mAt w]
  | _ => []
abbrev at' (xs : List Int) (a : Int) : Int := xs.getD a.toNat 0
def Ch (xs : List Int) : Int → List Int → Prop
  | x, [] => x = 0
  | x, a :: l => x = a ∧ Ch xs (mHLink (at' xs a)) l
def cells : List Int := (List.range 16).map fun j : Nat => 96 + 4 * (j : Int)
theorem mem_cells {a : Int} : a ∈ cells ↔ ∃ j : Nat, j < 16 ∧ a = 96 + 4 * (j : Int) := by
  simp only [cells, List.mem_map, List.mem_range]
  constructor
  · rintro ⟨j, hj, rfl⟩; exact ⟨j, hj, rfl⟩
  · rintro ⟨j, hj, rfl⟩; exact ⟨j, hj, rfl⟩
theorem rng {a : Int} (h : a ∈ cells) : 96 ≤ a ∧ a < 160 := by
  obtain ⟨j, hj, rfl⟩ := mem_cells.1 h
  omega
theorem getD_set_ne {xs : List Int} {p q : Nat} {v : Int} (h : p ≠ q) : (xs.set p v).getD q 0 = xs.getD q 0 := by
  simp only [List.getD_eq_getElem?_getD, List.getElem?_set_ne h]
theorem getD_set_eq {xs : List Int} {p : Nat} {v : Int} (h : p < xs.length) : (xs.set p v).getD p 0 = v := by
  simp only [List.getD_eq_getElem?_getD, List.getElem?_set_self h, Option.getD_some]
theorem Ch.set {xs : List Int} {p : Nat} {v : Int} : ∀ {l : List Int} {x : Int}, (∀ a ∈ l, a.toNat ≠ p) → Ch xs x l → Ch (xs.set p v) x l
  | [], _, _, h => h
  | a :: l, x, hp, h => by
    refine ⟨h.1, ?_⟩
    have e : at' (xs.set p v) a = at' xs a := getD_set_ne (Ne.symm (hp a (List.mem_cons_self ..)))
    rw [e]
    exact Ch.set (fun b hb => hp b (List.mem_cons_of_mem _ hb)) h.2
def grey (h : Int) : Prop := ∃ l, 0 ≤ l ∧ l < 4096 ∧ h = 401 + 4096 * l
theorem grey_ne {h : Int} (g : grey h) : h ≠ 17 ∧ mHState h = 1 ∧ mHMark h = 1 := by
  obtain ⟨l, h0, h1, rfl⟩ := g
  unfold mHState mHMark
  omega
theorem mHLink_grey {l : Int} (h : 0 ≤ l ∧ l < 4096) : mHLink (401 + 4096 * l) = l := by unfold mHLink; omega
theorem mAt_rng (w : Int) : 0 ≤ mAt w ∧ mAt w < 4096 := by unfold mAt; omega
theorem mHLink_rng (w : Int) : 0 ≤ mHLink w ∧ mHLink w < 4096 := by unfold mHLink; omega
theorem mAt_next {w a : Int} (h : 0 ≤ a ∧ a < 4096) : mAt (mNext w a) = a := by unfold mAt mNext mTop; omega
def upd {α : Type} (s : Nat → α) (q : Nat) (x : α) : Nat → α := fun j => if j = q then x else s j
theorem upd_eq {α : Type} (s : Nat → α) (q : Nat) (x : α) : upd s q x q = x := if_pos rfl
theorem upd_ne {α : Type} (s : Nat → α) {j q : Nat} (x : α) (h : j ≠ q) : upd s q x j = s j := if_neg h
theorem upd_same {α : Type} (s : Nat → α) (q : Nat) : upd s q (s q) = s := by
  funext j
  by_cases h : j = q
  · rw [h, upd_eq]
  · rw [upd_ne _ _ h]
theorem q3 {q : Nat} (h : q < 3) : q = 0 ∨ q = 1 ∨ q = 2 := by omega
/-- All that is claimed. -/
def zc (z : Nat → PW) : List Int := (z 0).cell ++ (z 1).cell ++ (z 2).cell
theorem zc_upd (z : Nat → PW) {q : Nat} (hq : q < 3) (x : PW) (y : Int) : (zc (upd z q x)).count y + (z q).cell.count y = (zc z).count y + x.cell.count y := by
  rcases q3 hq with rfl | rfl | rfl <;> simp [zc, upd, List.count_append] <;> omega
theorem zc_q (z : Nat → PW) {q : Nat} (hq : q < 3) (y : Int) : (z q).cell.count y ≤ (zc z).count y := by
  rcases q3 hq with rfl | rfl | rfl <;> simp only [zc, List.count_append] <;> omega
def tot (L : List Int) (z : Nat → PW) (nz : NW) (D : List Int) (y : Int) : Nat := L.count y + (zc z).count y + nz.cell.count y + D.count y
def okW (xs : List Int) : PW → Prop
  | .rdy a => a ∈ cells
  | .clm a w => a ∈ cells ∧ w = 17
  | .lay a w => mHLink (at' xs a) = mAt w
  | _ => True
def okN (xs L : List Int) : NW → Prop
  | .lnk w => mAt w ∈ L
  | .clm w l => mAt w ∈ L ∧ l = mHLink (at' xs (mAt w))
  | _ => True
structure Inv (xs L : List Int) (z : Nat → PW) (nz : NW) (D A : List Int) : Prop where
  len : xs.length = 160
  ch : Ch xs (mAt (at' xs 1)) L
  nd : ∀ y, tot L z nz D y ≤ 1
  gr : ∀ y, 0 < L.count y + (zc z).count y + nz.cell.count y → grey (at' xs y)
  dn : ∀ y, 0 < D.count y → at' xs y = 145
  un : ∀ y ∈ cells, tot L z nz D y = 0 → at' xs y = 17
  An : A.Nodup
  Ac : ∀ y ∈ A, y ∈ cells
  sub : ∀ y, 0 < tot L z nz D y → y ∈ A
  pend : ∀ q, q < 3 → ∀ y ∈ (z q).pend, y ∈ A
  cov : ∀ y ∈ A, 0 < tot L z nz D y ∨ ∃ q, q < 3 ∧ y ∈ (z q).pend
  ok : ∀ q, q < 3 → okW xs (z q)
  okn : okN xs L nz
theorem cnt1 (a : Int) : [a].count a = 1 := by simp
theorem cntn {a y : Int} (h : y ≠ a) : [a].count y = 0 := by rw [List.count_eq_zero]; simpa using h
theorem cntc (a y : Int) (l : List Int) : (a :: l).count y = [a].count y + l.count y := by
  by_cases h : a = y <;> simp [List.count_cons, h, Nat.add_comm]
section
variable {xs L : List Int} {z : Nat → PW} {nz : NW} {D A : List Int} (I : Inv xs L z nz D A)
include I
theorem Inv.cells_of {y : Int} (h : 0 < tot L z nz D y) : y ∈ cells := I.Ac y (I.sub y h)
theorem Inv.inL {y : Int} (h : y ∈ L) : 0 < tot L z nz D y := by
  have := List.count_pos_iff.2 h
  unfold tot; omega
theorem Inv.inq {q : Nat} (hq : q < 3) {y : Int} (h : y ∈ (z q).cell) : 0 < (zc z).count y := Nat.lt_of_lt_of_le (List.count_pos_iff.2 h) (zc_q z hq y)
theorem Inv.hd : L = [] ∧ mAt (at' xs 1) = 0 ∨ ∃ a l, L = a :: l ∧ mAt (at' xs 1) = a ∧ Ch xs (mHLink (at' xs a)) l := by
  have h := I.ch
  cases L with
  | nil => exact .inl ⟨rfl, h⟩
  | cons a l => exact .inr ⟨a, l, rfl, h.1, h.2⟩
/-- An object is free, or grey, or told. -/
theorem Inv.word {y : Int} (h : y ∈ cells) : at' xs y = 17 ∧ tot L z nz D y = 0 ∨ 0 < tot L z nz D y ∧ at' xs y ≠ 17 ∧ mHState (at' xs y) = 1 ∧ mHMark (at' xs y) = 1 := by
  by_cases h0 : tot L z nz D y = 0
  · exact .inl ⟨I.un y h h0, h0⟩
  · refine .inr ⟨by omega, ?_⟩
    by_cases h1 : 0 < L.count y + (zc z).count y + nz.cell.count y
    · exact grey_ne (I.gr y h1)
    · have h2 : 0 < D.count y := by unfold tot at h0; omega
      rw [I.dn y h2]
      unfold mHState mHMark
      omega
/-- A thread comes to something else; the memory stays. -/
theorem Inv.turn {q : Nat} (hq : q < 3) {x : PW} (hc : x.cell = (z q).cell) (hx : okW xs x) (hp : ∀ y ∈ x.pend, y ∈ A) (hv : ∀ y ∈ (z q).pend, y ∈ x.pend ∨ 0 < tot L z nz D y) : Inv xs L (upd z q x) nz D A := by
  have ez : ∀ y, (zc (upd z q x)).count y = (zc z).count y := fun y => by have := zc_upd z hq x y; rw [hc] at this; omega
  have et : ∀ y, tot L (upd z q x) nz D y = tot L z nz D y := fun y => by unfold tot; rw [ez]
  refine ⟨I.len, I.ch, fun y => by rw [et]; exact I.nd y, fun y => by rw [ez]; exact I.gr y, I.dn, fun y h => by rw [et]; exact I.un y h, I.An, I.Ac, fun y => by rw [et]; exact I.sub y, fun r hr y hy => ?_, fun y hy => ?_, fun r hr => ?_, I.okn⟩
  · by_cases e : r = q
    · rw [e, upd_eq] at hy; exact hp y hy
    · rw [upd_ne _ _ e] at hy; exact I.pend r hr y hy
  · rw [et]
    rcases I.cov y hy with h | ⟨r, hr, h⟩
    · exact .inl h
    · by_cases e : r = q
      · subst e
        rcases hv y h with h | h
        · exact .inr ⟨r, hr, by rw [upd_eq]; exact h⟩
        · exact .inl h
      · exact .inr ⟨r, hr, by rw [upd_ne _ _ e]; exact h⟩
  · by_cases e : r = q
    · rw [e, upd_eq]; exact hx
    · rw [upd_ne _ _ e]; exact I.ok r hr
theorem Inv.turnN {nx : NW} (hc : nx.cell = nz.cell) (hx : okN xs L nx) : Inv xs L z nx D A := by
  have et : ∀ y, tot L z nx D y = tot L z nz D y := fun y => by unfold tot; rw [hc]
  exact ⟨I.len, I.ch, fun y => by rw [et]; exact I.nd y, fun y => by rw [hc]; exact I.gr y, I.dn, fun y h => by rw [et]; exact I.un y h, I.An, I.Ac, fun y => by rw [et]; exact I.sub y, I.pend, fun y hy => by rw [et]; exact I.cov y hy, I.ok, hx⟩
/-- An object is asked for. -/
theorem Inv.ask {q : Nat} (hq : q < 3) (hz : z q = .idle) {a : Int} (ha : a ∈ cells) : ∃ A', Inv xs L (upd z q (.rdy a)) nz D A' ∧ ∀ y, y ∈ A' ↔ y ∈ A ∨ y = a := by
  have key : ∀ A', A'.Nodup → (∀ y, y ∈ A' ↔ y ∈ A ∨ y = a) → Inv xs L (upd z q (.rdy a)) nz D A' := fun A' hn h => by
    have I' : Inv xs L z nz D A := I
    have ez : ∀ y, (zc (upd z q (.rdy a))).count y = (zc z).count y := fun y => by have := zc_upd z hq (.rdy a) y; rw [hz] at this; exact this
    have et : ∀ y, tot L (upd z q (.rdy a)) nz D y = tot L z nz D y := fun y => by unfold tot; rw [ez]
    refine ⟨I.len, I.ch, fun y => by rw [et]; exact I.nd y, fun y => by rw [ez]; exact I.gr y, I.dn, fun y h => by rw [et]; exact I.un y h, hn, fun y hy => ?_, fun y hy => ?_, fun r hr y hy => ?_, fun y hy => ?_, fun r hr => ?_, I.okn⟩
    · rcases (h y).1 hy with h | h
      · exact I.Ac y h
      · rw [h]; exact ha
    · rw [et] at hy; exact (h y).2 (.inl (I.sub y hy))
    · by_cases e : r = q
      · rw [e, upd_eq] at hy; exact (h y).2 (.inr (List.mem_singleton.1 hy))
      · rw [upd_ne _ _ e] at hy; exact (h y).2 (.inl (I.pend r hr y hy))
    · rw [et]
      rcases (h y).1 hy with h | h
      · rcases I.cov y h with h | ⟨r, hr, h⟩
        · exact .inl h
        · refine .inr ⟨r, hr, ?_⟩
          by_cases e : r = q
          · rw [e, hz] at h; cases h
          · rw [upd_ne _ _ e]; exact h
      · exact .inr ⟨q, hq, by rw [upd_eq, h]; exact List.mem_singleton.2 rfl⟩
    · by_cases e : r = q
      · rw [e, upd_eq]; exact ha
      · rw [upd_ne _ _ e]; exact I.ok r hr
  by_cases h : a ∈ A
  · exact ⟨A, key A I.An fun y => ⟨.inl, fun h' => by rcases h' with h' | h'; exact h'; rw [h']; exact h⟩, fun y => ⟨.inl, fun h' => by rcases h' with h' | h'; exact h'; rw [h']; exact h⟩⟩
  · exact ⟨a :: A, key _ (List.nodup_cons.2 ⟨h, I.An⟩) fun y => by simp [or_comm], fun y => by simp [or_comm]⟩
end
/-- A word of an object changes: all that is known of the others stays. -/
theorem set_other {xs : List Int} {a : Int} (ha : a ∈ cells) {v : Int} {y : Int} (hy : y ∈ cells ∨ y = 1) (h : y ≠ a) : at' (xs.set a.toNat v) y = at' xs y := by
  have h1 := rng ha
  refine getD_set_ne ?_
  rcases hy with hy | rfl
  · have := rng hy
    omega
  · show a.toNat ≠ 1; omega
theorem set_one {xs : List Int} {v : Int} {y : Int} (hy : y ∈ cells) : at' (xs.set 1 v) y = at' xs y := by
  have := rng hy
  exact getD_set_ne (by omega)
section
variable {xs L : List Int} {z : Nat → PW} {nz : NW} {D A : List Int} (I : Inv xs L z nz D A)
include I
theorem Inv.chL {a : Int} (ha : a ∈ cells) {v : Int} (hL : a ∉ L) {x : Int} (h : Ch xs x L) : Ch (xs.set a.toNat v) x L := Ch.set (fun b hb e => hL (by
  have h1 := rng ha
  have h2 := rng (I.cells_of (I.inL hb))
  rw [show a = b by omega]; exact hb)) h
theorem Inv.okn' {a : Int} (ha : a ∈ cells) {v : Int} (hL : a ∉ L) : okN (xs.set a.toNat v) L nz := by
  have h := I.okn
  cases nz with
  | rdy => trivial
  | lay w => trivial
  | lnk w => exact h
  | clm w l =>
    refine ⟨h.1, ?_⟩
    rw [set_other ha (.inl (I.cells_of (I.inL h.1))) (fun e => hL (e ▸ h.1))]
    exact h.2
theorem Inv.okw' {q : Nat} (hq : q < 3) {a : Int} (ha : a ∈ cells) {v : Int} {r : Nat} (hr : r < 3) (hn : a ∉ (z r).cell) : okW (xs.set a.toNat v) (z r) := by
  have h := I.ok r hr
  cases hz : z r with
  | idle => trivial
  | rdy b => rw [hz] at h; exact h
  | clm b w => rw [hz] at h; exact h
  | fst b => trivial
  | lnk b w => trivial
  | lay b w =>
    rw [hz] at h hn
    show mHLink (at' _ b) = mAt w
    have hb : b ∈ cells := I.cells_of (by
      have := I.inq hr (y := b) (by rw [hz]; exact List.mem_singleton.2 rfl)
      unfold tot; omega)
    rw [set_other ha (.inl hb) (fun e => hn (e ▸ List.mem_singleton.2 rfl))]
    exact h
/-- An object is claimed. -/
theorem Inv.claim {q : Nat} (hq : q < 3) {a w : Int} (hz : z q = .clm a w) (hw : at' xs a = w) : Inv (xs.set a.toNat 401) L (upd z q (.fst a)) nz D A := by
  have ho := I.ok q hq
  rw [hz] at ho
  obtain ⟨ha, rfl⟩ := ho
  have hr := rng ha
  have h0 : tot L z nz D a = 0 := by
    rcases I.word ha with h | h
    · exact h.2
    · exact absurd hw h.2.1
  have h0' := h0
  unfold tot at h0'
  have hL : a ∉ L := fun h => by have := I.inL h; omega
  have ez : ∀ y, (zc (upd z q (.fst a))).count y = (zc z).count y + [a].count y := fun y => by have := zc_upd z hq (.fst a) y; rw [hz] at this; exact this
  have hv : at' (xs.set a.toNat 401) a = 401 := getD_set_eq (by rw [I.len]; omega)
  have h1 : at' (xs.set a.toNat 401) 1 = at' xs 1 := set_other ha (.inr rfl) (by omega)
  refine ⟨by simp [I.len], by rw [h1]; exact I.chL ha hL I.ch, fun y => ?_, fun y hy => ?_, fun y hy => ?_, fun y hy ht => ?_, I.An, I.Ac, fun y hy => ?_, fun r hr2 y hy => ?_, fun y hy => ?_, fun r hr2 => ?_, I.okn' ha hL⟩
  · unfold tot
    rw [ez]
    by_cases e : y = a
    · rw [e, cnt1]; omega
    · have := I.nd y; unfold tot at this; rw [cntn e]; omega
  · rw [ez] at hy
    by_cases e : y = a
    · rw [e, hv]; exact ⟨0, by omega, by omega, rfl⟩
    · rw [cntn e] at hy
      rw [set_other ha (.inl (I.cells_of (by unfold tot; omega))) e]
      exact I.gr y hy
  · have e : y ≠ a := fun e => by rw [e] at hy; omega
    rw [set_other ha (.inl (I.cells_of (by unfold tot; omega))) e]
    exact I.dn y hy
  · have e : y ≠ a := fun e => by unfold tot at ht; rw [ez, e, cnt1] at ht; omega
    rw [set_other ha (.inl hy) e]
    refine I.un y hy ?_
    unfold tot at ht ⊢
    rw [ez, cntn e] at ht
    omega
  · unfold tot at hy
    rw [ez] at hy
    by_cases e : y = a
    · rw [e]; exact I.pend q hq a (by rw [hz]; exact List.mem_singleton.2 rfl)
    · rw [cntn e] at hy
      exact I.sub y (by unfold tot; omega)
  · by_cases e : r = q
    · rw [e, upd_eq] at hy; cases hy
    · rw [upd_ne _ _ e] at hy; exact I.pend r hr2 y hy
  · by_cases e : y = a
    · left; unfold tot; rw [ez, e, cnt1]; omega
    · rcases I.cov y hy with h | ⟨r, hr2, h⟩
      · left; unfold tot at h ⊢; rw [ez]; omega
      · right
        refine ⟨r, hr2, ?_⟩
        have e2 : r ≠ q := fun e2 => by rw [e2, hz] at h; exact e (List.mem_singleton.1 h)
        rw [upd_ne _ _ e2]; exact h
  · by_cases e : r = q
    · rw [e, upd_eq]; trivial
    · rw [upd_ne _ _ e]
      exact I.okw' hq ha hr2 (fun h => by have := I.inq hr2 h; omega)
theorem Inv.mine {q : Nat} (hq : q < 3) {a : Int} (h : (z q).cell = [a]) : a ∈ cells ∧ L.count a = 0 ∧ nz.cell.count a = 0 ∧ D.count a = 0 ∧ (zc z).count a = 1 ∧ a ∉ L ∧ ∀ r, r < 3 → r ≠ q → a ∉ (z r).cell := by
  have h1 := I.inq hq (y := a) (by rw [h]; exact List.mem_singleton.2 rfl)
  have h2 := I.nd a
  have h3 : a ∈ cells := I.cells_of (by unfold tot; omega)
  unfold tot at h2
  refine ⟨h3, by omega, by omega, by omega, by omega, fun h => by have := List.count_pos_iff.2 h; omega, fun r hr hne hm => ?_⟩
  have c1 : 0 < (z q).cell.count a := by rw [h, cnt1]; exact Nat.one_pos
  have c2 := List.count_pos_iff.2 hm
  have c3 : (zc z).count a ≤ 1 := by omega
  simp only [zc, List.count_append] at c3
  rcases q3 hq with rfl | rfl | rfl <;> rcases q3 hr with rfl | rfl | rfl <;> first | exact absurd rfl hne | omega
/-- A claimed object's link is laid. -/
theorem Inv.link {q : Nat} (hq : q < 3) {a w : Int} (hz : z q = .lnk a w) : Inv (xs.set a.toNat (401 + 4096 * mAt w)) L (upd z q (.lay a w)) nz D A := by
  obtain ⟨ha, c1, c2, c3, c4, hL, ho⟩ := I.mine hq (a := a) (by rw [hz]; rfl)
  have hr := rng ha
  have ez : ∀ y, (zc (upd z q (.lay a w))).count y = (zc z).count y := fun y => by have := zc_upd z hq (.lay a w) y; rw [hz] at this; simp only [PW.cell] at this; omega
  have et : ∀ y, tot L (upd z q (.lay a w)) nz D y = tot L z nz D y := fun y => by unfold tot; rw [ez]
  have hv : at' (xs.set a.toNat (401 + 4096 * mAt w)) a = 401 + 4096 * mAt w := getD_set_eq (by rw [I.len]; omega)
  have h1 : at' (xs.set a.toNat (401 + 4096 * mAt w)) 1 = at' xs 1 := set_other ha (.inr rfl) (by omega)
  refine ⟨by simp [I.len], by rw [h1]; exact I.chL ha hL I.ch, fun y => by rw [et]; exact I.nd y, fun y hy => ?_, fun y hy => ?_, fun y hy ht => ?_, I.An, I.Ac, fun y => by rw [et]; exact I.sub y, fun r hr2 y hy => ?_, fun y hy => ?_, fun r hr2 => ?_, I.okn' ha hL⟩
  · rw [ez] at hy
    by_cases e : y = a
    · rw [e, hv]; exact ⟨mAt w, (mAt_rng w).1, (mAt_rng w).2, rfl⟩
    · rw [set_other ha (.inl (I.cells_of (by unfold tot; omega))) e]
      exact I.gr y hy
  · have e : y ≠ a := fun e => by rw [e] at hy; omega
    rw [set_other ha (.inl (I.cells_of (by unfold tot; omega))) e]
    exact I.dn y hy
  · rw [et] at ht
    have e : y ≠ a := fun e => by unfold tot at ht; rw [e] at ht; omega
    rw [set_other ha (.inl hy) e]
    exact I.un y hy ht
  · by_cases e : r = q
    · rw [e, upd_eq] at hy; cases hy
    · rw [upd_ne _ _ e] at hy; exact I.pend r hr2 y hy
  · rw [et]
    rcases I.cov y hy with h | ⟨r, hr2, h⟩
    · exact .inl h
    · refine .inr ⟨r, hr2, ?_⟩
      have e2 : r ≠ q := fun e2 => by rw [e2, hz] at h; cases h
      rw [upd_ne _ _ e2]; exact h
  · by_cases e : r = q
    · rw [e, upd_eq]
      show mHLink (at' _ a) = mAt w
      rw [hv]
      exact mHLink_grey (mAt_rng w)
    · rw [upd_ne _ _ e]
      exact I.okw' hq ha hr2 (ho r hr2 e)
/-- The head's word changes: what is known of objects stays. -/
theorem Inv.okw1 {v : Int} {r : Nat} (hr : r < 3) : okW (xs.set 1 v) (z r) := by
  have h := I.ok r hr
  cases hz : z r with
  | idle => trivial
  | rdy b => rw [hz] at h; exact h
  | clm b w => rw [hz] at h; exact h
  | fst b => trivial
  | lnk b w => trivial
  | lay b w =>
    rw [hz] at h
    show mHLink (at' _ b) = mAt w
    rw [set_one (I.mine hr (a := b) (by rw [hz]; rfl)).1]
    exact h
/-- An object is laid ahead. -/
theorem Inv.lay {q : Nat} (hq : q < 3) {a w : Int} (hz : z q = .lay a w) (hw : at' xs 1 = w) : Inv (xs.set 1 (mNext w a)) (a :: L) (upd z q .idle) nz D A := by
  obtain ⟨ha, c1, c2, c3, c4, hL, ho⟩ := I.mine hq (a := a) (by rw [hz]; rfl)
  have hr := rng ha
  have hok := I.ok q hq
  rw [hz] at hok
  have hok : mHLink (at' xs a) = mAt w := hok
  have ez : ∀ y, (zc (upd z q .idle)).count y + [a].count y = (zc z).count y := fun y => by have := zc_upd z hq .idle y; rw [hz] at this; exact this
  have et : ∀ y, tot (a :: L) (upd z q .idle) nz D y = tot L z nz D y := fun y => by unfold tot; rw [cntc]; have := ez y; omega
  have e1 : at' (xs.set 1 (mNext w a)) 1 = mNext w a := getD_set_eq (by rw [I.len]; decide)
  have cellL : ∀ b ∈ L, b.toNat ≠ 1 := fun b hb => by have := rng (I.cells_of (I.inL hb)); omega
  refine ⟨by simp [I.len], ?_, fun y => by rw [et]; exact I.nd y, fun y hy => ?_, fun y hy => ?_, fun y hy ht => ?_, I.An, I.Ac, fun y => by rw [et]; exact I.sub y, fun r hr2 y hy => ?_, fun y hy => ?_, fun r hr2 => ?_, ?_⟩
  · rw [e1, mAt_next (by omega)]
    refine ⟨rfl, ?_⟩
    rw [set_one ha, hok, ← hw]
    exact Ch.set cellL I.ch
  · have hy2 : 0 < L.count y + (zc z).count y + nz.cell.count y := by rw [cntc] at hy; have := ez y; omega
    rw [set_one (I.cells_of (by unfold tot; omega))]
    exact I.gr y hy2
  · rw [set_one (I.cells_of (by unfold tot; omega))]
    exact I.dn y hy
  · rw [et] at ht
    rw [set_one hy]
    exact I.un y hy ht
  · by_cases e : r = q
    · rw [e, upd_eq] at hy; cases hy
    · rw [upd_ne _ _ e] at hy; exact I.pend r hr2 y hy
  · rw [et]
    rcases I.cov y hy with h | ⟨r, hr2, h⟩
    · exact .inl h
    · refine .inr ⟨r, hr2, ?_⟩
      have e2 : r ≠ q := fun e2 => by rw [e2, hz] at h; cases h
      rw [upd_ne _ _ e2]; exact h
  · by_cases e : r = q
    · rw [e, upd_eq]; trivial
    · rw [upd_ne _ _ e]; exact I.okw1 hr2
  · have h := I.okn
    cases nz with
    | rdy => trivial
    | lay w => trivial
    | lnk u => exact List.mem_cons_of_mem _ h
    | clm u l =>
      refine ⟨List.mem_cons_of_mem _ h.1, ?_⟩
      rw [set_one (I.cells_of (I.inL h.1))]
      exact h.2
/-- The first of the list is taken. -/
theorem Inv.take {w l : Int} (hz : nz = .clm w l) (hw : at' xs 1 = w) : ∃ L', L = mAt w :: L' ∧ Inv (xs.set 1 (mNext w l)) L' z (.lay w) D A := by
  subst hz
  have hok := I.okn
  obtain ⟨h1, rfl⟩ := hok
  rcases I.hd with ⟨rfl, _⟩ | ⟨a, L', rfl, h2, h3⟩
  · cases h1
  rw [hw] at h2
  subst h2
  refine ⟨L', rfl, ?_⟩
  have e1 : at' (xs.set 1 (mNext w (mHLink (at' xs (mAt w))))) 1 = mNext w (mHLink (at' xs (mAt w))) := getD_set_eq (by rw [I.len]; decide)
  have et : ∀ y, tot L' z (.lay w) D y = tot (mAt w :: L') z (.clm w (mHLink (at' xs (mAt w)))) D y := fun y => by
    unfold tot
    rw [cntc]
    simp only [NW.cell, List.count_nil]
    omega
  refine ⟨by simp [I.len], ?_, fun y => by rw [et]; exact I.nd y, fun y hy => ?_, fun y hy => ?_, fun y hy ht => ?_, I.An, I.Ac, fun y => by rw [et]; exact I.sub y, I.pend, fun y hy => by rw [et]; exact I.cov y hy, fun r hr2 => I.okw1 hr2, trivial⟩
  · rw [e1, mAt_next (mHLink_rng _)]
    exact Ch.set (fun b hb => by have := rng (I.cells_of (I.inL (List.mem_cons_of_mem _ hb))); omega) h3
  · have hy2 : 0 < (mAt w :: L').count y + (zc z).count y + (NW.clm w (mHLink (at' xs (mAt w)))).cell.count y := by rw [cntc]; simp only [NW.cell, List.count_nil] at hy ⊢; omega
    rw [set_one (I.cells_of (by unfold tot; omega))]
    exact I.gr y hy2
  · rw [set_one (I.cells_of (by unfold tot; omega))]
    exact I.dn y hy
  · rw [et] at ht
    rw [set_one hy]
    exact I.un y hy ht
/-- What was taken is told. -/
theorem Inv.tell {w : Int} (hz : nz = .lay w) : mAt w ∈ cells ∧ mAt w ∉ D ∧ Inv (xs.set (mAt w).toNat 145) L z .rdy (mAt w :: D) A := by
  subst hz
  have h2 := I.nd (mAt w)
  have h3 : mAt w ∈ cells := I.cells_of (by unfold tot; simp only [NW.cell, cnt1]; omega)
  unfold tot at h2
  simp only [NW.cell, cnt1] at h2
  have hL : mAt w ∉ L := fun h => by have := List.count_pos_iff.2 h; omega
  have hD : mAt w ∉ D := fun h => by have := List.count_pos_iff.2 h; omega
  have hr := rng h3
  have et : ∀ y, tot L z .rdy (mAt w :: D) y = tot L z (.lay w) D y := fun y => by
    unfold tot
    rw [cntc]
    simp only [NW.cell, List.count_nil]
    omega
  have hv : at' (xs.set (mAt w).toNat 145) (mAt w) = 145 := getD_set_eq (by rw [I.len]; omega)
  have h1 : at' (xs.set (mAt w).toNat 145) 1 = at' xs 1 := set_other h3 (.inr rfl) (by omega)
  refine ⟨h3, hD, by simp [I.len], by rw [h1]; exact I.chL h3 hL I.ch, fun y => by rw [et]; exact I.nd y, fun y hy => ?_, fun y hy => ?_, fun y hy ht => ?_, I.An, I.Ac, fun y => by rw [et]; exact I.sub y, I.pend, fun y hy => by rw [et]; exact I.cov y hy, fun r hr2 => ?_, trivial⟩
  · simp only [NW.cell, List.count_nil] at hy
    have e : y ≠ mAt w := fun e => by rw [e] at hy; omega
    rw [set_other h3 (.inl (I.cells_of (by unfold tot; omega))) e]
    exact I.gr y (by omega)
  · by_cases e : y = mAt w
    · rw [e]; exact hv
    · rw [cntc, cntn e] at hy
      rw [set_other h3 (.inl (I.cells_of (by unfold tot; omega))) e]
      exact I.dn y (by omega)
  · rw [et] at ht
    have e : y ≠ mAt w := fun e => by unfold tot at ht; rw [e] at ht; simp only [NW.cell, cnt1] at ht; omega
    rw [set_other h3 (.inl hy) e]
    exact I.un y hy ht
  · exact I.okw' hr2 h3 hr2 (fun h => by have := I.inq hr2 h; omega)
end
end Go.Proofs.Ytlkanbgcghjhnaa.GreyOnceP
