/-
  GreyOnce, the plain law: steps as relations; how near the end is: 300 rounds in turn are enough, to the round.
-/
import Derived.Test.YtlkanbgcghjhnaaPGreyOnce
namespace Go.Proofs.Ytlkanbgcghjhnaa.GreyOnceP
open Go.Proofs.Ytlkanbgcghjhnaa.Eng
set_option linter.unusedVariables false
set_option linter.unusedSimpArgs false
set_option linter.unusedSectionVars false
/-- A step of a thread that shades. -/
inductive SStep (xs : List Int) : PW → PW → List Int → Prop where
  | stay : SStep xs .idle .idle xs
  | over {a} : mHState (at' xs a) ≠ 1 ∨ mHMark (at' xs a) = 1 → SStep xs (.rdy a) .idle xs
  | load {a} : mHState (at' xs a) = 1 → mHMark (at' xs a) ≠ 1 → SStep xs (.rdy a) (.clm a (at' xs a)) xs
  | claim {a w} : at' xs a = w → SStep xs (.clm a w) (.fst a) (xs.set a.toNat 401)
  | fail {a w} : at' xs a ≠ w → SStep xs (.clm a w) (.rdy a) xs
  | first {a} : SStep xs (.fst a) (.lnk a (at' xs 1)) xs
  | link {a w} : SStep xs (.lnk a w) (.lay a w) (xs.set a.toNat (401 + 4096 * mAt w))
  | lay {a w} : at' xs 1 = w → SStep xs (.lay a w) .idle (xs.set 1 (mNext w a))
  | back {a w} : at' xs 1 ≠ w → SStep xs (.lay a w) (.fst a) xs
/-- A step of the one that takes: the words behind, what is told. -/
inductive NStep (xs D : List Int) : NW → NW → List Int → List Int → Prop where
  | none : mAt (at' xs 1) = 0 → NStep xs D .rdy .rdy xs D
  | load : mAt (at' xs 1) ≠ 0 → NStep xs D .rdy (.lnk (at' xs 1)) xs D
  | link {w} : NStep xs D (.lnk w) (.clm w (mHLink (at' xs (mAt w)))) xs D
  | take {w l} : at' xs 1 = w → NStep xs D (.clm w l) (.lay w) (xs.set 1 (mNext w l)) D
  | fail {w l} : at' xs 1 ≠ w → NStep xs D (.clm w l) .rdy xs D
  | tell {w} : NStep xs D (.lay w) .rdy (xs.set (mAt w).toNat 145) (mAt w :: D)
section
variable {xs L : List Int} {z : Nat → PW} {nz : NW} {D A : List Int} (I : Inv xs L z nz D A)
include I
theorem keepS {q : Nat} (hq : q < 3) {x : PW} {ys : List Int} (h : SStep xs (z q) x ys) : ∃ L', Inv ys L' (upd z q x) nz D A := by
  generalize hz : z q = p at h
  have pn : ∀ {y : Int}, y ∈ (z q).pend → y ∈ A := fun h => I.pend q hq _ h
  cases h with
  | stay => exact ⟨L, by rw [← hz, upd_same]; exact I⟩
  | @over a hm =>
    have ho := I.ok q hq
    rw [hz] at ho
    refine ⟨L, I.turn hq (by rw [hz]; rfl) trivial (fun y hy => by cases hy) fun y hy => .inr ?_⟩
    rw [hz] at hy
    obtain rfl := List.mem_singleton.1 hy
    rcases I.word ho with h | h
    · rw [h.1] at hm
      unfold mHState mHMark at hm
      omega
    · exact h.1
  | @load a h1 h2 =>
    have ho := I.ok q hq
    rw [hz] at ho
    refine ⟨L, I.turn hq (by rw [hz]; rfl) ⟨ho, ?_⟩ (fun y hy => pn (by rw [hz]; exact hy)) fun y hy => .inl (by rw [hz] at hy; exact hy)⟩
    rcases I.word ho with h | h
    · exact h.1
    · exact absurd h.2.2.2 h2
  | claim hw => exact ⟨L, I.claim hq hz hw⟩
  | @fail a w hw =>
    have ho := I.ok q hq
    rw [hz] at ho
    exact ⟨L, I.turn hq (by rw [hz]; rfl) ho.1 (fun y hy => pn (by rw [hz]; exact hy)) fun y hy => .inl (by rw [hz] at hy; exact hy)⟩
  | first => exact ⟨L, I.turn hq (by rw [hz]; rfl) trivial (fun y hy => by cases hy) fun y hy => by rw [hz] at hy; cases hy⟩
  | link => exact ⟨L, I.link hq hz⟩
  | lay hw => exact ⟨_, I.lay hq hz hw⟩
  | back hw => exact ⟨L, I.turn hq (by rw [hz]; rfl) trivial (fun y hy => by cases hy) fun y hy => by rw [hz] at hy; cases hy⟩
theorem keepN {nx : NW} {ys D' : List Int} (h : NStep xs D nz nx ys D') : ∃ L', Inv ys L' z nx D' A := by
  generalize hz : nz = p at h
  cases h with
  | none h0 => exact ⟨L, I.turnN (by rw [hz]) trivial⟩
  | load h0 =>
    refine ⟨L, I.turnN (by rw [hz]; rfl) ?_⟩
    rcases I.hd with ⟨_, h1⟩ | ⟨a, l, rfl, h1, _⟩
    · exact absurd h1 h0
    · show mAt (at' xs 1) ∈ _
      rw [h1]; exact List.mem_cons_self ..
  | @link w =>
    have ho := I.okn
    rw [hz] at ho
    exact ⟨L, I.turnN (by rw [hz]; rfl) ⟨ho, rfl⟩⟩
  | take hw =>
    obtain ⟨L', _, h⟩ := I.take hz hw
    exact ⟨L', h⟩
  | fail hw => exact ⟨L, I.turnN (by rw [hz]; rfl) trivial⟩
  | tell => exact ⟨L, (I.tell hz).2.2⟩
end
/-! ### How near the end is -/
def cost (xs : List Int) : PW → Int
  | .idle => 0
  | .rdy a => if at' xs a = 17 then 5 else 1
  | .clm a _ => if at' xs a = 17 then 4 else 2
  | .fst _ => 3
  | .lnk _ w => if w = at' xs 1 then 2 else 5
  | .lay _ w => if w = at' xs 1 then 1 else 4
def beta : NW → Int
  | .rdy => 3
  | .lnk _ => 6
  | .clm _ _ => 9
  | .lay _ => 0
def nxc (xs : List Int) : NW → Int
  | .rdy => 0
  | .lnk w => if w = at' xs 1 then -1 else 2
  | .clm w _ => if w = at' xs 1 then -2 else 1
  | .lay _ => 1
def on : PW → Nat
  | .idle => 0
  | _ => 1
def pn (z : Nat → PW) : Nat := on (z 0) + on (z 1) + on (z 2)
theorem on_ne {x : PW} (h : x ≠ .idle) : on x = 1 := by cases x <;> first | exact absurd rfl h | rfl
theorem on_le (x : PW) : on x ≤ 1 := by cases x <;> exact Nat.le_of_ble_eq_true rfl
theorem pn_upd (z : Nat → PW) {q : Nat} (hq : q < 3) (x : PW) : pn (upd z q x) + on (z q) = pn z + on x := by
  rcases q3 hq with rfl | rfl | rfl <;> simp [pn, upd] <;> omega
theorem pn_le (z : Nat → PW) : pn z ≤ 3 := by
  have h0 := on_le (z 0); have h1 := on_le (z 1); have h2 := on_le (z 2)
  unfold pn; omega
theorem pn_pos {z : Nat → PW} {q : Nat} (hq : q < 3) (h : z q ≠ .idle) : 0 < pn z := by
  have := on_ne h
  unfold pn
  rcases q3 hq with rfl | rfl | rfl <;> omega
theorem pn_zero {z : Nat → PW} (h : pn z = 0) {q : Nat} (hq : q < 3) : z q = .idle := Classical.byContradiction fun hn => by have := pn_pos hq hn; omega
theorem cost_pos {xs : List Int} {x : PW} (h : x ≠ .idle) : 1 ≤ cost xs x := by
  cases x <;> simp only [cost] <;> (try split) <;> first | exact absurd rfl h | omega
theorem cost_le (xs : List Int) (x : PW) : cost xs x ≤ 5 := by
  cases x <;> simp only [cost] <;> (try split) <;> omega
/-- Another head: three more at the most. -/
theorem cost_head {xs : List Int} {v : Int} {x : PW} (hx : okW xs x) : cost (xs.set 1 v) x ≤ cost xs x + 3 := by
  cases x with
  | idle => simp only [cost]; omega
  | rdy a => have hx : a ∈ cells := hx; simp only [cost]; rw [set_one hx]; omega
  | clm a w => simp only [cost]; rw [set_one hx.1]; omega
  | fst a => simp only [cost]; omega
  | lnk a w => simp only [cost]; split <;> split <;> omega
  | lay a w => simp only [cost]; split <;> split <;> omega
/-- Another word of an object that isn't free any more. -/
theorem cost_obj {xs : List Int} (hl : xs.length = 160) {a v : Int} (ha : a ∈ cells) (hv : v ≠ 17) {x : PW} (hx : okW xs x) : cost (xs.set a.toNat v) x ≤ cost xs x := by
  have hr := rng ha
  have e1 : at' (xs.set a.toNat v) 1 = at' xs 1 := set_other ha (.inr rfl) (by omega)
  have key : ∀ b, b ∈ cells → at' (xs.set a.toNat v) b = 17 → at' xs b = 17 := fun b hb h => by
    by_cases e : b = a
    · rw [e] at h
      have : at' (xs.set a.toNat v) a = v := getD_set_eq (by omega)
      rw [this] at h
      exact absurd h hv
    · rw [set_other ha (.inl hb) e] at h; exact h
  cases x with
  | idle => simp only [cost]; omega
  | rdy b => have h2 := key b hx; simp only [cost]; split <;> split <;> first | omega | (rename_i h3 h4; exact absurd (h2 h3) h4)
  | clm b w => have h2 := key b hx.1; simp only [cost]; split <;> split <;> first | omega | (rename_i h3 h4; exact absurd (h2 h3) h4)
  | fst b => simp only [cost]; omega
  | lnk b w => simp only [cost]; rw [e1]; omega
  | lay b w => simp only [cost]; rw [e1]; omega
theorem nxc_obj {xs : List Int} {a v : Int} (ha : a ∈ cells) (nz : NW) : nxc (xs.set a.toNat v) nz = nxc xs nz := by
  have hr := rng ha
  have e1 : at' (xs.set a.toNat v) 1 = at' xs 1 := set_other ha (.inr rfl) (by omega)
  cases nz <;> simp only [nxc] <;> rw [e1]
theorem nxc_head (xs : List Int) (v : Int) (nz : NW) : nxc (xs.set 1 v) nz ≤ nxc xs nz + 3 := by
  cases nz <;> simp only [nxc] <;> (try split) <;> (try split) <;> omega
theorem nodup_le {α : Type} [DecidableEq α] : ∀ {l m : List α}, l.Nodup → (∀ a ∈ l, a ∈ m) → l.length ≤ m.length
  | [], m, _, _ => Nat.zero_le _
  | a :: l, m, h, hs => by
    obtain ⟨h1, h2⟩ := List.nodup_cons.1 h
    have ha := hs a (List.mem_cons_self ..)
    have h3 := nodup_le (m := m.erase a) h2 fun b hb => by
      have hne : b ≠ a := fun e => h1 (e ▸ hb)
      exact (List.mem_erase_of_ne hne).2 (hs b (List.mem_cons_of_mem _ hb))
    have h4 := List.length_erase_of_mem ha
    have h5 := List.length_pos_of_mem ha
    simp only [List.length_cons]
    omega
/-- What is left of the turns of the one that takes. -/
def P1 (xs : List Int) (z : Nat → PW) (nz : NW) (D A : List Int) : Int := 4 * ((A.length : Int) - nz.cell.length - D.length) + 3 * pn z + nxc xs nz
def PA (xs : List Int) (z : Nat → PW) (nz : NW) (T : Int) (k : Nat) : Prop := ∀ q, q < 3 → z q ≠ .idle → 4 * cost xs (z q) + beta nz + 12 * ((pn z : Int) - 1) ≤ 49 - T + (if k ≤ q then 4 else 0)
def PB (xs : List Int) (z : Nat → PW) (nz : NW) (D A : List Int) (T : Int) : Prop := P1 xs z nz D A ≤ 75 - T ∨ (0 < pn z ∧ P1 xs z nz D A ≤ 21)
section
variable {xs L : List Int} {z : Nat → PW} {nz : NW} {D A : List Int} (I : Inv xs L z nz D A)
include I
theorem few : A.length ≤ 16 := by
  have := nodup_le I.An I.Ac
  simpa [cells] using this
/-- At first. -/
theorem pot0 : PA xs z nz 0 0 ∧ PB xs z nz D A 0 := by
  have h1 := pn_le z
  have h2 := few I
  refine ⟨fun q hq hz => ?_, .inl ?_⟩
  · have h3 := cost_le xs (z q)
    have h4 : beta nz ≤ 9 := by cases nz <;> simp only [beta] <;> omega
    rw [if_pos (Nat.zero_le _)]
    omega
  · have h3 : nxc xs nz - 4 * (nz.cell.length : Int) ≤ 2 := by cases nz <;> simp only [nxc, NW.cell, List.length_nil, List.length_cons] <;> (try split) <;> omega
    unfold P1
    omega
/-- A thread's step costs nothing to the others that its end doesn't pay. -/
theorem stepS {q : Nat} (hq : q < 3) {x : PW} {ys : List Int} (h : SStep xs (z q) x ys) :
    (z q ≠ .idle → x ≠ .idle → cost ys x + 1 ≤ cost xs (z q)) ∧ (z q = .idle → x = .idle) ∧ (x = .idle ∨ on x = on (z q)) ∧ (∀ r, r < 3 → r ≠ q → cost ys (z r) + 3 * ((on x : Int) - on (z q)) ≤ cost xs (z r)) ∧ nxc ys nz + 3 * ((on x : Int) - on (z q)) ≤ nxc xs nz := by
  generalize hz : z q = p at h
  cases h with
  | stay => exact ⟨fun h => absurd rfl h, fun _ => rfl, .inl rfl, fun r _ _ => by simp only [on]; omega, by simp only [on]; omega⟩
  | over hm => exact ⟨fun _ h => absurd rfl h, fun h => (by cases h), .inl rfl, fun r _ _ => by simp only [on]; omega, by simp only [on]; omega⟩
  | @load a h1 h2 =>
    have ho := I.ok q hq
    rw [hz] at ho
    refine ⟨fun _ _ => ?_, fun h => (by cases h), .inr rfl, fun r _ _ => by simp only [on]; omega, by simp only [on]; omega⟩
    rcases I.word ho with h | h
    · simp only [cost]; rw [if_pos h.1, if_pos h.1]; omega
    · exact absurd h.2.2.2 h2
  | @claim a w hw =>
    have ho := I.ok q hq
    rw [hz] at ho
    refine ⟨fun _ _ => ?_, fun h => (by cases h), .inr rfl, fun r hr _ => ?_, ?_⟩
    · simp only [cost]; rw [if_pos (hw.trans ho.2)]; omega
    · have := cost_obj I.len ho.1 (v := 401) (by decide) (I.ok r hr); simp only [on]; omega
    · rw [nxc_obj ho.1]; simp only [on]; omega
  | @fail a w hw =>
    have ho := I.ok q hq
    rw [hz] at ho
    refine ⟨fun _ _ => ?_, fun h => (by cases h), .inr rfl, fun r _ _ => by simp only [on]; omega, by simp only [on]; omega⟩
    simp only [cost]
    rw [if_neg (fun e => hw (e.trans ho.2.symm)), if_neg (fun e => hw (e.trans ho.2.symm))]
    omega
  | first => exact ⟨fun _ _ => by simp [cost], fun h => (by cases h), .inr rfl, fun r _ _ => by simp only [on]; omega, by simp only [on]; omega⟩
  | @link a w =>
    have ha := (I.mine hq (a := a) (by rw [hz]; rfl)).1
    have hr := rng ha
    have e1 : at' (xs.set a.toNat (401 + 4096 * mAt w)) 1 = at' xs 1 := set_other ha (.inr rfl) (by omega)
    have hm := mAt_rng w
    refine ⟨fun _ _ => ?_, fun h => (by cases h), .inr rfl, fun r hr _ => ?_, ?_⟩
    · simp only [cost]; rw [e1]; split <;> omega
    · have := cost_obj I.len ha (v := 401 + 4096 * mAt w) (by omega) (I.ok r hr); simp only [on]; omega
    · rw [nxc_obj ha]; simp only [on]; omega
  | @lay a w hw =>
    refine ⟨fun _ h => absurd rfl h, fun h => (by cases h), .inl rfl, fun r hr _ => ?_, ?_⟩
    · have := cost_head (v := mNext w a) (I.ok r hr); simp only [on]; omega
    · have := nxc_head xs (mNext w a) nz; simp only [on]; omega
  | @back a w hw =>
    refine ⟨fun _ _ => ?_, fun h => (by cases h), .inr rfl, fun r _ _ => by simp only [on]; omega, by simp only [on]; omega⟩
    simp only [cost]
    rw [if_neg (Ne.symm hw)]
    omega
theorem potS {q : Nat} (hq : q < 3) {x : PW} {ys : List Int} (h : SStep xs (z q) x ys) {T : Int} (ha : PA xs z nz T q) (hb : PB xs z nz D A T) : PA ys (upd z q x) nz T (q + 1) ∧ PB ys (upd z q x) nz D A T := by
  obtain ⟨s1, s2, s3, s4, s5⟩ := stepS I hq h
  have hp := pn_upd z hq x
  have hpi : ((pn (upd z q x) : Nat) : Int) = pn z + ((on x : Int) - on (z q)) := by omega
  refine ⟨fun r hr hne => ?_, ?_⟩
  · by_cases e : r = q
    · subst e
      rw [upd_eq] at hne ⊢
      have hzq : z r ≠ .idle := fun h => hne (s2 h)
      have h1 := ha r hr hzq
      rw [if_pos (Nat.le_refl _)] at h1
      rw [if_neg (by omega)]
      have h2 := s1 hzq hne
      have h3 : on x = on (z r) := by rw [on_ne hne, on_ne hzq]
      omega
    · rw [upd_ne _ _ e] at hne ⊢
      have h1 := ha r hr hne
      have h2 := s4 r hr e
      have h3 : (if q + 1 ≤ r then (4 : Int) else 0) = if q ≤ r then 4 else 0 := by
        by_cases h : q ≤ r
        · rw [if_pos h, if_pos (by omega)]
        · rw [if_neg h, if_neg (by omega)]
      rw [h3]
      omega
  · have e1 : P1 ys (upd z q x) nz D A ≤ P1 xs z nz D A := by unfold P1; omega
    rcases hb with hb | ⟨hb1, hb2⟩
    · exact .inl (by omega)
    · by_cases h0 : 0 < pn (upd z q x)
      · exact .inr ⟨h0, by omega⟩
      · left
        have hzq : z q ≠ .idle := fun h => by
          have h7 : on x = on (z q) := by rw [s2 h, h]
          omega
        have h1 := ha q hq hzq
        rw [if_pos (Nat.le_refl _)] at h1
        have h2 := cost_pos (xs := xs) hzq
        have h3 : 0 ≤ beta nz := by cases nz <;> simp only [beta] <;> omega
        omega
theorem cover : A.length ≤ L.length + (zc z).length + nz.cell.length + D.length + ((z 0).pend.length + (z 1).pend.length + (z 2).pend.length) := by
  have := nodup_le (m := L ++ zc z ++ nz.cell ++ D ++ ((z 0).pend ++ (z 1).pend ++ (z 2).pend)) I.An fun y hy => by
    rcases I.cov y hy with h | ⟨q, hq, h⟩
    · refine List.mem_append_left _ (List.count_pos_iff.1 ?_)
      unfold tot at h
      simp only [List.count_append]
      exact h
    · refine List.mem_append_right _ ?_
      rcases q3 hq with rfl | rfl | rfl <;> simp [h]
  simp only [List.length_append] at this
  omega
theorem under : L.length + (zc z).length + nz.cell.length + D.length ≤ A.length := by
  have := nodup_le (l := L ++ zc z ++ nz.cell ++ D) (m := A) (List.nodup_iff_count.2 fun y => by simp only [List.count_append]; exact I.nd y) fun y hy => I.sub y (by
    have := List.count_pos_iff.2 hy
    simp only [List.count_append] at this
    exact this)
  simp only [List.length_append] at this
  omega
omit I in
theorem claimed_le (x : PW) : x.cell.length + x.pend.length ≤ on x := by cases x <;> simp [PW.cell, PW.pend, on]
theorem potN {nx : NW} {ys D' : List Int} (h : NStep xs D nz nx ys D') {T : Int} (hT : T < 75) (ha : PA xs z nz T 3) (hb : PB xs z nz D A T) : PA ys z nx (T + 1) 0 ∧ PB ys z nx D' A (T + 1) := by
  have key : (∀ r, r < 3 → 4 * cost ys (z r) + beta nx ≤ 4 * cost xs (z r) + beta nz + 3) → PA ys z nx (T + 1) 0 := fun h r hr hne => by
    have h1 := ha r hr hne
    rw [if_neg (by omega)] at h1
    rw [if_pos (Nat.zero_le _)]
    have := h r hr
    omega
  have less : P1 ys z nx D' A + 1 ≤ P1 xs z nz D A → PB ys z nx D' A (T + 1) := fun h => by
    rcases hb with hb | ⟨h1, h2⟩
    · exact .inl (by omega)
    · exact .inr ⟨h1, by omega⟩
  generalize hz : nz = p at h
  cases h with
  | none h0 =>
    subst hz
    refine ⟨key fun r _ => by omega, ?_⟩
    have hL : L = [] := by
      rcases I.hd with ⟨h1, _⟩ | ⟨a, l, rfl, h1, _⟩
      · exact h1
      · have := rng (I.cells_of (I.inL (y := a) (List.mem_cons_self ..)))
        rw [h1] at h0; omega
    have hc := cover I
    rw [hL] at hc
    have c0 := claimed_le (z 0); have c1 := claimed_le (z 1); have c2 := claimed_le (z 2)
    have hz' : (zc z).length = (z 0).cell.length + (z 1).cell.length + (z 2).cell.length := by simp only [zc, List.length_append]
    have hn : pn z = on (z 0) + on (z 1) + on (z 2) := rfl
    have h3 := pn_le z
    simp only [NW.cell, List.length_nil] at hc
    have hP : P1 xs z .rdy D A ≤ 7 * pn z := by unfold P1; simp only [nxc, NW.cell, List.length_nil]; omega
    by_cases h4 : 0 < pn z
    · exact .inr ⟨h4, by omega⟩
    · exact .inl (by omega)
  | load h0 =>
    subst hz
    refine ⟨key fun r _ => by simp only [beta]; omega, less ?_⟩
    unfold P1
    simp only [nxc, NW.cell, List.length_nil, if_pos]
    omega
  | @link w =>
    subst hz
    refine ⟨key fun r _ => by simp only [beta]; omega, less ?_⟩
    unfold P1
    simp only [nxc, NW.cell, List.length_nil]
    split <;> omega
  | @take w l hw =>
    subst hz
    refine ⟨key fun r hr => by have := cost_head (v := mNext w l) (I.ok r hr); simp only [beta]; omega, less ?_⟩
    unfold P1
    simp only [nxc, NW.cell, List.length_nil, List.length_cons]
    rw [if_pos hw.symm]
    omega
  | @fail w l hw =>
    subst hz
    refine ⟨key fun r _ => by simp only [beta]; omega, less ?_⟩
    unfold P1
    simp only [nxc, NW.cell, List.length_nil]
    rw [if_neg (Ne.symm hw)]
    omega
  | @tell w =>
    subst hz
    have hc := (I.tell rfl).1
    refine ⟨key fun r hr => by have := cost_obj I.len hc (v := 145) (by decide) (I.ok r hr); simp only [beta]; omega, less ?_⟩
    unfold P1
    simp only [nxc, NW.cell, List.length_nil, List.length_cons]
    omega
/-- Behind all rounds: what was asked for was told. -/
theorem finish (ha : PA xs z nz 75 0) (hb : PB xs z nz D A 75) : ∀ y, y ∈ A ↔ y ∈ D := by
  have hp : pn z = 0 := Nat.eq_zero_of_not_pos fun h => by
    have hex : ∃ q, q < 3 ∧ z q ≠ .idle := Classical.byContradiction fun hn => by
      have h0 : ∀ q, q < 3 → z q = .idle := fun q hq => Classical.byContradiction fun hne => hn ⟨q, hq, hne⟩
      unfold pn at h
      rw [h0 0 (by decide), h0 1 (by decide), h0 2 (by decide)] at h
      exact absurd h (by decide)
    obtain ⟨q, hq, hne⟩ := hex
    have h1 := ha q hq hne
    rw [if_pos (Nat.zero_le _)] at h1
    have h2 := cost_pos (xs := xs) hne
    have h3 : 0 ≤ beta nz := by cases nz <;> simp only [beta] <;> omega
    omega
  have hz : ∀ q, q < 3 → z q = .idle := fun q hq => pn_zero hp hq
  have hb1 : P1 xs z nz D A ≤ 0 := by
    rcases hb with hb | hb
    · omega
    · omega
  have hu := under I
  have hzc : zc z = [] := by unfold zc; rw [hz 0 (by decide), hz 1 (by decide), hz 2 (by decide)]; rfl
  have hn : nz = .rdy ∧ L = [] := by
    unfold P1 at hb1
    rw [hp] at hb1
    have ho := I.okn
    cases nz with
    | rdy =>
      refine ⟨rfl, ?_⟩
      simp only [nxc, NW.cell, List.length_nil] at hb1 hu
      cases L with
      | nil => rfl
      | cons a l => simp only [List.length_cons] at hu; omega
    | lnk w =>
      have := List.length_pos_of_mem (show mAt w ∈ L from ho)
      simp only [nxc, NW.cell, List.length_nil] at hb1 hu
      split at hb1 <;> omega
    | clm w l =>
      have := List.length_pos_of_mem (show mAt w ∈ L from ho.1)
      simp only [nxc, NW.cell, List.length_nil] at hb1 hu
      split at hb1 <;> omega
    | lay w =>
      simp only [nxc, NW.cell, List.length_cons, List.length_nil] at hb1 hu
      omega
  obtain ⟨rfl, rfl⟩ := hn
  intro y
  constructor
  · intro hy
    rcases I.cov y hy with h | ⟨q, hq, h⟩
    · unfold tot at h
      rw [hzc] at h
      simp only [NW.cell, List.count_nil] at h
      exact List.count_pos_iff.1 (by omega)
    · rw [hz q hq] at h; cases h
  · intro hy
    have := List.count_pos_iff.2 hy
    exact I.sub y (by unfold tot; omega)
end
end Go.Proofs.Ytlkanbgcghjhnaa.GreyOnceP
