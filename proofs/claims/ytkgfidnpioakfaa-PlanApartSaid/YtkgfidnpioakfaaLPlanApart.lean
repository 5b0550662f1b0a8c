/-
  PlanApart: all words of a plan are unlike: the table of what was seen.
-/
import Derived.Test.YtkgfidnpioakfaaRows
import Derived.Test.YtkgfidnpioakfaaTPlanApart
namespace Go.Proofs.Ytkgfidnpioakfaa.PlanApart
open Go Go.RowKit Go.Proofs.Ytkgfidnpioakfaa.Eng
set_option linter.unusedVariables false
set_option linter.unusedSimpArgs false
set_option linter.unusedSectionVars false
set_option maxRecDepth 20000
theorem codeOK (c : Code) : CodeOK unitS Try.prog c (ev c) :=
  evCode_sound progOK (fun f args hp nid r h _ => evF_sound progOK (lookT_ok tab5t_ok) 100 19 f args hp nid r h) 100 c
theorem hb : Try.f17.body = some body := by kernel_rfl
noncomputable abbrev c1 : Code := .seq (at' [false, false]) (.block 0 (.loop (at' [false, true, false, false])))
noncomputable abbrev c2 : Code := .seq (at' [true, false, false]) (.block 2 (.loop (at' [true, false, true, false, false])))
noncomputable abbrev c5 : Code := .seq (codeAt body (L4 ++ [true, false, false, false])) (.block 8 (.loop (codeAt body L5)))
noncomputable abbrev c4b : Code := .seq (codeAt body (L4 ++ [false])) (.seq (.block 7 c5) (codeAt body (L4 ++ [true, true])))
noncomputable abbrev c4 : Code := .seq (codeAt body (L3 ++ [true, false, false, false])) (.block 6 (.loop c4b))
noncomputable abbrev c3b : Code := .seq (codeAt body (L3 ++ [false])) (.seq (.block 5 c4) (codeAt body (L3 ++ [true, true])))
noncomputable abbrev c3 : Code := .seq (at' [true, true, false, false]) (.block 4 (.loop c3b))
noncomputable abbrev c6 : Code := .seq (at' [true, true, true, false, false]) (.block 10 (.loop (at' [true, true, true, false, true, false, false])))
theorem restE : (Eng.spine 7 body).2 = .seq c1 (.seq c2 (.seq c3 (.seq c6 (at' [true, true, true, true])))) := by kernel_rfl
theorem rest4 : (Eng.spine 4 body).2 = .seq (codeAt body [true, true, true, true, false]) (.seq (codeAt body [true, true, true, true, true, false]) (.seq (codeAt body [true, true, true, true, true, true, false]) (.seq c1 (.seq c2 (.seq c3 (.seq c6 (at' [true, true, true, true]))))))) := by kernel_rfl
theorem wkV_refl (x : VV) : wkV x x := by cases x <;> first | exact ⟨rfl, rfl⟩ | exact ⟨rfl, rfl, rfl, rfl⟩ | rfl
theorem wkVs_refl : ∀ l : List VV, wkVs l l
  | [] => trivial
  | x :: l => ⟨wkV_refl x, wkVs_refl l⟩
theorem wk1_refl : ∀ x : S1, wk1 x x
  | .one x => wkV_refl x
  | .agg l => wkVs_refl l
theorem wk1s_refl : ∀ l : List S1, wk1s l l
  | [] => trivial
  | x :: l => ⟨wk1_refl x, wk1s_refl l⟩
theorem wkS_refl : ∀ x : SV, wkS x x
  | .s x => wk1_refl x
  | .t l => wk1s_refl l
/-- What was seen. -/
def Seen (h u v : Int) (xs : List (List Int)) : Prop := ∀ k : Nat, k < xs.length → xs[k]? = some [if (k : Int) < u ∨ (h ≤ (k : Int) ∧ (k : Int) < v) then 1 else 0]
theorem seen_at {h u v : Int} {xs : List (List Int)} (hs : Seen h u v xs) {k : Nat} (hk : k < xs.length) : tabAt xs k 0 = if (k : Int) < u ∨ (h ≤ (k : Int) ∧ (k : Int) < v) then 1 else 0 := by
  have e : xs.getD k [] = [if (k : Int) < u ∨ (h ≤ (k : Int) ∧ (k : Int) < v) then 1 else 0] := by
    rw [List.getD_eq_getElem?_getD, hs k hk]
    rfl
  unfold tabAt
  rw [e]
  rfl
theorem set_len {xs : List (List Int)} (a : Nat) (r : List Int) : (xs.set a r).length = xs.length := List.length_set
theorem seen_set {h u v u' v' a : Int} {xs : List (List Int)} (hs : Seen h u v xs) (ha : 0 ≤ a) (hl : a.toNat < xs.length)
    (hu : ∀ k : Int, 0 ≤ k → ((k < u' ∨ (h ≤ k ∧ k < v')) ↔ (k = a ∨ (k < u ∨ (h ≤ k ∧ k < v))))) :
    Seen h u' v' (xs.set (0 + a.toNat) (splice (xs.getD (0 + a.toNat) []) 0 [1])) := by
  intro k hk
  rw [List.length_set] at hk
  rw [Nat.zero_add, List.getElem?_set]
  have hg : xs.getD a.toNat [] = [if (a.toNat : Int) < u ∨ (h ≤ (a.toNat : Int) ∧ (a.toNat : Int) < v) then 1 else 0] := by
    rw [List.getD_eq_getElem?_getD, hs _ hl]
    rfl
  have := hu k (by omega)
  by_cases e : a.toNat = k
  · subst e
    rw [if_pos rfl, if_pos hl, hg, if_pos (this.2 (.inl (by omega)))]
    rfl
  · rw [if_neg e, hs k hk]
    have h2 : ((k : Int) < u' ∨ (h ≤ (k : Int) ∧ (k : Int) < v')) ↔ ((k : Int) < u ∨ (h ≤ (k : Int) ∧ (k : Int) < v)) := by
      rw [this]
      constructor
      · rintro (h1 | h1)
        · omega
        · exact h1
      · exact .inr
    simp only [h2]
section
variable (a0 a1 a2 e t b u h s c : Int) (L : Nat) (E : Ctx Unit) (hT : E.top = 2) (hD : ∀ b, E.D b)
noncomputable abbrev S (y1 y2 y3 y4 y5 y6 y7 y8 : SV) (xs : List (List Int)) (js : Nat → SV) : St Unit := ⟨pre a0 a1 a2 e c L [y1, y2, y3, y4, y5, y6, y7, y8] ++ junk js 146 20, hp1 t b u h s xs, 2, []⟩
/-- A state whose table is so. -/
def Q (p : List (List Int) → Prop) (st : St Unit) : Prop := ∃ y1 y2 y3 y4 y5 y6 y7 y8 xs js, st = S a0 a1 a2 e t b u h s c L y1 y2 y3 y4 y5 y6 y7 y8 xs js ∧ p xs
abbrev In (v1 v2 : Int) (xs : List (List Int)) : Prop := xs.length = L ∧ Seen h v1 v2 xs
include hT hD
theorem loop1 (ht0 : 0 ≤ t) (hh : 10 ≤ h) (hL : h ≤ L) {y1 y2 y3 y4 y5 y6 y7 y8 : SV} {xs : List (List Int)} {js : Nat → SV} (hi : In h L 0 h xs) :
    Tri unitS Try.prog E c1 (S a0 a1 a2 e t b u h s c L y1 y2 y3 y4 y5 y6 y7 y8 xs js) fun x st => x = .normal ∧ Q a0 a1 a2 e t b u h s c L (In h L 10 h) st := by
  have hd : ∀ (l : List Nat), ∀ b, b ∈ l → E.D b := fun l b _ => hD b
  have ht : ∀ {k : Nat}, Nat.ble k 2 = true → k ≤ E.top := fun h => by rw [hT]; exact Nat.le_of_ble_eq_true h
  refine Tri.seq (R := fun x st => x = .normal ∧ ∃ js, st = S a0 a1 a2 e t b u h s c L (.v (.int .i64 (.lit 0))) y2 y3 y4 y5 y6 y7 y8 xs js) (Tri.allR (m := 20) (n := 146) (codeOK _) (i1 a0 a1 a2 e t b u h s c L xs y1 y2 y3 y4 y5 y6 y7 y8 js ht0) (Tr.all_ok ⟨rfl, ht rfl, hd _, fun js => ⟨rfl, js, rfl⟩⟩)) ?_ (fun x st hx hh => absurd hh.1 hx)
  rintro st ⟨_, js, rfl⟩
  refine Tri.preWk (pre' := pre a0 a1 a2 e c L [.v (ii 0), y2, y3, y4, y5, y6, y7, y8]) (hp' := hp1 t b u h s xs) (by (repeat' apply And.intro) <;> first | rfl | trivial | exact wkS_refl _) (by (repeat' apply And.intro) <;> first | rfl | trivial | exact wkS_refl _) ?_
  refine Tri.block (R := fun x st => x = .exit 0 ∧ Q a0 a1 a2 e t b u h s c L (In h L 10 h) st) ?_ (fun st hh => by
    rcases hh with hh | hh
    · cases hh.1
    · exact ⟨rfl, hh.2⟩) (fun x st _ hx hh => absurd hh.1 hx)
  refine Tri.loop (J := fun q st => ∃ (i : Int) (xs : List (List Int)) (js : Nat → SV), st = S a0 a1 a2 e t b u h s c L (.v (ii i)) y2 y3 y4 y5 y6 y7 y8 xs js ∧ In h L i h xs ∧ 0 ≤ i ∧ i ≤ 10 ∧ q = (10 - i).toNat) ?_ (k := (10 - 0 : Int).toNat) ⟨0, xs, js, rfl, hi, by omega, by omega, rfl⟩
  rintro q st ⟨i, xs, js, rfl, hI, hi0, hi1, hq⟩
  have e4 : W (i + 1) = i + 1 := wrap_i64_of (by omega) (by omega)
  refine Tri.allR (m := 20) (n := 146) (codeOK _) (r1 a0 a1 a2 e t b u h s c i L xs y2 y3 y4 y5 y6 y7 y8 js hi0 (fun _ => by omega) hI.1.symm) (Tr.all_ite (fun hc => Tr.all_ok ⟨rfl, ht rfl, hd _, fun js => ?_⟩) fun hc => Tr.all_ok ⟨rfl, ht rfl, hd _, fun js => ⟨rfl, _, _, _, _, _, _, _, _, xs, js, rfl, ?_⟩⟩)
  · have hc := of_decide_eq_true hc
    exact ⟨(10 - (i + 1)).toNat, by omega, W (i + 1), _, js, rfl, ⟨(set_len _ _).trans hI.1, seen_set hI.2 hi0 (by rw [hI.1]; omega) (fun k hk => by rw [e4]; omega)⟩, by omega, by omega, by omega⟩
  · have hc := of_decide_eq_false hc
    have : i = 10 := by omega
    subst this
    exact hI
theorem loop2 (ht0 : 0 ≤ t) (ht1 : t ≤ 64) (hb0 : 0 ≤ b) (hb1 : b ≤ 64) (hu : u = 10 + t) (hh : 10 + t + b ≤ h) (hh2 : h ≤ 100000) (hL : h < L) {y1 y2 y3 y4 y5 y6 y7 y8 : SV} {xs : List (List Int)} {js : Nat → SV} (hi : In h L 10 h xs) :
    Tri unitS Try.prog E c2 (S a0 a1 a2 e t b u h s c L y1 y2 y3 y4 y5 y6 y7 y8 xs js) fun x st => x = .normal ∧ Q a0 a1 a2 e t b u h s c L (In h L (10 + t + b) h) st := by
  have hd : ∀ (l : List Nat), ∀ b, b ∈ l → E.D b := fun l b _ => hD b
  have ht : ∀ {k : Nat}, Nat.ble k 2 = true → k ≤ E.top := fun h => by rw [hT]; exact Nat.le_of_ble_eq_true h
  refine Tri.seq (R := fun x st => x = .normal ∧ ∃ js, st = S a0 a1 a2 e t b u h s c L y1 (.v (.int .i64 (.lit 0))) y3 y4 y5 y6 y7 y8 xs js) (Tri.allR (m := 20) (n := 146) (codeOK _) (i2 a0 a1 a2 e t b u h s c L xs y1 y2 y3 y4 y5 y6 y7 y8 js ht0) (Tr.all_ok ⟨rfl, ht rfl, hd _, fun js => ⟨rfl, js, rfl⟩⟩)) ?_ (fun x st hx hh => absurd hh.1 hx)
  rintro st ⟨_, js, rfl⟩
  refine Tri.preWk (pre' := pre a0 a1 a2 e c L [y1, .v (ii 0), y3, y4, y5, y6, y7, y8]) (hp' := hp1 t b u h s xs) (by (repeat' apply And.intro) <;> first | rfl | trivial | exact wkS_refl _) (by (repeat' apply And.intro) <;> first | rfl | trivial | exact wkS_refl _) ?_
  refine Tri.block (R := fun x st => x = .exit 2 ∧ Q a0 a1 a2 e t b u h s c L (In h L (10 + t + b) h) st) ?_ (fun st hh => by
    rcases hh with hh | hh
    · cases hh.1
    · exact ⟨rfl, hh.2⟩) (fun x st _ hx hh => absurd hh.1 hx)
  refine Tri.loop (J := fun q st => ∃ (i : Int) (y3 : SV) (xs : List (List Int)) (js : Nat → SV), st = S a0 a1 a2 e t b u h s c L y1 (.v (ii i)) y3 y4 y5 y6 y7 y8 xs js ∧ In h L (10 + i) h xs ∧ 0 ≤ i ∧ i ≤ t + b ∧ q = (t + b - i).toNat) ?_ (k := (t + b - 0 : Int).toNat) ⟨0, y3, xs, js, rfl, hi, by omega, by omega, rfl⟩
  rintro q st ⟨i, y3, xs, js, rfl, hI, hi0, hi1, hq⟩
  have e4 : W (i + 1) = i + 1 := wrap_i64_of (by omega) (by omega)
  have e5 : W (10 + i) = 10 + i := wrap_i64_of (by omega) (by omega)
  have e6 : W (t + b) = t + b := wrap_i64_of (by omega) (by omega)
  have e7 : i ≥ t → W (u + IntKind.i64.wrap (i - t)) = 10 + i := fun hit => by
    have e8 : IntKind.i64.wrap (i - t) = i - t := wrap_i64_of (by omega) (by omega)
    rw [e8]
    have e9 : W (u + (i - t)) = u + (i - t) := wrap_i64_of (by omega) (by omega)
    rw [e9]
    omega
  have hz : (tabAt xs (0 + Int.toNat (10 + i)) 0 != 0) = false := by
    rw [Nat.zero_add, seen_at hI.2 (by rw [hI.1]; omega), if_neg (by omega)]
    rfl
  refine Tri.allR (m := 20) (n := 146) (codeOK _) (r2 a0 a1 a2 e t b u h s c i L xs y1 y3 y4 y5 y6 y7 y8 js hi0 e6 e5 e7 (fun _ => by omega) (by omega) hI.1.symm (by rw [e5]; exact hz) (fun hit => by rw [e7 hit]; exact hz)) (Tr.all_ite (fun hc => Tr.all_ite (fun hit => Tr.all_ite (fun hc2 => ?_) fun _ => Tr.all_ok ⟨rfl, ht rfl, hd _, fun js => ?_⟩) fun _ => Tr.all_ok ⟨rfl, ht rfl, hd _, fun js => ?_⟩) fun hc => Tr.all_ok ⟨rfl, ht rfl, hd _, fun js => ⟨rfl, _, _, _, _, _, _, _, _, xs, js, rfl, ?_⟩⟩)
  · have hit := of_decide_eq_true hit
    have e7 := e7 hit
    rw [show W (u + W (i - t)) = 10 + i from e7] at hc2
    rw [hz] at hc2
    cases hc2
  · have hc := of_decide_eq_true hc
    have hit := of_decide_eq_true hit
    have e7 : W (u + W (i - t)) = 10 + i := e7 hit
    rw [e6] at hc
    exact ⟨(t + b - (i + 1)).toNat, by omega, W (i + 1), _, _, js, rfl, ⟨(set_len _ _).trans hI.1, seen_set hI.2 (by rw [e7]; omega) (by rw [hI.1, e7]; omega) (fun k hk => by rw [e4, e7]; omega)⟩, by omega, by omega, by omega⟩
  · have hc := of_decide_eq_true hc
    rw [e6] at hc
    exact ⟨(t + b - (i + 1)).toNat, by omega, W (i + 1), _, _, js, rfl, ⟨(set_len _ _).trans hI.1, seen_set hI.2 (by rw [e5]; omega) (by rw [hI.1, e5]; omega) (fun k hk => by rw [e4, e5]; omega)⟩, by omega, by omega, by omega⟩
  · have hc := of_decide_eq_false hc
    rw [e6] at hc
    have : 10 + t + b = 10 + i := by omega
    rw [this]
    exact hI
theorem loop5 (ht0 : 0 ≤ t) (u0 i k : Int) (hb : 0 ≤ b ∧ b ≤ 64) (hh : 0 ≤ h ∧ h ≤ 100000) (hs : s = h + 32 * b) (hL : s = L) (hu0 : u0 ≤ h) (hi : 0 ≤ i ∧ i < b) (hk : 0 ≤ k * mWords c ∧ k * mWords c + mWords c ≤ 32) (hm : 1 ≤ mWords c) {y1 y2 y3 y4 y5 y6 y7 y8 : SV} {xs : List (List Int)} {js : Nat → SV} (hI : In h L u0 (h + 32 * i + k * mWords c) xs) :
    Tri unitS Try.prog E c5 (S a0 a1 a2 e t b u h s c L y1 y2 y3 (.v (ii i)) (.v (ii k)) y6 y7 y8 xs js) fun x st => x = .normal ∧ ∃ (y1 y2 y3 y6 y7 y8 : SV) (xs : List (List Int)) (js : Nat → SV), st = S a0 a1 a2 e t b u h s c L y1 y2 y3 (.v (ii i)) (.v (ii k)) y6 y7 y8 xs js ∧ In h L u0 (h + 32 * i + k * mWords c + mWords c) xs := by
  have hd : ∀ (l : List Nat), ∀ b, b ∈ l → E.D b := fun l b _ => hD b
  have ht : ∀ {k : Nat}, Nat.ble k 2 = true → k ≤ E.top := fun h => by rw [hT]; exact Nat.le_of_ble_eq_true h
  refine Tri.seq (R := fun x st => x = .normal ∧ ∃ js, st = S a0 a1 a2 e t b u h s c L y1 y2 y3 (.v (ii i)) (.v (ii k)) (.v (.int .i64 (.lit 0))) y7 y8 xs js) (Tri.allR (m := 20) (n := 146) (codeOK _) (i5 a0 a1 a2 e t b u h s c i k L xs y1 y2 y3 y6 y7 y8 js ht0) (Tr.all_ok ⟨rfl, ht rfl, hd _, fun js => ⟨rfl, js, rfl⟩⟩)) ?_ (fun x st hx hh => absurd hh.1 hx)
  rintro st ⟨_, js, rfl⟩
  refine Tri.preWk (pre' := pre a0 a1 a2 e c L [y1, y2, y3, .v (ii i), .v (ii k), .v (ii 0), y7, y8]) (hp' := hp1 t b u h s xs) (by (repeat' apply And.intro) <;> first | rfl | trivial | exact wkS_refl _) (by (repeat' apply And.intro) <;> first | rfl | trivial | exact wkS_refl _) ?_
  refine Tri.block (R := fun x st => x = .exit 8 ∧ ∃ (y1 y2 y3 y6 y7 y8 : SV) (xs : List (List Int)) (js : Nat → SV), st = S a0 a1 a2 e t b u h s c L y1 y2 y3 (.v (ii i)) (.v (ii k)) y6 y7 y8 xs js ∧ In h L u0 (h + 32 * i + k * mWords c + mWords c) xs) ?_ (fun st hh => by
    rcases hh with hh | hh
    · cases hh.1
    · exact ⟨rfl, hh.2⟩) (fun x st _ hx hh => absurd hh.1 hx)
  have hpl : planLike b h s = true := planLike_iff.2 ⟨hb.1, hb.2, hh.1, hh.2, hs⟩
  generalize hM : mWords c = M at *
  generalize hP : k * M = P at *
  refine Tri.loop (J := fun q st => ∃ (w : Int) (y7 : SV) (xs : List (List Int)) (js : Nat → SV), st = S a0 a1 a2 e t b u h s c L y1 y2 y3 (.v (ii i)) (.v (ii k)) (.v (ii w)) y7 y8 xs js ∧ In h L u0 (h + 32 * i + P + w) xs ∧ 0 ≤ w ∧ w ≤ M ∧ q = (M - w).toNat) ?_ (k := (M - 0 : Int).toNat) ⟨0, y7, xs, js, rfl, by rw [Int.add_zero]; exact hI, by omega, by omega, rfl⟩
  rintro q st ⟨w, y7, xs, js, rfl, hI, hw0, hw1, hq⟩
  have e4 : W (w + 1) = w + 1 := wrap_i64_of (by omega) (by omega)
  have f1 : W (32 * i) = 32 * i := wrap_i64_of (by omega) (by omega)
  have f2 : W (h + 32 * i) = h + 32 * i := wrap_i64_of (by omega) (by omega)
  have f3 : W P = P := wrap_i64_of (by omega) (by omega)
  have f4 : W (h + 32 * i + P) = h + 32 * i + P := wrap_i64_of (by omega) (by omega)
  have f5 : W (h + 32 * i + P + w) = h + 32 * i + P + w := wrap_i64_of (by omega) (by omega)
  have ad : W (W (W (h + W (32 * i)) + W (k * mWords c)) + w) = h + 32 * i + P + w := by rw [hM, hP, f1, f2, f3, f4, f5]
  have hz : (tabAt xs (0 + Int.toNat (h + 32 * i + P + w)) 0 != 0) = false ∨ ¬ w < M := by
    by_cases hc : w < M
    · refine .inl ?_
      rw [Nat.zero_add, seen_at hI.2 (by rw [hI.1]; omega), if_neg (by omega)]
      rfl
    · exact .inr hc
  have hbk : w < M → RB.mBlk h s (h + 32 * i + P + w) = i := fun hc => by
    unfold RB.mBlk
    rw [if_neg (by omega)]
    omega
  refine Tri.allR (m := 20) (n := 146) (codeOK _) (r5 a0 a1 a2 e t b u h s c i k w L xs y1 y2 y3 y7 y8 js (fun hc => ?_) (fun hc => ?_) hL hh.1 hpl hI.1.symm) (Tr.all_ite (fun hc => Tr.all_ite (fun hc2 => ?_) fun _ => Tr.all_ite (fun hc2 => ?_) fun _ => Tr.all_ok ⟨rfl, ht rfl, hd _, fun js => ?_⟩) fun hc => Tr.all_ok ⟨rfl, ht rfl, hd _, fun js => ⟨rfl, _, _, _, _, _, _, xs, js, rfl, ?_⟩⟩)
  · rw [hM] at hc
    have : h ≤ W (W (W (h + W (32 * i)) + W (k * mWords c)) + w) := by rw [ad]; omega
    exact this
  · rw [hM] at hc
    have : W (W (W (h + W (32 * i)) + W (k * mWords c)) + w) < s := by rw [ad]; omega
    exact this
  · rw [ad] at hc2
    have hc := of_decide_eq_true hc
    rw [hM] at hc
    rcases hz with hz | hz
    · rw [hz] at hc2
      cases hc2
    · exact absurd hc hz
  · rw [ad] at hc2
    have hc := of_decide_eq_true hc
    rw [hM] at hc
    rw [hbk hc] at hc2
    simp at hc2
  · have hc := of_decide_eq_true hc
    rw [hM] at hc
    exact ⟨(M - (w + 1)).toNat, by omega, W (w + 1), _, _, js, rfl, ⟨(set_len _ _).trans hI.1, seen_set hI.2 (by rw [ad]; omega) (by rw [hI.1, ad]; omega) (fun k hk => by rw [e4, ad]; omega)⟩, by omega, by omega, by omega⟩
  · have hc := of_decide_eq_false hc
    rw [hM] at hc
    have : h + 32 * i + P + M = h + 32 * i + P + w := by omega
    rw [this]
    exact hI
theorem loop4 (ht0 : 0 ≤ t) (u0 i : Int) (hb : 0 ≤ b ∧ b ≤ 64) (hh : 0 ≤ h ∧ h ≤ 100000) (hs : s = h + 32 * b) (hL : s = L) (hu0 : u0 ≤ h) (hi : 0 ≤ i ∧ i < b) (hc : 0 ≤ c ∧ c ≤ 2) {y1 y2 y3 y4 y5 y6 y7 y8 : SV} {xs : List (List Int)} {js : Nat → SV} (hI : In h L u0 (h + 32 * i) xs) :
    Tri unitS Try.prog E c4 (S a0 a1 a2 e t b u h s c L y1 y2 y3 (.v (ii i)) y5 y6 y7 y8 xs js) fun x st => x = .normal ∧ ∃ (y1 y2 y3 y5 y6 y7 y8 : SV) (xs : List (List Int)) (js : Nat → SV), st = S a0 a1 a2 e t b u h s c L y1 y2 y3 (.v (ii i)) y5 y6 y7 y8 xs js ∧ In h L u0 (h + 32 * i + 32) xs := by
  have hd : ∀ (l : List Nat), ∀ b, b ∈ l → E.D b := fun l b _ => hD b
  have ht : ∀ {k : Nat}, Nat.ble k 2 = true → k ≤ E.top := fun h => by rw [hT]; exact Nat.le_of_ble_eq_true h
  refine Tri.seq (R := fun x st => x = .normal ∧ ∃ js, st = S a0 a1 a2 e t b u h s c L y1 y2 y3 (.v (ii i)) (.v (.int .i64 (.lit 0))) y6 y7 y8 xs js) (Tri.allR (m := 20) (n := 146) (codeOK _) (i4 a0 a1 a2 e t b u h s c i L xs y1 y2 y3 y5 y6 y7 y8 js ht0) (Tr.all_ok ⟨rfl, ht rfl, hd _, fun js => ⟨rfl, js, rfl⟩⟩)) ?_ (fun x st hx hh => absurd hh.1 hx)
  rintro st ⟨_, js, rfl⟩
  refine Tri.preWk (pre' := pre a0 a1 a2 e c L [y1, y2, y3, .v (ii i), .v (ii 0), y6, y7, y8]) (hp' := hp1 t b u h s xs) (by (repeat' apply And.intro) <;> first | rfl | trivial | exact wkS_refl _) (by (repeat' apply And.intro) <;> first | rfl | trivial | exact wkS_refl _) ?_
  refine Tri.block (R := fun x st => x = .exit 6 ∧ ∃ (y1 y2 y3 y5 y6 y7 y8 : SV) (xs : List (List Int)) (js : Nat → SV), st = S a0 a1 a2 e t b u h s c L y1 y2 y3 (.v (ii i)) y5 y6 y7 y8 xs js ∧ In h L u0 (h + 32 * i + 32) xs) ?_ (fun st hh => by
    rcases hh with hh | hh
    · cases hh.1
    · exact ⟨rfl, hh.2⟩) (fun x st _ hx hh => absurd hh.1 hx)
  have hmm : 1 ≤ mWords c ∧ ∀ k, 0 ≤ k → k ≤ mCells c → 0 ≤ k * mWords c ∧ (k < mCells c → k * mWords c + mWords c ≤ 32) ∧ (k = mCells c → k * mWords c = 32) := by
    obtain rfl | rfl | rfl : c = 0 ∨ c = 1 ∨ c = 2 := by omega
    · exact ⟨by decide, fun k h0 h1 => by have e1 : mWords 0 = 4 := rfl; have e2 : mCells 0 = 8 := rfl; rw [e1]; rw [e2] at h1 ⊢; omega⟩
    · exact ⟨by decide, fun k h0 h1 => by have e1 : mWords 1 = 8 := rfl; have e2 : mCells 1 = 4 := rfl; rw [e1]; rw [e2] at h1 ⊢; omega⟩
    · exact ⟨by decide, fun k h0 h1 => by have e1 : mWords 2 = 16 := rfl; have e2 : mCells 2 = 2 := rfl; rw [e1]; rw [e2] at h1 ⊢; omega⟩
  have hcl : 0 ≤ mCells c ∧ mCells c ≤ 8 := by
    obtain rfl | rfl | rfl : c = 0 ∨ c = 1 ∨ c = 2 := by omega
    all_goals decide
  refine Tri.loop (J := fun q st => ∃ (k : Int) (y6 y7 y1 y2 y3 y8 : SV) (xs : List (List Int)) (js : Nat → SV), st = S a0 a1 a2 e t b u h s c L y1 y2 y3 (.v (ii i)) (.v (ii k)) y6 y7 y8 xs js ∧ In h L u0 (h + 32 * i + k * mWords c) xs ∧ 0 ≤ k ∧ k ≤ mCells c ∧ q = (mCells c - k).toNat) ?_ (k := (mCells c - 0 : Int).toNat) ⟨0, _, _, _, _, _, _, xs, js, rfl, by rw [Int.zero_mul, Int.add_zero]; exact hI, by omega, by omega, rfl⟩
  rintro q st ⟨k, y6, y7, y1, y2, y3, y8, xs, js, rfl, hI, hk0, hk1, hq⟩
  have e4 : W (k + 1) = k + 1 := wrap_i64_of (by omega) (by omega)
  obtain ⟨m1, m2, m3⟩ := hmm.2 k hk0 hk1
  refine Tri.seq (R := fun x st => ∃ js, st = S a0 a1 a2 e t b u h s c L y1 y2 y3 (.v (ii i)) (.v (ii k)) y6 y7 y8 xs js ∧ ((x = .normal ∧ k < mCells c) ∨ (x = .exit 6 ∧ ¬ k < mCells c))) ?_ ?_ ?_
  · exact Tri.allR (m := 20) (n := 146) (codeOK _) (g4 a0 a1 a2 e t b u h s c i k L xs y1 y2 y3 y6 y7 y8 js ht0) (Tr.all_ite (fun hc => Tr.all_ok ⟨rfl, ht rfl, hd _, fun js => ⟨js, rfl, .inl ⟨rfl, of_decide_eq_true hc⟩⟩⟩) fun hc => Tr.all_ok ⟨rfl, ht rfl, hd _, fun js => ⟨js, rfl, .inr ⟨rfl, of_decide_eq_false hc⟩⟩⟩)
  · rintro st ⟨js, rfl, h1 | h1⟩
    rotate_left
    · cases h1.1
    refine Tri.seq (R := fun x st => x = .normal ∧ ∃ (y1 y2 y3 y6 y7 y8 : SV) (xs : List (List Int)) (js : Nat → SV), st = S a0 a1 a2 e t b u h s c L y1 y2 y3 (.v (ii i)) (.v (ii k)) y6 y7 y8 xs js ∧ In h L u0 (h + 32 * i + k * mWords c + mWords c) xs) ?_ ?_ (fun x st hx hh => absurd hh.1 hx)
    · exact Tri.block (loop5 a0 a1 a2 e t b u h s c L E hT hD (y4 := .undef) (y5 := .undef) ht0 u0 i k hb hh hs hL hu0 hi ⟨m1, m2 h1.2⟩ hmm.1 hI) (fun st hh => by
        rcases hh with hh | hh
        · exact hh
        · cases hh.1) (fun x st hx _ hh => absurd hh.1 hx)
    · rintro st ⟨_, y1, y2, y3, y6, y7, y8, xs, js, rfl, hI⟩
      refine Tri.allR (m := 20) (n := 146) (codeOK _) (n4 a0 a1 a2 e t b u h s c i k L xs y1 y2 y3 y6 y7 y8 js ht0) (Tr.all_ok ⟨rfl, ht rfl, hd _, fun js => ⟨(mCells c - (k + 1)).toNat, by omega, W (k + 1), _, _, _, _, _, _, xs, js, rfl, ?_, by omega, by omega, by omega⟩⟩)
      rw [e4, Int.add_mul, Int.one_mul, ← Int.add_assoc]
      exact hI
  · rintro x st hx ⟨js, rfl, h1 | h1⟩
    · exact absurd h1.1 hx
    · obtain ⟨rfl, h1⟩ := h1
      have := m3 (by omega)
      rw [this] at hI
      exact ⟨rfl, _, _, _, _, _, _, _, xs, js, rfl, hI⟩
theorem loop3 (ht0 : 0 ≤ t) (u0 : Int) (hb : 0 ≤ b ∧ b ≤ 64) (hh : 0 ≤ h ∧ h ≤ 100000) (hs : s = h + 32 * b) (hL : s = L) (hu0 : u0 ≤ h) (hc : 0 ≤ c ∧ c ≤ 2) {y1 y2 y3 y4 y5 y6 y7 y8 : SV} {xs : List (List Int)} {js : Nat → SV} (hI : In h L u0 h xs) :
    Tri unitS Try.prog E c3 (S a0 a1 a2 e t b u h s c L y1 y2 y3 y4 y5 y6 y7 y8 xs js) fun x st => x = .normal ∧ Q a0 a1 a2 e t b u h s c L (In h L u0 s) st := by
  have hd : ∀ (l : List Nat), ∀ b, b ∈ l → E.D b := fun l b _ => hD b
  have ht : ∀ {k : Nat}, Nat.ble k 2 = true → k ≤ E.top := fun h => by rw [hT]; exact Nat.le_of_ble_eq_true h
  refine Tri.seq (R := fun x st => x = .normal ∧ ∃ js, st = S a0 a1 a2 e t b u h s c L y1 y2 y3 (.v (.int .i64 (.lit 0))) y5 y6 y7 y8 xs js) (Tri.allR (m := 20) (n := 146) (codeOK _) (i3 a0 a1 a2 e t b u h s c L xs y1 y2 y3 y4 y5 y6 y7 y8 js ht0) (Tr.all_ok ⟨rfl, ht rfl, hd _, fun js => ⟨rfl, js, rfl⟩⟩)) ?_ (fun x st hx hh => absurd hh.1 hx)
  rintro st ⟨_, js, rfl⟩
  refine Tri.preWk (pre' := pre a0 a1 a2 e c L [y1, y2, y3, .v (ii 0), y5, y6, y7, y8]) (hp' := hp1 t b u h s xs) (by (repeat' apply And.intro) <;> first | rfl | trivial | exact wkS_refl _) (by (repeat' apply And.intro) <;> first | rfl | trivial | exact wkS_refl _) ?_
  refine Tri.block (R := fun x st => x = .exit 4 ∧ Q a0 a1 a2 e t b u h s c L (In h L u0 s) st) ?_ (fun st hh => by
    rcases hh with hh | hh
    · cases hh.1
    · exact ⟨rfl, hh.2⟩) (fun x st _ hx hh => absurd hh.1 hx)
  refine Tri.loop (J := fun q st => ∃ (i : Int) (y5 y6 y7 y1 y2 y3 y8 : SV) (xs : List (List Int)) (js : Nat → SV), st = S a0 a1 a2 e t b u h s c L y1 y2 y3 (.v (ii i)) y5 y6 y7 y8 xs js ∧ In h L u0 (h + 32 * i) xs ∧ 0 ≤ i ∧ i ≤ b ∧ q = (b - i).toNat) ?_ (k := (b - 0 : Int).toNat) ⟨0, _, _, _, _, _, _, _, xs, js, rfl, by rw [Int.mul_zero, Int.add_zero]; exact hI, by omega, by omega, rfl⟩
  rintro q st ⟨i, y5, y6, y7, y1, y2, y3, y8, xs, js, rfl, hI, hi0, hi1, hq⟩
  have e4 : W (i + 1) = i + 1 := wrap_i64_of (by omega) (by omega)
  refine Tri.seq (R := fun x st => ∃ js, st = S a0 a1 a2 e t b u h s c L y1 y2 y3 (.v (ii i)) y5 y6 y7 y8 xs js ∧ ((x = .normal ∧ i < b) ∨ (x = .exit 4 ∧ ¬ i < b))) ?_ ?_ ?_
  · exact Tri.allR (m := 20) (n := 146) (codeOK _) (g3 a0 a1 a2 e t b u h s c i L xs y1 y2 y3 y5 y6 y7 y8 js ht0) (Tr.all_ite (fun hc => Tr.all_ok ⟨rfl, ht rfl, hd _, fun js => ⟨js, rfl, .inl ⟨rfl, of_decide_eq_true hc⟩⟩⟩) fun hc => Tr.all_ok ⟨rfl, ht rfl, hd _, fun js => ⟨js, rfl, .inr ⟨rfl, of_decide_eq_false hc⟩⟩⟩)
  · rintro st ⟨js, rfl, h1 | h1⟩
    rotate_left
    · cases h1.1
    refine Tri.seq (R := fun x st => x = .normal ∧ ∃ (y1 y2 y3 y5 y6 y7 y8 : SV) (xs : List (List Int)) (js : Nat → SV), st = S a0 a1 a2 e t b u h s c L y1 y2 y3 (.v (ii i)) y5 y6 y7 y8 xs js ∧ In h L u0 (h + 32 * i + 32) xs) ?_ ?_ (fun x st hx hh => absurd hh.1 hx)
    · exact Tri.block (loop4 a0 a1 a2 e t b u h s c L E hT hD (y4 := .undef) ht0 u0 i hb hh hs hL hu0 ⟨hi0, h1.2⟩ hc hI) (fun st hh => by
        rcases hh with hh | hh
        · exact hh
        · cases hh.1) (fun x st hx _ hh => absurd hh.1 hx)
    · rintro st ⟨_, y1, y2, y3, y5, y6, y7, y8, xs, js, rfl, hI⟩
      refine Tri.allR (m := 20) (n := 146) (codeOK _) (n3 a0 a1 a2 e t b u h s c i L xs y1 y2 y3 y5 y6 y7 y8 js ht0) (Tr.all_ok ⟨rfl, ht rfl, hd _, fun js => ⟨(b - (i + 1)).toNat, by omega, W (i + 1), _, _, _, _, _, _, _, xs, js, rfl, ?_, by omega, by omega, by omega⟩⟩)
      have : h + 32 * W (i + 1) = h + 32 * i + 32 := by rw [e4]; omega
      rw [this]
      exact hI
  · rintro x st hx ⟨js, rfl, h1 | h1⟩
    · exact absurd h1.1 hx
    · obtain ⟨rfl, h1⟩ := h1
      have : s = h + 32 * i := by omega
      refine ⟨rfl, _, _, _, _, _, _, _, _, xs, js, rfl, hI.1, ?_⟩
      rw [this]
      exact hI.2
theorem loop6 (ht0 : 0 ≤ t) (u0 : Int) (hh : 0 ≤ h ∧ h ≤ s) (hs : s ≤ 100000) (hL : s = L) {y1 y2 y3 y4 y5 y6 y7 y8 : SV} {xs : List (List Int)} {js : Nat → SV} (hI : In h L u0 s xs) :
    Tri unitS Try.prog E c6 (S a0 a1 a2 e t b u h s c L y1 y2 y3 y4 y5 y6 y7 y8 xs js) fun x st => x = .normal ∧ Q a0 a1 a2 e t b u h s c L (In h L u0 s) st := by
  have hd : ∀ (l : List Nat), ∀ b, b ∈ l → E.D b := fun l b _ => hD b
  have ht : ∀ {k : Nat}, Nat.ble k 2 = true → k ≤ E.top := fun h => by rw [hT]; exact Nat.le_of_ble_eq_true h
  refine Tri.seq (R := fun x st => x = .normal ∧ ∃ js, st = S a0 a1 a2 e t b u h s c L y1 y2 y3 y4 y5 y6 y7 (.v (ii h)) xs js) (Tri.allR (m := 20) (n := 146) (codeOK _) (i6 a0 a1 a2 e t b u h s c L xs y1 y2 y3 y4 y5 y6 y7 y8 js ht0) (Tr.all_ok ⟨rfl, ht rfl, hd _, fun js => ⟨rfl, js, rfl⟩⟩)) ?_ (fun x st hx hh => absurd hh.1 hx)
  rintro st ⟨_, js, rfl⟩
  refine Tri.block (R := fun x st => x = .exit 10 ∧ Q a0 a1 a2 e t b u h s c L (In h L u0 s) st) ?_ (fun st hh => by
    rcases hh with hh | hh
    · cases hh.1
    · exact ⟨rfl, hh.2⟩) (fun x st _ hx hh => absurd hh.1 hx)
  refine Tri.loop (J := fun q st => ∃ (i : Int) (js : Nat → SV), st = S a0 a1 a2 e t b u h s c L y1 y2 y3 y4 y5 y6 y7 (.v (ii i)) xs js ∧ h ≤ i ∧ i ≤ s ∧ q = (s - i).toNat) ?_ (k := (s - h : Int).toNat) ⟨h, js, rfl, by omega, by omega, rfl⟩
  rintro q st ⟨i, js, rfl, hi0, hi1, hq⟩
  have e4 : W (i + 1) = i + 1 := wrap_i64_of (by omega) (by omega)
  have hz : i < s → (!tabAt xs (0 + i.toNat) 0 != 0) = false := fun hc => by
    rw [Nat.zero_add, seen_at hI.2 (by rw [hI.1]; omega), if_pos (by omega)]
    rfl
  refine Tri.allR (m := 20) (n := 146) (codeOK _) (r6 a0 a1 a2 e t b u h s c i L xs y1 y2 y3 y4 y5 y6 y7 js (by omega) hI.1.symm hL hz) (Tr.all_ite (fun hc => Tr.all_ite (fun hc2 => ?_) fun _ => Tr.all_ok ⟨rfl, ht rfl, hd _, fun js => ?_⟩) fun hc => Tr.all_ok ⟨rfl, ht rfl, hd _, fun js => ⟨rfl, _, _, _, _, _, _, _, _, xs, js, rfl, hI⟩⟩)
  · rw [hz (of_decide_eq_true hc)] at hc2
    cases hc2
  · have hc := of_decide_eq_true hc
    exact ⟨(s - (i + 1)).toNat, by omega, W (i + 1), js, rfl, by omega, by omega, by omega⟩
end
abbrev Fin : VX → St Unit → Prop := fun x st => (x = .normal ∨ x = .ret) ∧ ∃ l, (vresults Try.prog st Try.f17.results.toList).run = some l ∧ IsTrue (tupleOf l)
theorem res (a0 a1 a2 e t b u h s c : Int) (L : Nat) (y1 y2 y3 y4 y5 y6 y7 y8 : SV) (xs : List (List Int)) (js : Nat → SV) : vresults Try.prog (⟨[.v (ii a0), .v (ii a1), .v (ii a2), .undef, .undef, .undef, .v (.bool (.lit true)), .v (.bool (.lit true)), .v (.ptr 0 0), .v (ii e), .v (ii c), .v (.ts 1 (.lit 0) (.sym L) none), y1, y2, y3, y4, y5, y6, y7, y8] ++ junk js 146 20, hp1 t b u h s xs, 2, []⟩ : St Unit) Try.f17.results.toList = .ok [.one (.bool (.lit true))] := by kernel_rfl
theorem behind (a0 a1 a2 e t b u h s c : Int) (E : Ctx Unit) (hT : E.top = 2) (hD : ∀ b, E.D b) (ht0 : 1 ≤ t) (ht1 : t ≤ 64) (hb0 : 1 ≤ b) (hb1 : b ≤ 64) (hu : u = 10 + t) (hh : 10 + t + b ≤ h) (hh2 : h ≤ 5000) (hs : s = h + 32 * b) (hc : 0 ≤ c ∧ c ≤ 2) (js : Nat → SV) :
    Tri unitS Try.prog E (.seq (codeAt body [true, true, true, true, true, true, false]) (.seq c1 (.seq c2 (.seq c3 (.seq c6 (at' [true, true, true, true]))))))
      ⟨[.v (ii a0), .v (ii a1), .v (ii a2), .undef, .undef, .undef, .v (.bool (.lit false)), .v (.bool (.lit true)), .v (.ptr 0 0), .v (ii e), .v (ii c), .undef] ++ U8 ++ junk js 146 20, hp0 t b u h s, 1, []⟩ Fin := by
  have hd : ∀ (l : List Nat), ∀ b, b ∈ l → E.D b := fun l b _ => hD b
  have ht : ∀ {k : Nat}, Nat.ble k 2 = true → k ≤ E.top := fun h => by rw [hT]; exact Nat.le_of_ble_eq_true h
  have hn : s = s.toNat := by omega
  refine Tri.seq (R := fun x st => x = .normal ∧ Q a0 a1 a2 e t b u h s c s.toNat (In h s.toNat 0 h) st) (Tri.allR (m := 20) (n := 146) (codeOK _) (mk a0 a1 a2 e t b u h s c js (by omega) (by omega)) (Tr.all_ok ⟨rfl, ht rfl, hd _, fun js => ⟨rfl, _, _, _, _, _, _, _, _, _, js, rfl, List.length_replicate, ?_⟩⟩)) ?_ (fun x st hx hh => absurd hh.1 hx)
  · intro k hk
    rw [List.length_replicate] at hk
    rw [List.getElem?_replicate, if_pos hk, if_neg (by omega)]
  rintro st ⟨_, y1, y2, y3, y4, y5, y6, y7, y8, xs, js, rfl, hI⟩
  refine Tri.seq (loop1 a0 a1 a2 e t b u h s c s.toNat E hT hD (by omega) (by omega) (by omega) hI) ?_ (fun x st hx hh => absurd hh.1 hx)
  rintro st ⟨_, y1, y2, y3, y4, y5, y6, y7, y8, xs, js, rfl, hI⟩
  refine Tri.seq (loop2 a0 a1 a2 e t b u h s c s.toNat E hT hD (by omega) (by omega) (by omega) (by omega) hu hh (by omega) (by omega) hI) ?_ (fun x st hx hh => absurd hh.1 hx)
  rintro st ⟨_, y1, y2, y3, y4, y5, y6, y7, y8, xs, js, rfl, hI⟩
  refine Tri.seq (loop3 a0 a1 a2 e t b u h s c s.toNat E hT hD (by omega) (10 + t + b) ⟨by omega, hb1⟩ ⟨by omega, by omega⟩ hs hn hh hc hI) ?_ (fun x st hx hh => absurd hh.1 hx)
  rintro st ⟨_, y1, y2, y3, y4, y5, y6, y7, y8, xs, js, rfl, hI⟩
  refine Tri.seq (loop6 a0 a1 a2 e t b u h s c s.toNat E hT hD (by omega) (10 + t + b) ⟨by omega, by omega⟩ (by omega) hn hI) ?_ (fun x st hx hh => absurd hh.1 hx)
  rintro st ⟨_, y1, y2, y3, y4, y5, y6, y7, y8, xs, js, rfl, hI⟩
  exact Tri.allR (m := 20) (n := 146) (codeOK _) (fin a0 a1 a2 e t b u h s c s.toNat xs y1 y2 y3 y4 y5 y6 y7 y8 js (by omega)) (Tr.all_ok ⟨rfl, ht rfl, hd _, fun js => ⟨.inr rfl, _, (congrArg Tr.run (res a0 a1 a2 e t b u h s c s.toNat y1 y2 y3 y4 y5 y6 y7 y8 xs js)).trans rfl, rfl⟩⟩)
theorem eA (x : Int) : A x = 1 + x % 64 := by
  have e : iand .i64 x 63 = x % 64 := by
    rw [show (63 : Int) = 2 ^ 6 - 1 from rfl, iand_mask_i64 _ 6 (by decide)]
    rfl
  unfold A W
  rw [e]
  exact wrap_i64_of (by omega) (by omega)
theorem runs (w : World) (a0 a1 a2 : Int) : Tri unitS Try.prog (lawCtx Unit 2 w) body ⟨[.v (ii a0), .v (ii a1), .v (ii a2)] ++ List.replicate (nt - 3) .undef, [], 0, []⟩ Fin := by
  have ea := eA a0
  have eb := eA a1
  have hA : 1 ≤ A a0 ∧ A a0 ≤ 64 ∧ 1 ≤ A a1 ∧ A a1 ≤ 64 := by
    rw [ea, eb]
    omega
  obtain ⟨f1, f2, f3, f4, f5, f6⟩ := plan_fits hA
  have hd : ∀ (l : List Nat), ∀ b, b ∈ l → (lawCtx Unit 2 w).D b := fun l b _ => trivial
  have ht : ∀ {k : Nat}, Nat.ble k 2 = true → k ≤ (lawCtx Unit 2 w).top := fun h => Nat.le_of_ble_eq_true h
  refine Tri.listR (m := 20) (n := 146) (l := (Eng.spine 4 body).1) codeOK 4 rfl rest4 (start a0 a1 a2 (by rw [f6]; rfl)) (Tr.all_ite (fun hh => ?_) fun _ => Tr.all_ite (fun hh => ?_) fun _ => Tr.all_ok ⟨rfl, rfl, ht rfl, hd _, fun js => ?_⟩)
  · exfalso
    have hh : mPSize (A a0) (A a1) > 4096 := of_decide_eq_true hh
    rw [f5] at hh
    omega
  · exfalso
    have hh : mPSize (A a0) (A a1) < 1 := of_decide_eq_true hh
    rw [f5] at hh
    omega
  have g1 : 1 ≤ mPTh (A a0) (A a1) ∧ mPTh (A a0) (A a1) ≤ 64 := by rw [f1]; omega
  have g2 : 1 ≤ mPBl (A a0) (A a1) ∧ mPBl (A a0) (A a1) ≤ 64 := by rw [f2]; omega
  have g3 : mPTab (A a0) (A a1) = 10 + mPTh (A a0) (A a1) := by rw [f3, f1]
  have g4 : 10 + mPTh (A a0) (A a1) + mPBl (A a0) (A a1) ≤ mPHeap (A a0) (A a1) ∧ mPHeap (A a0) (A a1) ≤ 5000 := by rw [f1, f2, f4]; omega
  have g5 : mPSize (A a0) (A a1) = mPHeap (A a0) (A a1) + 32 * mPBl (A a0) (A a1) := by rw [f5, f4, f2]
  have r := Int.tmod_lt_of_pos a2 (b := 3) (by decide)
  refine Tri.listR (m := 20) (n := 146) (l := [codeAt body [true, true, true, true, false], codeAt body [true, true, true, true, true, false]]) codeOK 2 rfl rfl (cls a0 a1 a2 _ _ _ _ _ _ js (Int.le_trans (by decide) g1.1)) (Tr.all_ite (fun hh => Tr.all_ok ⟨rfl, rfl, ht rfl, hd _, fun js => ?_⟩) fun hh => Tr.all_ok ⟨rfl, rfl, ht rfl, hd _, fun js => ?_⟩)
  · have hh := of_decide_eq_true hh
    have r2 := Int.tmod_lt_of_pos (-a2) (b := 3) (by decide)
    rw [Int.neg_tmod] at r2
    have e : W (0 - Int.tmod a2 3) = 0 - Int.tmod a2 3 := wrap_i64_of (by omega) (by omega)
    exact behind a0 a1 a2 _ _ _ _ _ _ (W (0 - Int.tmod a2 3)) _ rfl (fun _ => trivial) g1.1 g1.2 g2.1 g2.2 g3 g4.1 g4.2 g5 (by omega) js
  · have hh := of_decide_eq_false hh
    exact behind a0 a1 a2 _ _ _ _ _ _ (Int.tmod a2 3) _ rfl (fun _ => trivial) g1.1 g1.2 g2.1 g2.2 g3 g4.1 g4.2 g5 (by omega) js
abbrev ts : List TypeId := [3, 3, 3]
abbrev kss : List (List CK) := [[.int .i64], [.int .i64], [.int .i64]]
theorem hts : Try.f17.params.toList = ts := by kernel_rfl
theorem args (a0 a1 a2 : Int) : mkArgs Try.prog ts kss [[a0], [a1], [a2]] = [.v (ii a0), .v (ii a1), .v (ii a2)] := by kernel_rfl
theorem shapes : shapesK Try.prog ts kss := ⟨by kernel_rfl, by kernel_rfl, by kernel_rfl, trivial⟩
theorem core (w : World) (vals : List Value) (ha : F2 (ArgOK Try.prog w) ts vals) :
    Calls Try.prog 17 vals.toArray w fun e W' => ∃ v, e = .returned v ∧ v = .bool true ∧ Below w.heap.size w W' := by
  obtain ⟨nss, hf, hr⟩ := args_plain shapes ha
  match nss, hf, hr with
  | [[a0], [a1], [a2]], hf, hr =>
    rw [args] at hr
    refine (calls_of_tri (R := IsTrue) Try.func17 hb 2 (runs w a0 a1 a2) hr).mono ?_
    rintro e w' ⟨v, x, ρ, rfl, hv, hR, hbel⟩
    exact ⟨v, rfl, hR.value hv, hbel⟩
theorem own : ownKnob Try.prog.godebug = none := by kernel_rfl
theorem lifted {H : Type} (os : Os) (started : os.Started) (enc : TypeId × Value → H) : ReturnsInHanded {} Try.checked os 17 .any (Rows.planApartSpec.pre6 enc Try.prog Try.f17 Rows.planApartRow.domain false) (Rows.planApartSpec.post enc Try.prog Try.f17 false true false false) :=
  law_lifted own started (by kernel_rfl) (by kernel_rfl)
    (ChangeSpec.witness6 (enc := enc) (C := Try.checked) false ⟨#[], #[.int .i64 0, .int .i64 0, .int .i64 0], []⟩ 8 (by kernel_rfl) (by kernel_rfl) (by kernel_rfl) (by kernel_rfl))
    (tb := 4) (by kernel_rfl) (by kernel_rfl) rfl
    (fun ds hd => by
      match ds, hd with
      | [_, _, _], _ => exact ⟨rfl, rfl, rfl⟩)
    (by kernel_rfl) (by kernel_rfl) (fun W vals ha => core W vals (hts ▸ ha))
theorem proved : Rows.PlanApartSaid :=
  OpenClaim.holds_of_wide 17 Try.f17 rfl rfl rfl rfl rfl rfl rfl ⟨rfl, rfl, rfl, rfl, rfl⟩ rfl rfl rfl rfl rfl (by kernel_rfl) Try.func17 (by kernel_rfl) (of_decide_eq_true (by kernel_rfl))
    (by unfold Func.isWrapper; first | (rw [if_pos (by decide +kernel)]; kernel_rfl) | (rw [if_neg (by decide +kernel)]; exact ⟨rfl, rfl⟩))
    (fun os started H enc _ => lifted os started enc)
end Go.Proofs.Ytkgfidnpioakfaa.PlanApart
