/-
  CarveOnce: a taker's round, whatever it is at: what is kept holds again, and it comes nearer to the end.
-/
import Derived.Test.YtmegnipdeanghaaLCarveOnce2
namespace Go.Proofs.Ytmegnipdeanghaa.CarveOnce
open Go Go.RowKit Go.Proofs.Ytmegnipdeanghaa.Eng
set_option linter.unusedVariables false
set_option linter.unusedSimpArgs false
set_option linter.unusedSectionVars false
set_option maxRecDepth 20000
theorem W_of {x : Int} (h : -100000 ≤ x) (h2 : x ≤ 100000) : W x = x := by simp only [W, wrap64]; omega
theorem head_none {xs : List Int} {B d : Int} (h : Mem xs B d) (hB : 1 ≤ B ∧ B ≤ 8) (hm : decide (W (mAt (List.getD xs 2 0) - 1) < 0) = true) : d = B := by
  have hd := h.dd
  have := of_decide_eq_true hm
  rw [h.head, hw_at hB hd] at this
  split at this
  · rw [W_of (by omega) (by omega)] at this; omega
  · omega
theorem head_some {xs : List Int} {B d : Int} (h : Mem xs B d) (hB : 1 ≤ B ∧ B ≤ 8) (hm : decide (W (mAt (List.getD xs 2 0) - 1) < 0) = false) : W (mAt (List.getD xs 2 0) - 1) = d ∧ d < B := by
  have hd := h.dd
  have := of_decide_eq_false hm
  rw [h.head, hw_at hB hd] at this ⊢
  split at this
  · rename_i hlt
    rw [if_pos hlt, W_of (by omega) (by omega)]
    exact ⟨by omega, hlt⟩
  · exact absurd (by rw [W_of (by omega) (by omega)]; omega) this
theorem hn_le (t : TK) : 0 ≤ hn t ∧ hn t ≤ 1 := by unfold hn; split <;> omega
/-- The state, its parts as functions. -/
noncomputable abbrev SF (n : Int) (np : Nat) (f i : Int) (ps rows : List (List Int)) (B p4 : Int) (N : Nat) (xs : List Int) (c : Int) (T : Int → Int) (s : Nat → TK) (z : Nat → Bool) (js : Nat → SV) : St MObj :=
  S n np f i ps rows B p4 N xs c (T 0) (T 1) (T 2) (T 3) (T 4) (T 5) (T 6) (T 7) (s 0) (s 1) (s 2) (z 0) (z 1) (z 2) js
def Post (n : Int) (np : Nat) (i : Int) (ps rows : List (List Int)) (B p4 : Int) (N : Nat) (c d : Int) (s : Nat → TK) (z : Nat → Bool) (k : Nat) : VX → St MObj → Prop := fun x st =>
  (x = .exit 1 ∨ x = .normal) ∧ ∃ d' f' xs' T' s' z', Inv B d' f' xs' T' s' z' ∧ Rel B k d s z d' s' z' ∧ ∃ c' js, c ≤ c' ∧ c' ≤ c + 1 ∧ st = SF n np f' i ps rows B p4 N xs' c' T' s' z' js
section
variable {n f i B p4 c d : Int} {np N : Nat} {ps rows : List (List Int)} {xs : List Int} {T : Int → Int} {s : Nat → TK} {z : Nat → Bool} (E : Ctx MObj) (hE : E.nid0 = 1) (hT : E.top = 30) (hD : ∀ b, 1 ≤ b → E.D b)
  (hp4 : p4 = 32 + 32 * B) (hB : 1 ≤ B ∧ B ≤ 8) (hc : 0 ≤ c ∧ c ≤ 90000) (h : Inv B d f xs T s z)
include hE hT hD hp4 hB hc h
theorem round0 (js : Nat → SV) : Tri MS Try.prog E stc
    ⟨pre n np f i ++ [.v (.int .i64 (.lit 0))] ++ junk js 109 16, base ps rows B p4 N xs c (T 0) (T 1) (T 2) (T 3) (T 4) (T 5) (T 6) (T 7) (vT 0 (s 0)) (vT 1 (s 1)) (vT 2 (s 2)) (z 0) (z 1) (z 2) ++ six B p4 (s 0) (s 1) (s 2), 14, []⟩ (Post n np i ps rows B p4 N c d s z 0) := by
  have hd : ∀ (l : List Nat), l.all (Nat.ble 1) = true → ∀ b, b ∈ l → E.D b := fun l hl b hb => hD b (Nat.le_of_ble_eq_true (List.all_eq_true.1 hl b hb))
  have ht : ∀ {k : Nat}, Nat.ble k 30 = true → k ≤ E.top := fun h => by rw [hT]; exact Nat.le_of_ble_eq_true h
  have hx := h.mem.len
  have hdd := h.mem.dd
  have hc5 : 0 ≤ c ∧ c ≤ 100000 := ⟨hc.1, by omega⟩
  have hf1 : W (f + 1) = f + 1 := W_of (by have := h.found; have := hn_le (s 0); have := hn_le (s 1); have := hn_le (s 2); omega) (by have := h.found; have := hn_le (s 0); have := hn_le (s 1); have := hn_le (s 2); omega)
  have hok := h.ok 0 (by decide)
  rcases (show z 0 = true ∨ z 0 = false by cases z 0; exact .inr rfl; exact .inl rfl) with hz | hz
  · skip
    refine Tri.seq (R := fun x st => x = .exit 1 ∧ ∃ js, st = ⟨pre n np f i ++ [.v (.int .i64 (.lit 0))] ++ junk js 109 16, base ps rows B p4 N xs c (T 0) (T 1) (T 2) (T 3) (T 4) (T 5) (T 6) (T 7) (vT 0 (s 0)) (vT 1 (s 1)) (vT 2 (s 2)) (z 0) (z 1) (z 2) ++ six B p4 (s 0) (s 1) (s 2), 14, []⟩) ?_ (fun s hh => by cases hh.1) (fun x st hn hh => ?_)
    · exact Tri.allR (m := 16) (n := 109) (codeOK _) (nn0 n f i B p4 c (T 0) (T 1) (T 2) (T 3) (T 4) (T 5) (T 6) (T 7) np N ps rows xs (vT 0 (s 0)) (vT 1 (s 1)) (vT 2 (s 2)) (z 0) (z 1) (z 2) (oT B p4 0 (s 0)) (oP 0 (s 0)) (oT B p4 1 (s 1)) (oP 1 (s 1)) (oT B p4 2 (s 2)) (oP 2 (s 2)) js hx hp4 hB hc5 hz) (Tr.all_ok ⟨rfl, ht rfl, hd _ rfl, fun js => ⟨rfl, js, rfl⟩⟩)
    · obtain ⟨rfl, js, rfl⟩ := hh
      exact ⟨.inl rfl, _, _, _, _, _, _, h, h.skip hz, c, fun t => if t = 15 then .v (.int .i64 (.lit 0)) else js t, by omega, by omega, rfl⟩
  · cases hs : s 0 with
    | nil =>
      cases hm : decide (W (mAt (List.getD xs 2 0) - 1) < 0) with
      | true =>
        refine (nilN0 E hE hT hD hx hp4 hB hc5 hc.2 hz hm (s 1) (s 2) js).mono ?_
        rintro x st ⟨rfl, js, rfl⟩
        have g := h.over (k := 0) (by decide) (head_none h.mem hB hm) (by rw [hs]; rfl)
        exact ⟨.inl rfl, _, _, _, _, _, _, g.1, g.2, c + 1, js, by omega, by omega, rfl⟩
      | false =>
        refine (nil0 E hE hT hD hx hp4 hB hc5 hc.2 hz hm (s 1) (s 2) js).mono ?_
        rintro x st ⟨rfl, js, rfl⟩
        obtain ⟨g1, g2⟩ := head_some h.mem hB hm
        have g := h.quiet (k := 0) (x := .look (xs.getD 2 0) (W (mAt (xs.getD 2 0) - 1)) 0 0) (by decide) hz ⟨by omega, by omega, by omega, by rw [g1]; exact h.mem.head⟩ (by rw [hs]; rfl) (by rw [hs]; simp only [TK.left]; rw [if_pos g1]; omega)
        exact ⟨.inl rfl, _, _, _, _, _, _, g.1, g.2, c + 1, js, by omega, by omega, rfl⟩
    | load w b e kk =>
      cases hm : decide (W (mAt (List.getD xs 2 0) - 1) < 0) with
      | true =>
        refine (loadN0 E hE hT hD hx hp4 hB hc5 hc.2 hz hm (s 1) (s 2) js).mono ?_
        rintro x st ⟨rfl, js, rfl⟩
        have g := h.over (k := 0) (by decide) (head_none h.mem hB hm) (by rw [hs]; rfl)
        exact ⟨.inl rfl, _, _, _, _, _, _, g.1, g.2, c + 1, js, by omega, by omega, rfl⟩
      | false =>
        refine (load0 E hE hT hD hx hp4 hB hc5 hc.2 hz hm (s 1) (s 2) js).mono ?_
        rintro x st ⟨rfl, js, rfl⟩
        obtain ⟨g1, g2⟩ := head_some h.mem hB hm
        have g := h.quiet (k := 0) (x := .look (xs.getD 2 0) (W (mAt (xs.getD 2 0) - 1)) e kk) (by decide) hz ⟨by omega, by omega, by omega, by rw [g1]; exact h.mem.head⟩ (by rw [hs]; rfl) (by rw [hs]; simp only [TK.left]; rw [if_pos g1]; omega)
        exact ⟨.inl rfl, _, _, _, _, _, _, g.1, g.2, c + 1, js, by omega, by omega, rfl⟩
    | look w b e kk =>
      rw [hs] at hok
      obtain ⟨o1, o2, o3, o4⟩ := hok
      refine (look0 E hE hT hD hx hp4 hB hc5 hc.2 hz (by rw [o4, hw_at hB ⟨o1, by omega⟩, if_pos o3]; omega) ⟨o1, o3⟩ (s 1) (s 2) js).mono ?_
      rintro x st ⟨rfl, js, rfl⟩
      have g := h.quiet (k := 0) (x := .swap w b (xs.getD (W (13 + b)).toNat 0) kk) (by decide) hz ⟨o1, o2, o3, o4, fun e => by rw [W_of (by omega) (by omega)]; subst e; exact h.mem.entry b (by omega) o3⟩ (by rw [hs]; rfl) (by rw [hs]; simp only [TK.left]; (try split) <;> omega)
      exact ⟨.inl rfl, _, _, _, _, _, _, g.1, g.2, c + 1, js, by omega, by omega, rfl⟩
    | swap w b e kk =>
      have hok' := hok
      rw [hs] at hok
      obtain ⟨o1, o2, o3, o4, o5⟩ := hok
      refine (swap0 E hE hT hD hx hp4 hB hc5 hc.2 hz ⟨o1, o3⟩ (s 1) (s 2) js).mono ?_
      rintro x st ⟨rfl, ⟨hq, js, rfl⟩ | ⟨hq, js, rfl⟩⟩
      · have g := h.take hB (k := 0) (by decide) hz hs hq
        exact ⟨.inl rfl, _, _, _, _, _, _, g.1, g.2, c + 1, js, by omega, by omega, rfl⟩
      · have hbd : ¬ b = d := fun e => hq (by rw [o4, e]; exact h.mem.head)
        have g := h.quiet (k := 0) (x := .load w b e kk) (by decide) hz trivial (by rw [hs]; rfl) (by rw [hs]; simp only [TK.left]; rw [if_neg hbd]; omega)
        exact ⟨.inl rfl, _, _, _, _, _, _, g.1, g.2, c + 1, js, by omega, by omega, rfl⟩
    | use w b e kk =>
      rw [hs] at hok
      obtain ⟨o1, o2⟩ := hok
      refine (use0 E hE hT hD hx hp4 hB hc5 hc.2 hz ⟨o1, by omega⟩ (s 1) (s 2) js).mono ?_
      rintro x st ⟨rfl, js, rfl⟩
      have ea : W (13 + b) = 13 + b := W_of (by omega) (by omega)
      have g := h.write hB (k := 0) (x := .link w b e 1) (a := (W (13 + b)).toNat) (by decide) hz (mBlock 1 0 0 0) (.inr (.inr (by rw [ea]; omega))) ⟨o1, o2, by decide, by decide⟩ (by rw [hs]; rfl) (by rw [hs]; simp only [TK.left]; (try split) <;> omega)
      exact ⟨.inl rfl, _, _, _, _, _, _, g.1, g.2, c + 1, js, by omega, by omega, rfl⟩
    | link w b e kk =>
      rw [hs] at hok
      obtain ⟨o1, o2, o3, o4⟩ := hok
      have o4 : kk ≤ 7 := o4
      have ea : W (W (32 + W (32 * b)) + W (kk * mWords 0)) = 32 + 32 * b + kk * 4 := by simp only [W, wrap64, w0]; omega
      have ek : W (kk + 1) = kk + 1 := W_of (by omega) (by omega)
      by_cases hk2 : kk < 7
      · refine (link0 E hE hT hD hx hp4 hB hc5 hc.2 hz ⟨o1, by omega⟩ ⟨o3, o4⟩ hk2 (s 1) (s 2) js).mono ?_
        rintro x st ⟨rfl, js, rfl⟩
        have g := h.write hB (k := 0) (x := .link w b e (W (kk + 1))) (a := (W (W (32 + W (32 * b)) + W (kk * mWords 0))).toNat) (by decide) hz (mWord 0 0 0 0 0 0 (W (W (32 + W (32 * b)) + W (W (kk + 1) * mWords 0)))) (.inr (.inl (by rw [ea]; omega))) ⟨o1, o2, by omega, by rw [ek]; show kk + 1 ≤ 7; omega⟩ (by rw [hs]; rfl) (by rw [hs]; simp only [TK.left]; rw [ek]; omega)
        exact ⟨.inl rfl, _, _, _, _, _, _, g.1, g.2, c + 1, js, by omega, by omega, rfl⟩
      · skip
        refine (linkE0 E hE hT hD hx hp4 hB hc5 hc.2 hz ⟨o1, by omega⟩ ⟨o3, o4⟩ hk2 (s 1) (s 2) js).mono ?_
        rintro x st ⟨rfl, js, rfl⟩
        have el : (W (W (32 + W (32 * b)) + W 28)) = 32 + 32 * b + 28 := by simp only [W, wrap64]; omega
        have g := h.write hB (k := 0) (x := .lay 0 w b e (W (kk + 1)) (W (W (32 + W (32 * b)) + W 4)) (W (W (32 + W (32 * b)) + W 28)) 0) (a := (W (W (32 + W (32 * b)) + W (kk * mWords 0))).toNat) (by decide) hz (mWord 0 0 0 0 0 0 0) (.inr (.inl (by rw [ea]; omega))) ⟨o1, o2, by omega, by omega, by decide, fun hh => absurd hh (by decide)⟩ (by rw [hs]; rfl) (by rw [hs]; simp only [TK.left]; (try split) <;> omega)
        exact ⟨.inl rfl, _, _, _, _, _, _, g.1, g.2, c + 1, js, by omega, by omega, rfl⟩
    | lay j w b e kk fi la pw =>
      rw [hs] at hok
      obtain ⟨o1, o2, o3, o4, o5, o6⟩ := hok
      rcases (show j = 0 ∨ j = 1 ∨ j = 2 by omega) with rfl | rfl | rfl
      · refine (layload0 E hE hT hD hx hp4 hB hc5 hc.2 hz ⟨o1, by omega⟩ ⟨o3, o4⟩ (s 1) (s 2) js).mono ?_
        rintro x st ⟨rfl, js, rfl⟩
        have g := h.quiet (k := 0) (x := .lay 1 w b e kk fi la (xs.getD 3 0)) (by decide) hz ⟨o1, o2, o3, o4, by decide, fun _ => rfl⟩ (by rw [hs]; rfl) (by rw [hs]; simp only [TK.left]; (try split) <;> omega)
        exact ⟨.inl rfl, _, _, _, _, _, _, g.1, g.2, c + 1, js, by omega, by omega, rfl⟩
      · refine (laylink0 E hE hT hD hx hp4 hB hc5 hc.2 hz ⟨o1, by omega⟩ ⟨o3, o4⟩ (s 1) (s 2) js).mono ?_
        rintro x st ⟨rfl, js, rfl⟩
        have g := h.write hB (k := 0) (x := .lay 2 w b e kk fi la pw) (a := la.toNat) (by decide) hz (mWord 0 0 0 0 0 0 (mAt pw)) (.inr (.inl (by omega))) ⟨o1, o2, o3, o4, by decide, fun _ => by rw [gne _ (by omega)]; exact o6 (by decide)⟩ (by rw [hs]; rfl) (by rw [hs]; simp only [TK.left]; (try split) <;> omega)
        exact ⟨.inl rfl, _, _, _, _, _, _, g.1, g.2, c + 1, js, by omega, by omega, rfl⟩
      · refine (layswap0 E hE hT hD hx hp4 hB hc5 (T := T) hc.2 hz ⟨o1, by omega⟩ ⟨o3, o4⟩ (o6 (by decide)) (h.free 0 (by decide) b (by rw [hs]; rfl)) (s 1) (s 2) js).mono ?_
        rintro x st ⟨rfl, js, rfl⟩
        have g := h.done hB (k := 0) (by decide) hz hs (mNext pw fi)
        exact ⟨.inr rfl, _, _, _, _, _, _, g.1, g.2, c + 1, js, by omega, by omega, by rw [hf1]; rfl⟩
theorem round1 (js : Nat → SV) : Tri MS Try.prog E stc
    ⟨pre n np f i ++ [.v (.int .i64 (.lit 1))] ++ junk js 109 16, base ps rows B p4 N xs c (T 0) (T 1) (T 2) (T 3) (T 4) (T 5) (T 6) (T 7) (vT 0 (s 0)) (vT 1 (s 1)) (vT 2 (s 2)) (z 0) (z 1) (z 2) ++ six B p4 (s 0) (s 1) (s 2), 14, []⟩ (Post n np i ps rows B p4 N c d s z 1) := by
  have hd : ∀ (l : List Nat), l.all (Nat.ble 1) = true → ∀ b, b ∈ l → E.D b := fun l hl b hb => hD b (Nat.le_of_ble_eq_true (List.all_eq_true.1 hl b hb))
  have ht : ∀ {k : Nat}, Nat.ble k 30 = true → k ≤ E.top := fun h => by rw [hT]; exact Nat.le_of_ble_eq_true h
  have hx := h.mem.len
  have hdd := h.mem.dd
  have hc5 : 0 ≤ c ∧ c ≤ 100000 := ⟨hc.1, by omega⟩
  have hf1 : W (f + 1) = f + 1 := W_of (by have := h.found; have := hn_le (s 0); have := hn_le (s 1); have := hn_le (s 2); omega) (by have := h.found; have := hn_le (s 0); have := hn_le (s 1); have := hn_le (s 2); omega)
  have hok := h.ok 1 (by decide)
  rcases (show z 1 = true ∨ z 1 = false by cases z 1; exact .inr rfl; exact .inl rfl) with hz | hz
  · skip
    refine Tri.seq (R := fun x st => x = .exit 1 ∧ ∃ js, st = ⟨pre n np f i ++ [.v (.int .i64 (.lit 1))] ++ junk js 109 16, base ps rows B p4 N xs c (T 0) (T 1) (T 2) (T 3) (T 4) (T 5) (T 6) (T 7) (vT 0 (s 0)) (vT 1 (s 1)) (vT 2 (s 2)) (z 0) (z 1) (z 2) ++ six B p4 (s 0) (s 1) (s 2), 14, []⟩) ?_ (fun s hh => by cases hh.1) (fun x st hn hh => ?_)
    · exact Tri.allR (m := 16) (n := 109) (codeOK _) (nn1 n f i B p4 c (T 0) (T 1) (T 2) (T 3) (T 4) (T 5) (T 6) (T 7) np N ps rows xs (vT 0 (s 0)) (vT 1 (s 1)) (vT 2 (s 2)) (z 0) (z 1) (z 2) (oT B p4 0 (s 0)) (oP 0 (s 0)) (oT B p4 1 (s 1)) (oP 1 (s 1)) (oT B p4 2 (s 2)) (oP 2 (s 2)) js hx hp4 hB hc5 hz) (Tr.all_ok ⟨rfl, ht rfl, hd _ rfl, fun js => ⟨rfl, js, rfl⟩⟩)
    · obtain ⟨rfl, js, rfl⟩ := hh
      exact ⟨.inl rfl, _, _, _, _, _, _, h, h.skip hz, c, fun t => if t = 15 then .v (.int .i64 (.lit 1)) else js t, by omega, by omega, rfl⟩
  · cases hs : s 1 with
    | nil =>
      cases hm : decide (W (mAt (List.getD xs 2 0) - 1) < 0) with
      | true =>
        refine (nilN1 E hE hT hD hx hp4 hB hc5 hc.2 hz hm (s 0) (s 2) js).mono ?_
        rintro x st ⟨rfl, js, rfl⟩
        have g := h.over (k := 1) (by decide) (head_none h.mem hB hm) (by rw [hs]; rfl)
        exact ⟨.inl rfl, _, _, _, _, _, _, g.1, g.2, c + 1, js, by omega, by omega, rfl⟩
      | false =>
        refine (nil1 E hE hT hD hx hp4 hB hc5 hc.2 hz hm (s 0) (s 2) js).mono ?_
        rintro x st ⟨rfl, js, rfl⟩
        obtain ⟨g1, g2⟩ := head_some h.mem hB hm
        have g := h.quiet (k := 1) (x := .look (xs.getD 2 0) (W (mAt (xs.getD 2 0) - 1)) 0 0) (by decide) hz ⟨by omega, by omega, by omega, by rw [g1]; exact h.mem.head⟩ (by rw [hs]; rfl) (by rw [hs]; simp only [TK.left]; rw [if_pos g1]; omega)
        exact ⟨.inl rfl, _, _, _, _, _, _, g.1, g.2, c + 1, js, by omega, by omega, rfl⟩
    | load w b e kk =>
      cases hm : decide (W (mAt (List.getD xs 2 0) - 1) < 0) with
      | true =>
        refine (loadN1 E hE hT hD hx hp4 hB hc5 hc.2 hz hm (s 0) (s 2) js).mono ?_
        rintro x st ⟨rfl, js, rfl⟩
        have g := h.over (k := 1) (by decide) (head_none h.mem hB hm) (by rw [hs]; rfl)
        exact ⟨.inl rfl, _, _, _, _, _, _, g.1, g.2, c + 1, js, by omega, by omega, rfl⟩
      | false =>
        refine (load1 E hE hT hD hx hp4 hB hc5 hc.2 hz hm (s 0) (s 2) js).mono ?_
        rintro x st ⟨rfl, js, rfl⟩
        obtain ⟨g1, g2⟩ := head_some h.mem hB hm
        have g := h.quiet (k := 1) (x := .look (xs.getD 2 0) (W (mAt (xs.getD 2 0) - 1)) e kk) (by decide) hz ⟨by omega, by omega, by omega, by rw [g1]; exact h.mem.head⟩ (by rw [hs]; rfl) (by rw [hs]; simp only [TK.left]; rw [if_pos g1]; omega)
        exact ⟨.inl rfl, _, _, _, _, _, _, g.1, g.2, c + 1, js, by omega, by omega, rfl⟩
    | look w b e kk =>
      rw [hs] at hok
      obtain ⟨o1, o2, o3, o4⟩ := hok
      refine (look1 E hE hT hD hx hp4 hB hc5 hc.2 hz (by rw [o4, hw_at hB ⟨o1, by omega⟩, if_pos o3]; omega) ⟨o1, o3⟩ (s 0) (s 2) js).mono ?_
      rintro x st ⟨rfl, js, rfl⟩
      have g := h.quiet (k := 1) (x := .swap w b (xs.getD (W (13 + b)).toNat 0) kk) (by decide) hz ⟨o1, o2, o3, o4, fun e => by rw [W_of (by omega) (by omega)]; subst e; exact h.mem.entry b (by omega) o3⟩ (by rw [hs]; rfl) (by rw [hs]; simp only [TK.left]; (try split) <;> omega)
      exact ⟨.inl rfl, _, _, _, _, _, _, g.1, g.2, c + 1, js, by omega, by omega, rfl⟩
    | swap w b e kk =>
      have hok' := hok
      rw [hs] at hok
      obtain ⟨o1, o2, o3, o4, o5⟩ := hok
      refine (swap1 E hE hT hD hx hp4 hB hc5 hc.2 hz ⟨o1, o3⟩ (s 0) (s 2) js).mono ?_
      rintro x st ⟨rfl, ⟨hq, js, rfl⟩ | ⟨hq, js, rfl⟩⟩
      · have g := h.take hB (k := 1) (by decide) hz hs hq
        exact ⟨.inl rfl, _, _, _, _, _, _, g.1, g.2, c + 1, js, by omega, by omega, rfl⟩
      · have hbd : ¬ b = d := fun e => hq (by rw [o4, e]; exact h.mem.head)
        have g := h.quiet (k := 1) (x := .load w b e kk) (by decide) hz trivial (by rw [hs]; rfl) (by rw [hs]; simp only [TK.left]; rw [if_neg hbd]; omega)
        exact ⟨.inl rfl, _, _, _, _, _, _, g.1, g.2, c + 1, js, by omega, by omega, rfl⟩
    | use w b e kk =>
      rw [hs] at hok
      obtain ⟨o1, o2⟩ := hok
      refine (use1 E hE hT hD hx hp4 hB hc5 hc.2 hz ⟨o1, by omega⟩ (s 0) (s 2) js).mono ?_
      rintro x st ⟨rfl, js, rfl⟩
      have ea : W (13 + b) = 13 + b := W_of (by omega) (by omega)
      have g := h.write hB (k := 1) (x := .link w b e 1) (a := (W (13 + b)).toNat) (by decide) hz (mBlock 1 1 0 0) (.inr (.inr (by rw [ea]; omega))) ⟨o1, o2, by decide, by decide⟩ (by rw [hs]; rfl) (by rw [hs]; simp only [TK.left]; (try split) <;> omega)
      exact ⟨.inl rfl, _, _, _, _, _, _, g.1, g.2, c + 1, js, by omega, by omega, rfl⟩
    | link w b e kk =>
      rw [hs] at hok
      obtain ⟨o1, o2, o3, o4⟩ := hok
      have o4 : kk ≤ 3 := o4
      have ea : W (W (32 + W (32 * b)) + W (kk * mWords 1)) = 32 + 32 * b + kk * 8 := by simp only [W, wrap64, w1]; omega
      have ek : W (kk + 1) = kk + 1 := W_of (by omega) (by omega)
      by_cases hk2 : kk < 3
      · refine (link1 E hE hT hD hx hp4 hB hc5 hc.2 hz ⟨o1, by omega⟩ ⟨o3, o4⟩ hk2 (s 0) (s 2) js).mono ?_
        rintro x st ⟨rfl, js, rfl⟩
        have g := h.write hB (k := 1) (x := .link w b e (W (kk + 1))) (a := (W (W (32 + W (32 * b)) + W (kk * mWords 1))).toNat) (by decide) hz (mWord 0 1 0 0 0 0 (W (W (32 + W (32 * b)) + W (W (kk + 1) * mWords 1)))) (.inr (.inl (by rw [ea]; omega))) ⟨o1, o2, by omega, by rw [ek]; show kk + 1 ≤ 3; omega⟩ (by rw [hs]; rfl) (by rw [hs]; simp only [TK.left]; rw [ek]; omega)
        exact ⟨.inl rfl, _, _, _, _, _, _, g.1, g.2, c + 1, js, by omega, by omega, rfl⟩
      · skip
        refine (linkE1 E hE hT hD hx hp4 hB hc5 hc.2 hz ⟨o1, by omega⟩ ⟨o3, o4⟩ hk2 (s 0) (s 2) js).mono ?_
        rintro x st ⟨rfl, js, rfl⟩
        have el : (W (W (32 + W (32 * b)) + W 24)) = 32 + 32 * b + 24 := by simp only [W, wrap64]; omega
        have g := h.write hB (k := 1) (x := .lay 0 w b e (W (kk + 1)) (W (W (32 + W (32 * b)) + W 8)) (W (W (32 + W (32 * b)) + W 24)) 0) (a := (W (W (32 + W (32 * b)) + W (kk * mWords 1))).toNat) (by decide) hz (mWord 0 1 0 0 0 0 0) (.inr (.inl (by rw [ea]; omega))) ⟨o1, o2, by omega, by omega, by decide, fun hh => absurd hh (by decide)⟩ (by rw [hs]; rfl) (by rw [hs]; simp only [TK.left]; (try split) <;> omega)
        exact ⟨.inl rfl, _, _, _, _, _, _, g.1, g.2, c + 1, js, by omega, by omega, rfl⟩
    | lay j w b e kk fi la pw =>
      rw [hs] at hok
      obtain ⟨o1, o2, o3, o4, o5, o6⟩ := hok
      rcases (show j = 0 ∨ j = 1 ∨ j = 2 by omega) with rfl | rfl | rfl
      · refine (layload1 E hE hT hD hx hp4 hB hc5 hc.2 hz ⟨o1, by omega⟩ ⟨o3, o4⟩ (s 0) (s 2) js).mono ?_
        rintro x st ⟨rfl, js, rfl⟩
        have g := h.quiet (k := 1) (x := .lay 1 w b e kk fi la (xs.getD 4 0)) (by decide) hz ⟨o1, o2, o3, o4, by decide, fun _ => rfl⟩ (by rw [hs]; rfl) (by rw [hs]; simp only [TK.left]; (try split) <;> omega)
        exact ⟨.inl rfl, _, _, _, _, _, _, g.1, g.2, c + 1, js, by omega, by omega, rfl⟩
      · refine (laylink1 E hE hT hD hx hp4 hB hc5 hc.2 hz ⟨o1, by omega⟩ ⟨o3, o4⟩ (s 0) (s 2) js).mono ?_
        rintro x st ⟨rfl, js, rfl⟩
        have g := h.write hB (k := 1) (x := .lay 2 w b e kk fi la pw) (a := la.toNat) (by decide) hz (mWord 0 1 0 0 0 0 (mAt pw)) (.inr (.inl (by omega))) ⟨o1, o2, o3, o4, by decide, fun _ => by rw [gne _ (by omega)]; exact o6 (by decide)⟩ (by rw [hs]; rfl) (by rw [hs]; simp only [TK.left]; (try split) <;> omega)
        exact ⟨.inl rfl, _, _, _, _, _, _, g.1, g.2, c + 1, js, by omega, by omega, rfl⟩
      · refine (layswap1 E hE hT hD hx hp4 hB hc5 (T := T) hc.2 hz ⟨o1, by omega⟩ ⟨o3, o4⟩ (o6 (by decide)) (h.free 1 (by decide) b (by rw [hs]; rfl)) (s 0) (s 2) js).mono ?_
        rintro x st ⟨rfl, js, rfl⟩
        have g := h.done hB (k := 1) (by decide) hz hs (mNext pw fi)
        exact ⟨.inr rfl, _, _, _, _, _, _, g.1, g.2, c + 1, js, by omega, by omega, by rw [hf1]; rfl⟩
theorem round2 (js : Nat → SV) : Tri MS Try.prog E stc
    ⟨pre n np f i ++ [.v (.int .i64 (.lit 2))] ++ junk js 109 16, base ps rows B p4 N xs c (T 0) (T 1) (T 2) (T 3) (T 4) (T 5) (T 6) (T 7) (vT 0 (s 0)) (vT 1 (s 1)) (vT 2 (s 2)) (z 0) (z 1) (z 2) ++ six B p4 (s 0) (s 1) (s 2), 14, []⟩ (Post n np i ps rows B p4 N c d s z 2) := by
  have hd : ∀ (l : List Nat), l.all (Nat.ble 1) = true → ∀ b, b ∈ l → E.D b := fun l hl b hb => hD b (Nat.le_of_ble_eq_true (List.all_eq_true.1 hl b hb))
  have ht : ∀ {k : Nat}, Nat.ble k 30 = true → k ≤ E.top := fun h => by rw [hT]; exact Nat.le_of_ble_eq_true h
  have hx := h.mem.len
  have hdd := h.mem.dd
  have hc5 : 0 ≤ c ∧ c ≤ 100000 := ⟨hc.1, by omega⟩
  have hf1 : W (f + 1) = f + 1 := W_of (by have := h.found; have := hn_le (s 0); have := hn_le (s 1); have := hn_le (s 2); omega) (by have := h.found; have := hn_le (s 0); have := hn_le (s 1); have := hn_le (s 2); omega)
  have hok := h.ok 2 (by decide)
  rcases (show z 2 = true ∨ z 2 = false by cases z 2; exact .inr rfl; exact .inl rfl) with hz | hz
  · skip
    refine Tri.seq (R := fun x st => x = .exit 1 ∧ ∃ js, st = ⟨pre n np f i ++ [.v (.int .i64 (.lit 2))] ++ junk js 109 16, base ps rows B p4 N xs c (T 0) (T 1) (T 2) (T 3) (T 4) (T 5) (T 6) (T 7) (vT 0 (s 0)) (vT 1 (s 1)) (vT 2 (s 2)) (z 0) (z 1) (z 2) ++ six B p4 (s 0) (s 1) (s 2), 14, []⟩) ?_ (fun s hh => by cases hh.1) (fun x st hn hh => ?_)
    · exact Tri.allR (m := 16) (n := 109) (codeOK _) (nn2 n f i B p4 c (T 0) (T 1) (T 2) (T 3) (T 4) (T 5) (T 6) (T 7) np N ps rows xs (vT 0 (s 0)) (vT 1 (s 1)) (vT 2 (s 2)) (z 0) (z 1) (z 2) (oT B p4 0 (s 0)) (oP 0 (s 0)) (oT B p4 1 (s 1)) (oP 1 (s 1)) (oT B p4 2 (s 2)) (oP 2 (s 2)) js hx hp4 hB hc5 hz) (Tr.all_ok ⟨rfl, ht rfl, hd _ rfl, fun js => ⟨rfl, js, rfl⟩⟩)
    · obtain ⟨rfl, js, rfl⟩ := hh
      exact ⟨.inl rfl, _, _, _, _, _, _, h, h.skip hz, c, fun t => if t = 15 then .v (.int .i64 (.lit 2)) else js t, by omega, by omega, rfl⟩
  · cases hs : s 2 with
    | nil =>
      cases hm : decide (W (mAt (List.getD xs 2 0) - 1) < 0) with
      | true =>
        refine (nilN2 E hE hT hD hx hp4 hB hc5 hc.2 hz hm (s 0) (s 1) js).mono ?_
        rintro x st ⟨rfl, js, rfl⟩
        have g := h.over (k := 2) (by decide) (head_none h.mem hB hm) (by rw [hs]; rfl)
        exact ⟨.inl rfl, _, _, _, _, _, _, g.1, g.2, c + 1, js, by omega, by omega, rfl⟩
      | false =>
        refine (nil2 E hE hT hD hx hp4 hB hc5 hc.2 hz hm (s 0) (s 1) js).mono ?_
        rintro x st ⟨rfl, js, rfl⟩
        obtain ⟨g1, g2⟩ := head_some h.mem hB hm
        have g := h.quiet (k := 2) (x := .look (xs.getD 2 0) (W (mAt (xs.getD 2 0) - 1)) 0 0) (by decide) hz ⟨by omega, by omega, by omega, by rw [g1]; exact h.mem.head⟩ (by rw [hs]; rfl) (by rw [hs]; simp only [TK.left]; rw [if_pos g1]; omega)
        exact ⟨.inl rfl, _, _, _, _, _, _, g.1, g.2, c + 1, js, by omega, by omega, rfl⟩
    | load w b e kk =>
      cases hm : decide (W (mAt (List.getD xs 2 0) - 1) < 0) with
      | true =>
        refine (loadN2 E hE hT hD hx hp4 hB hc5 hc.2 hz hm (s 0) (s 1) js).mono ?_
        rintro x st ⟨rfl, js, rfl⟩
        have g := h.over (k := 2) (by decide) (head_none h.mem hB hm) (by rw [hs]; rfl)
        exact ⟨.inl rfl, _, _, _, _, _, _, g.1, g.2, c + 1, js, by omega, by omega, rfl⟩
      | false =>
        refine (load2 E hE hT hD hx hp4 hB hc5 hc.2 hz hm (s 0) (s 1) js).mono ?_
        rintro x st ⟨rfl, js, rfl⟩
        obtain ⟨g1, g2⟩ := head_some h.mem hB hm
        have g := h.quiet (k := 2) (x := .look (xs.getD 2 0) (W (mAt (xs.getD 2 0) - 1)) e kk) (by decide) hz ⟨by omega, by omega, by omega, by rw [g1]; exact h.mem.head⟩ (by rw [hs]; rfl) (by rw [hs]; simp only [TK.left]; rw [if_pos g1]; omega)
        exact ⟨.inl rfl, _, _, _, _, _, _, g.1, g.2, c + 1, js, by omega, by omega, rfl⟩
    | look w b e kk =>
      rw [hs] at hok
      obtain ⟨o1, o2, o3, o4⟩ := hok
      refine (look2 E hE hT hD hx hp4 hB hc5 hc.2 hz (by rw [o4, hw_at hB ⟨o1, by omega⟩, if_pos o3]; omega) ⟨o1, o3⟩ (s 0) (s 1) js).mono ?_
      rintro x st ⟨rfl, js, rfl⟩
      have g := h.quiet (k := 2) (x := .swap w b (xs.getD (W (13 + b)).toNat 0) kk) (by decide) hz ⟨o1, o2, o3, o4, fun e => by rw [W_of (by omega) (by omega)]; subst e; exact h.mem.entry b (by omega) o3⟩ (by rw [hs]; rfl) (by rw [hs]; simp only [TK.left]; (try split) <;> omega)
      exact ⟨.inl rfl, _, _, _, _, _, _, g.1, g.2, c + 1, js, by omega, by omega, rfl⟩
    | swap w b e kk =>
      have hok' := hok
      rw [hs] at hok
      obtain ⟨o1, o2, o3, o4, o5⟩ := hok
      refine (swap2 E hE hT hD hx hp4 hB hc5 hc.2 hz ⟨o1, o3⟩ (s 0) (s 1) js).mono ?_
      rintro x st ⟨rfl, ⟨hq, js, rfl⟩ | ⟨hq, js, rfl⟩⟩
      · have g := h.take hB (k := 2) (by decide) hz hs hq
        exact ⟨.inl rfl, _, _, _, _, _, _, g.1, g.2, c + 1, js, by omega, by omega, rfl⟩
      · have hbd : ¬ b = d := fun e => hq (by rw [o4, e]; exact h.mem.head)
        have g := h.quiet (k := 2) (x := .load w b e kk) (by decide) hz trivial (by rw [hs]; rfl) (by rw [hs]; simp only [TK.left]; rw [if_neg hbd]; omega)
        exact ⟨.inl rfl, _, _, _, _, _, _, g.1, g.2, c + 1, js, by omega, by omega, rfl⟩
    | use w b e kk =>
      rw [hs] at hok
      obtain ⟨o1, o2⟩ := hok
      refine (use2 E hE hT hD hx hp4 hB hc5 hc.2 hz ⟨o1, by omega⟩ (s 0) (s 1) js).mono ?_
      rintro x st ⟨rfl, js, rfl⟩
      have ea : W (13 + b) = 13 + b := W_of (by omega) (by omega)
      have g := h.write hB (k := 2) (x := .link w b e 1) (a := (W (13 + b)).toNat) (by decide) hz (mBlock 1 2 0 0) (.inr (.inr (by rw [ea]; omega))) ⟨o1, o2, by decide, by decide⟩ (by rw [hs]; rfl) (by rw [hs]; simp only [TK.left]; (try split) <;> omega)
      exact ⟨.inl rfl, _, _, _, _, _, _, g.1, g.2, c + 1, js, by omega, by omega, rfl⟩
    | link w b e kk =>
      rw [hs] at hok
      obtain ⟨o1, o2, o3, o4⟩ := hok
      have o4 : kk ≤ 1 := o4
      have ea : W (W (32 + W (32 * b)) + W (kk * mWords 2)) = 32 + 32 * b + kk * 16 := by simp only [W, wrap64, w2]; omega
      have ek : W (kk + 1) = kk + 1 := W_of (by omega) (by omega)
      refine (linkE2 E hE hT hD hx hp4 hB hc5 hc.2 hz ⟨o1, by omega⟩ ⟨o3, o4⟩ (s 0) (s 1) js).mono ?_
      rintro x st ⟨rfl, js, rfl⟩
      have el : (W (W (32 + W (32 * b)) + W 16)) = 32 + 32 * b + 16 := by simp only [W, wrap64]; omega
      have g := h.write hB (k := 2) (x := .lay 0 w b e (W (kk + 1)) (W (W (32 + W (32 * b)) + W 16)) (W (W (32 + W (32 * b)) + W 16)) 0) (a := (W (W (32 + W (32 * b)) + W (kk * mWords 2))).toNat) (by decide) hz (mWord 0 2 0 0 0 0 0) (.inr (.inl (by rw [ea]; omega))) ⟨o1, o2, by omega, by omega, by decide, fun hh => absurd hh (by decide)⟩ (by rw [hs]; rfl) (by rw [hs]; simp only [TK.left]; (try split) <;> omega)
      exact ⟨.inl rfl, _, _, _, _, _, _, g.1, g.2, c + 1, js, by omega, by omega, rfl⟩
    | lay j w b e kk fi la pw =>
      rw [hs] at hok
      obtain ⟨o1, o2, o3, o4, o5, o6⟩ := hok
      rcases (show j = 0 ∨ j = 1 ∨ j = 2 by omega) with rfl | rfl | rfl
      · refine (layload2 E hE hT hD hx hp4 hB hc5 hc.2 hz ⟨o1, by omega⟩ ⟨o3, o4⟩ (s 0) (s 1) js).mono ?_
        rintro x st ⟨rfl, js, rfl⟩
        have g := h.quiet (k := 2) (x := .lay 1 w b e kk fi la (xs.getD 5 0)) (by decide) hz ⟨o1, o2, o3, o4, by decide, fun _ => rfl⟩ (by rw [hs]; rfl) (by rw [hs]; simp only [TK.left]; (try split) <;> omega)
        exact ⟨.inl rfl, _, _, _, _, _, _, g.1, g.2, c + 1, js, by omega, by omega, rfl⟩
      · refine (laylink2 E hE hT hD hx hp4 hB hc5 hc.2 hz ⟨o1, by omega⟩ ⟨o3, o4⟩ (s 0) (s 1) js).mono ?_
        rintro x st ⟨rfl, js, rfl⟩
        have g := h.write hB (k := 2) (x := .lay 2 w b e kk fi la pw) (a := la.toNat) (by decide) hz (mWord 0 2 0 0 0 0 (mAt pw)) (.inr (.inl (by omega))) ⟨o1, o2, o3, o4, by decide, fun _ => by rw [gne _ (by omega)]; exact o6 (by decide)⟩ (by rw [hs]; rfl) (by rw [hs]; simp only [TK.left]; (try split) <;> omega)
        exact ⟨.inl rfl, _, _, _, _, _, _, g.1, g.2, c + 1, js, by omega, by omega, rfl⟩
      · refine (layswap2 E hE hT hD hx hp4 hB hc5 (T := T) hc.2 hz ⟨o1, by omega⟩ ⟨o3, o4⟩ (o6 (by decide)) (h.free 2 (by decide) b (by rw [hs]; rfl)) (s 0) (s 1) js).mono ?_
        rintro x st ⟨rfl, js, rfl⟩
        have g := h.done hB (k := 2) (by decide) hz hs (mNext pw fi)
        exact ⟨.inr rfl, _, _, _, _, _, _, g.1, g.2, c + 1, js, by omega, by omega, by rw [hf1]; rfl⟩
end
end Go.Proofs.Ytmegnipdeanghaa.CarveOnce
