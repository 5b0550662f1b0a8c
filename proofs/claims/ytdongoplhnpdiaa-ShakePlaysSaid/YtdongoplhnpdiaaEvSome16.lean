/-
  some of flitlaw16 as a contract: a thread's roots as a function of the numbers.
-/
import Derived.Test.YtdongoplhnpdiaaTSome16
import Derived.Test.YtdongoplhnpdiaaEvLaid
namespace Go.Proofs.Ytdongoplhnpdiaa.Some16
open Go Go.RowKit Go.Proofs.Ytdongoplhnpdiaa.Eng
set_option linter.unusedVariables false
set_option linter.unusedSimpArgs false
set_option linter.unusedSectionVars false
set_option maxRecDepth 20000
theorem codeOK (c : Code) : CodeOK MS Try.prog c (ev c) :=
  evCode_sound progOK (fun f args hp nid r h _ => evF_sound progOK (lookH_ok L16.tabT_ok) 100 19 f args hp nid r h) 100 c
theorem hb : Try.f10.body = some body := by kernel_rfl
/-- A root; the first i of them. -/
def rv (ls : List (List Int)) (j : Nat) : Int := if kM (tabAt ls j 0) 17 < 16 then 96 + 4 * kM (tabAt ls j 0) 17 else 0
def Lf (ls : List (List Int)) (i j : Int) : Int := if j < i then rv ls j.toNat else 0
def rN (ls : List (List Int)) : Int := if ls.length ≤ 8 then ls.length else 8
theorem W_of {x : Int} (h : -100000 ≤ x) (h2 : x ≤ 100000) : W x = x := by simp only [W, wrap64]; omega
theorem res (x0 x1 x3 x4 : SV) (ls : List (List Int)) (a0 a1 a2 a3 a4 a5 a6 a7 a8 : Int) (nid : Nat) (js : Nat → SV) : vresults Try.prog (⟨[x0, x1, .v (.ptr 1 0), x3, x4] ++ junk js 30 5, [(0, some (.rotab [.int .i64] ls)), (1, some (.cells (rc a0 a1 a2 a3 a4 a5 a6 a7 a8) 39))], nid, []⟩ : St MObj) Try.f10.results.toList = .ok [.agg (rc a0 a1 a2 a3 a4 a5 a6 a7 a8)] := by kernel_rfl
theorem restE : (Eng.spine 2 body).2 = .seq (.seq (codeAt body [true, true, false, false]) (.block 0 (.loop (.seq (at' [false]) (.seq (.block 1 (at' [true, false, false])) (at' [true, true])))))) (codeAt body [true, true, true]) := by kernel_rfl
section
variable (n : Nat) (ls : List (List Int)) (hn : n = ls.length) (hf : Laid.fitB ls = true) (E : Ctx MObj) (hE : E.nid0 = 1) (hT : E.top = 9) (hD : ∀ b, 1 ≤ b → E.D b)
include hn hf hE hT hD
abbrev S (n : Nat) (ls : List (List Int)) (i : Int) (js : Nat → SV) : St MObj := ⟨pre n (.v (ii i)) ++ junk js 30 5, hp0 ls z9 (rc i (Lf ls (i) 0) (Lf ls (i) 1) (Lf ls (i) 2) (Lf ls (i) 3) (Lf ls (i) 4) (Lf ls (i) 5) (Lf ls (i) 6) (Lf ls (i) 7)), 3, []⟩
abbrev S1 (n : Nat) (ls : List (List Int)) (i : Int) (js : Nat → SV) : St MObj := ⟨pre n (.v (ii i)) ++ junk js 30 5, hp0 ls z9 (rc (i + 1) (Lf ls (i + 1) 0) (Lf ls (i + 1) 1) (Lf ls (i + 1) 2) (Lf ls (i + 1) 3) (Lf ls (i + 1) 4) (Lf ls (i + 1) 5) (Lf ls (i + 1) 6) (Lf ls (i + 1) 7)), 3, []⟩
theorem round (i : Int) (hi : 0 ≤ i ∧ i < 8) (hin : i < n) (js : Nat → SV) : Tri MS Try.prog E (at' [true, false, false]) (S n ls i js) fun x st => x = .normal ∧ ∃ js, st = S1 n ls i js := by
  have hd : ∀ (l : List Nat), l.all (Nat.ble 1) = true → ∀ b, b ∈ l → E.D b := fun l hl b hb => hD b (Nat.le_of_ble_eq_true (List.all_eq_true.1 hl b hb))
  have ht : ∀ {k : Nat}, Nat.ble k 9 = true → k ≤ E.top := fun h => by rw [hT]; exact Nat.le_of_ble_eq_true h
  have hk := Laid.fitB_at hf (i := i.toNat) (by omega) 17 (by decide)
  have e1 : W (i + 1) = i + 1 := W_of (by omega) (by omega)
  have e2 : W (96 + W (4 * kM (tabAt ls i.toNat 0) 17)) = 96 + 4 * kM (tabAt ls i.toNat 0) 17 := by simp only [W, wrap64]; omega
  have hyes : decide (kM (tabAt ls i.toNat 0) 17 < 16) = true → 96 + 4 * kM (tabAt ls i.toNat 0) 17 = rv ls i.toNat := fun h => by unfold rv; rw [if_pos (of_decide_eq_true h)]
  have hno : decide (kM (tabAt ls i.toNat 0) 17 < 16) = false → rv ls i.toNat = 0 := fun h => by unfold rv; rw [if_neg (of_decide_eq_false h)]
  refine Tri.allR (m := 5) (n := 30) (codeOK _) (b n i i (Lf ls (i) 0) (Lf ls (i) 1) (Lf ls (i) 2) (Lf ls (i) 3) (Lf ls (i) 4) (Lf ls (i) 5) (Lf ls (i) 6) (Lf ls (i) 7) ls js hn hi hin hk) (Tr.all_ite (fun q0 => ?_) fun q0 => Tr.all_ok ⟨rfl, ht rfl, hd _ rfl, fun js => ⟨rfl, js, ?_⟩⟩)
  · have e3 := e2.trans (hyes q0)
    rcases (show i = 0 ∨ i = 1 ∨ i = 2 ∨ i = 3 ∨ i = 4 ∨ i = 5 ∨ i = 6 ∨ i = 7 by omega) with rfl | rfl | rfl | rfl | rfl | rfl | rfl | rfl
    · refine Tr.all_ite (fun q => absurd q (by decide)) fun _ => Tr.all_ite (fun q => absurd q (by decide)) fun _ => Tr.all_ite (fun q => absurd q (by decide)) fun _ => Tr.all_ite (fun q => absurd q (by decide)) fun _ => Tr.all_ite (fun q => absurd q (by decide)) fun _ => Tr.all_ite (fun q => absurd q (by decide)) fun _ => Tr.all_ite (fun q => absurd q (by decide)) fun _ => Tr.all_ok ⟨rfl, ht rfl, hd _ rfl, fun js => ⟨rfl, js, ?_⟩⟩
      show (⟨pre n (.v (ii 0)) ++ junk js 30 5, hp0 ls z9 (rc (W (0 + 1)) (W (96 + W (4 * kM (tabAt ls (Int.toNat 0) 0) 17))) (Lf ls 0 1) (Lf ls 0 2) (Lf ls 0 3) (Lf ls 0 4) (Lf ls 0 5) (Lf ls 0 6) (Lf ls 0 7)), 3, []⟩ : St MObj) = _
      rw [e3, e1]; rfl
    · refine Tr.all_ite (fun q => absurd q (by decide)) fun _ => Tr.all_ite (fun q => absurd q (by decide)) fun _ => Tr.all_ite (fun q => absurd q (by decide)) fun _ => Tr.all_ite (fun q => absurd q (by decide)) fun _ => Tr.all_ite (fun q => absurd q (by decide)) fun _ => Tr.all_ite (fun q => absurd q (by decide)) fun _ => Tr.all_ite (fun _ => Tr.all_ok ⟨rfl, ht rfl, hd _ rfl, fun js => ⟨rfl, js, ?_⟩⟩) fun q => absurd q (by decide)
      show (⟨pre n (.v (ii 1)) ++ junk js 30 5, hp0 ls z9 (rc (W (1 + 1)) (Lf ls 1 0) (W (96 + W (4 * kM (tabAt ls (Int.toNat 1) 0) 17))) (Lf ls 1 2) (Lf ls 1 3) (Lf ls 1 4) (Lf ls 1 5) (Lf ls 1 6) (Lf ls 1 7)), 3, []⟩ : St MObj) = _
      rw [e3, e1]; rfl
    · refine Tr.all_ite (fun q => absurd q (by decide)) fun _ => Tr.all_ite (fun q => absurd q (by decide)) fun _ => Tr.all_ite (fun q => absurd q (by decide)) fun _ => Tr.all_ite (fun q => absurd q (by decide)) fun _ => Tr.all_ite (fun q => absurd q (by decide)) fun _ => Tr.all_ite (fun _ => Tr.all_ok ⟨rfl, ht rfl, hd _ rfl, fun js => ⟨rfl, js, ?_⟩⟩) fun q => absurd q (by decide)
      show (⟨pre n (.v (ii 2)) ++ junk js 30 5, hp0 ls z9 (rc (W (2 + 1)) (Lf ls 2 0) (Lf ls 2 1) (W (96 + W (4 * kM (tabAt ls (Int.toNat 2) 0) 17))) (Lf ls 2 3) (Lf ls 2 4) (Lf ls 2 5) (Lf ls 2 6) (Lf ls 2 7)), 3, []⟩ : St MObj) = _
      rw [e3, e1]; rfl
    · refine Tr.all_ite (fun q => absurd q (by decide)) fun _ => Tr.all_ite (fun q => absurd q (by decide)) fun _ => Tr.all_ite (fun q => absurd q (by decide)) fun _ => Tr.all_ite (fun q => absurd q (by decide)) fun _ => Tr.all_ite (fun _ => Tr.all_ok ⟨rfl, ht rfl, hd _ rfl, fun js => ⟨rfl, js, ?_⟩⟩) fun q => absurd q (by decide)
      show (⟨pre n (.v (ii 3)) ++ junk js 30 5, hp0 ls z9 (rc (W (3 + 1)) (Lf ls 3 0) (Lf ls 3 1) (Lf ls 3 2) (W (96 + W (4 * kM (tabAt ls (Int.toNat 3) 0) 17))) (Lf ls 3 4) (Lf ls 3 5) (Lf ls 3 6) (Lf ls 3 7)), 3, []⟩ : St MObj) = _
      rw [e3, e1]; rfl
    · refine Tr.all_ite (fun q => absurd q (by decide)) fun _ => Tr.all_ite (fun q => absurd q (by decide)) fun _ => Tr.all_ite (fun q => absurd q (by decide)) fun _ => Tr.all_ite (fun _ => Tr.all_ok ⟨rfl, ht rfl, hd _ rfl, fun js => ⟨rfl, js, ?_⟩⟩) fun q => absurd q (by decide)
      show (⟨pre n (.v (ii 4)) ++ junk js 30 5, hp0 ls z9 (rc (W (4 + 1)) (Lf ls 4 0) (Lf ls 4 1) (Lf ls 4 2) (Lf ls 4 3) (W (96 + W (4 * kM (tabAt ls (Int.toNat 4) 0) 17))) (Lf ls 4 5) (Lf ls 4 6) (Lf ls 4 7)), 3, []⟩ : St MObj) = _
      rw [e3, e1]; rfl
    · refine Tr.all_ite (fun q => absurd q (by decide)) fun _ => Tr.all_ite (fun q => absurd q (by decide)) fun _ => Tr.all_ite (fun _ => Tr.all_ok ⟨rfl, ht rfl, hd _ rfl, fun js => ⟨rfl, js, ?_⟩⟩) fun q => absurd q (by decide)
      show (⟨pre n (.v (ii 5)) ++ junk js 30 5, hp0 ls z9 (rc (W (5 + 1)) (Lf ls 5 0) (Lf ls 5 1) (Lf ls 5 2) (Lf ls 5 3) (Lf ls 5 4) (W (96 + W (4 * kM (tabAt ls (Int.toNat 5) 0) 17))) (Lf ls 5 6) (Lf ls 5 7)), 3, []⟩ : St MObj) = _
      rw [e3, e1]; rfl
    · refine Tr.all_ite (fun q => absurd q (by decide)) fun _ => Tr.all_ite (fun _ => Tr.all_ok ⟨rfl, ht rfl, hd _ rfl, fun js => ⟨rfl, js, ?_⟩⟩) fun q => absurd q (by decide)
      show (⟨pre n (.v (ii 6)) ++ junk js 30 5, hp0 ls z9 (rc (W (6 + 1)) (Lf ls 6 0) (Lf ls 6 1) (Lf ls 6 2) (Lf ls 6 3) (Lf ls 6 4) (Lf ls 6 5) (W (96 + W (4 * kM (tabAt ls (Int.toNat 6) 0) 17))) (Lf ls 6 7)), 3, []⟩ : St MObj) = _
      rw [e3, e1]; rfl
    · refine Tr.all_ite (fun _ => Tr.all_ok ⟨rfl, ht rfl, hd _ rfl, fun js => ⟨rfl, js, ?_⟩⟩) fun q => absurd q (by decide)
      show (⟨pre n (.v (ii 7)) ++ junk js 30 5, hp0 ls z9 (rc (W (7 + 1)) (Lf ls 7 0) (Lf ls 7 1) (Lf ls 7 2) (Lf ls 7 3) (Lf ls 7 4) (Lf ls 7 5) (Lf ls 7 6) (W (96 + W (4 * kM (tabAt ls (Int.toNat 7) 0) 17)))), 3, []⟩ : St MObj) = _
      rw [e3, e1]; rfl
  · have e3 := hno q0
    show (⟨pre n (.v (ii i)) ++ junk js 30 5, hp0 ls z9 (rc (W (i + 1)) (Lf ls (i) 0) (Lf ls (i) 1) (Lf ls (i) 2) (Lf ls (i) 3) (Lf ls (i) 4) (Lf ls (i) 5) (Lf ls (i) 6) (Lf ls (i) 7)), 3, []⟩ : St MObj) = S1 n ls i js
    have eL : ∀ j : Int, Lf ls (i + 1) j = Lf ls i j := fun j => by
      unfold Lf
      by_cases h : j < i
      · rw [if_pos h, if_pos (by omega)]
      · rw [if_neg h]
        by_cases h2 : j < i + 1
        · rw [if_pos h2, show j = i by omega, e3]
        · rw [if_neg h2]
    unfold S1
    simp only [eL, e1]
abbrev hpR (ls : List (List Int)) : HP MObj := [(0, some (.rotab [.int .i64] ls)), (1, some (.cells (rc (rN ls) (Lf ls (rN ls) 0) (Lf ls (rN ls) 1) (Lf ls (rN ls) 2) (Lf ls (rN ls) 3) (Lf ls (rN ls) 4) (Lf ls (rN ls) 5) (Lf ls (rN ls) 6) (Lf ls (rN ls) 7)) 39))]
theorem all : Tri MS Try.prog E body ⟨[.v (.an 0 (.sym n))] ++ List.replicate (nt - 1) .undef, [(0, some (.rotab [.int .i64] ls))], 1, []⟩
    fun x st => (x = .normal ∨ x = .ret) ∧ (∀ b, hget st.hp b = hget (hpR ls) b) ∧ st.nid = 2 ∧ ∃ l, (vresults Try.prog st Try.f10.results.toList).run = some l ∧ tupleOf l = .s (.agg (rc (rN ls) (Lf ls (rN ls) 0) (Lf ls (rN ls) 1) (Lf ls (rN ls) 2) (Lf ls (rN ls) 3) (Lf ls (rN ls) 4) (Lf ls (rN ls) 5) (Lf ls (rN ls) 6) (Lf ls (rN ls) 7))) := by
  have hd : ∀ (l : List Nat), l.all (Nat.ble 1) = true → ∀ b, b ∈ l → E.D b := fun l hl b hb => hD b (Nat.le_of_ble_eq_true (List.all_eq_true.1 hl b hb))
  have ht : ∀ {k : Nat}, Nat.ble k 9 = true → k ≤ E.top := fun h => by rw [hT]; exact Nat.le_of_ble_eq_true h
  refine Tri.listR (m := 5) (n := 30) (l := (Eng.spine 2 body).1) codeOK 2 rfl restE (s n ls hn) (Tr.all_ok ⟨rfl, rfl, ht rfl, hd _ rfl, fun js => ?_⟩)
  refine Tri.seq (R := fun x st => x = .normal ∧ ∃ js, st = S n ls (rN ls) js) ?_ ?_ (fun x s hx hh => absurd hh.1 hx)
  · refine Tri.seq (R := fun x st => x = .normal ∧ ∃ js, st = ⟨pre n (.v (.int .i64 (.lit 0))) ++ junk js 30 5, hp0 ls z9 (rc 0 0 0 0 0 0 0 0 0), 3, []⟩) ?_ ?_ (fun x s hx hh => absurd hh.1 hx)
    · refine Tri.preWk (pre' := pre n (.t [])) (hp' := hp0 ls z9 (rc 0 0 0 0 0 0 0 0 0)) (by (repeat' apply And.intro) <;> first | rfl | trivial) (by (repeat' apply And.intro) <;> first | rfl | trivial) ?_
      exact Tri.allR (m := 5) (n := 30) (codeOK _) (init n 0 0 0 0 0 0 0 0 0 ls (.t []) js hn) (Tr.all_ok ⟨rfl, ht rfl, hd _ rfl, fun js => ⟨rfl, js, rfl⟩⟩)
    rintro st ⟨_, js, rfl⟩
    refine Tri.preWk (pre' := pre n (.v (ii 0))) (hp' := hp0 ls z9 (rc 0 (Lf ls (0) 0) (Lf ls (0) 1) (Lf ls (0) 2) (Lf ls (0) 3) (Lf ls (0) 4) (Lf ls (0) 5) (Lf ls (0) 6) (Lf ls (0) 7))) (by (repeat' apply And.intro) <;> first | rfl | trivial) (by (repeat' apply And.intro) <;> first | rfl | trivial) ?_
    refine Tri.block (R := fun x st => x = .exit 0 ∧ ∃ js, st = S n ls (rN ls) js) ?_ (fun s hh => by
      rcases hh with hh | hh
      · cases hh.1
      · exact ⟨rfl, hh.2⟩) (fun x s _ hx hh => absurd hh.1 hx)
    refine Tri.loop (J := fun q st => ∃ (i : Int) (js : Nat → SV), st = S n ls i js ∧ 0 ≤ i ∧ i ≤ rN ls ∧ q = (8 - i).toNat) ?_ (k := 8) ⟨0, js, rfl, by decide, by unfold rN; split <;> omega, rfl⟩
    rintro q st ⟨i, js, rfl, h1, h2, rfl⟩
    have h8 : rN ls ≤ 8 ∧ rN ls ≤ n ∧ (rN ls = n ∨ rN ls = 8) := by unfold rN; split <;> omega
    refine Tri.seq (R := fun x st => ∃ js, st = S n ls i js ∧ ((x = .normal ∧ i < n ∧ i < 8) ∨ (x = .exit 0 ∧ (¬ i < n ∨ ¬ i < 8)))) ?_ ?_ ?_
    · exact Tri.allR (m := 5) (n := 30) (codeOK _) (g n i i (Lf ls (i) 0) (Lf ls (i) 1) (Lf ls (i) 2) (Lf ls (i) 3) (Lf ls (i) 4) (Lf ls (i) 5) (Lf ls (i) 6) (Lf ls (i) 7) ls js hn) (Tr.all_ite (fun h1 => Tr.all_ite (fun h2 => Tr.all_ok ⟨rfl, ht rfl, hd _ rfl, fun js => ⟨js, rfl, .inl ⟨rfl, of_decide_eq_true h1, of_decide_eq_true h2⟩⟩⟩) fun h2 => Tr.all_ok ⟨rfl, ht rfl, hd _ rfl, fun js => ⟨js, rfl, .inr ⟨rfl, .inr (of_decide_eq_false h2)⟩⟩⟩) fun h1 => Tr.all_ok ⟨rfl, ht rfl, hd _ rfl, fun js => ⟨js, rfl, .inr ⟨rfl, .inl (of_decide_eq_false h1)⟩⟩⟩)
    · rintro st ⟨js, rfl, h | h⟩
      rotate_left
      · cases h.1
      obtain ⟨_, hin, hi⟩ := h
      refine Tri.seq (R := fun x st => x = .normal ∧ ∃ js, st = S1 n ls i js) (Tri.block (round n ls hn hf E hE hT hD i ⟨h1, hi⟩ hin js) (fun s hh => by
        rcases hh with hh | hh
        · exact hh
        · cases hh.1) (fun x s hx _ hh => absurd hh.1 hx)) ?_ (fun x s hx hh => absurd hh.1 hx)
      rintro st ⟨_, js, rfl⟩
      have e5 : W (i + 1) = i + 1 := W_of (by omega) (by omega)
      refine Tri.allR (m := 5) (n := 30) (codeOK _) (inc n i (i + 1) (Lf ls (i + 1) 0) (Lf ls (i + 1) 1) (Lf ls (i + 1) 2) (Lf ls (i + 1) 3) (Lf ls (i + 1) 4) (Lf ls (i + 1) 5) (Lf ls (i + 1) 6) (Lf ls (i + 1) 7) ls js hn) (Tr.all_ok ⟨rfl, ht rfl, hd _ rfl, fun js => ⟨(8 - (i + 1)).toNat, by omega, i + 1, js, ?_, by omega, by omega, rfl⟩⟩)
      show (⟨pre n (.v (ii (W (i + 1)))) ++ junk js 30 5, hp0 ls z9 (rc (i + 1) (Lf ls (i + 1) 0) (Lf ls (i + 1) 1) (Lf ls (i + 1) 2) (Lf ls (i + 1) 3) (Lf ls (i + 1) 4) (Lf ls (i + 1) 5) (Lf ls (i + 1) 6) (Lf ls (i + 1) 7)), 3, []⟩ : St MObj) = _
      rw [e5]
    · rintro x st hx ⟨js, rfl, h | h⟩
      · exact absurd h.1 hx
      · obtain ⟨rfl, h⟩ := h
        refine ⟨rfl, js, ?_⟩
        rw [show i = rN ls by omega]
  · rintro st ⟨_, js, rfl⟩
    refine Tri.postE (Q := fun x st => x = .ret ∧ ∃ js, st = ⟨pre n (.v (ii (rN ls))) ++ junk js 30 5, hp0 ls (rc (rN ls) (Lf ls (rN ls) 0) (Lf ls (rN ls) 1) (Lf ls (rN ls) 2) (Lf ls (rN ls) 3) (Lf ls (rN ls) 4) (Lf ls (rN ls) 5) (Lf ls (rN ls) 6) (Lf ls (rN ls) 7)) (rc (rN ls) (Lf ls (rN ls) 0) (Lf ls (rN ls) 1) (Lf ls (rN ls) 2) (Lf ls (rN ls) 3) (Lf ls (rN ls) 4) (Lf ls (rN ls) 5) (Lf ls (rN ls) 6) (Lf ls (rN ls) 7)), 3, []⟩) (Tri.allR (m := 5) (n := 30) (codeOK _) (fin n (rN ls) (rN ls) (Lf ls (rN ls) 0) (Lf ls (rN ls) 1) (Lf ls (rN ls) 2) (Lf ls (rN ls) 3) (Lf ls (rN ls) 4) (Lf ls (rN ls) 5) (Lf ls (rN ls) 6) (Lf ls (rN ls) 7) ls js hn) (Tr.all_ok ⟨rfl, ht rfl, hd _ rfl, fun js => ⟨rfl, js, rfl⟩⟩)) ?_
    rintro x st aa ww ⟨rfl, js, rfl⟩ hat
    obtain ⟨js', h'⟩ := at_rename (dirty' := []) (m := 3) (n := 32) [(0, 0), (1, 1)] (nid' := 2) rfl (by simp [length_junk]) rfl rfl (by rw [hE]; rfl) (by rw [hE]; decide) (by rw [hT]; decide) hat
    refine ⟨_, h', .inr rfl, fun b => rfl, rfl, _, (congrArg Tr.run (res (.v (.an 0 (.sym n))) (.t []) (js' 3) (js' 4) ls (rN ls) (Lf ls (rN ls) 0) (Lf ls (rN ls) 1) (Lf ls (rN ls) 2) (Lf ls (rN ls) 3) (Lf ls (rN ls) 4) (Lf ls (rN ls) 5) (Lf ls (rN ls) 6) (Lf ls (rN ls) 7) 2 js')).trans rfl, rfl⟩
end
def cI : Intr MObj := fun args hp nid => match args, hp, nid with
  | [.s (.one (.an 0 (.sym n)))], [(0, some (.rotab [.int .i64] ls))], 1 => .ite (decide (n = ls.length) && Laid.fitB ls)
    (.ok ⟨.s (.agg (rc (rN ls) (Lf ls (rN ls) 0) (Lf ls (rN ls) 1) (Lf ls (rN ls) 2) (Lf ls (rN ls) 3) (Lf ls (rN ls) 4) (Lf ls (rN ls) 5) (Lf ls (rN ls) 6) (Lf ls (rN ls) 7))), hpR ls, [1], 2⟩) (.no "some: sizes")
  | _, _, _ => .no "some: arguments"
theorem ok : FunOK MS Try.prog 10 (renI cI) := by
  refine funOK_ren (funOK_tri Try.func10 hb ?_)
  intro args hp nid r hrun
  unfold cI at hrun
  split at hrun
  · rename_i n ls
    rw [Tr.run_ite] at hrun
    rcases hrun with ⟨hc, hrun⟩ | ⟨_, hrun⟩
    · rw [Tr.run_ok] at hrun
      subst hrun
      simp only [Bool.and_eq_true, decide_eq_true_eq] at hc
      refine ⟨by show 1 ≤ 2; omega, fun b o hb ho => ?_, 9, by show 2 ≤ 9; omega, fun E hE hT hD hr => all n ls hc.1 hc.2 E hE hT hD⟩
      match b, hb, ho with
      | 0, hb, _ => exact absurd hb (by decide)
      | 1, _, _ => simp
      | b + 2, _, ho => cases ho
    · cases hrun
  · cases hrun
end Go.Proofs.Ytdongoplhnpdiaa.Some16
