/-
  from of shake as a contract: which root is next, and what is done with it.
-/
import Derived.Test.YtdongoplhnpdiaaTFrom
import Derived.Test.YtdongoplhnpdiaaEvLaid
namespace Go.Proofs.Ytdongoplhnpdiaa.From
open Go Go.RowKit Go.Proofs.Ytdongoplhnpdiaa.Eng
set_option linter.unusedVariables false
set_option linter.unusedSimpArgs false
set_option linter.unusedSectionVars false
set_option maxRecDepth 20000
theorem codeOK (c : Code) : CodeOK MS Try.prog c (ev c) :=
  evCode_sound progOK (fun f args hp nid r h _ => evF_sound progOK (lookH_ok L16.tabT_ok) 100 19 f args hp nid r h) 100 c
theorem hb : Try.f35.body = some body := by kernel_rfl
theorem at_tm {S : Eng.Sys MObj} {E : Ctx MObj} {p p' l : List SV} {hp : HP MObj} {nid : Nat} {d : List Nat} {a : Act} {w : World} (h : wkSs p p') (hat : At S E ⟨p ++ l, hp, nid, d⟩ a w) : At S E ⟨p' ++ l, hp, nid, d⟩ a w :=
  weak_tm (tm_weak h) a w hat
theorem wkV_refl (x : VV) : wkV x x := by cases x <;> first | exact ⟨rfl, rfl⟩ | exact ⟨rfl, rfl, rfl, rfl⟩ | rfl
theorem wkVs_refl : ∀ l : List VV, wkVs l l
  | [] => trivial
  | x :: l => ⟨wkV_refl x, wkVs_refl l⟩
theorem wk1_refl : ∀ x : S1, wk1 x x
  | .one x => wkV_refl x
  | .agg l => wkVs_refl l
theorem wk1s_refl : ∀ l : List S1, wk1s l l
  | [] => trivial
  | x :: l => ⟨wk1_refl x, wk1s_refl l⟩
theorem wkS_refl : ∀ x : SV, wkS x x
  | .s x => wk1_refl x
  | .t l => wk1s_refl l
theorem W_of {x : Int} (h : -100000 ≤ x) (h2 : x ≤ 100000) : W x = x := by simp only [W, wrap64]; omega
/-- The roots by their numbers; the first from one on that is not nil (N: none). -/
def lf (L0 L1 L2 L3 L4 L5 L6 L7 i : Int) : Int := if i = 7 then L7 else if i = 6 then L6 else if i = 5 then L5 else if i = 4 then L4 else if i = 3 then L3 else if i = 2 then L2 else if i = 1 then L1 else L0
def nx (root N : Int) (L : Int → Int) : Nat → Int → Int
  | 0, _ => N
  | k + 1, i => if i < N then (if i < root ∨ L i = 0 then nx root N L k (i + 1) else i) else N
theorem nx_end {root N : Int} {L : Int → Int} {i : Int} (h : ¬ i < N) : ∀ k, nx root N L k i = N
  | 0 => rfl
  | k + 1 => by unfold nx; rw [if_neg h]
theorem nx_cont {root N : Int} {L : Int → Int} {i : Int} {k : Nat} (h : i < N) (hc : i < root ∨ L i = 0) : nx root N L (k + 1) i = nx root N L k (i + 1) := by
  rw [nx, if_pos h, if_pos hc]
theorem nx_found {root N : Int} {L : Int → Int} {i : Int} {k : Nat} (h : i < N) (hc : ¬ (i < root ∨ L i = 0)) : nx root N L (k + 1) i = i := by
  rw [nx, if_pos h, if_neg hc]
/-- What is known of it. -/
theorem nx_spec {root N : Int} {L : Int → Int} : ∀ (k : Nat) (i : Int), N - i ≤ k → (nx root N L k i < N → i ≤ nx root N L k i ∧ root ≤ nx root N L k i ∧ L (nx root N L k i) ≠ 0) ∧ (∀ j, i ≤ j → j < nx root N L k i → j < N → j < root ∨ L j = 0) ∧ (i ≤ N → nx root N L k i ≤ N)
  | 0, i, h => ⟨fun h2 => absurd h2 (by unfold nx; omega), fun j h1 h2 h3 => by omega, fun _ => Int.le_refl _⟩
  | k + 1, i, h => by
    by_cases hi : i < N
    · by_cases hc : i < root ∨ L i = 0
      · rw [nx_cont hi hc]
        obtain ⟨g1, g2, g3⟩ := nx_spec (root := root) (N := N) (L := L) k (i + 1) (by omega)
        refine ⟨fun h2 => by have := g1 h2; exact ⟨by omega, this.2⟩, fun j h1 h2 h3 => ?_, fun _ => g3 (by omega)⟩
        by_cases hj : j = i
        · rw [hj]; exact hc
        · exact g2 j (by omega) h2 h3
      · rw [nx_found hi hc]
        have hc := not_or.1 hc
        exact ⟨fun _ => ⟨Int.le_refl _, by omega, hc.2⟩, fun j h1 h2 => by omega, fun _ => by omega⟩
    · rw [nx_end hi]
      exact ⟨fun h2 => absurd h2 (by omega), fun j h1 h2 h3 => by omega, fun h => Int.le_refl _⟩
abbrev lfL := lf
abbrev SA (root i N L0 L1 L2 L3 L4 L5 L6 L7 mk : Int) (d0 d1 d2 d3 d4 d5 d6 d7 d8 d9 d10 d11 d13 d14 rt sh : VV) (ys : Nat → SV) (js : Nat → SV) : St MObj := ⟨pre root 1 ys N i ++ junk js 42 16, [(0, some (pc0 d0 d1 d2 d3 d4 d5 d6 d7 d8 d9 d10 d11 (ii mk) d13 d14 N L0 L1 L2 L3 L4 L5 L6 L7 (.int .i64 (.lit 4)) rt sh))], 1, []⟩
abbrev FA (root i N L0 L1 L2 L3 L4 L5 L6 L7 mk : Int) (d0 d1 d2 d3 d4 d5 d6 d7 d8 d9 d10 d11 d13 d14 rt sh : VV) (ys : Nat → SV) (js : Nat → SV) : St MObj := ⟨pre root 1 ys N i ++ junk js 42 16, [(0, some (pc0 d0 d1 d2 d3 d4 d5 d6 d7 d8 d9 d10 d11 (ii mk) d13 d14 N L0 L1 L2 L3 L4 L5 L6 L7 (.int .i64 (.lit 1)) (ii i) (.ptr 1 0))), (1, some (.cells [ii (lf L0 L1 L2 L3 L4 L5 L6 L7 i), ii mk, .int .i64 (.lit 0), .int .u64 (.lit 0), .int .i64 (.lit 0), .int .i64 (.lit 0), .int .i64 (.lit 0), .int .i64 (.lit 0), .int .i64 (.lit 0), .int .i64 (.lit 0), .int .i64 (.lit 0)] 112))], 2, []⟩
section
variable {root N L0 L1 L2 L3 L4 L5 L6 L7 mk : Int} {d0 d1 d2 d3 d4 d5 d6 d7 d8 d9 d10 d11 d13 d14 rt sh : VV} (hN : 0 ≤ N ∧ N ≤ 8) (E : Ctx MObj) (hE : E.nid0 = 1) (hT : E.top = 9) (hD : ∀ b, 1 ≤ b → E.D b) (h0 : E.D 0)
include hN hE hT hD h0
theorem bodyA {i : Int} (hi : 0 ≤ i ∧ i < N) (ys js : Nat → SV) : Tri MS Try.prog E (at' [true, true, false, false]) (SA root i N L0 L1 L2 L3 L4 L5 L6 L7 mk d0 d1 d2 d3 d4 d5 d6 d7 d8 d9 d10 d11 d13 d14 rt sh ys js) fun x st => (x = .exit 1 ∧ (i < root ∨ lf L0 L1 L2 L3 L4 L5 L6 L7 i = 0) ∧ ∃ ys js, st = SA root i N L0 L1 L2 L3 L4 L5 L6 L7 mk d0 d1 d2 d3 d4 d5 d6 d7 d8 d9 d10 d11 d13 d14 rt sh ys js) ∨ (x = .ret ∧ ¬ (i < root ∨ lf L0 L1 L2 L3 L4 L5 L6 L7 i = 0) ∧ ∃ ys js, st = FA root i N L0 L1 L2 L3 L4 L5 L6 L7 mk d0 d1 d2 d3 d4 d5 d6 d7 d8 d9 d10 d11 d13 d14 rt sh ys js) := by
  have hd : ∀ (l : List Nat), l.all (fun b => Nat.beq b 0 || Nat.ble 1 b) = true → ∀ b, b ∈ l → E.D b := fun l hl b hb => by
    have := List.all_eq_true.1 hl b hb
    simp only [Bool.or_eq_true] at this
    rcases this with h | h
    · rw [Nat.eq_of_beq_eq_true h]; exact h0
    · exact hD b (Nat.le_of_ble_eq_true h)
  have ht : ∀ {k : Nat}, Nat.ble k 9 = true → k ≤ E.top := fun h => by rw [hT]; exact Nat.le_of_ble_eq_true h
  have ys1 : Nat → SV := ys
  refine Tri.allR (m := 16) (n := 42) (codeOK _) (bA root i N L0 L1 L2 L3 L4 L5 L6 L7 mk d0 d1 d2 d3 d4 d5 d6 d7 d8 d9 d10 d11 d13 d14 rt sh ys js hN hi) (Tr.all_ite (fun q => Tr.all_ok ⟨rfl, ht rfl, hd _ rfl, fun js => .inl ⟨rfl, .inl (of_decide_eq_true q), (fun t => if t = 6 then .v (ii i) else ys t), js, rfl⟩⟩) fun q => ?_)
  have q := of_decide_eq_false q
  refine Tr.all_ite (fun hv => ?_) fun hv => ?_
  · have hv : i = 7 := eq_of_beq hv
    have e : lf L0 L1 L2 L3 L4 L5 L6 L7 i = L7 := by rw [hv]; rfl
    exact Tr.all_ite (fun z => Tr.all_ok ⟨rfl, ht rfl, hd _ rfl, fun js => .inl ⟨rfl, .inr (by rw [e]; exact eq_of_beq z), (fun t => if t = 6 then .v (ii i) else ys t), js, rfl⟩⟩) fun z => Tr.all_ok ⟨rfl, ht rfl, hd _ rfl, fun js => .inr ⟨rfl, (by rw [e]; exact not_or.2 ⟨q, by simpa using z⟩), (fun t => if t = 6 then .v (ii i) else ys t), js, by unfold FA; rw [e]; rfl⟩⟩
  have hv7 : i ≠ 7 := fun h => by rw [h] at hv; cases hv
  clear hv
  refine Tr.all_ite (fun hv => ?_) fun hv => ?_
  · have hv : i = 6 := eq_of_beq hv
    have e : lf L0 L1 L2 L3 L4 L5 L6 L7 i = L6 := by rw [hv]; rfl
    exact Tr.all_ite (fun z => Tr.all_ok ⟨rfl, ht rfl, hd _ rfl, fun js => .inl ⟨rfl, .inr (by rw [e]; exact eq_of_beq z), (fun t => if t = 6 then .v (ii i) else ys t), js, rfl⟩⟩) fun z => Tr.all_ok ⟨rfl, ht rfl, hd _ rfl, fun js => .inr ⟨rfl, (by rw [e]; exact not_or.2 ⟨q, by simpa using z⟩), (fun t => if t = 6 then .v (ii i) else ys t), js, by unfold FA; rw [e]; rfl⟩⟩
  have hv6 : i ≠ 6 := fun h => by rw [h] at hv; cases hv
  clear hv
  refine Tr.all_ite (fun hv => ?_) fun hv => ?_
  · have hv : i = 5 := eq_of_beq hv
    have e : lf L0 L1 L2 L3 L4 L5 L6 L7 i = L5 := by rw [hv]; rfl
    exact Tr.all_ite (fun z => Tr.all_ok ⟨rfl, ht rfl, hd _ rfl, fun js => .inl ⟨rfl, .inr (by rw [e]; exact eq_of_beq z), (fun t => if t = 6 then .v (ii i) else ys t), js, rfl⟩⟩) fun z => Tr.all_ok ⟨rfl, ht rfl, hd _ rfl, fun js => .inr ⟨rfl, (by rw [e]; exact not_or.2 ⟨q, by simpa using z⟩), (fun t => if t = 6 then .v (ii i) else ys t), js, by unfold FA; rw [e]; rfl⟩⟩
  have hv5 : i ≠ 5 := fun h => by rw [h] at hv; cases hv
  clear hv
  refine Tr.all_ite (fun hv => ?_) fun hv => ?_
  · have hv : i = 4 := eq_of_beq hv
    have e : lf L0 L1 L2 L3 L4 L5 L6 L7 i = L4 := by rw [hv]; rfl
    exact Tr.all_ite (fun z => Tr.all_ok ⟨rfl, ht rfl, hd _ rfl, fun js => .inl ⟨rfl, .inr (by rw [e]; exact eq_of_beq z), (fun t => if t = 6 then .v (ii i) else ys t), js, rfl⟩⟩) fun z => Tr.all_ok ⟨rfl, ht rfl, hd _ rfl, fun js => .inr ⟨rfl, (by rw [e]; exact not_or.2 ⟨q, by simpa using z⟩), (fun t => if t = 6 then .v (ii i) else ys t), js, by unfold FA; rw [e]; rfl⟩⟩
  have hv4 : i ≠ 4 := fun h => by rw [h] at hv; cases hv
  clear hv
  refine Tr.all_ite (fun hv => ?_) fun hv => ?_
  · have hv : i = 3 := eq_of_beq hv
    have e : lf L0 L1 L2 L3 L4 L5 L6 L7 i = L3 := by rw [hv]; rfl
    exact Tr.all_ite (fun z => Tr.all_ok ⟨rfl, ht rfl, hd _ rfl, fun js => .inl ⟨rfl, .inr (by rw [e]; exact eq_of_beq z), (fun t => if t = 6 then .v (ii i) else ys t), js, rfl⟩⟩) fun z => Tr.all_ok ⟨rfl, ht rfl, hd _ rfl, fun js => .inr ⟨rfl, (by rw [e]; exact not_or.2 ⟨q, by simpa using z⟩), (fun t => if t = 6 then .v (ii i) else ys t), js, by unfold FA; rw [e]; rfl⟩⟩
  have hv3 : i ≠ 3 := fun h => by rw [h] at hv; cases hv
  clear hv
  refine Tr.all_ite (fun hv => ?_) fun hv => ?_
  · have hv : i = 2 := eq_of_beq hv
    have e : lf L0 L1 L2 L3 L4 L5 L6 L7 i = L2 := by rw [hv]; rfl
    exact Tr.all_ite (fun z => Tr.all_ok ⟨rfl, ht rfl, hd _ rfl, fun js => .inl ⟨rfl, .inr (by rw [e]; exact eq_of_beq z), (fun t => if t = 6 then .v (ii i) else ys t), js, rfl⟩⟩) fun z => Tr.all_ok ⟨rfl, ht rfl, hd _ rfl, fun js => .inr ⟨rfl, (by rw [e]; exact not_or.2 ⟨q, by simpa using z⟩), (fun t => if t = 6 then .v (ii i) else ys t), js, by unfold FA; rw [e]; rfl⟩⟩
  have hv2 : i ≠ 2 := fun h => by rw [h] at hv; cases hv
  clear hv
  refine Tr.all_ite (fun hv => ?_) fun hv => ?_
  · have hv : i = 1 := eq_of_beq hv
    have e : lf L0 L1 L2 L3 L4 L5 L6 L7 i = L1 := by rw [hv]; rfl
    exact Tr.all_ite (fun z => Tr.all_ok ⟨rfl, ht rfl, hd _ rfl, fun js => .inl ⟨rfl, .inr (by rw [e]; exact eq_of_beq z), (fun t => if t = 6 then .v (ii i) else ys t), js, rfl⟩⟩) fun z => Tr.all_ok ⟨rfl, ht rfl, hd _ rfl, fun js => .inr ⟨rfl, (by rw [e]; exact not_or.2 ⟨q, by simpa using z⟩), (fun t => if t = 6 then .v (ii i) else ys t), js, by unfold FA; rw [e]; rfl⟩⟩
  have hv1 : i ≠ 1 := fun h => by rw [h] at hv; cases hv
  clear hv
  have e : lf L0 L1 L2 L3 L4 L5 L6 L7 i = L0 := by rw [show i = 0 by omega]; rfl
  exact Tr.all_ite (fun z => Tr.all_ok ⟨rfl, ht rfl, hd _ rfl, fun js => .inl ⟨rfl, .inr (by rw [e]; exact eq_of_beq z), (fun t => if t = 6 then .v (ii i) else ys t), js, rfl⟩⟩) fun z => Tr.all_ok ⟨rfl, ht rfl, hd _ rfl, fun js => .inr ⟨rfl, (by rw [e]; exact not_or.2 ⟨q, by simpa using z⟩), (fun t => if t = 6 then .v (ii i) else ys t), js, by unfold FA; rw [e]; rfl⟩⟩
theorem loopA (ys js : Nat → SV) : Tri MS Try.prog E (.block 0 (.loop (at' []))) (SA root 0 N L0 L1 L2 L3 L4 L5 L6 L7 mk d0 d1 d2 d3 d4 d5 d6 d7 d8 d9 d10 d11 d13 d14 rt sh ys js) fun x st => (nx root N (lf L0 L1 L2 L3 L4 L5 L6 L7) 8 0 < N ∧ x = .ret ∧ ∃ ys js, st = FA root (nx root N (lf L0 L1 L2 L3 L4 L5 L6 L7) 8 0) N L0 L1 L2 L3 L4 L5 L6 L7 mk d0 d1 d2 d3 d4 d5 d6 d7 d8 d9 d10 d11 d13 d14 rt sh ys js) ∨ (¬ nx root N (lf L0 L1 L2 L3 L4 L5 L6 L7) 8 0 < N ∧ x = .normal ∧ ∃ i ys js, st = SA root i N L0 L1 L2 L3 L4 L5 L6 L7 mk d0 d1 d2 d3 d4 d5 d6 d7 d8 d9 d10 d11 d13 d14 rt sh ys js) := by
  have hd : ∀ (l : List Nat), l.all (fun b => Nat.beq b 0 || Nat.ble 1 b) = true → ∀ b, b ∈ l → E.D b := fun l hl b hb => by
    have := List.all_eq_true.1 hl b hb
    simp only [Bool.or_eq_true] at this
    rcases this with h | h
    · rw [Nat.eq_of_beq_eq_true h]; exact h0
    · exact hD b (Nat.le_of_ble_eq_true h)
  have ht : ∀ {k : Nat}, Nat.ble k 9 = true → k ≤ E.top := fun h => by rw [hT]; exact Nat.le_of_ble_eq_true h
  refine Tri.block (R := fun x st => (nx root N (lf L0 L1 L2 L3 L4 L5 L6 L7) 8 0 < N ∧ x = .ret ∧ ∃ ys js, st = FA root (nx root N (lf L0 L1 L2 L3 L4 L5 L6 L7) 8 0) N L0 L1 L2 L3 L4 L5 L6 L7 mk d0 d1 d2 d3 d4 d5 d6 d7 d8 d9 d10 d11 d13 d14 rt sh ys js) ∨ (¬ nx root N (lf L0 L1 L2 L3 L4 L5 L6 L7) 8 0 < N ∧ x = .exit 0 ∧ ∃ i ys js, st = SA root i N L0 L1 L2 L3 L4 L5 L6 L7 mk d0 d1 d2 d3 d4 d5 d6 d7 d8 d9 d10 d11 d13 d14 rt sh ys js)) ?_ (fun s hh => by
    rcases hh with hh | hh
    · rcases hh with hh | hh
      · cases hh.2.1
      · cases hh.2.1
    · rcases hh with hh | hh
      · cases hh.2.1
      · exact .inr ⟨hh.1, rfl, hh.2.2⟩) (fun x s h1 h2 hh => by
    rcases hh with hh | hh
    · exact .inl hh
    · exact absurd hh.2.1 h2)
  refine Tri.loop (J := fun q st => ∃ (i : Int) (ys js : Nat → SV), st = SA root i N L0 L1 L2 L3 L4 L5 L6 L7 mk d0 d1 d2 d3 d4 d5 d6 d7 d8 d9 d10 d11 d13 d14 rt sh ys js ∧ 0 ≤ i ∧ i ≤ N ∧ nx root N (lf L0 L1 L2 L3 L4 L5 L6 L7) (8 - i.toNat) i = nx root N (lf L0 L1 L2 L3 L4 L5 L6 L7) 8 0 ∧ q = (8 - i).toNat) ?_ (k := 8) ⟨0, ys, js, rfl, by decide, hN.1, rfl, rfl⟩
  rintro q st ⟨i, ys, js, rfl, h1, h2, h3, rfl⟩
  by_cases hi : i < N
  · refine Tri.listR (m := 16) (n := 42) (l := [at' [false], at' [true, false]]) (c' := .seq (.block 1 (at' [true, true, false, false])) (at' [true, true, true])) codeOK 2 rfl rfl (gA root i N L0 L1 L2 L3 L4 L5 L6 L7 mk d0 d1 d2 d3 d4 d5 d6 d7 d8 d9 d10 d11 d13 d14 rt sh ys js hN) (Tr.all_ite (fun _ => Tr.all_ok ⟨rfl, rfl, ht rfl, hd _ rfl, fun js => ?_⟩) fun hq => absurd hi (of_decide_eq_false hq))
    have hk : 8 - i.toNat = (8 - (i + 1).toNat) + 1 := by omega
    refine Tri.seq (R := fun x st => (x = .normal ∧ (i < root ∨ lf L0 L1 L2 L3 L4 L5 L6 L7 i = 0) ∧ ∃ ys js, st = SA root i N L0 L1 L2 L3 L4 L5 L6 L7 mk d0 d1 d2 d3 d4 d5 d6 d7 d8 d9 d10 d11 d13 d14 rt sh ys js) ∨ (x = .ret ∧ ¬ (i < root ∨ lf L0 L1 L2 L3 L4 L5 L6 L7 i = 0) ∧ ∃ ys js, st = FA root i N L0 L1 L2 L3 L4 L5 L6 L7 mk d0 d1 d2 d3 d4 d5 d6 d7 d8 d9 d10 d11 d13 d14 rt sh ys js))
      (Tri.block (bodyA hN E hE hT hD h0 ⟨h1, hi⟩ ys js) (fun s hh => by
        rcases hh with (hh | hh) | (hh | hh)
        · cases hh.1
        · cases hh.1
        · exact .inl ⟨rfl, hh.2⟩
        · cases hh.1) (fun x s h1 h2 hh => by
        rcases hh with hh | hh
        · exact absurd hh.1 h2
        · exact .inr hh)) ?_ ?_
    · rintro st (⟨_, hc, ys, js, rfl⟩ | ⟨hh, _⟩)
      rotate_left
      · cases hh
      have e5 : W (i + 1) = i + 1 := W_of (by omega) (by omega)
      refine Tri.allR (m := 16) (n := 42) (codeOK _) (iA root i N L0 L1 L2 L3 L4 L5 L6 L7 mk d0 d1 d2 d3 d4 d5 d6 d7 d8 d9 d10 d11 d13 d14 rt sh ys js hN ⟨h1, hi⟩) (Tr.all_ok ⟨rfl, ht rfl, hd _ rfl, fun js => ⟨(8 - (i + 1)).toNat, by omega, i + 1, ys, js, ?_, by omega, by omega, ?_, rfl⟩⟩)
      · show (⟨pre root 1 ys N (W (i + 1)) ++ junk js 42 16, [(0, some (pc0 d0 d1 d2 d3 d4 d5 d6 d7 d8 d9 d10 d11 (ii mk) d13 d14 N L0 L1 L2 L3 L4 L5 L6 L7 (.int .i64 (.lit 4)) rt sh))], 1, []⟩ : St MObj) = _
        rw [e5]
      · rw [← h3, hk, nx_cont hi hc]
    · rintro x st hx (⟨hh, _⟩ | ⟨rfl, hc, ys, js, rfl⟩)
      · exact absurd hh hx
      · have : nx root N (lf L0 L1 L2 L3 L4 L5 L6 L7) 8 0 = i := by rw [← h3, hk, nx_found hi hc]
        rw [this]
        exact .inl ⟨hi, rfl, ys, js, rfl⟩
  · have hR : nx root N (lf L0 L1 L2 L3 L4 L5 L6 L7) 8 0 = N := by rw [← h3, nx_end hi]
    refine Tri.mono (Q := fun x st => x = .exit 0 ∧ ∃ js, st = SA root i N L0 L1 L2 L3 L4 L5 L6 L7 mk d0 d1 d2 d3 d4 d5 d6 d7 d8 d9 d10 d11 d13 d14 rt sh ys js) ?_ (fun x s hh => by
      obtain ⟨rfl, js, rfl⟩ := hh
      exact .inr ⟨by rw [hR]; exact Int.lt_irrefl _, rfl, i, ys, js, rfl⟩)
    exact Tri.allR (m := 16) (n := 42) (codeOK _) (gAx root i N L0 L1 L2 L3 L4 L5 L6 L7 mk d0 d1 d2 d3 d4 d5 d6 d7 d8 d9 d10 d11 d13 d14 rt sh ys js hN hi) (Tr.all_ok ⟨rfl, ht rfl, hd _ rfl, fun js => ⟨rfl, js, rfl⟩⟩)
end
abbrev SB (root i N L0 L1 L2 L3 L4 L5 L6 L7 mk : Int) (d0 d1 d2 d3 d4 d5 d6 d7 d8 d9 d10 d11 d13 d14 rt sh : VV) (oz : Option (VObj MObj)) (ys : Nat → SV) (js : Nat → SV) : St MObj := ⟨pre root 1 ys N i ++ junk js 42 16, [(0, some (pc0 d0 d1 d2 d3 d4 d5 d6 d7 d8 d9 d10 d11 (ii mk) d13 d14 N L0 L1 L2 L3 L4 L5 L6 L7 (.int .i64 (.lit 4)) rt sh)), (1, oz)], 2, []⟩
abbrev FB (root i N L0 L1 L2 L3 L4 L5 L6 L7 mk : Int) (d0 d1 d2 d3 d4 d5 d6 d7 d8 d9 d10 d11 d13 d14 rt sh : VV) (oz : Option (VObj MObj)) (ys : Nat → SV) (js : Nat → SV) : St MObj := ⟨pre root 1 ys N i ++ junk js 42 16, [(0, some (pc0 d0 d1 d2 d3 d4 d5 d6 d7 d8 d9 d10 d11 (ii mk) d13 d14 N L0 L1 L2 L3 L4 L5 L6 L7 (.int .i64 (.lit 1)) (ii i) (.ptr 2 0))), (1, oz), (2, some (.cells [ii (lf L0 L1 L2 L3 L4 L5 L6 L7 i), ii mk, .int .i64 (.lit 0), .int .u64 (.lit 0), .int .i64 (.lit 0), .int .i64 (.lit 0), .int .i64 (.lit 0), .int .i64 (.lit 0), .int .i64 (.lit 0), .int .i64 (.lit 0), .int .i64 (.lit 0)] 112))], 3, []⟩
section
variable {root N L0 L1 L2 L3 L4 L5 L6 L7 mk : Int} {d0 d1 d2 d3 d4 d5 d6 d7 d8 d9 d10 d11 d13 d14 rt sh : VV} {oz : Option (VObj MObj)} (hN : 0 ≤ N ∧ N ≤ 8) (E : Ctx MObj) (hE : E.nid0 = 2) (hT : E.top = 9) (hD : ∀ b, 2 ≤ b → E.D b) (h0 : E.D 0)
include hN hE hT hD h0
theorem bodyB {i : Int} (hi : 0 ≤ i ∧ i < N) (ys js : Nat → SV) : Tri MS Try.prog E (at' [true, true, false, false]) (SB root i N L0 L1 L2 L3 L4 L5 L6 L7 mk d0 d1 d2 d3 d4 d5 d6 d7 d8 d9 d10 d11 d13 d14 rt sh oz ys js) fun x st => (x = .exit 1 ∧ (i < root ∨ lf L0 L1 L2 L3 L4 L5 L6 L7 i = 0) ∧ ∃ ys js, st = SB root i N L0 L1 L2 L3 L4 L5 L6 L7 mk d0 d1 d2 d3 d4 d5 d6 d7 d8 d9 d10 d11 d13 d14 rt sh oz ys js) ∨ (x = .ret ∧ ¬ (i < root ∨ lf L0 L1 L2 L3 L4 L5 L6 L7 i = 0) ∧ ∃ ys js, st = FB root i N L0 L1 L2 L3 L4 L5 L6 L7 mk d0 d1 d2 d3 d4 d5 d6 d7 d8 d9 d10 d11 d13 d14 rt sh oz ys js) := by
  have hd : ∀ (l : List Nat), l.all (fun b => Nat.beq b 0 || Nat.ble 2 b) = true → ∀ b, b ∈ l → E.D b := fun l hl b hb => by
    have := List.all_eq_true.1 hl b hb
    simp only [Bool.or_eq_true] at this
    rcases this with h | h
    · rw [Nat.eq_of_beq_eq_true h]; exact h0
    · exact hD b (Nat.le_of_ble_eq_true h)
  have ht : ∀ {k : Nat}, Nat.ble k 9 = true → k ≤ E.top := fun h => by rw [hT]; exact Nat.le_of_ble_eq_true h
  have ys1 : Nat → SV := ys
  refine Tri.allR (m := 16) (n := 42) (codeOK _) (bB root i N L0 L1 L2 L3 L4 L5 L6 L7 mk d0 d1 d2 d3 d4 d5 d6 d7 d8 d9 d10 d11 d13 d14 rt sh ys js oz hN hi) (Tr.all_ite (fun q => Tr.all_ok ⟨rfl, ht rfl, hd _ rfl, fun js => .inl ⟨rfl, .inl (of_decide_eq_true q), (fun t => if t = 6 then .v (ii i) else ys t), js, rfl⟩⟩) fun q => ?_)
  have q := of_decide_eq_false q
  refine Tr.all_ite (fun hv => ?_) fun hv => ?_
  · have hv : i = 7 := eq_of_beq hv
    have e : lf L0 L1 L2 L3 L4 L5 L6 L7 i = L7 := by rw [hv]; rfl
    exact Tr.all_ite (fun z => Tr.all_ok ⟨rfl, ht rfl, hd _ rfl, fun js => .inl ⟨rfl, .inr (by rw [e]; exact eq_of_beq z), (fun t => if t = 6 then .v (ii i) else ys t), js, rfl⟩⟩) fun z => Tr.all_ok ⟨rfl, ht rfl, hd _ rfl, fun js => .inr ⟨rfl, (by rw [e]; exact not_or.2 ⟨q, by simpa using z⟩), (fun t => if t = 6 then .v (ii i) else ys t), js, by unfold FB; rw [e]; rfl⟩⟩
  have hv7 : i ≠ 7 := fun h => by rw [h] at hv; cases hv
  clear hv
  refine Tr.all_ite (fun hv => ?_) fun hv => ?_
  · have hv : i = 6 := eq_of_beq hv
    have e : lf L0 L1 L2 L3 L4 L5 L6 L7 i = L6 := by rw [hv]; rfl
    exact Tr.all_ite (fun z => Tr.all_ok ⟨rfl, ht rfl, hd _ rfl, fun js => .inl ⟨rfl, .inr (by rw [e]; exact eq_of_beq z), (fun t => if t = 6 then .v (ii i) else ys t), js, rfl⟩⟩) fun z => Tr.all_ok ⟨rfl, ht rfl, hd _ rfl, fun js => .inr ⟨rfl, (by rw [e]; exact not_or.2 ⟨q, by simpa using z⟩), (fun t => if t = 6 then .v (ii i) else ys t), js, by unfold FB; rw [e]; rfl⟩⟩
  have hv6 : i ≠ 6 := fun h => by rw [h] at hv; cases hv
  clear hv
  refine Tr.all_ite (fun hv => ?_) fun hv => ?_
  · have hv : i = 5 := eq_of_beq hv
    have e : lf L0 L1 L2 L3 L4 L5 L6 L7 i = L5 := by rw [hv]; rfl
    exact Tr.all_ite (fun z => Tr.all_ok ⟨rfl, ht rfl, hd _ rfl, fun js => .inl ⟨rfl, .inr (by rw [e]; exact eq_of_beq z), (fun t => if t = 6 then .v (ii i) else ys t), js, rfl⟩⟩) fun z => Tr.all_ok ⟨rfl, ht rfl, hd _ rfl, fun js => .inr ⟨rfl, (by rw [e]; exact not_or.2 ⟨q, by simpa using z⟩), (fun t => if t = 6 then .v (ii i) else ys t), js, by unfold FB; rw [e]; rfl⟩⟩
  have hv5 : i ≠ 5 := fun h => by rw [h] at hv; cases hv
  clear hv
  refine Tr.all_ite (fun hv => ?_) fun hv => ?_
  · have hv : i = 4 := eq_of_beq hv
    have e : lf L0 L1 L2 L3 L4 L5 L6 L7 i = L4 := by rw [hv]; rfl
    exact Tr.all_ite (fun z => Tr.all_ok ⟨rfl, ht rfl, hd _ rfl, fun js => .inl ⟨rfl, .inr (by rw [e]; exact eq_of_beq z), (fun t => if t = 6 then .v (ii i) else ys t), js, rfl⟩⟩) fun z => Tr.all_ok ⟨rfl, ht rfl, hd _ rfl, fun js => .inr ⟨rfl, (by rw [e]; exact not_or.2 ⟨q, by simpa using z⟩), (fun t => if t = 6 then .v (ii i) else ys t), js, by unfold FB; rw [e]; rfl⟩⟩
  have hv4 : i ≠ 4 := fun h => by rw [h] at hv; cases hv
  clear hv
  refine Tr.all_ite (fun hv => ?_) fun hv => ?_
  · have hv : i = 3 := eq_of_beq hv
    have e : lf L0 L1 L2 L3 L4 L5 L6 L7 i = L3 := by rw [hv]; rfl
    exact Tr.all_ite (fun z => Tr.all_ok ⟨rfl, ht rfl, hd _ rfl, fun js => .inl ⟨rfl, .inr (by rw [e]; exact eq_of_beq z), (fun t => if t = 6 then .v (ii i) else ys t), js, rfl⟩⟩) fun z => Tr.all_ok ⟨rfl, ht rfl, hd _ rfl, fun js => .inr ⟨rfl, (by rw [e]; exact not_or.2 ⟨q, by simpa using z⟩), (fun t => if t = 6 then .v (ii i) else ys t), js, by unfold FB; rw [e]; rfl⟩⟩
  have hv3 : i ≠ 3 := fun h => by rw [h] at hv; cases hv
  clear hv
  refine Tr.all_ite (fun hv => ?_) fun hv => ?_
  · have hv : i = 2 := eq_of_beq hv
    have e : lf L0 L1 L2 L3 L4 L5 L6 L7 i = L2 := by rw [hv]; rfl
    exact Tr.all_ite (fun z => Tr.all_ok ⟨rfl, ht rfl, hd _ rfl, fun js => .inl ⟨rfl, .inr (by rw [e]; exact eq_of_beq z), (fun t => if t = 6 then .v (ii i) else ys t), js, rfl⟩⟩) fun z => Tr.all_ok ⟨rfl, ht rfl, hd _ rfl, fun js => .inr ⟨rfl, (by rw [e]; exact not_or.2 ⟨q, by simpa using z⟩), (fun t => if t = 6 then .v (ii i) else ys t), js, by unfold FB; rw [e]; rfl⟩⟩
  have hv2 : i ≠ 2 := fun h => by rw [h] at hv; cases hv
  clear hv
  refine Tr.all_ite (fun hv => ?_) fun hv => ?_
  · have hv : i = 1 := eq_of_beq hv
    have e : lf L0 L1 L2 L3 L4 L5 L6 L7 i = L1 := by rw [hv]; rfl
    exact Tr.all_ite (fun z => Tr.all_ok ⟨rfl, ht rfl, hd _ rfl, fun js => .inl ⟨rfl, .inr (by rw [e]; exact eq_of_beq z), (fun t => if t = 6 then .v (ii i) else ys t), js, rfl⟩⟩) fun z => Tr.all_ok ⟨rfl, ht rfl, hd _ rfl, fun js => .inr ⟨rfl, (by rw [e]; exact not_or.2 ⟨q, by simpa using z⟩), (fun t => if t = 6 then .v (ii i) else ys t), js, by unfold FB; rw [e]; rfl⟩⟩
  have hv1 : i ≠ 1 := fun h => by rw [h] at hv; cases hv
  clear hv
  have e : lf L0 L1 L2 L3 L4 L5 L6 L7 i = L0 := by rw [show i = 0 by omega]; rfl
  exact Tr.all_ite (fun z => Tr.all_ok ⟨rfl, ht rfl, hd _ rfl, fun js => .inl ⟨rfl, .inr (by rw [e]; exact eq_of_beq z), (fun t => if t = 6 then .v (ii i) else ys t), js, rfl⟩⟩) fun z => Tr.all_ok ⟨rfl, ht rfl, hd _ rfl, fun js => .inr ⟨rfl, (by rw [e]; exact not_or.2 ⟨q, by simpa using z⟩), (fun t => if t = 6 then .v (ii i) else ys t), js, by unfold FB; rw [e]; rfl⟩⟩
theorem loopB (ys js : Nat → SV) : Tri MS Try.prog E (.block 0 (.loop (at' []))) (SB root 0 N L0 L1 L2 L3 L4 L5 L6 L7 mk d0 d1 d2 d3 d4 d5 d6 d7 d8 d9 d10 d11 d13 d14 rt sh oz ys js) fun x st => (nx root N (lf L0 L1 L2 L3 L4 L5 L6 L7) 8 0 < N ∧ x = .ret ∧ ∃ ys js, st = FB root (nx root N (lf L0 L1 L2 L3 L4 L5 L6 L7) 8 0) N L0 L1 L2 L3 L4 L5 L6 L7 mk d0 d1 d2 d3 d4 d5 d6 d7 d8 d9 d10 d11 d13 d14 rt sh oz ys js) ∨ (¬ nx root N (lf L0 L1 L2 L3 L4 L5 L6 L7) 8 0 < N ∧ x = .normal ∧ ∃ i ys js, st = SB root i N L0 L1 L2 L3 L4 L5 L6 L7 mk d0 d1 d2 d3 d4 d5 d6 d7 d8 d9 d10 d11 d13 d14 rt sh oz ys js) := by
  have hd : ∀ (l : List Nat), l.all (fun b => Nat.beq b 0 || Nat.ble 2 b) = true → ∀ b, b ∈ l → E.D b := fun l hl b hb => by
    have := List.all_eq_true.1 hl b hb
    simp only [Bool.or_eq_true] at this
    rcases this with h | h
    · rw [Nat.eq_of_beq_eq_true h]; exact h0
    · exact hD b (Nat.le_of_ble_eq_true h)
  have ht : ∀ {k : Nat}, Nat.ble k 9 = true → k ≤ E.top := fun h => by rw [hT]; exact Nat.le_of_ble_eq_true h
  refine Tri.block (R := fun x st => (nx root N (lf L0 L1 L2 L3 L4 L5 L6 L7) 8 0 < N ∧ x = .ret ∧ ∃ ys js, st = FB root (nx root N (lf L0 L1 L2 L3 L4 L5 L6 L7) 8 0) N L0 L1 L2 L3 L4 L5 L6 L7 mk d0 d1 d2 d3 d4 d5 d6 d7 d8 d9 d10 d11 d13 d14 rt sh oz ys js) ∨ (¬ nx root N (lf L0 L1 L2 L3 L4 L5 L6 L7) 8 0 < N ∧ x = .exit 0 ∧ ∃ i ys js, st = SB root i N L0 L1 L2 L3 L4 L5 L6 L7 mk d0 d1 d2 d3 d4 d5 d6 d7 d8 d9 d10 d11 d13 d14 rt sh oz ys js)) ?_ (fun s hh => by
    rcases hh with hh | hh
    · rcases hh with hh | hh
      · cases hh.2.1
      · cases hh.2.1
    · rcases hh with hh | hh
      · cases hh.2.1
      · exact .inr ⟨hh.1, rfl, hh.2.2⟩) (fun x s h1 h2 hh => by
    rcases hh with hh | hh
    · exact .inl hh
    · exact absurd hh.2.1 h2)
  refine Tri.loop (J := fun q st => ∃ (i : Int) (ys js : Nat → SV), st = SB root i N L0 L1 L2 L3 L4 L5 L6 L7 mk d0 d1 d2 d3 d4 d5 d6 d7 d8 d9 d10 d11 d13 d14 rt sh oz ys js ∧ 0 ≤ i ∧ i ≤ N ∧ nx root N (lf L0 L1 L2 L3 L4 L5 L6 L7) (8 - i.toNat) i = nx root N (lf L0 L1 L2 L3 L4 L5 L6 L7) 8 0 ∧ q = (8 - i).toNat) ?_ (k := 8) ⟨0, ys, js, rfl, by decide, hN.1, rfl, rfl⟩
  rintro q st ⟨i, ys, js, rfl, h1, h2, h3, rfl⟩
  by_cases hi : i < N
  · refine Tri.listR (m := 16) (n := 42) (l := [at' [false], at' [true, false]]) (c' := .seq (.block 1 (at' [true, true, false, false])) (at' [true, true, true])) codeOK 2 rfl rfl (gB root i N L0 L1 L2 L3 L4 L5 L6 L7 mk d0 d1 d2 d3 d4 d5 d6 d7 d8 d9 d10 d11 d13 d14 rt sh ys js oz hN) (Tr.all_ite (fun _ => Tr.all_ok ⟨rfl, rfl, ht rfl, hd _ rfl, fun js => ?_⟩) fun hq => absurd hi (of_decide_eq_false hq))
    have hk : 8 - i.toNat = (8 - (i + 1).toNat) + 1 := by omega
    refine Tri.seq (R := fun x st => (x = .normal ∧ (i < root ∨ lf L0 L1 L2 L3 L4 L5 L6 L7 i = 0) ∧ ∃ ys js, st = SB root i N L0 L1 L2 L3 L4 L5 L6 L7 mk d0 d1 d2 d3 d4 d5 d6 d7 d8 d9 d10 d11 d13 d14 rt sh oz ys js) ∨ (x = .ret ∧ ¬ (i < root ∨ lf L0 L1 L2 L3 L4 L5 L6 L7 i = 0) ∧ ∃ ys js, st = FB root i N L0 L1 L2 L3 L4 L5 L6 L7 mk d0 d1 d2 d3 d4 d5 d6 d7 d8 d9 d10 d11 d13 d14 rt sh oz ys js))
      (Tri.block (bodyB hN E hE hT hD h0 ⟨h1, hi⟩ ys js) (fun s hh => by
        rcases hh with (hh | hh) | (hh | hh)
        · cases hh.1
        · cases hh.1
        · exact .inl ⟨rfl, hh.2⟩
        · cases hh.1) (fun x s h1 h2 hh => by
        rcases hh with hh | hh
        · exact absurd hh.1 h2
        · exact .inr hh)) ?_ ?_
    · rintro st (⟨_, hc, ys, js, rfl⟩ | ⟨hh, _⟩)
      rotate_left
      · cases hh
      have e5 : W (i + 1) = i + 1 := W_of (by omega) (by omega)
      refine Tri.allR (m := 16) (n := 42) (codeOK _) (iB root i N L0 L1 L2 L3 L4 L5 L6 L7 mk d0 d1 d2 d3 d4 d5 d6 d7 d8 d9 d10 d11 d13 d14 rt sh ys js oz hN ⟨h1, hi⟩) (Tr.all_ok ⟨rfl, ht rfl, hd _ rfl, fun js => ⟨(8 - (i + 1)).toNat, by omega, i + 1, ys, js, ?_, by omega, by omega, ?_, rfl⟩⟩)
      · show (⟨pre root 1 ys N (W (i + 1)) ++ junk js 42 16, [(0, some (pc0 d0 d1 d2 d3 d4 d5 d6 d7 d8 d9 d10 d11 (ii mk) d13 d14 N L0 L1 L2 L3 L4 L5 L6 L7 (.int .i64 (.lit 4)) rt sh)), (1, oz)], 2, []⟩ : St MObj) = _
        rw [e5]
      · rw [← h3, hk, nx_cont hi hc]
    · rintro x st hx (⟨hh, _⟩ | ⟨rfl, hc, ys, js, rfl⟩)
      · exact absurd hh hx
      · have : nx root N (lf L0 L1 L2 L3 L4 L5 L6 L7) 8 0 = i := by rw [← h3, hk, nx_found hi hc]
        rw [this]
        exact .inl ⟨hi, rfl, ys, js, rfl⟩
  · have hR : nx root N (lf L0 L1 L2 L3 L4 L5 L6 L7) 8 0 = N := by rw [← h3, nx_end hi]
    refine Tri.mono (Q := fun x st => x = .exit 0 ∧ ∃ js, st = SB root i N L0 L1 L2 L3 L4 L5 L6 L7 mk d0 d1 d2 d3 d4 d5 d6 d7 d8 d9 d10 d11 d13 d14 rt sh oz ys js) ?_ (fun x s hh => by
      obtain ⟨rfl, js, rfl⟩ := hh
      exact .inr ⟨by rw [hR]; exact Int.lt_irrefl _, rfl, i, ys, js, rfl⟩)
    exact Tri.allR (m := 16) (n := 42) (codeOK _) (gBx root i N L0 L1 L2 L3 L4 L5 L6 L7 mk d0 d1 d2 d3 d4 d5 d6 d7 d8 d9 d10 d11 d13 d14 rt sh ys js oz hN hi) (Tr.all_ok ⟨rfl, ht rfl, hd _ rfl, fun js => ⟨rfl, js, rfl⟩⟩)
end
abbrev SC (root i N L0 L1 L2 L3 L4 L5 L6 L7 mk : Int) (d0 d1 d2 d3 d4 d5 d6 d7 d8 d9 d10 d11 d13 d14 rt sh : VV) (ys : Nat → SV) (js : Nat → SV) : St MObj := ⟨pre root 3 ys N i ++ junk js 42 16, [(0, some (pc0 d0 d1 d2 d3 d4 d5 d6 d7 d8 d9 d10 d11 (ii mk) d13 d14 N L0 L1 L2 L3 L4 L5 L6 L7 (.int .i64 (.lit 4)) rt sh))], 1, []⟩
abbrev FC (root i N L0 L1 L2 L3 L4 L5 L6 L7 mk : Int) (d0 d1 d2 d3 d4 d5 d6 d7 d8 d9 d10 d11 d13 d14 rt sh : VV) (ys : Nat → SV) (js : Nat → SV) : St MObj := ⟨pre root 3 ys N i ++ junk js 42 16, [(0, some (pc0 d0 d1 d2 d3 d4 d5 d6 d7 d8 d9 d10 d11 (ii mk) d13 d14 N L0 L1 L2 L3 L4 L5 L6 L7 (.int .i64 (.lit 3)) (ii i) sh))], 1, []⟩
section
variable {root N L0 L1 L2 L3 L4 L5 L6 L7 mk : Int} {d0 d1 d2 d3 d4 d5 d6 d7 d8 d9 d10 d11 d13 d14 rt sh : VV} (hN : 0 ≤ N ∧ N ≤ 8) (E : Ctx MObj) (hE : E.nid0 = 1) (hT : E.top = 9) (hD : ∀ b, 1 ≤ b → E.D b) (h0 : E.D 0)
include hN hE hT hD h0
theorem bodyC {i : Int} (hi : 0 ≤ i ∧ i < N) (ys js : Nat → SV) : Tri MS Try.prog E (at' [true, true, false, false]) (SC root i N L0 L1 L2 L3 L4 L5 L6 L7 mk d0 d1 d2 d3 d4 d5 d6 d7 d8 d9 d10 d11 d13 d14 rt sh ys js) fun x st => (x = .exit 1 ∧ (i < root ∨ lf L0 L1 L2 L3 L4 L5 L6 L7 i = 0) ∧ ∃ ys js, st = SC root i N L0 L1 L2 L3 L4 L5 L6 L7 mk d0 d1 d2 d3 d4 d5 d6 d7 d8 d9 d10 d11 d13 d14 rt sh ys js) ∨ (x = .ret ∧ ¬ (i < root ∨ lf L0 L1 L2 L3 L4 L5 L6 L7 i = 0) ∧ ∃ ys js, st = FC root i N L0 L1 L2 L3 L4 L5 L6 L7 mk d0 d1 d2 d3 d4 d5 d6 d7 d8 d9 d10 d11 d13 d14 rt sh ys js) := by
  have hd : ∀ (l : List Nat), l.all (fun b => Nat.beq b 0 || Nat.ble 1 b) = true → ∀ b, b ∈ l → E.D b := fun l hl b hb => by
    have := List.all_eq_true.1 hl b hb
    simp only [Bool.or_eq_true] at this
    rcases this with h | h
    · rw [Nat.eq_of_beq_eq_true h]; exact h0
    · exact hD b (Nat.le_of_ble_eq_true h)
  have ht : ∀ {k : Nat}, Nat.ble k 9 = true → k ≤ E.top := fun h => by rw [hT]; exact Nat.le_of_ble_eq_true h
  have ys1 : Nat → SV := ys
  refine Tri.allR (m := 16) (n := 42) (codeOK _) (bC root i N L0 L1 L2 L3 L4 L5 L6 L7 mk d0 d1 d2 d3 d4 d5 d6 d7 d8 d9 d10 d11 d13 d14 rt sh ys js hN hi) (Tr.all_ite (fun q => Tr.all_ok ⟨rfl, ht rfl, hd _ rfl, fun js => .inl ⟨rfl, .inl (of_decide_eq_true q), (fun t => if t = 6 then .v (ii i) else ys t), js, rfl⟩⟩) fun q => ?_)
  have q := of_decide_eq_false q
  refine Tr.all_ite (fun hv => ?_) fun hv => ?_
  · have hv : i = 7 := eq_of_beq hv
    have e : lf L0 L1 L2 L3 L4 L5 L6 L7 i = L7 := by rw [hv]; rfl
    exact Tr.all_ite (fun z => Tr.all_ok ⟨rfl, ht rfl, hd _ rfl, fun js => .inl ⟨rfl, .inr (by rw [e]; exact eq_of_beq z), (fun t => if t = 6 then .v (ii i) else ys t), js, rfl⟩⟩) fun z => Tr.all_ok ⟨rfl, ht rfl, hd _ rfl, fun js => .inr ⟨rfl, (by rw [e]; exact not_or.2 ⟨q, by simpa using z⟩), (fun t => if t = 6 then .v (ii i) else ys t), js, rfl⟩⟩
  have hv7 : i ≠ 7 := fun h => by rw [h] at hv; cases hv
  clear hv
  refine Tr.all_ite (fun hv => ?_) fun hv => ?_
  · have hv : i = 6 := eq_of_beq hv
    have e : lf L0 L1 L2 L3 L4 L5 L6 L7 i = L6 := by rw [hv]; rfl
    exact Tr.all_ite (fun z => Tr.all_ok ⟨rfl, ht rfl, hd _ rfl, fun js => .inl ⟨rfl, .inr (by rw [e]; exact eq_of_beq z), (fun t => if t = 6 then .v (ii i) else ys t), js, rfl⟩⟩) fun z => Tr.all_ok ⟨rfl, ht rfl, hd _ rfl, fun js => .inr ⟨rfl, (by rw [e]; exact not_or.2 ⟨q, by simpa using z⟩), (fun t => if t = 6 then .v (ii i) else ys t), js, rfl⟩⟩
  have hv6 : i ≠ 6 := fun h => by rw [h] at hv; cases hv
  clear hv
  refine Tr.all_ite (fun hv => ?_) fun hv => ?_
  · have hv : i = 5 := eq_of_beq hv
    have e : lf L0 L1 L2 L3 L4 L5 L6 L7 i = L5 := by rw [hv]; rfl
    exact Tr.all_ite (fun z => Tr.all_ok ⟨rfl, ht rfl, hd _ rfl, fun js => .inl ⟨rfl, .inr (by rw [e]; exact eq_of_beq z), (fun t => if t = 6 then .v (ii i) else ys t), js, rfl⟩⟩) fun z => Tr.all_ok ⟨rfl, ht rfl, hd _ rfl, fun js => .inr ⟨rfl, (by rw [e]; exact not_or.2 ⟨q, by simpa using z⟩), (fun t => if t = 6 then .v (ii i) else ys t), js, rfl⟩⟩
  have hv5 : i ≠ 5 := fun h => by rw [h] at hv; cases hv
  clear hv
  refine Tr.all_ite (fun hv => ?_) fun hv => ?_
  · have hv : i = 4 := eq_of_beq hv
    have e : lf L0 L1 L2 L3 L4 L5 L6 L7 i = L4 := by rw [hv]; rfl
    exact Tr.all_ite (fun z => Tr.all_ok ⟨rfl, ht rfl, hd _ rfl, fun js => .inl ⟨rfl, .inr (by rw [e]; exact eq_of_beq z), (fun t => if t = 6 then .v (ii i) else ys t), js, rfl⟩⟩) fun z => Tr.all_ok ⟨rfl, ht rfl, hd _ rfl, fun js => .inr ⟨rfl, (by rw [e]; exact not_or.2 ⟨q, by simpa using z⟩), (fun t => if t = 6 then .v (ii i) else ys t), js, rfl⟩⟩
  have hv4 : i ≠ 4 := fun h => by rw [h] at hv; cases hv
  clear hv
  refine Tr.all_ite (fun hv => ?_) fun hv => ?_
  · have hv : i = 3 := eq_of_beq hv
    have e : lf L0 L1 L2 L3 L4 L5 L6 L7 i = L3 := by rw [hv]; rfl
    exact Tr.all_ite (fun z => Tr.all_ok ⟨rfl, ht rfl, hd _ rfl, fun js => .inl ⟨rfl, .inr (by rw [e]; exact eq_of_beq z), (fun t => if t = 6 then .v (ii i) else ys t), js, rfl⟩⟩) fun z => Tr.all_ok ⟨rfl, ht rfl, hd _ rfl, fun js => .inr ⟨rfl, (by rw [e]; exact not_or.2 ⟨q, by simpa using z⟩), (fun t => if t = 6 then .v (ii i) else ys t), js, rfl⟩⟩
  have hv3 : i ≠ 3 := fun h => by rw [h] at hv; cases hv
  clear hv
  refine Tr.all_ite (fun hv => ?_) fun hv => ?_
  · have hv : i = 2 := eq_of_beq hv
    have e : lf L0 L1 L2 L3 L4 L5 L6 L7 i = L2 := by rw [hv]; rfl
    exact Tr.all_ite (fun z => Tr.all_ok ⟨rfl, ht rfl, hd _ rfl, fun js => .inl ⟨rfl, .inr (by rw [e]; exact eq_of_beq z), (fun t => if t = 6 then .v (ii i) else ys t), js, rfl⟩⟩) fun z => Tr.all_ok ⟨rfl, ht rfl, hd _ rfl, fun js => .inr ⟨rfl, (by rw [e]; exact not_or.2 ⟨q, by simpa using z⟩), (fun t => if t = 6 then .v (ii i) else ys t), js, rfl⟩⟩
  have hv2 : i ≠ 2 := fun h => by rw [h] at hv; cases hv
  clear hv
  refine Tr.all_ite (fun hv => ?_) fun hv => ?_
  · have hv : i = 1 := eq_of_beq hv
    have e : lf L0 L1 L2 L3 L4 L5 L6 L7 i = L1 := by rw [hv]; rfl
    exact Tr.all_ite (fun z => Tr.all_ok ⟨rfl, ht rfl, hd _ rfl, fun js => .inl ⟨rfl, .inr (by rw [e]; exact eq_of_beq z), (fun t => if t = 6 then .v (ii i) else ys t), js, rfl⟩⟩) fun z => Tr.all_ok ⟨rfl, ht rfl, hd _ rfl, fun js => .inr ⟨rfl, (by rw [e]; exact not_or.2 ⟨q, by simpa using z⟩), (fun t => if t = 6 then .v (ii i) else ys t), js, rfl⟩⟩
  have hv1 : i ≠ 1 := fun h => by rw [h] at hv; cases hv
  clear hv
  have e : lf L0 L1 L2 L3 L4 L5 L6 L7 i = L0 := by rw [show i = 0 by omega]; rfl
  exact Tr.all_ite (fun z => Tr.all_ok ⟨rfl, ht rfl, hd _ rfl, fun js => .inl ⟨rfl, .inr (by rw [e]; exact eq_of_beq z), (fun t => if t = 6 then .v (ii i) else ys t), js, rfl⟩⟩) fun z => Tr.all_ok ⟨rfl, ht rfl, hd _ rfl, fun js => .inr ⟨rfl, (by rw [e]; exact not_or.2 ⟨q, by simpa using z⟩), (fun t => if t = 6 then .v (ii i) else ys t), js, rfl⟩⟩
theorem loopC (ys js : Nat → SV) : Tri MS Try.prog E (.block 0 (.loop (at' []))) (SC root 0 N L0 L1 L2 L3 L4 L5 L6 L7 mk d0 d1 d2 d3 d4 d5 d6 d7 d8 d9 d10 d11 d13 d14 rt sh ys js) fun x st => (nx root N (lf L0 L1 L2 L3 L4 L5 L6 L7) 8 0 < N ∧ x = .ret ∧ ∃ ys js, st = FC root (nx root N (lf L0 L1 L2 L3 L4 L5 L6 L7) 8 0) N L0 L1 L2 L3 L4 L5 L6 L7 mk d0 d1 d2 d3 d4 d5 d6 d7 d8 d9 d10 d11 d13 d14 rt sh ys js) ∨ (¬ nx root N (lf L0 L1 L2 L3 L4 L5 L6 L7) 8 0 < N ∧ x = .normal ∧ ∃ i ys js, st = SC root i N L0 L1 L2 L3 L4 L5 L6 L7 mk d0 d1 d2 d3 d4 d5 d6 d7 d8 d9 d10 d11 d13 d14 rt sh ys js) := by
  have hd : ∀ (l : List Nat), l.all (fun b => Nat.beq b 0 || Nat.ble 1 b) = true → ∀ b, b ∈ l → E.D b := fun l hl b hb => by
    have := List.all_eq_true.1 hl b hb
    simp only [Bool.or_eq_true] at this
    rcases this with h | h
    · rw [Nat.eq_of_beq_eq_true h]; exact h0
    · exact hD b (Nat.le_of_ble_eq_true h)
  have ht : ∀ {k : Nat}, Nat.ble k 9 = true → k ≤ E.top := fun h => by rw [hT]; exact Nat.le_of_ble_eq_true h
  refine Tri.block (R := fun x st => (nx root N (lf L0 L1 L2 L3 L4 L5 L6 L7) 8 0 < N ∧ x = .ret ∧ ∃ ys js, st = FC root (nx root N (lf L0 L1 L2 L3 L4 L5 L6 L7) 8 0) N L0 L1 L2 L3 L4 L5 L6 L7 mk d0 d1 d2 d3 d4 d5 d6 d7 d8 d9 d10 d11 d13 d14 rt sh ys js) ∨ (¬ nx root N (lf L0 L1 L2 L3 L4 L5 L6 L7) 8 0 < N ∧ x = .exit 0 ∧ ∃ i ys js, st = SC root i N L0 L1 L2 L3 L4 L5 L6 L7 mk d0 d1 d2 d3 d4 d5 d6 d7 d8 d9 d10 d11 d13 d14 rt sh ys js)) ?_ (fun s hh => by
    rcases hh with hh | hh
    · rcases hh with hh | hh
      · cases hh.2.1
      · cases hh.2.1
    · rcases hh with hh | hh
      · cases hh.2.1
      · exact .inr ⟨hh.1, rfl, hh.2.2⟩) (fun x s h1 h2 hh => by
    rcases hh with hh | hh
    · exact .inl hh
    · exact absurd hh.2.1 h2)
  refine Tri.loop (J := fun q st => ∃ (i : Int) (ys js : Nat → SV), st = SC root i N L0 L1 L2 L3 L4 L5 L6 L7 mk d0 d1 d2 d3 d4 d5 d6 d7 d8 d9 d10 d11 d13 d14 rt sh ys js ∧ 0 ≤ i ∧ i ≤ N ∧ nx root N (lf L0 L1 L2 L3 L4 L5 L6 L7) (8 - i.toNat) i = nx root N (lf L0 L1 L2 L3 L4 L5 L6 L7) 8 0 ∧ q = (8 - i).toNat) ?_ (k := 8) ⟨0, ys, js, rfl, by decide, hN.1, rfl, rfl⟩
  rintro q st ⟨i, ys, js, rfl, h1, h2, h3, rfl⟩
  by_cases hi : i < N
  · refine Tri.listR (m := 16) (n := 42) (l := [at' [false], at' [true, false]]) (c' := .seq (.block 1 (at' [true, true, false, false])) (at' [true, true, true])) codeOK 2 rfl rfl (gC root i N L0 L1 L2 L3 L4 L5 L6 L7 mk d0 d1 d2 d3 d4 d5 d6 d7 d8 d9 d10 d11 d13 d14 rt sh ys js hN) (Tr.all_ite (fun _ => Tr.all_ok ⟨rfl, rfl, ht rfl, hd _ rfl, fun js => ?_⟩) fun hq => absurd hi (of_decide_eq_false hq))
    have hk : 8 - i.toNat = (8 - (i + 1).toNat) + 1 := by omega
    refine Tri.seq (R := fun x st => (x = .normal ∧ (i < root ∨ lf L0 L1 L2 L3 L4 L5 L6 L7 i = 0) ∧ ∃ ys js, st = SC root i N L0 L1 L2 L3 L4 L5 L6 L7 mk d0 d1 d2 d3 d4 d5 d6 d7 d8 d9 d10 d11 d13 d14 rt sh ys js) ∨ (x = .ret ∧ ¬ (i < root ∨ lf L0 L1 L2 L3 L4 L5 L6 L7 i = 0) ∧ ∃ ys js, st = FC root i N L0 L1 L2 L3 L4 L5 L6 L7 mk d0 d1 d2 d3 d4 d5 d6 d7 d8 d9 d10 d11 d13 d14 rt sh ys js))
      (Tri.block (bodyC hN E hE hT hD h0 ⟨h1, hi⟩ ys js) (fun s hh => by
        rcases hh with (hh | hh) | (hh | hh)
        · cases hh.1
        · cases hh.1
        · exact .inl ⟨rfl, hh.2⟩
        · cases hh.1) (fun x s h1 h2 hh => by
        rcases hh with hh | hh
        · exact absurd hh.1 h2
        · exact .inr hh)) ?_ ?_
    · rintro st (⟨_, hc, ys, js, rfl⟩ | ⟨hh, _⟩)
      rotate_left
      · cases hh
      have e5 : W (i + 1) = i + 1 := W_of (by omega) (by omega)
      refine Tri.allR (m := 16) (n := 42) (codeOK _) (iC root i N L0 L1 L2 L3 L4 L5 L6 L7 mk d0 d1 d2 d3 d4 d5 d6 d7 d8 d9 d10 d11 d13 d14 rt sh ys js hN ⟨h1, hi⟩) (Tr.all_ok ⟨rfl, ht rfl, hd _ rfl, fun js => ⟨(8 - (i + 1)).toNat, by omega, i + 1, ys, js, ?_, by omega, by omega, ?_, rfl⟩⟩)
      · show (⟨pre root 3 ys N (W (i + 1)) ++ junk js 42 16, [(0, some (pc0 d0 d1 d2 d3 d4 d5 d6 d7 d8 d9 d10 d11 (ii mk) d13 d14 N L0 L1 L2 L3 L4 L5 L6 L7 (.int .i64 (.lit 4)) rt sh))], 1, []⟩ : St MObj) = _
        rw [e5]
      · rw [← h3, hk, nx_cont hi hc]
    · rintro x st hx (⟨hh, _⟩ | ⟨rfl, hc, ys, js, rfl⟩)
      · exact absurd hh hx
      · have : nx root N (lf L0 L1 L2 L3 L4 L5 L6 L7) 8 0 = i := by rw [← h3, hk, nx_found hi hc]
        rw [this]
        exact .inl ⟨hi, rfl, ys, js, rfl⟩
  · have hR : nx root N (lf L0 L1 L2 L3 L4 L5 L6 L7) 8 0 = N := by rw [← h3, nx_end hi]
    refine Tri.mono (Q := fun x st => x = .exit 0 ∧ ∃ js, st = SC root i N L0 L1 L2 L3 L4 L5 L6 L7 mk d0 d1 d2 d3 d4 d5 d6 d7 d8 d9 d10 d11 d13 d14 rt sh ys js) ?_ (fun x s hh => by
      obtain ⟨rfl, js, rfl⟩ := hh
      exact .inr ⟨by rw [hR]; exact Int.lt_irrefl _, rfl, i, ys, js, rfl⟩)
    exact Tri.allR (m := 16) (n := 42) (codeOK _) (gCx root i N L0 L1 L2 L3 L4 L5 L6 L7 mk d0 d1 d2 d3 d4 d5 d6 d7 d8 d9 d10 d11 d13 d14 rt sh ys js hN hi) (Tr.all_ok ⟨rfl, ht rfl, hd _ rfl, fun js => ⟨rfl, js, rfl⟩⟩)
end
theorem res (x0 x1 x2 : SV) (hp : HP MObj) (ys : Nat → SV) (x14 x15 : SV) (nid : Nat) (js : Nat → SV) : vresults Try.prog (⟨[x0, x1, x2, ys 3, ys 4, ys 5, ys 6, ys 7, ys 8, ys 9, ys 10, ys 11, ys 12, ys 13, x14, x15] ++ junk js 42 16, hp, nid, []⟩ : St MObj) Try.f35.results.toList = .ok [] := by kernel_rfl
theorem restE : (Eng.spine 2 body).2 = .block 0 (.loop (at' [])) := by kernel_rfl
theorem funOKz_or {f : FuncId} {a b : Intr MObj} (ha : FunOKz MS Try.prog f a) (hb : FunOKz MS Try.prog f b) : FunOKz MS Try.prog f (orI a b) := by
  intro args hp nid r hrun
  unfold orI at hrun
  split at hrun
  · exact hb args hp nid r hrun
  · exact ha args hp nid r hrun
def midS (i : Intr MObj) : Intr MObj := fun args hp nid => match args with
  | [a, b, c] => i [a, symWS b, c] (symHP hp) nid
  | _ => .no "from: arguments"
theorem funOKz_mid {f : FuncId} {i : Intr MObj} (hi : FunOKz MS Try.prog f i) : FunOKz MS Try.prog f (midS i) := by
  intro args hp nid r hrun B ρ F w vargs hhr hargs
  unfold midS at hrun
  split at hrun
  · refine hi _ _ _ r hrun B ρ F w vargs (HR_symHP hhr) ?_
    match vargs, hargs with
    | [x, y, z], ⟨h1, h2, h3, h4⟩ => exact ⟨h1, RS_symW.2 h2, h3, h4⟩
  · cases hrun
theorem allAT {root N L0 L1 L2 L3 L4 L5 L6 L7 mk : Int} {d0 d1 d2 d3 d4 d5 d6 d7 d8 d9 d10 d11 d13 d14 rt sh pp : VV} (hN : 0 ≤ N ∧ N ≤ 8) (hR : nx root N (lf L0 L1 L2 L3 L4 L5 L6 L7) 8 0 < N) (E : Ctx MObj) (hE : E.nid0 = 1) (hT : E.top = 9) (hD : ∀ b, 1 ≤ b → E.D b) (h0 : E.D 0) :
    Tri MS Try.prog E body ⟨[.v (.ptr 0 0), .v (ii root), .v (.int .i64 (.lit 1))] ++ List.replicate (nt - 3) .undef, [(0, some (pc0 d0 d1 d2 d3 d4 d5 d6 d7 d8 d9 d10 d11 (ii mk) d13 d14 N L0 L1 L2 L3 L4 L5 L6 L7 pp rt sh))], 1, []⟩
      fun x st => (x = .normal ∨ x = .ret) ∧ (∀ b, hget st.hp b = hget ([(0, some (pc0 d0 d1 d2 d3 d4 d5 d6 d7 d8 d9 d10 d11 (ii mk) d13 d14 N L0 L1 L2 L3 L4 L5 L6 L7 (.int .i64 (.lit 1)) (ii (nx root N (lf L0 L1 L2 L3 L4 L5 L6 L7) 8 0)) (.ptr 1 0))), (1, some (.cells [ii (lf L0 L1 L2 L3 L4 L5 L6 L7 (nx root N (lf L0 L1 L2 L3 L4 L5 L6 L7) 8 0)), ii mk, .int .i64 (.lit 0), .int .u64 (.lit 0), .int .i64 (.lit 0), .int .i64 (.lit 0), .int .i64 (.lit 0), .int .i64 (.lit 0), .int .i64 (.lit 0), .int .i64 (.lit 0), .int .i64 (.lit 0)] 112))] : HP MObj) b) ∧ st.nid = 2 ∧ ∃ l, (vresults Try.prog st Try.f35.results.toList).run = some l ∧ tupleOf l = .t [] := by
  have hd : ∀ (l : List Nat), l.all (fun b => Nat.beq b 0 || Nat.ble 1 b) = true → ∀ b, b ∈ l → E.D b := fun l hl b hb => by
    have := List.all_eq_true.1 hl b hb
    simp only [Bool.or_eq_true] at this
    rcases this with h | h
    · rw [Nat.eq_of_beq_eq_true h]; exact h0
    · exact hD b (Nat.le_of_ble_eq_true h)
  have ht : ∀ {k : Nat}, Nat.ble k 9 = true → k ≤ E.top := fun h => by rw [hT]; exact Nat.le_of_ble_eq_true h
  refine Tri.listR (m := 16) (n := 42) (l := (Eng.spine 2 body).1) codeOK 2 rfl restE (sA root N L0 L1 L2 L3 L4 L5 L6 L7 mk d0 d1 d2 d3 d4 d5 d6 d7 d8 d9 d10 d11 d13 d14 rt sh pp hN) (Tr.all_ok ⟨rfl, rfl, ht rfl, hd _ rfl, fun js => ?_⟩)
  refine Tri.preE fun aa ww hat => ⟨_, at_tm (p' := pre root 1 (fun t => (sA_l0 root N L0 L1 L2 L3 L4 L5 L6 L7 mk d0 d1 d2 d3 d4 d5 d6 d7 d8 d9 d10 d11 d13 d14 rt sh).pre.getD t .undef) N 0) (by (repeat' apply And.intro) <;> first | rfl | trivial) hat, ?_⟩
  refine (loopA hN E hE hT hD h0 _ js).mono ?_
  rintro x st (⟨h1, rfl, ys, js, rfl⟩ | ⟨h1, rfl, i, ys, js, rfl⟩)
  · exact ⟨.inr rfl, fun b => rfl, rfl, _, (congrArg Tr.run (res (.v (.ptr 0 0)) (.v (ii root)) (.v (.int .i64 (.lit 1))) _ ys (.v (ii N)) _ 2 js)).trans rfl, rfl⟩
  · exact absurd hR h1
theorem allAF {root N L0 L1 L2 L3 L4 L5 L6 L7 mk : Int} {d0 d1 d2 d3 d4 d5 d6 d7 d8 d9 d10 d11 d13 d14 rt sh pp : VV} (hN : 0 ≤ N ∧ N ≤ 8) (hR : ¬ nx root N (lf L0 L1 L2 L3 L4 L5 L6 L7) 8 0 < N) (E : Ctx MObj) (hE : E.nid0 = 1) (hT : E.top = 9) (hD : ∀ b, 1 ≤ b → E.D b) (h0 : E.D 0) :
    Tri MS Try.prog E body ⟨[.v (.ptr 0 0), .v (ii root), .v (.int .i64 (.lit 1))] ++ List.replicate (nt - 3) .undef, [(0, some (pc0 d0 d1 d2 d3 d4 d5 d6 d7 d8 d9 d10 d11 (ii mk) d13 d14 N L0 L1 L2 L3 L4 L5 L6 L7 pp rt sh))], 1, []⟩
      fun x st => (x = .normal ∨ x = .ret) ∧ (∀ b, hget st.hp b = hget ([(0, some (pc0 d0 d1 d2 d3 d4 d5 d6 d7 d8 d9 d10 d11 (ii mk) d13 d14 N L0 L1 L2 L3 L4 L5 L6 L7 (.int .i64 (.lit 4)) rt sh))] : HP MObj) b) ∧ st.nid = 1 ∧ ∃ l, (vresults Try.prog st Try.f35.results.toList).run = some l ∧ tupleOf l = .t [] := by
  have hd : ∀ (l : List Nat), l.all (fun b => Nat.beq b 0 || Nat.ble 1 b) = true → ∀ b, b ∈ l → E.D b := fun l hl b hb => by
    have := List.all_eq_true.1 hl b hb
    simp only [Bool.or_eq_true] at this
    rcases this with h | h
    · rw [Nat.eq_of_beq_eq_true h]; exact h0
    · exact hD b (Nat.le_of_ble_eq_true h)
  have ht : ∀ {k : Nat}, Nat.ble k 9 = true → k ≤ E.top := fun h => by rw [hT]; exact Nat.le_of_ble_eq_true h
  refine Tri.listR (m := 16) (n := 42) (l := (Eng.spine 2 body).1) codeOK 2 rfl restE (sA root N L0 L1 L2 L3 L4 L5 L6 L7 mk d0 d1 d2 d3 d4 d5 d6 d7 d8 d9 d10 d11 d13 d14 rt sh pp hN) (Tr.all_ok ⟨rfl, rfl, ht rfl, hd _ rfl, fun js => ?_⟩)
  refine Tri.preE fun aa ww hat => ⟨_, at_tm (p' := pre root 1 (fun t => (sA_l0 root N L0 L1 L2 L3 L4 L5 L6 L7 mk d0 d1 d2 d3 d4 d5 d6 d7 d8 d9 d10 d11 d13 d14 rt sh).pre.getD t .undef) N 0) (by (repeat' apply And.intro) <;> first | rfl | trivial) hat, ?_⟩
  refine (loopA hN E hE hT hD h0 _ js).mono ?_
  rintro x st (⟨h1, rfl, ys, js, rfl⟩ | ⟨h1, rfl, i, ys, js, rfl⟩)
  · exact absurd h1 hR
  · exact ⟨.inl rfl, fun b => rfl, rfl, _, (congrArg Tr.run (res (.v (.ptr 0 0)) (.v (ii root)) (.v (.int .i64 (.lit 1))) _ ys (.v (ii N)) _ 1 js)).trans rfl, rfl⟩
theorem allBT {root N L0 L1 L2 L3 L4 L5 L6 L7 mk : Int} {d0 d1 d2 d3 d4 d5 d6 d7 d8 d9 d10 d11 d13 d14 rt sh pp : VV} {oz : Option (VObj MObj)} (hN : 0 ≤ N ∧ N ≤ 8) (hR : nx root N (lf L0 L1 L2 L3 L4 L5 L6 L7) 8 0 < N) (E : Ctx MObj) (hE : E.nid0 = 2) (hT : E.top = 9) (hD : ∀ b, 2 ≤ b → E.D b) (h0 : E.D 0) :
    Tri MS Try.prog E body ⟨[.v (.ptr 0 0), .v (ii root), .v (.int .i64 (.lit 1))] ++ List.replicate (nt - 3) .undef, [(0, some (pc0 d0 d1 d2 d3 d4 d5 d6 d7 d8 d9 d10 d11 (ii mk) d13 d14 N L0 L1 L2 L3 L4 L5 L6 L7 pp rt sh)), (1, oz)], 2, []⟩
      fun x st => (x = .normal ∨ x = .ret) ∧ (∀ b, hget st.hp b = hget ([(0, some (pc0 d0 d1 d2 d3 d4 d5 d6 d7 d8 d9 d10 d11 (ii mk) d13 d14 N L0 L1 L2 L3 L4 L5 L6 L7 (.int .i64 (.lit 1)) (ii (nx root N (lf L0 L1 L2 L3 L4 L5 L6 L7) 8 0)) (.ptr 2 0))), (1, oz), (2, some (.cells [ii (lf L0 L1 L2 L3 L4 L5 L6 L7 (nx root N (lf L0 L1 L2 L3 L4 L5 L6 L7) 8 0)), ii mk, .int .i64 (.lit 0), .int .u64 (.lit 0), .int .i64 (.lit 0), .int .i64 (.lit 0), .int .i64 (.lit 0), .int .i64 (.lit 0), .int .i64 (.lit 0), .int .i64 (.lit 0), .int .i64 (.lit 0)] 112))] : HP MObj) b) ∧ st.nid = 3 ∧ ∃ l, (vresults Try.prog st Try.f35.results.toList).run = some l ∧ tupleOf l = .t [] := by
  have hd : ∀ (l : List Nat), l.all (fun b => Nat.beq b 0 || Nat.ble 2 b) = true → ∀ b, b ∈ l → E.D b := fun l hl b hb => by
    have := List.all_eq_true.1 hl b hb
    simp only [Bool.or_eq_true] at this
    rcases this with h | h
    · rw [Nat.eq_of_beq_eq_true h]; exact h0
    · exact hD b (Nat.le_of_ble_eq_true h)
  have ht : ∀ {k : Nat}, Nat.ble k 9 = true → k ≤ E.top := fun h => by rw [hT]; exact Nat.le_of_ble_eq_true h
  refine Tri.listR (m := 16) (n := 42) (l := (Eng.spine 2 body).1) codeOK 2 rfl restE (sB root N L0 L1 L2 L3 L4 L5 L6 L7 mk d0 d1 d2 d3 d4 d5 d6 d7 d8 d9 d10 d11 d13 d14 rt sh pp oz hN) (Tr.all_ok ⟨rfl, rfl, ht rfl, hd _ rfl, fun js => ?_⟩)
  refine Tri.preE fun aa ww hat => ⟨_, at_tm (p' := pre root 1 (fun t => (sB_l0 root N L0 L1 L2 L3 L4 L5 L6 L7 mk d0 d1 d2 d3 d4 d5 d6 d7 d8 d9 d10 d11 d13 d14 rt sh oz).pre.getD t .undef) N 0) (by (repeat' apply And.intro) <;> first | rfl | trivial) hat, ?_⟩
  refine (loopB hN E hE hT hD h0 _ js).mono ?_
  rintro x st (⟨h1, rfl, ys, js, rfl⟩ | ⟨h1, rfl, i, ys, js, rfl⟩)
  · exact ⟨.inr rfl, fun b => rfl, rfl, _, (congrArg Tr.run (res (.v (.ptr 0 0)) (.v (ii root)) (.v (.int .i64 (.lit 1))) _ ys (.v (ii N)) _ 3 js)).trans rfl, rfl⟩
  · exact absurd hR h1
theorem allBF {root N L0 L1 L2 L3 L4 L5 L6 L7 mk : Int} {d0 d1 d2 d3 d4 d5 d6 d7 d8 d9 d10 d11 d13 d14 rt sh pp : VV} {oz : Option (VObj MObj)} (hN : 0 ≤ N ∧ N ≤ 8) (hR : ¬ nx root N (lf L0 L1 L2 L3 L4 L5 L6 L7) 8 0 < N) (E : Ctx MObj) (hE : E.nid0 = 2) (hT : E.top = 9) (hD : ∀ b, 2 ≤ b → E.D b) (h0 : E.D 0) :
    Tri MS Try.prog E body ⟨[.v (.ptr 0 0), .v (ii root), .v (.int .i64 (.lit 1))] ++ List.replicate (nt - 3) .undef, [(0, some (pc0 d0 d1 d2 d3 d4 d5 d6 d7 d8 d9 d10 d11 (ii mk) d13 d14 N L0 L1 L2 L3 L4 L5 L6 L7 pp rt sh)), (1, oz)], 2, []⟩
      fun x st => (x = .normal ∨ x = .ret) ∧ (∀ b, hget st.hp b = hget ([(0, some (pc0 d0 d1 d2 d3 d4 d5 d6 d7 d8 d9 d10 d11 (ii mk) d13 d14 N L0 L1 L2 L3 L4 L5 L6 L7 (.int .i64 (.lit 4)) rt sh)), (1, oz)] : HP MObj) b) ∧ st.nid = 2 ∧ ∃ l, (vresults Try.prog st Try.f35.results.toList).run = some l ∧ tupleOf l = .t [] := by
  have hd : ∀ (l : List Nat), l.all (fun b => Nat.beq b 0 || Nat.ble 2 b) = true → ∀ b, b ∈ l → E.D b := fun l hl b hb => by
    have := List.all_eq_true.1 hl b hb
    simp only [Bool.or_eq_true] at this
    rcases this with h | h
    · rw [Nat.eq_of_beq_eq_true h]; exact h0
    · exact hD b (Nat.le_of_ble_eq_true h)
  have ht : ∀ {k : Nat}, Nat.ble k 9 = true → k ≤ E.top := fun h => by rw [hT]; exact Nat.le_of_ble_eq_true h
  refine Tri.listR (m := 16) (n := 42) (l := (Eng.spine 2 body).1) codeOK 2 rfl restE (sB root N L0 L1 L2 L3 L4 L5 L6 L7 mk d0 d1 d2 d3 d4 d5 d6 d7 d8 d9 d10 d11 d13 d14 rt sh pp oz hN) (Tr.all_ok ⟨rfl, rfl, ht rfl, hd _ rfl, fun js => ?_⟩)
  refine Tri.preE fun aa ww hat => ⟨_, at_tm (p' := pre root 1 (fun t => (sB_l0 root N L0 L1 L2 L3 L4 L5 L6 L7 mk d0 d1 d2 d3 d4 d5 d6 d7 d8 d9 d10 d11 d13 d14 rt sh oz).pre.getD t .undef) N 0) (by (repeat' apply And.intro) <;> first | rfl | trivial) hat, ?_⟩
  refine (loopB hN E hE hT hD h0 _ js).mono ?_
  rintro x st (⟨h1, rfl, ys, js, rfl⟩ | ⟨h1, rfl, i, ys, js, rfl⟩)
  · exact absurd h1 hR
  · exact ⟨.inl rfl, fun b => rfl, rfl, _, (congrArg Tr.run (res (.v (.ptr 0 0)) (.v (ii root)) (.v (.int .i64 (.lit 1))) _ ys (.v (ii N)) _ 2 js)).trans rfl, rfl⟩
theorem allCT {root N L0 L1 L2 L3 L4 L5 L6 L7 mk : Int} {d0 d1 d2 d3 d4 d5 d6 d7 d8 d9 d10 d11 d13 d14 rt sh pp : VV} (hN : 0 ≤ N ∧ N ≤ 8) (hR : nx root N (lf L0 L1 L2 L3 L4 L5 L6 L7) 8 0 < N) (E : Ctx MObj) (hE : E.nid0 = 1) (hT : E.top = 9) (hD : ∀ b, 1 ≤ b → E.D b) (h0 : E.D 0) :
    Tri MS Try.prog E body ⟨[.v (.ptr 0 0), .v (ii root), .v (.int .i64 (.lit 3))] ++ List.replicate (nt - 3) .undef, [(0, some (pc0 d0 d1 d2 d3 d4 d5 d6 d7 d8 d9 d10 d11 (ii mk) d13 d14 N L0 L1 L2 L3 L4 L5 L6 L7 pp rt sh))], 1, []⟩
      fun x st => (x = .normal ∨ x = .ret) ∧ (∀ b, hget st.hp b = hget ([(0, some (pc0 d0 d1 d2 d3 d4 d5 d6 d7 d8 d9 d10 d11 (ii mk) d13 d14 N L0 L1 L2 L3 L4 L5 L6 L7 (.int .i64 (.lit 3)) (ii (nx root N (lf L0 L1 L2 L3 L4 L5 L6 L7) 8 0)) sh))] : HP MObj) b) ∧ st.nid = 1 ∧ ∃ l, (vresults Try.prog st Try.f35.results.toList).run = some l ∧ tupleOf l = .t [] := by
  have hd : ∀ (l : List Nat), l.all (fun b => Nat.beq b 0 || Nat.ble 1 b) = true → ∀ b, b ∈ l → E.D b := fun l hl b hb => by
    have := List.all_eq_true.1 hl b hb
    simp only [Bool.or_eq_true] at this
    rcases this with h | h
    · rw [Nat.eq_of_beq_eq_true h]; exact h0
    · exact hD b (Nat.le_of_ble_eq_true h)
  have ht : ∀ {k : Nat}, Nat.ble k 9 = true → k ≤ E.top := fun h => by rw [hT]; exact Nat.le_of_ble_eq_true h
  refine Tri.listR (m := 16) (n := 42) (l := (Eng.spine 2 body).1) codeOK 2 rfl restE (sC root N L0 L1 L2 L3 L4 L5 L6 L7 mk d0 d1 d2 d3 d4 d5 d6 d7 d8 d9 d10 d11 d13 d14 rt sh pp hN) (Tr.all_ok ⟨rfl, rfl, ht rfl, hd _ rfl, fun js => ?_⟩)
  refine Tri.preE fun aa ww hat => ⟨_, at_tm (p' := pre root 3 (fun t => (sC_l0 root N L0 L1 L2 L3 L4 L5 L6 L7 mk d0 d1 d2 d3 d4 d5 d6 d7 d8 d9 d10 d11 d13 d14 rt sh).pre.getD t .undef) N 0) (by (repeat' apply And.intro) <;> first | rfl | trivial) hat, ?_⟩
  refine (loopC hN E hE hT hD h0 _ js).mono ?_
  rintro x st (⟨h1, rfl, ys, js, rfl⟩ | ⟨h1, rfl, i, ys, js, rfl⟩)
  · exact ⟨.inr rfl, fun b => rfl, rfl, _, (congrArg Tr.run (res (.v (.ptr 0 0)) (.v (ii root)) (.v (.int .i64 (.lit 3))) _ ys (.v (ii N)) _ 1 js)).trans rfl, rfl⟩
  · exact absurd hR h1
theorem allCF {root N L0 L1 L2 L3 L4 L5 L6 L7 mk : Int} {d0 d1 d2 d3 d4 d5 d6 d7 d8 d9 d10 d11 d13 d14 rt sh pp : VV} (hN : 0 ≤ N ∧ N ≤ 8) (hR : ¬ nx root N (lf L0 L1 L2 L3 L4 L5 L6 L7) 8 0 < N) (E : Ctx MObj) (hE : E.nid0 = 1) (hT : E.top = 9) (hD : ∀ b, 1 ≤ b → E.D b) (h0 : E.D 0) :
    Tri MS Try.prog E body ⟨[.v (.ptr 0 0), .v (ii root), .v (.int .i64 (.lit 3))] ++ List.replicate (nt - 3) .undef, [(0, some (pc0 d0 d1 d2 d3 d4 d5 d6 d7 d8 d9 d10 d11 (ii mk) d13 d14 N L0 L1 L2 L3 L4 L5 L6 L7 pp rt sh))], 1, []⟩
      fun x st => (x = .normal ∨ x = .ret) ∧ (∀ b, hget st.hp b = hget ([(0, some (pc0 d0 d1 d2 d3 d4 d5 d6 d7 d8 d9 d10 d11 (ii mk) d13 d14 N L0 L1 L2 L3 L4 L5 L6 L7 (.int .i64 (.lit 4)) rt sh))] : HP MObj) b) ∧ st.nid = 1 ∧ ∃ l, (vresults Try.prog st Try.f35.results.toList).run = some l ∧ tupleOf l = .t [] := by
  have hd : ∀ (l : List Nat), l.all (fun b => Nat.beq b 0 || Nat.ble 1 b) = true → ∀ b, b ∈ l → E.D b := fun l hl b hb => by
    have := List.all_eq_true.1 hl b hb
    simp only [Bool.or_eq_true] at this
    rcases this with h | h
    · rw [Nat.eq_of_beq_eq_true h]; exact h0
    · exact hD b (Nat.le_of_ble_eq_true h)
  have ht : ∀ {k : Nat}, Nat.ble k 9 = true → k ≤ E.top := fun h => by rw [hT]; exact Nat.le_of_ble_eq_true h
  refine Tri.listR (m := 16) (n := 42) (l := (Eng.spine 2 body).1) codeOK 2 rfl restE (sC root N L0 L1 L2 L3 L4 L5 L6 L7 mk d0 d1 d2 d3 d4 d5 d6 d7 d8 d9 d10 d11 d13 d14 rt sh pp hN) (Tr.all_ok ⟨rfl, rfl, ht rfl, hd _ rfl, fun js => ?_⟩)
  refine Tri.preE fun aa ww hat => ⟨_, at_tm (p' := pre root 3 (fun t => (sC_l0 root N L0 L1 L2 L3 L4 L5 L6 L7 mk d0 d1 d2 d3 d4 d5 d6 d7 d8 d9 d10 d11 d13 d14 rt sh).pre.getD t .undef) N 0) (by (repeat' apply And.intro) <;> first | rfl | trivial) hat, ?_⟩
  refine (loopC hN E hE hT hD h0 _ js).mono ?_
  rintro x st (⟨h1, rfl, ys, js, rfl⟩ | ⟨h1, rfl, i, ys, js, rfl⟩)
  · exact absurd h1 hR
  · exact ⟨.inl rfl, fun b => rfl, rfl, _, (congrArg Tr.run (res (.v (.ptr 0 0)) (.v (ii root)) (.v (.int .i64 (.lit 3))) _ ys (.v (ii N)) _ 1 js)).trans rfl, rfl⟩
def c1 : Intr MObj := fun args hp nid => match args, hp, nid with
  | [.s (.one (.ptr 0 0)), .s (.one (.int .i64 (.sym root))), .s (.one (.int .i64 (.lit pc)))], [(0, some (.cells [d0, d1, d2, d3, d4, d5, d6, d7, d8, d9, d10, d11, .int .i64 (.sym mk), d13, d14, .int .i64 (.sym N), .int .i64 (.sym L0), .int .i64 (.sym L1), .int .i64 (.sym L2), .int .i64 (.sym L3), .int .i64 (.sym L4), .int .i64 (.sym L5), .int .i64 (.sym L6), .int .i64 (.sym L7), pp, rt, sh] ty))], 1 => .chk (Nat.beq ty 88) "from: type" (.ite (decide (0 ≤ N) && decide (N ≤ 8)) (.ite (pc == 1) (.ite (decide (nx root N (lf L0 L1 L2 L3 L4 L5 L6 L7) 8 0 < N)) (.ok ⟨.t [], [(0, some (pc0 d0 d1 d2 d3 d4 d5 d6 d7 d8 d9 d10 d11 (ii mk) d13 d14 N L0 L1 L2 L3 L4 L5 L6 L7 (.int .i64 (.lit 1)) (ii (nx root N (lf L0 L1 L2 L3 L4 L5 L6 L7) 8 0)) (.ptr 1 0))), (1, some (.cells [ii (lf L0 L1 L2 L3 L4 L5 L6 L7 (nx root N (lf L0 L1 L2 L3 L4 L5 L6 L7) 8 0)), ii mk, .int .i64 (.lit 0), .int .u64 (.lit 0), .int .i64 (.lit 0), .int .i64 (.lit 0), .int .i64 (.lit 0), .int .i64 (.lit 0), .int .i64 (.lit 0), .int .i64 (.lit 0), .int .i64 (.lit 0)] 112))], [0, 1], 2⟩) (.ok ⟨.t [], [(0, some (pc0 d0 d1 d2 d3 d4 d5 d6 d7 d8 d9 d10 d11 (ii mk) d13 d14 N L0 L1 L2 L3 L4 L5 L6 L7 (.int .i64 (.lit 4)) rt sh))], [0], 1⟩)) (.ite (pc == 3) (.ite (decide (nx root N (lf L0 L1 L2 L3 L4 L5 L6 L7) 8 0 < N)) (.ok ⟨.t [], [(0, some (pc0 d0 d1 d2 d3 d4 d5 d6 d7 d8 d9 d10 d11 (ii mk) d13 d14 N L0 L1 L2 L3 L4 L5 L6 L7 (.int .i64 (.lit 3)) (ii (nx root N (lf L0 L1 L2 L3 L4 L5 L6 L7) 8 0)) sh))], [0], 1⟩) (.ok ⟨.t [], [(0, some (pc0 d0 d1 d2 d3 d4 d5 d6 d7 d8 d9 d10 d11 (ii mk) d13 d14 N L0 L1 L2 L3 L4 L5 L6 L7 (.int .i64 (.lit 4)) rt sh))], [0], 1⟩)) (.no "from: pc"))) (.no "from: sizes"))
  | _, _, _ => .no "from: arguments"
def c2 : Intr MObj := fun args hp nid => match args, hp, nid with
  | [.s (.one (.ptr 0 0)), .s (.one (.int .i64 (.sym root))), .s (.one (.int .i64 (.lit pc)))], [(0, some (.cells [d0, d1, d2, d3, d4, d5, d6, d7, d8, d9, d10, d11, .int .i64 (.sym mk), d13, d14, .int .i64 (.sym N), .int .i64 (.sym L0), .int .i64 (.sym L1), .int .i64 (.sym L2), .int .i64 (.sym L3), .int .i64 (.sym L4), .int .i64 (.sym L5), .int .i64 (.sym L6), .int .i64 (.sym L7), pp, rt, sh] ty)), (1, oz)], 2 => .chk (Nat.beq ty 88) "from: type" (.ite (decide (0 ≤ N) && decide (N ≤ 8)) (.ite (pc == 1) (.ite (decide (nx root N (lf L0 L1 L2 L3 L4 L5 L6 L7) 8 0 < N)) (.ok ⟨.t [], [(0, some (pc0 d0 d1 d2 d3 d4 d5 d6 d7 d8 d9 d10 d11 (ii mk) d13 d14 N L0 L1 L2 L3 L4 L5 L6 L7 (.int .i64 (.lit 1)) (ii (nx root N (lf L0 L1 L2 L3 L4 L5 L6 L7) 8 0)) (.ptr 2 0))), (1, oz), (2, some (.cells [ii (lf L0 L1 L2 L3 L4 L5 L6 L7 (nx root N (lf L0 L1 L2 L3 L4 L5 L6 L7) 8 0)), ii mk, .int .i64 (.lit 0), .int .u64 (.lit 0), .int .i64 (.lit 0), .int .i64 (.lit 0), .int .i64 (.lit 0), .int .i64 (.lit 0), .int .i64 (.lit 0), .int .i64 (.lit 0), .int .i64 (.lit 0)] 112))], [0, 2], 3⟩) (.ok ⟨.t [], [(0, some (pc0 d0 d1 d2 d3 d4 d5 d6 d7 d8 d9 d10 d11 (ii mk) d13 d14 N L0 L1 L2 L3 L4 L5 L6 L7 (.int .i64 (.lit 4)) rt sh)), (1, oz)], [0], 2⟩)) (.no "from: pc")) (.no "from: sizes"))
  | _, _, _ => .no "from: arguments"

theorem c1_ok : FunOKz MS Try.prog 35 c1 := by
  refine funOK_tri Try.func35 hb ?_
  intro args hp nid r hrun
  unfold c1 at hrun
  split at hrun
  · rw [Tr.run_chk, Tr.run_ite] at hrun
    obtain ⟨hT, hrun⟩ := hrun
    obtain rfl := Nat.eq_of_beq_eq_true hT
    rcases hrun with ⟨hc, hrun⟩ | ⟨_, hrun⟩
    · simp only [Bool.and_eq_true, decide_eq_true_eq] at hc
      have hN := hc
      rw [Tr.run_ite] at hrun
      rcases hrun with ⟨hp, hrun⟩ | ⟨_, hrun⟩
      · obtain rfl := eq_of_beq hp
        rw [Tr.run_ite] at hrun
        rcases hrun with ⟨hR, hrun⟩ | ⟨hR, hrun⟩
        · rw [Tr.run_ok] at hrun
          subst hrun
          have hR := of_decide_eq_true hR
          refine ⟨Nat.le_of_ble_eq_true rfl, fun b o hb ho => ?_, 9, by show 2 ≤ 9; omega, fun E hE hT hD hr => allAT hN hR E hE hT hD (hr 0 (by simp))⟩
          match b, hb, ho with
          | 0, hb, _ => exact absurd hb (by decide)
          | 1, _, _ => simp
          | b + 2, _, ho => cases ho
        · rw [Tr.run_ok] at hrun
          subst hrun
          have hR := of_decide_eq_false hR
          refine ⟨Nat.le_of_ble_eq_true rfl, fun b o hb ho => ?_, 9, by show 1 ≤ 9; omega, fun E hE hT hD hr => allAF hN hR E hE hT hD (hr 0 (by simp))⟩
          match b, hb, ho with
          | 0, hb, _ => exact absurd hb (by decide)
          | b + 1, _, ho => cases ho
      · rw [Tr.run_ite] at hrun
        rcases hrun with ⟨hp, hrun⟩ | ⟨_, hrun⟩
        · obtain rfl := eq_of_beq hp
          rw [Tr.run_ite] at hrun
          rcases hrun with ⟨hR, hrun⟩ | ⟨hR, hrun⟩
          · rw [Tr.run_ok] at hrun
            subst hrun
            have hR := of_decide_eq_true hR
            refine ⟨Nat.le_of_ble_eq_true rfl, fun b o hb ho => ?_, 9, by show 1 ≤ 9; omega, fun E hE hT hD hr => allCT hN hR E hE hT hD (hr 0 (by simp))⟩
            match b, hb, ho with
            | 0, hb, _ => exact absurd hb (by decide)
            | b + 1, _, ho => cases ho
          · rw [Tr.run_ok] at hrun
            subst hrun
            have hR := of_decide_eq_false hR
            refine ⟨Nat.le_of_ble_eq_true rfl, fun b o hb ho => ?_, 9, by show 1 ≤ 9; omega, fun E hE hT hD hr => allCF hN hR E hE hT hD (hr 0 (by simp))⟩
            match b, hb, ho with
            | 0, hb, _ => exact absurd hb (by decide)
            | b + 1, _, ho => cases ho
        · cases hrun
    · cases hrun
  · cases hrun
theorem c2_ok : FunOKz MS Try.prog 35 c2 := by
  refine funOK_tri Try.func35 hb ?_
  intro args hp nid r hrun
  unfold c2 at hrun
  split at hrun
  · rw [Tr.run_chk, Tr.run_ite] at hrun
    obtain ⟨hT, hrun⟩ := hrun
    obtain rfl := Nat.eq_of_beq_eq_true hT
    rcases hrun with ⟨hc, hrun⟩ | ⟨_, hrun⟩
    · simp only [Bool.and_eq_true, decide_eq_true_eq] at hc
      have hN := hc
      rw [Tr.run_ite] at hrun
      rcases hrun with ⟨hp, hrun⟩ | ⟨_, hrun⟩
      · obtain rfl := eq_of_beq hp
        rw [Tr.run_ite] at hrun
        rcases hrun with ⟨hR, hrun⟩ | ⟨hR, hrun⟩
        · rw [Tr.run_ok] at hrun
          subst hrun
          have hR := of_decide_eq_true hR
          refine ⟨Nat.le_of_ble_eq_true rfl, fun b o hb ho => ?_, 9, by show 3 ≤ 9; omega, fun E hE hT hD hr => allBT hN hR E hE hT hD (hr 0 (by simp))⟩
          match b, hb, ho with
          | 0, hb, _ => exact absurd hb (by decide)
          | 1, hb, _ => exact absurd hb (by decide)
          | 2, _, _ => simp
          | b + 3, _, ho => cases ho
        · rw [Tr.run_ok] at hrun
          subst hrun
          have hR := of_decide_eq_false hR
          refine ⟨Nat.le_of_ble_eq_true rfl, fun b o hb ho => ?_, 9, by show 2 ≤ 9; omega, fun E hE hT hD hr => allBF hN hR E hE hT hD (hr 0 (by simp))⟩
          match b, hb, ho with
          | 0, hb, _ => exact absurd hb (by decide)
          | 1, hb, _ => exact absurd hb (by decide)
          | b + 2, _, ho => cases ho
      · cases hrun
    · cases hrun
  · cases hrun
theorem ok : FunOK MS Try.prog 35 (renI (orI (midS c1) (midS c2))) := funOK_ren (funOKz_or (funOKz_mid c1_ok) (funOKz_mid c2_ok))
end Go.Proofs.Ytdongoplhnpdiaa.From
