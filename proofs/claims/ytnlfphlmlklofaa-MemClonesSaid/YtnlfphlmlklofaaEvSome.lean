/-
  some of flitlaw04: some calls of a memory of eight words, as a function of its words and counts.
-/
import Derived.Test.YtnlfphlmlklofaaTSome
import Derived.Test.YtnlfphlmlklofaaEngZe
namespace Go.Proofs.Ytnlfphlmlklofaa.Some
open Go Go.RowKit Go.Proofs.Ytnlfphlmlklofaa.Eng
set_option linter.unusedVariables false
set_option linter.unusedSimpArgs false
set_option linter.unusedSectionVars false
set_option maxRecDepth 20000
theorem tabS_ok : ∀ p ∈ tabS, FunOK MS Try.prog p.1 p.2 := tab_append L4.tabC_ok tabMm_ok
theorem codeOK (c : Code) : CodeOK MS Try.prog c (ev c) :=
  evCode_sound progOK (fun f args hp nid r h _ => evF_sound progOK (lookH_ok tabS_ok) 100 19 f args hp nid r h) 100 c
theorem hb : Try.f21.body = some body := by kernel_rfl
/-- A memory's words and counts. -/
structure MSt where
  xs : List Int
  c : Int
  t : Int
def opS (ls : List (List Int)) (i : Nat) (s : MSt) : MSt :=
  let a := kM (tabAt ls i 1) 8
  let b := W (W (Int.tdiv a 2) * 2)
  if kM (tabAt ls i 0) 4 = 0 then ⟨s.xs.set a.toNat (tabAt ls i 2), s.c + 1, s.t⟩
  else if kM (tabAt ls i 0) 4 = 1 then
    match s.xs.getD a.toNat 0 == tabAt ls i 2 with
    | true => ⟨s.xs.set a.toNat (tabAt ls i 4), s.c + 1, s.t⟩
    | false => ⟨s.xs, s.c + 1, s.t⟩
  else if kM (tabAt ls i 0) 4 = 2 then
    match inb2 b s.xs.length with
    | true => match s.xs.getD b.toNat 0 == tabAt ls i 2 with
      | true => match s.xs.getD (b.toNat + 1) 0 == tabAt ls i 3 with
        | true => ⟨(s.xs.set b.toNat (tabAt ls i 4)).set (b.toNat + 1) (tabAt ls i 5), s.c + 1, s.t⟩
        | false => ⟨s.xs, s.c + 1, s.t⟩
      | false => ⟨s.xs, s.c + 1, s.t⟩
    | false => ⟨s.xs, s.c + 1, W (s.t + 1)⟩
  else s
theorem opS_len (ls : List (List Int)) (i : Nat) (s : MSt) : (opS ls i s).xs.length = s.xs.length ∧ s.c ≤ (opS ls i s).c ∧ (opS ls i s).c ≤ s.c + 1 := by
  unfold opS
  dsimp only
  (repeat' split) <;> (refine ⟨?_, ?_, ?_⟩ <;> first | rfl | (simp only [List.length_set]; done) | omega | (dsimp only; omega))
def iter (ls : List (List Int)) : Nat → MSt → MSt
  | 0, s => s
  | k + 1, s => opS ls k (iter ls k s)
theorem iter_len (ls : List (List Int)) (s : MSt) : ∀ k : Nat, (iter ls k s).xs.length = s.xs.length ∧ s.c ≤ (iter ls k s).c ∧ (iter ls k s).c ≤ s.c + k
  | 0 => ⟨rfl, Int.le_refl _, by simp [iter]⟩
  | k + 1 => by
    have h := iter_len ls s k
    have g := opS_len ls k (iter ls k s)
    show (opS ls k (iter ls k s)).xs.length = _ ∧ s.c ≤ (opS ls k (iter ls k s)).c ∧ (opS ls k (iter ls k s)).c ≤ _
    omega
def sF (ls : List (List Int)) (xs : List Int) (c t : Int) : MSt := iter ls (min ls.length 40) ⟨xs, c, t⟩
def fitR (r : List Int) : Bool := (decide (-9223372036854775808 ≤ r.getD 0 0) && decide (r.getD 0 0 ≤ 9223372036854775807)) && (decide (-9223372036854775808 ≤ r.getD 1 0) && decide (r.getD 1 0 ≤ 9223372036854775807))
def fitB (ls : List (List Int)) : Bool := ls.all fitR
theorem fitB_of {ls : List (List Int)} (h : RFits ks ls) : fitB ls = true := by
  unfold fitB
  rw [List.all_eq_true]
  intro r hr
  obtain ⟨i, hi, rfl⟩ := List.getElem_of_mem hr
  have f := fun (j : Nat) (k : CK) (hk : ks[j]? = some k) => tab_fits h hi hk
  have f0 : CK.fits (.int .i64) (tabAt ls i 0) := f 0 _ rfl
  have f1 : CK.fits (.int .i64) (tabAt ls i 1) := f 1 _ rfl
  have e : ls.getD i [] = ls[i] := by simp [hi]
  unfold tabAt at f0 f1
  rw [e] at f0 f1
  have f0 : -9223372036854775808 ≤ ls[i].getD 0 0 ∧ ls[i].getD 0 0 ≤ 9223372036854775807 := f0
  have f1 : -9223372036854775808 ≤ ls[i].getD 1 0 ∧ ls[i].getD 1 0 ≤ 9223372036854775807 := f1
  simp only [fitR, Bool.and_eq_true, decide_eq_true_eq]
  exact ⟨f0, f1⟩
theorem fitB_at {ls : List (List Int)} (h : fitB ls = true) {i : Nat} (hi : i < ls.length) : (0 ≤ kM (tabAt ls i 0) 4 ∧ kM (tabAt ls i 0) 4 < 4) ∧ (0 ≤ kM (tabAt ls i 1) 8 ∧ kM (tabAt ls i 1) 8 < 8) := by
  have h := List.all_eq_true.1 h ls[i] (List.getElem_mem hi)
  simp only [fitR, Bool.and_eq_true, decide_eq_true_eq] at h
  have e : ls.getD i [] = ls[i] := by simp [hi]
  unfold tabAt
  rw [e]
  exact ⟨kM_range (by decide) h.1, kM_range (by decide) h.2⟩
abbrev X : SV := .t []
abbrev S (n : Nat) (i : Int) (ls : List (List Int)) (s : MSt) (x5 : SV) (js : Nat → SV) : St MObj := ⟨pre n X X i x5 ++ junk js 78 6, hp0 s.xs s.c s.t ls, 2, []⟩
section
variable (n : Nat) (ls : List (List Int)) (hn : n = ls.length) (hf : fitB ls = true) (E : Ctx MObj) (hE : E.nid0 = 2) (hT : E.top = 8) (hD : ∀ b, 2 ≤ b → E.D b) (h0 : E.D 0)
include hn hf hE hT hD h0
theorem op (i : Nat) (hi : i < n) (s : MSt) (hs : s.xs.length = 8) (hc : 0 ≤ s.c ∧ s.c ≤ 1000) (x5 : SV) (js : Nat → SV) :
    Tri MS Try.prog E (codeAt body [true, false, false, true, false]) (S n i ls s x5 js) fun x st => x = .normal ∧ ∃ x5 js, st = S n i ls (opS ls i s) x5 js := by
  have hd : ∀ (l : List Nat), l.all (fun b => Nat.beq b 0 || Nat.ble 2 b) = true → ∀ b, b ∈ l → E.D b := fun l hl b hb => by
    have := List.all_eq_true.1 hl b hb
    simp only [Bool.or_eq_true] at this
    rcases this with h | h
    · rw [Nat.eq_of_beq_eq_true h]; exact h0
    · exact hD b (Nat.le_of_ble_eq_true h)
  have ht : ∀ {k : Nat}, Nat.ble k 8 = true → k ≤ E.top := fun h => by rw [hT]; exact Nat.le_of_ble_eq_true h
  have hi2 : (0 : Int) ≤ (i : Int) ∧ (i : Int) < (n : Int) := by omega
  obtain ⟨⟨k0, k1⟩, ha⟩ := fitB_at hf (i := i) (by omega)
  have hin : Int.toNat (i : Int) = i := by omega
  obtain ⟨xs, c, t⟩ := s
  have hs : xs.length = 8 := hs
  rcases (show kM (tabAt ls i 0) 4 = 0 ∨ kM (tabAt ls i 0) 4 = 1 ∨ kM (tabAt ls i 0) 4 = 2 ∨ kM (tabAt ls i 0) 4 = 3 by omega) with hk | hk | hk | hk
  · refine Tri.allR (m := 6) (n := 78) (codeOK _) (op0 n ls xs c t i X X x5 js hc hs hn hi2 hk ha) (Tr.all_ok ⟨rfl, ht rfl, hd _ rfl, fun js => ⟨rfl, (.v (ii (kM (tabAt ls (Int.toNat (i : Int)) 1) 8))), js, ?_⟩⟩)
    unfold opS; simp only [hk, if_true]; try rfl
  · refine Tri.allR (m := 6) (n := 78) (codeOK _) (op1 n ls xs c t i X X x5 js hc hs hn hi2 hk ha) (Tr.all_ite (fun e => Tr.all_ok ⟨rfl, ht rfl, hd _ rfl, fun js => ⟨rfl, (.v (ii (kM (tabAt ls (Int.toNat (i : Int)) 1) 8))), js, ?_⟩⟩) (fun e => Tr.all_ok ⟨rfl, ht rfl, hd _ rfl, fun js => ⟨rfl, (.v (ii (kM (tabAt ls (Int.toNat (i : Int)) 1) 8))), js, ?_⟩⟩))
    · rw [hin] at e; unfold opS; simp only [hk, show ¬(1 : Int) = 0 by decide, if_false, if_true, e]; try rfl
    · rw [hin] at e; unfold opS; simp only [hk, show ¬(1 : Int) = 0 by decide, if_false, if_true, e]; try rfl
  · refine Tri.allR (m := 6) (n := 78) (codeOK _) (op2 n ls xs c t i X X x5 js hc hs hn hi2 hk ha) (Tr.all_ite (fun e => Tr.all_ite (fun e2 => Tr.all_ite (fun e3 => Tr.all_ok ⟨rfl, ht rfl, hd _ rfl, fun js => ⟨rfl, (.v (ii (kM (tabAt ls (Int.toNat (i : Int)) 1) 8))), js, ?_⟩⟩) (fun e3 => Tr.all_ok ⟨rfl, ht rfl, hd _ rfl, fun js => ⟨rfl, (.v (ii (kM (tabAt ls (Int.toNat (i : Int)) 1) 8))), js, ?_⟩⟩)) (fun e2 => Tr.all_ok ⟨rfl, ht rfl, hd _ rfl, fun js => ⟨rfl, (.v (ii (kM (tabAt ls (Int.toNat (i : Int)) 1) 8))), js, ?_⟩⟩)) (fun e => Tr.all_ok ⟨rfl, ht rfl, hd _ rfl, fun js => ⟨rfl, (.v (ii (kM (tabAt ls (Int.toNat (i : Int)) 1) 8))), js, ?_⟩⟩))
    · rw [hin] at e e2 e3; unfold opS; simp only [hk, show ¬(2 : Int) = 0 by decide, show ¬(2 : Int) = 1 by decide, if_false, if_true, e, e2, e3]; try rfl
    · rw [hin] at e e2 e3; unfold opS; simp only [hk, show ¬(2 : Int) = 0 by decide, show ¬(2 : Int) = 1 by decide, if_false, if_true, e, e2, e3]; try rfl
    · rw [hin] at e e2; unfold opS; simp only [hk, show ¬(2 : Int) = 0 by decide, show ¬(2 : Int) = 1 by decide, if_false, if_true, e, e2]; try rfl
    · rw [hin] at e; unfold opS; simp only [hk, show ¬(2 : Int) = 0 by decide, show ¬(2 : Int) = 1 by decide, if_false, if_true, e]; try rfl
  · have e : opS ls i ⟨xs, c, t⟩ = ⟨xs, c, t⟩ := by unfold opS; simp only [hk, show ¬(3 : Int) = 0 by decide, show ¬(3 : Int) = 1 by decide, show ¬(3 : Int) = 2 by decide, if_false]
    rw [e]
    refine Tri.preE fun a w hat => ?_
    obtain ⟨tr, o2, htr, _, hat2⟩ := at_memopen (b := 0) rfl h0 (by rw [hT]; show 2 + 2 ≤ 8; omega) hat
    rcases htr with ⟨rfl, rfl⟩ | ⟨ts, rfl, rfl, hl⟩
    · refine ⟨_, hat2, Tri.postE (Q := fun x s => x = .normal ∧ ∃ js, s = ⟨(op3A_l0 n ls xs c t i X X).pre ++ junk js 78 6, (op3A_l0 n ls xs c t i X X).hp, 4, []⟩) (Tri.allR (m := 6) (n := 78) (codeOK _) (op3A n ls xs c t i X X x5 js hc hs hn hi2 hk ha) (Tr.all_ok ⟨rfl, ht rfl, hd _ rfl, fun js => ⟨rfl, js, rfl⟩⟩)) ?_⟩
      rintro x s a w ⟨rfl, js, rfl⟩ hat
      have h1 := at_memfold (b := 0) (x1 := 2) (x2 := 3) (ty := 81) (xs := xs) (c := c) (t := t) (isMem_nil rfl rfl rfl (by decide) (by decide) (by decide) rfl rfl rfl rfl) h0 (hD 2 (by decide)) (hD 3 (by decide)) hat
      obtain ⟨js', h3⟩ := at_rename (dirty' := []) (m := 6) (n := 78) [(0, 0), (1, 1)] (nid' := 2) rfl (by simp [length_junk]) rfl rfl (by rw [hE]; rfl) (by omega) (by omega) h1
      exact ⟨_, h3, rfl, _, js', rfl⟩
    · refine ⟨_, hat2, Tri.postE (Q := fun x s => x = .normal ∧ ∃ js, s = ⟨(op3B_l0 n ls ts xs c t i X X).pre ++ junk js 78 6, (op3B_l0 n ls ts xs c t i X X).hp, 4, []⟩) (Tri.allR (m := 6) (n := 78) (codeOK _) (op3B n ls ts xs c t i X X x5 js hc hs hn hi2 hk ha) (Tr.all_ok ⟨rfl, ht rfl, hd _ rfl, fun js => ⟨rfl, js, rfl⟩⟩)) ?_⟩
      rintro x s a w ⟨rfl, js, rfl⟩ hat
      have h1 := at_memfold (b := 0) (x1 := 2) (x2 := 9) (ty := 81) (xs := xs) (c := c) (t := t) (isMem_nil rfl rfl rfl (by decide) (by decide) (by decide) rfl rfl rfl rfl) h0 (hD 2 (by decide)) (hD 9 (by decide)) hat
      obtain ⟨js', h3⟩ := at_rename (dirty' := []) (m := 6) (n := 78) [(0, 0), (1, 1)] (nid' := 2) rfl (by simp [length_junk]) rfl rfl (by rw [hE]; rfl) (by omega) (by omega) h1
      exact ⟨_, h3, rfl, _, js', rfl⟩
theorem all (s0 : MSt) (hs : s0.xs.length = 8) (hc : 0 ≤ s0.c ∧ s0.c ≤ 900) :
    Tri MS Try.prog E body ⟨[.v (.ptr 0 0), .v (.an 1 (.sym n))] ++ List.replicate (nt - 2) .undef, hp0 s0.xs s0.c s0.t ls, 2, []⟩
      fun x st => x = .normal ∧ ∃ i x5 js, st = S n i ls (iter ls (min ls.length 40) s0) x5 js := by
  have hd : ∀ (l : List Nat), l.all (fun b => Nat.beq b 0 || Nat.ble 2 b) = true → ∀ b, b ∈ l → E.D b := fun l hl b hb => by
    have := List.all_eq_true.1 hl b hb
    simp only [Bool.or_eq_true] at this
    rcases this with h | h
    · rw [Nat.eq_of_beq_eq_true h]; exact h0
    · exact hD b (Nat.le_of_ble_eq_true h)
  have ht : ∀ {k : Nat}, Nat.ble k 8 = true → k ≤ E.top := fun h => by rw [hT]; exact Nat.le_of_ble_eq_true h
  have eb : body = .seq (codeAt body [false]) (.block 0 (.loop (.seq (codeAt body [true, false, false, false]) (.seq (codeAt body [true, false, false, true, false]) (codeAt body [true, false, false, true, true]))))) := by kernel_rfl
  have hc1 : 0 ≤ s0.c ∧ s0.c ≤ 1000 := by omega
  rw [eb]
  refine Tri.seq (R := fun x st => x = .normal ∧ ∃ js, st = ⟨[.v (.ptr 0 0), .v (.an 1 (.sym n)), X, X, .v (.int .i64 (.lit 0)), .t []] ++ junk js 78 6, hp0 s0.xs s0.c s0.t ls, 2, []⟩) (Tri.allR (m := 6) (n := 78) (codeOK _) (init n ls s0.xs s0.c s0.t hc1) (Tr.all_ok ⟨rfl, ht rfl, hd _ rfl, fun js => ⟨rfl, js, rfl⟩⟩)) ?_ (fun x s hx hh => absurd hh.1 hx)
  rintro s ⟨_, js, rfl⟩
  refine Tri.preWk (pre' := pre n X X ((0 : Nat) : Int) X) (hp' := hp0 s0.xs s0.c s0.t ls) (by (repeat' apply And.intro) <;> first | rfl | trivial) (by (repeat' apply And.intro) <;> first | rfl | trivial) ?_
  refine Tri.block (R := fun x st => x = .exit 0 ∧ ∃ i x5 js, st = S n i ls (iter ls (min ls.length 40) s0) x5 js) ?_ (fun s hh => by
    rcases hh with hh | hh
    · cases hh.1
    · exact ⟨rfl, hh.2⟩) (fun x s _ hx hh => absurd hh.1 hx)
  refine Tri.loop (J := fun q st => ∃ (i : Nat) (x5 : SV) (js : Nat → SV), st = S n i ls (iter ls i s0) x5 js ∧ i ≤ ls.length ∧ i ≤ 40 ∧ q = 40 - i) ?_ (k := 40) ⟨0, X, js, rfl, Nat.zero_le _, Nat.zero_le _, rfl⟩
  rintro q st ⟨i, x5, js, rfl, h1, h2, rfl⟩
  obtain ⟨g1, g2, g3⟩ := iter_len ls s0 i
  have hci : 0 ≤ (iter ls i s0).c ∧ (iter ls i s0).c ≤ 1000 := by omega
  refine Tri.seq (R := fun x st => ∃ js, st = S n i ls (iter ls i s0) x5 js ∧ ((x = .normal ∧ i < n ∧ i < 40) ∨ (x = .exit 0 ∧ (¬ i < n ∨ ¬ i < 40)))) ?_ ?_ ?_
  · exact Tri.allR (m := 6) (n := 78) (codeOK _) (g n ls _ _ _ i X X x5 js hci) (Tr.all_ite (fun h1 => Tr.all_ite (fun h2 => Tr.all_ok ⟨rfl, ht rfl, hd _ rfl, fun js => ⟨js, rfl, .inl ⟨rfl, by have := of_decide_eq_true h1; omega, by have := of_decide_eq_true h2; omega⟩⟩⟩) fun h2 => Tr.all_ok ⟨rfl, ht rfl, hd _ rfl, fun js => ⟨js, rfl, .inr ⟨rfl, .inr (by have := of_decide_eq_false h2; omega)⟩⟩⟩) fun h1 => Tr.all_ok ⟨rfl, ht rfl, hd _ rfl, fun js => ⟨js, rfl, .inr ⟨rfl, .inl (by have := of_decide_eq_false h1; omega)⟩⟩⟩)
  · rintro st ⟨js, rfl, h | h⟩
    rotate_left
    · cases h.1
    obtain ⟨_, hin, hi4⟩ := h
    refine Tri.seq (op n ls hn hf E hE hT hD h0 i hin _ (by omega) hci x5 js) ?_ (fun x s hx hh => absurd hh.1 hx)
    rintro st ⟨_, x5', js, rfl⟩
    obtain ⟨g4, g5, g6⟩ := opS_len ls i (iter ls i s0)
    have e4 : W ((i : Int) + 1) = ((i + 1 : Nat) : Int) := by rw [show ((i + 1 : Nat) : Int) = (i : Int) + 1 by omega]; exact wrap_i64_of (by omega) (by omega)
    refine Tri.allR (m := 6) (n := 78) (codeOK _) (inc n ls _ _ _ i X X x5' js (by omega)) (Tr.all_ok ⟨rfl, ht rfl, hd _ rfl, fun js => ⟨40 - (i + 1), by omega, i + 1, x5', js, ?_, by omega, by omega, rfl⟩⟩)
    show _ = S n ((i + 1 : Nat) : Int) ls (opS ls i (iter ls i s0)) x5' js
    rw [← e4]
  · rintro x st hx ⟨js, rfl, h | h⟩
    · exact absurd h.1 hx
    · obtain ⟨rfl, h⟩ := h
      refine ⟨rfl, i, x5, js, ?_⟩
      rw [show min ls.length 40 = i by omega]
end
def cI : Intr MObj := fun args hp nid => match args, hp, nid with
  | [.s (.one (.ptr 0 0)), .s (.one (.an 1 (.sym n)))], [(0, some (.abs (.mem ty xs c t))), (1, some (.rotab [.int .i64, .int .i64, .int .u64, .int .u64, .int .u64, .int .u64] ls))], 2 => .chk (Nat.beq ty 81) "some: type" (.ite ((decide (n = ls.length) && decide (xs.length = 8)) && (decide (0 ≤ c ∧ c ≤ 900) && fitB ls))
    (.ok ⟨.t [], [(0, some (.abs (.mem 81 (sF ls xs c t).xs (sF ls xs c t).c (sF ls xs c t).t))), (1, some (.rotab ks ls))], [0], 2⟩) (.no "some: sizes"))
  | _, _, _ => .no "some: arguments"
theorem res (n : Nat) (i : Int) (ls : List (List Int)) (s : MSt) (x5 : SV) (js : Nat → SV) : vresults Try.prog (S n i ls s x5 js) Try.f21.results.toList = .ok [] := by kernel_rfl
theorem ok : FunOK MS Try.prog 21 (renI cI) := by
  refine funOK_ren (funOK_tri Try.func21 hb ?_)
  intro args hp nid r hrun
  unfold cI at hrun
  split at hrun
  · rename_i n ty xs c t ls
    rw [Tr.run_chk, Tr.run_ite] at hrun
    obtain ⟨hT, hrun⟩ := hrun
    obtain rfl := Nat.eq_of_beq_eq_true hT
    rcases hrun with ⟨hc, hrun⟩ | ⟨_, hrun⟩
    · rw [Tr.run_ok] at hrun
      subst hrun
      simp only [Bool.and_eq_true, decide_eq_true_eq] at hc
      refine ⟨Nat.le_refl _, fun b o hb ho => ?_, 8, by show 2 ≤ 8; omega, fun E hE hT hD hr => ?_⟩
      · match b, hb, ho with
        | 0, hb, _ => exact absurd hb (by decide)
        | 1, hb, _ => exact absurd hb (by decide)
        | b + 2, _, ho => cases ho
      · have h0 : E.D 0 := hr 0 (by simp)
        refine (all n ls hc.1.1 hc.2.2 E hE hT hD h0 ⟨xs, c, t⟩ hc.1.2 hc.2.1).mono ?_
        rintro x st ⟨rfl, i, x5, js, rfl⟩
        exact ⟨.inl rfl, fun b => rfl, rfl, _, (congrArg Tr.run (res n i ls _ x5 js)).trans rfl, rfl⟩
    · cases hrun
  · cases hrun
end Go.Proofs.Ytnlfphlmlklofaa.Some
