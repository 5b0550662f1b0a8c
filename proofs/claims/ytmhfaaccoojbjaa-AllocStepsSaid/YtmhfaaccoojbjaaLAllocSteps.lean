/-
  AllocSteps: printed by genAS.py: the row of the law.
-/
import Derived.Test.YtmhfaaccoojbjaaRows
import Derived.Test.YtmhfaaccoojbjaaEngZf
import Derived.Test.YtmhfaaccoojbjaaCAllocSteps0
import Derived.Test.YtmhfaaccoojbjaaCAllocSteps1
import Derived.Test.YtmhfaaccoojbjaaCAllocSteps2
import Derived.Test.YtmhfaaccoojbjaaCAllocSteps3
namespace Go.Proofs.Ytmhfaaccoojbjaa.AllocSteps
open Go Go.RowKit Go.Proofs.Ytmhfaaccoojbjaa.Eng
set_option linter.unusedVariables false
set_option linter.unusedSimpArgs false
set_option maxRecDepth 100000
noncomputable abbrev t (a0 : Int) (nl : Nat) (ls : List (List Int)) : Tr SV := (evF Try.prog (lookH MObj LC10.tabL) 100 20 7 [.v (ii a0), .v (.an 0 (.sym nl))] [(0, some (.rotab [.int .u64] ls))] 1).vmap (·.val)

theorem law0 (a0 : Int) (nl : Nat) (ls : List (List Int)) (hl : nl = ls.length) (h0 : kM a0 8 = 0) : Holds (t a0 nl ls) := by
  refine Holds.at (K0.k0 a0 nl ls) (by simp [h0]) (Holds.then (Tr.run_skip 54 _) ?_)
  by_cases h1 : 0 < nl
  case neg => exact Holds.at (K0.c0_0 a0 nl ls) (by simp; omega) (Holds.ofT (K0.r0_0 a0 nl ls))
  exact Holds.at (K0.d0_0 a0 nl ls) (by simp; omega) (Holds.ofT (K0.s0_0 a0 nl ls))
theorem law1 (a0 : Int) (nl : Nat) (ls : List (List Int)) (hl : nl = ls.length) (h0 : kM a0 8 = 1) : Holds (t a0 nl ls) := by
  refine Holds.at (K0.k1 a0 nl ls) (by simp [h0]) (Holds.then (Tr.run_skip 56 _) ?_)
  by_cases h1 : 0 < nl
  case neg => exact Holds.at (K0.c1_0 a0 nl ls) (by simp; omega) (Holds.ofT (K0.r1_0 a0 nl ls))
  refine Holds.at (K0.d1_0 a0 nl ls) (by simp; omega) (Holds.then (Tr.run_skip 2 _) ?_)
  by_cases h2 : 1 < nl
  case neg => exact Holds.at (K0.c1_1 a0 nl ls) (by simp; omega) (Holds.ofT (K0.r1_1 a0 nl ls))
  exact Holds.at (K0.d1_1 a0 nl ls) (by simp; omega) (Holds.ofT (K0.s1_1 a0 nl ls))
theorem law2 (a0 : Int) (nl : Nat) (ls : List (List Int)) (hl : nl = ls.length) (h0 : kM a0 8 = 2) : Holds (t a0 nl ls) := by
  refine Holds.at (K1.k2 a0 nl ls) (by simp [h0]) (Holds.then (Tr.run_skip 58 _) ?_)
  by_cases h1 : 0 < nl
  case neg => exact Holds.at (K1.c2_0 a0 nl ls) (by simp; omega) (Holds.ofT (K1.r2_0 a0 nl ls))
  refine Holds.at (K1.d2_0 a0 nl ls) (by simp; omega) (Holds.then (Tr.run_skip 2 _) ?_)
  by_cases h2 : 1 < nl
  case neg => exact Holds.at (K1.c2_1 a0 nl ls) (by simp; omega) (Holds.ofT (K1.r2_1 a0 nl ls))
  refine Holds.at (K1.d2_1 a0 nl ls) (by simp; omega) (Holds.then (Tr.run_skip 2 _) ?_)
  by_cases h3 : 2 < nl
  case neg => exact Holds.at (K1.c2_2 a0 nl ls) (by simp; omega) (Holds.ofT (K1.r2_2 a0 nl ls))
  exact Holds.at (K1.d2_2 a0 nl ls) (by simp; omega) (Holds.ofT (K1.s2_2 a0 nl ls))
theorem law3 (a0 : Int) (nl : Nat) (ls : List (List Int)) (hl : nl = ls.length) (h0 : kM a0 8 = 3) : Holds (t a0 nl ls) := by
  refine Holds.at (K2.k3 a0 nl ls) (by simp [h0]) (Holds.then (Tr.run_skip 60 _) ?_)
  by_cases h1 : 0 < nl
  case neg => exact Holds.at (K2.c3_0 a0 nl ls) (by simp; omega) (Holds.ofT (K2.r3_0 a0 nl ls))
  refine Holds.at (K2.d3_0 a0 nl ls) (by simp; omega) (Holds.then (Tr.run_skip 2 _) ?_)
  by_cases h2 : 1 < nl
  case neg => exact Holds.at (K2.c3_1 a0 nl ls) (by simp; omega) (Holds.ofT (K2.r3_1 a0 nl ls))
  refine Holds.at (K2.d3_1 a0 nl ls) (by simp; omega) (Holds.then (Tr.run_skip 2 _) ?_)
  by_cases h3 : 2 < nl
  case neg => exact Holds.at (K2.c3_2 a0 nl ls) (by simp; omega) (Holds.ofT (K2.r3_2 a0 nl ls))
  refine Holds.at (K2.d3_2 a0 nl ls) (by simp; omega) (Holds.then (Tr.run_skip 2 _) ?_)
  by_cases h4 : 3 < nl
  case neg => exact Holds.at (K2.c3_3 a0 nl ls) (by simp; omega) (Holds.ofT (K2.r3_3 a0 nl ls))
  exact Holds.at (K2.d3_3 a0 nl ls) (by simp; omega) (Holds.ofT (K2.s3_3 a0 nl ls))
theorem law4 (a0 : Int) (nl : Nat) (ls : List (List Int)) (hl : nl = ls.length) (h0 : kM a0 8 = 4) : Holds (t a0 nl ls) := by
  refine Holds.at (K0.k4 a0 nl ls) (by simp [h0]) (Holds.then (Tr.run_skip 46 _) ?_)
  by_cases h1 : 0 < nl
  case neg => exact Holds.at (K0.c4_0 a0 nl ls) (by simp; omega) (Holds.ofT (K0.r4_0 a0 nl ls))
  refine Holds.at (K0.d4_0 a0 nl ls) (by simp; omega) (Holds.then (Tr.run_skip 2 _) ?_)
  by_cases h2 : 1 < nl
  case neg => exact Holds.at (K0.c4_1 a0 nl ls) (by simp; omega) (Holds.ofT (K0.r4_1 a0 nl ls))
  refine Holds.at (K0.d4_1 a0 nl ls) (by simp; omega) (Holds.then (Tr.run_skip 2 _) ?_)
  by_cases h3 : 2 < nl
  case neg => exact Holds.at (K0.c4_2 a0 nl ls) (by simp; omega) (Holds.ofT (K0.r4_2 a0 nl ls))
  refine Holds.at (K0.d4_2 a0 nl ls) (by simp; omega) (Holds.then (Tr.run_skip 2 _) ?_)
  by_cases h4 : 3 < nl
  case neg => exact Holds.at (K0.c4_3 a0 nl ls) (by simp; omega) (Holds.ofT (K0.r4_3 a0 nl ls))
  refine Holds.at (K0.d4_3 a0 nl ls) (by simp; omega) (Holds.then (Tr.run_skip 2 _) ?_)
  by_cases h5 : 4 < nl
  case neg => exact Holds.at (K0.c4_4 a0 nl ls) (by simp; omega) (Holds.ofT (K0.r4_4 a0 nl ls))
  exact Holds.at (K0.d4_4 a0 nl ls) (by simp; omega) (Holds.ofT (K0.s4_4 a0 nl ls))
theorem law5 (a0 : Int) (nl : Nat) (ls : List (List Int)) (hl : nl = ls.length) (h0 : kM a0 8 = 5) : Holds (t a0 nl ls) := by
  refine Holds.at (K1.k5 a0 nl ls) (by simp [h0]) (Holds.then (Tr.run_skip 48 _) ?_)
  by_cases h1 : 0 < nl
  case neg => exact Holds.at (K1.c5_0 a0 nl ls) (by simp; omega) (Holds.ofT (K1.r5_0 a0 nl ls))
  refine Holds.at (K1.d5_0 a0 nl ls) (by simp; omega) (Holds.then (Tr.run_skip 2 _) ?_)
  by_cases h2 : 1 < nl
  case neg => exact Holds.at (K1.c5_1 a0 nl ls) (by simp; omega) (Holds.ofT (K1.r5_1 a0 nl ls))
  refine Holds.at (K1.d5_1 a0 nl ls) (by simp; omega) (Holds.then (Tr.run_skip 2 _) ?_)
  by_cases h3 : 2 < nl
  case neg => exact Holds.at (K1.c5_2 a0 nl ls) (by simp; omega) (Holds.ofT (K1.r5_2 a0 nl ls))
  refine Holds.at (K1.d5_2 a0 nl ls) (by simp; omega) (Holds.then (Tr.run_skip 2 _) ?_)
  by_cases h4 : 3 < nl
  case neg => exact Holds.at (K1.c5_3 a0 nl ls) (by simp; omega) (Holds.ofT (K1.r5_3 a0 nl ls))
  refine Holds.at (K1.d5_3 a0 nl ls) (by simp; omega) (Holds.then (Tr.run_skip 2 _) ?_)
  by_cases h5 : 4 < nl
  case neg => exact Holds.at (K1.c5_4 a0 nl ls) (by simp; omega) (Holds.ofT (K1.r5_4 a0 nl ls))
  refine Holds.at (K1.d5_4 a0 nl ls) (by simp; omega) (Holds.then (Tr.run_skip 2 _) ?_)
  by_cases h6 : 5 < nl
  case neg => exact Holds.at (K1.c5_5 a0 nl ls) (by simp; omega) (Holds.ofT (K1.r5_5 a0 nl ls))
  exact Holds.at (K1.d5_5 a0 nl ls) (by simp; omega) (Holds.ofT (K1.s5_5 a0 nl ls))
theorem law6 (a0 : Int) (nl : Nat) (ls : List (List Int)) (hl : nl = ls.length) (h0 : kM a0 8 = 6) : Holds (t a0 nl ls) := by
  refine Holds.at (K2.k6 a0 nl ls) (by simp [h0]) (Holds.then (Tr.run_skip 50 _) ?_)
  by_cases h1 : 0 < nl
  case neg => exact Holds.at (K2.c6_0 a0 nl ls) (by simp; omega) (Holds.ofT (K2.r6_0 a0 nl ls))
  refine Holds.at (K2.d6_0 a0 nl ls) (by simp; omega) (Holds.then (Tr.run_skip 2 _) ?_)
  by_cases h2 : 1 < nl
  case neg => exact Holds.at (K2.c6_1 a0 nl ls) (by simp; omega) (Holds.ofT (K2.r6_1 a0 nl ls))
  refine Holds.at (K2.d6_1 a0 nl ls) (by simp; omega) (Holds.then (Tr.run_skip 2 _) ?_)
  by_cases h3 : 2 < nl
  case neg => exact Holds.at (K2.c6_2 a0 nl ls) (by simp; omega) (Holds.ofT (K2.r6_2 a0 nl ls))
  refine Holds.at (K2.d6_2 a0 nl ls) (by simp; omega) (Holds.then (Tr.run_skip 2 _) ?_)
  by_cases h4 : 3 < nl
  case neg => exact Holds.at (K2.c6_3 a0 nl ls) (by simp; omega) (Holds.ofT (K2.r6_3 a0 nl ls))
  refine Holds.at (K2.d6_3 a0 nl ls) (by simp; omega) (Holds.then (Tr.run_skip 2 _) ?_)
  by_cases h5 : 4 < nl
  case neg => exact Holds.at (K2.c6_4 a0 nl ls) (by simp; omega) (Holds.ofT (K2.r6_4 a0 nl ls))
  refine Holds.at (K2.d6_4 a0 nl ls) (by simp; omega) (Holds.then (Tr.run_skip 2 _) ?_)
  by_cases h6 : 5 < nl
  case neg => exact Holds.at (K2.c6_5 a0 nl ls) (by simp; omega) (Holds.ofT (K2.r6_5 a0 nl ls))
  refine Holds.at (K2.d6_5 a0 nl ls) (by simp; omega) (Holds.then (Tr.run_skip 2 _) ?_)
  by_cases h7 : 6 < nl
  case neg => exact Holds.at (K2.c6_6 a0 nl ls) (by simp; omega) (Holds.ofT (K2.r6_6 a0 nl ls))
  exact Holds.at (K2.d6_6 a0 nl ls) (by simp; omega) (Holds.ofT (K2.s6_6 a0 nl ls))
theorem law7 (a0 : Int) (nl : Nat) (ls : List (List Int)) (hl : nl = ls.length) (h0 : kM a0 8 = 7) : Holds (t a0 nl ls) := by
  refine Holds.at (K3.k7 a0 nl ls) (by simp [h0]) (Holds.then (Tr.run_skip 52 _) ?_)
  by_cases h1 : 0 < nl
  case neg => exact Holds.at (K3.c7_0 a0 nl ls) (by simp; omega) (Holds.ofT (K3.r7_0 a0 nl ls))
  refine Holds.at (K3.d7_0 a0 nl ls) (by simp; omega) (Holds.then (Tr.run_skip 2 _) ?_)
  by_cases h2 : 1 < nl
  case neg => exact Holds.at (K3.c7_1 a0 nl ls) (by simp; omega) (Holds.ofT (K3.r7_1 a0 nl ls))
  refine Holds.at (K3.d7_1 a0 nl ls) (by simp; omega) (Holds.then (Tr.run_skip 2 _) ?_)
  by_cases h3 : 2 < nl
  case neg => exact Holds.at (K3.c7_2 a0 nl ls) (by simp; omega) (Holds.ofT (K3.r7_2 a0 nl ls))
  refine Holds.at (K3.d7_2 a0 nl ls) (by simp; omega) (Holds.then (Tr.run_skip 2 _) ?_)
  by_cases h4 : 3 < nl
  case neg => exact Holds.at (K3.c7_3 a0 nl ls) (by simp; omega) (Holds.ofT (K3.r7_3 a0 nl ls))
  refine Holds.at (K3.d7_3 a0 nl ls) (by simp; omega) (Holds.then (Tr.run_skip 2 _) ?_)
  by_cases h5 : 4 < nl
  case neg => exact Holds.at (K3.c7_4 a0 nl ls) (by simp; omega) (Holds.ofT (K3.r7_4 a0 nl ls))
  refine Holds.at (K3.d7_4 a0 nl ls) (by simp; omega) (Holds.then (Tr.run_skip 2 _) ?_)
  by_cases h6 : 5 < nl
  case neg => exact Holds.at (K3.c7_5 a0 nl ls) (by simp; omega) (Holds.ofT (K3.r7_5 a0 nl ls))
  refine Holds.at (K3.d7_5 a0 nl ls) (by simp; omega) (Holds.then (Tr.run_skip 2 _) ?_)
  by_cases h7 : 6 < nl
  case neg => exact Holds.at (K3.c7_6 a0 nl ls) (by simp; omega) (Holds.ofT (K3.r7_6 a0 nl ls))
  refine Holds.at (K3.d7_6 a0 nl ls) (by simp; omega) (Holds.then (Tr.run_skip 2 _) ?_)
  by_cases h8 : 7 < nl
  case neg => exact Holds.at (K3.c7_7 a0 nl ls) (by simp; omega) (Holds.ofT (K3.r7_7 a0 nl ls))
  exact Holds.at (K3.d7_7 a0 nl ls) (by simp; omega) (Holds.ofT (K3.s7_7 a0 nl ls))
theorem law (a0 : Int) (ha : CK.fits (.int .i64) a0) (nl : Nat) (ls : List (List Int)) (hl : nl = ls.length) : Holds (t a0 nl ls) := by
  have k0 := kM_range (c := a0) (n := 8) (by decide) ha
  rcases (show kM a0 8 = 0 ∨ kM a0 8 = 1 ∨ kM a0 8 = 2 ∨ kM a0 8 = 3 ∨ kM a0 8 = 4 ∨ kM a0 8 = 5 ∨ kM a0 8 = 6 ∨ kM a0 8 = 7 by omega) with h | h | h | h | h | h | h | h
  · exact law0 a0 nl ls hl h
  · exact law1 a0 nl ls hl h
  · exact law2 a0 nl ls hl h
  · exact law3 a0 nl ls hl h
  · exact law4 a0 nl ls hl h
  · exact law5 a0 nl ls hl h
  · exact law6 a0 nl ls hl h
  · exact law7 a0 nl ls hl h
abbrev ts : List TypeId := [3, 75]
theorem hts : Try.f7.params.toList = ts := by kernel_rfl
theorem arg0 (n : Int) : (SV.s (mkS1 Try.prog 3 [.int .i64] [n])) = .v (ii n) := by kernel_rfl
theorem core (w : World) (vals : List Value) (ha : F2 (ArgOK Try.prog w) ts vals) :
    Calls Try.prog 7 vals.toArray w fun e W' => ∃ v, e = .returned v ∧ v = .bool true ∧ Below w.heap.size w W' := by
  obtain ⟨u, v, rfl⟩ : ∃ u v, vals = [u, v] := by
    match vals, ha with
    | [u, v], _ => exact ⟨u, v, rfl⟩
    | [], ha => exact ha.elim
    | [_], ha => exact ha.2.elim
    | _ :: _ :: _ :: _, ha => exact ha.2.2.elim
  obtain ⟨ns, cs, hcs, hr⟩ := arg_plain (ks := [.int .i64]) ha.1 (by kernel_rfl)
  obtain ⟨n0, rfl, hfit⟩ : ∃ n0, ns = [n0] ∧ CK.fits (.int .i64) n0 := by
    have := hcs.fits'
    match ns, this with
    | [n0], h => exact ⟨n0, rfl, h.1⟩
    | [], h => exact h.elim
    | _ :: _ :: _, h => exact h.2.elim
  obtain ⟨xs, p, hf, hlen, hall⟩ := arg_slice (e := 41) (ks := [.int .u64]) ha.2.1 (by kernel_rfl) (by kernel_rfl) (by kernel_rfl) (by decide)
  let ρ0 : Rho := fun b => match b with | 0 => some p | _ + 1 => none
  have hρ : ∀ b, 1 ≤ b → ρ0 b = none := fun b hb => by
    match b, hb with
    | b + 1, _ => rfl
  have hr0 : RS ρ0 (.s (mkS1 Try.prog 3 [.int .i64] [n0])) u := hr ρ0
  rw [arg0] at hr0
  refine calls_of_evA (S := MS) (A := MObj) progOK (lookH_ok LC10.tabL_ok) 100 20 (vargs := [u, v]) 1 hρ (hp := [(0, some (.rotab [.int .u64] xs))]) (fun b o ho => ?_) (law n0 hfit xs.length xs rfl) ⟨hr0, (hall MS ρ0 0 rfl).1, trivial⟩
  match b, ho with
  | 0, ho =>
    injection ho with ho
    subst ho
    exact (hall MS ρ0 0 rfl).2
  | b + 1, ho => cases ho
theorem own : ownKnob Try.prog.godebug = none := by kernel_rfl
theorem lifted {H : Type} (os : Os) (started : os.Started) (enc : TypeId × Value → H) : ReturnsInHanded {} Try.checked os 7 .any (Rows.allocStepsSpec.pre6 enc Try.prog Try.f7 Rows.allocStepsRow.domain false) (Rows.allocStepsSpec.post enc Try.prog Try.f7 false true false false) :=
  law_lifted own started (by kernel_rfl) (by kernel_rfl)
    (ChangeSpec.witness6 (enc := enc) (C := Try.checked) false ⟨#[], #[.int .i64 0, .slice none 0 0], []⟩ 8 (by kernel_rfl) (by kernel_rfl) (by kernel_rfl) (by kernel_rfl))
    (tb := 4) (by kernel_rfl) (by kernel_rfl) rfl
    (fun ds hd => by
      match ds, hd with
      | [_, _], _ => exact ⟨rfl, rfl, rfl⟩)
    (by kernel_rfl) (by kernel_rfl) (fun W vals ha => core W vals (hts ▸ ha))
theorem proved : Rows.AllocStepsSaid :=
  OpenClaim.holds_of_wide 7 Try.f7 rfl rfl rfl rfl rfl rfl rfl ⟨rfl, rfl, rfl, rfl, rfl⟩ rfl rfl rfl rfl rfl (by kernel_rfl) Try.func7 (by kernel_rfl) (of_decide_eq_true (by kernel_rfl))
    (by unfold Func.isWrapper; first | (rw [if_pos (by decide +kernel)]; kernel_rfl) | (rw [if_neg (by decide +kernel)]; exact ⟨rfl, rfl⟩))
    (fun os started H enc _ => lifted os started enc)
end Go.Proofs.Ytmhfaaccoojbjaa.AllocSteps
