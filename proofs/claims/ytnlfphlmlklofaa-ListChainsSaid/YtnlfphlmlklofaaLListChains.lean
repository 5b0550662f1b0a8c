/-
  ListChains: printed by genfin.py: the row of the law.
-/
import Derived.Test.YtnlfphlmlklofaaRows
import Derived.Test.YtnlfphlmlklofaaCListChains
namespace Go.Proofs.Ytnlfphlmlklofaa.ListChains
open Go Go.RowKit Go.Proofs.Ytnlfphlmlklofaa.Eng
set_option linter.unusedVariables false
set_option linter.unusedSimpArgs false
set_option maxRecDepth 100000
theorem law (a0 a1 : Int) (ha0 : CK.fits (.int .i64) a0) (ha1 : CK.fits (.int .i64) a1) : Holds (t a0 a1) := by
  have k0 := kM_range (c := a0) (n := 7) (by decide) ha0
  have e0 : kM a0 7 = 0 ∨ kM a0 7 = 1 ∨ kM a0 7 = 2 ∨ kM a0 7 = 3 ∨ kM a0 7 = 4 ∨ kM a0 7 = 5 ∨ kM a0 7 = 6 := by omega
  have k1 := kM_range (c := a1) (n := 6) (by decide) ha1
  have e1 : kM a1 6 = 0 ∨ kM a1 6 = 1 ∨ kM a1 6 = 2 ∨ kM a1 6 = 3 ∨ kM a1 6 = 4 ∨ kM a1 6 = 5 := by omega
  rcases e0 with h0 | h0 | h0 | h0 | h0 | h0 | h0
  ·
    rcases e1 with h1 | h1 | h1 | h1 | h1 | h1
    ·
      exact Holds.path (c0_0 a0 a1) (by simp [h0, h1]) (r0_0 a0 a1)
    ·
      exact Holds.path (c0_1 a0 a1) (by simp [h0, h1]) (r0_1 a0 a1)
    ·
      exact Holds.path (c0_2 a0 a1) (by simp [h0, h1]) (r0_2 a0 a1)
    ·
      exact Holds.path (c0_3 a0 a1) (by simp [h0, h1]) (r0_3 a0 a1)
    ·
      exact Holds.path (c0_4 a0 a1) (by simp [h0, h1]) (r0_4 a0 a1)
    ·
      exact Holds.path (c0_5 a0 a1) (by simp [h0, h1]) (r0_5 a0 a1)
  ·
    rcases e1 with h1 | h1 | h1 | h1 | h1 | h1
    ·
      exact Holds.path (c1_0 a0 a1) (by simp [h0, h1]) (r1_0 a0 a1)
    ·
      exact Holds.path (c1_1 a0 a1) (by simp [h0, h1]) (r1_1 a0 a1)
    ·
      exact Holds.path (c1_2 a0 a1) (by simp [h0, h1]) (r1_2 a0 a1)
    ·
      exact Holds.path (c1_3 a0 a1) (by simp [h0, h1]) (r1_3 a0 a1)
    ·
      exact Holds.path (c1_4 a0 a1) (by simp [h0, h1]) (r1_4 a0 a1)
    ·
      exact Holds.path (c1_5 a0 a1) (by simp [h0, h1]) (r1_5 a0 a1)
  ·
    rcases e1 with h1 | h1 | h1 | h1 | h1 | h1
    ·
      exact Holds.path (c2_0 a0 a1) (by simp [h0, h1]) (r2_0 a0 a1)
    ·
      exact Holds.path (c2_1 a0 a1) (by simp [h0, h1]) (r2_1 a0 a1)
    ·
      exact Holds.path (c2_2 a0 a1) (by simp [h0, h1]) (r2_2 a0 a1)
    ·
      exact Holds.path (c2_3 a0 a1) (by simp [h0, h1]) (r2_3 a0 a1)
    ·
      exact Holds.path (c2_4 a0 a1) (by simp [h0, h1]) (r2_4 a0 a1)
    ·
      exact Holds.path (c2_5 a0 a1) (by simp [h0, h1]) (r2_5 a0 a1)
  ·
    rcases e1 with h1 | h1 | h1 | h1 | h1 | h1
    ·
      exact Holds.path (c3_0 a0 a1) (by simp [h0, h1]) (r3_0 a0 a1)
    ·
      exact Holds.path (c3_1 a0 a1) (by simp [h0, h1]) (r3_1 a0 a1)
    ·
      exact Holds.path (c3_2 a0 a1) (by simp [h0, h1]) (r3_2 a0 a1)
    ·
      exact Holds.path (c3_3 a0 a1) (by simp [h0, h1]) (r3_3 a0 a1)
    ·
      exact Holds.path (c3_4 a0 a1) (by simp [h0, h1]) (r3_4 a0 a1)
    ·
      exact Holds.path (c3_5 a0 a1) (by simp [h0, h1]) (r3_5 a0 a1)
  ·
    rcases e1 with h1 | h1 | h1 | h1 | h1 | h1
    ·
      exact Holds.path (c4_0 a0 a1) (by simp [h0, h1]) (r4_0 a0 a1)
    ·
      exact Holds.path (c4_1 a0 a1) (by simp [h0, h1]) (r4_1 a0 a1)
    ·
      exact Holds.path (c4_2 a0 a1) (by simp [h0, h1]) (r4_2 a0 a1)
    ·
      exact Holds.path (c4_3 a0 a1) (by simp [h0, h1]) (r4_3 a0 a1)
    ·
      exact Holds.path (c4_4 a0 a1) (by simp [h0, h1]) (r4_4 a0 a1)
    ·
      exact Holds.path (c4_5 a0 a1) (by simp [h0, h1]) (r4_5 a0 a1)
  ·
    rcases e1 with h1 | h1 | h1 | h1 | h1 | h1
    ·
      exact Holds.path (c5_0 a0 a1) (by simp [h0, h1]) (r5_0 a0 a1)
    ·
      exact Holds.path (c5_1 a0 a1) (by simp [h0, h1]) (r5_1 a0 a1)
    ·
      exact Holds.path (c5_2 a0 a1) (by simp [h0, h1]) (r5_2 a0 a1)
    ·
      exact Holds.path (c5_3 a0 a1) (by simp [h0, h1]) (r5_3 a0 a1)
    ·
      exact Holds.path (c5_4 a0 a1) (by simp [h0, h1]) (r5_4 a0 a1)
    ·
      exact Holds.path (c5_5 a0 a1) (by simp [h0, h1]) (r5_5 a0 a1)
  ·
    rcases e1 with h1 | h1 | h1 | h1 | h1 | h1
    ·
      exact Holds.path (c6_0 a0 a1) (by simp [h0, h1]) (r6_0 a0 a1)
    ·
      exact Holds.path (c6_1 a0 a1) (by simp [h0, h1]) (r6_1 a0 a1)
    ·
      exact Holds.path (c6_2 a0 a1) (by simp [h0, h1]) (r6_2 a0 a1)
    ·
      exact Holds.path (c6_3 a0 a1) (by simp [h0, h1]) (r6_3 a0 a1)
    ·
      exact Holds.path (c6_4 a0 a1) (by simp [h0, h1]) (r6_4 a0 a1)
    ·
      exact Holds.path (c6_5 a0 a1) (by simp [h0, h1]) (r6_5 a0 a1)
abbrev ts : List TypeId := [3, 3]
theorem hts : Try.f6.params.toList = ts := by kernel_rfl
theorem args (a0 a1 : Int) : mkArgs Try.prog ts [[.int .i64], [.int .i64]] [[a0], [a1]] = [.v (ii a0), .v (ii a1)] := by kernel_rfl
theorem shapes : shapesK Try.prog ts [[.int .i64], [.int .i64]] := ⟨by kernel_rfl, by kernel_rfl, trivial⟩
theorem core (w : World) (vals : List Value) (ha : F2 (ArgOK Try.prog w) ts vals) :
    Calls Try.prog 6 vals.toArray w fun e W' => ∃ v, e = .returned v ∧ v = .bool true ∧ Below w.heap.size w W' :=
  core_plain (S := MS) progOK (lookH_ok L8.tabL_ok) 100 20 [[.int .i64], [.int .i64]] shapes
    (fun nss hf => by
      match nss, hf with
      | [[a0], [a1]], hf =>
        exact (args a0 a1).symm ▸ law a0 a1 hf.1.1 hf.2.1.1) w vals ha
theorem own : ownKnob Try.prog.godebug = none := by kernel_rfl
theorem lifted {H : Type} (os : Os) (started : os.Started) (enc : TypeId × Value → H) : ReturnsInHanded {} Try.checked os 6 .any (Rows.listChainsSpec.pre6 enc Try.prog Try.f6 Rows.listChainsRow.domain false) (Rows.listChainsSpec.post enc Try.prog Try.f6 false true false false) :=
  law_lifted own started (by kernel_rfl) (by kernel_rfl)
    (ChangeSpec.witness6 (enc := enc) (C := Try.checked) false ⟨#[], #[.int .i64 0, .int .i64 0], []⟩ 8 (by kernel_rfl) (by kernel_rfl) (by kernel_rfl) (by kernel_rfl))
    (tb := 4) (by kernel_rfl) (by kernel_rfl) rfl
    (fun ds hd => by
      match ds, hd with
      | [_, _], _ => exact ⟨rfl, rfl, rfl⟩)
    (by kernel_rfl) (by kernel_rfl) (fun W vals ha => core W vals (hts ▸ ha))
theorem proved : Rows.ListChainsSaid :=
  OpenClaim.holds_of_wide 6 Try.f6 rfl rfl rfl rfl rfl rfl rfl ⟨rfl, rfl, rfl, rfl, rfl⟩ rfl rfl rfl rfl rfl (by kernel_rfl) Try.func6 (by kernel_rfl) (of_decide_eq_true (by kernel_rfl))
    (by unfold Func.isWrapper; first | (rw [if_pos (by decide +kernel)]; kernel_rfl) | (rw [if_neg (by decide +kernel)]; exact ⟨rfl, rfl⟩))
    (fun os started H enc _ => lifted os started enc)
end Go.Proofs.Ytnlfphlmlklofaa.ListChains
