/-
  AllocSets: printed by genfin.py: the row of the law.
-/
import Derived.Test.YtpbodklmbahahaaRows
import Derived.Test.YtpbodklmbahahaaCAllocSets
namespace Go.Proofs.Ytpbodklmbahahaa.AllocSets
open Go Go.RowKit Go.Proofs.Ytpbodklmbahahaa.Eng
set_option linter.unusedVariables false
set_option linter.unusedSimpArgs false
set_option maxRecDepth 100000
theorem law (a0 : Int) (ha0 : CK.fits (.int .i64) a0) : Holds (t a0) := by
  have k0 := kM_range (c := a0) (n := 3) (by decide) ha0
  have e0 : kM a0 3 = 0 ∨ kM a0 3 = 1 ∨ kM a0 3 = 2 := by omega
  rcases e0 with h0 | h0 | h0
  ·
    exact (Holds.then (Tr.run_skip _ _) (Holds.at (c0_0 a0) (by simp [h0]) (Holds.ofT (r0 a0))))
  ·
    exact (Holds.then (Tr.run_skip _ _) (Holds.at (c1_0 a0) (by simp [h0]) (Holds.ofT (r1 a0))))
  ·
    exact (Holds.then (Tr.run_skip _ _) (Holds.at (c2_0 a0) (by simp [h0]) (Holds.ofT (r2 a0))))
abbrev ts : List TypeId := [3]
theorem hts : Try.f5.params.toList = ts := by kernel_rfl
theorem args (a0 : Int) : mkArgs Try.prog ts [[.int .i64]] [[a0]] = [.v (ii a0)] := by kernel_rfl
theorem shapes : shapesK Try.prog ts [[.int .i64]] := ⟨by kernel_rfl, trivial⟩
theorem core (w : World) (vals : List Value) (ha : F2 (ArgOK Try.prog w) ts vals) :
    Calls Try.prog 5 vals.toArray w fun e W' => ∃ v, e = .returned v ∧ v = .bool true ∧ Below w.heap.size w W' :=
  core_plain (S := MS) progOK (lookH_ok L10.tabL_ok) 100 20 [[.int .i64]] shapes
    (fun nss hf => by
      match nss, hf with
      | [[a0]], hf =>
        exact (args a0).symm ▸ law a0 hf.1.1) w vals ha
theorem own : ownKnob Try.prog.godebug = none := by kernel_rfl
theorem lifted {H : Type} (os : Os) (started : os.Started) (enc : TypeId × Value → H) : ReturnsInHanded {} Try.checked os 5 .any (Rows.allocSetsSpec.pre6 enc Try.prog Try.f5 Rows.allocSetsRow.domain false) (Rows.allocSetsSpec.post enc Try.prog Try.f5 false true false false) :=
  law_lifted own started (by kernel_rfl) (by kernel_rfl)
    (ChangeSpec.witness6 (enc := enc) (C := Try.checked) false ⟨#[], #[.int .i64 0], []⟩ 8 (by kernel_rfl) (by kernel_rfl) (by kernel_rfl) (by kernel_rfl))
    (tb := 4) (by kernel_rfl) (by kernel_rfl) rfl
    (fun ds hd => by
      match ds, hd with
      | [_], _ => exact ⟨rfl, rfl, rfl⟩)
    (by kernel_rfl) (by kernel_rfl) (fun W vals ha => core W vals (hts ▸ ha))
theorem proved : Rows.AllocSetsSaid :=
  OpenClaim.holds_of_wide 5 Try.f5 rfl rfl rfl rfl rfl rfl rfl ⟨rfl, rfl, rfl, rfl, rfl⟩ rfl rfl rfl rfl rfl (by kernel_rfl) Try.func5 (by kernel_rfl) (of_decide_eq_true (by kernel_rfl))
    (by unfold Func.isWrapper; first | (rw [if_pos (by decide +kernel)]; kernel_rfl) | (rw [if_neg (by decide +kernel)]; exact ⟨rfl, rfl⟩))
    (fun os started H enc _ => lifted os started enc)
end Go.Proofs.Ytpbodklmbahahaa.AllocSets
