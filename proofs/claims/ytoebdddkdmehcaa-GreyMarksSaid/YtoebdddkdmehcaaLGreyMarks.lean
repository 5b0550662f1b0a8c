/-
  GreyMarks: the row of the law.
-/
import Derived.Test.YtoebdddkdmehcaaRows
import Derived.Test.YtoebdddkdmehcaaCGreyMarks
namespace Go.Proofs.Ytoebdddkdmehcaa.GreyMarks
open Go Go.RowKit Go.Proofs.Ytoebdddkdmehcaa.Eng
set_option linter.unusedVariables false
set_option maxRecDepth 100000
abbrev ts : List TypeId := [23, 3]
theorem hts : Try.f3.params.toList = ts := by kernel_rfl
theorem args (a0 b0 c0 d0 e0 f0 g0 a1 : Int) : mkArgs Try.prog ts [[.int .i64, .int .i64, .int .i64, .int .i64, .int .i64, .int .i64, .int .i64], [.int .i64]] [[a0, b0, c0, d0, e0, f0, g0], [a1]] = [.s (.agg [ii a0, ii b0, ii c0, ii d0, ii e0, ii f0, ii g0]), .v (ii a1)] := by kernel_rfl
theorem shapes : shapesK Try.prog ts [[.int .i64, .int .i64, .int .i64, .int .i64, .int .i64, .int .i64, .int .i64], [.int .i64]] := ⟨by kernel_rfl, by kernel_rfl, trivial⟩
theorem core (w : World) (vals : List Value) (ha : F2 (ArgOK Try.prog w) ts vals) :
    Calls Try.prog 3 vals.toArray w fun e W' => ∃ v, e = .returned v ∧ v = .bool true ∧ Below w.heap.size w W' :=
  core_plain (S := MS) progOK (lookH_ok L11.tabL_ok) 100 20 [[.int .i64, .int .i64, .int .i64, .int .i64, .int .i64, .int .i64, .int .i64], [.int .i64]] shapes
    (fun nss hf => by
      match nss, hf with
      | [[a0, b0, c0, d0, e0, f0, g0], [a1]], hf =>
        exact (args a0 b0 c0 d0 e0 f0 g0 a1).symm ▸ law a0 b0 c0 d0 e0 f0 g0 a1 hf.2.1.1) w vals ha
theorem own : ownKnob Try.prog.godebug = none := by kernel_rfl
theorem lifted {H : Type} (os : Os) (started : os.Started) (enc : TypeId × Value → H) : ReturnsInHanded {} Try.checked os 3 .any (Rows.greyMarksSpec.pre6 enc Try.prog Try.f3 Rows.greyMarksRow.domain false) (Rows.greyMarksSpec.post enc Try.prog Try.f3 false true false false) :=
  law_lifted own started (by kernel_rfl) (by kernel_rfl)
    (ChangeSpec.witness6 (enc := enc) (C := Try.checked) false ⟨#[], #[.agg #[.int .i64 0, .int .i64 0, .int .i64 0, .int .i64 0, .int .i64 0, .int .i64 0, .int .i64 0], .int .i64 0], []⟩ 8 (by kernel_rfl) (by kernel_rfl) (by kernel_rfl) (by kernel_rfl))
    (tb := 4) (by kernel_rfl) (by kernel_rfl) rfl
    (fun ds hd => by
      match ds, hd with
      | [_, _], _ => exact ⟨rfl, rfl, rfl⟩)
    (by kernel_rfl) (by kernel_rfl) (fun W vals ha => core W vals (hts ▸ ha))
theorem proved : Rows.GreyMarksSaid :=
  OpenClaim.holds_of_wide 3 Try.f3 rfl rfl rfl rfl rfl rfl rfl ⟨rfl, rfl, rfl, rfl, rfl⟩ rfl rfl rfl rfl rfl (by kernel_rfl) Try.func3 (by kernel_rfl) (of_decide_eq_true (by kernel_rfl))
    (by unfold Func.isWrapper; first | (rw [if_pos (by decide +kernel)]; kernel_rfl) | (rw [if_neg (by decide +kernel)]; exact ⟨rfl, rfl⟩))
    (fun os started H enc _ => lifted os started enc)
end Go.Proofs.Ytoebdddkdmehcaa.GreyMarks
