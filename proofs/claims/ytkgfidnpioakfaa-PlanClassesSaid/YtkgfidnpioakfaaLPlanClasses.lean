/-
  PlanClasses: printed by genlaw.py.
-/
import Derived.Test.YtkgfidnpioakfaaRows
import Derived.Test.YtkgfidnpioakfaaEv5
namespace Go.Proofs.Ytkgfidnpioakfaa.PlanClasses
open Go Go.RowKit Go.Proofs.Ytkgfidnpioakfaa.Eng
set_option linter.unusedVariables false
set_option linter.unusedSimpArgs false
set_option maxRecDepth 20000

def unitSys : Eng.Sys Unit := ⟨fun _ _ _ _ => False, fun _ h => h⟩
theorem tree (a0 : Int) : (evF Try.prog (lookI Unit tab5) 100 20 22 [.v (ii a0)] [] 0).vmap (·.val) =
Tr.ite (mWords a0 == mWords a0)
  (Tr.ite (mCells a0 == mCells a0) (Tr.ok (SV.s (S1.one (VV.bool (SB.sym (mClass a0 == mClass a0))))))
    (Tr.ok (SV.s (S1.one (VV.bool (SB.lit false))))))
  (Tr.ok (SV.s (S1.one (VV.bool (SB.lit false))))) := by kernel_rfl
theorem law (a0 : Int) (ha0 : CK.fits (.int .i64) a0) : Holds ((evF Try.prog (lookI Unit tab5) 100 20 22 [.v (ii a0)] [] 0).vmap (·.val)) :=
  Holds.of (tree a0) (by
    simp [Tr.All, IsTrue, SB.val])
abbrev ts : List TypeId := [3]
theorem hts : Try.f22.params.toList = ts := by kernel_rfl
theorem args (a0 : Int) : mkArgs Try.prog ts [[.int .i64]] [[a0]] = [.v (ii a0)] := by kernel_rfl
theorem shapes : shapesK Try.prog ts [[.int .i64]] := ⟨by kernel_rfl, trivial⟩
theorem core (W : World) (vals : List Value) (ha : F2 (ArgOK Try.prog W) ts vals) :
    Calls Try.prog 22 vals.toArray W fun e W' => ∃ v, e = .returned v ∧ v = .bool true ∧ Below W.heap.size W W' :=
  core_plain (S := unitSys) progOK (lookI_ok tab5_ok) 100 20 [[.int .i64]] shapes
    (fun nss hf => by
      match nss, hf with
      | [[a0]], hf =>
        exact (args a0).symm ▸ law a0 hf.1.1) W vals ha
theorem own : ownKnob Try.prog.godebug = none := by kernel_rfl
theorem lifted {H : Type} (os : Os) (started : os.Started) (enc : TypeId × Value → H) : ReturnsInHanded {} Try.checked os 22 .any (Rows.planClassesSpec.pre6 enc Try.prog Try.f22 Rows.planClassesRow.domain false) (Rows.planClassesSpec.post enc Try.prog Try.f22 false true false false) :=
  law_lifted own started (by kernel_rfl) (by kernel_rfl)
    (ChangeSpec.witness6 (enc := enc) (C := Try.checked) false ⟨#[], #[.int .i64 0], []⟩ 8 (by kernel_rfl) (by kernel_rfl) (by kernel_rfl) (by kernel_rfl))
    (tb := 4) (by kernel_rfl) (by kernel_rfl) rfl
    (fun ds hd => by
      match ds, hd with
      | [_], _ => exact ⟨rfl, rfl, rfl⟩)
    (by kernel_rfl) (by kernel_rfl) (fun W vals ha => core W vals (hts ▸ ha))
theorem proved : Rows.PlanClassesSaid :=
  OpenClaim.holds_of_wide 22 Try.f22 rfl rfl rfl rfl rfl rfl rfl ⟨rfl, rfl, rfl, rfl, rfl⟩ rfl rfl rfl rfl rfl (by kernel_rfl) Try.func22 (by kernel_rfl) (of_decide_eq_true (by kernel_rfl))
    (by unfold Func.isWrapper; first | (rw [if_pos (by decide +kernel)]; kernel_rfl) | (rw [if_neg (by decide +kernel)]; exact ⟨rfl, rfl⟩))
    (fun os started H enc _ => lifted os started enc)
end Go.Proofs.Ytkgfidnpioakfaa.PlanClasses
