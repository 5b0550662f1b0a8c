/-
  PlanSizes: printed by genlaw.py.
-/
import Derived.Test.YtkgfidnpioakfaaRows
import Derived.Test.YtkgfidnpioakfaaEv5
namespace Go.Proofs.Ytkgfidnpioakfaa.PlanSizes
open Go Go.RowKit Go.Proofs.Ytkgfidnpioakfaa.Eng
set_option linter.unusedVariables false
set_option linter.unusedSimpArgs false
set_option maxRecDepth 20000

def unitSys : Eng.Sys Unit := ⟨fun _ _ _ _ => False, fun _ h => h⟩
theorem tree (a0 : Int) : (evF Try.prog (lookI Unit tab5) 100 20 23 [.v (ii a0)] [] 0).vmap (·.val) =
Tr.ite (decide (a0 < 0)) (Tr.ok (SV.s (S1.one (VV.bool (SB.sym (mClass a0 == -1))))))
  (Tr.ite (decide (a0 > 7)) (Tr.ok (SV.s (S1.one (VV.bool (SB.sym (mClass a0 == -1))))))
    (Tr.ite (decide (mClass a0 ≥ 0))
      (Tr.ite (decide (mClass a0 ≤ 1))
        (Tr.ite (decide (mWords (mClass a0) > a0))
          (Tr.ite (mClass a0 == 0)
            (Tr.ok
              (SV.s
                (S1.one
                  (VV.bool
                    (SB.sym
                      (decide
                        (mWords (IntKind.i64.wrap (mClass a0 + 1)) ≥
                          IntKind.i64.wrap (2 + IntKind.i64.wrap (2 * a0)))))))))
            (Tr.ite (decide (mWords (IntKind.i64.wrap (mClass a0 - 1)) ≤ a0))
              (Tr.ok
                (SV.s
                  (S1.one
                    (VV.bool
                      (SB.sym
                        (decide
                          (mWords (IntKind.i64.wrap (mClass a0 + 1)) ≥
                            IntKind.i64.wrap (2 + IntKind.i64.wrap (2 * a0)))))))))
              (Tr.ok (SV.s (S1.one (VV.bool (SB.lit false)))))))
          (Tr.ok (SV.s (S1.one (VV.bool (SB.lit false))))))
        (Tr.ok (SV.s (S1.one (VV.bool (SB.lit false))))))
      (Tr.ok (SV.s (S1.one (VV.bool (SB.lit false))))))) := by kernel_rfl
theorem law (a0 : Int) (ha0 : CK.fits (.int .i64) a0) : Holds ((evF Try.prog (lookI Unit tab5) 100 20 23 [.v (ii a0)] [] 0).vmap (·.val)) :=
  Holds.of (tree a0) (by
    by_cases h : 0 ≤ a0 ∧ a0 ≤ 7
    · have : a0 = 0 ∨ a0 = 1 ∨ a0 = 2 ∨ a0 = 3 ∨ a0 = 4 ∨ a0 = 5 ∨ a0 = 6 ∨ a0 = 7 := by omega
      rcases this with rfl | rfl | rfl | rfl | rfl | rfl | rfl | rfl <;> exact all_of_bool (by kernel_rfl)
    · have e : mClass a0 = -1 := by
        unfold mClass
        (repeat' split) <;> omega
      rw [e]
      refine ⟨fun _ => rfl, fun h1 => ⟨fun _ => rfl, fun h2 => ?_⟩⟩
      have h1 := of_decide_eq_false h1
      have h2 := of_decide_eq_false h2
      omega)
abbrev ts : List TypeId := [3]
theorem hts : Try.f23.params.toList = ts := by kernel_rfl
theorem args (a0 : Int) : mkArgs Try.prog ts [[.int .i64]] [[a0]] = [.v (ii a0)] := by kernel_rfl
theorem shapes : shapesK Try.prog ts [[.int .i64]] := ⟨by kernel_rfl, trivial⟩
theorem core (W : World) (vals : List Value) (ha : F2 (ArgOK Try.prog W) ts vals) :
    Calls Try.prog 23 vals.toArray W fun e W' => ∃ v, e = .returned v ∧ v = .bool true ∧ Below W.heap.size W W' :=
  core_plain (S := unitSys) progOK (lookI_ok tab5_ok) 100 20 [[.int .i64]] shapes
    (fun nss hf => by
      match nss, hf with
      | [[a0]], hf =>
        exact (args a0).symm ▸ law a0 hf.1.1) W vals ha
theorem own : ownKnob Try.prog.godebug = none := by kernel_rfl
theorem lifted {H : Type} (os : Os) (started : os.Started) (enc : TypeId × Value → H) : ReturnsInHanded {} Try.checked os 23 .any (Rows.planSizesSpec.pre6 enc Try.prog Try.f23 Rows.planSizesRow.domain false) (Rows.planSizesSpec.post enc Try.prog Try.f23 false true false false) :=
  law_lifted own started (by kernel_rfl) (by kernel_rfl)
    (ChangeSpec.witness6 (enc := enc) (C := Try.checked) false ⟨#[], #[.int .i64 0], []⟩ 8 (by kernel_rfl) (by kernel_rfl) (by kernel_rfl) (by kernel_rfl))
    (tb := 4) (by kernel_rfl) (by kernel_rfl) rfl
    (fun ds hd => by
      match ds, hd with
      | [_], _ => exact ⟨rfl, rfl, rfl⟩)
    (by kernel_rfl) (by kernel_rfl) (fun W vals ha => core W vals (hts ▸ ha))
theorem proved : Rows.PlanSizesSaid :=
  OpenClaim.holds_of_wide 23 Try.f23 rfl rfl rfl rfl rfl rfl rfl ⟨rfl, rfl, rfl, rfl, rfl⟩ rfl rfl rfl rfl rfl (by kernel_rfl) Try.func23 (by kernel_rfl) (of_decide_eq_true (by kernel_rfl))
    (by unfold Func.isWrapper; first | (rw [if_pos (by decide +kernel)]; kernel_rfl) | (rw [if_neg (by decide +kernel)]; exact ⟨rfl, rfl⟩))
    (fun os started H enc _ => lifted os started enc)
end Go.Proofs.Ytkgfidnpioakfaa.PlanSizes
