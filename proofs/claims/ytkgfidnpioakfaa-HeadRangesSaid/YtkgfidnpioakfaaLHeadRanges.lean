/-
  HeadRanges: printed by genlaw.py.
-/
import Derived.Test.YtkgfidnpioakfaaRows
import Derived.Test.YtkgfidnpioakfaaEv2
namespace Go.Proofs.Ytkgfidnpioakfaa.HeadRanges
open Go Go.RowKit Go.Proofs.Ytkgfidnpioakfaa.Eng
set_option linter.unusedVariables false
set_option linter.unusedSimpArgs false
set_option maxRecDepth 20000

def unitSys : Eng.Sys Unit := ⟨fun _ _ _ _ => False, fun _ h => h⟩
theorem tree (a0 : Int) : (evF Try.prog (lookI Unit tab2) 100 20 16 [.v (uu a0)] [] 0).vmap (·.val) =
Tr.ite (decide (mHState a0 ≥ 0))
  (Tr.ite (decide (mHState a0 < 4))
    (Tr.ite (decide (mHClass a0 ≥ 0))
      (Tr.ite (decide (mHClass a0 < 4))
        (Tr.ite (decide (mHCount a0 ≥ 0))
          (Tr.ite (decide (mHCount a0 < 8))
            (Tr.ite (decide (mHMark a0 ≥ 0))
              (Tr.ite (decide (mHMark a0 < 2))
                (Tr.ite (decide (mHGrey a0 ≥ 0))
                  (Tr.ite (decide (mHGrey a0 < 2))
                    (Tr.ite (decide (mHTag a0 ≥ 0))
                      (Tr.ite (decide (mHTag a0 < 8))
                        (Tr.ite (decide (mHLink a0 ≥ 0))
                          (Tr.ok (SV.s (S1.one (VV.bool (SB.sym (decide (mHLink a0 < 4096)))))))
                          (Tr.ok (SV.s (S1.one (VV.bool (SB.lit false))))))
                        (Tr.ok (SV.s (S1.one (VV.bool (SB.lit false))))))
                      (Tr.ok (SV.s (S1.one (VV.bool (SB.lit false))))))
                    (Tr.ok (SV.s (S1.one (VV.bool (SB.lit false))))))
                  (Tr.ok (SV.s (S1.one (VV.bool (SB.lit false))))))
                (Tr.ok (SV.s (S1.one (VV.bool (SB.lit false))))))
              (Tr.ok (SV.s (S1.one (VV.bool (SB.lit false))))))
            (Tr.ok (SV.s (S1.one (VV.bool (SB.lit false))))))
          (Tr.ok (SV.s (S1.one (VV.bool (SB.lit false))))))
        (Tr.ok (SV.s (S1.one (VV.bool (SB.lit false))))))
      (Tr.ok (SV.s (S1.one (VV.bool (SB.lit false))))))
    (Tr.ok (SV.s (S1.one (VV.bool (SB.lit false))))))
  (Tr.ok (SV.s (S1.one (VV.bool (SB.lit false))))) := by kernel_rfl
theorem law (a0 : Int) (ha0 : CK.fits (.int .u64) a0) : Holds ((evF Try.prog (lookI Unit tab2) 100 20 16 [.v (uu a0)] [] 0).vmap (·.val)) :=
  Holds.of (tree a0) (by
    simp only [Tr.All, IsTrue, SB.val, decide_eq_true_eq, decide_eq_false_iff_not, beq_iff_eq, beq_eq_false_iff_ne, bne_iff_ne, bne_eq_false_iff_eq, Bool.and_eq_true, Bool.and_eq_false_imp, ne_eq]
    simp only [mHState, mHClass, mHCount, mHMark, mHGrey, mHTag, mHLink] at *
    omega)
abbrev ts : List TypeId := [29]
theorem hts : Try.f16.params.toList = ts := by kernel_rfl
theorem args (a0 : Int) : mkArgs Try.prog ts [[.int .u64]] [[a0]] = [.v (uu a0)] := by kernel_rfl
theorem shapes : shapesK Try.prog ts [[.int .u64]] := ⟨by kernel_rfl, trivial⟩
theorem core (W : World) (vals : List Value) (ha : F2 (ArgOK Try.prog W) ts vals) :
    Calls Try.prog 16 vals.toArray W fun e W' => ∃ v, e = .returned v ∧ v = .bool true ∧ Below W.heap.size W W' :=
  core_plain (S := unitSys) progOK (lookI_ok tab2_ok) 100 20 [[.int .u64]] shapes
    (fun nss hf => by
      match nss, hf with
      | [[a0]], hf =>
        exact (args a0).symm ▸ law a0 hf.1.1) W vals ha
theorem own : ownKnob Try.prog.godebug = none := by kernel_rfl
theorem lifted {H : Type} (os : Os) (started : os.Started) (enc : TypeId × Value → H) : ReturnsInHanded {} Try.checked os 16 .any (Rows.headRangesSpec.pre6 enc Try.prog Try.f16 Rows.headRangesRow.domain false) (Rows.headRangesSpec.post enc Try.prog Try.f16 false true false false) :=
  law_lifted own started (by kernel_rfl) (by kernel_rfl)
    (ChangeSpec.witness6 (enc := enc) (C := Try.checked) false ⟨#[], #[.int .u64 0], []⟩ 8 (by kernel_rfl) (by kernel_rfl) (by kernel_rfl) (by kernel_rfl))
    (tb := 4) (by kernel_rfl) (by kernel_rfl) rfl
    (fun ds hd => by
      match ds, hd with
      | [_], _ => exact ⟨rfl, rfl, rfl⟩)
    (by kernel_rfl) (by kernel_rfl) (fun W vals ha => core W vals (hts ▸ ha))
theorem proved : Rows.HeadRangesSaid :=
  OpenClaim.holds_of_wide 16 Try.f16 rfl rfl rfl rfl rfl rfl rfl ⟨rfl, rfl, rfl, rfl, rfl⟩ rfl rfl rfl rfl rfl (by kernel_rfl) Try.func16 (by kernel_rfl) (of_decide_eq_true (by kernel_rfl))
    (by unfold Func.isWrapper; first | (rw [if_pos (by decide +kernel)]; kernel_rfl) | (rw [if_neg (by decide +kernel)]; exact ⟨rfl, rfl⟩))
    (fun os started H enc _ => lifted os started enc)
end Go.Proofs.Ytkgfidnpioakfaa.HeadRanges
