/-
  HeadBack: printed by genlaw.py.
-/
import Derived.Test.YtkgfidnpioakfaaRows
import Derived.Test.YtkgfidnpioakfaaEv2
import Derived.Test.YtkgfidnpioakfaaMod2
namespace Go.Proofs.Ytkgfidnpioakfaa.HeadBack
open Go Go.RowKit Go.Proofs.Ytkgfidnpioakfaa.Eng
set_option linter.unusedVariables false
set_option linter.unusedSimpArgs false
set_option maxRecDepth 20000

def unitSys : Eng.Sys Unit := ⟨fun _ _ _ _ => False, fun _ h => h⟩
theorem tree (a0 b0 c0 d0 e0 f0 g0 : Int) : (evF Try.prog (lookI Unit tab2) 100 20 11 [.s (.agg [ii a0, ii b0, ii c0, ii d0, ii e0, ii f0, ii g0])] [] 0).vmap (·.val) =
Tr.ite (decide (a0 ≥ 0))
  (Tr.ite (decide (a0 < 4))
    (Tr.ite (decide (b0 ≥ 0))
      (Tr.ite (decide (b0 < 4))
        (Tr.ite (decide (c0 ≥ 0))
          (Tr.ite (decide (c0 < 8))
            (Tr.ite (decide (d0 ≥ 0))
              (Tr.ite (decide (d0 < 2))
                (Tr.ite (decide (e0 ≥ 0))
                  (Tr.ite (decide (e0 < 2))
                    (Tr.ite (decide (f0 ≥ 0))
                      (Tr.ite (decide (f0 < 8))
                        (Tr.ite (decide (g0 ≥ 0))
                          (Tr.ite (!decide (g0 < 4096)) (Tr.ok (SV.s (S1.one (VV.bool (SB.lit true)))))
                            (Tr.ok
                              (SV.s
                                (S1.one
                                  (VV.bool
                                    (SB.sym
                                      (mHState (mWord a0 b0 c0 d0 e0 f0 g0) == a0 &&
                                        (mHClass (mWord a0 b0 c0 d0 e0 f0 g0) == b0 &&
                                          (mHCount (mWord a0 b0 c0 d0 e0 f0 g0) == c0 &&
                                            (mHMark (mWord a0 b0 c0 d0 e0 f0 g0) == d0 &&
                                              (mHGrey (mWord a0 b0 c0 d0 e0 f0 g0) == e0 &&
                                                (mHTag (mWord a0 b0 c0 d0 e0 f0 g0) == f0 &&
                                                  mHLink (mWord a0 b0 c0 d0 e0 f0 g0) == g0))))))))))))
                          (Tr.ok (SV.s (S1.one (VV.bool (SB.lit true))))))
                        (Tr.ok (SV.s (S1.one (VV.bool (SB.lit true))))))
                      (Tr.ok (SV.s (S1.one (VV.bool (SB.lit true))))))
                    (Tr.ok (SV.s (S1.one (VV.bool (SB.lit true))))))
                  (Tr.ok (SV.s (S1.one (VV.bool (SB.lit true))))))
                (Tr.ok (SV.s (S1.one (VV.bool (SB.lit true))))))
              (Tr.ok (SV.s (S1.one (VV.bool (SB.lit true))))))
            (Tr.ok (SV.s (S1.one (VV.bool (SB.lit true))))))
          (Tr.ok (SV.s (S1.one (VV.bool (SB.lit true))))))
        (Tr.ok (SV.s (S1.one (VV.bool (SB.lit true))))))
      (Tr.ok (SV.s (S1.one (VV.bool (SB.lit true))))))
    (Tr.ok (SV.s (S1.one (VV.bool (SB.lit true))))))
  (Tr.ok (SV.s (S1.one (VV.bool (SB.lit true))))) := by kernel_rfl
theorem law (a0 b0 c0 d0 e0 f0 g0 : Int) (ha0 : CK.fits (.int .i64) a0) (hb0 : CK.fits (.int .i64) b0) (hc0 : CK.fits (.int .i64) c0) (hd0 : CK.fits (.int .i64) d0) (he0 : CK.fits (.int .i64) e0) (hf0 : CK.fits (.int .i64) f0) (hg0 : CK.fits (.int .i64) g0) : Holds ((evF Try.prog (lookI Unit tab2) 100 20 11 [.s (.agg [ii a0, ii b0, ii c0, ii d0, ii e0, ii f0, ii g0])] [] 0).vmap (·.val)) :=
  Holds.of (tree a0 b0 c0 d0 e0 f0 g0) (by
    simp only [Tr.All, IsTrue, SB.val, decide_eq_true_eq, decide_eq_false_iff_not, beq_iff_eq, beq_eq_false_iff_ne, bne_iff_ne, bne_eq_false_iff_eq, Bool.and_eq_true, Bool.and_eq_false_imp, ne_eq, Bool.not_eq_true', Bool.not_eq_false', Bool.or_eq_true, Bool.or_eq_false_iff, Bool.false_eq_true, Bool.true_eq_false, imp_true_iff, true_and, and_true]
    simp only [at_top, ver_top, no_phase, mode_phase, mark_phase, list_phase, state_block, class_block, stamp_block, next_block, state_word, class_word, count_word, mark_word, grey_word, tag_word, link_word]
    omega)
abbrev ts : List TypeId := [55]
theorem hts : Try.f11.params.toList = ts := by kernel_rfl
theorem args (a0 b0 c0 d0 e0 f0 g0 : Int) : mkArgs Try.prog ts [[.int .i64, .int .i64, .int .i64, .int .i64, .int .i64, .int .i64, .int .i64]] [[a0, b0, c0, d0, e0, f0, g0]] = [.s (.agg [ii a0, ii b0, ii c0, ii d0, ii e0, ii f0, ii g0])] := by kernel_rfl
theorem shapes : shapesK Try.prog ts [[.int .i64, .int .i64, .int .i64, .int .i64, .int .i64, .int .i64, .int .i64]] := ⟨by kernel_rfl, trivial⟩
theorem core (W : World) (vals : List Value) (ha : F2 (ArgOK Try.prog W) ts vals) :
    Calls Try.prog 11 vals.toArray W fun e W' => ∃ v, e = .returned v ∧ v = .bool true ∧ Below W.heap.size W W' :=
  core_plain (S := unitSys) progOK (lookI_ok tab2_ok) 100 20 [[.int .i64, .int .i64, .int .i64, .int .i64, .int .i64, .int .i64, .int .i64]] shapes
    (fun nss hf => by
      match nss, hf with
      | [[a0, b0, c0, d0, e0, f0, g0]], hf =>
        exact (args a0 b0 c0 d0 e0 f0 g0).symm ▸ law a0 b0 c0 d0 e0 f0 g0 hf.1.1 hf.1.2.1 hf.1.2.2.1 hf.1.2.2.2.1 hf.1.2.2.2.2.1 hf.1.2.2.2.2.2.1 hf.1.2.2.2.2.2.2.1) W vals ha
theorem own : ownKnob Try.prog.godebug = none := by kernel_rfl
theorem lifted {H : Type} (os : Os) (started : os.Started) (enc : TypeId × Value → H) : ReturnsInHanded {} Try.checked os 11 .any (Rows.headBackSpec.pre6 enc Try.prog Try.f11 Rows.headBackRow.domain false) (Rows.headBackSpec.post enc Try.prog Try.f11 false true false false) :=
  law_lifted own started (by kernel_rfl) (by kernel_rfl)
    (ChangeSpec.witness6 (enc := enc) (C := Try.checked) false ⟨#[], #[.agg #[.int .i64 0, .int .i64 0, .int .i64 0, .int .i64 0, .int .i64 0, .int .i64 0, .int .i64 0]], []⟩ 8 (by kernel_rfl) (by kernel_rfl) (by kernel_rfl) (by kernel_rfl))
    (tb := 4) (by kernel_rfl) (by kernel_rfl) rfl
    (fun ds hd => by
      match ds, hd with
      | [_], _ => exact ⟨rfl, rfl, rfl⟩)
    (by kernel_rfl) (by kernel_rfl) (fun W vals ha => core W vals (hts ▸ ha))
theorem proved : Rows.HeadBackSaid :=
  OpenClaim.holds_of_wide 11 Try.f11 rfl rfl rfl rfl rfl rfl rfl ⟨rfl, rfl, rfl, rfl, rfl⟩ rfl rfl rfl rfl rfl (by kernel_rfl) Try.func11 (by kernel_rfl) (of_decide_eq_true (by kernel_rfl))
    (by unfold Func.isWrapper; first | (rw [if_pos (by decide +kernel)]; kernel_rfl) | (rw [if_neg (by decide +kernel)]; exact ⟨rfl, rfl⟩))
    (fun os started H enc _ => lifted os started enc)
end Go.Proofs.Ytkgfidnpioakfaa.HeadBack
