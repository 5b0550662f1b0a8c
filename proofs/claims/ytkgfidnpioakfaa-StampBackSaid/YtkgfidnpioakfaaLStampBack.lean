/-
  StampBack: printed by genlaw.py.
-/
import Derived.Test.YtkgfidnpioakfaaRows
import Derived.Test.YtkgfidnpioakfaaEv2
import Derived.Test.YtkgfidnpioakfaaMod2
namespace Go.Proofs.Ytkgfidnpioakfaa.StampBack
open Go Go.RowKit Go.Proofs.Ytkgfidnpioakfaa.Eng
set_option linter.unusedVariables false
set_option linter.unusedSimpArgs false
set_option maxRecDepth 20000

def unitSys : Eng.Sys Unit := ⟨fun _ _ _ _ => False, fun _ h => h⟩
theorem tree (a0 b0 a1 b1 c1 d1 a2 b2 c2 d2 : Int) : (evF Try.prog (lookI Unit tab2) 100 20 19 [.s (.agg [ii a0, ii b0]), .s (.agg [ii a1, ii b1, ii c1, ii d1]), .s (.agg [ii a2, ii b2, ii c2, ii d2])] [] 0).vmap (·.val) =
Tr.ite (decide (a0 < 0)) (Tr.ok (SV.s (S1.one (VV.bool (SB.lit true)))))
  (Tr.ite (decide (a0 ≥ 4096)) (Tr.ok (SV.s (S1.one (VV.bool (SB.lit true)))))
    (Tr.ite (decide (b0 < 0)) (Tr.ok (SV.s (S1.one (VV.bool (SB.lit true)))))
      (Tr.ite (decide (b0 ≥ 1099511627776)) (Tr.ok (SV.s (S1.one (VV.bool (SB.lit true)))))
        (Tr.ite (decide (a1 < 0)) (Tr.ok (SV.s (S1.one (VV.bool (SB.lit true)))))
          (Tr.ite (decide (a1 ≥ 1099511627776)) (Tr.ok (SV.s (S1.one (VV.bool (SB.lit true)))))
            (Tr.ite (decide (b1 < 0)) (Tr.ok (SV.s (S1.one (VV.bool (SB.lit true)))))
              (Tr.ite (decide (b1 > 15)) (Tr.ok (SV.s (S1.one (VV.bool (SB.lit true)))))
                (Tr.ite (decide (c1 < 0)) (Tr.ok (SV.s (S1.one (VV.bool (SB.lit true)))))
                  (Tr.ite (decide (c1 > 1)) (Tr.ok (SV.s (S1.one (VV.bool (SB.lit true)))))
                    (Tr.ite (decide (d1 < 0)) (Tr.ok (SV.s (S1.one (VV.bool (SB.lit true)))))
                      (Tr.ite (decide (d1 > 1)) (Tr.ok (SV.s (S1.one (VV.bool (SB.lit true)))))
                        (Tr.ite (decide (a2 < 0)) (Tr.ok (SV.s (S1.one (VV.bool (SB.lit true)))))
                          (Tr.ite (decide (a2 > 3)) (Tr.ok (SV.s (S1.one (VV.bool (SB.lit true)))))
                            (Tr.ite (decide (b2 < 0)) (Tr.ok (SV.s (S1.one (VV.bool (SB.lit true)))))
                              (Tr.ite (decide (b2 > 3)) (Tr.ok (SV.s (S1.one (VV.bool (SB.lit true)))))
                                (Tr.ite (decide (c2 < 0)) (Tr.ok (SV.s (S1.one (VV.bool (SB.lit true)))))
                                  (Tr.ite (decide (c2 > 1)) (Tr.ok (SV.s (S1.one (VV.bool (SB.lit true)))))
                                    (Tr.ite (decide (d2 < 0)) (Tr.ok (SV.s (S1.one (VV.bool (SB.lit true)))))
                                      (Tr.ite (decide (d2 > 127)) (Tr.ok (SV.s (S1.one (VV.bool (SB.lit true)))))
                                        (Tr.ite (mAt (mTop a0 b0) == a0 && mVer (mTop a0 b0) == b0)
                                          (Tr.ite
                                            (mNo (mPhase a1 b1 c1 d1) == a1 &&
                                              (mMode (mPhase a1 b1 c1 d1) == b1 &&
                                                (mMark (mPhase a1 b1 c1 d1) == c1 && mList (mPhase a1 b1 c1 d1) == d1)))
                                            (Tr.ok
                                              (SV.s
                                                (S1.one
                                                  (VV.bool
                                                    (SB.sym
                                                      (mBState (mBlock a2 b2 c2 d2) == a2 &&
                                                        (mBClass (mBlock a2 b2 c2 d2) == b2 &&
                                                          (mBStamp (mBlock a2 b2 c2 d2) == c2 &&
                                                            mBNext (mBlock a2 b2 c2 d2) == d2))))))))
                                            (Tr.ok (SV.s (S1.one (VV.bool (SB.lit false))))))
                                          (Tr.ok (SV.s (S1.one (VV.bool (SB.lit false))))))))))))))))))))))))) := by kernel_rfl
theorem law (a0 b0 a1 b1 c1 d1 a2 b2 c2 d2 : Int) (ha0 : CK.fits (.int .i64) a0) (hb0 : CK.fits (.int .i64) b0) (ha1 : CK.fits (.int .i64) a1) (hb1 : CK.fits (.int .i64) b1) (hc1 : CK.fits (.int .i64) c1) (hd1 : CK.fits (.int .i64) d1) (ha2 : CK.fits (.int .i64) a2) (hb2 : CK.fits (.int .i64) b2) (hc2 : CK.fits (.int .i64) c2) (hd2 : CK.fits (.int .i64) d2) : Holds ((evF Try.prog (lookI Unit tab2) 100 20 19 [.s (.agg [ii a0, ii b0]), .s (.agg [ii a1, ii b1, ii c1, ii d1]), .s (.agg [ii a2, ii b2, ii c2, ii d2])] [] 0).vmap (·.val)) :=
  Holds.of (tree a0 b0 a1 b1 c1 d1 a2 b2 c2 d2) (by
    simp only [Tr.All, IsTrue, SB.val, decide_eq_true_eq, decide_eq_false_iff_not, beq_iff_eq, beq_eq_false_iff_ne, bne_iff_ne, bne_eq_false_iff_eq, Bool.and_eq_true, Bool.and_eq_false_imp, ne_eq, Bool.not_eq_true', Bool.not_eq_false', Bool.or_eq_true, Bool.or_eq_false_iff, Bool.false_eq_true, Bool.true_eq_false, imp_true_iff, true_and, and_true]
    simp only [at_top, ver_top, no_phase, mode_phase, mark_phase, list_phase, state_block, class_block, stamp_block, next_block, state_word, class_word, count_word, mark_word, grey_word, tag_word, link_word]
    omega)
abbrev ts : List TypeId := [23, 25, 27]
theorem hts : Try.f19.params.toList = ts := by kernel_rfl
theorem args (a0 b0 a1 b1 c1 d1 a2 b2 c2 d2 : Int) : mkArgs Try.prog ts [[.int .i64, .int .i64], [.int .i64, .int .i64, .int .i64, .int .i64], [.int .i64, .int .i64, .int .i64, .int .i64]] [[a0, b0], [a1, b1, c1, d1], [a2, b2, c2, d2]] = [.s (.agg [ii a0, ii b0]), .s (.agg [ii a1, ii b1, ii c1, ii d1]), .s (.agg [ii a2, ii b2, ii c2, ii d2])] := by kernel_rfl
theorem shapes : shapesK Try.prog ts [[.int .i64, .int .i64], [.int .i64, .int .i64, .int .i64, .int .i64], [.int .i64, .int .i64, .int .i64, .int .i64]] := ⟨by kernel_rfl, by kernel_rfl, by kernel_rfl, trivial⟩
theorem core (W : World) (vals : List Value) (ha : F2 (ArgOK Try.prog W) ts vals) :
    Calls Try.prog 19 vals.toArray W fun e W' => ∃ v, e = .returned v ∧ v = .bool true ∧ Below W.heap.size W W' :=
  core_plain (S := unitSys) progOK (lookI_ok tab2_ok) 100 20 [[.int .i64, .int .i64], [.int .i64, .int .i64, .int .i64, .int .i64], [.int .i64, .int .i64, .int .i64, .int .i64]] shapes
    (fun nss hf => by
      match nss, hf with
      | [[a0, b0], [a1, b1, c1, d1], [a2, b2, c2, d2]], hf =>
        exact (args a0 b0 a1 b1 c1 d1 a2 b2 c2 d2).symm ▸ law a0 b0 a1 b1 c1 d1 a2 b2 c2 d2 hf.1.1 hf.1.2.1 hf.2.1.1 hf.2.1.2.1 hf.2.1.2.2.1 hf.2.1.2.2.2.1 hf.2.2.1.1 hf.2.2.1.2.1 hf.2.2.1.2.2.1 hf.2.2.1.2.2.2.1) W vals ha
theorem own : ownKnob Try.prog.godebug = none := by kernel_rfl
theorem lifted {H : Type} (os : Os) (started : os.Started) (enc : TypeId × Value → H) : ReturnsInHanded {} Try.checked os 19 .any (Rows.stampBackSpec.pre6 enc Try.prog Try.f19 Rows.stampBackRow.domain false) (Rows.stampBackSpec.post enc Try.prog Try.f19 false true false false) :=
  law_lifted own started (by kernel_rfl) (by kernel_rfl)
    (ChangeSpec.witness6 (enc := enc) (C := Try.checked) false ⟨#[], #[.agg #[.int .i64 0, .int .i64 0], .agg #[.int .i64 0, .int .i64 0, .int .i64 0, .int .i64 0], .agg #[.int .i64 0, .int .i64 0, .int .i64 0, .int .i64 0]], []⟩ 8 (by kernel_rfl) (by kernel_rfl) (by kernel_rfl) (by kernel_rfl))
    (tb := 4) (by kernel_rfl) (by kernel_rfl) rfl
    (fun ds hd => by
      match ds, hd with
      | [_, _, _], _ => exact ⟨rfl, rfl, rfl⟩)
    (by kernel_rfl) (by kernel_rfl) (fun W vals ha => core W vals (hts ▸ ha))
theorem proved : Rows.StampBackSaid :=
  OpenClaim.holds_of_wide 19 Try.f19 rfl rfl rfl rfl rfl rfl rfl ⟨rfl, rfl, rfl, rfl, rfl⟩ rfl rfl rfl rfl rfl (by kernel_rfl) Try.func19 (by kernel_rfl) (of_decide_eq_true (by kernel_rfl))
    (by unfold Func.isWrapper; first | (rw [if_pos (by decide +kernel)]; kernel_rfl) | (rw [if_neg (by decide +kernel)]; exact ⟨rfl, rfl⟩))
    (fun os started H enc _ => lifted os started enc)
end Go.Proofs.Ytkgfidnpioakfaa.StampBack
