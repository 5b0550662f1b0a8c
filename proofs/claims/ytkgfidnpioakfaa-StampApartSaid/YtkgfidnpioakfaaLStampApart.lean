/-
  StampApart: printed by genlaw.py.
-/
import Derived.Test.YtkgfidnpioakfaaRows
import Derived.Test.YtkgfidnpioakfaaEv2
import Derived.Test.YtkgfidnpioakfaaMod2
namespace Go.Proofs.Ytkgfidnpioakfaa.StampApart
open Go Go.RowKit Go.Proofs.Ytkgfidnpioakfaa.Eng
set_option linter.unusedVariables false
set_option linter.unusedSimpArgs false
set_option maxRecDepth 20000

def unitSys : Eng.Sys Unit := ⟨fun _ _ _ _ => False, fun _ h => h⟩
theorem tree (a0 b0 c0 d0 a1 b1 c1 d1 a2 b2 c2 d2 : Int) : (evF Try.prog (lookI Unit tab2) 100 20 8 [.s (.agg [ii a0, ii b0, ii c0, ii d0]), .s (.agg [ii a1, ii b1, ii c1, ii d1]), .s (.agg [ii a2, ii b2, ii c2, ii d2])] [] 0).vmap (·.val) =
Tr.ite
  ((mTop (mAt (mTop a0 b0)) (mVer (mTop a0 b0)) == mTop (mAt (mTop c0 d0)) (mVer (mTop c0 d0))) ==
    (mAt (mTop a0 b0) == mAt (mTop c0 d0) && mVer (mTop a0 b0) == mVer (mTop c0 d0)))
  (Tr.ok
    (SV.s
      (S1.one
        (VV.bool
          (SB.sym
            ((mPhase (mNo (mPhase a1 b1 c1 d1)) (mMode (mPhase a1 b1 c1 d1)) (mMark (mPhase a1 b1 c1 d1))
                  (mList (mPhase a1 b1 c1 d1)) ==
                mPhase (mNo (mPhase a2 b2 c2 d2)) (mMode (mPhase a2 b2 c2 d2)) (mMark (mPhase a2 b2 c2 d2))
                  (mList (mPhase a2 b2 c2 d2))) ==
              (mNo (mPhase a1 b1 c1 d1) == mNo (mPhase a2 b2 c2 d2) &&
                (mMode (mPhase a1 b1 c1 d1) == mMode (mPhase a2 b2 c2 d2) &&
                  (mMark (mPhase a1 b1 c1 d1) == mMark (mPhase a2 b2 c2 d2) &&
                    mList (mPhase a1 b1 c1 d1) == mList (mPhase a2 b2 c2 d2))))))))))
  (Tr.ok (SV.s (S1.one (VV.bool (SB.lit false))))) := by kernel_rfl
theorem law (a0 b0 c0 d0 a1 b1 c1 d1 a2 b2 c2 d2 : Int) (ha0 : CK.fits (.int .i64) a0) (hb0 : CK.fits (.int .i64) b0) (hc0 : CK.fits (.int .i64) c0) (hd0 : CK.fits (.int .i64) d0) (ha1 : CK.fits (.int .i64) a1) (hb1 : CK.fits (.int .i64) b1) (hc1 : CK.fits (.int .i64) c1) (hd1 : CK.fits (.int .i64) d1) (ha2 : CK.fits (.int .i64) a2) (hb2 : CK.fits (.int .i64) b2) (hc2 : CK.fits (.int .i64) c2) (hd2 : CK.fits (.int .i64) d2) : Holds ((evF Try.prog (lookI Unit tab2) 100 20 8 [.s (.agg [ii a0, ii b0, ii c0, ii d0]), .s (.agg [ii a1, ii b1, ii c1, ii d1]), .s (.agg [ii a2, ii b2, ii c2, ii d2])] [] 0).vmap (·.val)) :=
  Holds.of (tree a0 b0 c0 d0 a1 b1 c1 d1 a2 b2 c2 d2) (by
    refine ⟨fun _ => ?_, fun h => ?_⟩
    · show (_ == _) = true
      refine same_of ?_
      simp only [beq_iff_eq, Bool.and_eq_true]
      exact phase_iff _ _
    · rw [same_of (by simp only [beq_iff_eq, Bool.and_eq_true]; exact top_iff _ _)] at h
      cases h)
abbrev ts : List TypeId := [51, 25, 25]
theorem hts : Try.f8.params.toList = ts := by kernel_rfl
theorem args (a0 b0 c0 d0 a1 b1 c1 d1 a2 b2 c2 d2 : Int) : mkArgs Try.prog ts [[.int .i64, .int .i64, .int .i64, .int .i64], [.int .i64, .int .i64, .int .i64, .int .i64], [.int .i64, .int .i64, .int .i64, .int .i64]] [[a0, b0, c0, d0], [a1, b1, c1, d1], [a2, b2, c2, d2]] = [.s (.agg [ii a0, ii b0, ii c0, ii d0]), .s (.agg [ii a1, ii b1, ii c1, ii d1]), .s (.agg [ii a2, ii b2, ii c2, ii d2])] := by kernel_rfl
theorem shapes : shapesK Try.prog ts [[.int .i64, .int .i64, .int .i64, .int .i64], [.int .i64, .int .i64, .int .i64, .int .i64], [.int .i64, .int .i64, .int .i64, .int .i64]] := ⟨by kernel_rfl, by kernel_rfl, by kernel_rfl, trivial⟩
theorem core (W : World) (vals : List Value) (ha : F2 (ArgOK Try.prog W) ts vals) :
    Calls Try.prog 8 vals.toArray W fun e W' => ∃ v, e = .returned v ∧ v = .bool true ∧ Below W.heap.size W W' :=
  core_plain (S := unitSys) progOK (lookI_ok tab2_ok) 100 20 [[.int .i64, .int .i64, .int .i64, .int .i64], [.int .i64, .int .i64, .int .i64, .int .i64], [.int .i64, .int .i64, .int .i64, .int .i64]] shapes
    (fun nss hf => by
      match nss, hf with
      | [[a0, b0, c0, d0], [a1, b1, c1, d1], [a2, b2, c2, d2]], hf =>
        exact (args a0 b0 c0 d0 a1 b1 c1 d1 a2 b2 c2 d2).symm ▸ law a0 b0 c0 d0 a1 b1 c1 d1 a2 b2 c2 d2 hf.1.1 hf.1.2.1 hf.1.2.2.1 hf.1.2.2.2.1 hf.2.1.1 hf.2.1.2.1 hf.2.1.2.2.1 hf.2.1.2.2.2.1 hf.2.2.1.1 hf.2.2.1.2.1 hf.2.2.1.2.2.1 hf.2.2.1.2.2.2.1) W vals ha
theorem own : ownKnob Try.prog.godebug = none := by kernel_rfl
theorem lifted {H : Type} (os : Os) (started : os.Started) (enc : TypeId × Value → H) : ReturnsInHanded {} Try.checked os 8 .any (Rows.stampApartSpec.pre6 enc Try.prog Try.f8 Rows.stampApartRow.domain false) (Rows.stampApartSpec.post enc Try.prog Try.f8 false true false false) :=
  law_lifted own started (by kernel_rfl) (by kernel_rfl)
    (ChangeSpec.witness6 (enc := enc) (C := Try.checked) false ⟨#[], #[.agg #[.int .i64 0, .int .i64 0, .int .i64 0, .int .i64 0], .agg #[.int .i64 0, .int .i64 0, .int .i64 0, .int .i64 0], .agg #[.int .i64 0, .int .i64 0, .int .i64 0, .int .i64 0]], []⟩ 8 (by kernel_rfl) (by kernel_rfl) (by kernel_rfl) (by kernel_rfl))
    (tb := 4) (by kernel_rfl) (by kernel_rfl) rfl
    (fun ds hd => by
      match ds, hd with
      | [_, _, _], _ => exact ⟨rfl, rfl, rfl⟩)
    (by kernel_rfl) (by kernel_rfl) (fun W vals ha => core W vals (hts ▸ ha))
theorem proved : Rows.StampApartSaid :=
  OpenClaim.holds_of_wide 8 Try.f8 rfl rfl rfl rfl rfl rfl rfl ⟨rfl, rfl, rfl, rfl, rfl⟩ rfl rfl rfl rfl rfl (by kernel_rfl) Try.func8 (by kernel_rfl) (of_decide_eq_true (by kernel_rfl))
    (by unfold Func.isWrapper; first | (rw [if_pos (by decide +kernel)]; kernel_rfl) | (rw [if_neg (by decide +kernel)]; exact ⟨rfl, rfl⟩))
    (fun os started H enc _ => lifted os started enc)
end Go.Proofs.Ytkgfidnpioakfaa.StampApart
