/-
  HeadMoves: printed by genlaw.py.
-/
import Derived.Test.YtkgfidnpioakfaaRows
import Derived.Test.YtkgfidnpioakfaaEv2
import Derived.Test.YtkgfidnpioakfaaMod2
namespace Go.Proofs.Ytkgfidnpioakfaa.HeadMoves
open Go Go.RowKit Go.Proofs.Ytkgfidnpioakfaa.Eng
set_option linter.unusedVariables false
set_option linter.unusedSimpArgs false
set_option maxRecDepth 20000

def unitSys : Eng.Sys Unit := ⟨fun _ _ _ _ => False, fun _ h => h⟩
theorem tree (a0 b0 c0 d0 e0 f0 g0 a1 : Int) : (evF Try.prog (lookI Unit tab2) 100 20 14 [.s (.agg [ii a0, ii b0, ii c0, ii d0, ii e0, ii f0, ii g0]), .v (ii a1)] [] 0).vmap (·.val) =
Tr.ite (mHState (mWord a0 b0 c0 d0 e0 f0 g0) == 1)
  (Tr.ite (mHTag (mWord a0 b0 c0 d0 e0 f0 g0) == 2)
    (Tr.ite (mMoved (mWord a0 b0 c0 d0 e0 f0 g0) a1 == mHLink (mWord a0 b0 c0 d0 e0 f0 g0))
      (Tr.ok (SV.s (S1.one (VV.bool (SB.lit true)))))
      (Tr.ite (!mHTag (mWord a0 b0 c0 d0 e0 f0 g0) == 2)
        (Tr.ok (SV.s (S1.one (VV.bool (SB.sym (mMoved (mWord a0 b0 c0 d0 e0 f0 g0) a1 == a1))))))
        (Tr.ok (SV.s (S1.one (VV.bool (SB.lit false)))))))
    (Tr.ite (!mHTag (mWord a0 b0 c0 d0 e0 f0 g0) == 2)
      (Tr.ok (SV.s (S1.one (VV.bool (SB.sym (mMoved (mWord a0 b0 c0 d0 e0 f0 g0) a1 == a1))))))
      (Tr.ok (SV.s (S1.one (VV.bool (SB.lit false)))))))
  (Tr.ok (SV.s (S1.one (VV.bool (SB.sym (mMoved (mWord a0 b0 c0 d0 e0 f0 g0) a1 == a1)))))) := by kernel_rfl
theorem law (a0 b0 c0 d0 e0 f0 g0 a1 : Int) (ha0 : CK.fits (.int .i64) a0) (hb0 : CK.fits (.int .i64) b0) (hc0 : CK.fits (.int .i64) c0) (hd0 : CK.fits (.int .i64) d0) (he0 : CK.fits (.int .i64) e0) (hf0 : CK.fits (.int .i64) f0) (hg0 : CK.fits (.int .i64) g0) (ha1 : CK.fits (.int .i64) a1) : Holds ((evF Try.prog (lookI Unit tab2) 100 20 14 [.s (.agg [ii a0, ii b0, ii c0, ii d0, ii e0, ii f0, ii g0]), .v (ii a1)] [] 0).vmap (·.val)) :=
  Holds.of (tree a0 b0 c0 d0 e0 f0 g0 a1) (by
    simp only [Tr.All, IsTrue, SB.val, decide_eq_true_eq, decide_eq_false_iff_not, beq_iff_eq, beq_eq_false_iff_ne, bne_iff_ne, bne_eq_false_iff_eq, Bool.and_eq_true, Bool.and_eq_false_imp, ne_eq, Bool.not_eq_true', Bool.not_eq_false', Bool.or_eq_true, Bool.or_eq_false_iff, Bool.false_eq_true, Bool.true_eq_false, imp_true_iff, true_and, and_true]
    unfold mMoved
    generalize mWord a0 b0 c0 d0 e0 f0 g0 = w
    split <;> omega)
abbrev ts : List TypeId := [55, 3]
theorem hts : Try.f14.params.toList = ts := by kernel_rfl
theorem args (a0 b0 c0 d0 e0 f0 g0 a1 : Int) : mkArgs Try.prog ts [[.int .i64, .int .i64, .int .i64, .int .i64, .int .i64, .int .i64, .int .i64], [.int .i64]] [[a0, b0, c0, d0, e0, f0, g0], [a1]] = [.s (.agg [ii a0, ii b0, ii c0, ii d0, ii e0, ii f0, ii g0]), .v (ii a1)] := by kernel_rfl
theorem shapes : shapesK Try.prog ts [[.int .i64, .int .i64, .int .i64, .int .i64, .int .i64, .int .i64, .int .i64], [.int .i64]] := ⟨by kernel_rfl, by kernel_rfl, trivial⟩
theorem core (W : World) (vals : List Value) (ha : F2 (ArgOK Try.prog W) ts vals) :
    Calls Try.prog 14 vals.toArray W fun e W' => ∃ v, e = .returned v ∧ v = .bool true ∧ Below W.heap.size W W' :=
  core_plain (S := unitSys) progOK (lookI_ok tab2_ok) 100 20 [[.int .i64, .int .i64, .int .i64, .int .i64, .int .i64, .int .i64, .int .i64], [.int .i64]] shapes
    (fun nss hf => by
      match nss, hf with
      | [[a0, b0, c0, d0, e0, f0, g0], [a1]], hf =>
        exact (args a0 b0 c0 d0 e0 f0 g0 a1).symm ▸ law a0 b0 c0 d0 e0 f0 g0 a1 hf.1.1 hf.1.2.1 hf.1.2.2.1 hf.1.2.2.2.1 hf.1.2.2.2.2.1 hf.1.2.2.2.2.2.1 hf.1.2.2.2.2.2.2.1 hf.2.1.1) W vals ha
theorem own : ownKnob Try.prog.godebug = none := by kernel_rfl
theorem lifted {H : Type} (os : Os) (started : os.Started) (enc : TypeId × Value → H) : ReturnsInHanded {} Try.checked os 14 .any (Rows.headMovesSpec.pre6 enc Try.prog Try.f14 Rows.headMovesRow.domain false) (Rows.headMovesSpec.post enc Try.prog Try.f14 false true false false) :=
  law_lifted own started (by kernel_rfl) (by kernel_rfl)
    (ChangeSpec.witness6 (enc := enc) (C := Try.checked) false ⟨#[], #[.agg #[.int .i64 0, .int .i64 0, .int .i64 0, .int .i64 0, .int .i64 0, .int .i64 0, .int .i64 0], .int .i64 0], []⟩ 8 (by kernel_rfl) (by kernel_rfl) (by kernel_rfl) (by kernel_rfl))
    (tb := 4) (by kernel_rfl) (by kernel_rfl) rfl
    (fun ds hd => by
      match ds, hd with
      | [_, _], _ => exact ⟨rfl, rfl, rfl⟩)
    (by kernel_rfl) (by kernel_rfl) (fun W vals ha => core W vals (hts ▸ ha))
theorem proved : Rows.HeadMovesSaid :=
  OpenClaim.holds_of_wide 14 Try.f14 rfl rfl rfl rfl rfl rfl rfl ⟨rfl, rfl, rfl, rfl, rfl⟩ rfl rfl rfl rfl rfl (by kernel_rfl) Try.func14 (by kernel_rfl) (of_decide_eq_true (by kernel_rfl))
    (by unfold Func.isWrapper; first | (rw [if_pos (by decide +kernel)]; kernel_rfl) | (rw [if_neg (by decide +kernel)]; exact ⟨rfl, rfl⟩))
    (fun os started H enc _ => lifted os started enc)
end Go.Proofs.Ytkgfidnpioakfaa.HeadMoves
