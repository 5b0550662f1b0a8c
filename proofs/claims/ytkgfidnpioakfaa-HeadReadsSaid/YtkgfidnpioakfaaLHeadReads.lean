/-
  HeadReads: printed by genlaw.py.
-/
import Derived.Test.YtkgfidnpioakfaaRows
import Derived.Test.YtkgfidnpioakfaaEv2
namespace Go.Proofs.Ytkgfidnpioakfaa.HeadReads
open Go Go.RowKit Go.Proofs.Ytkgfidnpioakfaa.Eng
set_option linter.unusedVariables false
set_option linter.unusedSimpArgs false
set_option maxRecDepth 20000

def unitSys : Eng.Sys Unit := ⟨fun _ _ _ _ => False, fun _ h => h⟩
theorem tree (a0 a1 : Int) : (evF Try.prog (lookI Unit tab2) 100 20 10 [.v (uu a0), .v (ii a1)] [] 0).vmap (·.val) =
Tr.ite
  (mHState a0 == mHState a0 &&
    (mHClass a0 == mHClass a0 &&
      (mHCount a0 == mHCount a0 &&
        (mHMark a0 == mHMark a0 && (mHGrey a0 == mHGrey a0 && (mHTag a0 == mHTag a0 && mHLink a0 == mHLink a0))))))
  (Tr.ok (SV.s (S1.one (VV.bool (SB.sym (mMoved a0 a1 == mMoved a0 a1))))))
  (Tr.ok (SV.s (S1.one (VV.bool (SB.lit false))))) := by kernel_rfl
theorem law (a0 a1 : Int) (ha0 : CK.fits (.int .u64) a0) (ha1 : CK.fits (.int .i64) a1) : Holds ((evF Try.prog (lookI Unit tab2) 100 20 10 [.v (uu a0), .v (ii a1)] [] 0).vmap (·.val)) :=
  Holds.of (tree a0 a1) (by
    simp [Tr.All, IsTrue, SB.val])
abbrev ts : List TypeId := [29, 3]
theorem hts : Try.f10.params.toList = ts := by kernel_rfl
theorem args (a0 a1 : Int) : mkArgs Try.prog ts [[.int .u64], [.int .i64]] [[a0], [a1]] = [.v (uu a0), .v (ii a1)] := by kernel_rfl
theorem shapes : shapesK Try.prog ts [[.int .u64], [.int .i64]] := ⟨by kernel_rfl, by kernel_rfl, trivial⟩
theorem core (W : World) (vals : List Value) (ha : F2 (ArgOK Try.prog W) ts vals) :
    Calls Try.prog 10 vals.toArray W fun e W' => ∃ v, e = .returned v ∧ v = .bool true ∧ Below W.heap.size W W' :=
  core_plain (S := unitSys) progOK (lookI_ok tab2_ok) 100 20 [[.int .u64], [.int .i64]] shapes
    (fun nss hf => by
      match nss, hf with
      | [[a0], [a1]], hf =>
        exact (args a0 a1).symm ▸ law a0 a1 hf.1.1 hf.2.1.1) W vals ha
theorem own : ownKnob Try.prog.godebug = none := by kernel_rfl
theorem lifted {H : Type} (os : Os) (started : os.Started) (enc : TypeId × Value → H) : ReturnsInHanded {} Try.checked os 10 .any (Rows.headReadsSpec.pre6 enc Try.prog Try.f10 Rows.headReadsRow.domain false) (Rows.headReadsSpec.post enc Try.prog Try.f10 false true false false) :=
  law_lifted own started (by kernel_rfl) (by kernel_rfl)
    (ChangeSpec.witness6 (enc := enc) (C := Try.checked) false ⟨#[], #[.int .u64 0, .int .i64 0], []⟩ 8 (by kernel_rfl) (by kernel_rfl) (by kernel_rfl) (by kernel_rfl))
    (tb := 4) (by kernel_rfl) (by kernel_rfl) rfl
    (fun ds hd => by
      match ds, hd with
      | [_, _], _ => exact ⟨rfl, rfl, rfl⟩)
    (by kernel_rfl) (by kernel_rfl) (fun W vals ha => core W vals (hts ▸ ha))
theorem proved : Rows.HeadReadsSaid :=
  OpenClaim.holds_of_wide 10 Try.f10 rfl rfl rfl rfl rfl rfl rfl ⟨rfl, rfl, rfl, rfl, rfl⟩ rfl rfl rfl rfl rfl (by kernel_rfl) Try.func10 (by kernel_rfl) (of_decide_eq_true (by kernel_rfl))
    (by unfold Func.isWrapper; first | (rw [if_pos (by decide +kernel)]; kernel_rfl) | (rw [if_neg (by decide +kernel)]; exact ⟨rfl, rfl⟩))
    (fun os started H enc _ => lifted os started enc)
end Go.Proofs.Ytkgfidnpioakfaa.HeadReads
