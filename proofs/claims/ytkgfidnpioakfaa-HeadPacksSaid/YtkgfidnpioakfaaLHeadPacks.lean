/-
  HeadPacks: printed by genlaw.py.
-/
import Derived.Test.YtkgfidnpioakfaaRows
import Derived.Test.YtkgfidnpioakfaaEv2
namespace Go.Proofs.Ytkgfidnpioakfaa.HeadPacks
open Go Go.RowKit Go.Proofs.Ytkgfidnpioakfaa.Eng
set_option linter.unusedVariables false
set_option linter.unusedSimpArgs false
set_option maxRecDepth 20000

def unitSys : Eng.Sys Unit := ⟨fun _ _ _ _ => False, fun _ h => h⟩
theorem tree (a0 b0 c0 d0 e0 f0 g0 : Int) : (evF Try.prog (lookI Unit tab2) 100 20 9 [.s (.agg [ii a0, ii b0, ii c0, ii d0, ii e0, ii f0, ii g0])] [] 0).vmap (·.val) =
Tr.ok (SV.s (S1.one (VV.bool (SB.sym (mWord a0 b0 c0 d0 e0 f0 g0 == mWord a0 b0 c0 d0 e0 f0 g0))))) := by kernel_rfl
theorem law (a0 b0 c0 d0 e0 f0 g0 : Int) (ha0 : CK.fits (.int .i64) a0) (hb0 : CK.fits (.int .i64) b0) (hc0 : CK.fits (.int .i64) c0) (hd0 : CK.fits (.int .i64) d0) (he0 : CK.fits (.int .i64) e0) (hf0 : CK.fits (.int .i64) f0) (hg0 : CK.fits (.int .i64) g0) : Holds ((evF Try.prog (lookI Unit tab2) 100 20 9 [.s (.agg [ii a0, ii b0, ii c0, ii d0, ii e0, ii f0, ii g0])] [] 0).vmap (·.val)) :=
  Holds.of (tree a0 b0 c0 d0 e0 f0 g0) (by
    simp [Tr.All, IsTrue, SB.val])
abbrev ts : List TypeId := [55]
theorem hts : Try.f9.params.toList = ts := by kernel_rfl
theorem args (a0 b0 c0 d0 e0 f0 g0 : Int) : mkArgs Try.prog ts [[.int .i64, .int .i64, .int .i64, .int .i64, .int .i64, .int .i64, .int .i64]] [[a0, b0, c0, d0, e0, f0, g0]] = [.s (.agg [ii a0, ii b0, ii c0, ii d0, ii e0, ii f0, ii g0])] := by kernel_rfl
theorem shapes : shapesK Try.prog ts [[.int .i64, .int .i64, .int .i64, .int .i64, .int .i64, .int .i64, .int .i64]] := ⟨by kernel_rfl, trivial⟩
theorem core (W : World) (vals : List Value) (ha : F2 (ArgOK Try.prog W) ts vals) :
    Calls Try.prog 9 vals.toArray W fun e W' => ∃ v, e = .returned v ∧ v = .bool true ∧ Below W.heap.size W W' :=
  core_plain (S := unitSys) progOK (lookI_ok tab2_ok) 100 20 [[.int .i64, .int .i64, .int .i64, .int .i64, .int .i64, .int .i64, .int .i64]] shapes
    (fun nss hf => by
      match nss, hf with
      | [[a0, b0, c0, d0, e0, f0, g0]], hf =>
        exact (args a0 b0 c0 d0 e0 f0 g0).symm ▸ law a0 b0 c0 d0 e0 f0 g0 hf.1.1 hf.1.2.1 hf.1.2.2.1 hf.1.2.2.2.1 hf.1.2.2.2.2.1 hf.1.2.2.2.2.2.1 hf.1.2.2.2.2.2.2.1) W vals ha
theorem own : ownKnob Try.prog.godebug = none := by kernel_rfl
theorem lifted {H : Type} (os : Os) (started : os.Started) (enc : TypeId × Value → H) : ReturnsInHanded {} Try.checked os 9 .any (Rows.headPacksSpec.pre6 enc Try.prog Try.f9 Rows.headPacksRow.domain false) (Rows.headPacksSpec.post enc Try.prog Try.f9 false true false false) :=
  law_lifted own started (by kernel_rfl) (by kernel_rfl)
    (ChangeSpec.witness6 (enc := enc) (C := Try.checked) false ⟨#[], #[.agg #[.int .i64 0, .int .i64 0, .int .i64 0, .int .i64 0, .int .i64 0, .int .i64 0, .int .i64 0]], []⟩ 8 (by kernel_rfl) (by kernel_rfl) (by kernel_rfl) (by kernel_rfl))
    (tb := 4) (by kernel_rfl) (by kernel_rfl) rfl
    (fun ds hd => by
      match ds, hd with
      | [_], _ => exact ⟨rfl, rfl, rfl⟩)
    (by kernel_rfl) (by kernel_rfl) (fun W vals ha => core W vals (hts ▸ ha))
theorem proved : Rows.HeadPacksSaid :=
  OpenClaim.holds_of_wide 9 Try.f9 rfl rfl rfl rfl rfl rfl rfl ⟨rfl, rfl, rfl, rfl, rfl⟩ rfl rfl rfl rfl rfl (by kernel_rfl) Try.func9 (by kernel_rfl) (of_decide_eq_true (by kernel_rfl))
    (by unfold Func.isWrapper; first | (rw [if_pos (by decide +kernel)]; kernel_rfl) | (rw [if_neg (by decide +kernel)]; exact ⟨rfl, rfl⟩))
    (fun os started H enc _ => lifted os started enc)
end Go.Proofs.Ytkgfidnpioakfaa.HeadPacks
