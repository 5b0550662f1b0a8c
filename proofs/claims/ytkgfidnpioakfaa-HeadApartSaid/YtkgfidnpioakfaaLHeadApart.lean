/-
  HeadApart: printed by genlaw.py.
-/
import Derived.Test.YtkgfidnpioakfaaRows
import Derived.Test.YtkgfidnpioakfaaEv2
import Derived.Test.YtkgfidnpioakfaaMod2
namespace Go.Proofs.Ytkgfidnpioakfaa.HeadApart
open Go Go.RowKit Go.Proofs.Ytkgfidnpioakfaa.Eng
set_option linter.unusedVariables false
set_option linter.unusedSimpArgs false
set_option maxRecDepth 20000

def unitSys : Eng.Sys Unit := ⟨fun _ _ _ _ => False, fun _ h => h⟩
theorem tree (a0 b0 c0 d0 e0 f0 g0 a1 b1 c1 d1 e1 f1 g1 : Int) : (evF Try.prog (lookI Unit tab2b) 100 20 12 [.s (.agg [ii a0, ii b0, ii c0, ii d0, ii e0, ii f0, ii g0]), .s (.agg [ii a1, ii b1, ii c1, ii d1, ii e1, ii f1, ii g1])] [] 0).vmap (·.val) =
Tr.ite (!mGood a0 b0 c0 d0 e0 f0 g0) (Tr.ok (SV.s (S1.one (VV.bool (SB.lit true)))))
  (Tr.ite (!mGood a1 b1 c1 d1 e1 f1 g1) (Tr.ok (SV.s (S1.one (VV.bool (SB.lit true)))))
    (Tr.ok
      (SV.s
        (S1.one
          (VV.bool
            (SB.sym
              ((mWord a0 b0 c0 d0 e0 f0 g0 == mWord a1 b1 c1 d1 e1 f1 g1) ==
                (a0 == a1 && (b0 == b1 && (c0 == c1 && (d0 == d1 && (e0 == e1 && (f0 == f1 && g0 == g1))))))))))))) := by kernel_rfl
theorem law (a0 b0 c0 d0 e0 f0 g0 a1 b1 c1 d1 e1 f1 g1 : Int) (ha0 : CK.fits (.int .i64) a0) (hb0 : CK.fits (.int .i64) b0) (hc0 : CK.fits (.int .i64) c0) (hd0 : CK.fits (.int .i64) d0) (he0 : CK.fits (.int .i64) e0) (hf0 : CK.fits (.int .i64) f0) (hg0 : CK.fits (.int .i64) g0) (ha1 : CK.fits (.int .i64) a1) (hb1 : CK.fits (.int .i64) b1) (hc1 : CK.fits (.int .i64) c1) (hd1 : CK.fits (.int .i64) d1) (he1 : CK.fits (.int .i64) e1) (hf1 : CK.fits (.int .i64) f1) (hg1 : CK.fits (.int .i64) g1) : Holds ((evF Try.prog (lookI Unit tab2b) 100 20 12 [.s (.agg [ii a0, ii b0, ii c0, ii d0, ii e0, ii f0, ii g0]), .s (.agg [ii a1, ii b1, ii c1, ii d1, ii e1, ii f1, ii g1])] [] 0).vmap (·.val)) :=
  Holds.of (tree a0 b0 c0 d0 e0 f0 g0 a1 b1 c1 d1 e1 f1 g1) (by
    cases h1 : mGood a0 b0 c0 d0 e0 f0 g0
    · simp [Tr.All, IsTrue, SB.val]
    cases h2 : mGood a1 b1 c1 d1 e1 f1 g1
    · simp [Tr.All, IsTrue, SB.val]
    simp only [mGood, Bool.and_eq_true, decide_eq_true_eq] at h1 h2
    refine ⟨fun h => (by cases h), fun _ => ⟨fun h => (by cases h), fun _ => ?_⟩⟩
    show (_ == _) = true
    refine same_of ?_
    simp only [beq_iff_eq, Bool.and_eq_true]
    refine ⟨fun h => ?_, fun h => ?_⟩
    · have := word_inj h
      omega
    · obtain ⟨rfl, rfl, rfl, rfl, rfl, rfl, rfl⟩ := h
      rfl)
abbrev ts : List TypeId := [55, 55]
theorem hts : Try.f12.params.toList = ts := by kernel_rfl
theorem args (a0 b0 c0 d0 e0 f0 g0 a1 b1 c1 d1 e1 f1 g1 : Int) : mkArgs Try.prog ts [[.int .i64, .int .i64, .int .i64, .int .i64, .int .i64, .int .i64, .int .i64], [.int .i64, .int .i64, .int .i64, .int .i64, .int .i64, .int .i64, .int .i64]] [[a0, b0, c0, d0, e0, f0, g0], [a1, b1, c1, d1, e1, f1, g1]] = [.s (.agg [ii a0, ii b0, ii c0, ii d0, ii e0, ii f0, ii g0]), .s (.agg [ii a1, ii b1, ii c1, ii d1, ii e1, ii f1, ii g1])] := by kernel_rfl
theorem shapes : shapesK Try.prog ts [[.int .i64, .int .i64, .int .i64, .int .i64, .int .i64, .int .i64, .int .i64], [.int .i64, .int .i64, .int .i64, .int .i64, .int .i64, .int .i64, .int .i64]] := ⟨by kernel_rfl, by kernel_rfl, trivial⟩
theorem core (W : World) (vals : List Value) (ha : F2 (ArgOK Try.prog W) ts vals) :
    Calls Try.prog 12 vals.toArray W fun e W' => ∃ v, e = .returned v ∧ v = .bool true ∧ Below W.heap.size W W' :=
  core_plain (S := unitSys) progOK (lookI_ok tab2b_ok) 100 20 [[.int .i64, .int .i64, .int .i64, .int .i64, .int .i64, .int .i64, .int .i64], [.int .i64, .int .i64, .int .i64, .int .i64, .int .i64, .int .i64, .int .i64]] shapes
    (fun nss hf => by
      match nss, hf with
      | [[a0, b0, c0, d0, e0, f0, g0], [a1, b1, c1, d1, e1, f1, g1]], hf =>
        exact (args a0 b0 c0 d0 e0 f0 g0 a1 b1 c1 d1 e1 f1 g1).symm ▸ law a0 b0 c0 d0 e0 f0 g0 a1 b1 c1 d1 e1 f1 g1 hf.1.1 hf.1.2.1 hf.1.2.2.1 hf.1.2.2.2.1 hf.1.2.2.2.2.1 hf.1.2.2.2.2.2.1 hf.1.2.2.2.2.2.2.1 hf.2.1.1 hf.2.1.2.1 hf.2.1.2.2.1 hf.2.1.2.2.2.1 hf.2.1.2.2.2.2.1 hf.2.1.2.2.2.2.2.1 hf.2.1.2.2.2.2.2.2.1) W vals ha
theorem own : ownKnob Try.prog.godebug = none := by kernel_rfl
theorem lifted {H : Type} (os : Os) (started : os.Started) (enc : TypeId × Value → H) : ReturnsInHanded {} Try.checked os 12 .any (Rows.headApartSpec.pre6 enc Try.prog Try.f12 Rows.headApartRow.domain false) (Rows.headApartSpec.post enc Try.prog Try.f12 false true false false) :=
  law_lifted own started (by kernel_rfl) (by kernel_rfl)
    (ChangeSpec.witness6 (enc := enc) (C := Try.checked) false ⟨#[], #[.agg #[.int .i64 0, .int .i64 0, .int .i64 0, .int .i64 0, .int .i64 0, .int .i64 0, .int .i64 0], .agg #[.int .i64 0, .int .i64 0, .int .i64 0, .int .i64 0, .int .i64 0, .int .i64 0, .int .i64 0]], []⟩ 8 (by kernel_rfl) (by kernel_rfl) (by kernel_rfl) (by kernel_rfl))
    (tb := 4) (by kernel_rfl) (by kernel_rfl) rfl
    (fun ds hd => by
      match ds, hd with
      | [_, _], _ => exact ⟨rfl, rfl, rfl⟩)
    (by kernel_rfl) (by kernel_rfl) (fun W vals ha => core W vals (hts ▸ ha))
theorem proved : Rows.HeadApartSaid :=
  OpenClaim.holds_of_wide 12 Try.f12 rfl rfl rfl rfl rfl rfl rfl ⟨rfl, rfl, rfl, rfl, rfl⟩ rfl rfl rfl rfl rfl (by kernel_rfl) Try.func12 (by kernel_rfl) (of_decide_eq_true (by kernel_rfl))
    (by unfold Func.isWrapper; first | (rw [if_pos (by decide +kernel)]; kernel_rfl) | (rw [if_neg (by decide +kernel)]; exact ⟨rfl, rfl⟩))
    (fun os started H enc _ => lifted os started enc)
end Go.Proofs.Ytkgfidnpioakfaa.HeadApart
