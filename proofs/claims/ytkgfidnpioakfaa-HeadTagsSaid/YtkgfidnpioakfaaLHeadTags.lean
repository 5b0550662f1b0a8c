/-
  HeadTags: printed by genlaw.py.
-/
import Derived.Test.YtkgfidnpioakfaaRows
import Derived.Test.YtkgfidnpioakfaaEv2
import Derived.Test.YtkgfidnpioakfaaMod3
namespace Go.Proofs.Ytkgfidnpioakfaa.HeadTags
open Go Go.RowKit Go.Proofs.Ytkgfidnpioakfaa.Eng
set_option linter.unusedVariables false
set_option linter.unusedSimpArgs false
set_option maxRecDepth 20000

theorem all4 (c1 c2 c3 c4 : Bool) (h1 : c1 = true) (h2 : c2 = true) (h3 : c3 = true) (h4 : c4 = true) :
    (Tr.ite c1 (Tr.ite c2 (Tr.ite c3 (Tr.ok (SV.s (S1.one (VV.bool (SB.sym c4))))) (Tr.ok (SV.s (S1.one (VV.bool (SB.lit false)))))) (Tr.ok (SV.s (S1.one (VV.bool (SB.lit false)))))) (Tr.ok (SV.s (S1.one (VV.bool (SB.lit false)))))).All IsTrue := by
  subst h1 h2 h3 h4
  simp [Tr.All, IsTrue, SB.val]
theorem tags1 (a0 b0 c0 d0 e0 f0 g0 f1 g1 : Int) : (Int.tmod (ixor .u64 (mWord a0 b0 c0 d0 e0 f1 g1) (mWord a0 b0 c0 d0 e0 f0 g0)) 512 == 0) = true := by
  rw [Int.tmod_eq_emod_of_nonneg (xor_tags a0 b0 c0 d0 e0 f0 g0 f1 g1).2.1, (xor_tags a0 b0 c0 d0 e0 f0 g0 f1 g1).1]
  rfl

def unitSys : Eng.Sys Unit := ⟨fun _ _ _ _ => False, fun _ h => h⟩
theorem tree (a0 b0 c0 d0 e0 f0 g0 a1 b1 c1 d1 e1 f1 g1 : Int) : (evF Try.prog (lookI Unit tab2) 100 20 15 [.s (.agg [ii a0, ii b0, ii c0, ii d0, ii e0, ii f0, ii g0]), .s (.agg [ii a1, ii b1, ii c1, ii d1, ii e1, ii f1, ii g1])] [] 0).vmap (·.val) =
Tr.ite ((ixor IntKind.u64 (mWord a0 b0 c0 d0 e0 f1 g1) (mWord a0 b0 c0 d0 e0 f0 g0)).tmod 512 == 0)
  (Tr.ite (iandn IntKind.u64 (ixor IntKind.u64 (mWord a0 b0 c0 d1 e0 f0 g0) (mWord a0 b0 c0 d0 e0 f0 g0)) 128 == 0)
    (Tr.ite (iandn IntKind.u64 (ixor IntKind.u64 (mWord a0 b0 c0 d0 e1 f0 g0) (mWord a0 b0 c0 d0 e0 f0 g0)) 256 == 0)
      (Tr.ok
        (SV.s
          (S1.one
            (VV.bool
              (SB.sym
                (decide (ixor IntKind.u64 (mWord a0 b0 c0 d0 e0 f1 g1) (mWord a0 b0 c0 d0 e0 f0 g0) < 16777216)))))))
      (Tr.ok (SV.s (S1.one (VV.bool (SB.lit false))))))
    (Tr.ok (SV.s (S1.one (VV.bool (SB.lit false))))))
  (Tr.ok (SV.s (S1.one (VV.bool (SB.lit false))))) := by kernel_rfl
theorem law (a0 b0 c0 d0 e0 f0 g0 a1 b1 c1 d1 e1 f1 g1 : Int) (ha0 : CK.fits (.int .i64) a0) (hb0 : CK.fits (.int .i64) b0) (hc0 : CK.fits (.int .i64) c0) (hd0 : CK.fits (.int .i64) d0) (he0 : CK.fits (.int .i64) e0) (hf0 : CK.fits (.int .i64) f0) (hg0 : CK.fits (.int .i64) g0) (ha1 : CK.fits (.int .i64) a1) (hb1 : CK.fits (.int .i64) b1) (hc1 : CK.fits (.int .i64) c1) (hd1 : CK.fits (.int .i64) d1) (he1 : CK.fits (.int .i64) e1) (hf1 : CK.fits (.int .i64) f1) (hg1 : CK.fits (.int .i64) g1) : Holds ((evF Try.prog (lookI Unit tab2) 100 20 15 [.s (.agg [ii a0, ii b0, ii c0, ii d0, ii e0, ii f0, ii g0]), .s (.agg [ii a1, ii b1, ii c1, ii d1, ii e1, ii f1, ii g1])] [] 0).vmap (·.val)) :=
  Holds.of (tree a0 b0 c0 d0 e0 f0 g0 a1 b1 c1 d1 e1 f1 g1) (by
    exact all4 _ _ _ _ (tags1 a0 b0 c0 d0 e0 f0 g0 f1 g1) (beq_iff_eq.2 (xor_mark a0 b0 c0 d0 e0 f0 g0 d1)) (beq_iff_eq.2 (xor_grey a0 b0 c0 d0 e0 f0 g0 e1)) (decide_eq_true (xor_tags a0 b0 c0 d0 e0 f0 g0 f1 g1).2.2))
abbrev ts : List TypeId := [55, 55]
theorem hts : Try.f15.params.toList = ts := by kernel_rfl
theorem args (a0 b0 c0 d0 e0 f0 g0 a1 b1 c1 d1 e1 f1 g1 : Int) : mkArgs Try.prog ts [[.int .i64, .int .i64, .int .i64, .int .i64, .int .i64, .int .i64, .int .i64], [.int .i64, .int .i64, .int .i64, .int .i64, .int .i64, .int .i64, .int .i64]] [[a0, b0, c0, d0, e0, f0, g0], [a1, b1, c1, d1, e1, f1, g1]] = [.s (.agg [ii a0, ii b0, ii c0, ii d0, ii e0, ii f0, ii g0]), .s (.agg [ii a1, ii b1, ii c1, ii d1, ii e1, ii f1, ii g1])] := by kernel_rfl
theorem shapes : shapesK Try.prog ts [[.int .i64, .int .i64, .int .i64, .int .i64, .int .i64, .int .i64, .int .i64], [.int .i64, .int .i64, .int .i64, .int .i64, .int .i64, .int .i64, .int .i64]] := ⟨by kernel_rfl, by kernel_rfl, trivial⟩
theorem core (W : World) (vals : List Value) (ha : F2 (ArgOK Try.prog W) ts vals) :
    Calls Try.prog 15 vals.toArray W fun e W' => ∃ v, e = .returned v ∧ v = .bool true ∧ Below W.heap.size W W' :=
  core_plain (S := unitSys) progOK (lookI_ok tab2_ok) 100 20 [[.int .i64, .int .i64, .int .i64, .int .i64, .int .i64, .int .i64, .int .i64], [.int .i64, .int .i64, .int .i64, .int .i64, .int .i64, .int .i64, .int .i64]] shapes
    (fun nss hf => by
      match nss, hf with
      | [[a0, b0, c0, d0, e0, f0, g0], [a1, b1, c1, d1, e1, f1, g1]], hf =>
        exact (args a0 b0 c0 d0 e0 f0 g0 a1 b1 c1 d1 e1 f1 g1).symm ▸ law a0 b0 c0 d0 e0 f0 g0 a1 b1 c1 d1 e1 f1 g1 hf.1.1 hf.1.2.1 hf.1.2.2.1 hf.1.2.2.2.1 hf.1.2.2.2.2.1 hf.1.2.2.2.2.2.1 hf.1.2.2.2.2.2.2.1 hf.2.1.1 hf.2.1.2.1 hf.2.1.2.2.1 hf.2.1.2.2.2.1 hf.2.1.2.2.2.2.1 hf.2.1.2.2.2.2.2.1 hf.2.1.2.2.2.2.2.2.1) W vals ha
theorem own : ownKnob Try.prog.godebug = none := by kernel_rfl
theorem lifted {H : Type} (os : Os) (started : os.Started) (enc : TypeId × Value → H) : ReturnsInHanded {} Try.checked os 15 .any (Rows.headTagsSpec.pre6 enc Try.prog Try.f15 Rows.headTagsRow.domain false) (Rows.headTagsSpec.post enc Try.prog Try.f15 false true false false) :=
  law_lifted own started (by kernel_rfl) (by kernel_rfl)
    (ChangeSpec.witness6 (enc := enc) (C := Try.checked) false ⟨#[], #[.agg #[.int .i64 0, .int .i64 0, .int .i64 0, .int .i64 0, .int .i64 0, .int .i64 0, .int .i64 0], .agg #[.int .i64 0, .int .i64 0, .int .i64 0, .int .i64 0, .int .i64 0, .int .i64 0, .int .i64 0]], []⟩ 8 (by kernel_rfl) (by kernel_rfl) (by kernel_rfl) (by kernel_rfl))
    (tb := 4) (by kernel_rfl) (by kernel_rfl) rfl
    (fun ds hd => by
      match ds, hd with
      | [_, _], _ => exact ⟨rfl, rfl, rfl⟩)
    (by kernel_rfl) (by kernel_rfl) (fun W vals ha => core W vals (hts ▸ ha))
theorem proved : Rows.HeadTagsSaid :=
  OpenClaim.holds_of_wide 15 Try.f15 rfl rfl rfl rfl rfl rfl rfl ⟨rfl, rfl, rfl, rfl, rfl⟩ rfl rfl rfl rfl rfl (by kernel_rfl) Try.func15 (by kernel_rfl) (of_decide_eq_true (by kernel_rfl))
    (by unfold Func.isWrapper; first | (rw [if_pos (by decide +kernel)]; kernel_rfl) | (rw [if_neg (by decide +kernel)]; exact ⟨rfl, rfl⟩))
    (fun os started H enc _ => lifted os started enc)
end Go.Proofs.Ytkgfidnpioakfaa.HeadTags
