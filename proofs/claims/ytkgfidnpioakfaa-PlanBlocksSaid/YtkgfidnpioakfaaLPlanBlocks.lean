/-
  PlanBlocks: printed by genlaw.py.
-/
import Derived.Test.YtkgfidnpioakfaaRows
import Derived.Test.YtkgfidnpioakfaaEv5
namespace Go.Proofs.Ytkgfidnpioakfaa.PlanBlocks
open Go Go.RowKit Go.Proofs.Ytkgfidnpioakfaa.Eng
set_option linter.unusedVariables false
set_option linter.unusedSimpArgs false
set_option maxRecDepth 20000

def unitSys : Eng.Sys Unit := ⟨fun _ _ _ _ => False, fun _ h => h⟩
theorem tree (a0 a1 a2 : Int) : (evF Try.prog (lookI Unit tab5) 100 20 7 [.v (ii a0), .v (ii a1), .v (ii a2)] [] 0).vmap (·.val) =
Tr.ite (mPErr (IntKind.i64.wrap (1 + iand IntKind.i64 a0 63)) (IntKind.i64.wrap (1 + iand IntKind.i64 a1 63)) != 0)
  (Tr.ok (SV.s (S1.one (VV.bool (SB.lit false)))))
  (Tr.ite
    (decide
      (a2 < mPHeap (IntKind.i64.wrap (1 + iand IntKind.i64 a0 63)) (IntKind.i64.wrap (1 + iand IntKind.i64 a1 63))))
    (Tr.ite
      (decide
        (a2 < mPHeap (IntKind.i64.wrap (1 + iand IntKind.i64 a0 63)) (IntKind.i64.wrap (1 + iand IntKind.i64 a1 63))))
      (Tr.ok (SV.s (S1.one (VV.bool (SB.lit true)))))
      (Tr.ite
        (decide
          (a2 ≥ mPSize (IntKind.i64.wrap (1 + iand IntKind.i64 a0 63)) (IntKind.i64.wrap (1 + iand IntKind.i64 a1 63))))
        (Tr.ok (SV.s (S1.one (VV.bool (SB.lit true))))) (Tr.ok (SV.s (S1.one (VV.bool (SB.lit false)))))))
    (Tr.ite
      (decide
        (a2 ≥ mPSize (IntKind.i64.wrap (1 + iand IntKind.i64 a0 63)) (IntKind.i64.wrap (1 + iand IntKind.i64 a1 63))))
      (Tr.ite
        (decide
          (a2 < mPHeap (IntKind.i64.wrap (1 + iand IntKind.i64 a0 63)) (IntKind.i64.wrap (1 + iand IntKind.i64 a1 63))))
        (Tr.ok (SV.s (S1.one (VV.bool (SB.lit true)))))
        (Tr.ite
          (decide
            (a2 ≥
              mPSize (IntKind.i64.wrap (1 + iand IntKind.i64 a0 63)) (IntKind.i64.wrap (1 + iand IntKind.i64 a1 63))))
          (Tr.ok (SV.s (S1.one (VV.bool (SB.lit true))))) (Tr.ok (SV.s (S1.one (VV.bool (SB.lit false)))))))
      (Tr.ite
        (decide
          (a2 < mPHeap (IntKind.i64.wrap (1 + iand IntKind.i64 a0 63)) (IntKind.i64.wrap (1 + iand IntKind.i64 a1 63))))
        (Tr.ok
          (SV.s
            (S1.one
              (VV.bool
                (SB.sym
                  (IntKind.i64.wrap
                      ((IntKind.i64.wrap
                            (a2 -
                              mPHeap (IntKind.i64.wrap (1 + iand IntKind.i64 a0 63))
                                (IntKind.i64.wrap (1 + iand IntKind.i64 a1 63)))).tdiv
                        32) ==
                    -1))))))
        (Tr.ite
          (decide
            (a2 ≥
              mPSize (IntKind.i64.wrap (1 + iand IntKind.i64 a0 63)) (IntKind.i64.wrap (1 + iand IntKind.i64 a1 63))))
          (Tr.ok
            (SV.s
              (S1.one
                (VV.bool
                  (SB.sym
                    (IntKind.i64.wrap
                        ((IntKind.i64.wrap
                              (a2 -
                                mPHeap (IntKind.i64.wrap (1 + iand IntKind.i64 a0 63))
                                  (IntKind.i64.wrap (1 + iand IntKind.i64 a1 63)))).tdiv
                          32) ==
                      -1))))))
          (Tr.ite
            (decide
              (IntKind.i64.wrap
                  ((IntKind.i64.wrap
                        (a2 -
                          mPHeap (IntKind.i64.wrap (1 + iand IntKind.i64 a0 63))
                            (IntKind.i64.wrap (1 + iand IntKind.i64 a1 63)))).tdiv
                    32) ≥
                0))
            (Tr.ite
              (decide
                (IntKind.i64.wrap
                    ((IntKind.i64.wrap
                          (a2 -
                            mPHeap (IntKind.i64.wrap (1 + iand IntKind.i64 a0 63))
                              (IntKind.i64.wrap (1 + iand IntKind.i64 a1 63)))).tdiv
                      32) <
                  mPBl (IntKind.i64.wrap (1 + iand IntKind.i64 a0 63)) (IntKind.i64.wrap (1 + iand IntKind.i64 a1 63))))
              (Tr.ite
                (decide
                  (a2 ≥
                    IntKind.i64.wrap
                      (IntKind.i64.wrap
                          (mPHeap (IntKind.i64.wrap (1 + iand IntKind.i64 a0 63))
                              (IntKind.i64.wrap (1 + iand IntKind.i64 a1 63)) +
                            IntKind.i64.wrap
                              (32 *
                                IntKind.i64.wrap
                                  ((IntKind.i64.wrap
                                        (a2 -
                                          mPHeap (IntKind.i64.wrap (1 + iand IntKind.i64 a0 63))
                                            (IntKind.i64.wrap (1 + iand IntKind.i64 a1 63)))).tdiv
                                    32))) +
                        IntKind.i64.wrap (0 * mWords 0))))
                (Tr.ite
                  (decide
                    (a2 <
                      IntKind.i64.wrap
                        (IntKind.i64.wrap
                            (IntKind.i64.wrap
                                (mPHeap (IntKind.i64.wrap (1 + iand IntKind.i64 a0 63))
                                    (IntKind.i64.wrap (1 + iand IntKind.i64 a1 63)) +
                                  IntKind.i64.wrap
                                    (32 *
                                      IntKind.i64.wrap
                                        ((IntKind.i64.wrap
                                              (a2 -
                                                mPHeap (IntKind.i64.wrap (1 + iand IntKind.i64 a0 63))
                                                  (IntKind.i64.wrap (1 + iand IntKind.i64 a1 63)))).tdiv
                                          32))) +
                              IntKind.i64.wrap (0 * mWords 0)) +
                          32)))
                  (Tr.ite
                    (mPSize (IntKind.i64.wrap (1 + iand IntKind.i64 a0 63))
                        (IntKind.i64.wrap (1 + iand IntKind.i64 a1 63)) ==
                      IntKind.i64.wrap
                        (mPHeap (IntKind.i64.wrap (1 + iand IntKind.i64 a0 63))
                            (IntKind.i64.wrap (1 + iand IntKind.i64 a1 63)) +
                          IntKind.i64.wrap
                            (mPBl (IntKind.i64.wrap (1 + iand IntKind.i64 a0 63))
                                (IntKind.i64.wrap (1 + iand IntKind.i64 a1 63)) *
                              32)))
                    (Tr.ok
                      (SV.s
                        (S1.one
                          (VV.bool
                            (SB.sym
                              ((mPHeap (IntKind.i64.wrap (1 + iand IntKind.i64 a0 63))
                                      (IntKind.i64.wrap (1 + iand IntKind.i64 a1 63))).tmod
                                  32 ==
                                0))))))
                    (Tr.ok (SV.s (S1.one (VV.bool (SB.lit false))))))
                  (Tr.ok (SV.s (S1.one (VV.bool (SB.lit false))))))
                (Tr.ok (SV.s (S1.one (VV.bool (SB.lit false))))))
              (Tr.ok (SV.s (S1.one (VV.bool (SB.lit false))))))
            (Tr.ok (SV.s (S1.one (VV.bool (SB.lit false)))))))))) := by kernel_rfl
theorem law (a0 a1 a2 : Int) (ha0 : CK.fits (.int .i64) a0) (ha1 : CK.fits (.int .i64) a1) (ha2 : CK.fits (.int .i64) a2) : Holds ((evF Try.prog (lookI Unit tab5) 100 20 7 [.v (ii a0), .v (ii a1), .v (ii a2)] [] 0).vmap (·.val)) :=
  Holds.of (tree a0 a1 a2) (by
    have ea : IntKind.i64.wrap (1 + iand IntKind.i64 a0 63) = 1 + a0 % 64 := by
      rw [show (63 : Int) = 2 ^ 6 - 1 from rfl, iand_mask_i64 _ 6 (by decide)]
      exact wrap_i64_of (by omega) (by omega)
    have eb : IntKind.i64.wrap (1 + iand IntKind.i64 a1 63) = 1 + a1 % 64 := by
      rw [show (63 : Int) = 2 ^ 6 - 1 from rfl, iand_mask_i64 _ 6 (by decide)]
      exact wrap_i64_of (by omega) (by omega)
    rw [ea, eb]
    obtain ⟨h1, h2, h3, h4, h5, h6⟩ := plan_fits (a := 1 + a0 % 64) (b := 1 + a1 % 64) (by omega)
    rw [h2, h4, h5, h6]
    have hb : 1 ≤ 1 + a1 % 64 ∧ 1 + a1 % 64 ≤ 64 := by omega
    have hh : 32 ≤ (41 + (1 + a0 % 64) + (1 + a1 % 64)) / 32 * 32 ∧ (41 + (1 + a0 % 64) + (1 + a1 % 64)) / 32 * 32 ≤ 1000 ∧ (41 + (1 + a0 % 64) + (1 + a1 % 64)) / 32 * 32 % 32 = 0 := by omega
    revert hb hh
    generalize (41 + (1 + a0 % 64) + (1 + a1 % 64)) / 32 * 32 = H
    generalize 1 + a1 % 64 = B
    intro hb hh
    have e0 : IntKind.i64.wrap (0 * mWords 0) = 0 := by decide
    have e1 : IntKind.i64.wrap (B * 32) = 32 * B := by rw [Int.mul_comm]; exact wrap_i64_of (by omega) (by omega)
    have e2 : IntKind.i64.wrap (H + 32 * B) = H + 32 * B := wrap_i64_of (by omega) (by omega)
    have e3 : H.tmod 32 = 0 := by rw [Int.tmod_eq_emod_of_nonneg (by omega)]; omega
    rw [e0, e1, e2, e3]
    by_cases p : a2 < H
    · simp [Tr.All, IsTrue, SB.val, p]
    by_cases q : a2 ≥ H + 32 * B
    · simp [Tr.All, IsTrue, SB.val, p, q]
    have e4 : IntKind.i64.wrap (a2 - H) = a2 - H := wrap_i64_of (by omega) (by omega)
    have e5 : (a2 - H).tdiv 32 = (a2 - H) / 32 := Int.tdiv_eq_ediv_of_nonneg (by omega)
    have e6 : IntKind.i64.wrap ((a2 - H) / 32) = (a2 - H) / 32 := wrap_i64_of (by omega) (by omega)
    have e7 : IntKind.i64.wrap (32 * ((a2 - H) / 32)) = 32 * ((a2 - H) / 32) := wrap_i64_of (by omega) (by omega)
    have e8 : IntKind.i64.wrap (H + 32 * ((a2 - H) / 32)) = H + 32 * ((a2 - H) / 32) := wrap_i64_of (by omega) (by omega)
    have e9 : IntKind.i64.wrap (H + 32 * ((a2 - H) / 32) + 0) = H + 32 * ((a2 - H) / 32) := by rw [Int.add_zero]; exact e8
    have e10 : IntKind.i64.wrap (H + 32 * ((a2 - H) / 32) + 32) = H + 32 * ((a2 - H) / 32) + 32 := wrap_i64_of (by omega) (by omega)
    rw [e4, e5, e6, e7, e8, e9, e10]
    simp only [Tr.All, IsTrue, SB.val, decide_eq_true_eq, decide_eq_false_iff_not, beq_iff_eq, beq_eq_false_iff_ne, bne_iff_ne, bne_eq_false_iff_eq, Bool.and_eq_true, Bool.and_eq_false_imp, ne_eq, Bool.not_eq_true', Bool.not_eq_false', Bool.or_eq_true, Bool.or_eq_false_iff, Bool.false_eq_true, Bool.true_eq_false, imp_true_iff, true_and, and_true, not_true_eq_false, not_false_eq_true, true_implies, false_implies]
    omega)
abbrev ts : List TypeId := [3, 3, 3]
theorem hts : Try.f7.params.toList = ts := by kernel_rfl
theorem args (a0 a1 a2 : Int) : mkArgs Try.prog ts [[.int .i64], [.int .i64], [.int .i64]] [[a0], [a1], [a2]] = [.v (ii a0), .v (ii a1), .v (ii a2)] := by kernel_rfl
theorem shapes : shapesK Try.prog ts [[.int .i64], [.int .i64], [.int .i64]] := ⟨by kernel_rfl, by kernel_rfl, by kernel_rfl, trivial⟩
theorem core (W : World) (vals : List Value) (ha : F2 (ArgOK Try.prog W) ts vals) :
    Calls Try.prog 7 vals.toArray W fun e W' => ∃ v, e = .returned v ∧ v = .bool true ∧ Below W.heap.size W W' :=
  core_plain (S := unitSys) progOK (lookI_ok tab5_ok) 100 20 [[.int .i64], [.int .i64], [.int .i64]] shapes
    (fun nss hf => by
      match nss, hf with
      | [[a0], [a1], [a2]], hf =>
        exact (args a0 a1 a2).symm ▸ law a0 a1 a2 hf.1.1 hf.2.1.1 hf.2.2.1.1) W vals ha
theorem own : ownKnob Try.prog.godebug = none := by kernel_rfl
theorem lifted {H : Type} (os : Os) (started : os.Started) (enc : TypeId × Value → H) : ReturnsInHanded {} Try.checked os 7 .any (Rows.planBlocksSpec.pre6 enc Try.prog Try.f7 Rows.planBlocksRow.domain false) (Rows.planBlocksSpec.post enc Try.prog Try.f7 false true false false) :=
  law_lifted own started (by kernel_rfl) (by kernel_rfl)
    (ChangeSpec.witness6 (enc := enc) (C := Try.checked) false ⟨#[], #[.int .i64 0, .int .i64 0, .int .i64 0], []⟩ 8 (by kernel_rfl) (by kernel_rfl) (by kernel_rfl) (by kernel_rfl))
    (tb := 4) (by kernel_rfl) (by kernel_rfl) rfl
    (fun ds hd => by
      match ds, hd with
      | [_, _, _], _ => exact ⟨rfl, rfl, rfl⟩)
    (by kernel_rfl) (by kernel_rfl) (fun W vals ha => core W vals (hts ▸ ha))
theorem proved : Rows.PlanBlocksSaid :=
  OpenClaim.holds_of_wide 7 Try.f7 rfl rfl rfl rfl rfl rfl rfl ⟨rfl, rfl, rfl, rfl, rfl⟩ rfl rfl rfl rfl rfl (by kernel_rfl) Try.func7 (by kernel_rfl) (of_decide_eq_true (by kernel_rfl))
    (by unfold Func.isWrapper; first | (rw [if_pos (by decide +kernel)]; kernel_rfl) | (rw [if_neg (by decide +kernel)]; exact ⟨rfl, rfl⟩))
    (fun os started H enc _ => lifted os started enc)
end Go.Proofs.Ytkgfidnpioakfaa.PlanBlocks
