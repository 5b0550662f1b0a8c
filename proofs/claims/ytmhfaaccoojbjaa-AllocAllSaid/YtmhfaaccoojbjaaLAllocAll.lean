/-
  AllocAll: printed by genfin.py: the row of the law.
-/
import Derived.Test.YtmhfaaccoojbjaaRows
import Derived.Test.YtmhfaaccoojbjaaCAllocAll0
import Derived.Test.YtmhfaaccoojbjaaCAllocAll1
import Derived.Test.YtmhfaaccoojbjaaCAllocAll2
import Derived.Test.YtmhfaaccoojbjaaCAllocAll3
import Derived.Test.YtmhfaaccoojbjaaCAllocAll4
import Derived.Test.YtmhfaaccoojbjaaCAllocAll5
import Derived.Test.YtmhfaaccoojbjaaCAllocAll6
import Derived.Test.YtmhfaaccoojbjaaCAllocAll7
import Derived.Test.YtmhfaaccoojbjaaCAllocAll8
import Derived.Test.YtmhfaaccoojbjaaCAllocAll9
import Derived.Test.YtmhfaaccoojbjaaCAllocAll10
import Derived.Test.YtmhfaaccoojbjaaCAllocAll11
import Derived.Test.YtmhfaaccoojbjaaCAllocAll12
import Derived.Test.YtmhfaaccoojbjaaCAllocAll13
import Derived.Test.YtmhfaaccoojbjaaCAllocAll14
import Derived.Test.YtmhfaaccoojbjaaCAllocAll15
import Derived.Test.YtmhfaaccoojbjaaCAllocAll16
import Derived.Test.YtmhfaaccoojbjaaCAllocAll17
import Derived.Test.YtmhfaaccoojbjaaCAllocAll18
import Derived.Test.YtmhfaaccoojbjaaCAllocAll19
import Derived.Test.YtmhfaaccoojbjaaCAllocAll20
namespace Go.Proofs.Ytmhfaaccoojbjaa.AllocAll
open Go Go.RowKit Go.Proofs.Ytmhfaaccoojbjaa.Eng
set_option linter.unusedVariables false
set_option linter.unusedSimpArgs false
set_option maxRecDepth 100000
noncomputable abbrev t (a0 a1 : Int) : Tr SV := (evF Try.prog (lookH MObj LA.tabL) 100 20 6 [.v (ii a0), .v (ii a1)] [] 0).vmap (·.val)
theorem law (a0 a1 : Int) (ha0 : CK.fits (.int .i64) a0) (ha1 : CK.fits (.int .i64) a1) : Holds (t a0 a1) := by
  have k0 := kM_range (c := a0) (n := 4) (by decide) ha0
  have e0 : kM a0 4 = 0 ∨ kM a0 4 = 1 ∨ kM a0 4 = 2 ∨ kM a0 4 = 3 := by omega
  have k1 := kM_range (c := a1) (n := 8) (by decide) ha1
  have e1 : kM a1 8 = 0 ∨ kM a1 8 = 1 ∨ kM a1 8 = 2 ∨ kM a1 8 = 3 ∨ kM a1 8 = 4 ∨ kM a1 8 = 5 ∨ kM a1 8 = 6 ∨ kM a1 8 = 7 := by omega
  rcases e0 with h0 | h0 | h0 | h0
  ·
    rcases e1 with h1 | h1 | h1 | h1 | h1 | h1 | h1 | h1
    ·
      exact (Holds.at (K15.c0_0_0 a0 a1) (by simp [h0]) (Holds.at (K15.c0_0_1 a0 a1) (by simp [h1]) (Holds.ofT (K15.r0_0 a0 a1))))
    ·
      exact (Holds.at (K11.c0_1_0 a0 a1) (by simp [h0]) (Holds.at (K11.c0_1_1 a0 a1) (by simp [h1]) (Holds.ofT (K11.r0_1 a0 a1))))
    ·
      exact (Holds.at (K14.c0_2_0 a0 a1) (by simp [h0]) (Holds.at (K14.c0_2_1 a0 a1) (by simp [h1]) (Holds.ofT (K14.r0_2 a0 a1))))
    ·
      exact (Holds.at (K13.c0_3_0 a0 a1) (by simp [h0]) (Holds.at (K13.c0_3_1 a0 a1) (by simp [h1]) (Holds.ofT (K13.r0_3 a0 a1))))
    ·
      exact (Holds.at (K9.c0_4_0 a0 a1) (by simp [h0]) (Holds.at (K9.c0_4_1 a0 a1) (by simp [h1]) (Holds.ofT (K9.r0_4 a0 a1))))
    ·
      exact (Holds.at (K20.c0_5_0 a0 a1) (by simp [h0]) (Holds.at (K20.c0_5_1 a0 a1) (by simp [h1]) (Holds.ofT (K20.r0_5 a0 a1))))
    ·
      exact (Holds.at (K10.c0_6_0 a0 a1) (by simp [h0]) (Holds.at (K10.c0_6_1 a0 a1) (by simp [h1]) (Holds.ofT (K10.r0_6 a0 a1))))
    ·
      exact (Holds.at (K12.c0_7_0 a0 a1) (by simp [h0]) (Holds.at (K12.c0_7_1 a0 a1) (by simp [h1]) (Holds.ofT (K12.r0_7 a0 a1))))
  ·
    rcases e1 with h1 | h1 | h1 | h1 | h1 | h1 | h1 | h1
    ·
      exact (Holds.at (K19.c1_0_0 a0 a1) (by simp [h0]) (Holds.at (K19.c1_0_1 a0 a1) (by simp [h1]) (Holds.ofT (K19.r1_0 a0 a1))))
    ·
      exact (Holds.at (K18.c1_1_0 a0 a1) (by simp [h0]) (Holds.at (K18.c1_1_1 a0 a1) (by simp [h1]) (Holds.ofT (K18.r1_1 a0 a1))))
    ·
      exact (Holds.at (K16.c1_2_0 a0 a1) (by simp [h0]) (Holds.at (K16.c1_2_1 a0 a1) (by simp [h1]) (Holds.ofT (K16.r1_2 a0 a1))))
    ·
      exact (Holds.at (K14.c1_3_0 a0 a1) (by simp [h0]) (Holds.at (K14.c1_3_1 a0 a1) (by simp [h1]) (Holds.ofT (K14.r1_3 a0 a1))))
    ·
      exact (Holds.at (K16.c1_4_0 a0 a1) (by simp [h0]) (Holds.at (K16.c1_4_1 a0 a1) (by simp [h1]) (Holds.ofT (K16.r1_4 a0 a1))))
    ·
      exact (Holds.at (K17.c1_5_0 a0 a1) (by simp [h0]) (Holds.at (K17.c1_5_1 a0 a1) (by simp [h1]) (Holds.ofT (K17.r1_5 a0 a1))))
    ·
      exact (Holds.at (K18.c1_6_0 a0 a1) (by simp [h0]) (Holds.at (K18.c1_6_1 a0 a1) (by simp [h1]) (Holds.ofT (K18.r1_6 a0 a1))))
    ·
      exact (Holds.at (K19.c1_7_0 a0 a1) (by simp [h0]) (Holds.at (K19.c1_7_1 a0 a1) (by simp [h1]) (Holds.ofT (K19.r1_7 a0 a1))))
  ·
    rcases e1 with h1 | h1 | h1 | h1 | h1 | h1 | h1 | h1
    ·
      exact (Holds.at (K12.c2_0_0 a0 a1) (by simp [h0]) (Holds.at (K12.c2_0_1 a0 a1) (by simp [h1]) (Holds.ofT (K12.r2_0 a0 a1))))
    ·
      exact (Holds.at (K9.c2_1_0 a0 a1) (by simp [h0]) (Holds.at (K9.c2_1_1 a0 a1) (by simp [h1]) (Holds.ofT (K9.r2_1 a0 a1))))
    ·
      exact (Holds.at (K7.c2_2_0 a0 a1) (by simp [h0]) (Holds.at (K7.c2_2_1 a0 a1) (by simp [h1]) (Holds.ofT (K7.r2_2 a0 a1))))
    ·
      exact (Holds.at (K3.c2_3_0 a0 a1) (by simp [h0]) (Holds.at (K3.c2_3_1 a0 a1) (by simp [h1]) (Holds.ofT (K3.r2_3 a0 a1))))
    ·
      exact (Holds.at (K17.c2_4_0 a0 a1) (by simp [h0]) (Holds.at (K17.c2_4_1 a0 a1) (by simp [h1]) (Holds.ofT (K17.r2_4 a0 a1))))
    ·
      exact (Holds.at (K15.c2_5_0 a0 a1) (by simp [h0]) (Holds.at (K15.c2_5_1 a0 a1) (by simp [h1]) (Holds.ofT (K15.r2_5 a0 a1))))
    ·
      exact (Holds.at (K13.c2_6_0 a0 a1) (by simp [h0]) (Holds.at (K13.c2_6_1 a0 a1) (by simp [h1]) (Holds.ofT (K13.r2_6 a0 a1))))
    ·
      exact (Holds.at (K11.c2_7_0 a0 a1) (by simp [h0]) (Holds.at (K11.c2_7_1 a0 a1) (by simp [h1]) (Holds.ofT (K11.r2_7 a0 a1))))
  ·
    rcases e1 with h1 | h1 | h1 | h1 | h1 | h1 | h1 | h1
    ·
      exact (Holds.at (K5.c3_0_0 a0 a1) (by simp [h0]) (Holds.at (K5.c3_0_1 a0 a1) (by simp [h1]) (Holds.ofT (K5.r3_0 a0 a1))))
    ·
      exact (Holds.at (K2.c3_1_0 a0 a1) (by simp [h0]) (Holds.at (K2.c3_1_1 a0 a1) (by simp [h1]) (Holds.ofT (K2.r3_1 a0 a1))))
    ·
      exact (Holds.at (K1.c3_2_0 a0 a1) (by simp [h0]) (Holds.at (K1.c3_2_1 a0 a1) (by simp [h1]) (Holds.ofT (K1.r3_2 a0 a1))))
    ·
      exact (Holds.at (K0.c3_3_0 a0 a1) (by simp [h0]) (Holds.at (K0.c3_3_1 a0 a1) (by simp [h1]) (Holds.ofT (K0.r3_3 a0 a1))))
    ·
      exact (Holds.at (K10.c3_4_0 a0 a1) (by simp [h0]) (Holds.at (K10.c3_4_1 a0 a1) (by simp [h1]) (Holds.ofT (K10.r3_4 a0 a1))))
    ·
      exact (Holds.at (K8.c3_5_0 a0 a1) (by simp [h0]) (Holds.at (K8.c3_5_1 a0 a1) (by simp [h1]) (Holds.ofT (K8.r3_5 a0 a1))))
    ·
      exact (Holds.at (K6.c3_6_0 a0 a1) (by simp [h0]) (Holds.at (K6.c3_6_1 a0 a1) (by simp [h1]) (Holds.ofT (K6.r3_6 a0 a1))))
    ·
      exact (Holds.at (K4.c3_7_0 a0 a1) (by simp [h0]) (Holds.at (K4.c3_7_1 a0 a1) (by simp [h1]) (Holds.ofT (K4.r3_7 a0 a1))))
abbrev ts : List TypeId := [3, 3]
theorem hts : Try.f6.params.toList = ts := by kernel_rfl
theorem args (a0 a1 : Int) : mkArgs Try.prog ts [[.int .i64], [.int .i64]] [[a0], [a1]] = [.v (ii a0), .v (ii a1)] := by kernel_rfl
theorem shapes : shapesK Try.prog ts [[.int .i64], [.int .i64]] := ⟨by kernel_rfl, by kernel_rfl, trivial⟩
theorem core (w : World) (vals : List Value) (ha : F2 (ArgOK Try.prog w) ts vals) :
    Calls Try.prog 6 vals.toArray w fun e W' => ∃ v, e = .returned v ∧ v = .bool true ∧ Below w.heap.size w W' :=
  core_plain (S := MS) progOK (lookH_ok LA.tabL_ok) 100 20 [[.int .i64], [.int .i64]] shapes
    (fun nss hf => by
      match nss, hf with
      | [[a0], [a1]], hf =>
        exact (args a0 a1).symm ▸ law a0 a1 hf.1.1 hf.2.1.1) w vals ha
theorem own : ownKnob Try.prog.godebug = none := by kernel_rfl
theorem lifted {H : Type} (os : Os) (started : os.Started) (enc : TypeId × Value → H) : ReturnsInHanded {} Try.checked os 6 .any (Rows.allocAllSpec.pre6 enc Try.prog Try.f6 Rows.allocAllRow.domain false) (Rows.allocAllSpec.post enc Try.prog Try.f6 false true false false) :=
  law_lifted own started (by kernel_rfl) (by kernel_rfl)
    (ChangeSpec.witness6 (enc := enc) (C := Try.checked) false ⟨#[], #[.int .i64 0, .int .i64 0], []⟩ 8 (by kernel_rfl) (by kernel_rfl) (by kernel_rfl) (by kernel_rfl))
    (tb := 4) (by kernel_rfl) (by kernel_rfl) rfl
    (fun ds hd => by
      match ds, hd with
      | [_, _], _ => exact ⟨rfl, rfl, rfl⟩)
    (by kernel_rfl) (by kernel_rfl) (fun W vals ha => core W vals (hts ▸ ha))
theorem proved : Rows.AllocAllSaid :=
  OpenClaim.holds_of_wide 6 Try.f6 rfl rfl rfl rfl rfl rfl rfl ⟨rfl, rfl, rfl, rfl, rfl⟩ rfl rfl rfl rfl rfl (by kernel_rfl) Try.func6 (by kernel_rfl) (of_decide_eq_true (by kernel_rfl))
    (by unfold Func.isWrapper; first | (rw [if_pos (by decide +kernel)]; kernel_rfl) | (rw [if_neg (by decide +kernel)]; exact ⟨rfl, rfl⟩))
    (fun os started H enc _ => lifted os started enc)
end Go.Proofs.Ytmhfaaccoojbjaa.AllocAll
