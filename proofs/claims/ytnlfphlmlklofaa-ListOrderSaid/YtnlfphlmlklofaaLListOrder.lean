/-
  ListOrder: printed by genfin.py: the row of the law.
-/
import Derived.Test.YtnlfphlmlklofaaRows
import Derived.Test.YtnlfphlmlklofaaCListOrder
namespace Go.Proofs.Ytnlfphlmlklofaa.ListOrder
open Go Go.RowKit Go.Proofs.Ytnlfphlmlklofaa.Eng
set_option linter.unusedVariables false
set_option linter.unusedSimpArgs false
set_option maxRecDepth 100000
theorem law (a0 : Int) (ha0 : CK.fits (.int .i64) a0) : Holds (t a0) := by
  have k0 := kM_range (c := a0) (n := 13) (by decide) ha0
  have e0 : kM a0 13 = 0 ∨ kM a0 13 = 1 ∨ kM a0 13 = 2 ∨ kM a0 13 = 3 ∨ kM a0 13 = 4 ∨ kM a0 13 = 5 ∨ kM a0 13 = 6 ∨ kM a0 13 = 7 ∨ kM a0 13 = 8 ∨ kM a0 13 = 9 ∨ kM a0 13 = 10 ∨ kM a0 13 = 11 ∨ kM a0 13 = 12 := by omega
  rcases e0 with h0 | h0 | h0 | h0 | h0 | h0 | h0 | h0 | h0 | h0 | h0 | h0 | h0
  ·
    exact Holds.path (c0 a0) (by simp [h0]) (r0 a0)
  ·
    exact Holds.path (c1 a0) (by simp [h0]) (r1 a0)
  ·
    exact Holds.path (c2 a0) (by simp [h0]) (r2 a0)
  ·
    exact Holds.path (c3 a0) (by simp [h0]) (r3 a0)
  ·
    exact Holds.path (c4 a0) (by simp [h0]) (r4 a0)
  ·
    exact Holds.path (c5 a0) (by simp [h0]) (r5 a0)
  ·
    exact Holds.path (c6 a0) (by simp [h0]) (r6 a0)
  ·
    exact Holds.path (c7 a0) (by simp [h0]) (r7 a0)
  ·
    exact Holds.path (c8 a0) (by simp [h0]) (r8 a0)
  ·
    exact Holds.path (c9 a0) (by simp [h0]) (r9 a0)
  ·
    exact Holds.path (c10 a0) (by simp [h0]) (r10 a0)
  ·
    exact Holds.path (c11 a0) (by simp [h0]) (r11 a0)
  ·
    exact Holds.path (c12 a0) (by simp [h0]) (r12 a0)
abbrev ts : List TypeId := [3]
theorem hts : Try.f8.params.toList = ts := by kernel_rfl
theorem args (a0 : Int) : mkArgs Try.prog ts [[.int .i64]] [[a0]] = [.v (ii a0)] := by kernel_rfl
theorem shapes : shapesK Try.prog ts [[.int .i64]] := ⟨by kernel_rfl, trivial⟩
theorem core (w : World) (vals : List Value) (ha : F2 (ArgOK Try.prog w) ts vals) :
    Calls Try.prog 8 vals.toArray w fun e W' => ∃ v, e = .returned v ∧ v = .bool true ∧ Below w.heap.size w W' :=
  core_plain (S := MS) progOK (lookH_ok L8.tabL_ok) 100 20 [[.int .i64]] shapes
    (fun nss hf => by
      match nss, hf with
      | [[a0]], hf =>
        exact (args a0).symm ▸ law a0 hf.1.1) w vals ha
theorem own : ownKnob Try.prog.godebug = none := by kernel_rfl
theorem lifted {H : Type} (os : Os) (started : os.Started) (enc : TypeId × Value → H) : ReturnsInHanded {} Try.checked os 8 .any (Rows.listOrderSpec.pre6 enc Try.prog Try.f8 Rows.listOrderRow.domain false) (Rows.listOrderSpec.post enc Try.prog Try.f8 false true false false) :=
  law_lifted own started (by kernel_rfl) (by kernel_rfl)
    (ChangeSpec.witness6 (enc := enc) (C := Try.checked) false ⟨#[], #[.int .i64 0], []⟩ 8 (by kernel_rfl) (by kernel_rfl) (by kernel_rfl) (by kernel_rfl))
    (tb := 4) (by kernel_rfl) (by kernel_rfl) rfl
    (fun ds hd => by
      match ds, hd with
      | [_], _ => exact ⟨rfl, rfl, rfl⟩)
    (by kernel_rfl) (by kernel_rfl) (fun W vals ha => core W vals (hts ▸ ha))
theorem proved : Rows.ListOrderSaid :=
  OpenClaim.holds_of_wide 8 Try.f8 rfl rfl rfl rfl rfl rfl rfl ⟨rfl, rfl, rfl, rfl, rfl⟩ rfl rfl rfl rfl rfl (by kernel_rfl) Try.func8 (by kernel_rfl) (of_decide_eq_true (by kernel_rfl))
    (by unfold Func.isWrapper; first | (rw [if_pos (by decide +kernel)]; kernel_rfl) | (rw [if_neg (by decide +kernel)]; exact ⟨rfl, rfl⟩))
    (fun os started H enc _ => lifted os started enc)
end Go.Proofs.Ytnlfphlmlklofaa.ListOrder
