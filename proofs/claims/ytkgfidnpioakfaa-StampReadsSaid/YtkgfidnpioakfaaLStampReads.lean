import Derived.Test.YtkgfidnpioakfaaRows
import Derived.Test.YtkgfidnpioakfaaEv2
namespace Go.Proofs.Ytkgfidnpioakfaa.StampReads
open Go Go.RowKit Go.Proofs.Ytkgfidnpioakfaa.Eng

def unitSys : Eng.Sys Unit := ⟨fun _ _ _ _ => False, fun _ h => h⟩
theorem tree (a b : Int) : (evF Try.prog (lookI Unit tab2) 100 20 18 [.v (uu a), .v (ii b)] [] 0).vmap (·.val) = 
Tr.ite (mAt a == mAt a && mVer a == mVer a)
  (Tr.ite (mNo a == mNo a && (mMode a == mMode a && (mMark a == mMark a && mList a == mList a)))
    (Tr.ite (mBState a == mBState a && (mBClass a == mBClass a && (mBStamp a == mBStamp a && mBNext a == mBNext a)))
      (Tr.ok (SV.s (S1.one (VV.bool (SB.sym (mNext a b == mNext a b))))))
      (Tr.ok (SV.s (S1.one (VV.bool (SB.lit false))))))
    (Tr.ok (SV.s (S1.one (VV.bool (SB.lit false))))))
  (Tr.ok (SV.s (S1.one (VV.bool (SB.lit false))))) := by kernel_rfl
theorem law (a b : Int) (ha : inK .u64 a) (hb : inK .i64 b) : Holds ((evF Try.prog (lookI Unit tab2) 100 20 18 [.v (uu a), .v (ii b)] [] 0).vmap (·.val)) :=
  Holds.of (tree a b) (by simp [Tr.All, IsTrue, SB.val])
abbrev ts : List TypeId := [29, 3]
theorem hts : Try.f18.params.toList = ts := by kernel_rfl
theorem args (a b : Int) : mkArgs Try.prog ts [[.int .u64], [.int .i64]] [[a], [b]] = [.v (uu a), .v (ii b)] := by kernel_rfl
theorem shapes : shapesK Try.prog ts [[.int .u64], [.int .i64]] := ⟨by kernel_rfl, by kernel_rfl, trivial⟩
theorem core (W : World) (vals : List Value) (ha : F2 (ArgOK Try.prog W) ts vals) :
    Calls Try.prog 18 vals.toArray W fun e W' => ∃ v, e = .returned v ∧ v = .bool true ∧ Below W.heap.size W W' :=
  core_plain (S := unitSys) progOK (lookI_ok tab2_ok) 100 20 [[.int .u64], [.int .i64]] shapes
    (fun nss hf => by
      match nss, hf with
      | [[a], [b]], hf =>
        exact (args a b).symm ▸ law a b hf.1.1 hf.2.1.1) W vals ha
theorem own : ownKnob Try.prog.godebug = none := by kernel_rfl
theorem lifted {H : Type} (os : Os) (started : os.Started) (enc : TypeId × Value → H) : ReturnsInHanded {} Try.checked os 18 .any (Rows.stampReadsSpec.pre6 enc Try.prog Try.f18 Rows.stampReadsRow.domain false) (Rows.stampReadsSpec.post enc Try.prog Try.f18 false true false false) :=
  law_lifted own started (by kernel_rfl) (by kernel_rfl)
    (ChangeSpec.witness6 (enc := enc) (C := Try.checked) false ⟨#[], #[.int .u64 0, .int .i64 0], []⟩ 8 (by kernel_rfl) (by kernel_rfl) (by kernel_rfl) (by kernel_rfl))
    (tb := 4) (by kernel_rfl) (by kernel_rfl) rfl
    (fun ds hd => by
      match ds, hd with
      | [_, _], _ => exact ⟨rfl, rfl, rfl⟩)
    (by kernel_rfl) (by kernel_rfl) (fun W vals ha => core W vals (hts ▸ ha))
theorem proved : Rows.StampReadsSaid :=
  OpenClaim.holds_of_wide 18 Try.f18 rfl rfl rfl rfl rfl rfl rfl ⟨rfl, rfl, rfl, rfl, rfl⟩ rfl rfl rfl rfl rfl (by kernel_rfl) Try.func18 (by kernel_rfl) (of_decide_eq_true (by kernel_rfl))
    (by unfold Func.isWrapper; first | (rw [if_pos (by decide +kernel)]; kernel_rfl) | (rw [if_neg (by decide +kernel)]; exact ⟨rfl, rfl⟩))
    (fun os started H enc _ => lifted os started enc)
end Go.Proofs.Ytkgfidnpioakfaa.StampReads
