/-
  What all texts of a seat's functions begin with.
-/
import Derived.Test.YtcolladpdmjloaaProg
import Derived.Test.YtcolladpdmjloaaChecked
import Derived.Test.YtcolladpdmjloaaEngY
import Derived.Test.YtcolladpdmjloaaBits
namespace Go.Proofs.Ytcolladpdmjloaa.Eng
open Go Go.RowKit

theorem progOK : ProgOK Try.prog := by
  refine ⟨fun f fn h => ?_, by kernel_rfl⟩
  have hall : (Try.prog.funcs.toList.all fun fn => !(fn.name == "runtime.NumGoroutine")) = true := by kernel_rfl
  have := List.all_eq_true.1 hall fn (by
    have := Array.mem_of_getElem? h
    simpa using this)
  simpa using this
/-- No functions of our own. -/
abbrev I0 (A : Type) : FuncId → Option (Intr A) := fun _ => none
theorem ok0 {A : Type} {S : Sys A} (f : FuncId) : FunOK S Try.prog f (evF Try.prog (I0 A) 100 20 f) := evF_sound progOK (fun _ _ h => by cases h) 100 20 f
abbrev ii (x : Int) : VV := .int .i64 (.sym x)
abbrev uu (x : Int) : VV := .int .u64 (.sym x)
abbrev W (x : Int) : Int := IntKind.i64.wrap x
/-- The memories of this seat. -/
abbrev MS : Sys MObj := memSys 53 96
theorem call0 : CallOK MS Try.prog (evF Try.prog (I0 MObj) 100 20) := fun f args hp nid r h _ => evF_sound progOK (fun _ _ h => by cases h) 100 20 f args hp nid r h
noncomputable abbrev ev0 (f : FuncId) : Intr MObj := dropI Try.prog (evF Try.prog (I0 MObj) 100 20) f
theorem ev0_ok (f : FuncId) : FunOKz MS Try.prog f (ev0 f) := (funOK_drop call0 f).z
def vh (r : CR MObj) : SV × HP MObj := (r.val, r.hp)
theorem run_vh {t : Tr (CR MObj)} {v : SV} {hp : HP MObj} (h : (t.vmap vh).run = some (v, hp)) : ∃ r, t.run = some r ∧ r.val = v ∧ r.hp = hp := by
  rw [Tr.run_vmap] at h
  obtain ⟨r, h1, h2⟩ := h
  injection h2 with h3 h4
  exact ⟨r, h1, h3, h4⟩
end Go.Proofs.Ytcolladpdmjloaa.Eng
