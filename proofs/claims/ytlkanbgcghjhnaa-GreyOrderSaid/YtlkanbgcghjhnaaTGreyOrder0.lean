/-
  GreyOrder: what its head comes to.
-/
import Derived.Test.YtlkanbgcghjhnaaEvL11
import Derived.Test.YtlkanbgcghjhnaaEvKS
import Derived.Test.YtlkanbgcghjhnaaEngZd
namespace Go.Proofs.Ytlkanbgcghjhnaa.GreyOrder
open Go Go.RowKit Go.Proofs.Ytlkanbgcghjhnaa.Eng
set_option linter.unusedVariables false
set_option linter.unusedSimpArgs false
set_option linter.unusedSectionVars false
set_option maxRecDepth 20000
noncomputable abbrev body : Code := Try.f3.body.get!
theorem kindS_ok : FunOK MS Try.prog 7 (pureT MObj gKindS) := kindS_of (L11.k0 _) (fun c n => by kernel_rfl)
def tabG : List (Nat × Intr MObj) := (5, pureI MObj gTrue) :: (7, pureT MObj gKindS) :: (tabM ++ L11.tab2p)
theorem tabG_ok : ∀ p ∈ tabG, FunOK MS Try.prog p.1 p.2 := tab_cons L11.shown_ok (tab_cons kindS_ok (tab_append tabM_ok L11.tab2p_ok))
noncomputable abbrev ev (c : Code) : St MObj → Tr (VX × St MObj) := evCode Try.prog (evF Try.prog (lookH MObj tabG) 100 19) 100 c
noncomputable abbrev evl (c : List Code) : St MObj → Tr (VX × St MObj) := evList (P := Try.prog) (evF Try.prog (lookH MObj tabG) 100 19) 100 c
noncomputable abbrev nt : Nat := Try.f3.ntmps
noncomputable abbrev at' (p : List Bool) : Code := codeAt body ([true, true, true, true, true, true, false, true, false, false] ++ p)
noncomputable abbrev qt (p : List Bool) : Code := codeAt body ([true, true, true, true, true, true, false, true, false, false, true, false, false] ++ p)
--TACS "simp [*]", "(simp only [okc_iff, inb_iff, decide_eq_true_eq, Bool.and_eq_true, beq_iff_eq, beq_eq_false_iff_ne, ne_eq, decide_eq_false_iff_not, Nat.ble_eq]; omega)", "(simp; omega)"

section
variable (nl : Nat) (ls : List (List Int))
noncomputable abbrev start_t : Tr (Lf MObj) := ((evl (Eng.spine 6 body).1 ⟨[.v (.an 0 (.sym nl))] ++ List.replicate (nt - 1) .undef, [(0, some (.rotab [.int .i64] ls))], 1, []⟩).vmap (leaf 9))
noncomputable abbrev start_l0 : Lf MObj := (Lf.mk (VX.normal) [.s (.one (VV.an 0 (SN.sym nl))), SV.t [], .s (.one (.bool (.lit false))), .s (.one (.bool (.lit true))), .s (.one (.ptr 1 0)), .s (.one (.ptr 2 0)), .s (.one (VV.sl 3 0 0 0)), .s (.one (.ptr 4 0)), SV.t []] 158 [(0, some (VObj.rotab [CK.int IntKind.i64] ls)), (1, some (.abs (.mem 66 [0, 0, 0, 0, 0, 0, 0, 0, 0, 0, 0, 0, 0, 0, 0, 0, 0, 0, 0, 0, 0, 0, 0, 0, 0, 0, 0, 0, 0, 0, 0, 0, 0, 0, 0, 0, 0, 0, 0, 0, 0, 0, 0, 0, 0, 0, 0, 0, 0, 0, 0, 0, 0, 0, 0, 0, 0, 0, 0, 0, 0, 0, 0, 0, 0, 0, 0, 0, 0, 0, 0, 0, 0, 0, 0, 0, 0, 0, 0, 0, 0, 0, 0, 0, 0, 0, 0, 0, 0, 0, 0, 0, 0, 0, 0, 0, 17, 0, 0, 0, 17, 0, 0, 0, 17, 0, 0, 0, 17, 0, 0, 0, 17, 0, 0, 0, 17, 0, 0, 0, 17, 0, 0, 0, 17, 0, 0, 0, 17, 0, 0, 0, 17, 0, 0, 0, 17, 0, 0, 0, 17, 0, 0, 0, 17, 0, 0, 0, 17, 0, 0, 0, 17, 0, 0, 0, 17, 0, 0, 0] 16 0))), (2, some (.abs (.mem 70 [0, 0, 0, 0, 0, 0, 0, 0, 0, 0, 0, 0, 0, 0, 0, 0, 0, 0, 0, 0, 0, 0, 0, 0, 0, 0, 0, 0, 0, 0, 0, 0, 0, 0, 0, 0, 0, 0, 0, 0, 0, 0, 0, 0, 0, 0, 0, 0, 0, 0, 0, 0, 0, 0, 0, 0, 0, 0, 0, 0, 0, 0, 0, 0, 0, 0, 0, 0, 0, 0, 0, 0, 0, 0, 0, 0, 0, 0, 0, 0, 0, 0, 0, 0, 0, 0, 0, 0, 0, 0, 0, 0, 0, 0, 0, 0, 17, 0, 0, 0, 17, 0, 0, 0, 17, 0, 0, 0, 17, 0, 0, 0, 17, 0, 0, 0, 17, 0, 0, 0, 17, 0, 0, 0, 17, 0, 0, 0, 17, 0, 0, 0, 17, 0, 0, 0, 17, 0, 0, 0, 17, 0, 0, 0, 17, 0, 0, 0, 17, 0, 0, 0, 17, 0, 0, 0, 17, 0, 0, 0] 16 0))), (3, some (.cells [] 3)), (4, some (.cells [.bool (.lit false), .bool (.lit false), .bool (.lit false), .bool (.lit false), .bool (.lit false), .bool (.lit false), .bool (.lit false), .bool (.lit false), .bool (.lit false), .bool (.lit false), .bool (.lit false), .bool (.lit false), .bool (.lit false), .bool (.lit false), .bool (.lit false), .bool (.lit false)] 28))] 5 [1, 2, 3, 4])
theorem start_c0 : (start_t nl ls).conds [true, true, true, true, true, true, true, true, true, true, true, true, true, true, true, true, true, true, true, true, true, true, true, true, true, true, true, true, true, true, true, true, true, true, true, true, true, true, true, true, true, true, true, true, true, true, true, true, true, true, true, true, true, true, true, true, true, true, true, true, true, true, true, true, true, true] = [true, true, true, true, true, true, true, true, true, true, true, true, true, true, true, true, true, true, true, true, true, true, true, true, true, true, true, true, true, true, true, true, true, true, true, true, true, true, true, true, true, true, true, true, true, true, true, true, true, true, true, true, true, true, true, true, true, true, true, true, true, true, true, true, true, true] := by kernel_rfl
theorem start_p0 : (start_t nl ls).path [true, true, true, true, true, true, true, true, true, true, true, true, true, true, true, true, true, true, true, true, true, true, true, true, true, true, true, true, true, true, true, true, true, true, true, true, true, true, true, true, true, true, true, true, true, true, true, true, true, true, true, true, true, true, true, true, true, true, true, true, true, true, true, true, true, true] = .ok (start_l0 nl ls) := by kernel_rfl
theorem start (h : 0 ≤ nl) : (start_t nl ls).run = Tr.run (.ok (start_l0 nl ls)) := by
  exact Tr.run_at (start_c0 nl ls) (cons_eq (rfl) (cons_eq (rfl) (cons_eq (rfl) (cons_eq (rfl) (cons_eq (rfl) (cons_eq (rfl) (cons_eq (rfl) (cons_eq (rfl) (cons_eq (rfl) (cons_eq (rfl) (cons_eq (rfl) (cons_eq (rfl) (cons_eq (rfl) (cons_eq (rfl) (cons_eq (rfl) (cons_eq (rfl) (cons_eq (rfl) (cons_eq (rfl) (cons_eq (rfl) (cons_eq (rfl) (cons_eq (rfl) (cons_eq (rfl) (cons_eq (rfl) (cons_eq (rfl) (cons_eq (rfl) (cons_eq (rfl) (cons_eq (rfl) (cons_eq (rfl) (cons_eq (rfl) (cons_eq (rfl) (cons_eq (rfl) (cons_eq (rfl) (cons_eq (rfl) (cons_eq (rfl) (cons_eq (rfl) (cons_eq (rfl) (cons_eq (rfl) (cons_eq (rfl) (cons_eq (rfl) (cons_eq (rfl) (cons_eq (rfl) (cons_eq (rfl) (cons_eq (rfl) (cons_eq (rfl) (cons_eq (rfl) (cons_eq (rfl) (cons_eq (rfl) (cons_eq (rfl) (cons_eq (rfl) (cons_eq (rfl) (cons_eq (rfl) (cons_eq (rfl) (cons_eq (rfl) (cons_eq (rfl) (cons_eq (rfl) (cons_eq (rfl) (cons_eq (rfl) (cons_eq (rfl) (cons_eq (rfl) (cons_eq (rfl) (cons_eq (rfl) (cons_eq (rfl) (cons_eq (rfl) (cons_eq (rfl) (cons_eq (rfl) (cons_eq (rfl) rfl)))))))))))))))))))))))))))))))))))))))))))))))))))))))))))))))))) (start_p0 nl ls)
end
end Go.Proofs.Ytlkanbgcghjhnaa.GreyOrder
