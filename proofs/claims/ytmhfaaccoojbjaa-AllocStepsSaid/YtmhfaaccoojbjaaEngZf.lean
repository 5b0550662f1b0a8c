/-
  The engine, part Zf: a function that is evaluated as a whole, with slices among its arguments.
-/
import Derived.Test.YtmhfaaccoojbjaaEvK
import Derived.Test.YtmhfaaccoojbjaaEngZ
namespace Go.Proofs.Ytmhfaaccoojbjaa.Eng
open Go Go.RowKit
section
variable {A : Type} {S : Sys A} {P : Program}
theorem calls_of_evA (hP : ProgOK P) {I : FuncId → Option (Intr A)} (hI : ∀ f i, I f = some i → FunOK S P f i) (rounds d : Nat) {f : FuncId} {args : List SV} {vargs : List Value} {w : World} {hp : HP A} {ρ0 : Rho} (m : Nat) (hρ : ∀ b, m ≤ b → ρ0 b = none)
    (hlive : ∀ b o, hget hp b = some o → OK S w.heap.size ρ0 (fun _ => False) b o w)
    (h : Holds ((evF P I rounds d f args hp m).vmap (·.val))) (hargs : F2 (RS ρ0) args vargs) :
    Calls P f vargs.toArray w fun e w' => ∃ v, e = .returned v ∧ v = .bool true ∧ Below w.heap.size w w' := by
  obtain ⟨r, hr, hq⟩ := Tr.all_iff.1 (Tr.all_vmap.1 h.all)
  have hhr : HR S w.heap.size (fun b => m ≤ b) ρ0 (fun _ _ => False) (hget hp) w :=
    ⟨hlive, fun _ _ _ h => h, fun _ _ h => h.elim, fun _ _ _ h => h.elim, hρ, Nat.le_refl _⟩
  refine (evF_sound hP hI rounds d f args hp m r hr w.heap.size _ _ _ w vargs hhr (fun _ h _ => h) hargs).mono ?_
  rintro e w' ⟨v, ρ', F', he, hv, _, hc⟩
  exact ⟨v, he, hq.value hv, ⟨hc.same.os, hc.same.tape, hc.same.output, hc.same.size, fun k hk => hc.heap k hk fun _ _ h => h⟩⟩
end
end Go.Proofs.Ytmhfaaccoojbjaa.Eng
