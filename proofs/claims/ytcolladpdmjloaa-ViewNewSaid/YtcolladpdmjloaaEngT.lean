/-
  The engine, part T: functions by the logic.
-/
import Derived.Test.YtcolladpdmjloaaEngS
namespace Go.Proofs.Ytcolladpdmjloaa.Eng
open Go Go.RowKit

section
variable {A : Type} {S : Sys A} {P : Program}
/-- A function that is entered with nothing but numbers. -/
def lawCtx (A : Type) (N : Nat) (w : World) : Ctx A where
  B := w.heap.size
  Z0 := fun _ => True
  nid0 := 0
  top := N
  ρ0 := fun _ => none
  F0 := fun _ _ => False
  w0 := w
  D := fun _ => True
  own := fun _ _ _ => ⟨trivial, trivial⟩
  new := fun _ _ => rfl
theorem calls_of_tri {f : FuncId} {fn : Func} {c : Code} (hf : P.funcs[f]? = some fn) (hb : fn.body = some c) (N : Nat) {args : List SV} {vargs : List Value} {w : World} {R : SV → Prop}
    (h : Tri S P (lawCtx A N w) c ⟨args ++ List.replicate (fn.ntmps - args.length) .undef, [], 0, []⟩ fun x st => (x = .normal ∨ x = .ret) ∧ ∃ l, (vresults P st fn.results.toList).run = some l ∧ R (tupleOf l))
    (hargs : F2 (RS fun _ => none) args vargs) :
    Calls P f vargs.toArray w fun e w' => ∃ v x ρ, e = .returned v ∧ RS ρ x v ∧ R x ∧ Below w.heap.size w w' := by
  refine calls_of_wp hf hb ?_
  have hlen : args.length = vargs.length := hargs.length
  have hhr : HR S w.heap.size (fun _ => True) (fun _ => none) (fun _ _ => False) (hget ([] : HP A)) w :=
    ⟨fun b o ho => by simp [hget] at ho, fun _ _ _ h => h, fun _ _ h => h.elim, fun _ _ _ h => h.elim, fun _ _ => rfl, Nat.le_refl _⟩
  have hz : Zm (fun _ => True) 0 0 = fun _ => True := Zm_self _ _
  have hat : At S (lawCtx A N w) ⟨args ++ List.replicate (fn.ntmps - args.length) .undef, [], 0, []⟩ ⟨vargs.toArray ++ Array.replicate (fn.ntmps - vargs.toArray.size) undef, []⟩ w := by
    refine ⟨Nat.le_refl _, Nat.zero_le _, fun _ => none, fun _ _ => False, ⟨rfl, fun t => ?_⟩, by rw [show (lawCtx A N w).Z0 = fun _ => True from rfl, show (lawCtx A N w).nid0 = 0 from rfl, hz]; exact hhr, Chg.refl _ _ _ _⟩
    have h2 : F2 (RS fun _ => none) (args ++ List.replicate (fn.ntmps - args.length) .undef) (vargs ++ List.replicate (fn.ntmps - vargs.toArray.size) undef) := by
      rw [show vargs.toArray.size = args.length by simp [hlen]]
      exact hargs.append (F2.replicate _ (RS_undef _))
    have h3 : (vargs.toArray ++ Array.replicate (fn.ntmps - vargs.toArray.size) undef)[t]? = (vargs ++ List.replicate (fn.ntmps - vargs.toArray.size) undef)[t]? := by
      rw [← Array.getElem?_toList]
      simp
    show RT _ (args ++ List.replicate (fn.ntmps - args.length) SV.undef)[t]? (vargs.toArray ++ Array.replicate (fn.ntmps - vargs.toArray.size) undef)[t]?
    rw [h3]
    cases hg : (args ++ List.replicate (fn.ntmps - args.length) SV.undef)[t]? with
    | none => rw [h2.getNone t hg]; trivial
    | some v =>
      obtain ⟨u, hu, huv⟩ := h2.get t hg
      rw [hu]
      exact huv
  refine wp_mono (h _ _ hat) ?_
  rintro e a' w' ⟨x, st, rfl, ⟨hx, l, hl, hR⟩, h0, h1, ρ, F, ha, hr, hc⟩
  obtain ⟨vs, hvs, hrs⟩ := vresults_sound ha hr hl
  have hq := results_run hvs
  have : bodyPost P fn (fun e w' => ∃ v x ρ, e = .returned v ∧ RS ρ x v ∧ R x ∧ Below w.heap.size w w') .normal a' w' :=
    ⟨ha.defers, _, hq, _, _, ρ, rfl, tupleOf_RS hrs, hR, ⟨hc.same.os, hc.same.tape, hc.same.output, hc.same.size, fun k hk => hc.heap k hk fun _ _ h => h⟩⟩
  rcases hx with rfl | rfl <;> exact this

/-- What a function of numbers comes to. -/
def PureCalls (P : Program) (f : FuncId) (args : List SV) (v : SV) : Prop :=
  ∀ (w : World) (vargs : List Value), F2 (RS fun _ => none) args vargs → Calls P f vargs.toArray w fun e w' => ∃ x ρ, e = .returned x ∧ RS ρ v x ∧ Below w.heap.size w w'
theorem funOK_calls {f : FuncId} {g : List SV → Tr SV} (h : ∀ args v, (g args).run = some v → plainSV v = true ∧ PureCalls P f (args.map symSV) (symSV v)) : FunOK S P f (pureT A g) := by
  intro args hp nid r hrun B Z ρ F w vargs hhr hz hargs
  unfold pureT at hrun
  split at hrun
  · rename_i hplain
    rw [Tr.run_bind] at hrun
    obtain ⟨v, hv, hrun⟩ := hrun
    rw [Tr.run_ok] at hrun
    subst hrun
    obtain ⟨hpv, hc⟩ := h args v hv
    have ha : F2 (RS fun _ => none) (args.map symSV) vargs := (F2_map fun _ _ => RS_sym).2 (F2.all_any (fun _ _ => plainSV_any) hplain hargs)
    refine (hc w vargs ha).mono ?_
    rintro e w' ⟨x, ρ1, rfl, hx, hb⟩
    have hc' : Chg (fun _ => False) ρ F w ρ F w' := ⟨Rho.le_refl ρ, fun _ _ => rfl, fun _ _ h _ => h.elim, ⟨hb.os, hb.tape, hb.output, hb.size⟩, fun k hk _ => hb.block k hk⟩
    refine ⟨x, ρ, F, rfl, plainSV_any hpv (RS_sym.1 hx), ?_, hc'.mono fun _ h => h.elim⟩
    rw [Zm_self]
    exact hhr.step hc' (fun _ _ => rfl) (fun _ _ h => h.elim) (fun _ h => h.elim) (fun _ _ h => h.elim) (fun _ _ _ h => h.elim) hhr.fresh
  · simp [Tr.run] at hrun
end
end Go.Proofs.Ytcolladpdmjloaa.Eng
