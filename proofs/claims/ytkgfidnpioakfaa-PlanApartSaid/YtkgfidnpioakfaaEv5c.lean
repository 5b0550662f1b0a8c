/-
  The places of the plan, and a table of functions with tests.
-/
import Derived.Test.YtkgfidnpioakfaaEv5b
namespace Go.Proofs.Ytkgfidnpioakfaa.Eng
open Go Go.RowKit
set_option linter.unusedSimpArgs false
set_option linter.unusedVariables false
section
variable {A : Type} {S : Eng.Sys A}
theorem funOK_optT {P : Program} {f : FuncId} {g : List SV → Option SV} (h : FunOK S P f (pureI A g)) : FunOK S P f (pureT A fun a => match g a with | some v => .ok v | none => .no "no such arguments") := by
  intro args hp nid r hrun
  refine h args hp nid r ?_
  unfold pureT at hrun
  unfold pureI
  split at hrun
  · rename_i hp'
    rw [hp']
    simp only
    rw [Tr.run_bind] at hrun
    obtain ⟨v, hv, hrun⟩ := hrun
    simp only at hv
    cases hg : g args with
    | none => rw [hg] at hv; cases hv
    | some u =>
      rw [hg, Tr.run_ok] at hv
      subst hv
      exact hrun
  · cases hrun
def lookT (A : Type) : List (Nat × (List SV → Tr SV)) → FuncId → Option (Intr A)
  | [], _ => none
  | p :: l, f => match Nat.beq p.1 f with
    | true => some (pureT A p.2)
    | false => lookT A l f
theorem lookT_ok {l : List (Nat × (List SV → Tr SV))} (h : ∀ p ∈ l, FunOK S Try.prog p.1 (pureT A p.2)) : ∀ f i, lookT A l f = some i → FunOK S Try.prog f i := by
  induction l with
  | nil => intro f i h; cases h
  | cons p l ih =>
    intro f i hi
    unfold lookT at hi
    split at hi
    · rename_i hb
      injection hi with hi
      subst hi
      have := Nat.eq_of_beq_eq_true hb
      subst this
      exact h p (List.mem_cons_self ..)
    · exact ih (fun p hp => h p (List.mem_cons_of_mem _ hp)) f i hi
abbrev optT (g : List SV → Option SV) : List SV → Tr SV := fun a => match g a with | some v => .ok v | none => .no "no such arguments"
theorem ok5 (f : FuncId) : FunOK S Try.prog f (evF Try.prog (lookI A tab5) 100 20 f) := evF_sound progOK (lookI_ok tab5_ok) 100 20 f
abbrev W (x : Int) : Int := IntKind.i64.wrap x
def gAck : List SV → Option SV
  | [.s (.agg [.int .i64 t, .int .i64 b, .int .i64 u, .int .i64 h, .int .i64 s]), .s (.one (.int .i64 f))] => some (.v (.int .i64 (.sym (W (10 + f.val)))))
  | _ => none
def gEntry : List SV → Option SV
  | [.s (.agg [.int .i64 t, .int .i64 b, .int .i64 u, .int .i64 h, .int .i64 s]), .s (.one (.int .i64 f))] => some (.v (.int .i64 (.sym (W (u.val + f.val)))))
  | _ => none
def gCell : List SV → Option SV
  | [.s (.agg [.int .i64 t, .int .i64 b, .int .i64 u, .int .i64 h, .int .i64 s]), .s (.one (.int .i64 f)), .s (.one (.int .i64 g)), .s (.one (.int .i64 k))] => some (.v (.int .i64 (.sym (W (W (h.val + W (32 * f.val)) + W (k.val * mWords g.val))))))
  | _ => none
def gList : List SV → Option SV
  | [.s (.one (.int .i64 f)), .s (.one (.int .i64 g))] => some (.v (.int .i64 (.sym (W (W (3 + W (3 * f.val)) + g.val)))))
  | _ => none
theorem ok_Ack : FunOK S Try.prog 47 (pureI A gAck) := funOK_one (ok5 _) fun args v vargs ρ hg ha => by
  unfold gAck at hg
  split at hg
  · injection hg with hg
    subst hg
    exact ⟨rfl, by kernel_rfl⟩
  · cases hg
theorem ok_RAck : FunOK S Try.prog 57 (pureI A gAck) := funOK_one (ok5 _) fun args v vargs ρ hg ha => by
  unfold gAck at hg
  split at hg
  · injection hg with hg
    subst hg
    exact ⟨rfl, by kernel_rfl⟩
  · cases hg
theorem ok_Entry : FunOK S Try.prog 48 (pureI A gEntry) := funOK_one (ok5 _) fun args v vargs ρ hg ha => by
  unfold gEntry at hg
  split at hg
  · injection hg with hg
    subst hg
    exact ⟨rfl, by kernel_rfl⟩
  · cases hg
theorem ok_REntry : FunOK S Try.prog 58 (pureI A gEntry) := funOK_one (ok5 _) fun args v vargs ρ hg ha => by
  unfold gEntry at hg
  split at hg
  · injection hg with hg
    subst hg
    exact ⟨rfl, by kernel_rfl⟩
  · cases hg
theorem ok_Cell : FunOK S Try.prog 37 (pureI A gCell) := funOK_one (ok5 _) fun args v vargs ρ hg ha => by
  unfold gCell at hg
  split at hg
  · injection hg with hg
    subst hg
    exact ⟨rfl, by kernel_rfl⟩
  · cases hg
theorem ok_RCell : FunOK S Try.prog 59 (pureI A gCell) := funOK_one (ok5 _) fun args v vargs ρ hg ha => by
  unfold gCell at hg
  split at hg
  · injection hg with hg
    subst hg
    exact ⟨rfl, by kernel_rfl⟩
  · cases hg
theorem ok_List : FunOK S Try.prog 60 (pureI A gList) := funOK_one (ok5 _) fun args v vargs ρ hg ha => by
  unfold gList at hg
  split at hg
  · injection hg with hg
    subst hg
    exact ⟨rfl, by kernel_rfl⟩
  · cases hg
theorem ok_RList : FunOK S Try.prog 61 (pureI A gList) := funOK_one (ok5 _) fun args v vargs ρ hg ha => by
  unfold gList at hg
  split at hg
  · injection hg with hg
    subst hg
    exact ⟨rfl, by kernel_rfl⟩
  · cases hg
/-- A block's number, of a plan that is one. -/
def planLike (b h s : Int) : Bool := decide (0 ≤ b) && (decide (b ≤ 64) && (decide (0 ≤ h) && (decide (h ≤ 100000) && (s == h + 32 * b))))
theorem planLike_iff {b h s : Int} : planLike b h s = true ↔ 0 ≤ b ∧ b ≤ 64 ∧ 0 ≤ h ∧ h ≤ 100000 ∧ s = h + 32 * b := by
  simp only [planLike, Bool.and_eq_true, decide_eq_true_eq, beq_iff_eq]
def gBlk : List SV → Tr SV
  | [.s (.agg [.int .i64 t, .int .i64 b, .int .i64 u, .int .i64 h, .int .i64 s]), .s (.one (.int .i64 a))] => .ite (planLike b.val h.val s.val) (.ok (.v (.int .i64 (.sym (RB.mBlk h.val s.val a.val))))) (.no "no plan")
  | _ => .no "no such arguments"
theorem ok_RBlk : FunOK S Try.prog 56 (pureT A gBlk) := funOK_calls fun args v hv => by
  unfold gBlk at hv
  split at hv
  · rename_i t b u h s a
    rw [Tr.run_ite] at hv
    rcases hv with ⟨hc, hv⟩ | ⟨_, hv⟩
    · rw [Tr.run_ok] at hv
      subst hv
      obtain ⟨h1, h2, h3, h4, h5⟩ := planLike_iff.1 hc
      exact ⟨rfl, RB.calls ⟨h1, h2⟩ ⟨h3, h4⟩ h5⟩
    · cases hv
  · cases hv
theorem ev_Blk (t b u h s a : Int) : (evF Try.prog (lookI A tab5) 100 20 36 [.s (.agg [ii t, ii b, ii u, ii h, ii s]), .v (ii a)] [] 0).vmap (·.val) =
    .ite (decide (a < h)) (.ok (.v (li (-1)))) (.ite (decide (a ≥ s)) (.ok (.v (li (-1)))) (.ok (.v (ii (W ((W (a - h)).tdiv 32)))))) := by kernel_rfl
theorem co_Blk {t b u h s a : Int} (hb1 : 0 ≤ b ∧ b ≤ 64) (hh : 0 ≤ h ∧ h ≤ 100000) (hs : s = h + 32 * b) : Comes (.v (ii (RB.mBlk h s a))) ((evF Try.prog (lookI A tab5) 100 20 36 [.s (.agg [ii t, ii b, ii u, ii h, ii s]), .v (ii a)] [] 0).vmap (·.val)) := by
  rw [ev_Blk]
  refine Comes.ite (fun g => one_ok ?_) fun g => Comes.ite (fun g1 => one_ok ?_) fun g1 => one_ok' ?_
  · have g := of_decide_eq_true g
    unfold RB.mBlk
    rw [if_pos (by omega)]
  · have g1 := of_decide_eq_true g1
    unfold RB.mBlk
    rw [if_pos (by omega)]
  · have g := of_decide_eq_false g
    have g1 := of_decide_eq_false g1
    unfold RB.mBlk
    have e1 : W (a - h) = a - h := wrap_i64_of (by omega) (by omega)
    rw [if_neg (by omega), e1, Int.tdiv_eq_ediv_of_nonneg (by omega)]
    exact wrap_i64_of (by omega) (by omega)
theorem ok_Blk : FunOK S Try.prog 36 (pureT A gBlk) := funOK_pureT (ok5 _) fun args v vargs ρ hv ha => by
  unfold gBlk at hv
  split at hv
  · rename_i t b u h s a
    rw [Tr.run_ite] at hv
    rcases hv with ⟨hc, hv⟩ | ⟨_, hv⟩
    · rw [Tr.run_ok] at hv
      subst hv
      obtain ⟨h1, h2, h3, h4, h5⟩ := planLike_iff.1 hc
      obtain ⟨v', h6, h7⟩ := co_Blk (A := A) (t := t.val) (u := u.val) (a := a.val) ⟨h1, h2⟩ ⟨h3, h4⟩ h5
      rw [Tr.run_vmap] at h6
      obtain ⟨r, hr, rfl⟩ := h6
      exact ⟨rfl, r, hr, h7⟩
    · cases hv
  · cases hv
def tab5t : List (Nat × (List SV → Tr SV)) := [(36, gBlk), (56, gBlk), (47, optT gAck), (57, optT gAck), (48, optT gEntry), (58, optT gEntry),
  (37, optT gCell), (59, optT gCell), (60, optT gList), (61, optT gList), (34, optT gNew), (49, optT (gOne mCells)), (50, optT (gOne mWords)), (33, optT gTrue)]
theorem tab5t_ok : ∀ p ∈ tab5t, FunOK S Try.prog p.1 (pureT A p.2) := by
  unfold tab5t
  simp only [List.forall_mem_cons]
  exact ⟨ok_Blk, ok_RBlk, funOK_optT ok_Ack, funOK_optT ok_RAck, funOK_optT ok_Entry, funOK_optT ok_REntry, funOK_optT ok_Cell, funOK_optT ok_RCell, funOK_optT ok_List, funOK_optT ok_RList, funOK_optT ok_New, funOK_optT ok_Cells, funOK_optT ok_Words, funOK_optT ok_shown5, by simp⟩
end
end Go.Proofs.Ytkgfidnpioakfaa.Eng
