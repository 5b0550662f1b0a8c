/-
  The layer 5 (plan): what each function computes. Printed by gen5r.py. (DROP: what speaks of functions that the seat has not is left out.)
-/
import Derived.Test.YtcolladpdmjloaaEv2r
import Derived.Test.YtcolladpdmjloaaMod5
namespace Go.Proofs.Ytcolladpdmjloaa.Eng
open Go
set_option linter.unusedSimpArgs false
set_option linter.unusedVariables false
section
variable {A : Type} {S : Sys A}
/-- A closed tree, looked at. -/
def Tr.allB : Tr SV → Bool
  | .ok (.s (.one (.bool b))) => b.val
  | .ite c t e => match c with
    | true => t.allB
    | false => e.allB
  | _ => false
theorem all_of_bool {t : Tr SV} (h : t.allB = true) : t.All IsTrue := by
  induction t with
  | ok a =>
    match a, h with
    | .s (.one (.bool b)), h => exact h
  | ite c t e iht ihe => cases c <;> simp_all [Tr.allB, Tr.All]
  | no s => simp [Tr.allB] at h
def Comes (V : SV) (t : Tr SV) : Prop := ∃ v', t.run = some v' ∧ symSV v' = V
theorem Comes.ite {V : SV} {c : Bool} {t e : Tr SV} (h1 : c = true → Comes V t) (h2 : c = false → Comes V e) : Comes V (.ite c t e) := by
  cases c with
  | true => exact h1 rfl
  | false => exact h2 rfl
theorem Comes.ok {V v : SV} (h : symSV v = V) : Comes V (.ok v) := ⟨v, rfl, h⟩
noncomputable abbrev ev8 (A : Type) (f : FuncId) (args : List SV) : Tr SV := (evF Try.prog (I0 A) 8 20 f args [] 0).vmap (·.val)
theorem ok8 {A : Type} {S : Sys A} (f : FuncId) : FunOK S Try.prog f (evF Try.prog (I0 A) 8 20 f) := evF_sound progOK (fun _ _ h => by cases h) 8 20 f
abbrev li (x : Int) : VV := .int .i64 (.lit x)
abbrev noPlan : SV := .t [.agg [li 0, li 0, li 0, li 0, li 0], .one (li 1)]
abbrev w1 (a : Int) : Int := IntKind.i64.wrap (10 + a)
abbrev w2 (a b : Int) : Int := IntKind.i64.wrap (IntKind.i64.wrap (10 + a) + b)
abbrev w3 (a b : Int) : Int := IntKind.i64.wrap ((IntKind.i64.wrap ((IntKind.i64.wrap (w2 a b + 32)) - 1)).tdiv 32 * 32)

theorem ev_RNew (a b : Int) : ev8 A 5 [.v (ii a), .v (ii b)] = .ite (decide (a < 1)) (.ok noPlan) (.ite (decide (a > 64)) (.ok noPlan) (.ite (decide (b < 1)) (.ok noPlan) (.ite (decide (b > 64)) (.ok noPlan) (.ite (decide (0 < w2 a b)) (.ite (decide (32 < w2 a b)) (.ite (decide (64 < w2 a b)) (.ite (decide (96 < w2 a b)) (.ite (decide (128 < w2 a b)) (.ite (decide (160 < w2 a b)) (.ite (decide (192 < w2 a b)) (.ite (decide (224 < w2 a b)) (.no "rounds") (.ok (.t [.agg [ii a, ii b, ii (w1 a), li 224, ii (IntKind.i64.wrap (224 + IntKind.i64.wrap (32 * b)))], .one (li 0)]))) (.ok (.t [.agg [ii a, ii b, ii (w1 a), li 192, ii (IntKind.i64.wrap (192 + IntKind.i64.wrap (32 * b)))], .one (li 0)]))) (.ok (.t [.agg [ii a, ii b, ii (w1 a), li 160, ii (IntKind.i64.wrap (160 + IntKind.i64.wrap (32 * b)))], .one (li 0)]))) (.ok (.t [.agg [ii a, ii b, ii (w1 a), li 128, ii (IntKind.i64.wrap (128 + IntKind.i64.wrap (32 * b)))], .one (li 0)]))) (.ok (.t [.agg [ii a, ii b, ii (w1 a), li 96, ii (IntKind.i64.wrap (96 + IntKind.i64.wrap (32 * b)))], .one (li 0)]))) (.ok (.t [.agg [ii a, ii b, ii (w1 a), li 64, ii (IntKind.i64.wrap (64 + IntKind.i64.wrap (32 * b)))], .one (li 0)]))) (.ok (.t [.agg [ii a, ii b, ii (w1 a), li 32, ii (IntKind.i64.wrap (32 + IntKind.i64.wrap (32 * b)))], .one (li 0)]))) (.ok (.t [.agg [ii a, ii b, ii (w1 a), li 0, ii (IntKind.i64.wrap (0 + IntKind.i64.wrap (32 * b)))], .one (li 0)])))))) := by kernel_rfl
theorem no_plan {a b : Int} (h : ¬ (1 ≤ a ∧ a ≤ 64 ∧ 1 ≤ b ∧ b ≤ 64)) : Comes (.t [.agg [ii (mPTh a b), ii (mPBl a b), ii (mPTab a b), ii (mPHeap a b), ii (mPSize a b)], .one (ii (mPErr a b))]) (.ok noPlan) := by
  obtain ⟨h1, h2, h3, h4, h5, h6⟩ := plan_not h
  refine Comes.ok ?_
  rw [h1, h2, h3, h4, h5, h6]
  rfl
theorem a_plan {a b x t s : Int} (h : 1 ≤ a ∧ a ≤ 64 ∧ 1 ≤ b ∧ b ≤ 64) (hx : x = (41 + a + b) / 32 * 32) (ht : t = 10 + a) (hs : s = x + 32 * b) : Comes (.t [.agg [ii (mPTh a b), ii (mPBl a b), ii (mPTab a b), ii (mPHeap a b), ii (mPSize a b)], .one (ii (mPErr a b))]) (.ok (.t [.agg [ii a, ii b, ii t, ii x, ii s], .one (li 0)])) := by
  obtain ⟨h1, h2, h3, h4, h5, h6⟩ := plan_fits h
  refine Comes.ok ?_
  rw [h1, h2, h3, h4, h5, h6, hs, ht, hx]
  rfl
theorem a_plan' {a b x t s : Int} (h : 1 ≤ a ∧ a ≤ 64 ∧ 1 ≤ b ∧ b ≤ 64) (hx : x = (41 + a + b) / 32 * 32) (ht : t = 10 + a) (hs : s = x + 32 * b) : Comes (.t [.agg [ii (mPTh a b), ii (mPBl a b), ii (mPTab a b), ii (mPHeap a b), ii (mPSize a b)], .one (ii (mPErr a b))]) (.ok (.t [.agg [ii a, ii b, ii t, li x, ii s], .one (li 0)])) := by
  obtain ⟨h1, h2, h3, h4, h5, h6⟩ := plan_fits h
  refine Comes.ok ?_
  rw [h1, h2, h3, h4, h5, h6, hs, ht, hx]
  rfl
theorem co_RNew (a b : Int) : Comes (.t [.agg [ii (mPTh a b), ii (mPBl a b), ii (mPTab a b), ii (mPHeap a b), ii (mPSize a b)], .one (ii (mPErr a b))]) (ev8 A 5 [.v (ii a), .v (ii b)]) := by
  rw [ev_RNew]
  refine Comes.ite (fun g => no_plan (by have := of_decide_eq_true g; omega)) fun g1 => Comes.ite (fun g => no_plan (by have := of_decide_eq_true g; omega)) fun g2 => Comes.ite (fun g => no_plan (by have := of_decide_eq_true g; omega)) fun g3 => Comes.ite (fun g => no_plan (by have := of_decide_eq_true g; omega)) fun g4 => ?_
  have g1 := of_decide_eq_false g1
  have g2 := of_decide_eq_false g2
  have g3 := of_decide_eq_false g3
  have g4 := of_decide_eq_false g4
  have hab : 1 ≤ a ∧ a ≤ 64 ∧ 1 ≤ b ∧ b ≤ 64 := by omega
  have e1 : w1 a = 10 + a := wrap_i64_of (by omega) (by omega)
  have e2 : w2 a b = 10 + a + b := by
    show IntKind.i64.wrap (w1 a + b) = _
    rw [e1]
    exact wrap_i64_of (by omega) (by omega)
  have e3 : IntKind.i64.wrap (32 * b) = 32 * b := wrap_i64_of (by omega) (by omega)
  rw [e2, e3]
  refine Comes.ite (fun f0 => ?_) (fun f0 => ?_)
  · have f0 := of_decide_eq_true f0
    refine Comes.ite (fun f1 => ?_) (fun f1 => ?_)
    · have f1 := of_decide_eq_true f1
      refine Comes.ite (fun f2 => ?_) (fun f2 => ?_)
      · have f2 := of_decide_eq_true f2
        refine Comes.ite (fun f3 => ?_) (fun f3 => ?_)
        · have f3 := of_decide_eq_true f3
          refine Comes.ite (fun f4 => ?_) (fun f4 => ?_)
          · have f4 := of_decide_eq_true f4
            refine Comes.ite (fun f5 => ?_) (fun f5 => ?_)
            · have f5 := of_decide_eq_true f5
              refine Comes.ite (fun f6 => ?_) (fun f6 => ?_)
              · have f6 := of_decide_eq_true f6
                refine Comes.ite (fun f7 => ?_) (fun f7 => ?_)
                · exact absurd (of_decide_eq_true f7) (by omega)
                · have f7 := of_decide_eq_false f7
                  exact a_plan' hab (by omega) e1 (wrap_i64_of (by omega) (by omega))
              · have f6 := of_decide_eq_false f6
                exact a_plan' hab (by omega) e1 (wrap_i64_of (by omega) (by omega))
            · have f5 := of_decide_eq_false f5
              exact a_plan' hab (by omega) e1 (wrap_i64_of (by omega) (by omega))
          · have f4 := of_decide_eq_false f4
            exact a_plan' hab (by omega) e1 (wrap_i64_of (by omega) (by omega))
        · have f3 := of_decide_eq_false f3
          exact a_plan' hab (by omega) e1 (wrap_i64_of (by omega) (by omega))
      · have f2 := of_decide_eq_false f2
        exact a_plan' hab (by omega) e1 (wrap_i64_of (by omega) (by omega))
    · have f1 := of_decide_eq_false f1
      exact a_plan' hab (by omega) e1 (wrap_i64_of (by omega) (by omega))
  · have f0 := of_decide_eq_false f0
    exact a_plan' hab (by omega) e1 (wrap_i64_of (by omega) (by omega))
def gNew : List SV → Option SV
  | [.s (.one (.int .i64 a)), .s (.one (.int .i64 b))] => some (.t [.agg [.int .i64 (SI.op2 mPTh a b), .int .i64 (SI.op2 mPBl a b), .int .i64 (SI.op2 mPTab a b), .int .i64 (SI.op2 mPHeap a b), .int .i64 (SI.op2 mPSize a b)], .one (.int .i64 (SI.op2 mPErr a b))])
  | _ => none
theorem ok_RNew : FunOK S Try.prog 5 (pureI A gNew) := funOK_many (ok8 _) fun args v vargs ρ hg ha => by
  unfold gNew at hg
  split at hg
  · rename_i a b
    injection hg with hg
    subst hg
    obtain ⟨v', h1, h2⟩ := co_RNew (A := A) a.val b.val
    exact ⟨rfl, _, rfl, v', h1, h2.trans (by simp only [symSV, symS1, symVV, List.map, val_op2])⟩
  · cases hg
def gOne (m : Int → Int) : List SV → Option SV
  | [.s (.one (.int .i64 a))] => some (.v (.int .i64 (SI.op1 m a)))
  | _ => none
theorem one_ok {x y : Int} (h : x = y) : Comes (.v (ii y)) (.ok (.v (li x))) := Comes.ok (by rw [h]; rfl)
theorem one_ok' {x y : Int} (h : x = y) : Comes (.v (ii y)) (.ok (.v (ii x))) := Comes.ok (by rw [h]; rfl)
theorem ev_Words (a : Int) : evp A 35 [.v (ii a)] = (.ite (decide (a ≥ 0)) (.ite (decide (a < 3)) (.ite (a == 2) (.ok (.v (li (16)))) (.ite (a == 1) (.ok (.v (li (8)))) (.ite (a == 0) (.ok (.v (li (4)))) (.no "index")))) (.ok (.v (li (0))))) (.ok (.v (li (0))))) := by kernel_rfl
theorem co_Words (a : Int) : Comes (.v (ii (mWords a))) (evp A 35 [.v (ii a)]) := by
  rw [ev_Words]
  refine Comes.ite (fun g0 => ?_) (fun g0 => ?_)
  · have g0 := of_decide_eq_true g0
    refine Comes.ite (fun g1 => ?_) (fun g1 => ?_)
    · have g1 := of_decide_eq_true g1
      refine Comes.ite (fun g2 => ?_) (fun g2 => ?_)
      · have g2 := eq_of_beq g2
        refine one_ok ?_
        simp only [mWords] at *
        (repeat' split) <;> omega
      · have g2 := ne_of_beq_false g2
        refine Comes.ite (fun g3 => ?_) (fun g3 => ?_)
        · have g3 := eq_of_beq g3
          refine one_ok ?_
          simp only [mWords] at *
          (repeat' split) <;> omega
        · have g3 := ne_of_beq_false g3
          refine Comes.ite (fun g4 => ?_) (fun g4 => ?_)
          · have g4 := eq_of_beq g4
            refine one_ok ?_
            simp only [mWords] at *
            (repeat' split) <;> omega
          · have g4 := ne_of_beq_false g4
            exfalso
            omega
    · have g1 := of_decide_eq_false g1
      refine one_ok ?_
      simp only [mWords] at *
      (repeat' split) <;> omega
  · have g0 := of_decide_eq_false g0
    refine one_ok ?_
    simp only [mWords] at *
    (repeat' split) <;> omega
theorem ok_Words : FunOK S Try.prog 35 (pureI A (gOne mWords)) := funOK_many (ok0 _) fun args v vargs ρ hg ha => by
  unfold gOne at hg
  split at hg
  · rename_i a
    injection hg with hg
    subst hg
    obtain ⟨v', h1, h2⟩ := co_Words (A := A) a.val
    exact ⟨rfl, _, rfl, v', h1, h2.trans (by simp only [symSV, symS1, symVV, val_op1])⟩
  · cases hg
def tab5 : List (Nat × (List SV → Option SV)) := (5, gNew) :: (35, gOne mWords) :: []
theorem tab5_ok : ∀ p ∈ tab5, FunOK S Try.prog p.1 (pureI A p.2) := by
  unfold tab5
  simp only [List.forall_mem_cons]
  exact ⟨ok_RNew, ok_Words, by simp⟩
theorem ok5 (f : FuncId) : FunOK S Try.prog f (evF Try.prog (lookI A tab5) 100 20 f) := evF_sound progOK (lookI_ok tab5_ok) 100 20 f

def gAck : List SV → Option SV
  | [.s (.agg [.int .i64 t, .int .i64 b, .int .i64 u, .int .i64 h, .int .i64 s]), .s (.one (.int .i64 f))] => some (.v (.int .i64 (.sym (W (10 + f.val)))))
  | _ => none
def gEntry : List SV → Option SV
  | [.s (.agg [.int .i64 t, .int .i64 b, .int .i64 u, .int .i64 h, .int .i64 s]), .s (.one (.int .i64 f))] => some (.v (.int .i64 (.sym (W (u.val + f.val)))))
  | _ => none
def gCell : List SV → Option SV
  | [.s (.agg [.int .i64 t, .int .i64 b, .int .i64 u, .int .i64 h, .int .i64 s]), .s (.one (.int .i64 f)), .s (.one (.int .i64 g)), .s (.one (.int .i64 k))] => some (.v (.int .i64 (.sym (W (W (h.val + W (32 * f.val)) + W (k.val * mWords g.val))))))
  | _ => none
def gList : List SV → Option SV
  | [.s (.one (.int .i64 f)), .s (.one (.int .i64 g))] => some (.v (.int .i64 (.sym (W (W (3 + W (3 * f.val)) + g.val)))))
  | _ => none
theorem ok_Entry : FunOK S Try.prog 28 (pureI A gEntry) := funOK_one (ok5 _) fun args v vargs ρ hg ha => by
  unfold gEntry at hg
  split at hg
  · injection hg with hg
    subst hg
    exact ⟨rfl, by kernel_rfl⟩
  · cases hg
theorem ok_REntry : FunOK S Try.prog 15 (pureI A gEntry) := funOK_one (ok5 _) fun args v vargs ρ hg ha => by
  unfold gEntry at hg
  split at hg
  · injection hg with hg
    subst hg
    exact ⟨rfl, by kernel_rfl⟩
  · cases hg
theorem ok_Cell : FunOK S Try.prog 26 (pureI A gCell) := funOK_one (ok5 _) fun args v vargs ρ hg ha => by
  unfold gCell at hg
  split at hg
  · injection hg with hg
    subst hg
    exact ⟨rfl, by kernel_rfl⟩
  · cases hg
theorem ok_List : FunOK S Try.prog 21 (pureI A gList) := funOK_one (ok5 _) fun args v vargs ρ hg ha => by
  unfold gList at hg
  split at hg
  · injection hg with hg
    subst hg
    exact ⟨rfl, by kernel_rfl⟩
  · cases hg
/-- A block's number, of a plan that is one. -/
def planLike (b h s : Int) : Bool := decide (0 ≤ b) && (decide (b ≤ 64) && (decide (0 ≤ h) && (decide (h ≤ 100000) && (s == h + 32 * b))))
theorem planLike_iff {b h s : Int} : planLike b h s = true ↔ 0 ≤ b ∧ b ≤ 64 ∧ 0 ≤ h ∧ h ≤ 100000 ∧ s = h + 32 * b := by
  simp only [planLike, Bool.and_eq_true, decide_eq_true_eq, beq_iff_eq]
def tab5b : List (Nat × (List SV → Option SV)) := (28, gEntry) :: (15, gEntry) :: (26, gCell) :: (21, gList) :: tab5
theorem tab5b_ok : ∀ p ∈ tab5b, FunOK S Try.prog p.1 (pureI A p.2) := by
  unfold tab5b
  simp only [List.forall_mem_cons]
  exact ⟨ok_Entry, ok_REntry, ok_Cell, ok_List, tab5_ok⟩
end
end Go.Proofs.Ytcolladpdmjloaa.Eng
