/-
  The engine, part I: an operation in its place; operations in the text's order; operations in whatever order.
-/
import Derived.Test.YtlkanbgcghjhnaaEngH
namespace Go.Proofs.Ytlkanbgcghjhnaa.Eng
open Go

section
variable {A : Type} {S : Sys A} {P : Program} {B : Nat}

/-! ### Frames -/
def RT (ρ : Rho) : Option SV → Option Value → Prop
  | some v, some x => RS ρ v x
  | none, none => True
  | _, _ => False
structure RA (ρ : Rho) (T : Nat → Option SV) (a : Act) : Prop where
  defers : a.defers = []
  tmps : ∀ t, RT ρ (T t) a.tmps[t]?
def setT (T : Nat → Option SV) (d : Option Nat) (v : SV) : Nat → Option SV := fun t => if d = some t then some v else T t

theorem RT.mono {ρ ρ' : Rho} (h : ρ.le ρ') : ∀ {x : Option SV} {y : Option Value}, RT ρ x y → RT ρ' x y
  | some _, some _, hr => RS.mono h hr
  | none, none, _ => trivial
  | some _, none, hr => hr.elim
  | none, some _, hr => hr.elim
theorem RA.put {ρ ρ' : Rho} {T : Nat → Option SV} {a : Act} {d : Option Nat} {v : SV} {x : Value} (h : RA ρ T a) (hr : ρ.le ρ') (hd : ∀ t, d = some t → (T t).isSome = true) (hv : RS ρ' v x) :
    RA ρ' (setT T d v) (a.put d x) := by
  cases d with
  | none => exact ⟨h.defers, fun t => by simpa [setT, Act.put] using (h.tmps t).mono hr⟩
  | some d =>
    refine ⟨h.defers, fun t => ?_⟩
    have h1 := h.tmps d
    have h2 := hd d rfl
    have hlt : d < a.tmps.size := by
      rcases Nat.lt_or_ge d a.tmps.size with h3 | h3
      · exact h3
      · rw [Array.getElem?_eq_none h3] at h1
        cases hT : T d with
        | none => simp [hT] at h2
        | some _ => rw [hT] at h1; exact h1.elim
    simp only [setT, Act.put, Option.some.injEq]
    rw [Array.getElem?_setIfInBounds]
    by_cases hdt : d = t
    · subst hdt
      simp only [if_true]
      rw [if_pos hlt]
      exact hv
    · rw [if_neg hdt, if_neg hdt]
      exact (h.tmps t).mono hr
theorem RA.eval_tmp {ρ : Rho} {T : Nat → Option SV} {a : Act} (h : RA ρ T a) (t : Nat) : RS ρ ((T t).getD .undef) (a.tmps.getD t undef) := by
  have := h.tmps t
  rw [Array.getD_eq_getD_getElem?]
  cases hT : T t with
  | none =>
    rw [hT] at this
    cases ha : a.tmps[t]? with
    | none => exact RS_undef ρ
    | some _ => rw [ha] at this; exact this.elim
  | some v =>
    rw [hT] at this
    cases ha : a.tmps[t]? with
    | none => rw [ha] at this; exact this.elim
    | some _ => rw [ha] at this; exact this

theorem evalT_sound {ρ : Rho} {T : Nat → Option SV} {a : Act} {tm : List SV} (h : RA ρ T a) {x : Operand} (hx : okOperand x = true) (ht : ∀ t, x = .tmp t → T t = tm[t]?) :
    RS ρ (evalT tm x) (a.eval x) := by
  cases x with
  | tmp t =>
    have := h.eval_tmp t
    rw [ht t rfl] at this
    unfold evalT Act.eval
    simp only [nth_eq]
    cases hm : tm[t]? with
    | none => simpa [hm] using this
    | some v => simpa [hm] using this
  | const v =>
    unfold evalT Act.eval
    unfold okOperand at hx
    cases hv : ofVal v with
    | none => simp [hv] at hx
    | some y =>
      simp only [hv]
      exact ofVal_RV hv ρ
  | global g => simp [okOperand] at hx
  | func f => exact ⟨[], [], trivial, trivial, rfl⟩

theorem lands_upon {o : Oper} {a : Act} {K : Act → World → Prop} {Q : Exit → Act → World → Prop} {r : Result Next} {J : Value → World → Prop} (hl : Lands P r J)
    (hK : ∀ v w', J v w' → K (a.put o.dst v) w') : o.upon P a K Q r := by
  unfold Lands at hl
  split at hl
  · exact hK _ _ hl
  · exact hK _ _ hl
  · refine Calls.mono hl fun e w'' ⟨v, he, hk⟩ => ?_
    subst he
    exact hK _ _ hk
  · exact hl.elim

theorem litVal_sound {ops : Array Oper} {i : Nat} {e e' : Eff A} (h : (litVal ops i e).run = some e') :
    e'.rd = e.rd ∧ e'.asg = e.asg ∧ e'.nid = e.nid ∧ ∀ ρ v, RS ρ e.val v → RS ρ e'.val v := by
  unfold litVal at h
  split at h
  · rename_i c hc
    split at h
    · rw [Tr.run_ite, Tr.run_ok, Tr.run_ok] at h
      rcases h with ⟨h1, rfl⟩ | ⟨h1, rfl⟩
      · refine ⟨rfl, rfl, rfl, fun ρ v hv => ?_⟩
        rw [hc] at hv
        subst h1
        exact hv
      · refine ⟨rfl, rfl, rfl, fun ρ v hv => ?_⟩
        rw [hc] at hv
        subst h1
        exact hv
    · rw [Tr.run_ok] at h; subst h; exact ⟨rfl, rfl, rfl, fun _ _ h => h⟩
  · rw [Tr.run_ok] at h; subst h; exact ⟨rfl, rfl, rfl, fun _ _ h => h⟩

theorem evOp_sound {call : FuncId → List SV → HP A → Nat → Tr (CR A)} (hcall : CallOK S P call)
    (hnames : ∀ (f : FuncId) fn, P.funcs[f]? = some fn → (fn.name == "runtime.NumGoroutine") = false)
    {ops : Array Oper} {i : Nat} {o : Oper} {st : St A} {e : Eff A} (hi : ops[i]? = some o) (hrun : (evOp P call ops i o st).run = some e)
    {T : Nat → Option SV} {H : Nat → Option (VObj A)} (hT : ∀ t, 2 * t ∈ opReads ops o ∨ o.dst = some t → T t = st.tm[t]?)
    (hH : ∀ b, b ∈ e.rd ∨ b ∈ e.asg.map (·.1) → H b = hget st.hp b) {Z : Nat → Prop} {ρ : Rho} {F : Fm} {a : Act} {w : World}
    (ha : RA ρ T a) (h : HR S B Z ρ F H w) (hz : ∀ b, st.nid ≤ b → b < e.nid → Z b) {Q : Exit → Act → World → Prop} {K : Act → World → Prop}
    (hK : ∀ a' w' ρ' F', RA ρ' (setT T o.dst e.val) a' → HR S B (Zm Z st.nid e.nid) ρ' F' (over H e.asg) w' → Chg (fun b => b ∈ e.asg.map (·.1)) ρ F w ρ' F' w' → K a' w') :
    wpOp P ops Q i K a w := by
  unfold evOp at hrun
  rw [Tr.run_chk, Bool.and_eq_true] at hrun
  obtain ⟨⟨hop, hd⟩, hrun⟩ := hrun
  have hdst : ∀ t, o.dst = some t → (T t).isSome = true := fun t ht => by
    rw [hT t (.inr ht)]
    rw [ht] at hd
    rw [← nth_eq]
    exact hd
  have hguard : ∀ j want t, o.guard = some (j, want) → ((ops[j]?).bind (·.dst)) = some t → T t = st.tm[t]? := fun j want t hg ht => by
    refine hT t (.inl ?_)
    simp [opReads, guardDst, hg, ht]
  unfold wpOp
  simp only [hi]
  split at hrun
  · rename_i hw
    have hwant : Region.wanted o (yielded ops a.tmps) = true := by
      unfold vwanted at hw
      have hnth : (nth st.tm) = fun t => st.tm[t]? := funext (nth_eq st.tm)
      rw [hnth] at hw
      unfold Region.wanted
      cases hg : o.guard with
      | none => rfl
      | some jw =>
        obtain ⟨j, want⟩ := jw
        simp only [hg] at hw
        unfold yielded
        cases hjd : (ops[j]?).bind (·.dst) with
        | none => simp [hjd] at hw
        | some t =>
          simp only [hjd, Option.bind_some] at hw ⊢
          rw [← hguard j want t hg hjd] at hw
          have := ha.tmps t
          split at hw
          · rename_i b hb
            rw [hb] at this
            cases hat : a.tmps[t]? with
            | none => rw [hat] at this; exact this.elim
            | some x =>
              rw [hat] at this
              obtain rfl : x = .bool b := this
              simp at hw
              simp [hw]
          · cases hw
          · cases hw
          · cases hw
    rw [Tr.run_bind] at hrun
    obtain ⟨e0, he0, hrun⟩ := hrun
    rw [Tr.run_chk] at hrun
    obtain ⟨hn, hl⟩ := hrun
    obtain ⟨l1, l2, l3, l4⟩ := litVal_sound hl
    rw [if_pos hwant]
    refine .inl ?_
    have hops : ∀ x ∈ o.op.operands.toList, RS ρ (evalT st.tm x) (a.eval x) := fun x hx => by
      refine evalT_sound ha (List.all_eq_true.1 hop x hx) fun t ht => hT t (.inl ?_)
      subst ht
      simp only [opReads, List.mem_append, List.mem_filterMap]
      exact .inl ⟨.tmp t, hx, rfl⟩
    obtain ⟨_, hlands⟩ := vop_sound hcall hnames he0 hops h (fun b hb => hH b (by rw [l1, l2]; exact hb)) (fun b h1 h2 => hz b h1 (by rw [l3]; exact h2))
    refine lands_upon hlands fun v w' hdone => ?_
    obtain ⟨ρ', F', hv, hhr, hc⟩ := hdone
    refine hK _ w' ρ' F' (ha.put hc.rho hdst (l4 _ _ hv)) ?_ ?_
    · rw [l2, l3]; exact hhr
    · rw [l2]; exact hc
  · rename_i hw
    rw [Tr.run_ok] at hrun
    subst hrun
    have hwant : Region.wanted o (yielded ops a.tmps) = false := by
      unfold vwanted at hw
      have hnth : (nth st.tm) = fun t => st.tm[t]? := funext (nth_eq st.tm)
      rw [hnth] at hw
      unfold Region.wanted
      cases hg : o.guard with
      | none => simp [hg] at hw
      | some jw =>
        obtain ⟨j, want⟩ := jw
        simp only [hg] at hw
        unfold yielded
        cases hjd : (ops[j]?).bind (·.dst) with
        | none => simp [hjd]
        | some t =>
          simp only [hjd, Option.bind_some] at hw ⊢
          rw [← hguard j want t hg hjd] at hw
          have := ha.tmps t
          split at hw
          · rename_i b hb
            rw [hb] at this
            cases hat : a.tmps[t]? with
            | none => rw [hat] at this; exact this.elim
            | some x =>
              rw [hat] at this
              obtain rfl : x = .bool b := this
              simp at hw
              simpa using hw
          · cases hw
          · cases hw
          · rename_i hb1 hb2 hb3
            cases hat : a.tmps[t]? with
            | none => rfl
            | some x =>
              cases x with
              | bool b =>
                rw [hat] at this
                cases hTt : T t with
                | none => rw [hTt] at this; exact this.elim
                | some sv =>
                  rw [hTt] at this hb1 hb2 hb3
                  exfalso
                  cases sv with
                  | t l => obtain ⟨vs, hvs, _⟩ := this; cases hvs
                  | s x1 =>
                    cases x1 with
                    | agg l => obtain ⟨vs, hvs, _⟩ := this; cases hvs
                    | one v1 =>
                      cases v1 <;> first
                        | (rename_i sb; cases sb with
                           | lit b' => exact hb1 b' rfl
                           | sym b' => exact hb2 b' rfl)
                        | (exact hb3 _ rfl)
                        | (obtain ⟨hx, _⟩ := this; cases hx; done)
                        | (obtain ⟨_, _, hx⟩ := this; cases hx; done)
                        | (obtain ⟨_, _, hx, _⟩ := this; cases hx; done)
                        | (obtain ⟨_, _, _, hx⟩ := this; cases hx; done)
                        | (obtain ⟨_, _, _, _, hx⟩ := this; cases hx; done)
                        | (cases this; done)
              | _ => rfl
    rw [if_neg (by rw [hwant]; simp)]
    refine hK _ w ρ F (ha.put (Rho.le_refl ρ) hdst (RS_undef ρ)) ?_ (Chg.refl _ _ _ _)
    rw [Zm_self]
    exact h
  · simp [Tr.run] at hrun
end
end Go.Proofs.Ytlkanbgcghjhnaa.Eng
