/-
  The engine, part L: code, functions, and what is had of it.
-/
import Derived.Test.YtlkanbgcghjhnaaEngK
import Derived.Below
namespace Go.Proofs.Ytlkanbgcghjhnaa.Eng
open Go

section
variable {A : Type} {S : Sys A} {P : Program} {B : Nat}

def VX.real : VX → Exit
  | .normal => .normal
  | .exit id => .exit id
  | .ret => .ret

/-- What is asked of a program. -/
structure ProgOK (P : Program) : Prop where
  names : ∀ (f : FuncId) fn, P.funcs[f]? = some fn → (fn.name == "runtime.NumGoroutine") = false
  mixed : P.follows .mixedOrders = true

/-- From one state of the virtual machine to another: a piece of code leads there. -/
def Leads (S : Sys A) (B : Nat) (st st' : St A) (Z : Nat → Prop) (ρ : Rho) (F : Fm) (w : World) (K : Act → World → Prop) : Prop :=
  ∀ a' w' ρ' F', RA ρ' (fun t => st'.tm[t]?) a' → HR S B (Zm Z st.nid st'.nid) ρ' F' (hget st'.hp) w' → Chg (fun b => b ∈ st'.dirty) ρ F w ρ' F' w' → K a' w'

structure Later (st st' : St A) : Prop where
  nid : st.nid ≤ st'.nid
  dirty : ∀ b, b ∈ st.dirty → b ∈ st'.dirty
theorem Later.refl (st : St A) : Later st st := ⟨Nat.le_refl _, fun _ h => h⟩
theorem Later.trans {a b c : St A} (h : Later a b) (k : Later b c) : Later a c := ⟨Nat.le_trans h.nid k.nid, fun x hx => k.dirty x (h.dirty x hx)⟩

theorem Leads.next {st s st' : St A} {Z : Nat → Prop} {ρ ρ' : Rho} {F F' : Fm} {w w' : World} {K : Act → World → Prop} (h1 : Later st s) (h2 : Later s st')
    (hc : Chg (fun b => b ∈ s.dirty) ρ F w ρ' F' w') (h : Leads S B st st' Z ρ F w K) : Leads S B s st' (Zm Z st.nid s.nid) ρ' F' w' K :=
  fun a'' w'' ρ'' F'' ha hr hcc => h a'' w'' ρ'' F'' ha (by rw [← Zm_trans Z h1.nid h2.nid]; exact hr) ((hc.mono h2.dirty).trans hcc)

/-- What a piece of code does, by its evaluation. -/
def CodeOK (S : Sys A) (P : Program) (c : Code) (ev : St A → Tr (VX × St A)) : Prop :=
  ∀ st x st', (ev st).run = some (x, st') → Later st st' ∧
    ∀ B Z ρ F a w, RA ρ (fun t => st.tm[t]?) a → HR S B Z ρ F (hget st.hp) w → (∀ b, st.nid ≤ b → b < st'.nid → Z b) →
      ∀ Q, Leads S B st st' Z ρ F w (Q x.real) → c.wp P Q a w

theorem iter_later {f : St A → Tr (VX × St A)} (hf : ∀ st x st', (f st).run = some (x, st') → Later st st') : ∀ {n : Nat} {st : St A} {x : VX} {st' : St A}, (iter f n st).run = some (x, st') → Later st st'
  | 0, _, _, _, h => by simp [iter, Tr.run] at h
  | n + 1, st, x, st', h => by
    rw [iter, Tr.run_bind] at h
    obtain ⟨⟨y, s⟩, h1, h⟩ := h
    cases y with
    | normal => exact (hf _ _ _ h1).trans (iter_later hf h)
    | exit id => simp only [Tr.run_ok] at h; injection h with h2 h3; subst h2 h3; exact hf _ _ _ h1
    | ret => simp only [Tr.run_ok] at h; injection h with h2 h3; subst h2 h3; exact hf _ _ _ h1

/-- A loop whose rounds are evaluated one by one. -/
theorem loop_sound {c : Code} {ev : St A → Tr (VX × St A)} (hc : CodeOK S P c ev) : ∀ {n : Nat} {st : St A} {x : VX} {st' : St A}, (iter ev n st).run = some (x, st') →
    ∀ B Z ρ F a w, RA ρ (fun t => st.tm[t]?) a → HR S B Z ρ F (hget st.hp) w → (∀ b, st.nid ≤ b → b < st'.nid → Z b) →
      ∀ Q, Leads S B st st' Z ρ F w (Q x.real) → (Code.loop c).wp P Q a w := by
  -- rounds are counted down by a ghost: how many are left
  intro n st x st' h B Z ρ F a w ha hr hz Q hl
  let I : Nat → Act → World → Prop := fun m a' w' => ∃ (s : St A) (Z' : Nat → Prop) (ρ' : Rho) (F' : Fm), (iter ev m s).run = some (x, st') ∧ RA ρ' (fun t => s.tm[t]?) a' ∧ HR S B Z' ρ' F' (hget s.hp) w' ∧
    (∀ b, s.nid ≤ b → b < st'.nid → Z' b) ∧ Leads S B s st' Z' ρ' F' w' (Q x.real)
  have hstep : ∀ m a' w', I (m + 1) a' w' → c.wp P (Exit.then (fun a'' w'' => I m a'' w'') Q) a' w' := by
    rintro m a' w' ⟨s, Z', ρ', F', h1, h2, h3, h4, h5⟩
    rw [iter, Tr.run_bind] at h1
    obtain ⟨⟨y, s'⟩, hev, h1⟩ := h1
    obtain ⟨hlt, hwp⟩ := hc _ _ _ hev
    cases y with
    | normal =>
      have hlt' := iter_later (fun st x st' h => (hc st x st' h).1) h1
      refine hwp B Z' ρ' F' a' w' h2 h3 (fun b hb1 hb2 => h4 b hb1 (Nat.lt_of_lt_of_le hb2 hlt'.nid)) _ fun a'' w'' ρ'' F'' ha'' hr'' hc'' => ?_
      exact ⟨s', Zm Z' s.nid s'.nid, ρ'', F'', h1, ha'', hr'', fun b hb1 hb2 => ⟨h4 b (Nat.le_trans hlt.nid hb1) hb2, by omega⟩, h5.next hlt hlt' hc''⟩
    | exit id =>
      simp only [Tr.run_ok] at h1
      injection h1 with e1 e2
      subst e1 e2
      exact hwp B Z' ρ' F' a' w' h2 h3 h4 _ h5
    | ret =>
      simp only [Tr.run_ok] at h1
      injection h1 with e1 e2
      subst e1 e2
      exact hwp B Z' ρ' F' a' w' h2 h3 h4 _ h5
  have hzero : ∀ a' w', ¬I 0 a' w' := by
    rintro a' w' ⟨s, _, _, _, h1, _⟩
    simp [iter, Tr.run] at h1
  -- the least number of rounds is the measure
  have hex : ∀ a' w', (∃ m, I m a' w') → ∃ m, I m a' w' ∧ ∀ k, k < m → ¬I k a' w' := by
    rintro a' w' ⟨m, hm⟩
    induction m using Nat.strongRecOn with
    | _ m ih =>
      by_cases hk : ∃ k, k < m ∧ I k a' w'
      · obtain ⟨k, hk1, hk2⟩ := hk
        exact ih k hk1 hk2
      · exact ⟨m, hm, fun k hk1 hk2 => hk ⟨k, hk1, hk2⟩⟩
  let μ : Act → World → Nat := fun a' w' => open Classical in if h : ∃ m, I m a' w' then Classical.choose (hex a' w' h) else 0
  have hμ : ∀ a' w' m, I m a' w' → I (μ a' w') a' w' ∧ μ a' w' ≤ m := fun a' w' m hm => by
    have hh : ∃ m, I m a' w' := ⟨m, hm⟩
    have hs := Classical.choose_spec (hex a' w' hh)
    have he : μ a' w' = Classical.choose (hex a' w' hh) := by simp only [μ]; rw [dif_pos hh]
    rw [he]
    refine ⟨hs.1, ?_⟩
    rcases Nat.lt_or_ge m (Classical.choose (hex a' w' hh)) with hlt | hge
    · exact absurd hm (hs.2 m hlt)
    · exact hge
  refine wp_loop (fun a' w' => ∃ m, I m a' w') μ ⟨n, st, Z, ρ, F, h, ha, hr, hz, hl⟩ ?_
  rintro a' w' ⟨m, hm⟩
  obtain ⟨h1, _⟩ := hμ a' w' m hm
  cases hk : μ a' w' with
  | zero => rw [hk] at h1; exact absurd h1 (hzero a' w')
  | succ k =>
    rw [hk] at h1
    refine wp_mono (hstep k a' w' h1) fun e a'' w'' he => ?_
    cases e with
    | normal =>
      refine ⟨⟨k, he⟩, ?_⟩
      have := (hμ a'' w'' k he).2
      omega
    | _ => exact he

theorem evCode_sound (hP : ProgOK P) {call : FuncId → List SV → HP A → Nat → Tr (CR A)} (hcall : CallOK S P call) (rounds : Nat) : ∀ c : Code, CodeOK S P c (evCode P call rounds c)
  | .skip => fun st x st' h => by
    simp only [evCode, Tr.run_ok] at h
    injection h with h1 h2
    subst h1 h2
    exact ⟨Later.refl _, fun B Z ρ F a w ha hr _ Q hl => wp_skip (hl a w ρ F ha (by rw [Zm_self]; exact hr) (Chg.refl _ _ _ _))⟩
  | .label _ => fun st x st' h => by
    simp only [evCode, Tr.run_ok] at h
    injection h with h1 h2
    subst h1 h2
    exact ⟨Later.refl _, fun B Z ρ F a w ha hr _ Q hl => wp_label (hl a w ρ F ha (by rw [Zm_self]; exact hr) (Chg.refl _ _ _ _))⟩
  | .exit id => fun st x st' h => by
    simp only [evCode, Tr.run_ok] at h
    injection h with h1 h2
    subst h1 h2
    exact ⟨Later.refl _, fun B Z ρ F a w ha hr _ Q hl => wp_exit (hl a w ρ F ha (by rw [Zm_self]; exact hr) (Chg.refl _ _ _ _))⟩
  | .ret => fun st x st' h => by
    simp only [evCode, Tr.run_ok] at h
    injection h with h1 h2
    subst h1 h2
    exact ⟨Later.refl _, fun B Z ρ F a w ha hr _ Q hl => wp_ret (hl a w ρ F ha (by rw [Zm_self]; exact hr) (Chg.refl _ _ _ _))⟩
  | .region id ops draw => fun st x st' h => by
    cases draw with
    | false =>
      simp only [evCode, Tr.run_bind, Tr.run_ok] at h
      obtain ⟨s, hs, h⟩ := h
      injection h with h1 h2
      subst h1 h2
      obtain ⟨f1, f2⟩ := evOps_facts hs
      refine ⟨⟨f1, f2⟩, fun B Z ρ F a w ha hr hz Q hl => wp_region ?_⟩
      have := evOps_sound (S := S) (B := B) hcall hP.names (Q := Q) (i := 0) (by simp) hs ha hr hz hl
      rw [List.range_eq_range']
      simpa using this
    | true =>
      simp only [evCode, Tr.run_bind, Tr.run_chk, Tr.run_ok, Bool.and_eq_true] at h
      obtain ⟨⟨s, recs⟩, hs, ⟨he, hra⟩, h⟩ := h
      injection h with h1 h2
      subst h1 h2
      refine ⟨?_, fun B Z ρ F a w ha hr hz Q hl => draw_sound hcall hP.names hP.mixed hs he hra ha hr hz hl⟩
      obtain ⟨σ, ef, h0, hn, _, hall⟩ := evOpsL_steps hs
      have : ∀ d, d ≤ ops.toList.length → Later st (σ d) := by
        intro d
        induction d with
        | zero => intro _; rw [h0]; exact Later.refl _
        | succ d ih =>
          intro hd
          have hlt : d < ops.toList.length := by omega
          obtain ⟨g1, g2, _⟩ := hall d _ (List.getElem?_eq_getElem hlt)
          refine (ih (by omega)).trans ?_
          rw [g2]
          exact ⟨(evOp_facts g1).1, fun b hb => stepSt_dirty.2 (.inl hb)⟩
      have := this _ (Nat.le_refl _)
      rwa [hn] at this
  | .seq a b => fun st x st' h => by
    rw [evCode, Tr.run_bind] at h
    obtain ⟨⟨y, s⟩, h1, h⟩ := h
    obtain ⟨l1, w1⟩ := evCode_sound hP hcall rounds a st y s h1
    cases y with
    | normal =>
      obtain ⟨l2, w2⟩ := evCode_sound hP hcall rounds b s x st' h
      refine ⟨l1.trans l2, fun B Z ρ F ac w ha hr hz Q hl => wp_seq ?_⟩
      refine w1 B Z ρ F ac w ha hr (fun b hb1 hb2 => hz b hb1 (Nat.lt_of_lt_of_le hb2 l2.nid)) _ fun a' w' ρ' F' ha' hr' hc' => ?_
      exact w2 B _ ρ' F' a' w' ha' hr' (fun b hb1 hb2 => ⟨hz b (Nat.le_trans l1.nid hb1) hb2, by omega⟩) Q (hl.next l1 l2 hc')
    | exit id =>
      simp only [Tr.run_ok] at h
      injection h with e1 e2
      subst e1 e2
      exact ⟨l1, fun B Z ρ F ac w ha hr hz Q hl => wp_seq (w1 B Z ρ F ac w ha hr hz _ hl)⟩
    | ret =>
      simp only [Tr.run_ok] at h
      injection h with e1 e2
      subst e1 e2
      exact ⟨l1, fun B Z ρ F ac w ha hr hz Q hl => wp_seq (w1 B Z ρ F ac w ha hr hz _ hl)⟩
  | .cond c a b => fun st x st' h => by
    rw [evCode] at h
    split at h
    · rename_i sb hsb
      have hev : ∀ {ρ : Rho} {ac : Act}, RA ρ (fun t => st.tm[t]?) ac → ac.eval c = .bool sb.val := fun {ρ ac} ha => by
        cases c with
        | tmp t =>
          have := ha.eval_tmp t
          simp only [evalT, nth_eq] at hsb
          cases ht : st.tm[t]? with
          | none => simp [ht, SV.undef] at hsb
          | some v =>
            simp only [ht] at hsb
            subst hsb
            rw [ht] at this
            exact this
        | const v =>
          simp only [evalT, nth_eq] at hsb
          cases hv : ofVal v with
          | none => simp [hv, SV.undef] at hsb
          | some y =>
            simp only [hv] at hsb
            injection hsb with hsb
            injection hsb with hsb
            subst hsb
            exact ofVal_RV hv ρ
        | global g => simp [evalT, SV.undef] at hsb
        | func f => simp [evalT] at hsb
      rw [Tr.run_test] at h
      rcases h with ⟨h1, h⟩ | ⟨h1, h⟩
      · obtain ⟨l1, w1⟩ := evCode_sound hP hcall rounds a st x st' h
        exact ⟨l1, fun B Z ρ F ac w ha hr hz Q hl => wp_cond_true (by rw [hev ha, h1]) (w1 B Z ρ F ac w ha hr hz Q hl)⟩
      · obtain ⟨l1, w1⟩ := evCode_sound hP hcall rounds b st x st' h
        exact ⟨l1, fun B Z ρ F ac w ha hr hz Q hl => wp_cond_false (by rw [hev ha, h1]) (w1 B Z ρ F ac w ha hr hz Q hl)⟩
    · simp [Tr.run] at h
  | .block id c => fun st x st' h => by
    rw [evCode, Tr.run_bind] at h
    obtain ⟨⟨y, s⟩, h1, h⟩ := h
    obtain ⟨l1, w1⟩ := evCode_sound hP hcall rounds c st y s h1
    cases y with
    | normal =>
      simp only [Tr.run_ok] at h
      injection h with e1 e2
      subst e1 e2
      exact ⟨l1, fun B Z ρ F ac w ha hr hz Q hl => wp_block (w1 B Z ρ F ac w ha hr hz _ hl)⟩
    | ret =>
      simp only [Tr.run_ok] at h
      injection h with e1 e2
      subst e1 e2
      exact ⟨l1, fun B Z ρ F ac w ha hr hz Q hl => wp_block (w1 B Z ρ F ac w ha hr hz _ hl)⟩
    | exit k =>
      simp only at h
      cases hk : Nat.beq k id with
      | true =>
        obtain rfl := Nat.eq_of_beq_eq_true hk
        simp only [hk, Tr.run_ok] at h
        injection h with e1 e2
        subst e1 e2
        refine ⟨l1, fun B Z ρ F ac w ha hr hz Q hl => wp_block (w1 B Z ρ F ac w ha hr hz _ fun a' w' ρ' F' ha' hr' hc' => ?_)⟩
        show (if k = k then Q .normal a' w' else Q (.exit k) a' w')
        rw [if_pos rfl]
        exact hl a' w' ρ' F' ha' hr' hc'
      | false =>
        have hne : k ≠ id := Nat.ne_of_beq_eq_false hk
        simp only [hk, Tr.run_ok] at h
        injection h with e1 e2
        subst e1 e2
        refine ⟨l1, fun B Z ρ F ac w ha hr hz Q hl => wp_block (w1 B Z ρ F ac w ha hr hz _ fun a' w' ρ' F' ha' hr' hc' => ?_)⟩
        show (if k = id then Q .normal a' w' else Q (.exit k) a' w')
        rw [if_neg hne]
        exact hl a' w' ρ' F' ha' hr' hc'
  | .loop c => fun st x st' h => by
    rw [evCode] at h
    have hc := evCode_sound hP hcall rounds c
    exact ⟨iter_later (fun st x st' h => (hc st x st' h).1) h, loop_sound hc h⟩
  | .scope c => fun st x st' h => by
    rw [evCode] at h
    obtain ⟨l1, w1⟩ := evCode_sound hP hcall rounds c st x st' h
    refine ⟨l1, fun B Z ρ F ac w ha hr hz Q hl => wp_scope_straight (w1 B Z ρ F ac w ha hr hz _ fun a' w' ρ' F' ha' hr' hc' => ?_)⟩
    have := hl a' w' ρ' F' ha' hr' hc'
    cases x <;> exact this
  | .rangeFunc _ _ _ _ => fun st x st' h => by simp [evCode, Tr.run] at h
  | .goto _ => fun st x st' h => by simp [evCode, Tr.run] at h
  | .refuse _ => fun st x st' h => by simp [evCode, Tr.run] at h

/-! ### Functions -/
theorem vresult_sound {Z : Nat → Prop} {ρ : Rho} {F : Fm} {st : St A} {a : Act} {w : World} (ha : RA ρ (fun t => st.tm[t]?) a) (hr : HR S B Z ρ F (hget st.hp) w) {rv : ResultVar} {x : S1}
    (h : (vresult P st rv).run = some x) :
    ∃ v, ((match rv with | .tmp t => pure (a.tmps.getD t undef) | .cell q t => do loadVar t (← asAddr (a.tmps.getD q undef)) : Sem Value)).run P w = .ok v w ∧ R1 ρ x v := by
  cases rv with
  | tmp t =>
    simp only [vresult, nth_eq] at h
    split at h
    · rename_i y hy
      rw [Tr.run_ok] at h
      subst h
      have := ha.eval_tmp t
      simp only [hy] at this
      exact ⟨_, rfl, this⟩
    · simp [Tr.run] at h
  | cell q t =>
    simp only [vresult, nth_eq] at h
    split at h
    · rename_i y hy
      rw [Tr.run_bind] at h
      obtain ⟨⟨r, b⟩, hl, h⟩ := h
      rw [Tr.run_ok] at h
      subst h
      have := ha.eval_tmp q
      simp only [hy] at this
      obtain ⟨v, hv, hrv⟩ := vload_sound hl hr rfl (show RV ρ y _ from this)
      refine ⟨v, ?_, hrv⟩
      have hp : ∃ ad, a.tmps.getD q undef = .pointer (some ad) := by
        unfold vload at hl
        split at hl
        · obtain ⟨p, _, hp⟩ := this
          exact ⟨_, hp⟩
        · obtain ⟨p, _, hp⟩ := this
          exact ⟨_, hp⟩
        · simp [Tr.run] at hl
      obtain ⟨ad, had⟩ := hp
      simp only [had] at hv ⊢
      exact hv
    · simp [Tr.run] at h
theorem vresults_sound {Z : Nat → Prop} {ρ : Rho} {F : Fm} {st : St A} {a : Act} {w : World} (ha : RA ρ (fun t => st.tm[t]?) a) (hr : HR S B Z ρ F (hget st.hp) w) : ∀ {l : List ResultVar} {xs : List S1},
    (vresults P st l).run = some xs → ∃ vs : List Value, (l.mapM fun rv => (match rv with | .tmp t => pure (a.tmps.getD t undef) | .cell q t => do loadVar t (← asAddr (a.tmps.getD q undef)) : Sem Value)).run P w = .ok vs w ∧ F2 (R1 ρ) xs vs
  | [], xs, h => by simp only [vresults, Tr.run_ok] at h; subst h; exact ⟨[], rfl, trivial⟩
  | r :: l, xs, h => by
    simp only [vresults, Tr.run_bind, Tr.run_ok] at h
    obtain ⟨x, hx, ys, hy, rfl⟩ := h
    obtain ⟨v, hv, hrv⟩ := vresult_sound ha hr hx
    obtain ⟨vs, hvs, hrs⟩ := vresults_sound ha hr hy
    refine ⟨v :: vs, ?_, hrv, hrs⟩
    rw [List.mapM_cons, run_andThen_ok hv, run_andThen_ok hvs]
    rfl

def tupleVal : List Value → Value
  | [v] => v
  | vs => .tuple vs.toArray
theorem results_run {fn : Func} {tmps : Array Value} {w : World} {vs : List Value}
    (h : (fn.results.toList.mapM fun rv => (match rv with | .tmp t => pure (tmps.getD t undef) | .cell q t => do loadVar t (← asAddr (tmps.getD q undef)) : Sem Value)).run P w = .ok vs w) :
    (results fn tmps).run P w = .ok (tupleVal vs) w := by
  unfold results
  rw [Array.mapM_eq_mapM_toList, map_eq_pure_bind, bind_assoc]
  refine (run_andThen_ok (a := vs) (w' := w) h).trans ?_
  simp only [pure_bind]
  match vs with
  | [] => rfl
  | [v] => rfl
  | _ :: _ :: _ => simp [tupleVal]

theorem tupleOf_RS {ρ : Rho} : ∀ {xs : List S1} {vs : List Value}, F2 (R1 ρ) xs vs → RS ρ (tupleOf xs) (tupleVal vs)
  | [], [], _ => ⟨[], rfl, trivial⟩
  | [_], [_], h => h.1
  | _ :: _ :: _, v :: u :: vs, h => ⟨v :: u :: vs, rfl, h⟩
  | [], _ :: _, h => h.elim
  | _ :: _, [], h => h.elim
  | [_], _ :: _ :: _, h => h.2.elim
  | _ :: _ :: _, [_], h => h.2.elim

/-- What is asked of one function's evaluation. -/
def FunOK (S : Sys A) (P : Program) (f : FuncId) (ev : List SV → HP A → Nat → Tr (CR A)) : Prop :=
  ∀ args hp nid r, (ev args hp nid).run = some r → ∀ B Z ρ F w (vargs : List Value), HR S B Z ρ F (hget hp) w → (∀ b, nid ≤ b → b < r.nid → Z b) → F2 (RS ρ) args vargs →
    Calls P f vargs.toArray w fun e w' => ∃ v ρ' F', e = .returned v ∧ RS ρ' r.val v ∧ HR S B (Zm Z nid r.nid) ρ' F' (hget r.hp) w' ∧ Chg (fun b => b ∈ r.dirty) ρ F w ρ' F' w'

theorem evBody_sound (hP : ProgOK P) {call : FuncId → List SV → HP A → Nat → Tr (CR A)} (hcall : CallOK S P call) (rounds : Nat) {f : FuncId} {fn : Func} (hf : P.funcs[f]? = some fn) :
    FunOK S P f (evBody P call rounds fn) := by
  intro args hp nid r hrun B Z ρ F w vargs hr hz hargs
  unfold evBody at hrun
  split at hrun
  · simp [Tr.run] at hrun
  · rename_i c hc
    rw [Tr.run_bind] at hrun
    obtain ⟨⟨x, st'⟩, hev, hrun⟩ := hrun
    obtain ⟨l1, w1⟩ := evCode_sound hP hcall rounds c _ _ _ hev
    have hx : x ≠ .exit 0 ∧ (x = .normal ∨ x = .ret) := by
      cases x with
      | normal => exact ⟨by simp, .inl rfl⟩
      | ret => exact ⟨by simp, .inr rfl⟩
      | exit id => simp [Tr.run] at hrun
    have hres : ((vresults P st' fn.results.toList).bind fun l => .ok (⟨tupleOf l, st'.hp, st'.dirty, st'.nid⟩ : CR A)).run = some r := by
      rcases hx.2 with rfl | rfl <;> exact hrun
    rw [Tr.run_bind] at hres
    obtain ⟨xs, hxs, hres⟩ := hres
    rw [Tr.run_ok] at hres
    subst hres
    refine calls_of_wp hf hc ?_
    have hlen : args.length = vargs.length := hargs.length
    refine w1 B Z ρ F _ w ⟨rfl, fun t => ?_⟩ hr hz _ fun a' w' ρ' F' ha' hr' hc' => ?_
    · have h2 : F2 (RS ρ) (args ++ List.replicate (fn.ntmps - args.length) .undef) (vargs ++ List.replicate (fn.ntmps - vargs.toArray.size) undef) := by
        rw [show vargs.toArray.size = args.length by simp [hlen]]
        exact hargs.append (F2.replicate _ (RS_undef ρ))
      have h3 : (vargs.toArray ++ Array.replicate (fn.ntmps - vargs.toArray.size) undef)[t]? = (vargs ++ List.replicate (fn.ntmps - vargs.toArray.size) undef)[t]? := by
        rw [← Array.getElem?_toList]
        simp
      show RT ρ (args ++ List.replicate (fn.ntmps - args.length) SV.undef)[t]? (vargs.toArray ++ Array.replicate (fn.ntmps - vargs.toArray.size) undef)[t]?
      rw [h3]
      cases hg : (args ++ List.replicate (fn.ntmps - args.length) SV.undef)[t]? with
      | none => rw [h2.getNone t hg]; trivial
      | some v =>
        obtain ⟨u, hu, huv⟩ := h2.get t hg
        rw [hu]
        exact huv
    · obtain ⟨vs, hvs, hrs⟩ := vresults_sound ha' hr' hxs
      have hq := results_run hvs
      have : bodyPost P fn (fun e w' => ∃ v ρ' F', e = .returned v ∧ RS ρ' (tupleOf xs) v ∧ HR S B (Zm Z nid st'.nid) ρ' F' (hget st'.hp) w' ∧ Chg (fun b => b ∈ st'.dirty) ρ F w ρ' F' w') .normal a' w' :=
        ⟨ha'.defers, _, hq, _, ρ', F', rfl, tupleOf_RS hrs, hr', hc'⟩
      rcases hx.2 with rfl | rfl <;> exact this

theorem evF_sound (hP : ProgOK P) {I : FuncId → Option (Intr A)} (hI : ∀ f i, I f = some i → FunOK S P f i) (rounds : Nat) : ∀ d f, FunOK S P f (evF P I rounds d f)
  | 0, f => fun args hp nid r h => by simp [evF, Tr.run] at h
  | d + 1, f => fun args hp nid r h => by
    have ih : CallOK S P (evF P I rounds d) := fun g args hp nid r h _ => evF_sound hP hI rounds d g args hp nid r h
    rw [evF] at h
    split at h
    · rename_i i hi
      exact hI f i hi args hp nid r h
    · split at h
      · rename_i fn hfn
        exact evBody_sound hP ih rounds hfn args hp nid r h
      · simp [Tr.run] at h

/-- A function that is evaluated over no memory of its own: what it returns, and that nothing that was there has turned. -/
theorem calls_of_ev (hP : ProgOK P) {I : FuncId → Option (Intr A)} (hI : ∀ f i, I f = some i → FunOK S P f i) (rounds d : Nat) {f : FuncId} {args : List SV} {vargs : List Value} {w : World} {R : Value → Prop}
    (h : (evF P I rounds d f args [] 0).All fun r => ∀ ρ v, RS ρ r.val v → R v) (hargs : F2 (RS fun _ => none) args vargs) :
    Calls P f vargs.toArray w fun e w' => ∃ v, e = .returned v ∧ R v ∧ RowKit.Below w.heap.size w w' := by
  obtain ⟨r, hr, hR⟩ := Tr.all_iff.1 h
  have hhr : HR S w.heap.size (fun _ => True) (fun _ => none) (fun _ _ => False) (hget ([] : HP A)) w :=
    ⟨fun b o ho => by simp [hget] at ho, fun _ _ _ h => h, fun _ _ h => h.elim, fun _ _ _ h => h.elim, fun _ _ => rfl, Nat.le_refl _⟩
  refine (evF_sound hP hI rounds d f args [] 0 r hr w.heap.size _ _ _ w vargs hhr (fun _ _ _ => trivial) hargs).mono ?_
  rintro e w' ⟨v, ρ', F', he, hv, _, hc⟩
  exact ⟨v, he, hR ρ' v hv, ⟨hc.same.os, hc.same.tape, hc.same.output, hc.same.size, fun k hk => hc.heap k hk fun _ _ h => h⟩⟩
end
end Go.Proofs.Ytlkanbgcghjhnaa.Eng
