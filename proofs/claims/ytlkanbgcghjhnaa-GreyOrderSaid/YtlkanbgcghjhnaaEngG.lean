/-
  The engine, part G: the law of all operations, calls too.
-/
import Derived.Test.YtlkanbgcghjhnaaEngF
namespace Go.Proofs.Ytlkanbgcghjhnaa.Eng
open Go

section
variable {A : Type} {S : Sys A} {P : Program} {B : Nat} {Z : Nat → Prop} {ρ : Rho} {F : Fm} {H : Nat → Option (VObj A)} {w : World} {nid : Nat}

theorem hget_restrict (hp : HP A) (b : Nat) : ∀ R : List Nat, hget (restrict hp R) b = if b ∈ R then hget hp b else none
  | [] => by simp [restrict, hget]
  | c :: R => by
    show (match Nat.beq c b with | true => hget hp c | false => hget (restrict hp R) b) = _
    cases h : Nat.beq c b with
    | true =>
      obtain rfl := Nat.eq_of_beq_eq_true h
      simp
    | false =>
      have hne : c ≠ b := Nat.ne_of_beq_eq_false h
      simp only
      rw [hget_restrict hp b R]
      by_cases hb : b ∈ R
      · simp [hb]
      · simp [hb, Ne.symm hne]
theorem mem_pick {keep : List Nat} {hp : HP A} {b : Nat} : ∀ {l : List Nat}, b ∈ (pickIds nid keep hp l).map (·.1) ↔ b ∈ l ∧ (b < nid ∨ b ∈ keep)
  | [] => by simp [pickIds]
  | c :: l => by
    unfold pickIds
    cases h : (Nat.blt c nid || memN c keep) with
    | true =>
      simp only [Bool.or_eq_true, memN_iff] at h
      have hc : c < nid ∨ c ∈ keep := h.imp (fun h => by simpa using h) id
      simp only [List.map_cons, List.mem_cons, mem_pick (l := l)]
      constructor
      · rintro (rfl | ⟨h1, h2⟩)
        · exact ⟨.inl rfl, hc⟩
        · exact ⟨.inr h1, h2⟩
      · rintro ⟨rfl | h1, h2⟩
        · exact .inl rfl
        · exact .inr ⟨h1, h2⟩
    | false =>
      simp only [Bool.or_eq_false_iff] at h
      have hc : ¬(c < nid ∨ c ∈ keep) := by
        rintro (h1 | h1)
        · have := h.1
          rw [show Nat.blt c nid = true from by rw [Nat.blt_eq]; exact h1] at this
          cases this
        · have := h.2
          rw [(memN_iff _ _).2 h1] at this
          cases this
      simp only [mem_pick (l := l), List.mem_cons]
      constructor
      · rintro ⟨h1, h2⟩
        exact ⟨.inr h1, h2⟩
      · rintro ⟨rfl | h1, h2⟩
        · exact absurd h2 hc
        · exact ⟨h1, h2⟩
theorem over_pick {keep : List Nat} {hp : HP A} {b : Nat} : ∀ {l : List Nat} {H : Nat → Option (VObj A)}, b ∈ (pickIds nid keep hp l).map (·.1) → over H (pickIds nid keep hp l) b = hget hp b
  | [], _, h => by simp [pickIds] at h
  | c :: l, H, h => by
    unfold pickIds at h ⊢
    split
    · rename_i hc
      simp only [hc, List.map_cons, List.mem_cons] at h
      simp only [over]
      by_cases hb : b ∈ (pickIds nid keep hp l).map (·.1)
      · exact over_pick hb
      · rw [over_out hb]
        rcases h with rfl | h
        · simp
        · exact absurd h hb
    · rename_i hc
      simp only [hc] at h
      exact over_pick h

theorem ptrs_RS {m : List (Nat × Nat)} {vs : List Value} (h : F2 (RP ρ) m vs) : F2 (RS ρ) (m.map fun p => SV.v (.ptr p.1 p.2)) vs := by
  have := h.map (R := RS ρ) (fun p : Nat × Nat => SV.v (.ptr p.1 p.2)) (id : Value → Value) (fun c d hcd => hcd)
  simpa using this

theorem vcall_sound {call : FuncId → List SV → HP A → Nat → Tr (CR A)} (hcall : CallOK S P call) {f : FuncId} {args : List SV} {hp : HP A} {e : Eff A} {vargs : List Value}
    (hrun : (vcall P call f args hp nid).run = some e) (h : HR S B Z ρ F H w) (hag : ∀ b, b ∈ e.rd ∨ b ∈ e.asg.map (·.1) → H b = hget hp b)
    (hz : ∀ b, nid ≤ b → b < e.nid → Z b) (ha : F2 (RS ρ) args vargs) :
    nid ≤ e.nid ∧ hasBody P f = true ∧ Calls P f vargs.toArray w fun en w' => ∃ v, en = .returned v ∧ Done S B Z ρ F H w nid e v w' := by
  unfold vcall at hrun
  simp only [Tr.run_chk, Tr.run_bind, Tr.run_ok, Bool.and_eq_true] at hrun
  obtain ⟨⟨hb, hR⟩, r, hr, hn, rfl⟩ := hrun
  generalize hRR : reach hp 1000 (args.flatMap svIds) [] = R at *
  have hRlt : ∀ b ∈ R, b < nid := fun b hb => by
    have := List.all_eq_true.1 hR b hb
    simpa using this
  have hn' : nid ≤ r.nid := by simpa using hn
  refine ⟨hn', hb, ?_⟩
  let FR : Fm := fun b => if b ∈ R then F b else fun _ => False
  have hRR : HR S B Z ρ FR (hget (restrict hp R)) w := by
    refine ⟨fun b o ho => ?_, fun b hn x hx => ?_, fun b x hx => ?_, fun b c x hb hc => ?_, h.fresh, h.base⟩
    · rw [hget_restrict] at ho
      split at ho
      · rename_i hbR
        simp only [FR, hbR, if_true]
        exact h.live b o (by rw [hag b (.inl hbR)]; exact ho)
      · cases ho
    · rw [hget_restrict] at hn
      by_cases hbR : b ∈ R
      · simp only [hbR, if_true] at hn
        simp only [FR, hbR, if_true] at hx
        exact h.dead b (by rw [hag b (.inl hbR)]; exact hn) x hx
      · simp [FR, hbR] at hx
    · by_cases hbR : b ∈ R
      · simp only [FR, hbR, if_true] at hx
        exact h.bound b x hx
      · simp [FR, hbR] at hx
    · by_cases hbR : b ∈ R
      · by_cases hcR : c ∈ R
        · simp only [FR, hbR, hcR, if_true] at hb hc
          exact h.disj b c x hb hc
        · simp [FR, hcR] at hc
      · simp [FR, hbR] at hb
  refine (hcall f args _ nid r hr hb B Z ρ FR w vargs hRR hz ha).mono ?_
  rintro en w' ⟨v, ρ', Fc, rfl, hv, hHR, hchg⟩
  refine ⟨v, rfl, ?_⟩
  generalize hkeep : reach r.hp 1000 (svIds r.val ++ R) [] = keep at *
  let asg := pickIds nid keep r.hp r.dirty
  let F' : Fm := fun b => if b ∈ asg.map (·.1) then Fc b else F b
  have hsub : ∀ b, b ∈ asg.map (·.1) → b ∈ r.dirty := fun b hb => (mem_pick.1 hb).1
  have hfr : ∀ c x, c ∈ r.dirty → FR c x → c ∈ asg.map (·.1) ∧ F c x := fun c x hc hx => by
    by_cases hcR : c ∈ R
    · simp only [FR, hcR, if_true] at hx
      exact ⟨mem_pick.2 ⟨hc, .inl (hRlt c hcR)⟩, hx⟩
    · simp [FR, hcR] at hx
  have hc : Chg (fun b => b ∈ asg.map (·.1)) ρ F w ρ' F' w' := by
    refine ⟨hchg.rho, fun b hb => by simp only [F']; rw [if_neg hb], fun b x hb hx => ?_, hchg.same, fun k hk hck => ?_⟩
    · simp only [F'] at hx
      rw [if_pos hb] at hx
      rcases hchg.own b x (hsub b hb) hx with h1 | ⟨c, hc, hcx⟩
      · exact .inl h1
      · obtain ⟨h2, h3⟩ := hfr c x hc hcx
        exact .inr ⟨c, h2, h3⟩
    · refine hchg.heap k hk fun c hc hcx => ?_
      obtain ⟨h2, h3⟩ := hfr c k hc hcx
      exact hck c h2 h3
  have hF' : ∀ b, b ∈ asg.map (·.1) → F' b = Fc b := fun b hb => by simp only [F']; rw [if_pos hb]
  refine ⟨ρ', F', hv, ?_, hc⟩
  refine h.step hc (fun b hb => over_out hb) (fun b o hb ho => ?_) (fun b hb ho x hx => ?_) (fun b x hb hx => ?_) (fun b c x hb hc' hbx hcx => ?_) hHR.fresh
  · rw [hF' b hb]
    exact hHR.live b o (by rw [← over_pick hb]; exact ho)
  · rw [hF' b hb] at hx
    exact hHR.dead b (by rw [← over_pick hb]; exact ho) x hx
  · rw [hF' b hb] at hx
    exact (hHR.bound b x hx).2
  · rw [hF' b hb] at hbx
    rw [hF' c hc'] at hcx
    exact hHR.disj b c x hbx hcx

theorem callFunc_run (hnames : ∀ (f : FuncId) fn, P.funcs[f]? = some fn → (fn.name == "runtime.NumGoroutine") = false) {f : FuncId} {args : Array Value} (hb : hasBody P f = true) :
    (callFunc f args).run P w = .ok (.enter f args) w := by
  unfold hasBody at hb
  cases hf : P.funcs[f]? with
  | none => simp [hf] at hb
  | some fn =>
    simp only [hf] at hb
    unfold callFunc
    rw [run_andThen_ok (run_program P w)]
    simp only [hf, hnames f fn hf]
    have : fn.body.isNone = false := by cases hbb : fn.body <;> simp_all
    simp [this]

theorem lands_mono {r : Result Next} {K K' : Value → World → Prop} (h : ∀ v w, K v w → K' v w) (hl : Lands P r K) : Lands P r K' := by
  unfold Lands at *
  split at hl
  · exact h _ _ hl
  · exact h _ _ hl
  · exact hl.mono fun e w'' ⟨v, he, hk⟩ => ⟨v, he, h _ _ hk⟩
  · exact hl.elim

theorem args_RS {ev : Operand → SV} {rv : Operand → Value} (l : Array Operand) (h : ∀ x ∈ l.toList, RS ρ (ev x) (rv x)) : F2 (RS ρ) (l.toList.map ev) (l.map rv).toList := by
  rw [Array.toList_map]
  exact F2.of_map _ _ h
end
end Go.Proofs.Ytlkanbgcghjhnaa.Eng
