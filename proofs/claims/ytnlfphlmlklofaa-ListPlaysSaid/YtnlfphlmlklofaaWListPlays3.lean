/-
  ListPlays: a step of the worker 3: its objects are opened, the step runs, they are hidden again. Printed by genLPW.py.
-/
import Derived.Test.YtnlfphlmlklofaaTListPlaysQ3
import Derived.Test.YtnlfphlmlklofaaDListPlays
namespace Go.Proofs.Ytnlfphlmlklofaa.ListPlays
open Go Go.RowKit Go.Proofs.Ytnlfphlmlklofaa.Eng
set_option linter.unusedVariables false
set_option linter.unusedSimpArgs false
set_option linter.unusedSectionVars false
set_option maxRecDepth 20000
set_option maxHeartbeats 1000000
abbrev M4q3 : List Bool := [true, true, true, true, true, true, true, true, true, true, true, true, true, true, true, false, false, false, false, true]
theorem hZL4q3 (s s0 s1 s2 : WS) : ∀ (i : Nat) x, M4q3[i]? = some true → (WL s0 s1 s2 s)[i]? = some x → ∀ n ∈ vvIds x, Z2 40 n = false := by
  intro i x hm hx
  exact match i, hm, hx with
    | 0, _, hx => by
      injection hx with hx
      subst hx
      exact fun n hn => Z2_far (by decide) (by omega) (c_ids 10 s0 _ (by simp) n hn)
    | 1, _, hx => by
      injection hx with hx
      subst hx
      exact fun n hn => Z2_far (by decide) (by omega) (c_ids 10 s0 _ (by simp) n hn)
    | 2, _, hx => by
      injection hx with hx
      subst hx
      exact fun n hn => Z2_far (by decide) (by omega) (c_ids 10 s0 _ (by simp) n hn)
    | 3, _, hx => by
      injection hx with hx
      subst hx
      exact fun n hn => Z2_far (by decide) (by omega) (c_ids 10 s0 _ (by simp) n hn)
    | 4, _, hx => by
      injection hx with hx
      subst hx
      exact fun n hn => Z2_far (by decide) (by omega) (c_ids 10 s0 _ (by simp) n hn)
    | 5, _, hx => by
      injection hx with hx
      subst hx
      exact fun n hn => Z2_far (by decide) (by omega) (c_ids 20 s1 _ (by simp) n hn)
    | 6, _, hx => by
      injection hx with hx
      subst hx
      exact fun n hn => Z2_far (by decide) (by omega) (c_ids 20 s1 _ (by simp) n hn)
    | 7, _, hx => by
      injection hx with hx
      subst hx
      exact fun n hn => Z2_far (by decide) (by omega) (c_ids 20 s1 _ (by simp) n hn)
    | 8, _, hx => by
      injection hx with hx
      subst hx
      exact fun n hn => Z2_far (by decide) (by omega) (c_ids 20 s1 _ (by simp) n hn)
    | 9, _, hx => by
      injection hx with hx
      subst hx
      exact fun n hn => Z2_far (by decide) (by omega) (c_ids 20 s1 _ (by simp) n hn)
    | 10, _, hx => by
      injection hx with hx
      subst hx
      exact fun n hn => Z2_far (by decide) (by omega) (c_ids 30 s2 _ (by simp) n hn)
    | 11, _, hx => by
      injection hx with hx
      subst hx
      exact fun n hn => Z2_far (by decide) (by omega) (c_ids 30 s2 _ (by simp) n hn)
    | 12, _, hx => by
      injection hx with hx
      subst hx
      exact fun n hn => Z2_far (by decide) (by omega) (c_ids 30 s2 _ (by simp) n hn)
    | 13, _, hx => by
      injection hx with hx
      subst hx
      exact fun n hn => Z2_far (by decide) (by omega) (c_ids 30 s2 _ (by simp) n hn)
    | 14, _, hx => by
      injection hx with hx
      subst hx
      exact fun n hn => Z2_far (by decide) (by omega) (c_ids 30 s2 _ (by simp) n hn)
    | 15, hm, _ => (by cases hm)
    | 16, hm, _ => (by cases hm)
    | 17, hm, _ => (by cases hm)
    | 18, hm, _ => (by cases hm)
    | 19, _, hx => by
      injection hx with hx
      subst hx
      intro n hn
      have := c4_id 40 s n hn
      exact Z2_no ⟨by omega, by omega, by omega⟩
    | i + 20, _, hx => (by simp at hx)
theorem hZF4q3 (h : HS) (s0 s1 s2 : WS) : ∀ n o, hget (hobj 40 h ++ (wo 10 s0 ++ (wo 20 s1 ++ wo 30 s2))) n = some o → Z2 40 n = false ∧ ∀ m ∈ objIds o, Z2 40 m = false := by
  intro n o ho
  rw [hget_app (hobj_some 40 h)] at ho
  cases hb : hget (hobj 40 h) n with
  | some o' =>
    rw [hb] at ho
    injection ho with ho
    subst ho
    obtain ⟨rfl, h2⟩ := hobj_ids hb
    exact ⟨Z2_no ⟨by omega, by omega, by omega⟩, by rw [h2]; intro m hm; cases hm⟩
  | none =>
    rw [hb] at ho
    obtain ⟨h1, h2⟩ := oth_ids (show hget (wo 10 s0 ++ (wo 20 s1 ++ wo 30 s2)) n = some o from ho)
    refine ⟨?_, by rw [h2]; intro m hm; cases hm⟩
    rcases h1 with h1 | h1 | h1 <;> exact Z2_far (by decide) (by omega) h1
abbrev M5q3 : List Bool := [true, true, true, true, true, true, true, true, true, true, true, true, true, true, true, false, false, false, false, false]
theorem hZL5q3 (s s0 s1 s2 : WS) : ∀ (i : Nat) x, M5q3[i]? = some true → (WL s0 s1 s2 s)[i]? = some x → ∀ n ∈ vvIds x, Z3 40 n = false := by
  intro i x hm hx
  exact match i, hm, hx with
    | 0, _, hx => by
      injection hx with hx
      subst hx
      exact fun n hn => Z3_far (by decide) (by omega) (c_ids 10 s0 _ (by simp) n hn)
    | 1, _, hx => by
      injection hx with hx
      subst hx
      exact fun n hn => Z3_far (by decide) (by omega) (c_ids 10 s0 _ (by simp) n hn)
    | 2, _, hx => by
      injection hx with hx
      subst hx
      exact fun n hn => Z3_far (by decide) (by omega) (c_ids 10 s0 _ (by simp) n hn)
    | 3, _, hx => by
      injection hx with hx
      subst hx
      exact fun n hn => Z3_far (by decide) (by omega) (c_ids 10 s0 _ (by simp) n hn)
    | 4, _, hx => by
      injection hx with hx
      subst hx
      exact fun n hn => Z3_far (by decide) (by omega) (c_ids 10 s0 _ (by simp) n hn)
    | 5, _, hx => by
      injection hx with hx
      subst hx
      exact fun n hn => Z3_far (by decide) (by omega) (c_ids 20 s1 _ (by simp) n hn)
    | 6, _, hx => by
      injection hx with hx
      subst hx
      exact fun n hn => Z3_far (by decide) (by omega) (c_ids 20 s1 _ (by simp) n hn)
    | 7, _, hx => by
      injection hx with hx
      subst hx
      exact fun n hn => Z3_far (by decide) (by omega) (c_ids 20 s1 _ (by simp) n hn)
    | 8, _, hx => by
      injection hx with hx
      subst hx
      exact fun n hn => Z3_far (by decide) (by omega) (c_ids 20 s1 _ (by simp) n hn)
    | 9, _, hx => by
      injection hx with hx
      subst hx
      exact fun n hn => Z3_far (by decide) (by omega) (c_ids 20 s1 _ (by simp) n hn)
    | 10, _, hx => by
      injection hx with hx
      subst hx
      exact fun n hn => Z3_far (by decide) (by omega) (c_ids 30 s2 _ (by simp) n hn)
    | 11, _, hx => by
      injection hx with hx
      subst hx
      exact fun n hn => Z3_far (by decide) (by omega) (c_ids 30 s2 _ (by simp) n hn)
    | 12, _, hx => by
      injection hx with hx
      subst hx
      exact fun n hn => Z3_far (by decide) (by omega) (c_ids 30 s2 _ (by simp) n hn)
    | 13, _, hx => by
      injection hx with hx
      subst hx
      exact fun n hn => Z3_far (by decide) (by omega) (c_ids 30 s2 _ (by simp) n hn)
    | 14, _, hx => by
      injection hx with hx
      subst hx
      exact fun n hn => Z3_far (by decide) (by omega) (c_ids 30 s2 _ (by simp) n hn)
    | 15, hm, _ => (by cases hm)
    | 16, hm, _ => (by cases hm)
    | 17, hm, _ => (by cases hm)
    | 18, hm, _ => (by cases hm)
    | 19, hm, _ => (by cases hm)
    | i + 20, _, hx => (by simp at hx)
theorem hZF5q3 (h : HS) (s0 s1 s2 : WS) : ∀ n o, hget (wo 10 s0 ++ (wo 20 s1 ++ wo 30 s2)) n = some o → Z3 40 n = false ∧ ∀ m ∈ objIds o, Z3 40 m = false := by
  intro n o ho
  obtain ⟨h1, h2⟩ := oth_ids ho
  refine ⟨?_, by rw [h2]; intro m hm; cases hm⟩
  rcases h1 with h1 | h1 | h1 <;> exact Z3_far (by decide) (by omega) h1
section
variable {n0 i c c2 t : Int} {np : Nat} {ps : List (List Int)} {ws : List Int} {js : Nat → SV} {E : Ctx MObj} (hE : E.nid0 = 1) (hT : E.top = 40) (hD : ∀ b, 1 ≤ b → E.D b) (hw : ws.length = 160) (hc : 0 ≤ c ∧ c ≤ 1000000) (hc2 : 0 ≤ c2 ∧ c2 ≤ 1000000)
include hE hT hD hw hc hc2
theorem w3ip (K : Nat) (vp : Value) (vq : Value) (h : HS) (s0 s1 s2 : WS)  (hK : h.ok K) (ho : okO K s0 s1 s2) (hK6 : K ≤ 1000000) : TriX MS (listX Try.prog four) E ⟨pre n0 np false i ++ [.v (.int .i64 (.lit 3))] ++ junk js 58 11, base ps ws c c2 t (.abs (.grp (WG s0 s1 s2 (.idle h vp vq)))), 4, []⟩ (Mid n0 np i ps ws c c2 K) := by
  refine tri_group (mono_list _) 3 (WG s0 s1 s2 (.idle h vp vq)) [] (hobj 40 h ++ (wo 10 s0 ++ (wo 20 s1 ++ wo 30 s2))) M4q3 (WL s0 s1 s2 (.idle h vp vq)) _ 75 [] (Z2 40) rfl (fun n => (WG_3 _ s0 s1 s2 (.idle h vp vq) n)) (by simp [Z2, Nat.beq]) (by simp) rfl rfl (hZL4q3 _ s0 s1 s2) (hZF4q3 h s0 s1 s2) rfl rfl (by rw [hT]; exact Nat.le_of_ble_eq_true rfl) (hD 3 (by decide)) ?_
  intro vs E1 e1 e2 e3
  show TriX MS (listX Try.prog four) E1 ⟨pre n0 np false i ++ [.v (.int .i64 (.lit 3))] ++ junk js 58 11, base ps ws c c2 t (.cells [.raw (vs 0), .raw (vs 1), .raw (vs 2), .raw (vs 3), .raw (vs 4), .raw (vs 5), .raw (vs 6), .raw (vs 7), .raw (vs 8), .raw (vs 9), .raw (vs 10), .raw (vs 11), .raw (vs 12), .raw (vs 13), .raw (vs 14), .nilp, .nilp, .raw vp, .raw vq, .raw (vs 19)] 75), 4, []⟩ _
  have ht : ∀ {k : Nat}, Nat.ble k 40 = true → k ≤ E1.top := fun h => by rw [e2, hT]; exact Nat.le_of_ble_eq_true h
  have hd : ∀ (l : List Nat), l.all (Nat.ble 1) = true → ∀ b, b ∈ l → E1.D b := fun l hl b hb => e3 b (hD b (Nat.le_of_ble_eq_true (List.all_eq_true.1 hl b hb)))
  refine TriX.postE (mono_list _) (Q := fun x s => x = .normal ∧ (((∃ js, s = ⟨(q3ip_l0 n0 i c c2 t np ps ws vs vq).pre ++ junk js 59 10, (q3ip_l0 n0 i c c2 t np ps ws vs vq).hp, (q3ip_l0 n0 i c c2 t np ps ws vs vq).nid, []⟩) ∧ True) ∨ ((∃ js, s = ⟨(q3ip_l1 n0 i c c2 t np ps ws vs vq).pre ++ junk js 59 10, (q3ip_l1 n0 i c c2 t np ps ws vs vq).hp, (q3ip_l1 n0 i c c2 t np ps ws vs vq).nid, []⟩) ∧ True))) (TriX.listR (m := 10) (n := 59) codeOK (q3ip n0 i c c2 t np ps ws vs js vp vq hw hc hc2) ?_) ?_
  · exact Tr.all_ite (fun _ => Tr.all_ok ⟨rfl, rfl, ht rfl, hd _ rfl, fun js => ⟨rfl, Or.inl ⟨⟨js, rfl⟩, trivial⟩⟩⟩) (fun _ => Tr.all_ok ⟨rfl, rfl, ht rfl, hd _ rfl, fun js => ⟨rfl, Or.inr (⟨⟨js, rfl⟩, trivial⟩)⟩⟩)
  · rintro x s ac w ⟨rfl, hq⟩ hat
    rcases hq with ⟨⟨js, rfl⟩, hcond⟩ | ⟨⟨js, rfl⟩, hcond⟩
    · have h1 := at_can hat
      obtain ⟨us, h2⟩ := at_forget 3 [false, false, false, false, false, false, false, false, false, false, false, false, false, false, false, false, false, true, false, false] rfl rfl h1
      refine ⟨_, h2, [.raw (vs 0), .raw (vs 1), .raw (vs 2), .raw (vs 3), .raw (vs 4), .raw (vs 5), .raw (vs 6), .raw (vs 7), .raw (vs 8), .raw (vs 9), .raw (vs 10), .raw (vs 11), .raw (vs 12), .raw (vs 13), .raw (vs 14), .nilp, .nilp, .raw (us 17), .raw vq, .raw (vs 19)], _, [], _, WG s0 s1 s2 (.idle h (us 17) _), ?_, rfl, rfl, rfl, fun n => ((WG_3 _ s0 s1 s2 _ n)).trans rfl, rfl, s0, s1, s2, (.idle h (us 17) _), _, _, _, _, ⟨js, rfl⟩, rfl, rfl, by show 4 ≤ 6; omega, ?_, ⟨(WS.ok_mono (Nat.le_succ _) ho.1), (WS.ok_mono (Nat.le_succ _) ho.2.1), (WS.ok_mono (Nat.le_succ _) ho.2.2), HS.ok_mono (Nat.le_succ _) hK⟩, by omega, by omega, by omega, by omega⟩
      · rfl
      · simp [hw]
    · have h1 := at_can hat
      refine ⟨_, h1, [.raw (vs 0), .raw (vs 1), .raw (vs 2), .raw (vs 3), .raw (vs 4), .raw (vs 5), .raw (vs 6), .raw (vs 7), .raw (vs 8), .raw (vs 9), .raw (vs 10), .raw (vs 11), .raw (vs 12), .raw (vs 13), .raw (vs 14), .ptr 4 0, .nilp, .ptr 5 0, .raw vq, .raw (vs 19)], _, [(4, 40), (5, 41)], _, WG s0 s1 s2 (.pop 2 _ _ h _), ?_, rfl, rfl, rfl, fun n => ((WG_3 _ s0 s1 s2 _ n)).trans rfl, rfl, s0, s1, s2, (.pop 2 _ _ h _), _, _, _, _, ⟨js, rfl⟩, rfl, rfl, by show 4 ≤ 6; omega, ?_, ⟨(WS.ok_mono (Nat.le_succ _) ho.1), (WS.ok_mono (Nat.le_succ _) ho.2.1), (WS.ok_mono (Nat.le_succ _) ho.2.2), ⟨by omega, HS.ok_mono (Nat.le_succ _) hK⟩⟩, by omega, by omega, by omega, by omega⟩
      · rfl
      · simp [hw]
theorem w3in (K : Nat) (vp : Value) (vq : Value) (s0 s1 s2 : WS)   (ho : okO K s0 s1 s2) (hK6 : K ≤ 1000000) : TriX MS (listX Try.prog four) E ⟨pre n0 np false i ++ [.v (.int .i64 (.lit 7))] ++ junk js 58 11, base ps ws c c2 t (.abs (.grp (WG s0 s1 s2 (.idle (.nil) vp vq)))), 4, []⟩ (Mid n0 np i ps ws c c2 K) := by
  refine tri_group (mono_list _) 3 (WG s0 s1 s2 (.idle (.nil) vp vq)) [] (wo 10 s0 ++ (wo 20 s1 ++ wo 30 s2)) M5q3 (WL s0 s1 s2 (.idle (.nil) vp vq)) _ 75 [] (Z3 40) rfl (fun n => (WG_3 _ s0 s1 s2 (.idle (.nil) vp vq) n)) (by simp [Z3, Nat.beq]) (by simp) rfl rfl (hZL5q3 _ s0 s1 s2) (hZF5q3 (.nil) s0 s1 s2) rfl rfl (by rw [hT]; exact Nat.le_of_ble_eq_true rfl) (hD 3 (by decide)) ?_
  intro vs E1 e1 e2 e3
  show TriX MS (listX Try.prog four) E1 ⟨pre n0 np false i ++ [.v (.int .i64 (.lit 7))] ++ junk js 58 11, base ps ws c c2 t (.cells [.raw (vs 0), .raw (vs 1), .raw (vs 2), .raw (vs 3), .raw (vs 4), .raw (vs 5), .raw (vs 6), .raw (vs 7), .raw (vs 8), .raw (vs 9), .raw (vs 10), .raw (vs 11), .raw (vs 12), .raw (vs 13), .raw (vs 14), .nilp, .nilp, .raw vp, .raw vq, .nils] 75), 4, []⟩ _
  have ht : ∀ {k : Nat}, Nat.ble k 40 = true → k ≤ E1.top := fun h => by rw [e2, hT]; exact Nat.le_of_ble_eq_true h
  have hd : ∀ (l : List Nat), l.all (Nat.ble 1) = true → ∀ b, b ∈ l → E1.D b := fun l hl b hb => e3 b (hD b (Nat.le_of_ble_eq_true (List.all_eq_true.1 hl b hb)))
  refine TriX.postE (mono_list _) (Q := fun x s => x = .normal ∧ (((∃ js, s = ⟨(q3in_l0 n0 i c c2 t np ps ws vs vq).pre ++ junk js 59 10, (q3in_l0 n0 i c c2 t np ps ws vs vq).hp, (q3in_l0 n0 i c c2 t np ps ws vs vq).nid, []⟩) ∧ True) ∨ ((∃ js, s = ⟨(q3in_l1 n0 i c c2 t np ps ws vs vq).pre ++ junk js 59 10, (q3in_l1 n0 i c c2 t np ps ws vs vq).hp, (q3in_l1 n0 i c c2 t np ps ws vs vq).nid, []⟩) ∧ True))) (TriX.listR (m := 10) (n := 59) codeOK (q3in n0 i c c2 t np ps ws vs js vp vq hw hc hc2) ?_) ?_
  · exact Tr.all_ite (fun _ => Tr.all_ok ⟨rfl, rfl, ht rfl, hd _ rfl, fun js => ⟨rfl, Or.inl ⟨⟨js, rfl⟩, trivial⟩⟩⟩) (fun _ => Tr.all_ok ⟨rfl, rfl, ht rfl, hd _ rfl, fun js => ⟨rfl, Or.inr (⟨⟨js, rfl⟩, trivial⟩)⟩⟩)
  · rintro x s ac w ⟨rfl, hq⟩ hat
    rcases hq with ⟨⟨js, rfl⟩, hcond⟩ | ⟨⟨js, rfl⟩, hcond⟩
    · have h1 := at_can hat
      obtain ⟨us, h2⟩ := at_forget 3 [false, false, false, false, false, false, false, false, false, false, false, false, false, false, false, false, false, true, false, false] rfl rfl h1
      refine ⟨_, h2, [.raw (vs 0), .raw (vs 1), .raw (vs 2), .raw (vs 3), .raw (vs 4), .raw (vs 5), .raw (vs 6), .raw (vs 7), .raw (vs 8), .raw (vs 9), .raw (vs 10), .raw (vs 11), .raw (vs 12), .raw (vs 13), .raw (vs 14), .nilp, .nilp, .raw (us 17), .raw vq, .nils], _, [], _, WG s0 s1 s2 (.idle .nil (us 17) _), ?_, rfl, rfl, rfl, fun n => ((WG_3 _ s0 s1 s2 _ n)).trans rfl, rfl, s0, s1, s2, (.idle .nil (us 17) _), _, _, _, _, ⟨js, rfl⟩, rfl, rfl, by show 4 ≤ 6; omega, ?_, ⟨(WS.ok_mono (Nat.le_succ _) ho.1), (WS.ok_mono (Nat.le_succ _) ho.2.1), (WS.ok_mono (Nat.le_succ _) ho.2.2), trivial⟩, by omega, by omega, by omega, by omega⟩
      · rfl
      · simp [hw]
    · have h1 := at_can hat
      refine ⟨_, h1, [.raw (vs 0), .raw (vs 1), .raw (vs 2), .raw (vs 3), .raw (vs 4), .raw (vs 5), .raw (vs 6), .raw (vs 7), .raw (vs 8), .raw (vs 9), .raw (vs 10), .raw (vs 11), .raw (vs 12), .raw (vs 13), .raw (vs 14), .ptr 4 0, .nilp, .ptr 5 0, .raw vq, .nils], _, [(4, 40), (5, 41)], _, WG s0 s1 s2 (.pop 2 _ _ .nil _), ?_, rfl, rfl, rfl, fun n => ((WG_3 _ s0 s1 s2 _ n)).trans rfl, rfl, s0, s1, s2, (.pop 2 _ _ .nil _), _, _, _, _, ⟨js, rfl⟩, rfl, rfl, by show 4 ≤ 6; omega, ?_, ⟨(WS.ok_mono (Nat.le_succ _) ho.1), (WS.ok_mono (Nat.le_succ _) ho.2.1), (WS.ok_mono (Nat.le_succ _) ho.2.2), ⟨by omega, trivial⟩⟩, by omega, by omega, by omega, by omega⟩
      · rfl
      · simp [hw]
theorem w3ie (K : Nat) (vp : Value) (vq : Value) (s0 s1 s2 : WS)   (ho : okO K s0 s1 s2) (hK6 : K ≤ 1000000) : TriX MS (listX Try.prog four) E ⟨pre n0 np false i ++ [.v (.int .i64 (.lit 7))] ++ junk js 58 11, base ps ws c c2 t (.abs (.grp (WG s0 s1 s2 (.idle (.es) vp vq)))), 4, []⟩ (Mid n0 np i ps ws c c2 K) := by
  refine tri_group (mono_list _) 3 (WG s0 s1 s2 (.idle (.es) vp vq)) [] (wo 10 s0 ++ (wo 20 s1 ++ wo 30 s2)) M5q3 (WL s0 s1 s2 (.idle (.es) vp vq)) _ 75 [] (Z3 40) rfl (fun n => (WG_3 _ s0 s1 s2 (.idle (.es) vp vq) n)) (by simp [Z3, Nat.beq]) (by simp) rfl rfl (hZL5q3 _ s0 s1 s2) (hZF5q3 (.es) s0 s1 s2) rfl rfl (by rw [hT]; exact Nat.le_of_ble_eq_true rfl) (hD 3 (by decide)) ?_
  intro vs E1 e1 e2 e3
  show TriX MS (listX Try.prog four) E1 ⟨pre n0 np false i ++ [.v (.int .i64 (.lit 7))] ++ junk js 58 11, base ps ws c c2 t (.cells [.raw (vs 0), .raw (vs 1), .raw (vs 2), .raw (vs 3), .raw (vs 4), .raw (vs 5), .raw (vs 6), .raw (vs 7), .raw (vs 8), .raw (vs 9), .raw (vs 10), .raw (vs 11), .raw (vs 12), .raw (vs 13), .raw (vs 14), .nilp, .nilp, .raw vp, .raw vq, .es true] 75), 4, []⟩ _
  have ht : ∀ {k : Nat}, Nat.ble k 40 = true → k ≤ E1.top := fun h => by rw [e2, hT]; exact Nat.le_of_ble_eq_true h
  have hd : ∀ (l : List Nat), l.all (Nat.ble 1) = true → ∀ b, b ∈ l → E1.D b := fun l hl b hb => e3 b (hD b (Nat.le_of_ble_eq_true (List.all_eq_true.1 hl b hb)))
  refine TriX.postE (mono_list _) (Q := fun x s => x = .normal ∧ (((∃ js, s = ⟨(q3ie_l0 n0 i c c2 t np ps ws vs vq).pre ++ junk js 59 10, (q3ie_l0 n0 i c c2 t np ps ws vs vq).hp, (q3ie_l0 n0 i c c2 t np ps ws vs vq).nid, []⟩) ∧ True) ∨ ((∃ js, s = ⟨(q3ie_l1 n0 i c c2 t np ps ws vs vq).pre ++ junk js 59 10, (q3ie_l1 n0 i c c2 t np ps ws vs vq).hp, (q3ie_l1 n0 i c c2 t np ps ws vs vq).nid, []⟩) ∧ True))) (TriX.listR (m := 10) (n := 59) codeOK (q3ie n0 i c c2 t np ps ws vs js vp vq hw hc hc2) ?_) ?_
  · exact Tr.all_ite (fun _ => Tr.all_ok ⟨rfl, rfl, ht rfl, hd _ rfl, fun js => ⟨rfl, Or.inl ⟨⟨js, rfl⟩, trivial⟩⟩⟩) (fun _ => Tr.all_ok ⟨rfl, rfl, ht rfl, hd _ rfl, fun js => ⟨rfl, Or.inr (⟨⟨js, rfl⟩, trivial⟩)⟩⟩)
  · rintro x s ac w ⟨rfl, hq⟩ hat
    rcases hq with ⟨⟨js, rfl⟩, hcond⟩ | ⟨⟨js, rfl⟩, hcond⟩
    · have h1 := at_can hat
      obtain ⟨us, h2⟩ := at_forget 3 [false, false, false, false, false, false, false, false, false, false, false, false, false, false, false, false, false, true, false, false] rfl rfl h1
      refine ⟨_, h2, [.raw (vs 0), .raw (vs 1), .raw (vs 2), .raw (vs 3), .raw (vs 4), .raw (vs 5), .raw (vs 6), .raw (vs 7), .raw (vs 8), .raw (vs 9), .raw (vs 10), .raw (vs 11), .raw (vs 12), .raw (vs 13), .raw (vs 14), .nilp, .nilp, .raw (us 17), .raw vq, .es true], _, [], _, WG s0 s1 s2 (.idle .es (us 17) _), ?_, rfl, rfl, rfl, fun n => ((WG_3 _ s0 s1 s2 _ n)).trans rfl, rfl, s0, s1, s2, (.idle .es (us 17) _), _, _, _, _, ⟨js, rfl⟩, rfl, rfl, by show 4 ≤ 6; omega, ?_, ⟨(WS.ok_mono (Nat.le_succ _) ho.1), (WS.ok_mono (Nat.le_succ _) ho.2.1), (WS.ok_mono (Nat.le_succ _) ho.2.2), trivial⟩, by omega, by omega, by omega, by omega⟩
      · rfl
      · simp [hw]
    · have h1 := at_can hat
      refine ⟨_, h1, [.raw (vs 0), .raw (vs 1), .raw (vs 2), .raw (vs 3), .raw (vs 4), .raw (vs 5), .raw (vs 6), .raw (vs 7), .raw (vs 8), .raw (vs 9), .raw (vs 10), .raw (vs 11), .raw (vs 12), .raw (vs 13), .raw (vs 14), .ptr 4 0, .nilp, .ptr 5 0, .raw vq, .es true], _, [(4, 40), (5, 41)], _, WG s0 s1 s2 (.pop 2 _ _ .es _), ?_, rfl, rfl, rfl, fun n => ((WG_3 _ s0 s1 s2 _ n)).trans rfl, rfl, s0, s1, s2, (.pop 2 _ _ .es _), _, _, _, _, ⟨js, rfl⟩, rfl, rfl, by show 4 ≤ 6; omega, ?_, ⟨(WS.ok_mono (Nat.le_succ _) ho.1), (WS.ok_mono (Nat.le_succ _) ho.2.1), (WS.ok_mono (Nat.le_succ _) ho.2.2), ⟨by omega, trivial⟩⟩, by omega, by omega, by omega, by omega⟩
      · rfl
      · simp [hw]
theorem w3it (K : Nat) (vp : Value) (vq : Value) (rows : List (List Int)) (s0 s1 s2 : WS) (hr : 0 < rows.length ∧ rows.length ≤ 1000000) (hKr : rows.length ≤ K)  (ho : okO K s0 s1 s2) (hK6 : K ≤ 1000000) : TriX MS (listX Try.prog four) E ⟨pre n0 np false i ++ [.v (.int .i64 (.lit 7))] ++ junk js 58 11, base ps ws c c2 t (.abs (.grp (WG s0 s1 s2 (.idle (.tab rows) vp vq)))), 4, []⟩ (Mid n0 np i ps ws c c2 K) := by
  refine tri_group (mono_list _) 3 (WG s0 s1 s2 (.idle (.tab rows) vp vq)) [(42, some (tabO rows))] (wo 10 s0 ++ (wo 20 s1 ++ wo 30 s2)) M5q3 (WL s0 s1 s2 (.idle (.tab rows) vp vq)) _ 75 [(4, some (.tab [.int .i64] rows 3))] (Z3 40) rfl (fun n => (WG_3 _ s0 s1 s2 (.idle (.tab rows) vp vq) n)) (by simp [Z3, Nat.beq]) (by simp) rfl rfl (hZL5q3 _ s0 s1 s2) (hZF5q3 (.tab rows) s0 s1 s2) rfl rfl (by rw [hT]; exact Nat.le_of_ble_eq_true rfl) (hD 3 (by decide)) ?_
  intro vs E1 e1 e2 e3
  show TriX MS (listX Try.prog four) E1 ⟨pre n0 np false i ++ [.v (.int .i64 (.lit 7))] ++ junk js 58 11, [(4, some (.tab [.int .i64] rows 3))] ++ base ps ws c c2 t (.cells [.raw (vs 0), .raw (vs 1), .raw (vs 2), .raw (vs 3), .raw (vs 4), .raw (vs 5), .raw (vs 6), .raw (vs 7), .raw (vs 8), .raw (vs 9), .raw (vs 10), .raw (vs 11), .raw (vs 12), .raw (vs 13), .raw (vs 14), .nilp, .nilp, .raw vp, .raw vq, .ts 4 (.lit 0) (.sym rows.length) none] 75), 5, []⟩ _
  have ht : ∀ {k : Nat}, Nat.ble k 40 = true → k ≤ E1.top := fun h => by rw [e2, hT]; exact Nat.le_of_ble_eq_true h
  have hd : ∀ (l : List Nat), l.all (Nat.ble 1) = true → ∀ b, b ∈ l → E1.D b := fun l hl b hb => e3 b (hD b (Nat.le_of_ble_eq_true (List.all_eq_true.1 hl b hb)))
  refine TriX.postE (mono_list _) (Q := fun x s => x = .normal ∧ (((∃ js, s = ⟨(q3it_l0 n0 i c c2 t np ps ws vs vp rows).pre ++ junk js 59 10, (q3it_l0 n0 i c c2 t np ps ws vs vp rows).hp, (q3it_l0 n0 i c c2 t np ps ws vs vp rows).nid, []⟩) ∧ 1 < rows.length) ∨ ((∃ js, s = ⟨(q3it_l1 n0 i c c2 t np ps ws vs vp rows).pre ++ junk js 59 10, (q3it_l1 n0 i c c2 t np ps ws vs vp rows).hp, (q3it_l1 n0 i c c2 t np ps ws vs vp rows).nid, []⟩) ∧ True))) (TriX.listR (m := 10) (n := 59) codeOK (q3it n0 i c c2 t np ps ws vs js vp vq rows hw hc hc2 hr) ?_) ?_
  · exact Tr.all_ite (fun e => Tr.all_ok ⟨rfl, rfl, ht rfl, hd _ rfl, fun js => ⟨rfl, Or.inl ⟨⟨js, rfl⟩, (by have := of_decide_eq_true e; omega)⟩⟩⟩) (fun _ => Tr.all_ok ⟨rfl, rfl, ht rfl, hd _ rfl, fun js => ⟨rfl, Or.inr (⟨⟨js, rfl⟩, trivial⟩)⟩⟩)
  · rintro x s ac w ⟨rfl, hq⟩ hat
    rcases hq with ⟨⟨js, rfl⟩, hcond⟩ | ⟨⟨js, rfl⟩, hcond⟩
    · have h1 := at_can hat
      refine ⟨_, h1, [.raw (vs 0), .raw (vs 1), .raw (vs 2), .raw (vs 3), .raw (vs 4), .raw (vs 5), .raw (vs 6), .raw (vs 7), .raw (vs 8), .raw (vs 9), .raw (vs 10), .raw (vs 11), .raw (vs 12), .raw (vs 13), .raw (vs 14), .nilp, .ptr 7 0, .raw vp, .ptr 8 0, .ts 6 (.lit 0) (.sym _) none], _, [(7, 40), (8, 41), (6, 42)], _, WG s0 s1 s2 (.push 2 _ _ (.tab _) _), ?_, rfl, rfl, rfl, fun n => ((WG_3 _ s0 s1 s2 _ n)).trans rfl, rfl, s0, s1, s2, (.push 2 _ _ (.tab _) _), _, _, _, _, ⟨js, rfl⟩, rfl, rfl, by show 4 ≤ 9; omega, ?_, ⟨(WS.ok_mono (Nat.le_succ _) ho.1), (WS.ok_mono (Nat.le_succ _) ho.2.1), (WS.ok_mono (Nat.le_succ _) ho.2.2), ⟨by omega, (by first | exact ⟨hr.1, by omega⟩ | (constructor <;> simp <;> omega))⟩⟩, by omega, by omega, by omega, by omega⟩
      · exact congrArg (fun m => some (VObj.cells [.raw (vs 0), .raw (vs 1), .raw (vs 2), .raw (vs 3), .raw (vs 4), .raw (vs 5), .raw (vs 6), .raw (vs 7), .raw (vs 8), .raw (vs 9), .raw (vs 10), .raw (vs 11), .raw (vs 12), .raw (vs 13), .raw (vs 14), .nilp, .ptr 7 0, .raw vp, .ptr 8 0, .ts 6 (.lit 0) (.sym m) none] 75)) (by first | rfl | (simp [SN.val]; done) | (simp [SN.val] <;> omega))
      · simp [hw]
    · have h1 := at_can hat
      refine ⟨_, h1, [.raw (vs 0), .raw (vs 1), .raw (vs 2), .raw (vs 3), .raw (vs 4), .raw (vs 5), .raw (vs 6), .raw (vs 7), .raw (vs 8), .raw (vs 9), .raw (vs 10), .raw (vs 11), .raw (vs 12), .raw (vs 13), .raw (vs 14), .nilp, .ptr 6 0, .raw vp, .ptr 7 0, .es true], _, [(6, 40), (7, 41)], _, WG s0 s1 s2 (.push 2 _ _ .es _), ?_, rfl, rfl, rfl, fun n => ((WG_3 _ s0 s1 s2 _ n)).trans rfl, rfl, s0, s1, s2, (.push 2 _ _ .es _), _, _, _, _, ⟨js, rfl⟩, rfl, rfl, by show 4 ≤ 8; omega, ?_, ⟨(WS.ok_mono (Nat.le_succ _) ho.1), (WS.ok_mono (Nat.le_succ _) ho.2.1), (WS.ok_mono (Nat.le_succ _) ho.2.2), ⟨by omega, trivial⟩⟩, by omega, by omega, by omega, by omega⟩
      · rfl
      · simp [hw]
theorem w3p1 (K : Nat) (w : Int) (l : Int) (vq : Value) (kk : Int) (h : HS) (s0 s1 s2 : WS) (hkk : kk.tmod 4 = 3) (hK : h.ok K) (ho : okO K s0 s1 s2) (hK6 : K ≤ 1000000) : TriX MS (listX Try.prog four) E ⟨pre n0 np false i ++ [.v (.int .i64 (.sym kk))] ++ junk js 58 11, base ps ws c c2 t (.abs (.grp (WG s0 s1 s2 (.pop 1 w l h vq)))), 4, []⟩ (Mid n0 np i ps ws c c2 K) := by
  refine tri_group (mono_list _) 3 (WG s0 s1 s2 (.pop 1 w l h vq)) [(40, some (popO 1 w l)), (41, some (rpopO 1 w l))] (hobj 40 h ++ (wo 10 s0 ++ (wo 20 s1 ++ wo 30 s2))) M4q3 (WL s0 s1 s2 (.pop 1 w l h vq)) _ 75 [(4, some (ofU (popO 1 w l))), (5, some (ofU (rpopO 1 w l)))] (Z2 40) rfl (fun n => (WG_3 _ s0 s1 s2 (.pop 1 w l h vq) n)) (by simp [Z2, Nat.beq]) (by simp) rfl rfl (hZL4q3 _ s0 s1 s2) (hZF4q3 h s0 s1 s2) rfl rfl (by rw [hT]; exact Nat.le_of_ble_eq_true rfl) (hD 3 (by decide)) ?_
  intro vs E1 e1 e2 e3
  show TriX MS (listX Try.prog four) E1 ⟨pre n0 np false i ++ [.v (.int .i64 (.sym kk))] ++ junk js 58 11, [(4, some (ofU (popO 1 w l))), (5, some (ofU (rpopO 1 w l)))] ++ base ps ws c c2 t (.cells [.raw (vs 0), .raw (vs 1), .raw (vs 2), .raw (vs 3), .raw (vs 4), .raw (vs 5), .raw (vs 6), .raw (vs 7), .raw (vs 8), .raw (vs 9), .raw (vs 10), .raw (vs 11), .raw (vs 12), .raw (vs 13), .raw (vs 14), .ptr 4 0, .nilp, .ptr 5 0, .raw vq, .raw (vs 19)] 75), 6, []⟩ _
  have ht : ∀ {k : Nat}, Nat.ble k 40 = true → k ≤ E1.top := fun h => by rw [e2, hT]; exact Nat.le_of_ble_eq_true h
  have hd : ∀ (l : List Nat), l.all (Nat.ble 1) = true → ∀ b, b ∈ l → E1.D b := fun l hl b hb => e3 b (hD b (Nat.le_of_ble_eq_true (List.all_eq_true.1 hl b hb)))
  refine TriX.postE (mono_list _) (Q := fun x s => x = .normal ∧ (((∃ js, s = ⟨(q3p1_l0 n0 i c c2 t np ps ws vs l vq).pre ++ junk js 59 10, (q3p1_l0 n0 i c c2 t np ps ws vs l vq).hp, (q3p1_l0 n0 i c c2 t np ps ws vs l vq).nid, []⟩) ∧ True) ∨ ((∃ js, s = ⟨(q3p1_l1 n0 i c c2 t np ps ws vs l vq).pre ++ junk js 59 10, (q3p1_l1 n0 i c c2 t np ps ws vs l vq).hp, (q3p1_l1 n0 i c c2 t np ps ws vs l vq).nid, []⟩) ∧ True))) (TriX.listR (m := 10) (n := 59) codeOK (q3p1 n0 i c c2 t np ps ws vs js kk w l vq hw hc hc2 hkk) ?_) ?_
  · exact Tr.all_ite (fun _ => Tr.all_ok ⟨rfl, rfl, ht rfl, hd _ rfl, fun js => ⟨rfl, Or.inl ⟨⟨js, rfl⟩, trivial⟩⟩⟩) (fun _ => Tr.all_ok ⟨rfl, rfl, ht rfl, hd _ rfl, fun js => ⟨rfl, Or.inr (⟨⟨js, rfl⟩, trivial⟩)⟩⟩)
  · rintro x s ac w ⟨rfl, hq⟩ hat
    rcases hq with ⟨⟨js, rfl⟩, hcond⟩ | ⟨⟨js, rfl⟩, hcond⟩
    · have h1 := at_can hat
      obtain ⟨us, h2⟩ := at_forget 3 [false, false, false, false, false, false, false, false, false, false, false, false, false, false, false, false, false, true, false, false] rfl rfl h1
      refine ⟨_, h2, [.raw (vs 0), .raw (vs 1), .raw (vs 2), .raw (vs 3), .raw (vs 4), .raw (vs 5), .raw (vs 6), .raw (vs 7), .raw (vs 8), .raw (vs 9), .raw (vs 10), .raw (vs 11), .raw (vs 12), .raw (vs 13), .raw (vs 14), .nilp, .nilp, .raw (us 17), .raw vq, .raw (vs 19)], _, [], _, WG s0 s1 s2 (.idle h (us 17) _), ?_, rfl, rfl, rfl, fun n => ((WG_3 _ s0 s1 s2 _ n)).trans rfl, rfl, s0, s1, s2, (.idle h (us 17) _), _, _, _, _, ⟨js, rfl⟩, rfl, rfl, by show 4 ≤ 6; omega, ?_, ⟨(WS.ok_mono (Nat.le_succ _) ho.1), (WS.ok_mono (Nat.le_succ _) ho.2.1), (WS.ok_mono (Nat.le_succ _) ho.2.2), HS.ok_mono (Nat.le_succ _) hK⟩, by omega, by omega, by omega, by omega⟩
      · rfl
      · simp [hw]
    · have h1 := at_can hat
      refine ⟨_, h1, [.raw (vs 0), .raw (vs 1), .raw (vs 2), .raw (vs 3), .raw (vs 4), .raw (vs 5), .raw (vs 6), .raw (vs 7), .raw (vs 8), .raw (vs 9), .raw (vs 10), .raw (vs 11), .raw (vs 12), .raw (vs 13), .raw (vs 14), .ptr 4 0, .nilp, .ptr 5 0, .raw vq, .raw (vs 19)], _, [(4, 40), (5, 41)], _, WG s0 s1 s2 (.pop 2 _ _ h _), ?_, rfl, rfl, rfl, fun n => ((WG_3 _ s0 s1 s2 _ n)).trans rfl, rfl, s0, s1, s2, (.pop 2 _ _ h _), _, _, _, _, ⟨js, rfl⟩, rfl, rfl, by show 4 ≤ 6; omega, ?_, ⟨(WS.ok_mono (Nat.le_succ _) ho.1), (WS.ok_mono (Nat.le_succ _) ho.2.1), (WS.ok_mono (Nat.le_succ _) ho.2.2), ⟨by omega, HS.ok_mono (Nat.le_succ _) hK⟩⟩, by omega, by omega, by omega, by omega⟩
      · rfl
      · simp [hw]
theorem w3p2 (K : Nat) (w : Int) (l : Int) (vq : Value) (kk : Int) (h : HS) (s0 s1 s2 : WS) (hkk : kk.tmod 4 = 3) (hK : h.ok K) (ho : okO K s0 s1 s2) (hK6 : K ≤ 1000000) : TriX MS (listX Try.prog four) E ⟨pre n0 np false i ++ [.v (.int .i64 (.sym kk))] ++ junk js 58 11, base ps ws c c2 t (.abs (.grp (WG s0 s1 s2 (.pop 2 w l h vq)))), 4, []⟩ (Mid n0 np i ps ws c c2 K) := by
  refine tri_group (mono_list _) 3 (WG s0 s1 s2 (.pop 2 w l h vq)) [(40, some (popO 2 w l)), (41, some (rpopO 2 w l))] (hobj 40 h ++ (wo 10 s0 ++ (wo 20 s1 ++ wo 30 s2))) M4q3 (WL s0 s1 s2 (.pop 2 w l h vq)) _ 75 [(4, some (ofU (popO 2 w l))), (5, some (ofU (rpopO 2 w l)))] (Z2 40) rfl (fun n => (WG_3 _ s0 s1 s2 (.pop 2 w l h vq) n)) (by simp [Z2, Nat.beq]) (by simp) rfl rfl (hZL4q3 _ s0 s1 s2) (hZF4q3 h s0 s1 s2) rfl rfl (by rw [hT]; exact Nat.le_of_ble_eq_true rfl) (hD 3 (by decide)) ?_
  intro vs E1 e1 e2 e3
  show TriX MS (listX Try.prog four) E1 ⟨pre n0 np false i ++ [.v (.int .i64 (.sym kk))] ++ junk js 58 11, [(4, some (ofU (popO 2 w l))), (5, some (ofU (rpopO 2 w l)))] ++ base ps ws c c2 t (.cells [.raw (vs 0), .raw (vs 1), .raw (vs 2), .raw (vs 3), .raw (vs 4), .raw (vs 5), .raw (vs 6), .raw (vs 7), .raw (vs 8), .raw (vs 9), .raw (vs 10), .raw (vs 11), .raw (vs 12), .raw (vs 13), .raw (vs 14), .ptr 4 0, .nilp, .ptr 5 0, .raw vq, .raw (vs 19)] 75), 6, []⟩ _
  have ht : ∀ {k : Nat}, Nat.ble k 40 = true → k ≤ E1.top := fun h => by rw [e2, hT]; exact Nat.le_of_ble_eq_true h
  have hd : ∀ (l : List Nat), l.all (Nat.ble 1) = true → ∀ b, b ∈ l → E1.D b := fun l hl b hb => e3 b (hD b (Nat.le_of_ble_eq_true (List.all_eq_true.1 hl b hb)))
  refine TriX.postE (mono_list _) (Q := fun x s => x = .normal ∧ (((∃ js, s = ⟨(q3p2_l0 n0 i c c2 t np ps ws vs w vq).pre ++ junk js 59 10, (q3p2_l0 n0 i c c2 t np ps ws vs w vq).hp, (q3p2_l0 n0 i c c2 t np ps ws vs w vq).nid, []⟩) ∧ True) ∨ ((∃ js, s = ⟨(q3p2_l1 n0 i c c2 t np ps ws vs w vq).pre ++ junk js 59 10, (q3p2_l1 n0 i c c2 t np ps ws vs w vq).hp, (q3p2_l1 n0 i c c2 t np ps ws vs w vq).nid, []⟩) ∧ True))) (TriX.listR (m := 10) (n := 59) codeOK (q3p2 n0 i c c2 t np ps ws vs js kk w l vq hw hc hc2 hkk) ?_) ?_
  · exact Tr.all_ite (fun _ => Tr.all_ok ⟨rfl, rfl, ht rfl, hd _ rfl, fun js => ⟨rfl, Or.inl ⟨⟨js, rfl⟩, trivial⟩⟩⟩) (fun _ => Tr.all_ok ⟨rfl, rfl, ht rfl, hd _ rfl, fun js => ⟨rfl, Or.inr (⟨⟨js, rfl⟩, trivial⟩)⟩⟩)
  · rintro x s ac w ⟨rfl, hq⟩ hat
    rcases hq with ⟨⟨js, rfl⟩, hcond⟩ | ⟨⟨js, rfl⟩, hcond⟩
    · have h1 := at_can hat
      refine ⟨_, h1, [.raw (vs 0), .raw (vs 1), .raw (vs 2), .raw (vs 3), .raw (vs 4), .raw (vs 5), .raw (vs 6), .raw (vs 7), .raw (vs 8), .raw (vs 9), .raw (vs 10), .raw (vs 11), .raw (vs 12), .raw (vs 13), .raw (vs 14), .ptr 4 0, .nilp, .ptr 5 0, .raw vq, .raw (vs 19)], _, [(4, 40), (5, 41)], _, WG s0 s1 s2 (.pop 3 _ _ h _), ?_, rfl, rfl, rfl, fun n => ((WG_3 _ s0 s1 s2 _ n)).trans rfl, rfl, s0, s1, s2, (.pop 3 _ _ h _), _, _, _, _, ⟨js, rfl⟩, rfl, rfl, by show 4 ≤ 6; omega, ?_, ⟨(WS.ok_mono (Nat.le_succ _) ho.1), (WS.ok_mono (Nat.le_succ _) ho.2.1), (WS.ok_mono (Nat.le_succ _) ho.2.2), ⟨by omega, HS.ok_mono (Nat.le_succ _) hK⟩⟩, by omega, by omega, by omega, by omega⟩
      · rfl
      · simp [hw]
    · have h1 := at_can hat
      refine ⟨_, h1, [.raw (vs 0), .raw (vs 1), .raw (vs 2), .raw (vs 3), .raw (vs 4), .raw (vs 5), .raw (vs 6), .raw (vs 7), .raw (vs 8), .raw (vs 9), .raw (vs 10), .raw (vs 11), .raw (vs 12), .raw (vs 13), .raw (vs 14), .ptr 4 0, .nilp, .ptr 5 0, .raw vq, .raw (vs 19)], _, [(4, 40), (5, 41)], _, WG s0 s1 s2 (.pop 3 _ _ h _), ?_, rfl, rfl, rfl, fun n => ((WG_3 _ s0 s1 s2 _ n)).trans rfl, rfl, s0, s1, s2, (.pop 3 _ _ h _), _, _, _, _, ⟨js, rfl⟩, rfl, rfl, by show 4 ≤ 6; omega, ?_, ⟨(WS.ok_mono (Nat.le_succ _) ho.1), (WS.ok_mono (Nat.le_succ _) ho.2.1), (WS.ok_mono (Nat.le_succ _) ho.2.2), ⟨by omega, HS.ok_mono (Nat.le_succ _) hK⟩⟩, by omega, by omega, by omega, by omega⟩
      · rfl
      · simp [hw]
theorem w3p3n (K : Nat) (w : Int) (l : Int) (vq : Value) (kk : Int) (s0 s1 s2 : WS) (hkk : kk.tmod 4 = 3)  (ho : okO K s0 s1 s2) (hK6 : K ≤ 1000000) : TriX MS (listX Try.prog four) E ⟨pre n0 np false i ++ [.v (.int .i64 (.sym kk))] ++ junk js 58 11, base ps ws c c2 t (.abs (.grp (WG s0 s1 s2 (.pop 3 w l (.nil) vq)))), 4, []⟩ (Mid n0 np i ps ws c c2 K) := by
  refine tri_group (mono_list _) 3 (WG s0 s1 s2 (.pop 3 w l (.nil) vq)) [(40, some (popO 3 w l)), (41, some (rpopO 3 w l))] (wo 10 s0 ++ (wo 20 s1 ++ wo 30 s2)) M5q3 (WL s0 s1 s2 (.pop 3 w l (.nil) vq)) _ 75 [(4, some (ofU (popO 3 w l))), (5, some (ofU (rpopO 3 w l)))] (Z3 40) rfl (fun n => (WG_3 _ s0 s1 s2 (.pop 3 w l (.nil) vq) n)) (by simp [Z3, Nat.beq]) (by simp) rfl rfl (hZL5q3 _ s0 s1 s2) (hZF5q3 (.nil) s0 s1 s2) rfl rfl (by rw [hT]; exact Nat.le_of_ble_eq_true rfl) (hD 3 (by decide)) ?_
  intro vs E1 e1 e2 e3
  show TriX MS (listX Try.prog four) E1 ⟨pre n0 np false i ++ [.v (.int .i64 (.sym kk))] ++ junk js 58 11, [(4, some (ofU (popO 3 w l))), (5, some (ofU (rpopO 3 w l)))] ++ base ps ws c c2 t (.cells [.raw (vs 0), .raw (vs 1), .raw (vs 2), .raw (vs 3), .raw (vs 4), .raw (vs 5), .raw (vs 6), .raw (vs 7), .raw (vs 8), .raw (vs 9), .raw (vs 10), .raw (vs 11), .raw (vs 12), .raw (vs 13), .raw (vs 14), .ptr 4 0, .nilp, .ptr 5 0, .raw vq, .nils] 75), 6, []⟩ _
  have ht : ∀ {k : Nat}, Nat.ble k 40 = true → k ≤ E1.top := fun h => by rw [e2, hT]; exact Nat.le_of_ble_eq_true h
  have hd : ∀ (l : List Nat), l.all (Nat.ble 1) = true → ∀ b, b ∈ l → E1.D b := fun l hl b hb => e3 b (hD b (Nat.le_of_ble_eq_true (List.all_eq_true.1 hl b hb)))
  refine TriX.postE (mono_list _) (Q := fun x s => x = .normal ∧ (((∃ js, s = ⟨(q3p3n_l0 n0 i c c2 t np ps ws vs w l vq).pre ++ junk js 59 10, (q3p3n_l0 n0 i c c2 t np ps ws vs w l vq).hp, (q3p3n_l0 n0 i c c2 t np ps ws vs w l vq).nid, []⟩) ∧ True) ∨ ((∃ js, s = ⟨(q3p3n_l1 n0 i c c2 t np ps ws vs w l vq).pre ++ junk js 59 10, (q3p3n_l1 n0 i c c2 t np ps ws vs w l vq).hp, (q3p3n_l1 n0 i c c2 t np ps ws vs w l vq).nid, []⟩) ∧ True) ∨ ((∃ js, s = ⟨(q3p3n_l2 n0 i c c2 t np ps ws vs w l vq).pre ++ junk js 59 10, (q3p3n_l2 n0 i c c2 t np ps ws vs w l vq).hp, (q3p3n_l2 n0 i c c2 t np ps ws vs w l vq).nid, []⟩) ∧ True))) (TriX.listR (m := 10) (n := 59) codeOK (q3p3n n0 i c c2 t np ps ws vs js kk w l vq hw hc hc2 hkk) ?_) ?_
  · exact Tr.all_ite (fun _ => Tr.all_ite (fun _ => Tr.all_ok ⟨rfl, rfl, ht rfl, hd _ rfl, fun js => ⟨rfl, Or.inl ⟨⟨js, rfl⟩, trivial⟩⟩⟩) (fun _ => Tr.all_ok ⟨rfl, rfl, ht rfl, hd _ rfl, fun js => ⟨rfl, Or.inr (Or.inl ⟨⟨js, rfl⟩, trivial⟩)⟩⟩)) (fun _ => Tr.all_ok ⟨rfl, rfl, ht rfl, hd _ rfl, fun js => ⟨rfl, Or.inr (Or.inr (⟨⟨js, rfl⟩, trivial⟩))⟩⟩)
  · rintro x s ac w ⟨rfl, hq⟩ hat
    rcases hq with ⟨⟨js, rfl⟩, hcond⟩ | ⟨⟨js, rfl⟩, hcond⟩ | ⟨⟨js, rfl⟩, hcond⟩
    · have h1 := at_can hat
      obtain ⟨us, h2⟩ := at_forget 3 [false, false, false, false, false, false, false, false, false, false, false, false, false, false, false, false, false, true, false, false] rfl rfl h1
      refine ⟨_, h2, [.raw (vs 0), .raw (vs 1), .raw (vs 2), .raw (vs 3), .raw (vs 4), .raw (vs 5), .raw (vs 6), .raw (vs 7), .raw (vs 8), .raw (vs 9), .raw (vs 10), .raw (vs 11), .raw (vs 12), .raw (vs 13), .raw (vs 14), .nilp, .nilp, .raw (us 17), .raw vq, .ts 7 (.lit 0) (.sym _) none], _, [(7, 42)], _, WG s0 s1 s2 (.idle (.tab _) (us 17) _), ?_, rfl, rfl, rfl, fun n => ((WG_3 _ s0 s1 s2 _ n)).trans rfl, rfl, s0, s1, s2, (.idle (.tab _) (us 17) _), _, _, _, _, ⟨js, rfl⟩, rfl, rfl, by show 4 ≤ 8; omega, ?_, ⟨(WS.ok_mono (Nat.le_succ _) ho.1), (WS.ok_mono (Nat.le_succ _) ho.2.1), (WS.ok_mono (Nat.le_succ _) ho.2.2), (by first | exact ⟨hr.1, by omega⟩ | (constructor <;> simp <;> omega))⟩, by omega, by omega, by omega, by omega⟩
      · exact congrArg (fun m => some (VObj.cells [.raw (vs 0), .raw (vs 1), .raw (vs 2), .raw (vs 3), .raw (vs 4), .raw (vs 5), .raw (vs 6), .raw (vs 7), .raw (vs 8), .raw (vs 9), .raw (vs 10), .raw (vs 11), .raw (vs 12), .raw (vs 13), .raw (vs 14), .nilp, .nilp, .raw (us 17), .raw vq, .ts 7 (.lit 0) (.sym m) none] 75)) (by first | rfl | (simp [SN.val]; done) | (simp [SN.val] <;> omega))
      · simp [hw]
    · have h1 := at_can hat
      obtain ⟨us, h2⟩ := at_forget 3 [false, false, false, false, false, false, false, false, false, false, false, false, false, false, false, false, false, true, false, false] rfl rfl h1
      refine ⟨_, h2, [.raw (vs 0), .raw (vs 1), .raw (vs 2), .raw (vs 3), .raw (vs 4), .raw (vs 5), .raw (vs 6), .raw (vs 7), .raw (vs 8), .raw (vs 9), .raw (vs 10), .raw (vs 11), .raw (vs 12), .raw (vs 13), .raw (vs 14), .nilp, .nilp, .raw (us 17), .raw vq, .nils], _, [], _, WG s0 s1 s2 (.idle .nil (us 17) _), ?_, rfl, rfl, rfl, fun n => ((WG_3 _ s0 s1 s2 _ n)).trans rfl, rfl, s0, s1, s2, (.idle .nil (us 17) _), _, _, _, _, ⟨js, rfl⟩, rfl, rfl, by show 4 ≤ 6; omega, ?_, ⟨(WS.ok_mono (Nat.le_succ _) ho.1), (WS.ok_mono (Nat.le_succ _) ho.2.1), (WS.ok_mono (Nat.le_succ _) ho.2.2), trivial⟩, by omega, by omega, by omega, by omega⟩
      · rfl
      · simp [hw]
    · have h1 := at_can hat
      refine ⟨_, h1, [.raw (vs 0), .raw (vs 1), .raw (vs 2), .raw (vs 3), .raw (vs 4), .raw (vs 5), .raw (vs 6), .raw (vs 7), .raw (vs 8), .raw (vs 9), .raw (vs 10), .raw (vs 11), .raw (vs 12), .raw (vs 13), .raw (vs 14), .ptr 4 0, .nilp, .ptr 5 0, .raw vq, .nils], _, [(4, 40), (5, 41)], _, WG s0 s1 s2 (.pop 1 _ _ .nil _), ?_, rfl, rfl, rfl, fun n => ((WG_3 _ s0 s1 s2 _ n)).trans rfl, rfl, s0, s1, s2, (.pop 1 _ _ .nil _), _, _, _, _, ⟨js, rfl⟩, rfl, rfl, by show 4 ≤ 6; omega, ?_, ⟨(WS.ok_mono (Nat.le_succ _) ho.1), (WS.ok_mono (Nat.le_succ _) ho.2.1), (WS.ok_mono (Nat.le_succ _) ho.2.2), ⟨by omega, trivial⟩⟩, by omega, by omega, by omega, by omega⟩
      · rfl
      · simp [hw]
theorem w3p3e (K : Nat) (w : Int) (l : Int) (vq : Value) (kk : Int) (s0 s1 s2 : WS) (hkk : kk.tmod 4 = 3)  (ho : okO K s0 s1 s2) (hK6 : K ≤ 1000000) : TriX MS (listX Try.prog four) E ⟨pre n0 np false i ++ [.v (.int .i64 (.sym kk))] ++ junk js 58 11, base ps ws c c2 t (.abs (.grp (WG s0 s1 s2 (.pop 3 w l (.es) vq)))), 4, []⟩ (Mid n0 np i ps ws c c2 K) := by
  refine tri_group (mono_list _) 3 (WG s0 s1 s2 (.pop 3 w l (.es) vq)) [(40, some (popO 3 w l)), (41, some (rpopO 3 w l))] (wo 10 s0 ++ (wo 20 s1 ++ wo 30 s2)) M5q3 (WL s0 s1 s2 (.pop 3 w l (.es) vq)) _ 75 [(4, some (ofU (popO 3 w l))), (5, some (ofU (rpopO 3 w l)))] (Z3 40) rfl (fun n => (WG_3 _ s0 s1 s2 (.pop 3 w l (.es) vq) n)) (by simp [Z3, Nat.beq]) (by simp) rfl rfl (hZL5q3 _ s0 s1 s2) (hZF5q3 (.es) s0 s1 s2) rfl rfl (by rw [hT]; exact Nat.le_of_ble_eq_true rfl) (hD 3 (by decide)) ?_
  intro vs E1 e1 e2 e3
  show TriX MS (listX Try.prog four) E1 ⟨pre n0 np false i ++ [.v (.int .i64 (.sym kk))] ++ junk js 58 11, [(4, some (ofU (popO 3 w l))), (5, some (ofU (rpopO 3 w l)))] ++ base ps ws c c2 t (.cells [.raw (vs 0), .raw (vs 1), .raw (vs 2), .raw (vs 3), .raw (vs 4), .raw (vs 5), .raw (vs 6), .raw (vs 7), .raw (vs 8), .raw (vs 9), .raw (vs 10), .raw (vs 11), .raw (vs 12), .raw (vs 13), .raw (vs 14), .ptr 4 0, .nilp, .ptr 5 0, .raw vq, .es true] 75), 6, []⟩ _
  have ht : ∀ {k : Nat}, Nat.ble k 40 = true → k ≤ E1.top := fun h => by rw [e2, hT]; exact Nat.le_of_ble_eq_true h
  have hd : ∀ (l : List Nat), l.all (Nat.ble 1) = true → ∀ b, b ∈ l → E1.D b := fun l hl b hb => e3 b (hD b (Nat.le_of_ble_eq_true (List.all_eq_true.1 hl b hb)))
  refine TriX.postE (mono_list _) (Q := fun x s => x = .normal ∧ (((∃ js, s = ⟨(q3p3e_l0 n0 i c c2 t np ps ws vs w l vq).pre ++ junk js 59 10, (q3p3e_l0 n0 i c c2 t np ps ws vs w l vq).hp, (q3p3e_l0 n0 i c c2 t np ps ws vs w l vq).nid, []⟩) ∧ True) ∨ ((∃ js, s = ⟨(q3p3e_l1 n0 i c c2 t np ps ws vs w l vq).pre ++ junk js 59 10, (q3p3e_l1 n0 i c c2 t np ps ws vs w l vq).hp, (q3p3e_l1 n0 i c c2 t np ps ws vs w l vq).nid, []⟩) ∧ True) ∨ ((∃ js, s = ⟨(q3p3e_l2 n0 i c c2 t np ps ws vs w l vq).pre ++ junk js 59 10, (q3p3e_l2 n0 i c c2 t np ps ws vs w l vq).hp, (q3p3e_l2 n0 i c c2 t np ps ws vs w l vq).nid, []⟩) ∧ True))) (TriX.listR (m := 10) (n := 59) codeOK (q3p3e n0 i c c2 t np ps ws vs js kk w l vq hw hc hc2 hkk) ?_) ?_
  · exact Tr.all_ite (fun _ => Tr.all_ite (fun _ => Tr.all_ok ⟨rfl, rfl, ht rfl, hd _ rfl, fun js => ⟨rfl, Or.inl ⟨⟨js, rfl⟩, trivial⟩⟩⟩) (fun _ => Tr.all_ok ⟨rfl, rfl, ht rfl, hd _ rfl, fun js => ⟨rfl, Or.inr (Or.inl ⟨⟨js, rfl⟩, trivial⟩)⟩⟩)) (fun _ => Tr.all_ok ⟨rfl, rfl, ht rfl, hd _ rfl, fun js => ⟨rfl, Or.inr (Or.inr (⟨⟨js, rfl⟩, trivial⟩))⟩⟩)
  · rintro x s ac w ⟨rfl, hq⟩ hat
    rcases hq with ⟨⟨js, rfl⟩, hcond⟩ | ⟨⟨js, rfl⟩, hcond⟩ | ⟨⟨js, rfl⟩, hcond⟩
    · have h1 := at_can hat
      obtain ⟨us, h2⟩ := at_forget 3 [false, false, false, false, false, false, false, false, false, false, false, false, false, false, false, false, false, true, false, false] rfl rfl h1
      refine ⟨_, h2, [.raw (vs 0), .raw (vs 1), .raw (vs 2), .raw (vs 3), .raw (vs 4), .raw (vs 5), .raw (vs 6), .raw (vs 7), .raw (vs 8), .raw (vs 9), .raw (vs 10), .raw (vs 11), .raw (vs 12), .raw (vs 13), .raw (vs 14), .nilp, .nilp, .raw (us 17), .raw vq, .ts 7 (.lit 0) (.sym _) none], _, [(7, 42)], _, WG s0 s1 s2 (.idle (.tab _) (us 17) _), ?_, rfl, rfl, rfl, fun n => ((WG_3 _ s0 s1 s2 _ n)).trans rfl, rfl, s0, s1, s2, (.idle (.tab _) (us 17) _), _, _, _, _, ⟨js, rfl⟩, rfl, rfl, by show 4 ≤ 8; omega, ?_, ⟨(WS.ok_mono (Nat.le_succ _) ho.1), (WS.ok_mono (Nat.le_succ _) ho.2.1), (WS.ok_mono (Nat.le_succ _) ho.2.2), (by first | exact ⟨hr.1, by omega⟩ | (constructor <;> simp <;> omega))⟩, by omega, by omega, by omega, by omega⟩
      · exact congrArg (fun m => some (VObj.cells [.raw (vs 0), .raw (vs 1), .raw (vs 2), .raw (vs 3), .raw (vs 4), .raw (vs 5), .raw (vs 6), .raw (vs 7), .raw (vs 8), .raw (vs 9), .raw (vs 10), .raw (vs 11), .raw (vs 12), .raw (vs 13), .raw (vs 14), .nilp, .nilp, .raw (us 17), .raw vq, .ts 7 (.lit 0) (.sym m) none] 75)) (by first | rfl | (simp [SN.val]; done) | (simp [SN.val] <;> omega))
      · simp [hw]
    · have h1 := at_can hat
      obtain ⟨us, h2⟩ := at_forget 3 [false, false, false, false, false, false, false, false, false, false, false, false, false, false, false, false, false, true, false, false] rfl rfl h1
      refine ⟨_, h2, [.raw (vs 0), .raw (vs 1), .raw (vs 2), .raw (vs 3), .raw (vs 4), .raw (vs 5), .raw (vs 6), .raw (vs 7), .raw (vs 8), .raw (vs 9), .raw (vs 10), .raw (vs 11), .raw (vs 12), .raw (vs 13), .raw (vs 14), .nilp, .nilp, .raw (us 17), .raw vq, .es true], _, [], _, WG s0 s1 s2 (.idle .es (us 17) _), ?_, rfl, rfl, rfl, fun n => ((WG_3 _ s0 s1 s2 _ n)).trans rfl, rfl, s0, s1, s2, (.idle .es (us 17) _), _, _, _, _, ⟨js, rfl⟩, rfl, rfl, by show 4 ≤ 6; omega, ?_, ⟨(WS.ok_mono (Nat.le_succ _) ho.1), (WS.ok_mono (Nat.le_succ _) ho.2.1), (WS.ok_mono (Nat.le_succ _) ho.2.2), trivial⟩, by omega, by omega, by omega, by omega⟩
      · rfl
      · simp [hw]
    · have h1 := at_can hat
      refine ⟨_, h1, [.raw (vs 0), .raw (vs 1), .raw (vs 2), .raw (vs 3), .raw (vs 4), .raw (vs 5), .raw (vs 6), .raw (vs 7), .raw (vs 8), .raw (vs 9), .raw (vs 10), .raw (vs 11), .raw (vs 12), .raw (vs 13), .raw (vs 14), .ptr 4 0, .nilp, .ptr 5 0, .raw vq, .es true], _, [(4, 40), (5, 41)], _, WG s0 s1 s2 (.pop 1 _ _ .es _), ?_, rfl, rfl, rfl, fun n => ((WG_3 _ s0 s1 s2 _ n)).trans rfl, rfl, s0, s1, s2, (.pop 1 _ _ .es _), _, _, _, _, ⟨js, rfl⟩, rfl, rfl, by show 4 ≤ 6; omega, ?_, ⟨(WS.ok_mono (Nat.le_succ _) ho.1), (WS.ok_mono (Nat.le_succ _) ho.2.1), (WS.ok_mono (Nat.le_succ _) ho.2.2), ⟨by omega, trivial⟩⟩, by omega, by omega, by omega, by omega⟩
      · rfl
      · simp [hw]
theorem w3p3t (K : Nat) (w : Int) (l : Int) (vq : Value) (rows : List (List Int)) (kk : Int) (s0 s1 s2 : WS) (hkk : kk.tmod 4 = 3) (hr : 0 < rows.length ∧ rows.length ≤ 1000000) (hKr : rows.length ≤ K)  (ho : okO K s0 s1 s2) (hK6 : K ≤ 1000000) : TriX MS (listX Try.prog four) E ⟨pre n0 np false i ++ [.v (.int .i64 (.sym kk))] ++ junk js 58 11, base ps ws c c2 t (.abs (.grp (WG s0 s1 s2 (.pop 3 w l (.tab rows) vq)))), 4, []⟩ (Mid n0 np i ps ws c c2 K) := by
  refine tri_group (mono_list _) 3 (WG s0 s1 s2 (.pop 3 w l (.tab rows) vq)) [(40, some (popO 3 w l)), (41, some (rpopO 3 w l)), (42, some (tabO rows))] (wo 10 s0 ++ (wo 20 s1 ++ wo 30 s2)) M5q3 (WL s0 s1 s2 (.pop 3 w l (.tab rows) vq)) _ 75 [(4, some (ofU (popO 3 w l))), (5, some (ofU (rpopO 3 w l))), (6, some (.tab [.int .i64] rows 3))] (Z3 40) rfl (fun n => (WG_3 _ s0 s1 s2 (.pop 3 w l (.tab rows) vq) n)) (by simp [Z3, Nat.beq]) (by simp) rfl rfl (hZL5q3 _ s0 s1 s2) (hZF5q3 (.tab rows) s0 s1 s2) rfl rfl (by rw [hT]; exact Nat.le_of_ble_eq_true rfl) (hD 3 (by decide)) ?_
  intro vs E1 e1 e2 e3
  show TriX MS (listX Try.prog four) E1 ⟨pre n0 np false i ++ [.v (.int .i64 (.sym kk))] ++ junk js 58 11, [(4, some (ofU (popO 3 w l))), (5, some (ofU (rpopO 3 w l))), (6, some (.tab [.int .i64] rows 3))] ++ base ps ws c c2 t (.cells [.raw (vs 0), .raw (vs 1), .raw (vs 2), .raw (vs 3), .raw (vs 4), .raw (vs 5), .raw (vs 6), .raw (vs 7), .raw (vs 8), .raw (vs 9), .raw (vs 10), .raw (vs 11), .raw (vs 12), .raw (vs 13), .raw (vs 14), .ptr 4 0, .nilp, .ptr 5 0, .raw vq, .ts 6 (.lit 0) (.sym rows.length) none] 75), 7, []⟩ _
  have ht : ∀ {k : Nat}, Nat.ble k 40 = true → k ≤ E1.top := fun h => by rw [e2, hT]; exact Nat.le_of_ble_eq_true h
  have hd : ∀ (l : List Nat), l.all (Nat.ble 1) = true → ∀ b, b ∈ l → E1.D b := fun l hl b hb => e3 b (hD b (Nat.le_of_ble_eq_true (List.all_eq_true.1 hl b hb)))
  refine TriX.postE (mono_list _) (Q := fun x s => x = .normal ∧ (((∃ js, s = ⟨(q3p3t_l0 n0 i c c2 t np ps ws vs w l vq rows).pre ++ junk js 59 10, (q3p3t_l0 n0 i c c2 t np ps ws vs w l vq rows).hp, (q3p3t_l0 n0 i c c2 t np ps ws vs w l vq rows).nid, []⟩) ∧ True) ∨ ((∃ js, s = ⟨(q3p3t_l1 n0 i c c2 t np ps ws vs w l vq rows).pre ++ junk js 59 10, (q3p3t_l1 n0 i c c2 t np ps ws vs w l vq rows).hp, (q3p3t_l1 n0 i c c2 t np ps ws vs w l vq rows).nid, []⟩) ∧ True) ∨ ((∃ js, s = ⟨(q3p3t_l2 n0 i c c2 t np ps ws vs w l vq rows).pre ++ junk js 59 10, (q3p3t_l2 n0 i c c2 t np ps ws vs w l vq rows).hp, (q3p3t_l2 n0 i c c2 t np ps ws vs w l vq rows).nid, []⟩) ∧ True))) (TriX.listR (m := 10) (n := 59) codeOK (q3p3t n0 i c c2 t np ps ws vs js kk w l vq rows hw hc hc2 hkk hr) ?_) ?_
  · exact Tr.all_ite (fun _ => Tr.all_ite (fun _ => Tr.all_ok ⟨rfl, rfl, ht rfl, hd _ rfl, fun js => ⟨rfl, Or.inl ⟨⟨js, rfl⟩, trivial⟩⟩⟩) (fun _ => Tr.all_ok ⟨rfl, rfl, ht rfl, hd _ rfl, fun js => ⟨rfl, Or.inr (Or.inl ⟨⟨js, rfl⟩, trivial⟩)⟩⟩)) (fun _ => Tr.all_ok ⟨rfl, rfl, ht rfl, hd _ rfl, fun js => ⟨rfl, Or.inr (Or.inr (⟨⟨js, rfl⟩, trivial⟩))⟩⟩)
  · rintro x s ac w ⟨rfl, hq⟩ hat
    rcases hq with ⟨⟨js, rfl⟩, hcond⟩ | ⟨⟨js, rfl⟩, hcond⟩ | ⟨⟨js, rfl⟩, hcond⟩
    · have h1 := at_can hat
      obtain ⟨us, h2⟩ := at_forget 3 [false, false, false, false, false, false, false, false, false, false, false, false, false, false, false, false, false, true, false, false] rfl rfl h1
      refine ⟨_, h2, [.raw (vs 0), .raw (vs 1), .raw (vs 2), .raw (vs 3), .raw (vs 4), .raw (vs 5), .raw (vs 6), .raw (vs 7), .raw (vs 8), .raw (vs 9), .raw (vs 10), .raw (vs 11), .raw (vs 12), .raw (vs 13), .raw (vs 14), .nilp, .nilp, .raw (us 17), .raw vq, .ts 8 (.lit 0) (.sym _) none], _, [(8, 42)], _, WG s0 s1 s2 (.idle (.tab _) (us 17) _), ?_, rfl, rfl, rfl, fun n => ((WG_3 _ s0 s1 s2 _ n)).trans rfl, rfl, s0, s1, s2, (.idle (.tab _) (us 17) _), _, _, _, _, ⟨js, rfl⟩, rfl, rfl, by show 4 ≤ 9; omega, ?_, ⟨(WS.ok_mono (Nat.le_succ _) ho.1), (WS.ok_mono (Nat.le_succ _) ho.2.1), (WS.ok_mono (Nat.le_succ _) ho.2.2), (by first | exact ⟨hr.1, by omega⟩ | (constructor <;> simp <;> omega))⟩, by omega, by omega, by omega, by omega⟩
      · exact congrArg (fun m => some (VObj.cells [.raw (vs 0), .raw (vs 1), .raw (vs 2), .raw (vs 3), .raw (vs 4), .raw (vs 5), .raw (vs 6), .raw (vs 7), .raw (vs 8), .raw (vs 9), .raw (vs 10), .raw (vs 11), .raw (vs 12), .raw (vs 13), .raw (vs 14), .nilp, .nilp, .raw (us 17), .raw vq, .ts 8 (.lit 0) (.sym m) none] 75)) (by first | rfl | (simp [SN.val]; done) | (simp [SN.val] <;> omega))
      · simp [hw]
    · have h1 := at_can hat
      obtain ⟨us, h2⟩ := at_forget 3 [false, false, false, false, false, false, false, false, false, false, false, false, false, false, false, false, false, true, false, false] rfl rfl h1
      refine ⟨_, h2, [.raw (vs 0), .raw (vs 1), .raw (vs 2), .raw (vs 3), .raw (vs 4), .raw (vs 5), .raw (vs 6), .raw (vs 7), .raw (vs 8), .raw (vs 9), .raw (vs 10), .raw (vs 11), .raw (vs 12), .raw (vs 13), .raw (vs 14), .nilp, .nilp, .raw (us 17), .raw vq, .ts 6 (.lit 0) (.sym _) none], _, [(6, 42)], _, WG s0 s1 s2 (.idle (.tab _) (us 17) _), ?_, rfl, rfl, rfl, fun n => ((WG_3 _ s0 s1 s2 _ n)).trans rfl, rfl, s0, s1, s2, (.idle (.tab _) (us 17) _), _, _, _, _, ⟨js, rfl⟩, rfl, rfl, by show 4 ≤ 7; omega, ?_, ⟨(WS.ok_mono (Nat.le_succ _) ho.1), (WS.ok_mono (Nat.le_succ _) ho.2.1), (WS.ok_mono (Nat.le_succ _) ho.2.2), (by first | exact ⟨hr.1, by omega⟩ | (constructor <;> simp <;> omega))⟩, by omega, by omega, by omega, by omega⟩
      · exact congrArg (fun m => some (VObj.cells [.raw (vs 0), .raw (vs 1), .raw (vs 2), .raw (vs 3), .raw (vs 4), .raw (vs 5), .raw (vs 6), .raw (vs 7), .raw (vs 8), .raw (vs 9), .raw (vs 10), .raw (vs 11), .raw (vs 12), .raw (vs 13), .raw (vs 14), .nilp, .nilp, .raw (us 17), .raw vq, .ts 6 (.lit 0) (.sym m) none] 75)) (by first | rfl | (simp [SN.val]; done) | (simp [SN.val] <;> omega))
      · simp [hw]
    · have h1 := at_can hat
      refine ⟨_, h1, [.raw (vs 0), .raw (vs 1), .raw (vs 2), .raw (vs 3), .raw (vs 4), .raw (vs 5), .raw (vs 6), .raw (vs 7), .raw (vs 8), .raw (vs 9), .raw (vs 10), .raw (vs 11), .raw (vs 12), .raw (vs 13), .raw (vs 14), .ptr 4 0, .nilp, .ptr 5 0, .raw vq, .ts 6 (.lit 0) (.sym _) none], _, [(4, 40), (5, 41), (6, 42)], _, WG s0 s1 s2 (.pop 1 _ _ (.tab _) _), ?_, rfl, rfl, rfl, fun n => ((WG_3 _ s0 s1 s2 _ n)).trans rfl, rfl, s0, s1, s2, (.pop 1 _ _ (.tab _) _), _, _, _, _, ⟨js, rfl⟩, rfl, rfl, by show 4 ≤ 7; omega, ?_, ⟨(WS.ok_mono (Nat.le_succ _) ho.1), (WS.ok_mono (Nat.le_succ _) ho.2.1), (WS.ok_mono (Nat.le_succ _) ho.2.2), ⟨by omega, (by first | exact ⟨hr.1, by omega⟩ | (constructor <;> simp <;> omega))⟩⟩, by omega, by omega, by omega, by omega⟩
      · exact congrArg (fun m => some (VObj.cells [.raw (vs 0), .raw (vs 1), .raw (vs 2), .raw (vs 3), .raw (vs 4), .raw (vs 5), .raw (vs 6), .raw (vs 7), .raw (vs 8), .raw (vs 9), .raw (vs 10), .raw (vs 11), .raw (vs 12), .raw (vs 13), .raw (vs 14), .ptr 4 0, .nilp, .ptr 5 0, .raw vq, .ts 6 (.lit 0) (.sym m) none] 75)) (by first | rfl | (simp [SN.val]; done) | (simp [SN.val] <;> omega))
      · simp [hw]
theorem w3u1 (K : Nat) (a : Int) (w : Int) (vp : Value) (kk : Int) (h : HS) (s0 s1 s2 : WS) (hkk : kk.tmod 4 = 3) (hK : h.ok K) (ho : okO K s0 s1 s2) (hK6 : K ≤ 1000000) : TriX MS (listX Try.prog four) E ⟨pre n0 np false i ++ [.v (.int .i64 (.sym kk))] ++ junk js 58 11, base ps ws c c2 t (.abs (.grp (WG s0 s1 s2 (.push 1 a w h vp)))), 4, []⟩ (Mid n0 np i ps ws c c2 K) := by
  refine tri_group (mono_list _) 3 (WG s0 s1 s2 (.push 1 a w h vp)) [(40, some (pushO 1 a w)), (41, some (rpushO 1 a w))] (hobj 40 h ++ (wo 10 s0 ++ (wo 20 s1 ++ wo 30 s2))) M4q3 (WL s0 s1 s2 (.push 1 a w h vp)) _ 75 [(4, some (ofU (pushO 1 a w))), (5, some (ofU (rpushO 1 a w)))] (Z2 40) rfl (fun n => (WG_3 _ s0 s1 s2 (.push 1 a w h vp) n)) (by simp [Z2, Nat.beq]) (by simp) rfl rfl (hZL4q3 _ s0 s1 s2) (hZF4q3 h s0 s1 s2) rfl rfl (by rw [hT]; exact Nat.le_of_ble_eq_true rfl) (hD 3 (by decide)) ?_
  intro vs E1 e1 e2 e3
  show TriX MS (listX Try.prog four) E1 ⟨pre n0 np false i ++ [.v (.int .i64 (.sym kk))] ++ junk js 58 11, [(4, some (ofU (pushO 1 a w))), (5, some (ofU (rpushO 1 a w)))] ++ base ps ws c c2 t (.cells [.raw (vs 0), .raw (vs 1), .raw (vs 2), .raw (vs 3), .raw (vs 4), .raw (vs 5), .raw (vs 6), .raw (vs 7), .raw (vs 8), .raw (vs 9), .raw (vs 10), .raw (vs 11), .raw (vs 12), .raw (vs 13), .raw (vs 14), .nilp, .ptr 4 0, .raw vp, .ptr 5 0, .raw (vs 19)] 75), 6, []⟩ _
  have ht : ∀ {k : Nat}, Nat.ble k 40 = true → k ≤ E1.top := fun h => by rw [e2, hT]; exact Nat.le_of_ble_eq_true h
  have hd : ∀ (l : List Nat), l.all (Nat.ble 1) = true → ∀ b, b ∈ l → E1.D b := fun l hl b hb => e3 b (hD b (Nat.le_of_ble_eq_true (List.all_eq_true.1 hl b hb)))
  refine TriX.postE (mono_list _) (Q := fun x s => x = .normal ∧ (((∃ js, s = ⟨(q3u1_l0 n0 i c c2 t np ps ws vs a vp).pre ++ junk js 59 10, (q3u1_l0 n0 i c c2 t np ps ws vs a vp).hp, (q3u1_l0 n0 i c c2 t np ps ws vs a vp).nid, []⟩) ∧ True))) (TriX.listR (m := 10) (n := 59) codeOK (q3u1 n0 i c c2 t np ps ws vs js kk a w vp hw hc hc2 hkk) ?_) ?_
  · exact Tr.all_ok ⟨rfl, rfl, ht rfl, hd _ rfl, fun js => ⟨rfl, ⟨⟨js, rfl⟩, trivial⟩⟩⟩
  · rintro x s ac w ⟨rfl, hq⟩ hat
    rcases hq with ⟨⟨js, rfl⟩, hcond⟩
    · have h1 := at_can hat
      refine ⟨_, h1, [.raw (vs 0), .raw (vs 1), .raw (vs 2), .raw (vs 3), .raw (vs 4), .raw (vs 5), .raw (vs 6), .raw (vs 7), .raw (vs 8), .raw (vs 9), .raw (vs 10), .raw (vs 11), .raw (vs 12), .raw (vs 13), .raw (vs 14), .nilp, .ptr 4 0, .raw vp, .ptr 5 0, .raw (vs 19)], _, [(4, 40), (5, 41)], _, WG s0 s1 s2 (.push 2 _ _ h _), ?_, rfl, rfl, rfl, fun n => ((WG_3 _ s0 s1 s2 _ n)).trans rfl, rfl, s0, s1, s2, (.push 2 _ _ h _), _, _, _, _, ⟨js, rfl⟩, rfl, rfl, by show 4 ≤ 6; omega, ?_, ⟨(WS.ok_mono (Nat.le_succ _) ho.1), (WS.ok_mono (Nat.le_succ _) ho.2.1), (WS.ok_mono (Nat.le_succ _) ho.2.2), ⟨by omega, HS.ok_mono (Nat.le_succ _) hK⟩⟩, by omega, by omega, by omega, by omega⟩
      · rfl
      · simp [hw]
theorem w3u2 (K : Nat) (a : Int) (w : Int) (vp : Value) (kk : Int) (h : HS) (s0 s1 s2 : WS) (hkk : kk.tmod 4 = 3) (hK : h.ok K) (ho : okO K s0 s1 s2) (hK6 : K ≤ 1000000) : TriX MS (listX Try.prog four) E ⟨pre n0 np false i ++ [.v (.int .i64 (.sym kk))] ++ junk js 58 11, base ps ws c c2 t (.abs (.grp (WG s0 s1 s2 (.push 2 a w h vp)))), 4, []⟩ (Mid n0 np i ps ws c c2 K) := by
  refine tri_group (mono_list _) 3 (WG s0 s1 s2 (.push 2 a w h vp)) [(40, some (pushO 2 a w)), (41, some (rpushO 2 a w))] (hobj 40 h ++ (wo 10 s0 ++ (wo 20 s1 ++ wo 30 s2))) M4q3 (WL s0 s1 s2 (.push 2 a w h vp)) _ 75 [(4, some (ofU (pushO 2 a w))), (5, some (ofU (rpushO 2 a w)))] (Z2 40) rfl (fun n => (WG_3 _ s0 s1 s2 (.push 2 a w h vp) n)) (by simp [Z2, Nat.beq]) (by simp) rfl rfl (hZL4q3 _ s0 s1 s2) (hZF4q3 h s0 s1 s2) rfl rfl (by rw [hT]; exact Nat.le_of_ble_eq_true rfl) (hD 3 (by decide)) ?_
  intro vs E1 e1 e2 e3
  show TriX MS (listX Try.prog four) E1 ⟨pre n0 np false i ++ [.v (.int .i64 (.sym kk))] ++ junk js 58 11, [(4, some (ofU (pushO 2 a w))), (5, some (ofU (rpushO 2 a w)))] ++ base ps ws c c2 t (.cells [.raw (vs 0), .raw (vs 1), .raw (vs 2), .raw (vs 3), .raw (vs 4), .raw (vs 5), .raw (vs 6), .raw (vs 7), .raw (vs 8), .raw (vs 9), .raw (vs 10), .raw (vs 11), .raw (vs 12), .raw (vs 13), .raw (vs 14), .nilp, .ptr 4 0, .raw vp, .ptr 5 0, .raw (vs 19)] 75), 6, []⟩ _
  have ht : ∀ {k : Nat}, Nat.ble k 40 = true → k ≤ E1.top := fun h => by rw [e2, hT]; exact Nat.le_of_ble_eq_true h
  have hd : ∀ (l : List Nat), l.all (Nat.ble 1) = true → ∀ b, b ∈ l → E1.D b := fun l hl b hb => e3 b (hD b (Nat.le_of_ble_eq_true (List.all_eq_true.1 hl b hb)))
  refine TriX.postE (mono_list _) (Q := fun x s => x = .normal ∧ (((∃ js, s = ⟨(q3u2_l0 n0 i c c2 t np ps ws vs a w vp).pre ++ junk js 59 10, (q3u2_l0 n0 i c c2 t np ps ws vs a w vp).hp, (q3u2_l0 n0 i c c2 t np ps ws vs a w vp).nid, []⟩) ∧ True) ∨ ((∃ js, s = ⟨(q3u2_l1 n0 i c c2 t np ps ws vs a w vp).pre ++ junk js 59 10, (q3u2_l1 n0 i c c2 t np ps ws vs a w vp).hp, (q3u2_l1 n0 i c c2 t np ps ws vs a w vp).nid, []⟩) ∧ True))) (TriX.listR (m := 10) (n := 59) codeOK (q3u2 n0 i c c2 t np ps ws vs js kk a w vp hw hc hc2 hkk) ?_) ?_
  · exact Tr.all_ite (fun _ => Tr.all_ok ⟨rfl, rfl, ht rfl, hd _ rfl, fun js => ⟨rfl, Or.inl ⟨⟨js, rfl⟩, trivial⟩⟩⟩) (fun _ => Tr.all_ok ⟨rfl, rfl, ht rfl, hd _ rfl, fun js => ⟨rfl, Or.inr (⟨⟨js, rfl⟩, trivial⟩)⟩⟩)
  · rintro x s ac w ⟨rfl, hq⟩ hat
    rcases hq with ⟨⟨js, rfl⟩, hcond⟩ | ⟨⟨js, rfl⟩, hcond⟩
    · have h1 := at_can hat
      refine ⟨_, h1, [.raw (vs 0), .raw (vs 1), .raw (vs 2), .raw (vs 3), .raw (vs 4), .raw (vs 5), .raw (vs 6), .raw (vs 7), .raw (vs 8), .raw (vs 9), .raw (vs 10), .raw (vs 11), .raw (vs 12), .raw (vs 13), .raw (vs 14), .nilp, .ptr 4 0, .raw vp, .ptr 5 0, .raw (vs 19)], _, [(4, 40), (5, 41)], _, WG s0 s1 s2 (.push 3 _ _ h _), ?_, rfl, rfl, rfl, fun n => ((WG_3 _ s0 s1 s2 _ n)).trans rfl, rfl, s0, s1, s2, (.push 3 _ _ h _), _, _, _, _, ⟨js, rfl⟩, rfl, rfl, by show 4 ≤ 6; omega, ?_, ⟨(WS.ok_mono (Nat.le_succ _) ho.1), (WS.ok_mono (Nat.le_succ _) ho.2.1), (WS.ok_mono (Nat.le_succ _) ho.2.2), ⟨by omega, HS.ok_mono (Nat.le_succ _) hK⟩⟩, by omega, by omega, by omega, by omega⟩
      · rfl
      · simp [hw]
    · have h1 := at_can hat
      refine ⟨_, h1, [.raw (vs 0), .raw (vs 1), .raw (vs 2), .raw (vs 3), .raw (vs 4), .raw (vs 5), .raw (vs 6), .raw (vs 7), .raw (vs 8), .raw (vs 9), .raw (vs 10), .raw (vs 11), .raw (vs 12), .raw (vs 13), .raw (vs 14), .nilp, .ptr 4 0, .raw vp, .ptr 5 0, .raw (vs 19)], _, [(4, 40), (5, 41)], _, WG s0 s1 s2 (.push 3 _ _ h _), ?_, rfl, rfl, rfl, fun n => ((WG_3 _ s0 s1 s2 _ n)).trans rfl, rfl, s0, s1, s2, (.push 3 _ _ h _), _, _, _, _, ⟨js, rfl⟩, rfl, rfl, by show 4 ≤ 6; omega, ?_, ⟨(WS.ok_mono (Nat.le_succ _) ho.1), (WS.ok_mono (Nat.le_succ _) ho.2.1), (WS.ok_mono (Nat.le_succ _) ho.2.2), ⟨by omega, HS.ok_mono (Nat.le_succ _) hK⟩⟩, by omega, by omega, by omega, by omega⟩
      · rfl
      · simp [hw]
theorem w3u3 (K : Nat) (a : Int) (w : Int) (vp : Value) (kk : Int) (h : HS) (s0 s1 s2 : WS) (hkk : kk.tmod 4 = 3) (hK : h.ok K) (ho : okO K s0 s1 s2) (hK6 : K ≤ 1000000) : TriX MS (listX Try.prog four) E ⟨pre n0 np false i ++ [.v (.int .i64 (.sym kk))] ++ junk js 58 11, base ps ws c c2 t (.abs (.grp (WG s0 s1 s2 (.push 3 a w h vp)))), 4, []⟩ (Mid n0 np i ps ws c c2 K) := by
  refine tri_group (mono_list _) 3 (WG s0 s1 s2 (.push 3 a w h vp)) [(40, some (pushO 3 a w)), (41, some (rpushO 3 a w))] (hobj 40 h ++ (wo 10 s0 ++ (wo 20 s1 ++ wo 30 s2))) M4q3 (WL s0 s1 s2 (.push 3 a w h vp)) _ 75 [(4, some (ofU (pushO 3 a w))), (5, some (ofU (rpushO 3 a w)))] (Z2 40) rfl (fun n => (WG_3 _ s0 s1 s2 (.push 3 a w h vp) n)) (by simp [Z2, Nat.beq]) (by simp) rfl rfl (hZL4q3 _ s0 s1 s2) (hZF4q3 h s0 s1 s2) rfl rfl (by rw [hT]; exact Nat.le_of_ble_eq_true rfl) (hD 3 (by decide)) ?_
  intro vs E1 e1 e2 e3
  show TriX MS (listX Try.prog four) E1 ⟨pre n0 np false i ++ [.v (.int .i64 (.sym kk))] ++ junk js 58 11, [(4, some (ofU (pushO 3 a w))), (5, some (ofU (rpushO 3 a w)))] ++ base ps ws c c2 t (.cells [.raw (vs 0), .raw (vs 1), .raw (vs 2), .raw (vs 3), .raw (vs 4), .raw (vs 5), .raw (vs 6), .raw (vs 7), .raw (vs 8), .raw (vs 9), .raw (vs 10), .raw (vs 11), .raw (vs 12), .raw (vs 13), .raw (vs 14), .nilp, .ptr 4 0, .raw vp, .ptr 5 0, .raw (vs 19)] 75), 6, []⟩ _
  have ht : ∀ {k : Nat}, Nat.ble k 40 = true → k ≤ E1.top := fun h => by rw [e2, hT]; exact Nat.le_of_ble_eq_true h
  have hd : ∀ (l : List Nat), l.all (Nat.ble 1) = true → ∀ b, b ∈ l → E1.D b := fun l hl b hb => e3 b (hD b (Nat.le_of_ble_eq_true (List.all_eq_true.1 hl b hb)))
  refine TriX.postE (mono_list _) (Q := fun x s => x = .normal ∧ (((∃ js, s = ⟨(q3u3_l0 n0 i c c2 t np ps ws vs a w vp).pre ++ junk js 59 10, (q3u3_l0 n0 i c c2 t np ps ws vs a w vp).hp, (q3u3_l0 n0 i c c2 t np ps ws vs a w vp).nid, []⟩) ∧ True) ∨ ((∃ js, s = ⟨(q3u3_l1 n0 i c c2 t np ps ws vs a w vp).pre ++ junk js 59 10, (q3u3_l1 n0 i c c2 t np ps ws vs a w vp).hp, (q3u3_l1 n0 i c c2 t np ps ws vs a w vp).nid, []⟩) ∧ True))) (TriX.listR (m := 10) (n := 59) codeOK (q3u3 n0 i c c2 t np ps ws vs js kk a w vp hw hc hc2 hkk) ?_) ?_
  · exact Tr.all_ite (fun _ => Tr.all_ok ⟨rfl, rfl, ht rfl, hd _ rfl, fun js => ⟨rfl, Or.inl ⟨⟨js, rfl⟩, trivial⟩⟩⟩) (fun _ => Tr.all_ok ⟨rfl, rfl, ht rfl, hd _ rfl, fun js => ⟨rfl, Or.inr (⟨⟨js, rfl⟩, trivial⟩)⟩⟩)
  · rintro x s ac w ⟨rfl, hq⟩ hat
    rcases hq with ⟨⟨js, rfl⟩, hcond⟩ | ⟨⟨js, rfl⟩, hcond⟩
    · have h1 := at_can hat
      obtain ⟨us, h2⟩ := at_forget 3 [false, false, false, false, false, false, false, false, false, false, false, false, false, false, false, false, false, false, true, false] rfl rfl h1
      refine ⟨_, h2, [.raw (vs 0), .raw (vs 1), .raw (vs 2), .raw (vs 3), .raw (vs 4), .raw (vs 5), .raw (vs 6), .raw (vs 7), .raw (vs 8), .raw (vs 9), .raw (vs 10), .raw (vs 11), .raw (vs 12), .raw (vs 13), .raw (vs 14), .nilp, .nilp, .raw vp, .raw (us 18), .raw (vs 19)], _, [], _, WG s0 s1 s2 (.idle h _ (us 18)), ?_, rfl, rfl, rfl, fun n => ((WG_3 _ s0 s1 s2 _ n)).trans rfl, rfl, s0, s1, s2, (.idle h _ (us 18)), _, _, _, _, ⟨js, rfl⟩, rfl, rfl, by show 4 ≤ 6; omega, ?_, ⟨(WS.ok_mono (Nat.le_succ _) ho.1), (WS.ok_mono (Nat.le_succ _) ho.2.1), (WS.ok_mono (Nat.le_succ _) ho.2.2), HS.ok_mono (Nat.le_succ _) hK⟩, by omega, by omega, by omega, by omega⟩
      · rfl
      · simp [hw]
    · have h1 := at_can hat
      refine ⟨_, h1, [.raw (vs 0), .raw (vs 1), .raw (vs 2), .raw (vs 3), .raw (vs 4), .raw (vs 5), .raw (vs 6), .raw (vs 7), .raw (vs 8), .raw (vs 9), .raw (vs 10), .raw (vs 11), .raw (vs 12), .raw (vs 13), .raw (vs 14), .nilp, .ptr 4 0, .raw vp, .ptr 5 0, .raw (vs 19)], _, [(4, 40), (5, 41)], _, WG s0 s1 s2 (.push 1 _ _ h _), ?_, rfl, rfl, rfl, fun n => ((WG_3 _ s0 s1 s2 _ n)).trans rfl, rfl, s0, s1, s2, (.push 1 _ _ h _), _, _, _, _, ⟨js, rfl⟩, rfl, rfl, by show 4 ≤ 6; omega, ?_, ⟨(WS.ok_mono (Nat.le_succ _) ho.1), (WS.ok_mono (Nat.le_succ _) ho.2.1), (WS.ok_mono (Nat.le_succ _) ho.2.2), ⟨by omega, HS.ok_mono (Nat.le_succ _) hK⟩⟩, by omega, by omega, by omega, by omega⟩
      · rfl
      · simp [hw]
end
end Go.Proofs.Ytnlfphlmlklofaa.ListPlays
