/-
  ListPlays: a step of the worker 1: its objects are opened, the step runs, they are hidden again. Printed by genLPW.py.
-/
import Derived.Test.YtnlfphlmlklofaaTListPlaysQ1
import Derived.Test.YtnlfphlmlklofaaDListPlays
namespace Go.Proofs.Ytnlfphlmlklofaa.ListPlays
open Go Go.RowKit Go.Proofs.Ytnlfphlmlklofaa.Eng
set_option linter.unusedVariables false
set_option linter.unusedSimpArgs false
set_option linter.unusedSectionVars false
set_option maxRecDepth 20000
set_option maxHeartbeats 1000000
abbrev M4q1 : List Bool := [true, true, true, true, true, false, false, false, false, true, true, true, true, true, true, true, true, true, true, true]
theorem hZL4q1 (s s0 s2 s3 : WS) : ∀ (i : Nat) x, M4q1[i]? = some true → (WL s0 s s2 s3)[i]? = some x → ∀ n ∈ vvIds x, Z2 20 n = false := by
  intro i x hm hx
  exact match i, hm, hx with
    | 0, _, hx => by
      injection hx with hx
      subst hx
      exact fun n hn => Z2_far (by decide) (by omega) (c_ids 10 s0 _ (by simp) n hn)
    | 1, _, hx => by
      injection hx with hx
      subst hx
      exact fun n hn => Z2_far (by decide) (by omega) (c_ids 10 s0 _ (by simp) n hn)
    | 2, _, hx => by
      injection hx with hx
      subst hx
      exact fun n hn => Z2_far (by decide) (by omega) (c_ids 10 s0 _ (by simp) n hn)
    | 3, _, hx => by
      injection hx with hx
      subst hx
      exact fun n hn => Z2_far (by decide) (by omega) (c_ids 10 s0 _ (by simp) n hn)
    | 4, _, hx => by
      injection hx with hx
      subst hx
      exact fun n hn => Z2_far (by decide) (by omega) (c_ids 10 s0 _ (by simp) n hn)
    | 5, hm, _ => (by cases hm)
    | 6, hm, _ => (by cases hm)
    | 7, hm, _ => (by cases hm)
    | 8, hm, _ => (by cases hm)
    | 9, _, hx => by
      injection hx with hx
      subst hx
      intro n hn
      have := c4_id 20 s n hn
      exact Z2_no ⟨by omega, by omega, by omega⟩
    | 10, _, hx => by
      injection hx with hx
      subst hx
      exact fun n hn => Z2_far (by decide) (by omega) (c_ids 30 s2 _ (by simp) n hn)
    | 11, _, hx => by
      injection hx with hx
      subst hx
      exact fun n hn => Z2_far (by decide) (by omega) (c_ids 30 s2 _ (by simp) n hn)
    | 12, _, hx => by
      injection hx with hx
      subst hx
      exact fun n hn => Z2_far (by decide) (by omega) (c_ids 30 s2 _ (by simp) n hn)
    | 13, _, hx => by
      injection hx with hx
      subst hx
      exact fun n hn => Z2_far (by decide) (by omega) (c_ids 30 s2 _ (by simp) n hn)
    | 14, _, hx => by
      injection hx with hx
      subst hx
      exact fun n hn => Z2_far (by decide) (by omega) (c_ids 30 s2 _ (by simp) n hn)
    | 15, _, hx => by
      injection hx with hx
      subst hx
      exact fun n hn => Z2_far (by decide) (by omega) (c_ids 40 s3 _ (by simp) n hn)
    | 16, _, hx => by
      injection hx with hx
      subst hx
      exact fun n hn => Z2_far (by decide) (by omega) (c_ids 40 s3 _ (by simp) n hn)
    | 17, _, hx => by
      injection hx with hx
      subst hx
      exact fun n hn => Z2_far (by decide) (by omega) (c_ids 40 s3 _ (by simp) n hn)
    | 18, _, hx => by
      injection hx with hx
      subst hx
      exact fun n hn => Z2_far (by decide) (by omega) (c_ids 40 s3 _ (by simp) n hn)
    | 19, _, hx => by
      injection hx with hx
      subst hx
      exact fun n hn => Z2_far (by decide) (by omega) (c_ids 40 s3 _ (by simp) n hn)
    | i + 20, _, hx => (by simp at hx)
theorem hZF4q1 (h : HS) (s0 s2 s3 : WS) : ∀ n o, hget (hobj 20 h ++ (wo 10 s0 ++ (wo 30 s2 ++ wo 40 s3))) n = some o → Z2 20 n = false ∧ ∀ m ∈ objIds o, Z2 20 m = false := by
  intro n o ho
  rw [hget_app (hobj_some 20 h)] at ho
  cases hb : hget (hobj 20 h) n with
  | some o' =>
    rw [hb] at ho
    injection ho with ho
    subst ho
    obtain ⟨rfl, h2⟩ := hobj_ids hb
    exact ⟨Z2_no ⟨by omega, by omega, by omega⟩, by rw [h2]; intro m hm; cases hm⟩
  | none =>
    rw [hb] at ho
    obtain ⟨h1, h2⟩ := oth_ids (show hget (wo 10 s0 ++ (wo 30 s2 ++ wo 40 s3)) n = some o from ho)
    refine ⟨?_, by rw [h2]; intro m hm; cases hm⟩
    rcases h1 with h1 | h1 | h1 <;> exact Z2_far (by decide) (by omega) h1
abbrev M5q1 : List Bool := [true, true, true, true, true, false, false, false, false, false, true, true, true, true, true, true, true, true, true, true]
theorem hZL5q1 (s s0 s2 s3 : WS) : ∀ (i : Nat) x, M5q1[i]? = some true → (WL s0 s s2 s3)[i]? = some x → ∀ n ∈ vvIds x, Z3 20 n = false := by
  intro i x hm hx
  exact match i, hm, hx with
    | 0, _, hx => by
      injection hx with hx
      subst hx
      exact fun n hn => Z3_far (by decide) (by omega) (c_ids 10 s0 _ (by simp) n hn)
    | 1, _, hx => by
      injection hx with hx
      subst hx
      exact fun n hn => Z3_far (by decide) (by omega) (c_ids 10 s0 _ (by simp) n hn)
    | 2, _, hx => by
      injection hx with hx
      subst hx
      exact fun n hn => Z3_far (by decide) (by omega) (c_ids 10 s0 _ (by simp) n hn)
    | 3, _, hx => by
      injection hx with hx
      subst hx
      exact fun n hn => Z3_far (by decide) (by omega) (c_ids 10 s0 _ (by simp) n hn)
    | 4, _, hx => by
      injection hx with hx
      subst hx
      exact fun n hn => Z3_far (by decide) (by omega) (c_ids 10 s0 _ (by simp) n hn)
    | 5, hm, _ => (by cases hm)
    | 6, hm, _ => (by cases hm)
    | 7, hm, _ => (by cases hm)
    | 8, hm, _ => (by cases hm)
    | 9, hm, _ => (by cases hm)
    | 10, _, hx => by
      injection hx with hx
      subst hx
      exact fun n hn => Z3_far (by decide) (by omega) (c_ids 30 s2 _ (by simp) n hn)
    | 11, _, hx => by
      injection hx with hx
      subst hx
      exact fun n hn => Z3_far (by decide) (by omega) (c_ids 30 s2 _ (by simp) n hn)
    | 12, _, hx => by
      injection hx with hx
      subst hx
      exact fun n hn => Z3_far (by decide) (by omega) (c_ids 30 s2 _ (by simp) n hn)
    | 13, _, hx => by
      injection hx with hx
      subst hx
      exact fun n hn => Z3_far (by decide) (by omega) (c_ids 30 s2 _ (by simp) n hn)
    | 14, _, hx => by
      injection hx with hx
      subst hx
      exact fun n hn => Z3_far (by decide) (by omega) (c_ids 30 s2 _ (by simp) n hn)
    | 15, _, hx => by
      injection hx with hx
      subst hx
      exact fun n hn => Z3_far (by decide) (by omega) (c_ids 40 s3 _ (by simp) n hn)
    | 16, _, hx => by
      injection hx with hx
      subst hx
      exact fun n hn => Z3_far (by decide) (by omega) (c_ids 40 s3 _ (by simp) n hn)
    | 17, _, hx => by
      injection hx with hx
      subst hx
      exact fun n hn => Z3_far (by decide) (by omega) (c_ids 40 s3 _ (by simp) n hn)
    | 18, _, hx => by
      injection hx with hx
      subst hx
      exact fun n hn => Z3_far (by decide) (by omega) (c_ids 40 s3 _ (by simp) n hn)
    | 19, _, hx => by
      injection hx with hx
      subst hx
      exact fun n hn => Z3_far (by decide) (by omega) (c_ids 40 s3 _ (by simp) n hn)
    | i + 20, _, hx => (by simp at hx)
theorem hZF5q1 (h : HS) (s0 s2 s3 : WS) : ∀ n o, hget (wo 10 s0 ++ (wo 30 s2 ++ wo 40 s3)) n = some o → Z3 20 n = false ∧ ∀ m ∈ objIds o, Z3 20 m = false := by
  intro n o ho
  obtain ⟨h1, h2⟩ := oth_ids ho
  refine ⟨?_, by rw [h2]; intro m hm; cases hm⟩
  rcases h1 with h1 | h1 | h1 <;> exact Z3_far (by decide) (by omega) h1
section
variable {n0 i c c2 t : Int} {np : Nat} {ps : List (List Int)} {ws : List Int} {js : Nat → SV} {E : Ctx MObj} (hE : E.nid0 = 1) (hT : E.top = 40) (hD : ∀ b, 1 ≤ b → E.D b) (hw : ws.length = 160) (hc : 0 ≤ c ∧ c ≤ 1000000) (hc2 : 0 ≤ c2 ∧ c2 ≤ 1000000)
include hE hT hD hw hc hc2
theorem w1ip (K : Nat) (vp : Value) (vq : Value) (h : HS) (s0 s2 s3 : WS)  (hK : h.ok K) (ho : okO K s0 s2 s3) (hK6 : K ≤ 1000000) : TriX MS (listX Try.prog four) E ⟨pre n0 np false i ++ [.v (.int .i64 (.lit 1))] ++ junk js 58 11, base ps ws c c2 t (.abs (.grp (WG s0 (.idle h vp vq) s2 s3))), 4, []⟩ (Mid n0 np i ps ws c c2 K) := by
  refine tri_group (mono_list _) 3 (WG s0 (.idle h vp vq) s2 s3) [] (hobj 20 h ++ (wo 10 s0 ++ (wo 30 s2 ++ wo 40 s3))) M4q1 (WL s0 (.idle h vp vq) s2 s3) _ 75 [] (Z2 20) rfl (fun n => (WG_1 _ s0 (.idle h vp vq) s2 s3 n)) (by simp [Z2, Nat.beq]) (by simp) rfl rfl (hZL4q1 _ s0 s2 s3) (hZF4q1 h s0 s2 s3) rfl rfl (by rw [hT]; exact Nat.le_of_ble_eq_true rfl) (hD 3 (by decide)) ?_
  intro vs E1 e1 e2 e3
  show TriX MS (listX Try.prog four) E1 ⟨pre n0 np false i ++ [.v (.int .i64 (.lit 1))] ++ junk js 58 11, base ps ws c c2 t (.cells [.raw (vs 0), .raw (vs 1), .raw (vs 2), .raw (vs 3), .raw (vs 4), .nilp, .nilp, .raw vp, .raw vq, .raw (vs 9), .raw (vs 10), .raw (vs 11), .raw (vs 12), .raw (vs 13), .raw (vs 14), .raw (vs 15), .raw (vs 16), .raw (vs 17), .raw (vs 18), .raw (vs 19)] 75), 4, []⟩ _
  have ht : ∀ {k : Nat}, Nat.ble k 40 = true → k ≤ E1.top := fun h => by rw [e2, hT]; exact Nat.le_of_ble_eq_true h
  have hd : ∀ (l : List Nat), l.all (Nat.ble 1) = true → ∀ b, b ∈ l → E1.D b := fun l hl b hb => e3 b (hD b (Nat.le_of_ble_eq_true (List.all_eq_true.1 hl b hb)))
  refine TriX.postE (mono_list _) (Q := fun x s => x = .normal ∧ (((∃ js, s = ⟨(q1ip_l0 n0 i c c2 t np ps ws vs vq).pre ++ junk js 59 10, (q1ip_l0 n0 i c c2 t np ps ws vs vq).hp, (q1ip_l0 n0 i c c2 t np ps ws vs vq).nid, []⟩) ∧ True) ∨ ((∃ js, s = ⟨(q1ip_l1 n0 i c c2 t np ps ws vs vq).pre ++ junk js 59 10, (q1ip_l1 n0 i c c2 t np ps ws vs vq).hp, (q1ip_l1 n0 i c c2 t np ps ws vs vq).nid, []⟩) ∧ True))) (TriX.listR (m := 10) (n := 59) codeOK (q1ip n0 i c c2 t np ps ws vs js vp vq hw hc hc2) ?_) ?_
  · exact Tr.all_ite (fun _ => Tr.all_ok ⟨rfl, rfl, ht rfl, hd _ rfl, fun js => ⟨rfl, Or.inl ⟨⟨js, rfl⟩, trivial⟩⟩⟩) (fun _ => Tr.all_ok ⟨rfl, rfl, ht rfl, hd _ rfl, fun js => ⟨rfl, Or.inr (⟨⟨js, rfl⟩, trivial⟩)⟩⟩)
  · rintro x s ac w ⟨rfl, hq⟩ hat
    rcases hq with ⟨⟨js, rfl⟩, hcond⟩ | ⟨⟨js, rfl⟩, hcond⟩
    · have h1 := at_can hat
      obtain ⟨us, h2⟩ := at_forget 3 [false, false, false, false, false, false, false, true, false, false, false, false, false, false, false, false, false, false, false, false] rfl rfl h1
      refine ⟨_, h2, [.raw (vs 0), .raw (vs 1), .raw (vs 2), .raw (vs 3), .raw (vs 4), .nilp, .nilp, .raw (us 7), .raw vq, .raw (vs 9), .raw (vs 10), .raw (vs 11), .raw (vs 12), .raw (vs 13), .raw (vs 14), .raw (vs 15), .raw (vs 16), .raw (vs 17), .raw (vs 18), .raw (vs 19)], _, [], _, WG s0 (.idle h (us 7) _) s2 s3, ?_, rfl, rfl, rfl, fun n => ((WG_1 _ s0 _ s2 s3 n)).trans rfl, rfl, s0, (.idle h (us 7) _), s2, s3, _, _, _, _, ⟨js, rfl⟩, rfl, rfl, by show 4 ≤ 6; omega, ?_, ⟨(WS.ok_mono (Nat.le_succ _) ho.1), HS.ok_mono (Nat.le_succ _) hK, (WS.ok_mono (Nat.le_succ _) ho.2.1), (WS.ok_mono (Nat.le_succ _) ho.2.2)⟩, by omega, by omega, by omega, by omega⟩
      · rfl
      · simp [hw]
    · have h1 := at_can hat
      refine ⟨_, h1, [.raw (vs 0), .raw (vs 1), .raw (vs 2), .raw (vs 3), .raw (vs 4), .ptr 4 0, .nilp, .ptr 5 0, .raw vq, .raw (vs 9), .raw (vs 10), .raw (vs 11), .raw (vs 12), .raw (vs 13), .raw (vs 14), .raw (vs 15), .raw (vs 16), .raw (vs 17), .raw (vs 18), .raw (vs 19)], _, [(4, 20), (5, 21)], _, WG s0 (.pop 2 _ _ h _) s2 s3, ?_, rfl, rfl, rfl, fun n => ((WG_1 _ s0 _ s2 s3 n)).trans rfl, rfl, s0, (.pop 2 _ _ h _), s2, s3, _, _, _, _, ⟨js, rfl⟩, rfl, rfl, by show 4 ≤ 6; omega, ?_, ⟨(WS.ok_mono (Nat.le_succ _) ho.1), ⟨by omega, HS.ok_mono (Nat.le_succ _) hK⟩, (WS.ok_mono (Nat.le_succ _) ho.2.1), (WS.ok_mono (Nat.le_succ _) ho.2.2)⟩, by omega, by omega, by omega, by omega⟩
      · rfl
      · simp [hw]
theorem w1in (K : Nat) (vp : Value) (vq : Value) (s0 s2 s3 : WS)   (ho : okO K s0 s2 s3) (hK6 : K ≤ 1000000) : TriX MS (listX Try.prog four) E ⟨pre n0 np false i ++ [.v (.int .i64 (.lit 5))] ++ junk js 58 11, base ps ws c c2 t (.abs (.grp (WG s0 (.idle (.nil) vp vq) s2 s3))), 4, []⟩ (Mid n0 np i ps ws c c2 K) := by
  refine tri_group (mono_list _) 3 (WG s0 (.idle (.nil) vp vq) s2 s3) [] (wo 10 s0 ++ (wo 30 s2 ++ wo 40 s3)) M5q1 (WL s0 (.idle (.nil) vp vq) s2 s3) _ 75 [] (Z3 20) rfl (fun n => (WG_1 _ s0 (.idle (.nil) vp vq) s2 s3 n)) (by simp [Z3, Nat.beq]) (by simp) rfl rfl (hZL5q1 _ s0 s2 s3) (hZF5q1 (.nil) s0 s2 s3) rfl rfl (by rw [hT]; exact Nat.le_of_ble_eq_true rfl) (hD 3 (by decide)) ?_
  intro vs E1 e1 e2 e3
  show TriX MS (listX Try.prog four) E1 ⟨pre n0 np false i ++ [.v (.int .i64 (.lit 5))] ++ junk js 58 11, base ps ws c c2 t (.cells [.raw (vs 0), .raw (vs 1), .raw (vs 2), .raw (vs 3), .raw (vs 4), .nilp, .nilp, .raw vp, .raw vq, .nils, .raw (vs 10), .raw (vs 11), .raw (vs 12), .raw (vs 13), .raw (vs 14), .raw (vs 15), .raw (vs 16), .raw (vs 17), .raw (vs 18), .raw (vs 19)] 75), 4, []⟩ _
  have ht : ∀ {k : Nat}, Nat.ble k 40 = true → k ≤ E1.top := fun h => by rw [e2, hT]; exact Nat.le_of_ble_eq_true h
  have hd : ∀ (l : List Nat), l.all (Nat.ble 1) = true → ∀ b, b ∈ l → E1.D b := fun l hl b hb => e3 b (hD b (Nat.le_of_ble_eq_true (List.all_eq_true.1 hl b hb)))
  refine TriX.postE (mono_list _) (Q := fun x s => x = .normal ∧ (((∃ js, s = ⟨(q1in_l0 n0 i c c2 t np ps ws vs vq).pre ++ junk js 59 10, (q1in_l0 n0 i c c2 t np ps ws vs vq).hp, (q1in_l0 n0 i c c2 t np ps ws vs vq).nid, []⟩) ∧ True) ∨ ((∃ js, s = ⟨(q1in_l1 n0 i c c2 t np ps ws vs vq).pre ++ junk js 59 10, (q1in_l1 n0 i c c2 t np ps ws vs vq).hp, (q1in_l1 n0 i c c2 t np ps ws vs vq).nid, []⟩) ∧ True))) (TriX.listR (m := 10) (n := 59) codeOK (q1in n0 i c c2 t np ps ws vs js vp vq hw hc hc2) ?_) ?_
  · exact Tr.all_ite (fun _ => Tr.all_ok ⟨rfl, rfl, ht rfl, hd _ rfl, fun js => ⟨rfl, Or.inl ⟨⟨js, rfl⟩, trivial⟩⟩⟩) (fun _ => Tr.all_ok ⟨rfl, rfl, ht rfl, hd _ rfl, fun js => ⟨rfl, Or.inr (⟨⟨js, rfl⟩, trivial⟩)⟩⟩)
  · rintro x s ac w ⟨rfl, hq⟩ hat
    rcases hq with ⟨⟨js, rfl⟩, hcond⟩ | ⟨⟨js, rfl⟩, hcond⟩
    · have h1 := at_can hat
      obtain ⟨us, h2⟩ := at_forget 3 [false, false, false, false, false, false, false, true, false, false, false, false, false, false, false, false, false, false, false, false] rfl rfl h1
      refine ⟨_, h2, [.raw (vs 0), .raw (vs 1), .raw (vs 2), .raw (vs 3), .raw (vs 4), .nilp, .nilp, .raw (us 7), .raw vq, .nils, .raw (vs 10), .raw (vs 11), .raw (vs 12), .raw (vs 13), .raw (vs 14), .raw (vs 15), .raw (vs 16), .raw (vs 17), .raw (vs 18), .raw (vs 19)], _, [], _, WG s0 (.idle .nil (us 7) _) s2 s3, ?_, rfl, rfl, rfl, fun n => ((WG_1 _ s0 _ s2 s3 n)).trans rfl, rfl, s0, (.idle .nil (us 7) _), s2, s3, _, _, _, _, ⟨js, rfl⟩, rfl, rfl, by show 4 ≤ 6; omega, ?_, ⟨(WS.ok_mono (Nat.le_succ _) ho.1), trivial, (WS.ok_mono (Nat.le_succ _) ho.2.1), (WS.ok_mono (Nat.le_succ _) ho.2.2)⟩, by omega, by omega, by omega, by omega⟩
      · rfl
      · simp [hw]
    · have h1 := at_can hat
      refine ⟨_, h1, [.raw (vs 0), .raw (vs 1), .raw (vs 2), .raw (vs 3), .raw (vs 4), .ptr 4 0, .nilp, .ptr 5 0, .raw vq, .nils, .raw (vs 10), .raw (vs 11), .raw (vs 12), .raw (vs 13), .raw (vs 14), .raw (vs 15), .raw (vs 16), .raw (vs 17), .raw (vs 18), .raw (vs 19)], _, [(4, 20), (5, 21)], _, WG s0 (.pop 2 _ _ .nil _) s2 s3, ?_, rfl, rfl, rfl, fun n => ((WG_1 _ s0 _ s2 s3 n)).trans rfl, rfl, s0, (.pop 2 _ _ .nil _), s2, s3, _, _, _, _, ⟨js, rfl⟩, rfl, rfl, by show 4 ≤ 6; omega, ?_, ⟨(WS.ok_mono (Nat.le_succ _) ho.1), ⟨by omega, trivial⟩, (WS.ok_mono (Nat.le_succ _) ho.2.1), (WS.ok_mono (Nat.le_succ _) ho.2.2)⟩, by omega, by omega, by omega, by omega⟩
      · rfl
      · simp [hw]
theorem w1ie (K : Nat) (vp : Value) (vq : Value) (s0 s2 s3 : WS)   (ho : okO K s0 s2 s3) (hK6 : K ≤ 1000000) : TriX MS (listX Try.prog four) E ⟨pre n0 np false i ++ [.v (.int .i64 (.lit 5))] ++ junk js 58 11, base ps ws c c2 t (.abs (.grp (WG s0 (.idle (.es) vp vq) s2 s3))), 4, []⟩ (Mid n0 np i ps ws c c2 K) := by
  refine tri_group (mono_list _) 3 (WG s0 (.idle (.es) vp vq) s2 s3) [] (wo 10 s0 ++ (wo 30 s2 ++ wo 40 s3)) M5q1 (WL s0 (.idle (.es) vp vq) s2 s3) _ 75 [] (Z3 20) rfl (fun n => (WG_1 _ s0 (.idle (.es) vp vq) s2 s3 n)) (by simp [Z3, Nat.beq]) (by simp) rfl rfl (hZL5q1 _ s0 s2 s3) (hZF5q1 (.es) s0 s2 s3) rfl rfl (by rw [hT]; exact Nat.le_of_ble_eq_true rfl) (hD 3 (by decide)) ?_
  intro vs E1 e1 e2 e3
  show TriX MS (listX Try.prog four) E1 ⟨pre n0 np false i ++ [.v (.int .i64 (.lit 5))] ++ junk js 58 11, base ps ws c c2 t (.cells [.raw (vs 0), .raw (vs 1), .raw (vs 2), .raw (vs 3), .raw (vs 4), .nilp, .nilp, .raw vp, .raw vq, .es true, .raw (vs 10), .raw (vs 11), .raw (vs 12), .raw (vs 13), .raw (vs 14), .raw (vs 15), .raw (vs 16), .raw (vs 17), .raw (vs 18), .raw (vs 19)] 75), 4, []⟩ _
  have ht : ∀ {k : Nat}, Nat.ble k 40 = true → k ≤ E1.top := fun h => by rw [e2, hT]; exact Nat.le_of_ble_eq_true h
  have hd : ∀ (l : List Nat), l.all (Nat.ble 1) = true → ∀ b, b ∈ l → E1.D b := fun l hl b hb => e3 b (hD b (Nat.le_of_ble_eq_true (List.all_eq_true.1 hl b hb)))
  refine TriX.postE (mono_list _) (Q := fun x s => x = .normal ∧ (((∃ js, s = ⟨(q1ie_l0 n0 i c c2 t np ps ws vs vq).pre ++ junk js 59 10, (q1ie_l0 n0 i c c2 t np ps ws vs vq).hp, (q1ie_l0 n0 i c c2 t np ps ws vs vq).nid, []⟩) ∧ True) ∨ ((∃ js, s = ⟨(q1ie_l1 n0 i c c2 t np ps ws vs vq).pre ++ junk js 59 10, (q1ie_l1 n0 i c c2 t np ps ws vs vq).hp, (q1ie_l1 n0 i c c2 t np ps ws vs vq).nid, []⟩) ∧ True))) (TriX.listR (m := 10) (n := 59) codeOK (q1ie n0 i c c2 t np ps ws vs js vp vq hw hc hc2) ?_) ?_
  · exact Tr.all_ite (fun _ => Tr.all_ok ⟨rfl, rfl, ht rfl, hd _ rfl, fun js => ⟨rfl, Or.inl ⟨⟨js, rfl⟩, trivial⟩⟩⟩) (fun _ => Tr.all_ok ⟨rfl, rfl, ht rfl, hd _ rfl, fun js => ⟨rfl, Or.inr (⟨⟨js, rfl⟩, trivial⟩)⟩⟩)
  · rintro x s ac w ⟨rfl, hq⟩ hat
    rcases hq with ⟨⟨js, rfl⟩, hcond⟩ | ⟨⟨js, rfl⟩, hcond⟩
    · have h1 := at_can hat
      obtain ⟨us, h2⟩ := at_forget 3 [false, false, false, false, false, false, false, true, false, false, false, false, false, false, false, false, false, false, false, false] rfl rfl h1
      refine ⟨_, h2, [.raw (vs 0), .raw (vs 1), .raw (vs 2), .raw (vs 3), .raw (vs 4), .nilp, .nilp, .raw (us 7), .raw vq, .es true, .raw (vs 10), .raw (vs 11), .raw (vs 12), .raw (vs 13), .raw (vs 14), .raw (vs 15), .raw (vs 16), .raw (vs 17), .raw (vs 18), .raw (vs 19)], _, [], _, WG s0 (.idle .es (us 7) _) s2 s3, ?_, rfl, rfl, rfl, fun n => ((WG_1 _ s0 _ s2 s3 n)).trans rfl, rfl, s0, (.idle .es (us 7) _), s2, s3, _, _, _, _, ⟨js, rfl⟩, rfl, rfl, by show 4 ≤ 6; omega, ?_, ⟨(WS.ok_mono (Nat.le_succ _) ho.1), trivial, (WS.ok_mono (Nat.le_succ _) ho.2.1), (WS.ok_mono (Nat.le_succ _) ho.2.2)⟩, by omega, by omega, by omega, by omega⟩
      · rfl
      · simp [hw]
    · have h1 := at_can hat
      refine ⟨_, h1, [.raw (vs 0), .raw (vs 1), .raw (vs 2), .raw (vs 3), .raw (vs 4), .ptr 4 0, .nilp, .ptr 5 0, .raw vq, .es true, .raw (vs 10), .raw (vs 11), .raw (vs 12), .raw (vs 13), .raw (vs 14), .raw (vs 15), .raw (vs 16), .raw (vs 17), .raw (vs 18), .raw (vs 19)], _, [(4, 20), (5, 21)], _, WG s0 (.pop 2 _ _ .es _) s2 s3, ?_, rfl, rfl, rfl, fun n => ((WG_1 _ s0 _ s2 s3 n)).trans rfl, rfl, s0, (.pop 2 _ _ .es _), s2, s3, _, _, _, _, ⟨js, rfl⟩, rfl, rfl, by show 4 ≤ 6; omega, ?_, ⟨(WS.ok_mono (Nat.le_succ _) ho.1), ⟨by omega, trivial⟩, (WS.ok_mono (Nat.le_succ _) ho.2.1), (WS.ok_mono (Nat.le_succ _) ho.2.2)⟩, by omega, by omega, by omega, by omega⟩
      · rfl
      · simp [hw]
theorem w1it (K : Nat) (vp : Value) (vq : Value) (rows : List (List Int)) (s0 s2 s3 : WS) (hr : 0 < rows.length ∧ rows.length ≤ 1000000) (hKr : rows.length ≤ K)  (ho : okO K s0 s2 s3) (hK6 : K ≤ 1000000) : TriX MS (listX Try.prog four) E ⟨pre n0 np false i ++ [.v (.int .i64 (.lit 5))] ++ junk js 58 11, base ps ws c c2 t (.abs (.grp (WG s0 (.idle (.tab rows) vp vq) s2 s3))), 4, []⟩ (Mid n0 np i ps ws c c2 K) := by
  refine tri_group (mono_list _) 3 (WG s0 (.idle (.tab rows) vp vq) s2 s3) [(22, some (tabO rows))] (wo 10 s0 ++ (wo 30 s2 ++ wo 40 s3)) M5q1 (WL s0 (.idle (.tab rows) vp vq) s2 s3) _ 75 [(4, some (.tab [.int .i64] rows 3))] (Z3 20) rfl (fun n => (WG_1 _ s0 (.idle (.tab rows) vp vq) s2 s3 n)) (by simp [Z3, Nat.beq]) (by simp) rfl rfl (hZL5q1 _ s0 s2 s3) (hZF5q1 (.tab rows) s0 s2 s3) rfl rfl (by rw [hT]; exact Nat.le_of_ble_eq_true rfl) (hD 3 (by decide)) ?_
  intro vs E1 e1 e2 e3
  show TriX MS (listX Try.prog four) E1 ⟨pre n0 np false i ++ [.v (.int .i64 (.lit 5))] ++ junk js 58 11, [(4, some (.tab [.int .i64] rows 3))] ++ base ps ws c c2 t (.cells [.raw (vs 0), .raw (vs 1), .raw (vs 2), .raw (vs 3), .raw (vs 4), .nilp, .nilp, .raw vp, .raw vq, .ts 4 (.lit 0) (.sym rows.length) none, .raw (vs 10), .raw (vs 11), .raw (vs 12), .raw (vs 13), .raw (vs 14), .raw (vs 15), .raw (vs 16), .raw (vs 17), .raw (vs 18), .raw (vs 19)] 75), 5, []⟩ _
  have ht : ∀ {k : Nat}, Nat.ble k 40 = true → k ≤ E1.top := fun h => by rw [e2, hT]; exact Nat.le_of_ble_eq_true h
  have hd : ∀ (l : List Nat), l.all (Nat.ble 1) = true → ∀ b, b ∈ l → E1.D b := fun l hl b hb => e3 b (hD b (Nat.le_of_ble_eq_true (List.all_eq_true.1 hl b hb)))
  refine TriX.postE (mono_list _) (Q := fun x s => x = .normal ∧ (((∃ js, s = ⟨(q1it_l0 n0 i c c2 t np ps ws vs vp rows).pre ++ junk js 59 10, (q1it_l0 n0 i c c2 t np ps ws vs vp rows).hp, (q1it_l0 n0 i c c2 t np ps ws vs vp rows).nid, []⟩) ∧ 1 < rows.length) ∨ ((∃ js, s = ⟨(q1it_l1 n0 i c c2 t np ps ws vs vp rows).pre ++ junk js 59 10, (q1it_l1 n0 i c c2 t np ps ws vs vp rows).hp, (q1it_l1 n0 i c c2 t np ps ws vs vp rows).nid, []⟩) ∧ True))) (TriX.listR (m := 10) (n := 59) codeOK (q1it n0 i c c2 t np ps ws vs js vp vq rows hw hc hc2 hr) ?_) ?_
  · exact Tr.all_ite (fun e => Tr.all_ok ⟨rfl, rfl, ht rfl, hd _ rfl, fun js => ⟨rfl, Or.inl ⟨⟨js, rfl⟩, (by have := of_decide_eq_true e; omega)⟩⟩⟩) (fun _ => Tr.all_ok ⟨rfl, rfl, ht rfl, hd _ rfl, fun js => ⟨rfl, Or.inr (⟨⟨js, rfl⟩, trivial⟩)⟩⟩)
  · rintro x s ac w ⟨rfl, hq⟩ hat
    rcases hq with ⟨⟨js, rfl⟩, hcond⟩ | ⟨⟨js, rfl⟩, hcond⟩
    · have h1 := at_can hat
      refine ⟨_, h1, [.raw (vs 0), .raw (vs 1), .raw (vs 2), .raw (vs 3), .raw (vs 4), .nilp, .ptr 7 0, .raw vp, .ptr 8 0, .ts 6 (.lit 0) (.sym _) none, .raw (vs 10), .raw (vs 11), .raw (vs 12), .raw (vs 13), .raw (vs 14), .raw (vs 15), .raw (vs 16), .raw (vs 17), .raw (vs 18), .raw (vs 19)], _, [(7, 20), (8, 21), (6, 22)], _, WG s0 (.push 2 _ _ (.tab _) _) s2 s3, ?_, rfl, rfl, rfl, fun n => ((WG_1 _ s0 _ s2 s3 n)).trans rfl, rfl, s0, (.push 2 _ _ (.tab _) _), s2, s3, _, _, _, _, ⟨js, rfl⟩, rfl, rfl, by show 4 ≤ 9; omega, ?_, ⟨(WS.ok_mono (Nat.le_succ _) ho.1), ⟨by omega, (by first | exact ⟨hr.1, by omega⟩ | (constructor <;> simp <;> omega))⟩, (WS.ok_mono (Nat.le_succ _) ho.2.1), (WS.ok_mono (Nat.le_succ _) ho.2.2)⟩, by omega, by omega, by omega, by omega⟩
      · exact congrArg (fun m => some (VObj.cells [.raw (vs 0), .raw (vs 1), .raw (vs 2), .raw (vs 3), .raw (vs 4), .nilp, .ptr 7 0, .raw vp, .ptr 8 0, .ts 6 (.lit 0) (.sym m) none, .raw (vs 10), .raw (vs 11), .raw (vs 12), .raw (vs 13), .raw (vs 14), .raw (vs 15), .raw (vs 16), .raw (vs 17), .raw (vs 18), .raw (vs 19)] 75)) (by first | rfl | (simp [SN.val]; done) | (simp [SN.val] <;> omega))
      · simp [hw]
    · have h1 := at_can hat
      refine ⟨_, h1, [.raw (vs 0), .raw (vs 1), .raw (vs 2), .raw (vs 3), .raw (vs 4), .nilp, .ptr 6 0, .raw vp, .ptr 7 0, .es true, .raw (vs 10), .raw (vs 11), .raw (vs 12), .raw (vs 13), .raw (vs 14), .raw (vs 15), .raw (vs 16), .raw (vs 17), .raw (vs 18), .raw (vs 19)], _, [(6, 20), (7, 21)], _, WG s0 (.push 2 _ _ .es _) s2 s3, ?_, rfl, rfl, rfl, fun n => ((WG_1 _ s0 _ s2 s3 n)).trans rfl, rfl, s0, (.push 2 _ _ .es _), s2, s3, _, _, _, _, ⟨js, rfl⟩, rfl, rfl, by show 4 ≤ 8; omega, ?_, ⟨(WS.ok_mono (Nat.le_succ _) ho.1), ⟨by omega, trivial⟩, (WS.ok_mono (Nat.le_succ _) ho.2.1), (WS.ok_mono (Nat.le_succ _) ho.2.2)⟩, by omega, by omega, by omega, by omega⟩
      · rfl
      · simp [hw]
theorem w1p1 (K : Nat) (w : Int) (l : Int) (vq : Value) (kk : Int) (h : HS) (s0 s2 s3 : WS) (hkk : kk.tmod 4 = 1) (hK : h.ok K) (ho : okO K s0 s2 s3) (hK6 : K ≤ 1000000) : TriX MS (listX Try.prog four) E ⟨pre n0 np false i ++ [.v (.int .i64 (.sym kk))] ++ junk js 58 11, base ps ws c c2 t (.abs (.grp (WG s0 (.pop 1 w l h vq) s2 s3))), 4, []⟩ (Mid n0 np i ps ws c c2 K) := by
  refine tri_group (mono_list _) 3 (WG s0 (.pop 1 w l h vq) s2 s3) [(20, some (popO 1 w l)), (21, some (rpopO 1 w l))] (hobj 20 h ++ (wo 10 s0 ++ (wo 30 s2 ++ wo 40 s3))) M4q1 (WL s0 (.pop 1 w l h vq) s2 s3) _ 75 [(4, some (ofU (popO 1 w l))), (5, some (ofU (rpopO 1 w l)))] (Z2 20) rfl (fun n => (WG_1 _ s0 (.pop 1 w l h vq) s2 s3 n)) (by simp [Z2, Nat.beq]) (by simp) rfl rfl (hZL4q1 _ s0 s2 s3) (hZF4q1 h s0 s2 s3) rfl rfl (by rw [hT]; exact Nat.le_of_ble_eq_true rfl) (hD 3 (by decide)) ?_
  intro vs E1 e1 e2 e3
  show TriX MS (listX Try.prog four) E1 ⟨pre n0 np false i ++ [.v (.int .i64 (.sym kk))] ++ junk js 58 11, [(4, some (ofU (popO 1 w l))), (5, some (ofU (rpopO 1 w l)))] ++ base ps ws c c2 t (.cells [.raw (vs 0), .raw (vs 1), .raw (vs 2), .raw (vs 3), .raw (vs 4), .ptr 4 0, .nilp, .ptr 5 0, .raw vq, .raw (vs 9), .raw (vs 10), .raw (vs 11), .raw (vs 12), .raw (vs 13), .raw (vs 14), .raw (vs 15), .raw (vs 16), .raw (vs 17), .raw (vs 18), .raw (vs 19)] 75), 6, []⟩ _
  have ht : ∀ {k : Nat}, Nat.ble k 40 = true → k ≤ E1.top := fun h => by rw [e2, hT]; exact Nat.le_of_ble_eq_true h
  have hd : ∀ (l : List Nat), l.all (Nat.ble 1) = true → ∀ b, b ∈ l → E1.D b := fun l hl b hb => e3 b (hD b (Nat.le_of_ble_eq_true (List.all_eq_true.1 hl b hb)))
  refine TriX.postE (mono_list _) (Q := fun x s => x = .normal ∧ (((∃ js, s = ⟨(q1p1_l0 n0 i c c2 t np ps ws vs l vq).pre ++ junk js 59 10, (q1p1_l0 n0 i c c2 t np ps ws vs l vq).hp, (q1p1_l0 n0 i c c2 t np ps ws vs l vq).nid, []⟩) ∧ True) ∨ ((∃ js, s = ⟨(q1p1_l1 n0 i c c2 t np ps ws vs l vq).pre ++ junk js 59 10, (q1p1_l1 n0 i c c2 t np ps ws vs l vq).hp, (q1p1_l1 n0 i c c2 t np ps ws vs l vq).nid, []⟩) ∧ True))) (TriX.listR (m := 10) (n := 59) codeOK (q1p1 n0 i c c2 t np ps ws vs js kk w l vq hw hc hc2 hkk) ?_) ?_
  · exact Tr.all_ite (fun _ => Tr.all_ok ⟨rfl, rfl, ht rfl, hd _ rfl, fun js => ⟨rfl, Or.inl ⟨⟨js, rfl⟩, trivial⟩⟩⟩) (fun _ => Tr.all_ok ⟨rfl, rfl, ht rfl, hd _ rfl, fun js => ⟨rfl, Or.inr (⟨⟨js, rfl⟩, trivial⟩)⟩⟩)
  · rintro x s ac w ⟨rfl, hq⟩ hat
    rcases hq with ⟨⟨js, rfl⟩, hcond⟩ | ⟨⟨js, rfl⟩, hcond⟩
    · have h1 := at_can hat
      obtain ⟨us, h2⟩ := at_forget 3 [false, false, false, false, false, false, false, true, false, false, false, false, false, false, false, false, false, false, false, false] rfl rfl h1
      refine ⟨_, h2, [.raw (vs 0), .raw (vs 1), .raw (vs 2), .raw (vs 3), .raw (vs 4), .nilp, .nilp, .raw (us 7), .raw vq, .raw (vs 9), .raw (vs 10), .raw (vs 11), .raw (vs 12), .raw (vs 13), .raw (vs 14), .raw (vs 15), .raw (vs 16), .raw (vs 17), .raw (vs 18), .raw (vs 19)], _, [], _, WG s0 (.idle h (us 7) _) s2 s3, ?_, rfl, rfl, rfl, fun n => ((WG_1 _ s0 _ s2 s3 n)).trans rfl, rfl, s0, (.idle h (us 7) _), s2, s3, _, _, _, _, ⟨js, rfl⟩, rfl, rfl, by show 4 ≤ 6; omega, ?_, ⟨(WS.ok_mono (Nat.le_succ _) ho.1), HS.ok_mono (Nat.le_succ _) hK, (WS.ok_mono (Nat.le_succ _) ho.2.1), (WS.ok_mono (Nat.le_succ _) ho.2.2)⟩, by omega, by omega, by omega, by omega⟩
      · rfl
      · simp [hw]
    · have h1 := at_can hat
      refine ⟨_, h1, [.raw (vs 0), .raw (vs 1), .raw (vs 2), .raw (vs 3), .raw (vs 4), .ptr 4 0, .nilp, .ptr 5 0, .raw vq, .raw (vs 9), .raw (vs 10), .raw (vs 11), .raw (vs 12), .raw (vs 13), .raw (vs 14), .raw (vs 15), .raw (vs 16), .raw (vs 17), .raw (vs 18), .raw (vs 19)], _, [(4, 20), (5, 21)], _, WG s0 (.pop 2 _ _ h _) s2 s3, ?_, rfl, rfl, rfl, fun n => ((WG_1 _ s0 _ s2 s3 n)).trans rfl, rfl, s0, (.pop 2 _ _ h _), s2, s3, _, _, _, _, ⟨js, rfl⟩, rfl, rfl, by show 4 ≤ 6; omega, ?_, ⟨(WS.ok_mono (Nat.le_succ _) ho.1), ⟨by omega, HS.ok_mono (Nat.le_succ _) hK⟩, (WS.ok_mono (Nat.le_succ _) ho.2.1), (WS.ok_mono (Nat.le_succ _) ho.2.2)⟩, by omega, by omega, by omega, by omega⟩
      · rfl
      · simp [hw]
theorem w1p2 (K : Nat) (w : Int) (l : Int) (vq : Value) (kk : Int) (h : HS) (s0 s2 s3 : WS) (hkk : kk.tmod 4 = 1) (hK : h.ok K) (ho : okO K s0 s2 s3) (hK6 : K ≤ 1000000) : TriX MS (listX Try.prog four) E ⟨pre n0 np false i ++ [.v (.int .i64 (.sym kk))] ++ junk js 58 11, base ps ws c c2 t (.abs (.grp (WG s0 (.pop 2 w l h vq) s2 s3))), 4, []⟩ (Mid n0 np i ps ws c c2 K) := by
  refine tri_group (mono_list _) 3 (WG s0 (.pop 2 w l h vq) s2 s3) [(20, some (popO 2 w l)), (21, some (rpopO 2 w l))] (hobj 20 h ++ (wo 10 s0 ++ (wo 30 s2 ++ wo 40 s3))) M4q1 (WL s0 (.pop 2 w l h vq) s2 s3) _ 75 [(4, some (ofU (popO 2 w l))), (5, some (ofU (rpopO 2 w l)))] (Z2 20) rfl (fun n => (WG_1 _ s0 (.pop 2 w l h vq) s2 s3 n)) (by simp [Z2, Nat.beq]) (by simp) rfl rfl (hZL4q1 _ s0 s2 s3) (hZF4q1 h s0 s2 s3) rfl rfl (by rw [hT]; exact Nat.le_of_ble_eq_true rfl) (hD 3 (by decide)) ?_
  intro vs E1 e1 e2 e3
  show TriX MS (listX Try.prog four) E1 ⟨pre n0 np false i ++ [.v (.int .i64 (.sym kk))] ++ junk js 58 11, [(4, some (ofU (popO 2 w l))), (5, some (ofU (rpopO 2 w l)))] ++ base ps ws c c2 t (.cells [.raw (vs 0), .raw (vs 1), .raw (vs 2), .raw (vs 3), .raw (vs 4), .ptr 4 0, .nilp, .ptr 5 0, .raw vq, .raw (vs 9), .raw (vs 10), .raw (vs 11), .raw (vs 12), .raw (vs 13), .raw (vs 14), .raw (vs 15), .raw (vs 16), .raw (vs 17), .raw (vs 18), .raw (vs 19)] 75), 6, []⟩ _
  have ht : ∀ {k : Nat}, Nat.ble k 40 = true → k ≤ E1.top := fun h => by rw [e2, hT]; exact Nat.le_of_ble_eq_true h
  have hd : ∀ (l : List Nat), l.all (Nat.ble 1) = true → ∀ b, b ∈ l → E1.D b := fun l hl b hb => e3 b (hD b (Nat.le_of_ble_eq_true (List.all_eq_true.1 hl b hb)))
  refine TriX.postE (mono_list _) (Q := fun x s => x = .normal ∧ (((∃ js, s = ⟨(q1p2_l0 n0 i c c2 t np ps ws vs w vq).pre ++ junk js 59 10, (q1p2_l0 n0 i c c2 t np ps ws vs w vq).hp, (q1p2_l0 n0 i c c2 t np ps ws vs w vq).nid, []⟩) ∧ True) ∨ ((∃ js, s = ⟨(q1p2_l1 n0 i c c2 t np ps ws vs w vq).pre ++ junk js 59 10, (q1p2_l1 n0 i c c2 t np ps ws vs w vq).hp, (q1p2_l1 n0 i c c2 t np ps ws vs w vq).nid, []⟩) ∧ True))) (TriX.listR (m := 10) (n := 59) codeOK (q1p2 n0 i c c2 t np ps ws vs js kk w l vq hw hc hc2 hkk) ?_) ?_
  · exact Tr.all_ite (fun _ => Tr.all_ok ⟨rfl, rfl, ht rfl, hd _ rfl, fun js => ⟨rfl, Or.inl ⟨⟨js, rfl⟩, trivial⟩⟩⟩) (fun _ => Tr.all_ok ⟨rfl, rfl, ht rfl, hd _ rfl, fun js => ⟨rfl, Or.inr (⟨⟨js, rfl⟩, trivial⟩)⟩⟩)
  · rintro x s ac w ⟨rfl, hq⟩ hat
    rcases hq with ⟨⟨js, rfl⟩, hcond⟩ | ⟨⟨js, rfl⟩, hcond⟩
    · have h1 := at_can hat
      refine ⟨_, h1, [.raw (vs 0), .raw (vs 1), .raw (vs 2), .raw (vs 3), .raw (vs 4), .ptr 4 0, .nilp, .ptr 5 0, .raw vq, .raw (vs 9), .raw (vs 10), .raw (vs 11), .raw (vs 12), .raw (vs 13), .raw (vs 14), .raw (vs 15), .raw (vs 16), .raw (vs 17), .raw (vs 18), .raw (vs 19)], _, [(4, 20), (5, 21)], _, WG s0 (.pop 3 _ _ h _) s2 s3, ?_, rfl, rfl, rfl, fun n => ((WG_1 _ s0 _ s2 s3 n)).trans rfl, rfl, s0, (.pop 3 _ _ h _), s2, s3, _, _, _, _, ⟨js, rfl⟩, rfl, rfl, by show 4 ≤ 6; omega, ?_, ⟨(WS.ok_mono (Nat.le_succ _) ho.1), ⟨by omega, HS.ok_mono (Nat.le_succ _) hK⟩, (WS.ok_mono (Nat.le_succ _) ho.2.1), (WS.ok_mono (Nat.le_succ _) ho.2.2)⟩, by omega, by omega, by omega, by omega⟩
      · rfl
      · simp [hw]
    · have h1 := at_can hat
      refine ⟨_, h1, [.raw (vs 0), .raw (vs 1), .raw (vs 2), .raw (vs 3), .raw (vs 4), .ptr 4 0, .nilp, .ptr 5 0, .raw vq, .raw (vs 9), .raw (vs 10), .raw (vs 11), .raw (vs 12), .raw (vs 13), .raw (vs 14), .raw (vs 15), .raw (vs 16), .raw (vs 17), .raw (vs 18), .raw (vs 19)], _, [(4, 20), (5, 21)], _, WG s0 (.pop 3 _ _ h _) s2 s3, ?_, rfl, rfl, rfl, fun n => ((WG_1 _ s0 _ s2 s3 n)).trans rfl, rfl, s0, (.pop 3 _ _ h _), s2, s3, _, _, _, _, ⟨js, rfl⟩, rfl, rfl, by show 4 ≤ 6; omega, ?_, ⟨(WS.ok_mono (Nat.le_succ _) ho.1), ⟨by omega, HS.ok_mono (Nat.le_succ _) hK⟩, (WS.ok_mono (Nat.le_succ _) ho.2.1), (WS.ok_mono (Nat.le_succ _) ho.2.2)⟩, by omega, by omega, by omega, by omega⟩
      · rfl
      · simp [hw]
theorem w1p3n (K : Nat) (w : Int) (l : Int) (vq : Value) (kk : Int) (s0 s2 s3 : WS) (hkk : kk.tmod 4 = 1)  (ho : okO K s0 s2 s3) (hK6 : K ≤ 1000000) : TriX MS (listX Try.prog four) E ⟨pre n0 np false i ++ [.v (.int .i64 (.sym kk))] ++ junk js 58 11, base ps ws c c2 t (.abs (.grp (WG s0 (.pop 3 w l (.nil) vq) s2 s3))), 4, []⟩ (Mid n0 np i ps ws c c2 K) := by
  refine tri_group (mono_list _) 3 (WG s0 (.pop 3 w l (.nil) vq) s2 s3) [(20, some (popO 3 w l)), (21, some (rpopO 3 w l))] (wo 10 s0 ++ (wo 30 s2 ++ wo 40 s3)) M5q1 (WL s0 (.pop 3 w l (.nil) vq) s2 s3) _ 75 [(4, some (ofU (popO 3 w l))), (5, some (ofU (rpopO 3 w l)))] (Z3 20) rfl (fun n => (WG_1 _ s0 (.pop 3 w l (.nil) vq) s2 s3 n)) (by simp [Z3, Nat.beq]) (by simp) rfl rfl (hZL5q1 _ s0 s2 s3) (hZF5q1 (.nil) s0 s2 s3) rfl rfl (by rw [hT]; exact Nat.le_of_ble_eq_true rfl) (hD 3 (by decide)) ?_
  intro vs E1 e1 e2 e3
  show TriX MS (listX Try.prog four) E1 ⟨pre n0 np false i ++ [.v (.int .i64 (.sym kk))] ++ junk js 58 11, [(4, some (ofU (popO 3 w l))), (5, some (ofU (rpopO 3 w l)))] ++ base ps ws c c2 t (.cells [.raw (vs 0), .raw (vs 1), .raw (vs 2), .raw (vs 3), .raw (vs 4), .ptr 4 0, .nilp, .ptr 5 0, .raw vq, .nils, .raw (vs 10), .raw (vs 11), .raw (vs 12), .raw (vs 13), .raw (vs 14), .raw (vs 15), .raw (vs 16), .raw (vs 17), .raw (vs 18), .raw (vs 19)] 75), 6, []⟩ _
  have ht : ∀ {k : Nat}, Nat.ble k 40 = true → k ≤ E1.top := fun h => by rw [e2, hT]; exact Nat.le_of_ble_eq_true h
  have hd : ∀ (l : List Nat), l.all (Nat.ble 1) = true → ∀ b, b ∈ l → E1.D b := fun l hl b hb => e3 b (hD b (Nat.le_of_ble_eq_true (List.all_eq_true.1 hl b hb)))
  refine TriX.postE (mono_list _) (Q := fun x s => x = .normal ∧ (((∃ js, s = ⟨(q1p3n_l0 n0 i c c2 t np ps ws vs w l vq).pre ++ junk js 59 10, (q1p3n_l0 n0 i c c2 t np ps ws vs w l vq).hp, (q1p3n_l0 n0 i c c2 t np ps ws vs w l vq).nid, []⟩) ∧ True) ∨ ((∃ js, s = ⟨(q1p3n_l1 n0 i c c2 t np ps ws vs w l vq).pre ++ junk js 59 10, (q1p3n_l1 n0 i c c2 t np ps ws vs w l vq).hp, (q1p3n_l1 n0 i c c2 t np ps ws vs w l vq).nid, []⟩) ∧ True) ∨ ((∃ js, s = ⟨(q1p3n_l2 n0 i c c2 t np ps ws vs w l vq).pre ++ junk js 59 10, (q1p3n_l2 n0 i c c2 t np ps ws vs w l vq).hp, (q1p3n_l2 n0 i c c2 t np ps ws vs w l vq).nid, []⟩) ∧ True))) (TriX.listR (m := 10) (n := 59) codeOK (q1p3n n0 i c c2 t np ps ws vs js kk w l vq hw hc hc2 hkk) ?_) ?_
  · exact Tr.all_ite (fun _ => Tr.all_ite (fun _ => Tr.all_ok ⟨rfl, rfl, ht rfl, hd _ rfl, fun js => ⟨rfl, Or.inl ⟨⟨js, rfl⟩, trivial⟩⟩⟩) (fun _ => Tr.all_ok ⟨rfl, rfl, ht rfl, hd _ rfl, fun js => ⟨rfl, Or.inr (Or.inl ⟨⟨js, rfl⟩, trivial⟩)⟩⟩)) (fun _ => Tr.all_ok ⟨rfl, rfl, ht rfl, hd _ rfl, fun js => ⟨rfl, Or.inr (Or.inr (⟨⟨js, rfl⟩, trivial⟩))⟩⟩)
  · rintro x s ac w ⟨rfl, hq⟩ hat
    rcases hq with ⟨⟨js, rfl⟩, hcond⟩ | ⟨⟨js, rfl⟩, hcond⟩ | ⟨⟨js, rfl⟩, hcond⟩
    · have h1 := at_can hat
      obtain ⟨us, h2⟩ := at_forget 3 [false, false, false, false, false, false, false, true, false, false, false, false, false, false, false, false, false, false, false, false] rfl rfl h1
      refine ⟨_, h2, [.raw (vs 0), .raw (vs 1), .raw (vs 2), .raw (vs 3), .raw (vs 4), .nilp, .nilp, .raw (us 7), .raw vq, .ts 7 (.lit 0) (.sym _) none, .raw (vs 10), .raw (vs 11), .raw (vs 12), .raw (vs 13), .raw (vs 14), .raw (vs 15), .raw (vs 16), .raw (vs 17), .raw (vs 18), .raw (vs 19)], _, [(7, 22)], _, WG s0 (.idle (.tab _) (us 7) _) s2 s3, ?_, rfl, rfl, rfl, fun n => ((WG_1 _ s0 _ s2 s3 n)).trans rfl, rfl, s0, (.idle (.tab _) (us 7) _), s2, s3, _, _, _, _, ⟨js, rfl⟩, rfl, rfl, by show 4 ≤ 8; omega, ?_, ⟨(WS.ok_mono (Nat.le_succ _) ho.1), (by first | exact ⟨hr.1, by omega⟩ | (constructor <;> simp <;> omega)), (WS.ok_mono (Nat.le_succ _) ho.2.1), (WS.ok_mono (Nat.le_succ _) ho.2.2)⟩, by omega, by omega, by omega, by omega⟩
      · exact congrArg (fun m => some (VObj.cells [.raw (vs 0), .raw (vs 1), .raw (vs 2), .raw (vs 3), .raw (vs 4), .nilp, .nilp, .raw (us 7), .raw vq, .ts 7 (.lit 0) (.sym m) none, .raw (vs 10), .raw (vs 11), .raw (vs 12), .raw (vs 13), .raw (vs 14), .raw (vs 15), .raw (vs 16), .raw (vs 17), .raw (vs 18), .raw (vs 19)] 75)) (by first | rfl | (simp [SN.val]; done) | (simp [SN.val] <;> omega))
      · simp [hw]
    · have h1 := at_can hat
      obtain ⟨us, h2⟩ := at_forget 3 [false, false, false, false, false, false, false, true, false, false, false, false, false, false, false, false, false, false, false, false] rfl rfl h1
      refine ⟨_, h2, [.raw (vs 0), .raw (vs 1), .raw (vs 2), .raw (vs 3), .raw (vs 4), .nilp, .nilp, .raw (us 7), .raw vq, .nils, .raw (vs 10), .raw (vs 11), .raw (vs 12), .raw (vs 13), .raw (vs 14), .raw (vs 15), .raw (vs 16), .raw (vs 17), .raw (vs 18), .raw (vs 19)], _, [], _, WG s0 (.idle .nil (us 7) _) s2 s3, ?_, rfl, rfl, rfl, fun n => ((WG_1 _ s0 _ s2 s3 n)).trans rfl, rfl, s0, (.idle .nil (us 7) _), s2, s3, _, _, _, _, ⟨js, rfl⟩, rfl, rfl, by show 4 ≤ 6; omega, ?_, ⟨(WS.ok_mono (Nat.le_succ _) ho.1), trivial, (WS.ok_mono (Nat.le_succ _) ho.2.1), (WS.ok_mono (Nat.le_succ _) ho.2.2)⟩, by omega, by omega, by omega, by omega⟩
      · rfl
      · simp [hw]
    · have h1 := at_can hat
      refine ⟨_, h1, [.raw (vs 0), .raw (vs 1), .raw (vs 2), .raw (vs 3), .raw (vs 4), .ptr 4 0, .nilp, .ptr 5 0, .raw vq, .nils, .raw (vs 10), .raw (vs 11), .raw (vs 12), .raw (vs 13), .raw (vs 14), .raw (vs 15), .raw (vs 16), .raw (vs 17), .raw (vs 18), .raw (vs 19)], _, [(4, 20), (5, 21)], _, WG s0 (.pop 1 _ _ .nil _) s2 s3, ?_, rfl, rfl, rfl, fun n => ((WG_1 _ s0 _ s2 s3 n)).trans rfl, rfl, s0, (.pop 1 _ _ .nil _), s2, s3, _, _, _, _, ⟨js, rfl⟩, rfl, rfl, by show 4 ≤ 6; omega, ?_, ⟨(WS.ok_mono (Nat.le_succ _) ho.1), ⟨by omega, trivial⟩, (WS.ok_mono (Nat.le_succ _) ho.2.1), (WS.ok_mono (Nat.le_succ _) ho.2.2)⟩, by omega, by omega, by omega, by omega⟩
      · rfl
      · simp [hw]
theorem w1p3e (K : Nat) (w : Int) (l : Int) (vq : Value) (kk : Int) (s0 s2 s3 : WS) (hkk : kk.tmod 4 = 1)  (ho : okO K s0 s2 s3) (hK6 : K ≤ 1000000) : TriX MS (listX Try.prog four) E ⟨pre n0 np false i ++ [.v (.int .i64 (.sym kk))] ++ junk js 58 11, base ps ws c c2 t (.abs (.grp (WG s0 (.pop 3 w l (.es) vq) s2 s3))), 4, []⟩ (Mid n0 np i ps ws c c2 K) := by
  refine tri_group (mono_list _) 3 (WG s0 (.pop 3 w l (.es) vq) s2 s3) [(20, some (popO 3 w l)), (21, some (rpopO 3 w l))] (wo 10 s0 ++ (wo 30 s2 ++ wo 40 s3)) M5q1 (WL s0 (.pop 3 w l (.es) vq) s2 s3) _ 75 [(4, some (ofU (popO 3 w l))), (5, some (ofU (rpopO 3 w l)))] (Z3 20) rfl (fun n => (WG_1 _ s0 (.pop 3 w l (.es) vq) s2 s3 n)) (by simp [Z3, Nat.beq]) (by simp) rfl rfl (hZL5q1 _ s0 s2 s3) (hZF5q1 (.es) s0 s2 s3) rfl rfl (by rw [hT]; exact Nat.le_of_ble_eq_true rfl) (hD 3 (by decide)) ?_
  intro vs E1 e1 e2 e3
  show TriX MS (listX Try.prog four) E1 ⟨pre n0 np false i ++ [.v (.int .i64 (.sym kk))] ++ junk js 58 11, [(4, some (ofU (popO 3 w l))), (5, some (ofU (rpopO 3 w l)))] ++ base ps ws c c2 t (.cells [.raw (vs 0), .raw (vs 1), .raw (vs 2), .raw (vs 3), .raw (vs 4), .ptr 4 0, .nilp, .ptr 5 0, .raw vq, .es true, .raw (vs 10), .raw (vs 11), .raw (vs 12), .raw (vs 13), .raw (vs 14), .raw (vs 15), .raw (vs 16), .raw (vs 17), .raw (vs 18), .raw (vs 19)] 75), 6, []⟩ _
  have ht : ∀ {k : Nat}, Nat.ble k 40 = true → k ≤ E1.top := fun h => by rw [e2, hT]; exact Nat.le_of_ble_eq_true h
  have hd : ∀ (l : List Nat), l.all (Nat.ble 1) = true → ∀ b, b ∈ l → E1.D b := fun l hl b hb => e3 b (hD b (Nat.le_of_ble_eq_true (List.all_eq_true.1 hl b hb)))
  refine TriX.postE (mono_list _) (Q := fun x s => x = .normal ∧ (((∃ js, s = ⟨(q1p3e_l0 n0 i c c2 t np ps ws vs w l vq).pre ++ junk js 59 10, (q1p3e_l0 n0 i c c2 t np ps ws vs w l vq).hp, (q1p3e_l0 n0 i c c2 t np ps ws vs w l vq).nid, []⟩) ∧ True) ∨ ((∃ js, s = ⟨(q1p3e_l1 n0 i c c2 t np ps ws vs w l vq).pre ++ junk js 59 10, (q1p3e_l1 n0 i c c2 t np ps ws vs w l vq).hp, (q1p3e_l1 n0 i c c2 t np ps ws vs w l vq).nid, []⟩) ∧ True) ∨ ((∃ js, s = ⟨(q1p3e_l2 n0 i c c2 t np ps ws vs w l vq).pre ++ junk js 59 10, (q1p3e_l2 n0 i c c2 t np ps ws vs w l vq).hp, (q1p3e_l2 n0 i c c2 t np ps ws vs w l vq).nid, []⟩) ∧ True))) (TriX.listR (m := 10) (n := 59) codeOK (q1p3e n0 i c c2 t np ps ws vs js kk w l vq hw hc hc2 hkk) ?_) ?_
  · exact Tr.all_ite (fun _ => Tr.all_ite (fun _ => Tr.all_ok ⟨rfl, rfl, ht rfl, hd _ rfl, fun js => ⟨rfl, Or.inl ⟨⟨js, rfl⟩, trivial⟩⟩⟩) (fun _ => Tr.all_ok ⟨rfl, rfl, ht rfl, hd _ rfl, fun js => ⟨rfl, Or.inr (Or.inl ⟨⟨js, rfl⟩, trivial⟩)⟩⟩)) (fun _ => Tr.all_ok ⟨rfl, rfl, ht rfl, hd _ rfl, fun js => ⟨rfl, Or.inr (Or.inr (⟨⟨js, rfl⟩, trivial⟩))⟩⟩)
  · rintro x s ac w ⟨rfl, hq⟩ hat
    rcases hq with ⟨⟨js, rfl⟩, hcond⟩ | ⟨⟨js, rfl⟩, hcond⟩ | ⟨⟨js, rfl⟩, hcond⟩
    · have h1 := at_can hat
      obtain ⟨us, h2⟩ := at_forget 3 [false, false, false, false, false, false, false, true, false, false, false, false, false, false, false, false, false, false, false, false] rfl rfl h1
      refine ⟨_, h2, [.raw (vs 0), .raw (vs 1), .raw (vs 2), .raw (vs 3), .raw (vs 4), .nilp, .nilp, .raw (us 7), .raw vq, .ts 7 (.lit 0) (.sym _) none, .raw (vs 10), .raw (vs 11), .raw (vs 12), .raw (vs 13), .raw (vs 14), .raw (vs 15), .raw (vs 16), .raw (vs 17), .raw (vs 18), .raw (vs 19)], _, [(7, 22)], _, WG s0 (.idle (.tab _) (us 7) _) s2 s3, ?_, rfl, rfl, rfl, fun n => ((WG_1 _ s0 _ s2 s3 n)).trans rfl, rfl, s0, (.idle (.tab _) (us 7) _), s2, s3, _, _, _, _, ⟨js, rfl⟩, rfl, rfl, by show 4 ≤ 8; omega, ?_, ⟨(WS.ok_mono (Nat.le_succ _) ho.1), (by first | exact ⟨hr.1, by omega⟩ | (constructor <;> simp <;> omega)), (WS.ok_mono (Nat.le_succ _) ho.2.1), (WS.ok_mono (Nat.le_succ _) ho.2.2)⟩, by omega, by omega, by omega, by omega⟩
      · exact congrArg (fun m => some (VObj.cells [.raw (vs 0), .raw (vs 1), .raw (vs 2), .raw (vs 3), .raw (vs 4), .nilp, .nilp, .raw (us 7), .raw vq, .ts 7 (.lit 0) (.sym m) none, .raw (vs 10), .raw (vs 11), .raw (vs 12), .raw (vs 13), .raw (vs 14), .raw (vs 15), .raw (vs 16), .raw (vs 17), .raw (vs 18), .raw (vs 19)] 75)) (by first | rfl | (simp [SN.val]; done) | (simp [SN.val] <;> omega))
      · simp [hw]
    · have h1 := at_can hat
      obtain ⟨us, h2⟩ := at_forget 3 [false, false, false, false, false, false, false, true, false, false, false, false, false, false, false, false, false, false, false, false] rfl rfl h1
      refine ⟨_, h2, [.raw (vs 0), .raw (vs 1), .raw (vs 2), .raw (vs 3), .raw (vs 4), .nilp, .nilp, .raw (us 7), .raw vq, .es true, .raw (vs 10), .raw (vs 11), .raw (vs 12), .raw (vs 13), .raw (vs 14), .raw (vs 15), .raw (vs 16), .raw (vs 17), .raw (vs 18), .raw (vs 19)], _, [], _, WG s0 (.idle .es (us 7) _) s2 s3, ?_, rfl, rfl, rfl, fun n => ((WG_1 _ s0 _ s2 s3 n)).trans rfl, rfl, s0, (.idle .es (us 7) _), s2, s3, _, _, _, _, ⟨js, rfl⟩, rfl, rfl, by show 4 ≤ 6; omega, ?_, ⟨(WS.ok_mono (Nat.le_succ _) ho.1), trivial, (WS.ok_mono (Nat.le_succ _) ho.2.1), (WS.ok_mono (Nat.le_succ _) ho.2.2)⟩, by omega, by omega, by omega, by omega⟩
      · rfl
      · simp [hw]
    · have h1 := at_can hat
      refine ⟨_, h1, [.raw (vs 0), .raw (vs 1), .raw (vs 2), .raw (vs 3), .raw (vs 4), .ptr 4 0, .nilp, .ptr 5 0, .raw vq, .es true, .raw (vs 10), .raw (vs 11), .raw (vs 12), .raw (vs 13), .raw (vs 14), .raw (vs 15), .raw (vs 16), .raw (vs 17), .raw (vs 18), .raw (vs 19)], _, [(4, 20), (5, 21)], _, WG s0 (.pop 1 _ _ .es _) s2 s3, ?_, rfl, rfl, rfl, fun n => ((WG_1 _ s0 _ s2 s3 n)).trans rfl, rfl, s0, (.pop 1 _ _ .es _), s2, s3, _, _, _, _, ⟨js, rfl⟩, rfl, rfl, by show 4 ≤ 6; omega, ?_, ⟨(WS.ok_mono (Nat.le_succ _) ho.1), ⟨by omega, trivial⟩, (WS.ok_mono (Nat.le_succ _) ho.2.1), (WS.ok_mono (Nat.le_succ _) ho.2.2)⟩, by omega, by omega, by omega, by omega⟩
      · rfl
      · simp [hw]
theorem w1p3t (K : Nat) (w : Int) (l : Int) (vq : Value) (rows : List (List Int)) (kk : Int) (s0 s2 s3 : WS) (hkk : kk.tmod 4 = 1) (hr : 0 < rows.length ∧ rows.length ≤ 1000000) (hKr : rows.length ≤ K)  (ho : okO K s0 s2 s3) (hK6 : K ≤ 1000000) : TriX MS (listX Try.prog four) E ⟨pre n0 np false i ++ [.v (.int .i64 (.sym kk))] ++ junk js 58 11, base ps ws c c2 t (.abs (.grp (WG s0 (.pop 3 w l (.tab rows) vq) s2 s3))), 4, []⟩ (Mid n0 np i ps ws c c2 K) := by
  refine tri_group (mono_list _) 3 (WG s0 (.pop 3 w l (.tab rows) vq) s2 s3) [(20, some (popO 3 w l)), (21, some (rpopO 3 w l)), (22, some (tabO rows))] (wo 10 s0 ++ (wo 30 s2 ++ wo 40 s3)) M5q1 (WL s0 (.pop 3 w l (.tab rows) vq) s2 s3) _ 75 [(4, some (ofU (popO 3 w l))), (5, some (ofU (rpopO 3 w l))), (6, some (.tab [.int .i64] rows 3))] (Z3 20) rfl (fun n => (WG_1 _ s0 (.pop 3 w l (.tab rows) vq) s2 s3 n)) (by simp [Z3, Nat.beq]) (by simp) rfl rfl (hZL5q1 _ s0 s2 s3) (hZF5q1 (.tab rows) s0 s2 s3) rfl rfl (by rw [hT]; exact Nat.le_of_ble_eq_true rfl) (hD 3 (by decide)) ?_
  intro vs E1 e1 e2 e3
  show TriX MS (listX Try.prog four) E1 ⟨pre n0 np false i ++ [.v (.int .i64 (.sym kk))] ++ junk js 58 11, [(4, some (ofU (popO 3 w l))), (5, some (ofU (rpopO 3 w l))), (6, some (.tab [.int .i64] rows 3))] ++ base ps ws c c2 t (.cells [.raw (vs 0), .raw (vs 1), .raw (vs 2), .raw (vs 3), .raw (vs 4), .ptr 4 0, .nilp, .ptr 5 0, .raw vq, .ts 6 (.lit 0) (.sym rows.length) none, .raw (vs 10), .raw (vs 11), .raw (vs 12), .raw (vs 13), .raw (vs 14), .raw (vs 15), .raw (vs 16), .raw (vs 17), .raw (vs 18), .raw (vs 19)] 75), 7, []⟩ _
  have ht : ∀ {k : Nat}, Nat.ble k 40 = true → k ≤ E1.top := fun h => by rw [e2, hT]; exact Nat.le_of_ble_eq_true h
  have hd : ∀ (l : List Nat), l.all (Nat.ble 1) = true → ∀ b, b ∈ l → E1.D b := fun l hl b hb => e3 b (hD b (Nat.le_of_ble_eq_true (List.all_eq_true.1 hl b hb)))
  refine TriX.postE (mono_list _) (Q := fun x s => x = .normal ∧ (((∃ js, s = ⟨(q1p3t_l0 n0 i c c2 t np ps ws vs w l vq rows).pre ++ junk js 59 10, (q1p3t_l0 n0 i c c2 t np ps ws vs w l vq rows).hp, (q1p3t_l0 n0 i c c2 t np ps ws vs w l vq rows).nid, []⟩) ∧ True) ∨ ((∃ js, s = ⟨(q1p3t_l1 n0 i c c2 t np ps ws vs w l vq rows).pre ++ junk js 59 10, (q1p3t_l1 n0 i c c2 t np ps ws vs w l vq rows).hp, (q1p3t_l1 n0 i c c2 t np ps ws vs w l vq rows).nid, []⟩) ∧ True) ∨ ((∃ js, s = ⟨(q1p3t_l2 n0 i c c2 t np ps ws vs w l vq rows).pre ++ junk js 59 10, (q1p3t_l2 n0 i c c2 t np ps ws vs w l vq rows).hp, (q1p3t_l2 n0 i c c2 t np ps ws vs w l vq rows).nid, []⟩) ∧ True))) (TriX.listR (m := 10) (n := 59) codeOK (q1p3t n0 i c c2 t np ps ws vs js kk w l vq rows hw hc hc2 hkk hr) ?_) ?_
  · exact Tr.all_ite (fun _ => Tr.all_ite (fun _ => Tr.all_ok ⟨rfl, rfl, ht rfl, hd _ rfl, fun js => ⟨rfl, Or.inl ⟨⟨js, rfl⟩, trivial⟩⟩⟩) (fun _ => Tr.all_ok ⟨rfl, rfl, ht rfl, hd _ rfl, fun js => ⟨rfl, Or.inr (Or.inl ⟨⟨js, rfl⟩, trivial⟩)⟩⟩)) (fun _ => Tr.all_ok ⟨rfl, rfl, ht rfl, hd _ rfl, fun js => ⟨rfl, Or.inr (Or.inr (⟨⟨js, rfl⟩, trivial⟩))⟩⟩)
  · rintro x s ac w ⟨rfl, hq⟩ hat
    rcases hq with ⟨⟨js, rfl⟩, hcond⟩ | ⟨⟨js, rfl⟩, hcond⟩ | ⟨⟨js, rfl⟩, hcond⟩
    · have h1 := at_can hat
      obtain ⟨us, h2⟩ := at_forget 3 [false, false, false, false, false, false, false, true, false, false, false, false, false, false, false, false, false, false, false, false] rfl rfl h1
      refine ⟨_, h2, [.raw (vs 0), .raw (vs 1), .raw (vs 2), .raw (vs 3), .raw (vs 4), .nilp, .nilp, .raw (us 7), .raw vq, .ts 8 (.lit 0) (.sym _) none, .raw (vs 10), .raw (vs 11), .raw (vs 12), .raw (vs 13), .raw (vs 14), .raw (vs 15), .raw (vs 16), .raw (vs 17), .raw (vs 18), .raw (vs 19)], _, [(8, 22)], _, WG s0 (.idle (.tab _) (us 7) _) s2 s3, ?_, rfl, rfl, rfl, fun n => ((WG_1 _ s0 _ s2 s3 n)).trans rfl, rfl, s0, (.idle (.tab _) (us 7) _), s2, s3, _, _, _, _, ⟨js, rfl⟩, rfl, rfl, by show 4 ≤ 9; omega, ?_, ⟨(WS.ok_mono (Nat.le_succ _) ho.1), (by first | exact ⟨hr.1, by omega⟩ | (constructor <;> simp <;> omega)), (WS.ok_mono (Nat.le_succ _) ho.2.1), (WS.ok_mono (Nat.le_succ _) ho.2.2)⟩, by omega, by omega, by omega, by omega⟩
      · exact congrArg (fun m => some (VObj.cells [.raw (vs 0), .raw (vs 1), .raw (vs 2), .raw (vs 3), .raw (vs 4), .nilp, .nilp, .raw (us 7), .raw vq, .ts 8 (.lit 0) (.sym m) none, .raw (vs 10), .raw (vs 11), .raw (vs 12), .raw (vs 13), .raw (vs 14), .raw (vs 15), .raw (vs 16), .raw (vs 17), .raw (vs 18), .raw (vs 19)] 75)) (by first | rfl | (simp [SN.val]; done) | (simp [SN.val] <;> omega))
      · simp [hw]
    · have h1 := at_can hat
      obtain ⟨us, h2⟩ := at_forget 3 [false, false, false, false, false, false, false, true, false, false, false, false, false, false, false, false, false, false, false, false] rfl rfl h1
      refine ⟨_, h2, [.raw (vs 0), .raw (vs 1), .raw (vs 2), .raw (vs 3), .raw (vs 4), .nilp, .nilp, .raw (us 7), .raw vq, .ts 6 (.lit 0) (.sym _) none, .raw (vs 10), .raw (vs 11), .raw (vs 12), .raw (vs 13), .raw (vs 14), .raw (vs 15), .raw (vs 16), .raw (vs 17), .raw (vs 18), .raw (vs 19)], _, [(6, 22)], _, WG s0 (.idle (.tab _) (us 7) _) s2 s3, ?_, rfl, rfl, rfl, fun n => ((WG_1 _ s0 _ s2 s3 n)).trans rfl, rfl, s0, (.idle (.tab _) (us 7) _), s2, s3, _, _, _, _, ⟨js, rfl⟩, rfl, rfl, by show 4 ≤ 7; omega, ?_, ⟨(WS.ok_mono (Nat.le_succ _) ho.1), (by first | exact ⟨hr.1, by omega⟩ | (constructor <;> simp <;> omega)), (WS.ok_mono (Nat.le_succ _) ho.2.1), (WS.ok_mono (Nat.le_succ _) ho.2.2)⟩, by omega, by omega, by omega, by omega⟩
      · exact congrArg (fun m => some (VObj.cells [.raw (vs 0), .raw (vs 1), .raw (vs 2), .raw (vs 3), .raw (vs 4), .nilp, .nilp, .raw (us 7), .raw vq, .ts 6 (.lit 0) (.sym m) none, .raw (vs 10), .raw (vs 11), .raw (vs 12), .raw (vs 13), .raw (vs 14), .raw (vs 15), .raw (vs 16), .raw (vs 17), .raw (vs 18), .raw (vs 19)] 75)) (by first | rfl | (simp [SN.val]; done) | (simp [SN.val] <;> omega))
      · simp [hw]
    · have h1 := at_can hat
      refine ⟨_, h1, [.raw (vs 0), .raw (vs 1), .raw (vs 2), .raw (vs 3), .raw (vs 4), .ptr 4 0, .nilp, .ptr 5 0, .raw vq, .ts 6 (.lit 0) (.sym _) none, .raw (vs 10), .raw (vs 11), .raw (vs 12), .raw (vs 13), .raw (vs 14), .raw (vs 15), .raw (vs 16), .raw (vs 17), .raw (vs 18), .raw (vs 19)], _, [(4, 20), (5, 21), (6, 22)], _, WG s0 (.pop 1 _ _ (.tab _) _) s2 s3, ?_, rfl, rfl, rfl, fun n => ((WG_1 _ s0 _ s2 s3 n)).trans rfl, rfl, s0, (.pop 1 _ _ (.tab _) _), s2, s3, _, _, _, _, ⟨js, rfl⟩, rfl, rfl, by show 4 ≤ 7; omega, ?_, ⟨(WS.ok_mono (Nat.le_succ _) ho.1), ⟨by omega, (by first | exact ⟨hr.1, by omega⟩ | (constructor <;> simp <;> omega))⟩, (WS.ok_mono (Nat.le_succ _) ho.2.1), (WS.ok_mono (Nat.le_succ _) ho.2.2)⟩, by omega, by omega, by omega, by omega⟩
      · exact congrArg (fun m => some (VObj.cells [.raw (vs 0), .raw (vs 1), .raw (vs 2), .raw (vs 3), .raw (vs 4), .ptr 4 0, .nilp, .ptr 5 0, .raw vq, .ts 6 (.lit 0) (.sym m) none, .raw (vs 10), .raw (vs 11), .raw (vs 12), .raw (vs 13), .raw (vs 14), .raw (vs 15), .raw (vs 16), .raw (vs 17), .raw (vs 18), .raw (vs 19)] 75)) (by first | rfl | (simp [SN.val]; done) | (simp [SN.val] <;> omega))
      · simp [hw]
theorem w1u1 (K : Nat) (a : Int) (w : Int) (vp : Value) (kk : Int) (h : HS) (s0 s2 s3 : WS) (hkk : kk.tmod 4 = 1) (hK : h.ok K) (ho : okO K s0 s2 s3) (hK6 : K ≤ 1000000) : TriX MS (listX Try.prog four) E ⟨pre n0 np false i ++ [.v (.int .i64 (.sym kk))] ++ junk js 58 11, base ps ws c c2 t (.abs (.grp (WG s0 (.push 1 a w h vp) s2 s3))), 4, []⟩ (Mid n0 np i ps ws c c2 K) := by
  refine tri_group (mono_list _) 3 (WG s0 (.push 1 a w h vp) s2 s3) [(20, some (pushO 1 a w)), (21, some (rpushO 1 a w))] (hobj 20 h ++ (wo 10 s0 ++ (wo 30 s2 ++ wo 40 s3))) M4q1 (WL s0 (.push 1 a w h vp) s2 s3) _ 75 [(4, some (ofU (pushO 1 a w))), (5, some (ofU (rpushO 1 a w)))] (Z2 20) rfl (fun n => (WG_1 _ s0 (.push 1 a w h vp) s2 s3 n)) (by simp [Z2, Nat.beq]) (by simp) rfl rfl (hZL4q1 _ s0 s2 s3) (hZF4q1 h s0 s2 s3) rfl rfl (by rw [hT]; exact Nat.le_of_ble_eq_true rfl) (hD 3 (by decide)) ?_
  intro vs E1 e1 e2 e3
  show TriX MS (listX Try.prog four) E1 ⟨pre n0 np false i ++ [.v (.int .i64 (.sym kk))] ++ junk js 58 11, [(4, some (ofU (pushO 1 a w))), (5, some (ofU (rpushO 1 a w)))] ++ base ps ws c c2 t (.cells [.raw (vs 0), .raw (vs 1), .raw (vs 2), .raw (vs 3), .raw (vs 4), .nilp, .ptr 4 0, .raw vp, .ptr 5 0, .raw (vs 9), .raw (vs 10), .raw (vs 11), .raw (vs 12), .raw (vs 13), .raw (vs 14), .raw (vs 15), .raw (vs 16), .raw (vs 17), .raw (vs 18), .raw (vs 19)] 75), 6, []⟩ _
  have ht : ∀ {k : Nat}, Nat.ble k 40 = true → k ≤ E1.top := fun h => by rw [e2, hT]; exact Nat.le_of_ble_eq_true h
  have hd : ∀ (l : List Nat), l.all (Nat.ble 1) = true → ∀ b, b ∈ l → E1.D b := fun l hl b hb => e3 b (hD b (Nat.le_of_ble_eq_true (List.all_eq_true.1 hl b hb)))
  refine TriX.postE (mono_list _) (Q := fun x s => x = .normal ∧ (((∃ js, s = ⟨(q1u1_l0 n0 i c c2 t np ps ws vs a vp).pre ++ junk js 59 10, (q1u1_l0 n0 i c c2 t np ps ws vs a vp).hp, (q1u1_l0 n0 i c c2 t np ps ws vs a vp).nid, []⟩) ∧ True))) (TriX.listR (m := 10) (n := 59) codeOK (q1u1 n0 i c c2 t np ps ws vs js kk a w vp hw hc hc2 hkk) ?_) ?_
  · exact Tr.all_ok ⟨rfl, rfl, ht rfl, hd _ rfl, fun js => ⟨rfl, ⟨⟨js, rfl⟩, trivial⟩⟩⟩
  · rintro x s ac w ⟨rfl, hq⟩ hat
    rcases hq with ⟨⟨js, rfl⟩, hcond⟩
    · have h1 := at_can hat
      refine ⟨_, h1, [.raw (vs 0), .raw (vs 1), .raw (vs 2), .raw (vs 3), .raw (vs 4), .nilp, .ptr 4 0, .raw vp, .ptr 5 0, .raw (vs 9), .raw (vs 10), .raw (vs 11), .raw (vs 12), .raw (vs 13), .raw (vs 14), .raw (vs 15), .raw (vs 16), .raw (vs 17), .raw (vs 18), .raw (vs 19)], _, [(4, 20), (5, 21)], _, WG s0 (.push 2 _ _ h _) s2 s3, ?_, rfl, rfl, rfl, fun n => ((WG_1 _ s0 _ s2 s3 n)).trans rfl, rfl, s0, (.push 2 _ _ h _), s2, s3, _, _, _, _, ⟨js, rfl⟩, rfl, rfl, by show 4 ≤ 6; omega, ?_, ⟨(WS.ok_mono (Nat.le_succ _) ho.1), ⟨by omega, HS.ok_mono (Nat.le_succ _) hK⟩, (WS.ok_mono (Nat.le_succ _) ho.2.1), (WS.ok_mono (Nat.le_succ _) ho.2.2)⟩, by omega, by omega, by omega, by omega⟩
      · rfl
      · simp [hw]
theorem w1u2 (K : Nat) (a : Int) (w : Int) (vp : Value) (kk : Int) (h : HS) (s0 s2 s3 : WS) (hkk : kk.tmod 4 = 1) (hK : h.ok K) (ho : okO K s0 s2 s3) (hK6 : K ≤ 1000000) : TriX MS (listX Try.prog four) E ⟨pre n0 np false i ++ [.v (.int .i64 (.sym kk))] ++ junk js 58 11, base ps ws c c2 t (.abs (.grp (WG s0 (.push 2 a w h vp) s2 s3))), 4, []⟩ (Mid n0 np i ps ws c c2 K) := by
  refine tri_group (mono_list _) 3 (WG s0 (.push 2 a w h vp) s2 s3) [(20, some (pushO 2 a w)), (21, some (rpushO 2 a w))] (hobj 20 h ++ (wo 10 s0 ++ (wo 30 s2 ++ wo 40 s3))) M4q1 (WL s0 (.push 2 a w h vp) s2 s3) _ 75 [(4, some (ofU (pushO 2 a w))), (5, some (ofU (rpushO 2 a w)))] (Z2 20) rfl (fun n => (WG_1 _ s0 (.push 2 a w h vp) s2 s3 n)) (by simp [Z2, Nat.beq]) (by simp) rfl rfl (hZL4q1 _ s0 s2 s3) (hZF4q1 h s0 s2 s3) rfl rfl (by rw [hT]; exact Nat.le_of_ble_eq_true rfl) (hD 3 (by decide)) ?_
  intro vs E1 e1 e2 e3
  show TriX MS (listX Try.prog four) E1 ⟨pre n0 np false i ++ [.v (.int .i64 (.sym kk))] ++ junk js 58 11, [(4, some (ofU (pushO 2 a w))), (5, some (ofU (rpushO 2 a w)))] ++ base ps ws c c2 t (.cells [.raw (vs 0), .raw (vs 1), .raw (vs 2), .raw (vs 3), .raw (vs 4), .nilp, .ptr 4 0, .raw vp, .ptr 5 0, .raw (vs 9), .raw (vs 10), .raw (vs 11), .raw (vs 12), .raw (vs 13), .raw (vs 14), .raw (vs 15), .raw (vs 16), .raw (vs 17), .raw (vs 18), .raw (vs 19)] 75), 6, []⟩ _
  have ht : ∀ {k : Nat}, Nat.ble k 40 = true → k ≤ E1.top := fun h => by rw [e2, hT]; exact Nat.le_of_ble_eq_true h
  have hd : ∀ (l : List Nat), l.all (Nat.ble 1) = true → ∀ b, b ∈ l → E1.D b := fun l hl b hb => e3 b (hD b (Nat.le_of_ble_eq_true (List.all_eq_true.1 hl b hb)))
  refine TriX.postE (mono_list _) (Q := fun x s => x = .normal ∧ (((∃ js, s = ⟨(q1u2_l0 n0 i c c2 t np ps ws vs a w vp).pre ++ junk js 59 10, (q1u2_l0 n0 i c c2 t np ps ws vs a w vp).hp, (q1u2_l0 n0 i c c2 t np ps ws vs a w vp).nid, []⟩) ∧ True) ∨ ((∃ js, s = ⟨(q1u2_l1 n0 i c c2 t np ps ws vs a w vp).pre ++ junk js 59 10, (q1u2_l1 n0 i c c2 t np ps ws vs a w vp).hp, (q1u2_l1 n0 i c c2 t np ps ws vs a w vp).nid, []⟩) ∧ True))) (TriX.listR (m := 10) (n := 59) codeOK (q1u2 n0 i c c2 t np ps ws vs js kk a w vp hw hc hc2 hkk) ?_) ?_
  · exact Tr.all_ite (fun _ => Tr.all_ok ⟨rfl, rfl, ht rfl, hd _ rfl, fun js => ⟨rfl, Or.inl ⟨⟨js, rfl⟩, trivial⟩⟩⟩) (fun _ => Tr.all_ok ⟨rfl, rfl, ht rfl, hd _ rfl, fun js => ⟨rfl, Or.inr (⟨⟨js, rfl⟩, trivial⟩)⟩⟩)
  · rintro x s ac w ⟨rfl, hq⟩ hat
    rcases hq with ⟨⟨js, rfl⟩, hcond⟩ | ⟨⟨js, rfl⟩, hcond⟩
    · have h1 := at_can hat
      refine ⟨_, h1, [.raw (vs 0), .raw (vs 1), .raw (vs 2), .raw (vs 3), .raw (vs 4), .nilp, .ptr 4 0, .raw vp, .ptr 5 0, .raw (vs 9), .raw (vs 10), .raw (vs 11), .raw (vs 12), .raw (vs 13), .raw (vs 14), .raw (vs 15), .raw (vs 16), .raw (vs 17), .raw (vs 18), .raw (vs 19)], _, [(4, 20), (5, 21)], _, WG s0 (.push 3 _ _ h _) s2 s3, ?_, rfl, rfl, rfl, fun n => ((WG_1 _ s0 _ s2 s3 n)).trans rfl, rfl, s0, (.push 3 _ _ h _), s2, s3, _, _, _, _, ⟨js, rfl⟩, rfl, rfl, by show 4 ≤ 6; omega, ?_, ⟨(WS.ok_mono (Nat.le_succ _) ho.1), ⟨by omega, HS.ok_mono (Nat.le_succ _) hK⟩, (WS.ok_mono (Nat.le_succ _) ho.2.1), (WS.ok_mono (Nat.le_succ _) ho.2.2)⟩, by omega, by omega, by omega, by omega⟩
      · rfl
      · simp [hw]
    · have h1 := at_can hat
      refine ⟨_, h1, [.raw (vs 0), .raw (vs 1), .raw (vs 2), .raw (vs 3), .raw (vs 4), .nilp, .ptr 4 0, .raw vp, .ptr 5 0, .raw (vs 9), .raw (vs 10), .raw (vs 11), .raw (vs 12), .raw (vs 13), .raw (vs 14), .raw (vs 15), .raw (vs 16), .raw (vs 17), .raw (vs 18), .raw (vs 19)], _, [(4, 20), (5, 21)], _, WG s0 (.push 3 _ _ h _) s2 s3, ?_, rfl, rfl, rfl, fun n => ((WG_1 _ s0 _ s2 s3 n)).trans rfl, rfl, s0, (.push 3 _ _ h _), s2, s3, _, _, _, _, ⟨js, rfl⟩, rfl, rfl, by show 4 ≤ 6; omega, ?_, ⟨(WS.ok_mono (Nat.le_succ _) ho.1), ⟨by omega, HS.ok_mono (Nat.le_succ _) hK⟩, (WS.ok_mono (Nat.le_succ _) ho.2.1), (WS.ok_mono (Nat.le_succ _) ho.2.2)⟩, by omega, by omega, by omega, by omega⟩
      · rfl
      · simp [hw]
theorem w1u3 (K : Nat) (a : Int) (w : Int) (vp : Value) (kk : Int) (h : HS) (s0 s2 s3 : WS) (hkk : kk.tmod 4 = 1) (hK : h.ok K) (ho : okO K s0 s2 s3) (hK6 : K ≤ 1000000) : TriX MS (listX Try.prog four) E ⟨pre n0 np false i ++ [.v (.int .i64 (.sym kk))] ++ junk js 58 11, base ps ws c c2 t (.abs (.grp (WG s0 (.push 3 a w h vp) s2 s3))), 4, []⟩ (Mid n0 np i ps ws c c2 K) := by
  refine tri_group (mono_list _) 3 (WG s0 (.push 3 a w h vp) s2 s3) [(20, some (pushO 3 a w)), (21, some (rpushO 3 a w))] (hobj 20 h ++ (wo 10 s0 ++ (wo 30 s2 ++ wo 40 s3))) M4q1 (WL s0 (.push 3 a w h vp) s2 s3) _ 75 [(4, some (ofU (pushO 3 a w))), (5, some (ofU (rpushO 3 a w)))] (Z2 20) rfl (fun n => (WG_1 _ s0 (.push 3 a w h vp) s2 s3 n)) (by simp [Z2, Nat.beq]) (by simp) rfl rfl (hZL4q1 _ s0 s2 s3) (hZF4q1 h s0 s2 s3) rfl rfl (by rw [hT]; exact Nat.le_of_ble_eq_true rfl) (hD 3 (by decide)) ?_
  intro vs E1 e1 e2 e3
  show TriX MS (listX Try.prog four) E1 ⟨pre n0 np false i ++ [.v (.int .i64 (.sym kk))] ++ junk js 58 11, [(4, some (ofU (pushO 3 a w))), (5, some (ofU (rpushO 3 a w)))] ++ base ps ws c c2 t (.cells [.raw (vs 0), .raw (vs 1), .raw (vs 2), .raw (vs 3), .raw (vs 4), .nilp, .ptr 4 0, .raw vp, .ptr 5 0, .raw (vs 9), .raw (vs 10), .raw (vs 11), .raw (vs 12), .raw (vs 13), .raw (vs 14), .raw (vs 15), .raw (vs 16), .raw (vs 17), .raw (vs 18), .raw (vs 19)] 75), 6, []⟩ _
  have ht : ∀ {k : Nat}, Nat.ble k 40 = true → k ≤ E1.top := fun h => by rw [e2, hT]; exact Nat.le_of_ble_eq_true h
  have hd : ∀ (l : List Nat), l.all (Nat.ble 1) = true → ∀ b, b ∈ l → E1.D b := fun l hl b hb => e3 b (hD b (Nat.le_of_ble_eq_true (List.all_eq_true.1 hl b hb)))
  refine TriX.postE (mono_list _) (Q := fun x s => x = .normal ∧ (((∃ js, s = ⟨(q1u3_l0 n0 i c c2 t np ps ws vs a w vp).pre ++ junk js 59 10, (q1u3_l0 n0 i c c2 t np ps ws vs a w vp).hp, (q1u3_l0 n0 i c c2 t np ps ws vs a w vp).nid, []⟩) ∧ True) ∨ ((∃ js, s = ⟨(q1u3_l1 n0 i c c2 t np ps ws vs a w vp).pre ++ junk js 59 10, (q1u3_l1 n0 i c c2 t np ps ws vs a w vp).hp, (q1u3_l1 n0 i c c2 t np ps ws vs a w vp).nid, []⟩) ∧ True))) (TriX.listR (m := 10) (n := 59) codeOK (q1u3 n0 i c c2 t np ps ws vs js kk a w vp hw hc hc2 hkk) ?_) ?_
  · exact Tr.all_ite (fun _ => Tr.all_ok ⟨rfl, rfl, ht rfl, hd _ rfl, fun js => ⟨rfl, Or.inl ⟨⟨js, rfl⟩, trivial⟩⟩⟩) (fun _ => Tr.all_ok ⟨rfl, rfl, ht rfl, hd _ rfl, fun js => ⟨rfl, Or.inr (⟨⟨js, rfl⟩, trivial⟩)⟩⟩)
  · rintro x s ac w ⟨rfl, hq⟩ hat
    rcases hq with ⟨⟨js, rfl⟩, hcond⟩ | ⟨⟨js, rfl⟩, hcond⟩
    · have h1 := at_can hat
      obtain ⟨us, h2⟩ := at_forget 3 [false, false, false, false, false, false, false, false, true, false, false, false, false, false, false, false, false, false, false, false] rfl rfl h1
      refine ⟨_, h2, [.raw (vs 0), .raw (vs 1), .raw (vs 2), .raw (vs 3), .raw (vs 4), .nilp, .nilp, .raw vp, .raw (us 8), .raw (vs 9), .raw (vs 10), .raw (vs 11), .raw (vs 12), .raw (vs 13), .raw (vs 14), .raw (vs 15), .raw (vs 16), .raw (vs 17), .raw (vs 18), .raw (vs 19)], _, [], _, WG s0 (.idle h _ (us 8)) s2 s3, ?_, rfl, rfl, rfl, fun n => ((WG_1 _ s0 _ s2 s3 n)).trans rfl, rfl, s0, (.idle h _ (us 8)), s2, s3, _, _, _, _, ⟨js, rfl⟩, rfl, rfl, by show 4 ≤ 6; omega, ?_, ⟨(WS.ok_mono (Nat.le_succ _) ho.1), HS.ok_mono (Nat.le_succ _) hK, (WS.ok_mono (Nat.le_succ _) ho.2.1), (WS.ok_mono (Nat.le_succ _) ho.2.2)⟩, by omega, by omega, by omega, by omega⟩
      · rfl
      · simp [hw]
    · have h1 := at_can hat
      refine ⟨_, h1, [.raw (vs 0), .raw (vs 1), .raw (vs 2), .raw (vs 3), .raw (vs 4), .nilp, .ptr 4 0, .raw vp, .ptr 5 0, .raw (vs 9), .raw (vs 10), .raw (vs 11), .raw (vs 12), .raw (vs 13), .raw (vs 14), .raw (vs 15), .raw (vs 16), .raw (vs 17), .raw (vs 18), .raw (vs 19)], _, [(4, 20), (5, 21)], _, WG s0 (.push 1 _ _ h _) s2 s3, ?_, rfl, rfl, rfl, fun n => ((WG_1 _ s0 _ s2 s3 n)).trans rfl, rfl, s0, (.push 1 _ _ h _), s2, s3, _, _, _, _, ⟨js, rfl⟩, rfl, rfl, by show 4 ≤ 6; omega, ?_, ⟨(WS.ok_mono (Nat.le_succ _) ho.1), ⟨by omega, HS.ok_mono (Nat.le_succ _) hK⟩, (WS.ok_mono (Nat.le_succ _) ho.2.1), (WS.ok_mono (Nat.le_succ _) ho.2.2)⟩, by omega, by omega, by omega, by omega⟩
      · rfl
      · simp [hw]
end
end Go.Proofs.Ytnlfphlmlklofaa.ListPlays
