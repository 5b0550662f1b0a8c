/-
  ListPlays: a step of the worker 0: its objects are opened, the step runs, they are hidden again. Printed by genLPW.py.
-/
import Derived.Test.YtnlfphlmlklofaaTListPlaysQ0
import Derived.Test.YtnlfphlmlklofaaDListPlays
namespace Go.Proofs.Ytnlfphlmlklofaa.ListPlays
open Go Go.RowKit Go.Proofs.Ytnlfphlmlklofaa.Eng
set_option linter.unusedVariables false
set_option linter.unusedSimpArgs false
set_option linter.unusedSectionVars false
set_option maxRecDepth 20000
set_option maxHeartbeats 1000000
abbrev M4q0 : List Bool := [false, false, false, false, true, true, true, true, true, true, true, true, true, true, true, true, true, true, true, true]
theorem hZL4q0 (s s1 s2 s3 : WS) : ∀ (i : Nat) x, M4q0[i]? = some true → (WL s s1 s2 s3)[i]? = some x → ∀ n ∈ vvIds x, Z2 10 n = false := by
  intro i x hm hx
  exact match i, hm, hx with
    | 0, hm, _ => (by cases hm)
    | 1, hm, _ => (by cases hm)
    | 2, hm, _ => (by cases hm)
    | 3, hm, _ => (by cases hm)
    | 4, _, hx => by
      injection hx with hx
      subst hx
      intro n hn
      have := c4_id 10 s n hn
      exact Z2_no ⟨by omega, by omega, by omega⟩
    | 5, _, hx => by
      injection hx with hx
      subst hx
      exact fun n hn => Z2_far (by decide) (by omega) (c_ids 20 s1 _ (by simp) n hn)
    | 6, _, hx => by
      injection hx with hx
      subst hx
      exact fun n hn => Z2_far (by decide) (by omega) (c_ids 20 s1 _ (by simp) n hn)
    | 7, _, hx => by
      injection hx with hx
      subst hx
      exact fun n hn => Z2_far (by decide) (by omega) (c_ids 20 s1 _ (by simp) n hn)
    | 8, _, hx => by
      injection hx with hx
      subst hx
      exact fun n hn => Z2_far (by decide) (by omega) (c_ids 20 s1 _ (by simp) n hn)
    | 9, _, hx => by
      injection hx with hx
      subst hx
      exact fun n hn => Z2_far (by decide) (by omega) (c_ids 20 s1 _ (by simp) n hn)
    | 10, _, hx => by
      injection hx with hx
      subst hx
      exact fun n hn => Z2_far (by decide) (by omega) (c_ids 30 s2 _ (by simp) n hn)
    | 11, _, hx => by
      injection hx with hx
      subst hx
      exact fun n hn => Z2_far (by decide) (by omega) (c_ids 30 s2 _ (by simp) n hn)
    | 12, _, hx => by
      injection hx with hx
      subst hx
      exact fun n hn => Z2_far (by decide) (by omega) (c_ids 30 s2 _ (by simp) n hn)
    | 13, _, hx => by
      injection hx with hx
      subst hx
      exact fun n hn => Z2_far (by decide) (by omega) (c_ids 30 s2 _ (by simp) n hn)
    | 14, _, hx => by
      injection hx with hx
      subst hx
      exact fun n hn => Z2_far (by decide) (by omega) (c_ids 30 s2 _ (by simp) n hn)
    | 15, _, hx => by
      injection hx with hx
      subst hx
      exact fun n hn => Z2_far (by decide) (by omega) (c_ids 40 s3 _ (by simp) n hn)
    | 16, _, hx => by
      injection hx with hx
      subst hx
      exact fun n hn => Z2_far (by decide) (by omega) (c_ids 40 s3 _ (by simp) n hn)
    | 17, _, hx => by
      injection hx with hx
      subst hx
      exact fun n hn => Z2_far (by decide) (by omega) (c_ids 40 s3 _ (by simp) n hn)
    | 18, _, hx => by
      injection hx with hx
      subst hx
      exact fun n hn => Z2_far (by decide) (by omega) (c_ids 40 s3 _ (by simp) n hn)
    | 19, _, hx => by
      injection hx with hx
      subst hx
      exact fun n hn => Z2_far (by decide) (by omega) (c_ids 40 s3 _ (by simp) n hn)
    | i + 20, _, hx => (by simp at hx)
theorem hZF4q0 (h : HS) (s1 s2 s3 : WS) : ∀ n o, hget (hobj 10 h ++ (wo 20 s1 ++ (wo 30 s2 ++ wo 40 s3))) n = some o → Z2 10 n = false ∧ ∀ m ∈ objIds o, Z2 10 m = false := by
  intro n o ho
  rw [hget_app (hobj_some 10 h)] at ho
  cases hb : hget (hobj 10 h) n with
  | some o' =>
    rw [hb] at ho
    injection ho with ho
    subst ho
    obtain ⟨rfl, h2⟩ := hobj_ids hb
    exact ⟨Z2_no ⟨by omega, by omega, by omega⟩, by rw [h2]; intro m hm; cases hm⟩
  | none =>
    rw [hb] at ho
    obtain ⟨h1, h2⟩ := oth_ids (show hget (wo 20 s1 ++ (wo 30 s2 ++ wo 40 s3)) n = some o from ho)
    refine ⟨?_, by rw [h2]; intro m hm; cases hm⟩
    rcases h1 with h1 | h1 | h1 <;> exact Z2_far (by decide) (by omega) h1
abbrev M5q0 : List Bool := [false, false, false, false, false, true, true, true, true, true, true, true, true, true, true, true, true, true, true, true]
theorem hZL5q0 (s s1 s2 s3 : WS) : ∀ (i : Nat) x, M5q0[i]? = some true → (WL s s1 s2 s3)[i]? = some x → ∀ n ∈ vvIds x, Z3 10 n = false := by
  intro i x hm hx
  exact match i, hm, hx with
    | 0, hm, _ => (by cases hm)
    | 1, hm, _ => (by cases hm)
    | 2, hm, _ => (by cases hm)
    | 3, hm, _ => (by cases hm)
    | 4, hm, _ => (by cases hm)
    | 5, _, hx => by
      injection hx with hx
      subst hx
      exact fun n hn => Z3_far (by decide) (by omega) (c_ids 20 s1 _ (by simp) n hn)
    | 6, _, hx => by
      injection hx with hx
      subst hx
      exact fun n hn => Z3_far (by decide) (by omega) (c_ids 20 s1 _ (by simp) n hn)
    | 7, _, hx => by
      injection hx with hx
      subst hx
      exact fun n hn => Z3_far (by decide) (by omega) (c_ids 20 s1 _ (by simp) n hn)
    | 8, _, hx => by
      injection hx with hx
      subst hx
      exact fun n hn => Z3_far (by decide) (by omega) (c_ids 20 s1 _ (by simp) n hn)
    | 9, _, hx => by
      injection hx with hx
      subst hx
      exact fun n hn => Z3_far (by decide) (by omega) (c_ids 20 s1 _ (by simp) n hn)
    | 10, _, hx => by
      injection hx with hx
      subst hx
      exact fun n hn => Z3_far (by decide) (by omega) (c_ids 30 s2 _ (by simp) n hn)
    | 11, _, hx => by
      injection hx with hx
      subst hx
      exact fun n hn => Z3_far (by decide) (by omega) (c_ids 30 s2 _ (by simp) n hn)
    | 12, _, hx => by
      injection hx with hx
      subst hx
      exact fun n hn => Z3_far (by decide) (by omega) (c_ids 30 s2 _ (by simp) n hn)
    | 13, _, hx => by
      injection hx with hx
      subst hx
      exact fun n hn => Z3_far (by decide) (by omega) (c_ids 30 s2 _ (by simp) n hn)
    | 14, _, hx => by
      injection hx with hx
      subst hx
      exact fun n hn => Z3_far (by decide) (by omega) (c_ids 30 s2 _ (by simp) n hn)
    | 15, _, hx => by
      injection hx with hx
      subst hx
      exact fun n hn => Z3_far (by decide) (by omega) (c_ids 40 s3 _ (by simp) n hn)
    | 16, _, hx => by
      injection hx with hx
      subst hx
      exact fun n hn => Z3_far (by decide) (by omega) (c_ids 40 s3 _ (by simp) n hn)
    | 17, _, hx => by
      injection hx with hx
      subst hx
      exact fun n hn => Z3_far (by decide) (by omega) (c_ids 40 s3 _ (by simp) n hn)
    | 18, _, hx => by
      injection hx with hx
      subst hx
      exact fun n hn => Z3_far (by decide) (by omega) (c_ids 40 s3 _ (by simp) n hn)
    | 19, _, hx => by
      injection hx with hx
      subst hx
      exact fun n hn => Z3_far (by decide) (by omega) (c_ids 40 s3 _ (by simp) n hn)
    | i + 20, _, hx => (by simp at hx)
theorem hZF5q0 (h : HS) (s1 s2 s3 : WS) : ∀ n o, hget (wo 20 s1 ++ (wo 30 s2 ++ wo 40 s3)) n = some o → Z3 10 n = false ∧ ∀ m ∈ objIds o, Z3 10 m = false := by
  intro n o ho
  obtain ⟨h1, h2⟩ := oth_ids ho
  refine ⟨?_, by rw [h2]; intro m hm; cases hm⟩
  rcases h1 with h1 | h1 | h1 <;> exact Z3_far (by decide) (by omega) h1
section
variable {n0 i c c2 t : Int} {np : Nat} {ps : List (List Int)} {ws : List Int} {js : Nat → SV} {E : Ctx MObj} (hE : E.nid0 = 1) (hT : E.top = 40) (hD : ∀ b, 1 ≤ b → E.D b) (hw : ws.length = 160) (hc : 0 ≤ c ∧ c ≤ 1000000) (hc2 : 0 ≤ c2 ∧ c2 ≤ 1000000)
include hE hT hD hw hc hc2
theorem w0ip (K : Nat) (vp : Value) (vq : Value) (h : HS) (s1 s2 s3 : WS)  (hK : h.ok K) (ho : okO K s1 s2 s3) (hK6 : K ≤ 1000000) : TriX MS (listX Try.prog four) E ⟨pre n0 np false i ++ [.v (.int .i64 (.lit 0))] ++ junk js 58 11, base ps ws c c2 t (.abs (.grp (WG (.idle h vp vq) s1 s2 s3))), 4, []⟩ (Mid n0 np i ps ws c c2 K) := by
  refine tri_group (mono_list _) 3 (WG (.idle h vp vq) s1 s2 s3) [] (hobj 10 h ++ (wo 20 s1 ++ (wo 30 s2 ++ wo 40 s3))) M4q0 (WL (.idle h vp vq) s1 s2 s3) _ 75 [] (Z2 10) rfl (fun n => rfl) (by simp [Z2, Nat.beq]) (by simp) rfl rfl (hZL4q0 _ s1 s2 s3) (hZF4q0 h s1 s2 s3) rfl rfl (by rw [hT]; exact Nat.le_of_ble_eq_true rfl) (hD 3 (by decide)) ?_
  intro vs E1 e1 e2 e3
  show TriX MS (listX Try.prog four) E1 ⟨pre n0 np false i ++ [.v (.int .i64 (.lit 0))] ++ junk js 58 11, base ps ws c c2 t (.cells [.nilp, .nilp, .raw vp, .raw vq, .raw (vs 4), .raw (vs 5), .raw (vs 6), .raw (vs 7), .raw (vs 8), .raw (vs 9), .raw (vs 10), .raw (vs 11), .raw (vs 12), .raw (vs 13), .raw (vs 14), .raw (vs 15), .raw (vs 16), .raw (vs 17), .raw (vs 18), .raw (vs 19)] 75), 4, []⟩ _
  have ht : ∀ {k : Nat}, Nat.ble k 40 = true → k ≤ E1.top := fun h => by rw [e2, hT]; exact Nat.le_of_ble_eq_true h
  have hd : ∀ (l : List Nat), l.all (Nat.ble 1) = true → ∀ b, b ∈ l → E1.D b := fun l hl b hb => e3 b (hD b (Nat.le_of_ble_eq_true (List.all_eq_true.1 hl b hb)))
  refine TriX.postE (mono_list _) (Q := fun x s => x = .normal ∧ (((∃ js, s = ⟨(q0ip_l0 n0 i c c2 t np ps ws vs vq).pre ++ junk js 59 10, (q0ip_l0 n0 i c c2 t np ps ws vs vq).hp, (q0ip_l0 n0 i c c2 t np ps ws vs vq).nid, []⟩) ∧ True) ∨ ((∃ js, s = ⟨(q0ip_l1 n0 i c c2 t np ps ws vs vq).pre ++ junk js 59 10, (q0ip_l1 n0 i c c2 t np ps ws vs vq).hp, (q0ip_l1 n0 i c c2 t np ps ws vs vq).nid, []⟩) ∧ True))) (TriX.listR (m := 10) (n := 59) codeOK (q0ip n0 i c c2 t np ps ws vs js vp vq hw hc hc2) ?_) ?_
  · exact Tr.all_ite (fun _ => Tr.all_ok ⟨rfl, rfl, ht rfl, hd _ rfl, fun js => ⟨rfl, Or.inl ⟨⟨js, rfl⟩, trivial⟩⟩⟩) (fun _ => Tr.all_ok ⟨rfl, rfl, ht rfl, hd _ rfl, fun js => ⟨rfl, Or.inr (⟨⟨js, rfl⟩, trivial⟩)⟩⟩)
  · rintro x s ac w ⟨rfl, hq⟩ hat
    rcases hq with ⟨⟨js, rfl⟩, hcond⟩ | ⟨⟨js, rfl⟩, hcond⟩
    · have h1 := at_can hat
      obtain ⟨us, h2⟩ := at_forget 3 [false, false, true, false, false, false, false, false, false, false, false, false, false, false, false, false, false, false, false, false] rfl rfl h1
      refine ⟨_, h2, [.nilp, .nilp, .raw (us 2), .raw vq, .raw (vs 4), .raw (vs 5), .raw (vs 6), .raw (vs 7), .raw (vs 8), .raw (vs 9), .raw (vs 10), .raw (vs 11), .raw (vs 12), .raw (vs 13), .raw (vs 14), .raw (vs 15), .raw (vs 16), .raw (vs 17), .raw (vs 18), .raw (vs 19)], _, [], _, WG (.idle h (us 2) _) s1 s2 s3, ?_, rfl, rfl, rfl, fun n => rfl, rfl, (.idle h (us 2) _), s1, s2, s3, _, _, _, _, ⟨js, rfl⟩, rfl, rfl, by show 4 ≤ 6; omega, ?_, ⟨HS.ok_mono (Nat.le_succ _) hK, (WS.ok_mono (Nat.le_succ _) ho.1), (WS.ok_mono (Nat.le_succ _) ho.2.1), (WS.ok_mono (Nat.le_succ _) ho.2.2)⟩, by omega, by omega, by omega, by omega⟩
      · rfl
      · simp [hw]
    · have h1 := at_can hat
      refine ⟨_, h1, [.ptr 4 0, .nilp, .ptr 5 0, .raw vq, .raw (vs 4), .raw (vs 5), .raw (vs 6), .raw (vs 7), .raw (vs 8), .raw (vs 9), .raw (vs 10), .raw (vs 11), .raw (vs 12), .raw (vs 13), .raw (vs 14), .raw (vs 15), .raw (vs 16), .raw (vs 17), .raw (vs 18), .raw (vs 19)], _, [(4, 10), (5, 11)], _, WG (.pop 2 _ _ h _) s1 s2 s3, ?_, rfl, rfl, rfl, fun n => rfl, rfl, (.pop 2 _ _ h _), s1, s2, s3, _, _, _, _, ⟨js, rfl⟩, rfl, rfl, by show 4 ≤ 6; omega, ?_, ⟨⟨by omega, HS.ok_mono (Nat.le_succ _) hK⟩, (WS.ok_mono (Nat.le_succ _) ho.1), (WS.ok_mono (Nat.le_succ _) ho.2.1), (WS.ok_mono (Nat.le_succ _) ho.2.2)⟩, by omega, by omega, by omega, by omega⟩
      · rfl
      · simp [hw]
theorem w0in (K : Nat) (vp : Value) (vq : Value) (s1 s2 s3 : WS)   (ho : okO K s1 s2 s3) (hK6 : K ≤ 1000000) : TriX MS (listX Try.prog four) E ⟨pre n0 np false i ++ [.v (.int .i64 (.lit 4))] ++ junk js 58 11, base ps ws c c2 t (.abs (.grp (WG (.idle (.nil) vp vq) s1 s2 s3))), 4, []⟩ (Mid n0 np i ps ws c c2 K) := by
  refine tri_group (mono_list _) 3 (WG (.idle (.nil) vp vq) s1 s2 s3) [] (wo 20 s1 ++ (wo 30 s2 ++ wo 40 s3)) M5q0 (WL (.idle (.nil) vp vq) s1 s2 s3) _ 75 [] (Z3 10) rfl (fun n => rfl) (by simp [Z3, Nat.beq]) (by simp) rfl rfl (hZL5q0 _ s1 s2 s3) (hZF5q0 (.nil) s1 s2 s3) rfl rfl (by rw [hT]; exact Nat.le_of_ble_eq_true rfl) (hD 3 (by decide)) ?_
  intro vs E1 e1 e2 e3
  show TriX MS (listX Try.prog four) E1 ⟨pre n0 np false i ++ [.v (.int .i64 (.lit 4))] ++ junk js 58 11, base ps ws c c2 t (.cells [.nilp, .nilp, .raw vp, .raw vq, .nils, .raw (vs 5), .raw (vs 6), .raw (vs 7), .raw (vs 8), .raw (vs 9), .raw (vs 10), .raw (vs 11), .raw (vs 12), .raw (vs 13), .raw (vs 14), .raw (vs 15), .raw (vs 16), .raw (vs 17), .raw (vs 18), .raw (vs 19)] 75), 4, []⟩ _
  have ht : ∀ {k : Nat}, Nat.ble k 40 = true → k ≤ E1.top := fun h => by rw [e2, hT]; exact Nat.le_of_ble_eq_true h
  have hd : ∀ (l : List Nat), l.all (Nat.ble 1) = true → ∀ b, b ∈ l → E1.D b := fun l hl b hb => e3 b (hD b (Nat.le_of_ble_eq_true (List.all_eq_true.1 hl b hb)))
  refine TriX.postE (mono_list _) (Q := fun x s => x = .normal ∧ (((∃ js, s = ⟨(q0in_l0 n0 i c c2 t np ps ws vs vq).pre ++ junk js 59 10, (q0in_l0 n0 i c c2 t np ps ws vs vq).hp, (q0in_l0 n0 i c c2 t np ps ws vs vq).nid, []⟩) ∧ True) ∨ ((∃ js, s = ⟨(q0in_l1 n0 i c c2 t np ps ws vs vq).pre ++ junk js 59 10, (q0in_l1 n0 i c c2 t np ps ws vs vq).hp, (q0in_l1 n0 i c c2 t np ps ws vs vq).nid, []⟩) ∧ True))) (TriX.listR (m := 10) (n := 59) codeOK (q0in n0 i c c2 t np ps ws vs js vp vq hw hc hc2) ?_) ?_
  · exact Tr.all_ite (fun _ => Tr.all_ok ⟨rfl, rfl, ht rfl, hd _ rfl, fun js => ⟨rfl, Or.inl ⟨⟨js, rfl⟩, trivial⟩⟩⟩) (fun _ => Tr.all_ok ⟨rfl, rfl, ht rfl, hd _ rfl, fun js => ⟨rfl, Or.inr (⟨⟨js, rfl⟩, trivial⟩)⟩⟩)
  · rintro x s ac w ⟨rfl, hq⟩ hat
    rcases hq with ⟨⟨js, rfl⟩, hcond⟩ | ⟨⟨js, rfl⟩, hcond⟩
    · have h1 := at_can hat
      obtain ⟨us, h2⟩ := at_forget 3 [false, false, true, false, false, false, false, false, false, false, false, false, false, false, false, false, false, false, false, false] rfl rfl h1
      refine ⟨_, h2, [.nilp, .nilp, .raw (us 2), .raw vq, .nils, .raw (vs 5), .raw (vs 6), .raw (vs 7), .raw (vs 8), .raw (vs 9), .raw (vs 10), .raw (vs 11), .raw (vs 12), .raw (vs 13), .raw (vs 14), .raw (vs 15), .raw (vs 16), .raw (vs 17), .raw (vs 18), .raw (vs 19)], _, [], _, WG (.idle .nil (us 2) _) s1 s2 s3, ?_, rfl, rfl, rfl, fun n => rfl, rfl, (.idle .nil (us 2) _), s1, s2, s3, _, _, _, _, ⟨js, rfl⟩, rfl, rfl, by show 4 ≤ 6; omega, ?_, ⟨trivial, (WS.ok_mono (Nat.le_succ _) ho.1), (WS.ok_mono (Nat.le_succ _) ho.2.1), (WS.ok_mono (Nat.le_succ _) ho.2.2)⟩, by omega, by omega, by omega, by omega⟩
      · rfl
      · simp [hw]
    · have h1 := at_can hat
      refine ⟨_, h1, [.ptr 4 0, .nilp, .ptr 5 0, .raw vq, .nils, .raw (vs 5), .raw (vs 6), .raw (vs 7), .raw (vs 8), .raw (vs 9), .raw (vs 10), .raw (vs 11), .raw (vs 12), .raw (vs 13), .raw (vs 14), .raw (vs 15), .raw (vs 16), .raw (vs 17), .raw (vs 18), .raw (vs 19)], _, [(4, 10), (5, 11)], _, WG (.pop 2 _ _ .nil _) s1 s2 s3, ?_, rfl, rfl, rfl, fun n => rfl, rfl, (.pop 2 _ _ .nil _), s1, s2, s3, _, _, _, _, ⟨js, rfl⟩, rfl, rfl, by show 4 ≤ 6; omega, ?_, ⟨⟨by omega, trivial⟩, (WS.ok_mono (Nat.le_succ _) ho.1), (WS.ok_mono (Nat.le_succ _) ho.2.1), (WS.ok_mono (Nat.le_succ _) ho.2.2)⟩, by omega, by omega, by omega, by omega⟩
      · rfl
      · simp [hw]
theorem w0ie (K : Nat) (vp : Value) (vq : Value) (s1 s2 s3 : WS)   (ho : okO K s1 s2 s3) (hK6 : K ≤ 1000000) : TriX MS (listX Try.prog four) E ⟨pre n0 np false i ++ [.v (.int .i64 (.lit 4))] ++ junk js 58 11, base ps ws c c2 t (.abs (.grp (WG (.idle (.es) vp vq) s1 s2 s3))), 4, []⟩ (Mid n0 np i ps ws c c2 K) := by
  refine tri_group (mono_list _) 3 (WG (.idle (.es) vp vq) s1 s2 s3) [] (wo 20 s1 ++ (wo 30 s2 ++ wo 40 s3)) M5q0 (WL (.idle (.es) vp vq) s1 s2 s3) _ 75 [] (Z3 10) rfl (fun n => rfl) (by simp [Z3, Nat.beq]) (by simp) rfl rfl (hZL5q0 _ s1 s2 s3) (hZF5q0 (.es) s1 s2 s3) rfl rfl (by rw [hT]; exact Nat.le_of_ble_eq_true rfl) (hD 3 (by decide)) ?_
  intro vs E1 e1 e2 e3
  show TriX MS (listX Try.prog four) E1 ⟨pre n0 np false i ++ [.v (.int .i64 (.lit 4))] ++ junk js 58 11, base ps ws c c2 t (.cells [.nilp, .nilp, .raw vp, .raw vq, .es true, .raw (vs 5), .raw (vs 6), .raw (vs 7), .raw (vs 8), .raw (vs 9), .raw (vs 10), .raw (vs 11), .raw (vs 12), .raw (vs 13), .raw (vs 14), .raw (vs 15), .raw (vs 16), .raw (vs 17), .raw (vs 18), .raw (vs 19)] 75), 4, []⟩ _
  have ht : ∀ {k : Nat}, Nat.ble k 40 = true → k ≤ E1.top := fun h => by rw [e2, hT]; exact Nat.le_of_ble_eq_true h
  have hd : ∀ (l : List Nat), l.all (Nat.ble 1) = true → ∀ b, b ∈ l → E1.D b := fun l hl b hb => e3 b (hD b (Nat.le_of_ble_eq_true (List.all_eq_true.1 hl b hb)))
  refine TriX.postE (mono_list _) (Q := fun x s => x = .normal ∧ (((∃ js, s = ⟨(q0ie_l0 n0 i c c2 t np ps ws vs vq).pre ++ junk js 59 10, (q0ie_l0 n0 i c c2 t np ps ws vs vq).hp, (q0ie_l0 n0 i c c2 t np ps ws vs vq).nid, []⟩) ∧ True) ∨ ((∃ js, s = ⟨(q0ie_l1 n0 i c c2 t np ps ws vs vq).pre ++ junk js 59 10, (q0ie_l1 n0 i c c2 t np ps ws vs vq).hp, (q0ie_l1 n0 i c c2 t np ps ws vs vq).nid, []⟩) ∧ True))) (TriX.listR (m := 10) (n := 59) codeOK (q0ie n0 i c c2 t np ps ws vs js vp vq hw hc hc2) ?_) ?_
  · exact Tr.all_ite (fun _ => Tr.all_ok ⟨rfl, rfl, ht rfl, hd _ rfl, fun js => ⟨rfl, Or.inl ⟨⟨js, rfl⟩, trivial⟩⟩⟩) (fun _ => Tr.all_ok ⟨rfl, rfl, ht rfl, hd _ rfl, fun js => ⟨rfl, Or.inr (⟨⟨js, rfl⟩, trivial⟩)⟩⟩)
  · rintro x s ac w ⟨rfl, hq⟩ hat
    rcases hq with ⟨⟨js, rfl⟩, hcond⟩ | ⟨⟨js, rfl⟩, hcond⟩
    · have h1 := at_can hat
      obtain ⟨us, h2⟩ := at_forget 3 [false, false, true, false, false, false, false, false, false, false, false, false, false, false, false, false, false, false, false, false] rfl rfl h1
      refine ⟨_, h2, [.nilp, .nilp, .raw (us 2), .raw vq, .es true, .raw (vs 5), .raw (vs 6), .raw (vs 7), .raw (vs 8), .raw (vs 9), .raw (vs 10), .raw (vs 11), .raw (vs 12), .raw (vs 13), .raw (vs 14), .raw (vs 15), .raw (vs 16), .raw (vs 17), .raw (vs 18), .raw (vs 19)], _, [], _, WG (.idle .es (us 2) _) s1 s2 s3, ?_, rfl, rfl, rfl, fun n => rfl, rfl, (.idle .es (us 2) _), s1, s2, s3, _, _, _, _, ⟨js, rfl⟩, rfl, rfl, by show 4 ≤ 6; omega, ?_, ⟨trivial, (WS.ok_mono (Nat.le_succ _) ho.1), (WS.ok_mono (Nat.le_succ _) ho.2.1), (WS.ok_mono (Nat.le_succ _) ho.2.2)⟩, by omega, by omega, by omega, by omega⟩
      · rfl
      · simp [hw]
    · have h1 := at_can hat
      refine ⟨_, h1, [.ptr 4 0, .nilp, .ptr 5 0, .raw vq, .es true, .raw (vs 5), .raw (vs 6), .raw (vs 7), .raw (vs 8), .raw (vs 9), .raw (vs 10), .raw (vs 11), .raw (vs 12), .raw (vs 13), .raw (vs 14), .raw (vs 15), .raw (vs 16), .raw (vs 17), .raw (vs 18), .raw (vs 19)], _, [(4, 10), (5, 11)], _, WG (.pop 2 _ _ .es _) s1 s2 s3, ?_, rfl, rfl, rfl, fun n => rfl, rfl, (.pop 2 _ _ .es _), s1, s2, s3, _, _, _, _, ⟨js, rfl⟩, rfl, rfl, by show 4 ≤ 6; omega, ?_, ⟨⟨by omega, trivial⟩, (WS.ok_mono (Nat.le_succ _) ho.1), (WS.ok_mono (Nat.le_succ _) ho.2.1), (WS.ok_mono (Nat.le_succ _) ho.2.2)⟩, by omega, by omega, by omega, by omega⟩
      · rfl
      · simp [hw]
theorem w0it (K : Nat) (vp : Value) (vq : Value) (rows : List (List Int)) (s1 s2 s3 : WS) (hr : 0 < rows.length ∧ rows.length ≤ 1000000) (hKr : rows.length ≤ K)  (ho : okO K s1 s2 s3) (hK6 : K ≤ 1000000) : TriX MS (listX Try.prog four) E ⟨pre n0 np false i ++ [.v (.int .i64 (.lit 4))] ++ junk js 58 11, base ps ws c c2 t (.abs (.grp (WG (.idle (.tab rows) vp vq) s1 s2 s3))), 4, []⟩ (Mid n0 np i ps ws c c2 K) := by
  refine tri_group (mono_list _) 3 (WG (.idle (.tab rows) vp vq) s1 s2 s3) [(12, some (tabO rows))] (wo 20 s1 ++ (wo 30 s2 ++ wo 40 s3)) M5q0 (WL (.idle (.tab rows) vp vq) s1 s2 s3) _ 75 [(4, some (.tab [.int .i64] rows 3))] (Z3 10) rfl (fun n => rfl) (by simp [Z3, Nat.beq]) (by simp) rfl rfl (hZL5q0 _ s1 s2 s3) (hZF5q0 (.tab rows) s1 s2 s3) rfl rfl (by rw [hT]; exact Nat.le_of_ble_eq_true rfl) (hD 3 (by decide)) ?_
  intro vs E1 e1 e2 e3
  show TriX MS (listX Try.prog four) E1 ⟨pre n0 np false i ++ [.v (.int .i64 (.lit 4))] ++ junk js 58 11, [(4, some (.tab [.int .i64] rows 3))] ++ base ps ws c c2 t (.cells [.nilp, .nilp, .raw vp, .raw vq, .ts 4 (.lit 0) (.sym rows.length) none, .raw (vs 5), .raw (vs 6), .raw (vs 7), .raw (vs 8), .raw (vs 9), .raw (vs 10), .raw (vs 11), .raw (vs 12), .raw (vs 13), .raw (vs 14), .raw (vs 15), .raw (vs 16), .raw (vs 17), .raw (vs 18), .raw (vs 19)] 75), 5, []⟩ _
  have ht : ∀ {k : Nat}, Nat.ble k 40 = true → k ≤ E1.top := fun h => by rw [e2, hT]; exact Nat.le_of_ble_eq_true h
  have hd : ∀ (l : List Nat), l.all (Nat.ble 1) = true → ∀ b, b ∈ l → E1.D b := fun l hl b hb => e3 b (hD b (Nat.le_of_ble_eq_true (List.all_eq_true.1 hl b hb)))
  refine TriX.postE (mono_list _) (Q := fun x s => x = .normal ∧ (((∃ js, s = ⟨(q0it_l0 n0 i c c2 t np ps ws vs vp rows).pre ++ junk js 59 10, (q0it_l0 n0 i c c2 t np ps ws vs vp rows).hp, (q0it_l0 n0 i c c2 t np ps ws vs vp rows).nid, []⟩) ∧ 1 < rows.length) ∨ ((∃ js, s = ⟨(q0it_l1 n0 i c c2 t np ps ws vs vp rows).pre ++ junk js 59 10, (q0it_l1 n0 i c c2 t np ps ws vs vp rows).hp, (q0it_l1 n0 i c c2 t np ps ws vs vp rows).nid, []⟩) ∧ True))) (TriX.listR (m := 10) (n := 59) codeOK (q0it n0 i c c2 t np ps ws vs js vp vq rows hw hc hc2 hr) ?_) ?_
  · exact Tr.all_ite (fun e => Tr.all_ok ⟨rfl, rfl, ht rfl, hd _ rfl, fun js => ⟨rfl, Or.inl ⟨⟨js, rfl⟩, (by have := of_decide_eq_true e; omega)⟩⟩⟩) (fun _ => Tr.all_ok ⟨rfl, rfl, ht rfl, hd _ rfl, fun js => ⟨rfl, Or.inr (⟨⟨js, rfl⟩, trivial⟩)⟩⟩)
  · rintro x s ac w ⟨rfl, hq⟩ hat
    rcases hq with ⟨⟨js, rfl⟩, hcond⟩ | ⟨⟨js, rfl⟩, hcond⟩
    · have h1 := at_can hat
      refine ⟨_, h1, [.nilp, .ptr 7 0, .raw vp, .ptr 8 0, .ts 6 (.lit 0) (.sym _) none, .raw (vs 5), .raw (vs 6), .raw (vs 7), .raw (vs 8), .raw (vs 9), .raw (vs 10), .raw (vs 11), .raw (vs 12), .raw (vs 13), .raw (vs 14), .raw (vs 15), .raw (vs 16), .raw (vs 17), .raw (vs 18), .raw (vs 19)], _, [(7, 10), (8, 11), (6, 12)], _, WG (.push 2 _ _ (.tab _) _) s1 s2 s3, ?_, rfl, rfl, rfl, fun n => rfl, rfl, (.push 2 _ _ (.tab _) _), s1, s2, s3, _, _, _, _, ⟨js, rfl⟩, rfl, rfl, by show 4 ≤ 9; omega, ?_, ⟨⟨by omega, (by first | exact ⟨hr.1, by omega⟩ | (constructor <;> simp <;> omega))⟩, (WS.ok_mono (Nat.le_succ _) ho.1), (WS.ok_mono (Nat.le_succ _) ho.2.1), (WS.ok_mono (Nat.le_succ _) ho.2.2)⟩, by omega, by omega, by omega, by omega⟩
      · exact congrArg (fun m => some (VObj.cells [.nilp, .ptr 7 0, .raw vp, .ptr 8 0, .ts 6 (.lit 0) (.sym m) none, .raw (vs 5), .raw (vs 6), .raw (vs 7), .raw (vs 8), .raw (vs 9), .raw (vs 10), .raw (vs 11), .raw (vs 12), .raw (vs 13), .raw (vs 14), .raw (vs 15), .raw (vs 16), .raw (vs 17), .raw (vs 18), .raw (vs 19)] 75)) (by first | rfl | (simp [SN.val]; done) | (simp [SN.val] <;> omega))
      · simp [hw]
    · have h1 := at_can hat
      refine ⟨_, h1, [.nilp, .ptr 6 0, .raw vp, .ptr 7 0, .es true, .raw (vs 5), .raw (vs 6), .raw (vs 7), .raw (vs 8), .raw (vs 9), .raw (vs 10), .raw (vs 11), .raw (vs 12), .raw (vs 13), .raw (vs 14), .raw (vs 15), .raw (vs 16), .raw (vs 17), .raw (vs 18), .raw (vs 19)], _, [(6, 10), (7, 11)], _, WG (.push 2 _ _ .es _) s1 s2 s3, ?_, rfl, rfl, rfl, fun n => rfl, rfl, (.push 2 _ _ .es _), s1, s2, s3, _, _, _, _, ⟨js, rfl⟩, rfl, rfl, by show 4 ≤ 8; omega, ?_, ⟨⟨by omega, trivial⟩, (WS.ok_mono (Nat.le_succ _) ho.1), (WS.ok_mono (Nat.le_succ _) ho.2.1), (WS.ok_mono (Nat.le_succ _) ho.2.2)⟩, by omega, by omega, by omega, by omega⟩
      · rfl
      · simp [hw]
theorem w0p1 (K : Nat) (w : Int) (l : Int) (vq : Value) (kk : Int) (h : HS) (s1 s2 s3 : WS) (hkk : kk.tmod 4 = 0) (hK : h.ok K) (ho : okO K s1 s2 s3) (hK6 : K ≤ 1000000) : TriX MS (listX Try.prog four) E ⟨pre n0 np false i ++ [.v (.int .i64 (.sym kk))] ++ junk js 58 11, base ps ws c c2 t (.abs (.grp (WG (.pop 1 w l h vq) s1 s2 s3))), 4, []⟩ (Mid n0 np i ps ws c c2 K) := by
  refine tri_group (mono_list _) 3 (WG (.pop 1 w l h vq) s1 s2 s3) [(10, some (popO 1 w l)), (11, some (rpopO 1 w l))] (hobj 10 h ++ (wo 20 s1 ++ (wo 30 s2 ++ wo 40 s3))) M4q0 (WL (.pop 1 w l h vq) s1 s2 s3) _ 75 [(4, some (ofU (popO 1 w l))), (5, some (ofU (rpopO 1 w l)))] (Z2 10) rfl (fun n => rfl) (by simp [Z2, Nat.beq]) (by simp) rfl rfl (hZL4q0 _ s1 s2 s3) (hZF4q0 h s1 s2 s3) rfl rfl (by rw [hT]; exact Nat.le_of_ble_eq_true rfl) (hD 3 (by decide)) ?_
  intro vs E1 e1 e2 e3
  show TriX MS (listX Try.prog four) E1 ⟨pre n0 np false i ++ [.v (.int .i64 (.sym kk))] ++ junk js 58 11, [(4, some (ofU (popO 1 w l))), (5, some (ofU (rpopO 1 w l)))] ++ base ps ws c c2 t (.cells [.ptr 4 0, .nilp, .ptr 5 0, .raw vq, .raw (vs 4), .raw (vs 5), .raw (vs 6), .raw (vs 7), .raw (vs 8), .raw (vs 9), .raw (vs 10), .raw (vs 11), .raw (vs 12), .raw (vs 13), .raw (vs 14), .raw (vs 15), .raw (vs 16), .raw (vs 17), .raw (vs 18), .raw (vs 19)] 75), 6, []⟩ _
  have ht : ∀ {k : Nat}, Nat.ble k 40 = true → k ≤ E1.top := fun h => by rw [e2, hT]; exact Nat.le_of_ble_eq_true h
  have hd : ∀ (l : List Nat), l.all (Nat.ble 1) = true → ∀ b, b ∈ l → E1.D b := fun l hl b hb => e3 b (hD b (Nat.le_of_ble_eq_true (List.all_eq_true.1 hl b hb)))
  refine TriX.postE (mono_list _) (Q := fun x s => x = .normal ∧ (((∃ js, s = ⟨(q0p1_l0 n0 i c c2 t np ps ws vs l vq).pre ++ junk js 59 10, (q0p1_l0 n0 i c c2 t np ps ws vs l vq).hp, (q0p1_l0 n0 i c c2 t np ps ws vs l vq).nid, []⟩) ∧ True) ∨ ((∃ js, s = ⟨(q0p1_l1 n0 i c c2 t np ps ws vs l vq).pre ++ junk js 59 10, (q0p1_l1 n0 i c c2 t np ps ws vs l vq).hp, (q0p1_l1 n0 i c c2 t np ps ws vs l vq).nid, []⟩) ∧ True))) (TriX.listR (m := 10) (n := 59) codeOK (q0p1 n0 i c c2 t np ps ws vs js kk w l vq hw hc hc2 hkk) ?_) ?_
  · exact Tr.all_ite (fun _ => Tr.all_ok ⟨rfl, rfl, ht rfl, hd _ rfl, fun js => ⟨rfl, Or.inl ⟨⟨js, rfl⟩, trivial⟩⟩⟩) (fun _ => Tr.all_ok ⟨rfl, rfl, ht rfl, hd _ rfl, fun js => ⟨rfl, Or.inr (⟨⟨js, rfl⟩, trivial⟩)⟩⟩)
  · rintro x s ac w ⟨rfl, hq⟩ hat
    rcases hq with ⟨⟨js, rfl⟩, hcond⟩ | ⟨⟨js, rfl⟩, hcond⟩
    · have h1 := at_can hat
      obtain ⟨us, h2⟩ := at_forget 3 [false, false, true, false, false, false, false, false, false, false, false, false, false, false, false, false, false, false, false, false] rfl rfl h1
      refine ⟨_, h2, [.nilp, .nilp, .raw (us 2), .raw vq, .raw (vs 4), .raw (vs 5), .raw (vs 6), .raw (vs 7), .raw (vs 8), .raw (vs 9), .raw (vs 10), .raw (vs 11), .raw (vs 12), .raw (vs 13), .raw (vs 14), .raw (vs 15), .raw (vs 16), .raw (vs 17), .raw (vs 18), .raw (vs 19)], _, [], _, WG (.idle h (us 2) _) s1 s2 s3, ?_, rfl, rfl, rfl, fun n => rfl, rfl, (.idle h (us 2) _), s1, s2, s3, _, _, _, _, ⟨js, rfl⟩, rfl, rfl, by show 4 ≤ 6; omega, ?_, ⟨HS.ok_mono (Nat.le_succ _) hK, (WS.ok_mono (Nat.le_succ _) ho.1), (WS.ok_mono (Nat.le_succ _) ho.2.1), (WS.ok_mono (Nat.le_succ _) ho.2.2)⟩, by omega, by omega, by omega, by omega⟩
      · rfl
      · simp [hw]
    · have h1 := at_can hat
      refine ⟨_, h1, [.ptr 4 0, .nilp, .ptr 5 0, .raw vq, .raw (vs 4), .raw (vs 5), .raw (vs 6), .raw (vs 7), .raw (vs 8), .raw (vs 9), .raw (vs 10), .raw (vs 11), .raw (vs 12), .raw (vs 13), .raw (vs 14), .raw (vs 15), .raw (vs 16), .raw (vs 17), .raw (vs 18), .raw (vs 19)], _, [(4, 10), (5, 11)], _, WG (.pop 2 _ _ h _) s1 s2 s3, ?_, rfl, rfl, rfl, fun n => rfl, rfl, (.pop 2 _ _ h _), s1, s2, s3, _, _, _, _, ⟨js, rfl⟩, rfl, rfl, by show 4 ≤ 6; omega, ?_, ⟨⟨by omega, HS.ok_mono (Nat.le_succ _) hK⟩, (WS.ok_mono (Nat.le_succ _) ho.1), (WS.ok_mono (Nat.le_succ _) ho.2.1), (WS.ok_mono (Nat.le_succ _) ho.2.2)⟩, by omega, by omega, by omega, by omega⟩
      · rfl
      · simp [hw]
theorem w0p2 (K : Nat) (w : Int) (l : Int) (vq : Value) (kk : Int) (h : HS) (s1 s2 s3 : WS) (hkk : kk.tmod 4 = 0) (hK : h.ok K) (ho : okO K s1 s2 s3) (hK6 : K ≤ 1000000) : TriX MS (listX Try.prog four) E ⟨pre n0 np false i ++ [.v (.int .i64 (.sym kk))] ++ junk js 58 11, base ps ws c c2 t (.abs (.grp (WG (.pop 2 w l h vq) s1 s2 s3))), 4, []⟩ (Mid n0 np i ps ws c c2 K) := by
  refine tri_group (mono_list _) 3 (WG (.pop 2 w l h vq) s1 s2 s3) [(10, some (popO 2 w l)), (11, some (rpopO 2 w l))] (hobj 10 h ++ (wo 20 s1 ++ (wo 30 s2 ++ wo 40 s3))) M4q0 (WL (.pop 2 w l h vq) s1 s2 s3) _ 75 [(4, some (ofU (popO 2 w l))), (5, some (ofU (rpopO 2 w l)))] (Z2 10) rfl (fun n => rfl) (by simp [Z2, Nat.beq]) (by simp) rfl rfl (hZL4q0 _ s1 s2 s3) (hZF4q0 h s1 s2 s3) rfl rfl (by rw [hT]; exact Nat.le_of_ble_eq_true rfl) (hD 3 (by decide)) ?_
  intro vs E1 e1 e2 e3
  show TriX MS (listX Try.prog four) E1 ⟨pre n0 np false i ++ [.v (.int .i64 (.sym kk))] ++ junk js 58 11, [(4, some (ofU (popO 2 w l))), (5, some (ofU (rpopO 2 w l)))] ++ base ps ws c c2 t (.cells [.ptr 4 0, .nilp, .ptr 5 0, .raw vq, .raw (vs 4), .raw (vs 5), .raw (vs 6), .raw (vs 7), .raw (vs 8), .raw (vs 9), .raw (vs 10), .raw (vs 11), .raw (vs 12), .raw (vs 13), .raw (vs 14), .raw (vs 15), .raw (vs 16), .raw (vs 17), .raw (vs 18), .raw (vs 19)] 75), 6, []⟩ _
  have ht : ∀ {k : Nat}, Nat.ble k 40 = true → k ≤ E1.top := fun h => by rw [e2, hT]; exact Nat.le_of_ble_eq_true h
  have hd : ∀ (l : List Nat), l.all (Nat.ble 1) = true → ∀ b, b ∈ l → E1.D b := fun l hl b hb => e3 b (hD b (Nat.le_of_ble_eq_true (List.all_eq_true.1 hl b hb)))
  refine TriX.postE (mono_list _) (Q := fun x s => x = .normal ∧ (((∃ js, s = ⟨(q0p2_l0 n0 i c c2 t np ps ws vs w vq).pre ++ junk js 59 10, (q0p2_l0 n0 i c c2 t np ps ws vs w vq).hp, (q0p2_l0 n0 i c c2 t np ps ws vs w vq).nid, []⟩) ∧ True) ∨ ((∃ js, s = ⟨(q0p2_l1 n0 i c c2 t np ps ws vs w vq).pre ++ junk js 59 10, (q0p2_l1 n0 i c c2 t np ps ws vs w vq).hp, (q0p2_l1 n0 i c c2 t np ps ws vs w vq).nid, []⟩) ∧ True))) (TriX.listR (m := 10) (n := 59) codeOK (q0p2 n0 i c c2 t np ps ws vs js kk w l vq hw hc hc2 hkk) ?_) ?_
  · exact Tr.all_ite (fun _ => Tr.all_ok ⟨rfl, rfl, ht rfl, hd _ rfl, fun js => ⟨rfl, Or.inl ⟨⟨js, rfl⟩, trivial⟩⟩⟩) (fun _ => Tr.all_ok ⟨rfl, rfl, ht rfl, hd _ rfl, fun js => ⟨rfl, Or.inr (⟨⟨js, rfl⟩, trivial⟩)⟩⟩)
  · rintro x s ac w ⟨rfl, hq⟩ hat
    rcases hq with ⟨⟨js, rfl⟩, hcond⟩ | ⟨⟨js, rfl⟩, hcond⟩
    · have h1 := at_can hat
      refine ⟨_, h1, [.ptr 4 0, .nilp, .ptr 5 0, .raw vq, .raw (vs 4), .raw (vs 5), .raw (vs 6), .raw (vs 7), .raw (vs 8), .raw (vs 9), .raw (vs 10), .raw (vs 11), .raw (vs 12), .raw (vs 13), .raw (vs 14), .raw (vs 15), .raw (vs 16), .raw (vs 17), .raw (vs 18), .raw (vs 19)], _, [(4, 10), (5, 11)], _, WG (.pop 3 _ _ h _) s1 s2 s3, ?_, rfl, rfl, rfl, fun n => rfl, rfl, (.pop 3 _ _ h _), s1, s2, s3, _, _, _, _, ⟨js, rfl⟩, rfl, rfl, by show 4 ≤ 6; omega, ?_, ⟨⟨by omega, HS.ok_mono (Nat.le_succ _) hK⟩, (WS.ok_mono (Nat.le_succ _) ho.1), (WS.ok_mono (Nat.le_succ _) ho.2.1), (WS.ok_mono (Nat.le_succ _) ho.2.2)⟩, by omega, by omega, by omega, by omega⟩
      · rfl
      · simp [hw]
    · have h1 := at_can hat
      refine ⟨_, h1, [.ptr 4 0, .nilp, .ptr 5 0, .raw vq, .raw (vs 4), .raw (vs 5), .raw (vs 6), .raw (vs 7), .raw (vs 8), .raw (vs 9), .raw (vs 10), .raw (vs 11), .raw (vs 12), .raw (vs 13), .raw (vs 14), .raw (vs 15), .raw (vs 16), .raw (vs 17), .raw (vs 18), .raw (vs 19)], _, [(4, 10), (5, 11)], _, WG (.pop 3 _ _ h _) s1 s2 s3, ?_, rfl, rfl, rfl, fun n => rfl, rfl, (.pop 3 _ _ h _), s1, s2, s3, _, _, _, _, ⟨js, rfl⟩, rfl, rfl, by show 4 ≤ 6; omega, ?_, ⟨⟨by omega, HS.ok_mono (Nat.le_succ _) hK⟩, (WS.ok_mono (Nat.le_succ _) ho.1), (WS.ok_mono (Nat.le_succ _) ho.2.1), (WS.ok_mono (Nat.le_succ _) ho.2.2)⟩, by omega, by omega, by omega, by omega⟩
      · rfl
      · simp [hw]
theorem w0p3n (K : Nat) (w : Int) (l : Int) (vq : Value) (kk : Int) (s1 s2 s3 : WS) (hkk : kk.tmod 4 = 0)  (ho : okO K s1 s2 s3) (hK6 : K ≤ 1000000) : TriX MS (listX Try.prog four) E ⟨pre n0 np false i ++ [.v (.int .i64 (.sym kk))] ++ junk js 58 11, base ps ws c c2 t (.abs (.grp (WG (.pop 3 w l (.nil) vq) s1 s2 s3))), 4, []⟩ (Mid n0 np i ps ws c c2 K) := by
  refine tri_group (mono_list _) 3 (WG (.pop 3 w l (.nil) vq) s1 s2 s3) [(10, some (popO 3 w l)), (11, some (rpopO 3 w l))] (wo 20 s1 ++ (wo 30 s2 ++ wo 40 s3)) M5q0 (WL (.pop 3 w l (.nil) vq) s1 s2 s3) _ 75 [(4, some (ofU (popO 3 w l))), (5, some (ofU (rpopO 3 w l)))] (Z3 10) rfl (fun n => rfl) (by simp [Z3, Nat.beq]) (by simp) rfl rfl (hZL5q0 _ s1 s2 s3) (hZF5q0 (.nil) s1 s2 s3) rfl rfl (by rw [hT]; exact Nat.le_of_ble_eq_true rfl) (hD 3 (by decide)) ?_
  intro vs E1 e1 e2 e3
  show TriX MS (listX Try.prog four) E1 ⟨pre n0 np false i ++ [.v (.int .i64 (.sym kk))] ++ junk js 58 11, [(4, some (ofU (popO 3 w l))), (5, some (ofU (rpopO 3 w l)))] ++ base ps ws c c2 t (.cells [.ptr 4 0, .nilp, .ptr 5 0, .raw vq, .nils, .raw (vs 5), .raw (vs 6), .raw (vs 7), .raw (vs 8), .raw (vs 9), .raw (vs 10), .raw (vs 11), .raw (vs 12), .raw (vs 13), .raw (vs 14), .raw (vs 15), .raw (vs 16), .raw (vs 17), .raw (vs 18), .raw (vs 19)] 75), 6, []⟩ _
  have ht : ∀ {k : Nat}, Nat.ble k 40 = true → k ≤ E1.top := fun h => by rw [e2, hT]; exact Nat.le_of_ble_eq_true h
  have hd : ∀ (l : List Nat), l.all (Nat.ble 1) = true → ∀ b, b ∈ l → E1.D b := fun l hl b hb => e3 b (hD b (Nat.le_of_ble_eq_true (List.all_eq_true.1 hl b hb)))
  refine TriX.postE (mono_list _) (Q := fun x s => x = .normal ∧ (((∃ js, s = ⟨(q0p3n_l0 n0 i c c2 t np ps ws vs w l vq).pre ++ junk js 59 10, (q0p3n_l0 n0 i c c2 t np ps ws vs w l vq).hp, (q0p3n_l0 n0 i c c2 t np ps ws vs w l vq).nid, []⟩) ∧ True) ∨ ((∃ js, s = ⟨(q0p3n_l1 n0 i c c2 t np ps ws vs w l vq).pre ++ junk js 59 10, (q0p3n_l1 n0 i c c2 t np ps ws vs w l vq).hp, (q0p3n_l1 n0 i c c2 t np ps ws vs w l vq).nid, []⟩) ∧ True) ∨ ((∃ js, s = ⟨(q0p3n_l2 n0 i c c2 t np ps ws vs w l vq).pre ++ junk js 59 10, (q0p3n_l2 n0 i c c2 t np ps ws vs w l vq).hp, (q0p3n_l2 n0 i c c2 t np ps ws vs w l vq).nid, []⟩) ∧ True))) (TriX.listR (m := 10) (n := 59) codeOK (q0p3n n0 i c c2 t np ps ws vs js kk w l vq hw hc hc2 hkk) ?_) ?_
  · exact Tr.all_ite (fun _ => Tr.all_ite (fun _ => Tr.all_ok ⟨rfl, rfl, ht rfl, hd _ rfl, fun js => ⟨rfl, Or.inl ⟨⟨js, rfl⟩, trivial⟩⟩⟩) (fun _ => Tr.all_ok ⟨rfl, rfl, ht rfl, hd _ rfl, fun js => ⟨rfl, Or.inr (Or.inl ⟨⟨js, rfl⟩, trivial⟩)⟩⟩)) (fun _ => Tr.all_ok ⟨rfl, rfl, ht rfl, hd _ rfl, fun js => ⟨rfl, Or.inr (Or.inr (⟨⟨js, rfl⟩, trivial⟩))⟩⟩)
  · rintro x s ac w ⟨rfl, hq⟩ hat
    rcases hq with ⟨⟨js, rfl⟩, hcond⟩ | ⟨⟨js, rfl⟩, hcond⟩ | ⟨⟨js, rfl⟩, hcond⟩
    · have h1 := at_can hat
      obtain ⟨us, h2⟩ := at_forget 3 [false, false, true, false, false, false, false, false, false, false, false, false, false, false, false, false, false, false, false, false] rfl rfl h1
      refine ⟨_, h2, [.nilp, .nilp, .raw (us 2), .raw vq, .ts 7 (.lit 0) (.sym _) none, .raw (vs 5), .raw (vs 6), .raw (vs 7), .raw (vs 8), .raw (vs 9), .raw (vs 10), .raw (vs 11), .raw (vs 12), .raw (vs 13), .raw (vs 14), .raw (vs 15), .raw (vs 16), .raw (vs 17), .raw (vs 18), .raw (vs 19)], _, [(7, 12)], _, WG (.idle (.tab _) (us 2) _) s1 s2 s3, ?_, rfl, rfl, rfl, fun n => rfl, rfl, (.idle (.tab _) (us 2) _), s1, s2, s3, _, _, _, _, ⟨js, rfl⟩, rfl, rfl, by show 4 ≤ 8; omega, ?_, ⟨(by first | exact ⟨hr.1, by omega⟩ | (constructor <;> simp <;> omega)), (WS.ok_mono (Nat.le_succ _) ho.1), (WS.ok_mono (Nat.le_succ _) ho.2.1), (WS.ok_mono (Nat.le_succ _) ho.2.2)⟩, by omega, by omega, by omega, by omega⟩
      · exact congrArg (fun m => some (VObj.cells [.nilp, .nilp, .raw (us 2), .raw vq, .ts 7 (.lit 0) (.sym m) none, .raw (vs 5), .raw (vs 6), .raw (vs 7), .raw (vs 8), .raw (vs 9), .raw (vs 10), .raw (vs 11), .raw (vs 12), .raw (vs 13), .raw (vs 14), .raw (vs 15), .raw (vs 16), .raw (vs 17), .raw (vs 18), .raw (vs 19)] 75)) (by first | rfl | (simp [SN.val]; done) | (simp [SN.val] <;> omega))
      · simp [hw]
    · have h1 := at_can hat
      obtain ⟨us, h2⟩ := at_forget 3 [false, false, true, false, false, false, false, false, false, false, false, false, false, false, false, false, false, false, false, false] rfl rfl h1
      refine ⟨_, h2, [.nilp, .nilp, .raw (us 2), .raw vq, .nils, .raw (vs 5), .raw (vs 6), .raw (vs 7), .raw (vs 8), .raw (vs 9), .raw (vs 10), .raw (vs 11), .raw (vs 12), .raw (vs 13), .raw (vs 14), .raw (vs 15), .raw (vs 16), .raw (vs 17), .raw (vs 18), .raw (vs 19)], _, [], _, WG (.idle .nil (us 2) _) s1 s2 s3, ?_, rfl, rfl, rfl, fun n => rfl, rfl, (.idle .nil (us 2) _), s1, s2, s3, _, _, _, _, ⟨js, rfl⟩, rfl, rfl, by show 4 ≤ 6; omega, ?_, ⟨trivial, (WS.ok_mono (Nat.le_succ _) ho.1), (WS.ok_mono (Nat.le_succ _) ho.2.1), (WS.ok_mono (Nat.le_succ _) ho.2.2)⟩, by omega, by omega, by omega, by omega⟩
      · rfl
      · simp [hw]
    · have h1 := at_can hat
      refine ⟨_, h1, [.ptr 4 0, .nilp, .ptr 5 0, .raw vq, .nils, .raw (vs 5), .raw (vs 6), .raw (vs 7), .raw (vs 8), .raw (vs 9), .raw (vs 10), .raw (vs 11), .raw (vs 12), .raw (vs 13), .raw (vs 14), .raw (vs 15), .raw (vs 16), .raw (vs 17), .raw (vs 18), .raw (vs 19)], _, [(4, 10), (5, 11)], _, WG (.pop 1 _ _ .nil _) s1 s2 s3, ?_, rfl, rfl, rfl, fun n => rfl, rfl, (.pop 1 _ _ .nil _), s1, s2, s3, _, _, _, _, ⟨js, rfl⟩, rfl, rfl, by show 4 ≤ 6; omega, ?_, ⟨⟨by omega, trivial⟩, (WS.ok_mono (Nat.le_succ _) ho.1), (WS.ok_mono (Nat.le_succ _) ho.2.1), (WS.ok_mono (Nat.le_succ _) ho.2.2)⟩, by omega, by omega, by omega, by omega⟩
      · rfl
      · simp [hw]
theorem w0p3e (K : Nat) (w : Int) (l : Int) (vq : Value) (kk : Int) (s1 s2 s3 : WS) (hkk : kk.tmod 4 = 0)  (ho : okO K s1 s2 s3) (hK6 : K ≤ 1000000) : TriX MS (listX Try.prog four) E ⟨pre n0 np false i ++ [.v (.int .i64 (.sym kk))] ++ junk js 58 11, base ps ws c c2 t (.abs (.grp (WG (.pop 3 w l (.es) vq) s1 s2 s3))), 4, []⟩ (Mid n0 np i ps ws c c2 K) := by
  refine tri_group (mono_list _) 3 (WG (.pop 3 w l (.es) vq) s1 s2 s3) [(10, some (popO 3 w l)), (11, some (rpopO 3 w l))] (wo 20 s1 ++ (wo 30 s2 ++ wo 40 s3)) M5q0 (WL (.pop 3 w l (.es) vq) s1 s2 s3) _ 75 [(4, some (ofU (popO 3 w l))), (5, some (ofU (rpopO 3 w l)))] (Z3 10) rfl (fun n => rfl) (by simp [Z3, Nat.beq]) (by simp) rfl rfl (hZL5q0 _ s1 s2 s3) (hZF5q0 (.es) s1 s2 s3) rfl rfl (by rw [hT]; exact Nat.le_of_ble_eq_true rfl) (hD 3 (by decide)) ?_
  intro vs E1 e1 e2 e3
  show TriX MS (listX Try.prog four) E1 ⟨pre n0 np false i ++ [.v (.int .i64 (.sym kk))] ++ junk js 58 11, [(4, some (ofU (popO 3 w l))), (5, some (ofU (rpopO 3 w l)))] ++ base ps ws c c2 t (.cells [.ptr 4 0, .nilp, .ptr 5 0, .raw vq, .es true, .raw (vs 5), .raw (vs 6), .raw (vs 7), .raw (vs 8), .raw (vs 9), .raw (vs 10), .raw (vs 11), .raw (vs 12), .raw (vs 13), .raw (vs 14), .raw (vs 15), .raw (vs 16), .raw (vs 17), .raw (vs 18), .raw (vs 19)] 75), 6, []⟩ _
  have ht : ∀ {k : Nat}, Nat.ble k 40 = true → k ≤ E1.top := fun h => by rw [e2, hT]; exact Nat.le_of_ble_eq_true h
  have hd : ∀ (l : List Nat), l.all (Nat.ble 1) = true → ∀ b, b ∈ l → E1.D b := fun l hl b hb => e3 b (hD b (Nat.le_of_ble_eq_true (List.all_eq_true.1 hl b hb)))
  refine TriX.postE (mono_list _) (Q := fun x s => x = .normal ∧ (((∃ js, s = ⟨(q0p3e_l0 n0 i c c2 t np ps ws vs w l vq).pre ++ junk js 59 10, (q0p3e_l0 n0 i c c2 t np ps ws vs w l vq).hp, (q0p3e_l0 n0 i c c2 t np ps ws vs w l vq).nid, []⟩) ∧ True) ∨ ((∃ js, s = ⟨(q0p3e_l1 n0 i c c2 t np ps ws vs w l vq).pre ++ junk js 59 10, (q0p3e_l1 n0 i c c2 t np ps ws vs w l vq).hp, (q0p3e_l1 n0 i c c2 t np ps ws vs w l vq).nid, []⟩) ∧ True) ∨ ((∃ js, s = ⟨(q0p3e_l2 n0 i c c2 t np ps ws vs w l vq).pre ++ junk js 59 10, (q0p3e_l2 n0 i c c2 t np ps ws vs w l vq).hp, (q0p3e_l2 n0 i c c2 t np ps ws vs w l vq).nid, []⟩) ∧ True))) (TriX.listR (m := 10) (n := 59) codeOK (q0p3e n0 i c c2 t np ps ws vs js kk w l vq hw hc hc2 hkk) ?_) ?_
  · exact Tr.all_ite (fun _ => Tr.all_ite (fun _ => Tr.all_ok ⟨rfl, rfl, ht rfl, hd _ rfl, fun js => ⟨rfl, Or.inl ⟨⟨js, rfl⟩, trivial⟩⟩⟩) (fun _ => Tr.all_ok ⟨rfl, rfl, ht rfl, hd _ rfl, fun js => ⟨rfl, Or.inr (Or.inl ⟨⟨js, rfl⟩, trivial⟩)⟩⟩)) (fun _ => Tr.all_ok ⟨rfl, rfl, ht rfl, hd _ rfl, fun js => ⟨rfl, Or.inr (Or.inr (⟨⟨js, rfl⟩, trivial⟩))⟩⟩)
  · rintro x s ac w ⟨rfl, hq⟩ hat
    rcases hq with ⟨⟨js, rfl⟩, hcond⟩ | ⟨⟨js, rfl⟩, hcond⟩ | ⟨⟨js, rfl⟩, hcond⟩
    · have h1 := at_can hat
      obtain ⟨us, h2⟩ := at_forget 3 [false, false, true, false, false, false, false, false, false, false, false, false, false, false, false, false, false, false, false, false] rfl rfl h1
      refine ⟨_, h2, [.nilp, .nilp, .raw (us 2), .raw vq, .ts 7 (.lit 0) (.sym _) none, .raw (vs 5), .raw (vs 6), .raw (vs 7), .raw (vs 8), .raw (vs 9), .raw (vs 10), .raw (vs 11), .raw (vs 12), .raw (vs 13), .raw (vs 14), .raw (vs 15), .raw (vs 16), .raw (vs 17), .raw (vs 18), .raw (vs 19)], _, [(7, 12)], _, WG (.idle (.tab _) (us 2) _) s1 s2 s3, ?_, rfl, rfl, rfl, fun n => rfl, rfl, (.idle (.tab _) (us 2) _), s1, s2, s3, _, _, _, _, ⟨js, rfl⟩, rfl, rfl, by show 4 ≤ 8; omega, ?_, ⟨(by first | exact ⟨hr.1, by omega⟩ | (constructor <;> simp <;> omega)), (WS.ok_mono (Nat.le_succ _) ho.1), (WS.ok_mono (Nat.le_succ _) ho.2.1), (WS.ok_mono (Nat.le_succ _) ho.2.2)⟩, by omega, by omega, by omega, by omega⟩
      · exact congrArg (fun m => some (VObj.cells [.nilp, .nilp, .raw (us 2), .raw vq, .ts 7 (.lit 0) (.sym m) none, .raw (vs 5), .raw (vs 6), .raw (vs 7), .raw (vs 8), .raw (vs 9), .raw (vs 10), .raw (vs 11), .raw (vs 12), .raw (vs 13), .raw (vs 14), .raw (vs 15), .raw (vs 16), .raw (vs 17), .raw (vs 18), .raw (vs 19)] 75)) (by first | rfl | (simp [SN.val]; done) | (simp [SN.val] <;> omega))
      · simp [hw]
    · have h1 := at_can hat
      obtain ⟨us, h2⟩ := at_forget 3 [false, false, true, false, false, false, false, false, false, false, false, false, false, false, false, false, false, false, false, false] rfl rfl h1
      refine ⟨_, h2, [.nilp, .nilp, .raw (us 2), .raw vq, .es true, .raw (vs 5), .raw (vs 6), .raw (vs 7), .raw (vs 8), .raw (vs 9), .raw (vs 10), .raw (vs 11), .raw (vs 12), .raw (vs 13), .raw (vs 14), .raw (vs 15), .raw (vs 16), .raw (vs 17), .raw (vs 18), .raw (vs 19)], _, [], _, WG (.idle .es (us 2) _) s1 s2 s3, ?_, rfl, rfl, rfl, fun n => rfl, rfl, (.idle .es (us 2) _), s1, s2, s3, _, _, _, _, ⟨js, rfl⟩, rfl, rfl, by show 4 ≤ 6; omega, ?_, ⟨trivial, (WS.ok_mono (Nat.le_succ _) ho.1), (WS.ok_mono (Nat.le_succ _) ho.2.1), (WS.ok_mono (Nat.le_succ _) ho.2.2)⟩, by omega, by omega, by omega, by omega⟩
      · rfl
      · simp [hw]
    · have h1 := at_can hat
      refine ⟨_, h1, [.ptr 4 0, .nilp, .ptr 5 0, .raw vq, .es true, .raw (vs 5), .raw (vs 6), .raw (vs 7), .raw (vs 8), .raw (vs 9), .raw (vs 10), .raw (vs 11), .raw (vs 12), .raw (vs 13), .raw (vs 14), .raw (vs 15), .raw (vs 16), .raw (vs 17), .raw (vs 18), .raw (vs 19)], _, [(4, 10), (5, 11)], _, WG (.pop 1 _ _ .es _) s1 s2 s3, ?_, rfl, rfl, rfl, fun n => rfl, rfl, (.pop 1 _ _ .es _), s1, s2, s3, _, _, _, _, ⟨js, rfl⟩, rfl, rfl, by show 4 ≤ 6; omega, ?_, ⟨⟨by omega, trivial⟩, (WS.ok_mono (Nat.le_succ _) ho.1), (WS.ok_mono (Nat.le_succ _) ho.2.1), (WS.ok_mono (Nat.le_succ _) ho.2.2)⟩, by omega, by omega, by omega, by omega⟩
      · rfl
      · simp [hw]
theorem w0p3t (K : Nat) (w : Int) (l : Int) (vq : Value) (rows : List (List Int)) (kk : Int) (s1 s2 s3 : WS) (hkk : kk.tmod 4 = 0) (hr : 0 < rows.length ∧ rows.length ≤ 1000000) (hKr : rows.length ≤ K)  (ho : okO K s1 s2 s3) (hK6 : K ≤ 1000000) : TriX MS (listX Try.prog four) E ⟨pre n0 np false i ++ [.v (.int .i64 (.sym kk))] ++ junk js 58 11, base ps ws c c2 t (.abs (.grp (WG (.pop 3 w l (.tab rows) vq) s1 s2 s3))), 4, []⟩ (Mid n0 np i ps ws c c2 K) := by
  refine tri_group (mono_list _) 3 (WG (.pop 3 w l (.tab rows) vq) s1 s2 s3) [(10, some (popO 3 w l)), (11, some (rpopO 3 w l)), (12, some (tabO rows))] (wo 20 s1 ++ (wo 30 s2 ++ wo 40 s3)) M5q0 (WL (.pop 3 w l (.tab rows) vq) s1 s2 s3) _ 75 [(4, some (ofU (popO 3 w l))), (5, some (ofU (rpopO 3 w l))), (6, some (.tab [.int .i64] rows 3))] (Z3 10) rfl (fun n => rfl) (by simp [Z3, Nat.beq]) (by simp) rfl rfl (hZL5q0 _ s1 s2 s3) (hZF5q0 (.tab rows) s1 s2 s3) rfl rfl (by rw [hT]; exact Nat.le_of_ble_eq_true rfl) (hD 3 (by decide)) ?_
  intro vs E1 e1 e2 e3
  show TriX MS (listX Try.prog four) E1 ⟨pre n0 np false i ++ [.v (.int .i64 (.sym kk))] ++ junk js 58 11, [(4, some (ofU (popO 3 w l))), (5, some (ofU (rpopO 3 w l))), (6, some (.tab [.int .i64] rows 3))] ++ base ps ws c c2 t (.cells [.ptr 4 0, .nilp, .ptr 5 0, .raw vq, .ts 6 (.lit 0) (.sym rows.length) none, .raw (vs 5), .raw (vs 6), .raw (vs 7), .raw (vs 8), .raw (vs 9), .raw (vs 10), .raw (vs 11), .raw (vs 12), .raw (vs 13), .raw (vs 14), .raw (vs 15), .raw (vs 16), .raw (vs 17), .raw (vs 18), .raw (vs 19)] 75), 7, []⟩ _
  have ht : ∀ {k : Nat}, Nat.ble k 40 = true → k ≤ E1.top := fun h => by rw [e2, hT]; exact Nat.le_of_ble_eq_true h
  have hd : ∀ (l : List Nat), l.all (Nat.ble 1) = true → ∀ b, b ∈ l → E1.D b := fun l hl b hb => e3 b (hD b (Nat.le_of_ble_eq_true (List.all_eq_true.1 hl b hb)))
  refine TriX.postE (mono_list _) (Q := fun x s => x = .normal ∧ (((∃ js, s = ⟨(q0p3t_l0 n0 i c c2 t np ps ws vs w l vq rows).pre ++ junk js 59 10, (q0p3t_l0 n0 i c c2 t np ps ws vs w l vq rows).hp, (q0p3t_l0 n0 i c c2 t np ps ws vs w l vq rows).nid, []⟩) ∧ True) ∨ ((∃ js, s = ⟨(q0p3t_l1 n0 i c c2 t np ps ws vs w l vq rows).pre ++ junk js 59 10, (q0p3t_l1 n0 i c c2 t np ps ws vs w l vq rows).hp, (q0p3t_l1 n0 i c c2 t np ps ws vs w l vq rows).nid, []⟩) ∧ True) ∨ ((∃ js, s = ⟨(q0p3t_l2 n0 i c c2 t np ps ws vs w l vq rows).pre ++ junk js 59 10, (q0p3t_l2 n0 i c c2 t np ps ws vs w l vq rows).hp, (q0p3t_l2 n0 i c c2 t np ps ws vs w l vq rows).nid, []⟩) ∧ True))) (TriX.listR (m := 10) (n := 59) codeOK (q0p3t n0 i c c2 t np ps ws vs js kk w l vq rows hw hc hc2 hkk hr) ?_) ?_
  · exact Tr.all_ite (fun _ => Tr.all_ite (fun _ => Tr.all_ok ⟨rfl, rfl, ht rfl, hd _ rfl, fun js => ⟨rfl, Or.inl ⟨⟨js, rfl⟩, trivial⟩⟩⟩) (fun _ => Tr.all_ok ⟨rfl, rfl, ht rfl, hd _ rfl, fun js => ⟨rfl, Or.inr (Or.inl ⟨⟨js, rfl⟩, trivial⟩)⟩⟩)) (fun _ => Tr.all_ok ⟨rfl, rfl, ht rfl, hd _ rfl, fun js => ⟨rfl, Or.inr (Or.inr (⟨⟨js, rfl⟩, trivial⟩))⟩⟩)
  · rintro x s ac w ⟨rfl, hq⟩ hat
    rcases hq with ⟨⟨js, rfl⟩, hcond⟩ | ⟨⟨js, rfl⟩, hcond⟩ | ⟨⟨js, rfl⟩, hcond⟩
    · have h1 := at_can hat
      obtain ⟨us, h2⟩ := at_forget 3 [false, false, true, false, false, false, false, false, false, false, false, false, false, false, false, false, false, false, false, false] rfl rfl h1
      refine ⟨_, h2, [.nilp, .nilp, .raw (us 2), .raw vq, .ts 8 (.lit 0) (.sym _) none, .raw (vs 5), .raw (vs 6), .raw (vs 7), .raw (vs 8), .raw (vs 9), .raw (vs 10), .raw (vs 11), .raw (vs 12), .raw (vs 13), .raw (vs 14), .raw (vs 15), .raw (vs 16), .raw (vs 17), .raw (vs 18), .raw (vs 19)], _, [(8, 12)], _, WG (.idle (.tab _) (us 2) _) s1 s2 s3, ?_, rfl, rfl, rfl, fun n => rfl, rfl, (.idle (.tab _) (us 2) _), s1, s2, s3, _, _, _, _, ⟨js, rfl⟩, rfl, rfl, by show 4 ≤ 9; omega, ?_, ⟨(by first | exact ⟨hr.1, by omega⟩ | (constructor <;> simp <;> omega)), (WS.ok_mono (Nat.le_succ _) ho.1), (WS.ok_mono (Nat.le_succ _) ho.2.1), (WS.ok_mono (Nat.le_succ _) ho.2.2)⟩, by omega, by omega, by omega, by omega⟩
      · exact congrArg (fun m => some (VObj.cells [.nilp, .nilp, .raw (us 2), .raw vq, .ts 8 (.lit 0) (.sym m) none, .raw (vs 5), .raw (vs 6), .raw (vs 7), .raw (vs 8), .raw (vs 9), .raw (vs 10), .raw (vs 11), .raw (vs 12), .raw (vs 13), .raw (vs 14), .raw (vs 15), .raw (vs 16), .raw (vs 17), .raw (vs 18), .raw (vs 19)] 75)) (by first | rfl | (simp [SN.val]; done) | (simp [SN.val] <;> omega))
      · simp [hw]
    · have h1 := at_can hat
      obtain ⟨us, h2⟩ := at_forget 3 [false, false, true, false, false, false, false, false, false, false, false, false, false, false, false, false, false, false, false, false] rfl rfl h1
      refine ⟨_, h2, [.nilp, .nilp, .raw (us 2), .raw vq, .ts 6 (.lit 0) (.sym _) none, .raw (vs 5), .raw (vs 6), .raw (vs 7), .raw (vs 8), .raw (vs 9), .raw (vs 10), .raw (vs 11), .raw (vs 12), .raw (vs 13), .raw (vs 14), .raw (vs 15), .raw (vs 16), .raw (vs 17), .raw (vs 18), .raw (vs 19)], _, [(6, 12)], _, WG (.idle (.tab _) (us 2) _) s1 s2 s3, ?_, rfl, rfl, rfl, fun n => rfl, rfl, (.idle (.tab _) (us 2) _), s1, s2, s3, _, _, _, _, ⟨js, rfl⟩, rfl, rfl, by show 4 ≤ 7; omega, ?_, ⟨(by first | exact ⟨hr.1, by omega⟩ | (constructor <;> simp <;> omega)), (WS.ok_mono (Nat.le_succ _) ho.1), (WS.ok_mono (Nat.le_succ _) ho.2.1), (WS.ok_mono (Nat.le_succ _) ho.2.2)⟩, by omega, by omega, by omega, by omega⟩
      · exact congrArg (fun m => some (VObj.cells [.nilp, .nilp, .raw (us 2), .raw vq, .ts 6 (.lit 0) (.sym m) none, .raw (vs 5), .raw (vs 6), .raw (vs 7), .raw (vs 8), .raw (vs 9), .raw (vs 10), .raw (vs 11), .raw (vs 12), .raw (vs 13), .raw (vs 14), .raw (vs 15), .raw (vs 16), .raw (vs 17), .raw (vs 18), .raw (vs 19)] 75)) (by first | rfl | (simp [SN.val]; done) | (simp [SN.val] <;> omega))
      · simp [hw]
    · have h1 := at_can hat
      refine ⟨_, h1, [.ptr 4 0, .nilp, .ptr 5 0, .raw vq, .ts 6 (.lit 0) (.sym _) none, .raw (vs 5), .raw (vs 6), .raw (vs 7), .raw (vs 8), .raw (vs 9), .raw (vs 10), .raw (vs 11), .raw (vs 12), .raw (vs 13), .raw (vs 14), .raw (vs 15), .raw (vs 16), .raw (vs 17), .raw (vs 18), .raw (vs 19)], _, [(4, 10), (5, 11), (6, 12)], _, WG (.pop 1 _ _ (.tab _) _) s1 s2 s3, ?_, rfl, rfl, rfl, fun n => rfl, rfl, (.pop 1 _ _ (.tab _) _), s1, s2, s3, _, _, _, _, ⟨js, rfl⟩, rfl, rfl, by show 4 ≤ 7; omega, ?_, ⟨⟨by omega, (by first | exact ⟨hr.1, by omega⟩ | (constructor <;> simp <;> omega))⟩, (WS.ok_mono (Nat.le_succ _) ho.1), (WS.ok_mono (Nat.le_succ _) ho.2.1), (WS.ok_mono (Nat.le_succ _) ho.2.2)⟩, by omega, by omega, by omega, by omega⟩
      · exact congrArg (fun m => some (VObj.cells [.ptr 4 0, .nilp, .ptr 5 0, .raw vq, .ts 6 (.lit 0) (.sym m) none, .raw (vs 5), .raw (vs 6), .raw (vs 7), .raw (vs 8), .raw (vs 9), .raw (vs 10), .raw (vs 11), .raw (vs 12), .raw (vs 13), .raw (vs 14), .raw (vs 15), .raw (vs 16), .raw (vs 17), .raw (vs 18), .raw (vs 19)] 75)) (by first | rfl | (simp [SN.val]; done) | (simp [SN.val] <;> omega))
      · simp [hw]
theorem w0u1 (K : Nat) (a : Int) (w : Int) (vp : Value) (kk : Int) (h : HS) (s1 s2 s3 : WS) (hkk : kk.tmod 4 = 0) (hK : h.ok K) (ho : okO K s1 s2 s3) (hK6 : K ≤ 1000000) : TriX MS (listX Try.prog four) E ⟨pre n0 np false i ++ [.v (.int .i64 (.sym kk))] ++ junk js 58 11, base ps ws c c2 t (.abs (.grp (WG (.push 1 a w h vp) s1 s2 s3))), 4, []⟩ (Mid n0 np i ps ws c c2 K) := by
  refine tri_group (mono_list _) 3 (WG (.push 1 a w h vp) s1 s2 s3) [(10, some (pushO 1 a w)), (11, some (rpushO 1 a w))] (hobj 10 h ++ (wo 20 s1 ++ (wo 30 s2 ++ wo 40 s3))) M4q0 (WL (.push 1 a w h vp) s1 s2 s3) _ 75 [(4, some (ofU (pushO 1 a w))), (5, some (ofU (rpushO 1 a w)))] (Z2 10) rfl (fun n => rfl) (by simp [Z2, Nat.beq]) (by simp) rfl rfl (hZL4q0 _ s1 s2 s3) (hZF4q0 h s1 s2 s3) rfl rfl (by rw [hT]; exact Nat.le_of_ble_eq_true rfl) (hD 3 (by decide)) ?_
  intro vs E1 e1 e2 e3
  show TriX MS (listX Try.prog four) E1 ⟨pre n0 np false i ++ [.v (.int .i64 (.sym kk))] ++ junk js 58 11, [(4, some (ofU (pushO 1 a w))), (5, some (ofU (rpushO 1 a w)))] ++ base ps ws c c2 t (.cells [.nilp, .ptr 4 0, .raw vp, .ptr 5 0, .raw (vs 4), .raw (vs 5), .raw (vs 6), .raw (vs 7), .raw (vs 8), .raw (vs 9), .raw (vs 10), .raw (vs 11), .raw (vs 12), .raw (vs 13), .raw (vs 14), .raw (vs 15), .raw (vs 16), .raw (vs 17), .raw (vs 18), .raw (vs 19)] 75), 6, []⟩ _
  have ht : ∀ {k : Nat}, Nat.ble k 40 = true → k ≤ E1.top := fun h => by rw [e2, hT]; exact Nat.le_of_ble_eq_true h
  have hd : ∀ (l : List Nat), l.all (Nat.ble 1) = true → ∀ b, b ∈ l → E1.D b := fun l hl b hb => e3 b (hD b (Nat.le_of_ble_eq_true (List.all_eq_true.1 hl b hb)))
  refine TriX.postE (mono_list _) (Q := fun x s => x = .normal ∧ (((∃ js, s = ⟨(q0u1_l0 n0 i c c2 t np ps ws vs a vp).pre ++ junk js 59 10, (q0u1_l0 n0 i c c2 t np ps ws vs a vp).hp, (q0u1_l0 n0 i c c2 t np ps ws vs a vp).nid, []⟩) ∧ True))) (TriX.listR (m := 10) (n := 59) codeOK (q0u1 n0 i c c2 t np ps ws vs js kk a w vp hw hc hc2 hkk) ?_) ?_
  · exact Tr.all_ok ⟨rfl, rfl, ht rfl, hd _ rfl, fun js => ⟨rfl, ⟨⟨js, rfl⟩, trivial⟩⟩⟩
  · rintro x s ac w ⟨rfl, hq⟩ hat
    rcases hq with ⟨⟨js, rfl⟩, hcond⟩
    · have h1 := at_can hat
      refine ⟨_, h1, [.nilp, .ptr 4 0, .raw vp, .ptr 5 0, .raw (vs 4), .raw (vs 5), .raw (vs 6), .raw (vs 7), .raw (vs 8), .raw (vs 9), .raw (vs 10), .raw (vs 11), .raw (vs 12), .raw (vs 13), .raw (vs 14), .raw (vs 15), .raw (vs 16), .raw (vs 17), .raw (vs 18), .raw (vs 19)], _, [(4, 10), (5, 11)], _, WG (.push 2 _ _ h _) s1 s2 s3, ?_, rfl, rfl, rfl, fun n => rfl, rfl, (.push 2 _ _ h _), s1, s2, s3, _, _, _, _, ⟨js, rfl⟩, rfl, rfl, by show 4 ≤ 6; omega, ?_, ⟨⟨by omega, HS.ok_mono (Nat.le_succ _) hK⟩, (WS.ok_mono (Nat.le_succ _) ho.1), (WS.ok_mono (Nat.le_succ _) ho.2.1), (WS.ok_mono (Nat.le_succ _) ho.2.2)⟩, by omega, by omega, by omega, by omega⟩
      · rfl
      · simp [hw]
theorem w0u2 (K : Nat) (a : Int) (w : Int) (vp : Value) (kk : Int) (h : HS) (s1 s2 s3 : WS) (hkk : kk.tmod 4 = 0) (hK : h.ok K) (ho : okO K s1 s2 s3) (hK6 : K ≤ 1000000) : TriX MS (listX Try.prog four) E ⟨pre n0 np false i ++ [.v (.int .i64 (.sym kk))] ++ junk js 58 11, base ps ws c c2 t (.abs (.grp (WG (.push 2 a w h vp) s1 s2 s3))), 4, []⟩ (Mid n0 np i ps ws c c2 K) := by
  refine tri_group (mono_list _) 3 (WG (.push 2 a w h vp) s1 s2 s3) [(10, some (pushO 2 a w)), (11, some (rpushO 2 a w))] (hobj 10 h ++ (wo 20 s1 ++ (wo 30 s2 ++ wo 40 s3))) M4q0 (WL (.push 2 a w h vp) s1 s2 s3) _ 75 [(4, some (ofU (pushO 2 a w))), (5, some (ofU (rpushO 2 a w)))] (Z2 10) rfl (fun n => rfl) (by simp [Z2, Nat.beq]) (by simp) rfl rfl (hZL4q0 _ s1 s2 s3) (hZF4q0 h s1 s2 s3) rfl rfl (by rw [hT]; exact Nat.le_of_ble_eq_true rfl) (hD 3 (by decide)) ?_
  intro vs E1 e1 e2 e3
  show TriX MS (listX Try.prog four) E1 ⟨pre n0 np false i ++ [.v (.int .i64 (.sym kk))] ++ junk js 58 11, [(4, some (ofU (pushO 2 a w))), (5, some (ofU (rpushO 2 a w)))] ++ base ps ws c c2 t (.cells [.nilp, .ptr 4 0, .raw vp, .ptr 5 0, .raw (vs 4), .raw (vs 5), .raw (vs 6), .raw (vs 7), .raw (vs 8), .raw (vs 9), .raw (vs 10), .raw (vs 11), .raw (vs 12), .raw (vs 13), .raw (vs 14), .raw (vs 15), .raw (vs 16), .raw (vs 17), .raw (vs 18), .raw (vs 19)] 75), 6, []⟩ _
  have ht : ∀ {k : Nat}, Nat.ble k 40 = true → k ≤ E1.top := fun h => by rw [e2, hT]; exact Nat.le_of_ble_eq_true h
  have hd : ∀ (l : List Nat), l.all (Nat.ble 1) = true → ∀ b, b ∈ l → E1.D b := fun l hl b hb => e3 b (hD b (Nat.le_of_ble_eq_true (List.all_eq_true.1 hl b hb)))
  refine TriX.postE (mono_list _) (Q := fun x s => x = .normal ∧ (((∃ js, s = ⟨(q0u2_l0 n0 i c c2 t np ps ws vs a w vp).pre ++ junk js 59 10, (q0u2_l0 n0 i c c2 t np ps ws vs a w vp).hp, (q0u2_l0 n0 i c c2 t np ps ws vs a w vp).nid, []⟩) ∧ True) ∨ ((∃ js, s = ⟨(q0u2_l1 n0 i c c2 t np ps ws vs a w vp).pre ++ junk js 59 10, (q0u2_l1 n0 i c c2 t np ps ws vs a w vp).hp, (q0u2_l1 n0 i c c2 t np ps ws vs a w vp).nid, []⟩) ∧ True))) (TriX.listR (m := 10) (n := 59) codeOK (q0u2 n0 i c c2 t np ps ws vs js kk a w vp hw hc hc2 hkk) ?_) ?_
  · exact Tr.all_ite (fun _ => Tr.all_ok ⟨rfl, rfl, ht rfl, hd _ rfl, fun js => ⟨rfl, Or.inl ⟨⟨js, rfl⟩, trivial⟩⟩⟩) (fun _ => Tr.all_ok ⟨rfl, rfl, ht rfl, hd _ rfl, fun js => ⟨rfl, Or.inr (⟨⟨js, rfl⟩, trivial⟩)⟩⟩)
  · rintro x s ac w ⟨rfl, hq⟩ hat
    rcases hq with ⟨⟨js, rfl⟩, hcond⟩ | ⟨⟨js, rfl⟩, hcond⟩
    · have h1 := at_can hat
      refine ⟨_, h1, [.nilp, .ptr 4 0, .raw vp, .ptr 5 0, .raw (vs 4), .raw (vs 5), .raw (vs 6), .raw (vs 7), .raw (vs 8), .raw (vs 9), .raw (vs 10), .raw (vs 11), .raw (vs 12), .raw (vs 13), .raw (vs 14), .raw (vs 15), .raw (vs 16), .raw (vs 17), .raw (vs 18), .raw (vs 19)], _, [(4, 10), (5, 11)], _, WG (.push 3 _ _ h _) s1 s2 s3, ?_, rfl, rfl, rfl, fun n => rfl, rfl, (.push 3 _ _ h _), s1, s2, s3, _, _, _, _, ⟨js, rfl⟩, rfl, rfl, by show 4 ≤ 6; omega, ?_, ⟨⟨by omega, HS.ok_mono (Nat.le_succ _) hK⟩, (WS.ok_mono (Nat.le_succ _) ho.1), (WS.ok_mono (Nat.le_succ _) ho.2.1), (WS.ok_mono (Nat.le_succ _) ho.2.2)⟩, by omega, by omega, by omega, by omega⟩
      · rfl
      · simp [hw]
    · have h1 := at_can hat
      refine ⟨_, h1, [.nilp, .ptr 4 0, .raw vp, .ptr 5 0, .raw (vs 4), .raw (vs 5), .raw (vs 6), .raw (vs 7), .raw (vs 8), .raw (vs 9), .raw (vs 10), .raw (vs 11), .raw (vs 12), .raw (vs 13), .raw (vs 14), .raw (vs 15), .raw (vs 16), .raw (vs 17), .raw (vs 18), .raw (vs 19)], _, [(4, 10), (5, 11)], _, WG (.push 3 _ _ h _) s1 s2 s3, ?_, rfl, rfl, rfl, fun n => rfl, rfl, (.push 3 _ _ h _), s1, s2, s3, _, _, _, _, ⟨js, rfl⟩, rfl, rfl, by show 4 ≤ 6; omega, ?_, ⟨⟨by omega, HS.ok_mono (Nat.le_succ _) hK⟩, (WS.ok_mono (Nat.le_succ _) ho.1), (WS.ok_mono (Nat.le_succ _) ho.2.1), (WS.ok_mono (Nat.le_succ _) ho.2.2)⟩, by omega, by omega, by omega, by omega⟩
      · rfl
      · simp [hw]
theorem w0u3 (K : Nat) (a : Int) (w : Int) (vp : Value) (kk : Int) (h : HS) (s1 s2 s3 : WS) (hkk : kk.tmod 4 = 0) (hK : h.ok K) (ho : okO K s1 s2 s3) (hK6 : K ≤ 1000000) : TriX MS (listX Try.prog four) E ⟨pre n0 np false i ++ [.v (.int .i64 (.sym kk))] ++ junk js 58 11, base ps ws c c2 t (.abs (.grp (WG (.push 3 a w h vp) s1 s2 s3))), 4, []⟩ (Mid n0 np i ps ws c c2 K) := by
  refine tri_group (mono_list _) 3 (WG (.push 3 a w h vp) s1 s2 s3) [(10, some (pushO 3 a w)), (11, some (rpushO 3 a w))] (hobj 10 h ++ (wo 20 s1 ++ (wo 30 s2 ++ wo 40 s3))) M4q0 (WL (.push 3 a w h vp) s1 s2 s3) _ 75 [(4, some (ofU (pushO 3 a w))), (5, some (ofU (rpushO 3 a w)))] (Z2 10) rfl (fun n => rfl) (by simp [Z2, Nat.beq]) (by simp) rfl rfl (hZL4q0 _ s1 s2 s3) (hZF4q0 h s1 s2 s3) rfl rfl (by rw [hT]; exact Nat.le_of_ble_eq_true rfl) (hD 3 (by decide)) ?_
  intro vs E1 e1 e2 e3
  show TriX MS (listX Try.prog four) E1 ⟨pre n0 np false i ++ [.v (.int .i64 (.sym kk))] ++ junk js 58 11, [(4, some (ofU (pushO 3 a w))), (5, some (ofU (rpushO 3 a w)))] ++ base ps ws c c2 t (.cells [.nilp, .ptr 4 0, .raw vp, .ptr 5 0, .raw (vs 4), .raw (vs 5), .raw (vs 6), .raw (vs 7), .raw (vs 8), .raw (vs 9), .raw (vs 10), .raw (vs 11), .raw (vs 12), .raw (vs 13), .raw (vs 14), .raw (vs 15), .raw (vs 16), .raw (vs 17), .raw (vs 18), .raw (vs 19)] 75), 6, []⟩ _
  have ht : ∀ {k : Nat}, Nat.ble k 40 = true → k ≤ E1.top := fun h => by rw [e2, hT]; exact Nat.le_of_ble_eq_true h
  have hd : ∀ (l : List Nat), l.all (Nat.ble 1) = true → ∀ b, b ∈ l → E1.D b := fun l hl b hb => e3 b (hD b (Nat.le_of_ble_eq_true (List.all_eq_true.1 hl b hb)))
  refine TriX.postE (mono_list _) (Q := fun x s => x = .normal ∧ (((∃ js, s = ⟨(q0u3_l0 n0 i c c2 t np ps ws vs a w vp).pre ++ junk js 59 10, (q0u3_l0 n0 i c c2 t np ps ws vs a w vp).hp, (q0u3_l0 n0 i c c2 t np ps ws vs a w vp).nid, []⟩) ∧ True) ∨ ((∃ js, s = ⟨(q0u3_l1 n0 i c c2 t np ps ws vs a w vp).pre ++ junk js 59 10, (q0u3_l1 n0 i c c2 t np ps ws vs a w vp).hp, (q0u3_l1 n0 i c c2 t np ps ws vs a w vp).nid, []⟩) ∧ True))) (TriX.listR (m := 10) (n := 59) codeOK (q0u3 n0 i c c2 t np ps ws vs js kk a w vp hw hc hc2 hkk) ?_) ?_
  · exact Tr.all_ite (fun _ => Tr.all_ok ⟨rfl, rfl, ht rfl, hd _ rfl, fun js => ⟨rfl, Or.inl ⟨⟨js, rfl⟩, trivial⟩⟩⟩) (fun _ => Tr.all_ok ⟨rfl, rfl, ht rfl, hd _ rfl, fun js => ⟨rfl, Or.inr (⟨⟨js, rfl⟩, trivial⟩)⟩⟩)
  · rintro x s ac w ⟨rfl, hq⟩ hat
    rcases hq with ⟨⟨js, rfl⟩, hcond⟩ | ⟨⟨js, rfl⟩, hcond⟩
    · have h1 := at_can hat
      obtain ⟨us, h2⟩ := at_forget 3 [false, false, false, true, false, false, false, false, false, false, false, false, false, false, false, false, false, false, false, false] rfl rfl h1
      refine ⟨_, h2, [.nilp, .nilp, .raw vp, .raw (us 3), .raw (vs 4), .raw (vs 5), .raw (vs 6), .raw (vs 7), .raw (vs 8), .raw (vs 9), .raw (vs 10), .raw (vs 11), .raw (vs 12), .raw (vs 13), .raw (vs 14), .raw (vs 15), .raw (vs 16), .raw (vs 17), .raw (vs 18), .raw (vs 19)], _, [], _, WG (.idle h _ (us 3)) s1 s2 s3, ?_, rfl, rfl, rfl, fun n => rfl, rfl, (.idle h _ (us 3)), s1, s2, s3, _, _, _, _, ⟨js, rfl⟩, rfl, rfl, by show 4 ≤ 6; omega, ?_, ⟨HS.ok_mono (Nat.le_succ _) hK, (WS.ok_mono (Nat.le_succ _) ho.1), (WS.ok_mono (Nat.le_succ _) ho.2.1), (WS.ok_mono (Nat.le_succ _) ho.2.2)⟩, by omega, by omega, by omega, by omega⟩
      · rfl
      · simp [hw]
    · have h1 := at_can hat
      refine ⟨_, h1, [.nilp, .ptr 4 0, .raw vp, .ptr 5 0, .raw (vs 4), .raw (vs 5), .raw (vs 6), .raw (vs 7), .raw (vs 8), .raw (vs 9), .raw (vs 10), .raw (vs 11), .raw (vs 12), .raw (vs 13), .raw (vs 14), .raw (vs 15), .raw (vs 16), .raw (vs 17), .raw (vs 18), .raw (vs 19)], _, [(4, 10), (5, 11)], _, WG (.push 1 _ _ h _) s1 s2 s3, ?_, rfl, rfl, rfl, fun n => rfl, rfl, (.push 1 _ _ h _), s1, s2, s3, _, _, _, _, ⟨js, rfl⟩, rfl, rfl, by show 4 ≤ 6; omega, ?_, ⟨⟨by omega, HS.ok_mono (Nat.le_succ _) hK⟩, (WS.ok_mono (Nat.le_succ _) ho.1), (WS.ok_mono (Nat.le_succ _) ho.2.1), (WS.ok_mono (Nat.le_succ _) ho.2.2)⟩, by omega, by omega, by omega, by omega⟩
      · rfl
      · simp [hw]
end
end Go.Proofs.Ytnlfphlmlklofaa.ListPlays
