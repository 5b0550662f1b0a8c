/-
  ListPlays: a step of the worker 2: its objects are opened, the step runs, they are hidden again. Printed by genLPW.py.
-/
import Derived.Test.YtnlfphlmlklofaaTListPlaysQ2
import Derived.Test.YtnlfphlmlklofaaDListPlays
namespace Go.Proofs.Ytnlfphlmlklofaa.ListPlays
open Go Go.RowKit Go.Proofs.Ytnlfphlmlklofaa.Eng
set_option linter.unusedVariables false
set_option linter.unusedSimpArgs false
set_option linter.unusedSectionVars false
set_option maxRecDepth 20000
set_option maxHeartbeats 1000000
abbrev M4q2 : List Bool := [true, true, true, true, true, true, true, true, true, true, false, false, false, false, true, true, true, true, true, true]
theorem hZL4q2 (s s0 s1 s3 : WS) : ∀ (i : Nat) x, M4q2[i]? = some true → (WL s0 s1 s s3)[i]? = some x → ∀ n ∈ vvIds x, Z2 30 n = false := by
  intro i x hm hx
  exact match i, hm, hx with
    | 0, _, hx => by
      injection hx with hx
      subst hx
      exact fun n hn => Z2_far (by decide) (by omega) (c_ids 10 s0 _ (by simp) n hn)
    | 1, _, hx => by
      injection hx with hx
      subst hx
      exact fun n hn => Z2_far (by decide) (by omega) (c_ids 10 s0 _ (by simp) n hn)
    | 2, _, hx => by
      injection hx with hx
      subst hx
      exact fun n hn => Z2_far (by decide) (by omega) (c_ids 10 s0 _ (by simp) n hn)
    | 3, _, hx => by
      injection hx with hx
      subst hx
      exact fun n hn => Z2_far (by decide) (by omega) (c_ids 10 s0 _ (by simp) n hn)
    | 4, _, hx => by
      injection hx with hx
      subst hx
      exact fun n hn => Z2_far (by decide) (by omega) (c_ids 10 s0 _ (by simp) n hn)
    | 5, _, hx => by
      injection hx with hx
      subst hx
      exact fun n hn => Z2_far (by decide) (by omega) (c_ids 20 s1 _ (by simp) n hn)
    | 6, _, hx => by
      injection hx with hx
      subst hx
      exact fun n hn => Z2_far (by decide) (by omega) (c_ids 20 s1 _ (by simp) n hn)
    | 7, _, hx => by
      injection hx with hx
      subst hx
      exact fun n hn => Z2_far (by decide) (by omega) (c_ids 20 s1 _ (by simp) n hn)
    | 8, _, hx => by
      injection hx with hx
      subst hx
      exact fun n hn => Z2_far (by decide) (by omega) (c_ids 20 s1 _ (by simp) n hn)
    | 9, _, hx => by
      injection hx with hx
      subst hx
      exact fun n hn => Z2_far (by decide) (by omega) (c_ids 20 s1 _ (by simp) n hn)
    | 10, hm, _ => (by cases hm)
    | 11, hm, _ => (by cases hm)
    | 12, hm, _ => (by cases hm)
    | 13, hm, _ => (by cases hm)
    | 14, _, hx => by
      injection hx with hx
      subst hx
      intro n hn
      have := c4_id 30 s n hn
      exact Z2_no ⟨by omega, by omega, by omega⟩
    | 15, _, hx => by
      injection hx with hx
      subst hx
      exact fun n hn => Z2_far (by decide) (by omega) (c_ids 40 s3 _ (by simp) n hn)
    | 16, _, hx => by
      injection hx with hx
      subst hx
      exact fun n hn => Z2_far (by decide) (by omega) (c_ids 40 s3 _ (by simp) n hn)
    | 17, _, hx => by
      injection hx with hx
      subst hx
      exact fun n hn => Z2_far (by decide) (by omega) (c_ids 40 s3 _ (by simp) n hn)
    | 18, _, hx => by
      injection hx with hx
      subst hx
      exact fun n hn => Z2_far (by decide) (by omega) (c_ids 40 s3 _ (by simp) n hn)
    | 19, _, hx => by
      injection hx with hx
      subst hx
      exact fun n hn => Z2_far (by decide) (by omega) (c_ids 40 s3 _ (by simp) n hn)
    | i + 20, _, hx => (by simp at hx)
theorem hZF4q2 (h : HS) (s0 s1 s3 : WS) : ∀ n o, hget (hobj 30 h ++ (wo 10 s0 ++ (wo 20 s1 ++ wo 40 s3))) n = some o → Z2 30 n = false ∧ ∀ m ∈ objIds o, Z2 30 m = false := by
  intro n o ho
  rw [hget_app (hobj_some 30 h)] at ho
  cases hb : hget (hobj 30 h) n with
  | some o' =>
    rw [hb] at ho
    injection ho with ho
    subst ho
    obtain ⟨rfl, h2⟩ := hobj_ids hb
    exact ⟨Z2_no ⟨by omega, by omega, by omega⟩, by rw [h2]; intro m hm; cases hm⟩
  | none =>
    rw [hb] at ho
    obtain ⟨h1, h2⟩ := oth_ids (show hget (wo 10 s0 ++ (wo 20 s1 ++ wo 40 s3)) n = some o from ho)
    refine ⟨?_, by rw [h2]; intro m hm; cases hm⟩
    rcases h1 with h1 | h1 | h1 <;> exact Z2_far (by decide) (by omega) h1
abbrev M5q2 : List Bool := [true, true, true, true, true, true, true, true, true, true, false, false, false, false, false, true, true, true, true, true]
theorem hZL5q2 (s s0 s1 s3 : WS) : ∀ (i : Nat) x, M5q2[i]? = some true → (WL s0 s1 s s3)[i]? = some x → ∀ n ∈ vvIds x, Z3 30 n = false := by
  intro i x hm hx
  exact match i, hm, hx with
    | 0, _, hx => by
      injection hx with hx
      subst hx
      exact fun n hn => Z3_far (by decide) (by omega) (c_ids 10 s0 _ (by simp) n hn)
    | 1, _, hx => by
      injection hx with hx
      subst hx
      exact fun n hn => Z3_far (by decide) (by omega) (c_ids 10 s0 _ (by simp) n hn)
    | 2, _, hx => by
      injection hx with hx
      subst hx
      exact fun n hn => Z3_far (by decide) (by omega) (c_ids 10 s0 _ (by simp) n hn)
    | 3, _, hx => by
      injection hx with hx
      subst hx
      exact fun n hn => Z3_far (by decide) (by omega) (c_ids 10 s0 _ (by simp) n hn)
    | 4, _, hx => by
      injection hx with hx
      subst hx
      exact fun n hn => Z3_far (by decide) (by omega) (c_ids 10 s0 _ (by simp) n hn)
    | 5, _, hx => by
      injection hx with hx
      subst hx
      exact fun n hn => Z3_far (by decide) (by omega) (c_ids 20 s1 _ (by simp) n hn)
    | 6, _, hx => by
      injection hx with hx
      subst hx
      exact fun n hn => Z3_far (by decide) (by omega) (c_ids 20 s1 _ (by simp) n hn)
    | 7, _, hx => by
      injection hx with hx
      subst hx
      exact fun n hn => Z3_far (by decide) (by omega) (c_ids 20 s1 _ (by simp) n hn)
    | 8, _, hx => by
      injection hx with hx
      subst hx
      exact fun n hn => Z3_far (by decide) (by omega) (c_ids 20 s1 _ (by simp) n hn)
    | 9, _, hx => by
      injection hx with hx
      subst hx
      exact fun n hn => Z3_far (by decide) (by omega) (c_ids 20 s1 _ (by simp) n hn)
    | 10, hm, _ => (by cases hm)
    | 11, hm, _ => (by cases hm)
    | 12, hm, _ => (by cases hm)
    | 13, hm, _ => (by cases hm)
    | 14, hm, _ => (by cases hm)
    | 15, _, hx => by
      injection hx with hx
      subst hx
      exact fun n hn => Z3_far (by decide) (by omega) (c_ids 40 s3 _ (by simp) n hn)
    | 16, _, hx => by
      injection hx with hx
      subst hx
      exact fun n hn => Z3_far (by decide) (by omega) (c_ids 40 s3 _ (by simp) n hn)
    | 17, _, hx => by
      injection hx with hx
      subst hx
      exact fun n hn => Z3_far (by decide) (by omega) (c_ids 40 s3 _ (by simp) n hn)
    | 18, _, hx => by
      injection hx with hx
      subst hx
      exact fun n hn => Z3_far (by decide) (by omega) (c_ids 40 s3 _ (by simp) n hn)
    | 19, _, hx => by
      injection hx with hx
      subst hx
      exact fun n hn => Z3_far (by decide) (by omega) (c_ids 40 s3 _ (by simp) n hn)
    | i + 20, _, hx => (by simp at hx)
theorem hZF5q2 (h : HS) (s0 s1 s3 : WS) : ∀ n o, hget (wo 10 s0 ++ (wo 20 s1 ++ wo 40 s3)) n = some o → Z3 30 n = false ∧ ∀ m ∈ objIds o, Z3 30 m = false := by
  intro n o ho
  obtain ⟨h1, h2⟩ := oth_ids ho
  refine ⟨?_, by rw [h2]; intro m hm; cases hm⟩
  rcases h1 with h1 | h1 | h1 <;> exact Z3_far (by decide) (by omega) h1
section
variable {n0 i c c2 t : Int} {np : Nat} {ps : List (List Int)} {ws : List Int} {js : Nat → SV} {E : Ctx MObj} (hE : E.nid0 = 1) (hT : E.top = 40) (hD : ∀ b, 1 ≤ b → E.D b) (hw : ws.length = 160) (hc : 0 ≤ c ∧ c ≤ 1000000) (hc2 : 0 ≤ c2 ∧ c2 ≤ 1000000)
include hE hT hD hw hc hc2
theorem w2ip (K : Nat) (vp : Value) (vq : Value) (h : HS) (s0 s1 s3 : WS)  (hK : h.ok K) (ho : okO K s0 s1 s3) (hK6 : K ≤ 1000000) : TriX MS (listX Try.prog four) E ⟨pre n0 np false i ++ [.v (.int .i64 (.lit 2))] ++ junk js 58 11, base ps ws c c2 t (.abs (.grp (WG s0 s1 (.idle h vp vq) s3))), 4, []⟩ (Mid n0 np i ps ws c c2 K) := by
  refine tri_group (mono_list _) 3 (WG s0 s1 (.idle h vp vq) s3) [] (hobj 30 h ++ (wo 10 s0 ++ (wo 20 s1 ++ wo 40 s3))) M4q2 (WL s0 s1 (.idle h vp vq) s3) _ 75 [] (Z2 30) rfl (fun n => (WG_2 _ s0 s1 (.idle h vp vq) s3 n)) (by simp [Z2, Nat.beq]) (by simp) rfl rfl (hZL4q2 _ s0 s1 s3) (hZF4q2 h s0 s1 s3) rfl rfl (by rw [hT]; exact Nat.le_of_ble_eq_true rfl) (hD 3 (by decide)) ?_
  intro vs E1 e1 e2 e3
  show TriX MS (listX Try.prog four) E1 ⟨pre n0 np false i ++ [.v (.int .i64 (.lit 2))] ++ junk js 58 11, base ps ws c c2 t (.cells [.raw (vs 0), .raw (vs 1), .raw (vs 2), .raw (vs 3), .raw (vs 4), .raw (vs 5), .raw (vs 6), .raw (vs 7), .raw (vs 8), .raw (vs 9), .nilp, .nilp, .raw vp, .raw vq, .raw (vs 14), .raw (vs 15), .raw (vs 16), .raw (vs 17), .raw (vs 18), .raw (vs 19)] 75), 4, []⟩ _
  have ht : ∀ {k : Nat}, Nat.ble k 40 = true → k ≤ E1.top := fun h => by rw [e2, hT]; exact Nat.le_of_ble_eq_true h
  have hd : ∀ (l : List Nat), l.all (Nat.ble 1) = true → ∀ b, b ∈ l → E1.D b := fun l hl b hb => e3 b (hD b (Nat.le_of_ble_eq_true (List.all_eq_true.1 hl b hb)))
  refine TriX.postE (mono_list _) (Q := fun x s => x = .normal ∧ (((∃ js, s = ⟨(q2ip_l0 n0 i c c2 t np ps ws vs vq).pre ++ junk js 59 10, (q2ip_l0 n0 i c c2 t np ps ws vs vq).hp, (q2ip_l0 n0 i c c2 t np ps ws vs vq).nid, []⟩) ∧ True) ∨ ((∃ js, s = ⟨(q2ip_l1 n0 i c c2 t np ps ws vs vq).pre ++ junk js 59 10, (q2ip_l1 n0 i c c2 t np ps ws vs vq).hp, (q2ip_l1 n0 i c c2 t np ps ws vs vq).nid, []⟩) ∧ True))) (TriX.listR (m := 10) (n := 59) codeOK (q2ip n0 i c c2 t np ps ws vs js vp vq hw hc hc2) ?_) ?_
  · exact Tr.all_ite (fun _ => Tr.all_ok ⟨rfl, rfl, ht rfl, hd _ rfl, fun js => ⟨rfl, Or.inl ⟨⟨js, rfl⟩, trivial⟩⟩⟩) (fun _ => Tr.all_ok ⟨rfl, rfl, ht rfl, hd _ rfl, fun js => ⟨rfl, Or.inr (⟨⟨js, rfl⟩, trivial⟩)⟩⟩)
  · rintro x s ac w ⟨rfl, hq⟩ hat
    rcases hq with ⟨⟨js, rfl⟩, hcond⟩ | ⟨⟨js, rfl⟩, hcond⟩
    · have h1 := at_can hat
      obtain ⟨us, h2⟩ := at_forget 3 [false, false, false, false, false, false, false, false, false, false, false, false, true, false, false, false, false, false, false, false] rfl rfl h1
      refine ⟨_, h2, [.raw (vs 0), .raw (vs 1), .raw (vs 2), .raw (vs 3), .raw (vs 4), .raw (vs 5), .raw (vs 6), .raw (vs 7), .raw (vs 8), .raw (vs 9), .nilp, .nilp, .raw (us 12), .raw vq, .raw (vs 14), .raw (vs 15), .raw (vs 16), .raw (vs 17), .raw (vs 18), .raw (vs 19)], _, [], _, WG s0 s1 (.idle h (us 12) _) s3, ?_, rfl, rfl, rfl, fun n => ((WG_2 _ s0 s1 _ s3 n)).trans rfl, rfl, s0, s1, (.idle h (us 12) _), s3, _, _, _, _, ⟨js, rfl⟩, rfl, rfl, by show 4 ≤ 6; omega, ?_, ⟨(WS.ok_mono (Nat.le_succ _) ho.1), (WS.ok_mono (Nat.le_succ _) ho.2.1), HS.ok_mono (Nat.le_succ _) hK, (WS.ok_mono (Nat.le_succ _) ho.2.2)⟩, by omega, by omega, by omega, by omega⟩
      · rfl
      · simp [hw]
    · have h1 := at_can hat
      refine ⟨_, h1, [.raw (vs 0), .raw (vs 1), .raw (vs 2), .raw (vs 3), .raw (vs 4), .raw (vs 5), .raw (vs 6), .raw (vs 7), .raw (vs 8), .raw (vs 9), .ptr 4 0, .nilp, .ptr 5 0, .raw vq, .raw (vs 14), .raw (vs 15), .raw (vs 16), .raw (vs 17), .raw (vs 18), .raw (vs 19)], _, [(4, 30), (5, 31)], _, WG s0 s1 (.pop 2 _ _ h _) s3, ?_, rfl, rfl, rfl, fun n => ((WG_2 _ s0 s1 _ s3 n)).trans rfl, rfl, s0, s1, (.pop 2 _ _ h _), s3, _, _, _, _, ⟨js, rfl⟩, rfl, rfl, by show 4 ≤ 6; omega, ?_, ⟨(WS.ok_mono (Nat.le_succ _) ho.1), (WS.ok_mono (Nat.le_succ _) ho.2.1), ⟨by omega, HS.ok_mono (Nat.le_succ _) hK⟩, (WS.ok_mono (Nat.le_succ _) ho.2.2)⟩, by omega, by omega, by omega, by omega⟩
      · rfl
      · simp [hw]
theorem w2in (K : Nat) (vp : Value) (vq : Value) (s0 s1 s3 : WS)   (ho : okO K s0 s1 s3) (hK6 : K ≤ 1000000) : TriX MS (listX Try.prog four) E ⟨pre n0 np false i ++ [.v (.int .i64 (.lit 6))] ++ junk js 58 11, base ps ws c c2 t (.abs (.grp (WG s0 s1 (.idle (.nil) vp vq) s3))), 4, []⟩ (Mid n0 np i ps ws c c2 K) := by
  refine tri_group (mono_list _) 3 (WG s0 s1 (.idle (.nil) vp vq) s3) [] (wo 10 s0 ++ (wo 20 s1 ++ wo 40 s3)) M5q2 (WL s0 s1 (.idle (.nil) vp vq) s3) _ 75 [] (Z3 30) rfl (fun n => (WG_2 _ s0 s1 (.idle (.nil) vp vq) s3 n)) (by simp [Z3, Nat.beq]) (by simp) rfl rfl (hZL5q2 _ s0 s1 s3) (hZF5q2 (.nil) s0 s1 s3) rfl rfl (by rw [hT]; exact Nat.le_of_ble_eq_true rfl) (hD 3 (by decide)) ?_
  intro vs E1 e1 e2 e3
  show TriX MS (listX Try.prog four) E1 ⟨pre n0 np false i ++ [.v (.int .i64 (.lit 6))] ++ junk js 58 11, base ps ws c c2 t (.cells [.raw (vs 0), .raw (vs 1), .raw (vs 2), .raw (vs 3), .raw (vs 4), .raw (vs 5), .raw (vs 6), .raw (vs 7), .raw (vs 8), .raw (vs 9), .nilp, .nilp, .raw vp, .raw vq, .nils, .raw (vs 15), .raw (vs 16), .raw (vs 17), .raw (vs 18), .raw (vs 19)] 75), 4, []⟩ _
  have ht : ∀ {k : Nat}, Nat.ble k 40 = true → k ≤ E1.top := fun h => by rw [e2, hT]; exact Nat.le_of_ble_eq_true h
  have hd : ∀ (l : List Nat), l.all (Nat.ble 1) = true → ∀ b, b ∈ l → E1.D b := fun l hl b hb => e3 b (hD b (Nat.le_of_ble_eq_true (List.all_eq_true.1 hl b hb)))
  refine TriX.postE (mono_list _) (Q := fun x s => x = .normal ∧ (((∃ js, s = ⟨(q2in_l0 n0 i c c2 t np ps ws vs vq).pre ++ junk js 59 10, (q2in_l0 n0 i c c2 t np ps ws vs vq).hp, (q2in_l0 n0 i c c2 t np ps ws vs vq).nid, []⟩) ∧ True) ∨ ((∃ js, s = ⟨(q2in_l1 n0 i c c2 t np ps ws vs vq).pre ++ junk js 59 10, (q2in_l1 n0 i c c2 t np ps ws vs vq).hp, (q2in_l1 n0 i c c2 t np ps ws vs vq).nid, []⟩) ∧ True))) (TriX.listR (m := 10) (n := 59) codeOK (q2in n0 i c c2 t np ps ws vs js vp vq hw hc hc2) ?_) ?_
  · exact Tr.all_ite (fun _ => Tr.all_ok ⟨rfl, rfl, ht rfl, hd _ rfl, fun js => ⟨rfl, Or.inl ⟨⟨js, rfl⟩, trivial⟩⟩⟩) (fun _ => Tr.all_ok ⟨rfl, rfl, ht rfl, hd _ rfl, fun js => ⟨rfl, Or.inr (⟨⟨js, rfl⟩, trivial⟩)⟩⟩)
  · rintro x s ac w ⟨rfl, hq⟩ hat
    rcases hq with ⟨⟨js, rfl⟩, hcond⟩ | ⟨⟨js, rfl⟩, hcond⟩
    · have h1 := at_can hat
      obtain ⟨us, h2⟩ := at_forget 3 [false, false, false, false, false, false, false, false, false, false, false, false, true, false, false, false, false, false, false, false] rfl rfl h1
      refine ⟨_, h2, [.raw (vs 0), .raw (vs 1), .raw (vs 2), .raw (vs 3), .raw (vs 4), .raw (vs 5), .raw (vs 6), .raw (vs 7), .raw (vs 8), .raw (vs 9), .nilp, .nilp, .raw (us 12), .raw vq, .nils, .raw (vs 15), .raw (vs 16), .raw (vs 17), .raw (vs 18), .raw (vs 19)], _, [], _, WG s0 s1 (.idle .nil (us 12) _) s3, ?_, rfl, rfl, rfl, fun n => ((WG_2 _ s0 s1 _ s3 n)).trans rfl, rfl, s0, s1, (.idle .nil (us 12) _), s3, _, _, _, _, ⟨js, rfl⟩, rfl, rfl, by show 4 ≤ 6; omega, ?_, ⟨(WS.ok_mono (Nat.le_succ _) ho.1), (WS.ok_mono (Nat.le_succ _) ho.2.1), trivial, (WS.ok_mono (Nat.le_succ _) ho.2.2)⟩, by omega, by omega, by omega, by omega⟩
      · rfl
      · simp [hw]
    · have h1 := at_can hat
      refine ⟨_, h1, [.raw (vs 0), .raw (vs 1), .raw (vs 2), .raw (vs 3), .raw (vs 4), .raw (vs 5), .raw (vs 6), .raw (vs 7), .raw (vs 8), .raw (vs 9), .ptr 4 0, .nilp, .ptr 5 0, .raw vq, .nils, .raw (vs 15), .raw (vs 16), .raw (vs 17), .raw (vs 18), .raw (vs 19)], _, [(4, 30), (5, 31)], _, WG s0 s1 (.pop 2 _ _ .nil _) s3, ?_, rfl, rfl, rfl, fun n => ((WG_2 _ s0 s1 _ s3 n)).trans rfl, rfl, s0, s1, (.pop 2 _ _ .nil _), s3, _, _, _, _, ⟨js, rfl⟩, rfl, rfl, by show 4 ≤ 6; omega, ?_, ⟨(WS.ok_mono (Nat.le_succ _) ho.1), (WS.ok_mono (Nat.le_succ _) ho.2.1), ⟨by omega, trivial⟩, (WS.ok_mono (Nat.le_succ _) ho.2.2)⟩, by omega, by omega, by omega, by omega⟩
      · rfl
      · simp [hw]
theorem w2ie (K : Nat) (vp : Value) (vq : Value) (s0 s1 s3 : WS)   (ho : okO K s0 s1 s3) (hK6 : K ≤ 1000000) : TriX MS (listX Try.prog four) E ⟨pre n0 np false i ++ [.v (.int .i64 (.lit 6))] ++ junk js 58 11, base ps ws c c2 t (.abs (.grp (WG s0 s1 (.idle (.es) vp vq) s3))), 4, []⟩ (Mid n0 np i ps ws c c2 K) := by
  refine tri_group (mono_list _) 3 (WG s0 s1 (.idle (.es) vp vq) s3) [] (wo 10 s0 ++ (wo 20 s1 ++ wo 40 s3)) M5q2 (WL s0 s1 (.idle (.es) vp vq) s3) _ 75 [] (Z3 30) rfl (fun n => (WG_2 _ s0 s1 (.idle (.es) vp vq) s3 n)) (by simp [Z3, Nat.beq]) (by simp) rfl rfl (hZL5q2 _ s0 s1 s3) (hZF5q2 (.es) s0 s1 s3) rfl rfl (by rw [hT]; exact Nat.le_of_ble_eq_true rfl) (hD 3 (by decide)) ?_
  intro vs E1 e1 e2 e3
  show TriX MS (listX Try.prog four) E1 ⟨pre n0 np false i ++ [.v (.int .i64 (.lit 6))] ++ junk js 58 11, base ps ws c c2 t (.cells [.raw (vs 0), .raw (vs 1), .raw (vs 2), .raw (vs 3), .raw (vs 4), .raw (vs 5), .raw (vs 6), .raw (vs 7), .raw (vs 8), .raw (vs 9), .nilp, .nilp, .raw vp, .raw vq, .es true, .raw (vs 15), .raw (vs 16), .raw (vs 17), .raw (vs 18), .raw (vs 19)] 75), 4, []⟩ _
  have ht : ∀ {k : Nat}, Nat.ble k 40 = true → k ≤ E1.top := fun h => by rw [e2, hT]; exact Nat.le_of_ble_eq_true h
  have hd : ∀ (l : List Nat), l.all (Nat.ble 1) = true → ∀ b, b ∈ l → E1.D b := fun l hl b hb => e3 b (hD b (Nat.le_of_ble_eq_true (List.all_eq_true.1 hl b hb)))
  refine TriX.postE (mono_list _) (Q := fun x s => x = .normal ∧ (((∃ js, s = ⟨(q2ie_l0 n0 i c c2 t np ps ws vs vq).pre ++ junk js 59 10, (q2ie_l0 n0 i c c2 t np ps ws vs vq).hp, (q2ie_l0 n0 i c c2 t np ps ws vs vq).nid, []⟩) ∧ True) ∨ ((∃ js, s = ⟨(q2ie_l1 n0 i c c2 t np ps ws vs vq).pre ++ junk js 59 10, (q2ie_l1 n0 i c c2 t np ps ws vs vq).hp, (q2ie_l1 n0 i c c2 t np ps ws vs vq).nid, []⟩) ∧ True))) (TriX.listR (m := 10) (n := 59) codeOK (q2ie n0 i c c2 t np ps ws vs js vp vq hw hc hc2) ?_) ?_
  · exact Tr.all_ite (fun _ => Tr.all_ok ⟨rfl, rfl, ht rfl, hd _ rfl, fun js => ⟨rfl, Or.inl ⟨⟨js, rfl⟩, trivial⟩⟩⟩) (fun _ => Tr.all_ok ⟨rfl, rfl, ht rfl, hd _ rfl, fun js => ⟨rfl, Or.inr (⟨⟨js, rfl⟩, trivial⟩)⟩⟩)
  · rintro x s ac w ⟨rfl, hq⟩ hat
    rcases hq with ⟨⟨js, rfl⟩, hcond⟩ | ⟨⟨js, rfl⟩, hcond⟩
    · have h1 := at_can hat
      obtain ⟨us, h2⟩ := at_forget 3 [false, false, false, false, false, false, false, false, false, false, false, false, true, false, false, false, false, false, false, false] rfl rfl h1
      refine ⟨_, h2, [.raw (vs 0), .raw (vs 1), .raw (vs 2), .raw (vs 3), .raw (vs 4), .raw (vs 5), .raw (vs 6), .raw (vs 7), .raw (vs 8), .raw (vs 9), .nilp, .nilp, .raw (us 12), .raw vq, .es true, .raw (vs 15), .raw (vs 16), .raw (vs 17), .raw (vs 18), .raw (vs 19)], _, [], _, WG s0 s1 (.idle .es (us 12) _) s3, ?_, rfl, rfl, rfl, fun n => ((WG_2 _ s0 s1 _ s3 n)).trans rfl, rfl, s0, s1, (.idle .es (us 12) _), s3, _, _, _, _, ⟨js, rfl⟩, rfl, rfl, by show 4 ≤ 6; omega, ?_, ⟨(WS.ok_mono (Nat.le_succ _) ho.1), (WS.ok_mono (Nat.le_succ _) ho.2.1), trivial, (WS.ok_mono (Nat.le_succ _) ho.2.2)⟩, by omega, by omega, by omega, by omega⟩
      · rfl
      · simp [hw]
    · have h1 := at_can hat
      refine ⟨_, h1, [.raw (vs 0), .raw (vs 1), .raw (vs 2), .raw (vs 3), .raw (vs 4), .raw (vs 5), .raw (vs 6), .raw (vs 7), .raw (vs 8), .raw (vs 9), .ptr 4 0, .nilp, .ptr 5 0, .raw vq, .es true, .raw (vs 15), .raw (vs 16), .raw (vs 17), .raw (vs 18), .raw (vs 19)], _, [(4, 30), (5, 31)], _, WG s0 s1 (.pop 2 _ _ .es _) s3, ?_, rfl, rfl, rfl, fun n => ((WG_2 _ s0 s1 _ s3 n)).trans rfl, rfl, s0, s1, (.pop 2 _ _ .es _), s3, _, _, _, _, ⟨js, rfl⟩, rfl, rfl, by show 4 ≤ 6; omega, ?_, ⟨(WS.ok_mono (Nat.le_succ _) ho.1), (WS.ok_mono (Nat.le_succ _) ho.2.1), ⟨by omega, trivial⟩, (WS.ok_mono (Nat.le_succ _) ho.2.2)⟩, by omega, by omega, by omega, by omega⟩
      · rfl
      · simp [hw]
theorem w2it (K : Nat) (vp : Value) (vq : Value) (rows : List (List Int)) (s0 s1 s3 : WS) (hr : 0 < rows.length ∧ rows.length ≤ 1000000) (hKr : rows.length ≤ K)  (ho : okO K s0 s1 s3) (hK6 : K ≤ 1000000) : TriX MS (listX Try.prog four) E ⟨pre n0 np false i ++ [.v (.int .i64 (.lit 6))] ++ junk js 58 11, base ps ws c c2 t (.abs (.grp (WG s0 s1 (.idle (.tab rows) vp vq) s3))), 4, []⟩ (Mid n0 np i ps ws c c2 K) := by
  refine tri_group (mono_list _) 3 (WG s0 s1 (.idle (.tab rows) vp vq) s3) [(32, some (tabO rows))] (wo 10 s0 ++ (wo 20 s1 ++ wo 40 s3)) M5q2 (WL s0 s1 (.idle (.tab rows) vp vq) s3) _ 75 [(4, some (.tab [.int .i64] rows 3))] (Z3 30) rfl (fun n => (WG_2 _ s0 s1 (.idle (.tab rows) vp vq) s3 n)) (by simp [Z3, Nat.beq]) (by simp) rfl rfl (hZL5q2 _ s0 s1 s3) (hZF5q2 (.tab rows) s0 s1 s3) rfl rfl (by rw [hT]; exact Nat.le_of_ble_eq_true rfl) (hD 3 (by decide)) ?_
  intro vs E1 e1 e2 e3
  show TriX MS (listX Try.prog four) E1 ⟨pre n0 np false i ++ [.v (.int .i64 (.lit 6))] ++ junk js 58 11, [(4, some (.tab [.int .i64] rows 3))] ++ base ps ws c c2 t (.cells [.raw (vs 0), .raw (vs 1), .raw (vs 2), .raw (vs 3), .raw (vs 4), .raw (vs 5), .raw (vs 6), .raw (vs 7), .raw (vs 8), .raw (vs 9), .nilp, .nilp, .raw vp, .raw vq, .ts 4 (.lit 0) (.sym rows.length) none, .raw (vs 15), .raw (vs 16), .raw (vs 17), .raw (vs 18), .raw (vs 19)] 75), 5, []⟩ _
  have ht : ∀ {k : Nat}, Nat.ble k 40 = true → k ≤ E1.top := fun h => by rw [e2, hT]; exact Nat.le_of_ble_eq_true h
  have hd : ∀ (l : List Nat), l.all (Nat.ble 1) = true → ∀ b, b ∈ l → E1.D b := fun l hl b hb => e3 b (hD b (Nat.le_of_ble_eq_true (List.all_eq_true.1 hl b hb)))
  refine TriX.postE (mono_list _) (Q := fun x s => x = .normal ∧ (((∃ js, s = ⟨(q2it_l0 n0 i c c2 t np ps ws vs vp rows).pre ++ junk js 59 10, (q2it_l0 n0 i c c2 t np ps ws vs vp rows).hp, (q2it_l0 n0 i c c2 t np ps ws vs vp rows).nid, []⟩) ∧ 1 < rows.length) ∨ ((∃ js, s = ⟨(q2it_l1 n0 i c c2 t np ps ws vs vp rows).pre ++ junk js 59 10, (q2it_l1 n0 i c c2 t np ps ws vs vp rows).hp, (q2it_l1 n0 i c c2 t np ps ws vs vp rows).nid, []⟩) ∧ True))) (TriX.listR (m := 10) (n := 59) codeOK (q2it n0 i c c2 t np ps ws vs js vp vq rows hw hc hc2 hr) ?_) ?_
  · exact Tr.all_ite (fun e => Tr.all_ok ⟨rfl, rfl, ht rfl, hd _ rfl, fun js => ⟨rfl, Or.inl ⟨⟨js, rfl⟩, (by have := of_decide_eq_true e; omega)⟩⟩⟩) (fun _ => Tr.all_ok ⟨rfl, rfl, ht rfl, hd _ rfl, fun js => ⟨rfl, Or.inr (⟨⟨js, rfl⟩, trivial⟩)⟩⟩)
  · rintro x s ac w ⟨rfl, hq⟩ hat
    rcases hq with ⟨⟨js, rfl⟩, hcond⟩ | ⟨⟨js, rfl⟩, hcond⟩
    · have h1 := at_can hat
      refine ⟨_, h1, [.raw (vs 0), .raw (vs 1), .raw (vs 2), .raw (vs 3), .raw (vs 4), .raw (vs 5), .raw (vs 6), .raw (vs 7), .raw (vs 8), .raw (vs 9), .nilp, .ptr 7 0, .raw vp, .ptr 8 0, .ts 6 (.lit 0) (.sym _) none, .raw (vs 15), .raw (vs 16), .raw (vs 17), .raw (vs 18), .raw (vs 19)], _, [(7, 30), (8, 31), (6, 32)], _, WG s0 s1 (.push 2 _ _ (.tab _) _) s3, ?_, rfl, rfl, rfl, fun n => ((WG_2 _ s0 s1 _ s3 n)).trans rfl, rfl, s0, s1, (.push 2 _ _ (.tab _) _), s3, _, _, _, _, ⟨js, rfl⟩, rfl, rfl, by show 4 ≤ 9; omega, ?_, ⟨(WS.ok_mono (Nat.le_succ _) ho.1), (WS.ok_mono (Nat.le_succ _) ho.2.1), ⟨by omega, (by first | exact ⟨hr.1, by omega⟩ | (constructor <;> simp <;> omega))⟩, (WS.ok_mono (Nat.le_succ _) ho.2.2)⟩, by omega, by omega, by omega, by omega⟩
      · exact congrArg (fun m => some (VObj.cells [.raw (vs 0), .raw (vs 1), .raw (vs 2), .raw (vs 3), .raw (vs 4), .raw (vs 5), .raw (vs 6), .raw (vs 7), .raw (vs 8), .raw (vs 9), .nilp, .ptr 7 0, .raw vp, .ptr 8 0, .ts 6 (.lit 0) (.sym m) none, .raw (vs 15), .raw (vs 16), .raw (vs 17), .raw (vs 18), .raw (vs 19)] 75)) (by first | rfl | (simp [SN.val]; done) | (simp [SN.val] <;> omega))
      · simp [hw]
    · have h1 := at_can hat
      refine ⟨_, h1, [.raw (vs 0), .raw (vs 1), .raw (vs 2), .raw (vs 3), .raw (vs 4), .raw (vs 5), .raw (vs 6), .raw (vs 7), .raw (vs 8), .raw (vs 9), .nilp, .ptr 6 0, .raw vp, .ptr 7 0, .es true, .raw (vs 15), .raw (vs 16), .raw (vs 17), .raw (vs 18), .raw (vs 19)], _, [(6, 30), (7, 31)], _, WG s0 s1 (.push 2 _ _ .es _) s3, ?_, rfl, rfl, rfl, fun n => ((WG_2 _ s0 s1 _ s3 n)).trans rfl, rfl, s0, s1, (.push 2 _ _ .es _), s3, _, _, _, _, ⟨js, rfl⟩, rfl, rfl, by show 4 ≤ 8; omega, ?_, ⟨(WS.ok_mono (Nat.le_succ _) ho.1), (WS.ok_mono (Nat.le_succ _) ho.2.1), ⟨by omega, trivial⟩, (WS.ok_mono (Nat.le_succ _) ho.2.2)⟩, by omega, by omega, by omega, by omega⟩
      · rfl
      · simp [hw]
theorem w2p1 (K : Nat) (w : Int) (l : Int) (vq : Value) (kk : Int) (h : HS) (s0 s1 s3 : WS) (hkk : kk.tmod 4 = 2) (hK : h.ok K) (ho : okO K s0 s1 s3) (hK6 : K ≤ 1000000) : TriX MS (listX Try.prog four) E ⟨pre n0 np false i ++ [.v (.int .i64 (.sym kk))] ++ junk js 58 11, base ps ws c c2 t (.abs (.grp (WG s0 s1 (.pop 1 w l h vq) s3))), 4, []⟩ (Mid n0 np i ps ws c c2 K) := by
  refine tri_group (mono_list _) 3 (WG s0 s1 (.pop 1 w l h vq) s3) [(30, some (popO 1 w l)), (31, some (rpopO 1 w l))] (hobj 30 h ++ (wo 10 s0 ++ (wo 20 s1 ++ wo 40 s3))) M4q2 (WL s0 s1 (.pop 1 w l h vq) s3) _ 75 [(4, some (ofU (popO 1 w l))), (5, some (ofU (rpopO 1 w l)))] (Z2 30) rfl (fun n => (WG_2 _ s0 s1 (.pop 1 w l h vq) s3 n)) (by simp [Z2, Nat.beq]) (by simp) rfl rfl (hZL4q2 _ s0 s1 s3) (hZF4q2 h s0 s1 s3) rfl rfl (by rw [hT]; exact Nat.le_of_ble_eq_true rfl) (hD 3 (by decide)) ?_
  intro vs E1 e1 e2 e3
  show TriX MS (listX Try.prog four) E1 ⟨pre n0 np false i ++ [.v (.int .i64 (.sym kk))] ++ junk js 58 11, [(4, some (ofU (popO 1 w l))), (5, some (ofU (rpopO 1 w l)))] ++ base ps ws c c2 t (.cells [.raw (vs 0), .raw (vs 1), .raw (vs 2), .raw (vs 3), .raw (vs 4), .raw (vs 5), .raw (vs 6), .raw (vs 7), .raw (vs 8), .raw (vs 9), .ptr 4 0, .nilp, .ptr 5 0, .raw vq, .raw (vs 14), .raw (vs 15), .raw (vs 16), .raw (vs 17), .raw (vs 18), .raw (vs 19)] 75), 6, []⟩ _
  have ht : ∀ {k : Nat}, Nat.ble k 40 = true → k ≤ E1.top := fun h => by rw [e2, hT]; exact Nat.le_of_ble_eq_true h
  have hd : ∀ (l : List Nat), l.all (Nat.ble 1) = true → ∀ b, b ∈ l → E1.D b := fun l hl b hb => e3 b (hD b (Nat.le_of_ble_eq_true (List.all_eq_true.1 hl b hb)))
  refine TriX.postE (mono_list _) (Q := fun x s => x = .normal ∧ (((∃ js, s = ⟨(q2p1_l0 n0 i c c2 t np ps ws vs l vq).pre ++ junk js 59 10, (q2p1_l0 n0 i c c2 t np ps ws vs l vq).hp, (q2p1_l0 n0 i c c2 t np ps ws vs l vq).nid, []⟩) ∧ True) ∨ ((∃ js, s = ⟨(q2p1_l1 n0 i c c2 t np ps ws vs l vq).pre ++ junk js 59 10, (q2p1_l1 n0 i c c2 t np ps ws vs l vq).hp, (q2p1_l1 n0 i c c2 t np ps ws vs l vq).nid, []⟩) ∧ True))) (TriX.listR (m := 10) (n := 59) codeOK (q2p1 n0 i c c2 t np ps ws vs js kk w l vq hw hc hc2 hkk) ?_) ?_
  · exact Tr.all_ite (fun _ => Tr.all_ok ⟨rfl, rfl, ht rfl, hd _ rfl, fun js => ⟨rfl, Or.inl ⟨⟨js, rfl⟩, trivial⟩⟩⟩) (fun _ => Tr.all_ok ⟨rfl, rfl, ht rfl, hd _ rfl, fun js => ⟨rfl, Or.inr (⟨⟨js, rfl⟩, trivial⟩)⟩⟩)
  · rintro x s ac w ⟨rfl, hq⟩ hat
    rcases hq with ⟨⟨js, rfl⟩, hcond⟩ | ⟨⟨js, rfl⟩, hcond⟩
    · have h1 := at_can hat
      obtain ⟨us, h2⟩ := at_forget 3 [false, false, false, false, false, false, false, false, false, false, false, false, true, false, false, false, false, false, false, false] rfl rfl h1
      refine ⟨_, h2, [.raw (vs 0), .raw (vs 1), .raw (vs 2), .raw (vs 3), .raw (vs 4), .raw (vs 5), .raw (vs 6), .raw (vs 7), .raw (vs 8), .raw (vs 9), .nilp, .nilp, .raw (us 12), .raw vq, .raw (vs 14), .raw (vs 15), .raw (vs 16), .raw (vs 17), .raw (vs 18), .raw (vs 19)], _, [], _, WG s0 s1 (.idle h (us 12) _) s3, ?_, rfl, rfl, rfl, fun n => ((WG_2 _ s0 s1 _ s3 n)).trans rfl, rfl, s0, s1, (.idle h (us 12) _), s3, _, _, _, _, ⟨js, rfl⟩, rfl, rfl, by show 4 ≤ 6; omega, ?_, ⟨(WS.ok_mono (Nat.le_succ _) ho.1), (WS.ok_mono (Nat.le_succ _) ho.2.1), HS.ok_mono (Nat.le_succ _) hK, (WS.ok_mono (Nat.le_succ _) ho.2.2)⟩, by omega, by omega, by omega, by omega⟩
      · rfl
      · simp [hw]
    · have h1 := at_can hat
      refine ⟨_, h1, [.raw (vs 0), .raw (vs 1), .raw (vs 2), .raw (vs 3), .raw (vs 4), .raw (vs 5), .raw (vs 6), .raw (vs 7), .raw (vs 8), .raw (vs 9), .ptr 4 0, .nilp, .ptr 5 0, .raw vq, .raw (vs 14), .raw (vs 15), .raw (vs 16), .raw (vs 17), .raw (vs 18), .raw (vs 19)], _, [(4, 30), (5, 31)], _, WG s0 s1 (.pop 2 _ _ h _) s3, ?_, rfl, rfl, rfl, fun n => ((WG_2 _ s0 s1 _ s3 n)).trans rfl, rfl, s0, s1, (.pop 2 _ _ h _), s3, _, _, _, _, ⟨js, rfl⟩, rfl, rfl, by show 4 ≤ 6; omega, ?_, ⟨(WS.ok_mono (Nat.le_succ _) ho.1), (WS.ok_mono (Nat.le_succ _) ho.2.1), ⟨by omega, HS.ok_mono (Nat.le_succ _) hK⟩, (WS.ok_mono (Nat.le_succ _) ho.2.2)⟩, by omega, by omega, by omega, by omega⟩
      · rfl
      · simp [hw]
theorem w2p2 (K : Nat) (w : Int) (l : Int) (vq : Value) (kk : Int) (h : HS) (s0 s1 s3 : WS) (hkk : kk.tmod 4 = 2) (hK : h.ok K) (ho : okO K s0 s1 s3) (hK6 : K ≤ 1000000) : TriX MS (listX Try.prog four) E ⟨pre n0 np false i ++ [.v (.int .i64 (.sym kk))] ++ junk js 58 11, base ps ws c c2 t (.abs (.grp (WG s0 s1 (.pop 2 w l h vq) s3))), 4, []⟩ (Mid n0 np i ps ws c c2 K) := by
  refine tri_group (mono_list _) 3 (WG s0 s1 (.pop 2 w l h vq) s3) [(30, some (popO 2 w l)), (31, some (rpopO 2 w l))] (hobj 30 h ++ (wo 10 s0 ++ (wo 20 s1 ++ wo 40 s3))) M4q2 (WL s0 s1 (.pop 2 w l h vq) s3) _ 75 [(4, some (ofU (popO 2 w l))), (5, some (ofU (rpopO 2 w l)))] (Z2 30) rfl (fun n => (WG_2 _ s0 s1 (.pop 2 w l h vq) s3 n)) (by simp [Z2, Nat.beq]) (by simp) rfl rfl (hZL4q2 _ s0 s1 s3) (hZF4q2 h s0 s1 s3) rfl rfl (by rw [hT]; exact Nat.le_of_ble_eq_true rfl) (hD 3 (by decide)) ?_
  intro vs E1 e1 e2 e3
  show TriX MS (listX Try.prog four) E1 ⟨pre n0 np false i ++ [.v (.int .i64 (.sym kk))] ++ junk js 58 11, [(4, some (ofU (popO 2 w l))), (5, some (ofU (rpopO 2 w l)))] ++ base ps ws c c2 t (.cells [.raw (vs 0), .raw (vs 1), .raw (vs 2), .raw (vs 3), .raw (vs 4), .raw (vs 5), .raw (vs 6), .raw (vs 7), .raw (vs 8), .raw (vs 9), .ptr 4 0, .nilp, .ptr 5 0, .raw vq, .raw (vs 14), .raw (vs 15), .raw (vs 16), .raw (vs 17), .raw (vs 18), .raw (vs 19)] 75), 6, []⟩ _
  have ht : ∀ {k : Nat}, Nat.ble k 40 = true → k ≤ E1.top := fun h => by rw [e2, hT]; exact Nat.le_of_ble_eq_true h
  have hd : ∀ (l : List Nat), l.all (Nat.ble 1) = true → ∀ b, b ∈ l → E1.D b := fun l hl b hb => e3 b (hD b (Nat.le_of_ble_eq_true (List.all_eq_true.1 hl b hb)))
  refine TriX.postE (mono_list _) (Q := fun x s => x = .normal ∧ (((∃ js, s = ⟨(q2p2_l0 n0 i c c2 t np ps ws vs w vq).pre ++ junk js 59 10, (q2p2_l0 n0 i c c2 t np ps ws vs w vq).hp, (q2p2_l0 n0 i c c2 t np ps ws vs w vq).nid, []⟩) ∧ True) ∨ ((∃ js, s = ⟨(q2p2_l1 n0 i c c2 t np ps ws vs w vq).pre ++ junk js 59 10, (q2p2_l1 n0 i c c2 t np ps ws vs w vq).hp, (q2p2_l1 n0 i c c2 t np ps ws vs w vq).nid, []⟩) ∧ True))) (TriX.listR (m := 10) (n := 59) codeOK (q2p2 n0 i c c2 t np ps ws vs js kk w l vq hw hc hc2 hkk) ?_) ?_
  · exact Tr.all_ite (fun _ => Tr.all_ok ⟨rfl, rfl, ht rfl, hd _ rfl, fun js => ⟨rfl, Or.inl ⟨⟨js, rfl⟩, trivial⟩⟩⟩) (fun _ => Tr.all_ok ⟨rfl, rfl, ht rfl, hd _ rfl, fun js => ⟨rfl, Or.inr (⟨⟨js, rfl⟩, trivial⟩)⟩⟩)
  · rintro x s ac w ⟨rfl, hq⟩ hat
    rcases hq with ⟨⟨js, rfl⟩, hcond⟩ | ⟨⟨js, rfl⟩, hcond⟩
    · have h1 := at_can hat
      refine ⟨_, h1, [.raw (vs 0), .raw (vs 1), .raw (vs 2), .raw (vs 3), .raw (vs 4), .raw (vs 5), .raw (vs 6), .raw (vs 7), .raw (vs 8), .raw (vs 9), .ptr 4 0, .nilp, .ptr 5 0, .raw vq, .raw (vs 14), .raw (vs 15), .raw (vs 16), .raw (vs 17), .raw (vs 18), .raw (vs 19)], _, [(4, 30), (5, 31)], _, WG s0 s1 (.pop 3 _ _ h _) s3, ?_, rfl, rfl, rfl, fun n => ((WG_2 _ s0 s1 _ s3 n)).trans rfl, rfl, s0, s1, (.pop 3 _ _ h _), s3, _, _, _, _, ⟨js, rfl⟩, rfl, rfl, by show 4 ≤ 6; omega, ?_, ⟨(WS.ok_mono (Nat.le_succ _) ho.1), (WS.ok_mono (Nat.le_succ _) ho.2.1), ⟨by omega, HS.ok_mono (Nat.le_succ _) hK⟩, (WS.ok_mono (Nat.le_succ _) ho.2.2)⟩, by omega, by omega, by omega, by omega⟩
      · rfl
      · simp [hw]
    · have h1 := at_can hat
      refine ⟨_, h1, [.raw (vs 0), .raw (vs 1), .raw (vs 2), .raw (vs 3), .raw (vs 4), .raw (vs 5), .raw (vs 6), .raw (vs 7), .raw (vs 8), .raw (vs 9), .ptr 4 0, .nilp, .ptr 5 0, .raw vq, .raw (vs 14), .raw (vs 15), .raw (vs 16), .raw (vs 17), .raw (vs 18), .raw (vs 19)], _, [(4, 30), (5, 31)], _, WG s0 s1 (.pop 3 _ _ h _) s3, ?_, rfl, rfl, rfl, fun n => ((WG_2 _ s0 s1 _ s3 n)).trans rfl, rfl, s0, s1, (.pop 3 _ _ h _), s3, _, _, _, _, ⟨js, rfl⟩, rfl, rfl, by show 4 ≤ 6; omega, ?_, ⟨(WS.ok_mono (Nat.le_succ _) ho.1), (WS.ok_mono (Nat.le_succ _) ho.2.1), ⟨by omega, HS.ok_mono (Nat.le_succ _) hK⟩, (WS.ok_mono (Nat.le_succ _) ho.2.2)⟩, by omega, by omega, by omega, by omega⟩
      · rfl
      · simp [hw]
theorem w2p3n (K : Nat) (w : Int) (l : Int) (vq : Value) (kk : Int) (s0 s1 s3 : WS) (hkk : kk.tmod 4 = 2)  (ho : okO K s0 s1 s3) (hK6 : K ≤ 1000000) : TriX MS (listX Try.prog four) E ⟨pre n0 np false i ++ [.v (.int .i64 (.sym kk))] ++ junk js 58 11, base ps ws c c2 t (.abs (.grp (WG s0 s1 (.pop 3 w l (.nil) vq) s3))), 4, []⟩ (Mid n0 np i ps ws c c2 K) := by
  refine tri_group (mono_list _) 3 (WG s0 s1 (.pop 3 w l (.nil) vq) s3) [(30, some (popO 3 w l)), (31, some (rpopO 3 w l))] (wo 10 s0 ++ (wo 20 s1 ++ wo 40 s3)) M5q2 (WL s0 s1 (.pop 3 w l (.nil) vq) s3) _ 75 [(4, some (ofU (popO 3 w l))), (5, some (ofU (rpopO 3 w l)))] (Z3 30) rfl (fun n => (WG_2 _ s0 s1 (.pop 3 w l (.nil) vq) s3 n)) (by simp [Z3, Nat.beq]) (by simp) rfl rfl (hZL5q2 _ s0 s1 s3) (hZF5q2 (.nil) s0 s1 s3) rfl rfl (by rw [hT]; exact Nat.le_of_ble_eq_true rfl) (hD 3 (by decide)) ?_
  intro vs E1 e1 e2 e3
  show TriX MS (listX Try.prog four) E1 ⟨pre n0 np false i ++ [.v (.int .i64 (.sym kk))] ++ junk js 58 11, [(4, some (ofU (popO 3 w l))), (5, some (ofU (rpopO 3 w l)))] ++ base ps ws c c2 t (.cells [.raw (vs 0), .raw (vs 1), .raw (vs 2), .raw (vs 3), .raw (vs 4), .raw (vs 5), .raw (vs 6), .raw (vs 7), .raw (vs 8), .raw (vs 9), .ptr 4 0, .nilp, .ptr 5 0, .raw vq, .nils, .raw (vs 15), .raw (vs 16), .raw (vs 17), .raw (vs 18), .raw (vs 19)] 75), 6, []⟩ _
  have ht : ∀ {k : Nat}, Nat.ble k 40 = true → k ≤ E1.top := fun h => by rw [e2, hT]; exact Nat.le_of_ble_eq_true h
  have hd : ∀ (l : List Nat), l.all (Nat.ble 1) = true → ∀ b, b ∈ l → E1.D b := fun l hl b hb => e3 b (hD b (Nat.le_of_ble_eq_true (List.all_eq_true.1 hl b hb)))
  refine TriX.postE (mono_list _) (Q := fun x s => x = .normal ∧ (((∃ js, s = ⟨(q2p3n_l0 n0 i c c2 t np ps ws vs w l vq).pre ++ junk js 59 10, (q2p3n_l0 n0 i c c2 t np ps ws vs w l vq).hp, (q2p3n_l0 n0 i c c2 t np ps ws vs w l vq).nid, []⟩) ∧ True) ∨ ((∃ js, s = ⟨(q2p3n_l1 n0 i c c2 t np ps ws vs w l vq).pre ++ junk js 59 10, (q2p3n_l1 n0 i c c2 t np ps ws vs w l vq).hp, (q2p3n_l1 n0 i c c2 t np ps ws vs w l vq).nid, []⟩) ∧ True) ∨ ((∃ js, s = ⟨(q2p3n_l2 n0 i c c2 t np ps ws vs w l vq).pre ++ junk js 59 10, (q2p3n_l2 n0 i c c2 t np ps ws vs w l vq).hp, (q2p3n_l2 n0 i c c2 t np ps ws vs w l vq).nid, []⟩) ∧ True))) (TriX.listR (m := 10) (n := 59) codeOK (q2p3n n0 i c c2 t np ps ws vs js kk w l vq hw hc hc2 hkk) ?_) ?_
  · exact Tr.all_ite (fun _ => Tr.all_ite (fun _ => Tr.all_ok ⟨rfl, rfl, ht rfl, hd _ rfl, fun js => ⟨rfl, Or.inl ⟨⟨js, rfl⟩, trivial⟩⟩⟩) (fun _ => Tr.all_ok ⟨rfl, rfl, ht rfl, hd _ rfl, fun js => ⟨rfl, Or.inr (Or.inl ⟨⟨js, rfl⟩, trivial⟩)⟩⟩)) (fun _ => Tr.all_ok ⟨rfl, rfl, ht rfl, hd _ rfl, fun js => ⟨rfl, Or.inr (Or.inr (⟨⟨js, rfl⟩, trivial⟩))⟩⟩)
  · rintro x s ac w ⟨rfl, hq⟩ hat
    rcases hq with ⟨⟨js, rfl⟩, hcond⟩ | ⟨⟨js, rfl⟩, hcond⟩ | ⟨⟨js, rfl⟩, hcond⟩
    · have h1 := at_can hat
      obtain ⟨us, h2⟩ := at_forget 3 [false, false, false, false, false, false, false, false, false, false, false, false, true, false, false, false, false, false, false, false] rfl rfl h1
      refine ⟨_, h2, [.raw (vs 0), .raw (vs 1), .raw (vs 2), .raw (vs 3), .raw (vs 4), .raw (vs 5), .raw (vs 6), .raw (vs 7), .raw (vs 8), .raw (vs 9), .nilp, .nilp, .raw (us 12), .raw vq, .ts 7 (.lit 0) (.sym _) none, .raw (vs 15), .raw (vs 16), .raw (vs 17), .raw (vs 18), .raw (vs 19)], _, [(7, 32)], _, WG s0 s1 (.idle (.tab _) (us 12) _) s3, ?_, rfl, rfl, rfl, fun n => ((WG_2 _ s0 s1 _ s3 n)).trans rfl, rfl, s0, s1, (.idle (.tab _) (us 12) _), s3, _, _, _, _, ⟨js, rfl⟩, rfl, rfl, by show 4 ≤ 8; omega, ?_, ⟨(WS.ok_mono (Nat.le_succ _) ho.1), (WS.ok_mono (Nat.le_succ _) ho.2.1), (by first | exact ⟨hr.1, by omega⟩ | (constructor <;> simp <;> omega)), (WS.ok_mono (Nat.le_succ _) ho.2.2)⟩, by omega, by omega, by omega, by omega⟩
      · exact congrArg (fun m => some (VObj.cells [.raw (vs 0), .raw (vs 1), .raw (vs 2), .raw (vs 3), .raw (vs 4), .raw (vs 5), .raw (vs 6), .raw (vs 7), .raw (vs 8), .raw (vs 9), .nilp, .nilp, .raw (us 12), .raw vq, .ts 7 (.lit 0) (.sym m) none, .raw (vs 15), .raw (vs 16), .raw (vs 17), .raw (vs 18), .raw (vs 19)] 75)) (by first | rfl | (simp [SN.val]; done) | (simp [SN.val] <;> omega))
      · simp [hw]
    · have h1 := at_can hat
      obtain ⟨us, h2⟩ := at_forget 3 [false, false, false, false, false, false, false, false, false, false, false, false, true, false, false, false, false, false, false, false] rfl rfl h1
      refine ⟨_, h2, [.raw (vs 0), .raw (vs 1), .raw (vs 2), .raw (vs 3), .raw (vs 4), .raw (vs 5), .raw (vs 6), .raw (vs 7), .raw (vs 8), .raw (vs 9), .nilp, .nilp, .raw (us 12), .raw vq, .nils, .raw (vs 15), .raw (vs 16), .raw (vs 17), .raw (vs 18), .raw (vs 19)], _, [], _, WG s0 s1 (.idle .nil (us 12) _) s3, ?_, rfl, rfl, rfl, fun n => ((WG_2 _ s0 s1 _ s3 n)).trans rfl, rfl, s0, s1, (.idle .nil (us 12) _), s3, _, _, _, _, ⟨js, rfl⟩, rfl, rfl, by show 4 ≤ 6; omega, ?_, ⟨(WS.ok_mono (Nat.le_succ _) ho.1), (WS.ok_mono (Nat.le_succ _) ho.2.1), trivial, (WS.ok_mono (Nat.le_succ _) ho.2.2)⟩, by omega, by omega, by omega, by omega⟩
      · rfl
      · simp [hw]
    · have h1 := at_can hat
      refine ⟨_, h1, [.raw (vs 0), .raw (vs 1), .raw (vs 2), .raw (vs 3), .raw (vs 4), .raw (vs 5), .raw (vs 6), .raw (vs 7), .raw (vs 8), .raw (vs 9), .ptr 4 0, .nilp, .ptr 5 0, .raw vq, .nils, .raw (vs 15), .raw (vs 16), .raw (vs 17), .raw (vs 18), .raw (vs 19)], _, [(4, 30), (5, 31)], _, WG s0 s1 (.pop 1 _ _ .nil _) s3, ?_, rfl, rfl, rfl, fun n => ((WG_2 _ s0 s1 _ s3 n)).trans rfl, rfl, s0, s1, (.pop 1 _ _ .nil _), s3, _, _, _, _, ⟨js, rfl⟩, rfl, rfl, by show 4 ≤ 6; omega, ?_, ⟨(WS.ok_mono (Nat.le_succ _) ho.1), (WS.ok_mono (Nat.le_succ _) ho.2.1), ⟨by omega, trivial⟩, (WS.ok_mono (Nat.le_succ _) ho.2.2)⟩, by omega, by omega, by omega, by omega⟩
      · rfl
      · simp [hw]
theorem w2p3e (K : Nat) (w : Int) (l : Int) (vq : Value) (kk : Int) (s0 s1 s3 : WS) (hkk : kk.tmod 4 = 2)  (ho : okO K s0 s1 s3) (hK6 : K ≤ 1000000) : TriX MS (listX Try.prog four) E ⟨pre n0 np false i ++ [.v (.int .i64 (.sym kk))] ++ junk js 58 11, base ps ws c c2 t (.abs (.grp (WG s0 s1 (.pop 3 w l (.es) vq) s3))), 4, []⟩ (Mid n0 np i ps ws c c2 K) := by
  refine tri_group (mono_list _) 3 (WG s0 s1 (.pop 3 w l (.es) vq) s3) [(30, some (popO 3 w l)), (31, some (rpopO 3 w l))] (wo 10 s0 ++ (wo 20 s1 ++ wo 40 s3)) M5q2 (WL s0 s1 (.pop 3 w l (.es) vq) s3) _ 75 [(4, some (ofU (popO 3 w l))), (5, some (ofU (rpopO 3 w l)))] (Z3 30) rfl (fun n => (WG_2 _ s0 s1 (.pop 3 w l (.es) vq) s3 n)) (by simp [Z3, Nat.beq]) (by simp) rfl rfl (hZL5q2 _ s0 s1 s3) (hZF5q2 (.es) s0 s1 s3) rfl rfl (by rw [hT]; exact Nat.le_of_ble_eq_true rfl) (hD 3 (by decide)) ?_
  intro vs E1 e1 e2 e3
  show TriX MS (listX Try.prog four) E1 ⟨pre n0 np false i ++ [.v (.int .i64 (.sym kk))] ++ junk js 58 11, [(4, some (ofU (popO 3 w l))), (5, some (ofU (rpopO 3 w l)))] ++ base ps ws c c2 t (.cells [.raw (vs 0), .raw (vs 1), .raw (vs 2), .raw (vs 3), .raw (vs 4), .raw (vs 5), .raw (vs 6), .raw (vs 7), .raw (vs 8), .raw (vs 9), .ptr 4 0, .nilp, .ptr 5 0, .raw vq, .es true, .raw (vs 15), .raw (vs 16), .raw (vs 17), .raw (vs 18), .raw (vs 19)] 75), 6, []⟩ _
  have ht : ∀ {k : Nat}, Nat.ble k 40 = true → k ≤ E1.top := fun h => by rw [e2, hT]; exact Nat.le_of_ble_eq_true h
  have hd : ∀ (l : List Nat), l.all (Nat.ble 1) = true → ∀ b, b ∈ l → E1.D b := fun l hl b hb => e3 b (hD b (Nat.le_of_ble_eq_true (List.all_eq_true.1 hl b hb)))
  refine TriX.postE (mono_list _) (Q := fun x s => x = .normal ∧ (((∃ js, s = ⟨(q2p3e_l0 n0 i c c2 t np ps ws vs w l vq).pre ++ junk js 59 10, (q2p3e_l0 n0 i c c2 t np ps ws vs w l vq).hp, (q2p3e_l0 n0 i c c2 t np ps ws vs w l vq).nid, []⟩) ∧ True) ∨ ((∃ js, s = ⟨(q2p3e_l1 n0 i c c2 t np ps ws vs w l vq).pre ++ junk js 59 10, (q2p3e_l1 n0 i c c2 t np ps ws vs w l vq).hp, (q2p3e_l1 n0 i c c2 t np ps ws vs w l vq).nid, []⟩) ∧ True) ∨ ((∃ js, s = ⟨(q2p3e_l2 n0 i c c2 t np ps ws vs w l vq).pre ++ junk js 59 10, (q2p3e_l2 n0 i c c2 t np ps ws vs w l vq).hp, (q2p3e_l2 n0 i c c2 t np ps ws vs w l vq).nid, []⟩) ∧ True))) (TriX.listR (m := 10) (n := 59) codeOK (q2p3e n0 i c c2 t np ps ws vs js kk w l vq hw hc hc2 hkk) ?_) ?_
  · exact Tr.all_ite (fun _ => Tr.all_ite (fun _ => Tr.all_ok ⟨rfl, rfl, ht rfl, hd _ rfl, fun js => ⟨rfl, Or.inl ⟨⟨js, rfl⟩, trivial⟩⟩⟩) (fun _ => Tr.all_ok ⟨rfl, rfl, ht rfl, hd _ rfl, fun js => ⟨rfl, Or.inr (Or.inl ⟨⟨js, rfl⟩, trivial⟩)⟩⟩)) (fun _ => Tr.all_ok ⟨rfl, rfl, ht rfl, hd _ rfl, fun js => ⟨rfl, Or.inr (Or.inr (⟨⟨js, rfl⟩, trivial⟩))⟩⟩)
  · rintro x s ac w ⟨rfl, hq⟩ hat
    rcases hq with ⟨⟨js, rfl⟩, hcond⟩ | ⟨⟨js, rfl⟩, hcond⟩ | ⟨⟨js, rfl⟩, hcond⟩
    · have h1 := at_can hat
      obtain ⟨us, h2⟩ := at_forget 3 [false, false, false, false, false, false, false, false, false, false, false, false, true, false, false, false, false, false, false, false] rfl rfl h1
      refine ⟨_, h2, [.raw (vs 0), .raw (vs 1), .raw (vs 2), .raw (vs 3), .raw (vs 4), .raw (vs 5), .raw (vs 6), .raw (vs 7), .raw (vs 8), .raw (vs 9), .nilp, .nilp, .raw (us 12), .raw vq, .ts 7 (.lit 0) (.sym _) none, .raw (vs 15), .raw (vs 16), .raw (vs 17), .raw (vs 18), .raw (vs 19)], _, [(7, 32)], _, WG s0 s1 (.idle (.tab _) (us 12) _) s3, ?_, rfl, rfl, rfl, fun n => ((WG_2 _ s0 s1 _ s3 n)).trans rfl, rfl, s0, s1, (.idle (.tab _) (us 12) _), s3, _, _, _, _, ⟨js, rfl⟩, rfl, rfl, by show 4 ≤ 8; omega, ?_, ⟨(WS.ok_mono (Nat.le_succ _) ho.1), (WS.ok_mono (Nat.le_succ _) ho.2.1), (by first | exact ⟨hr.1, by omega⟩ | (constructor <;> simp <;> omega)), (WS.ok_mono (Nat.le_succ _) ho.2.2)⟩, by omega, by omega, by omega, by omega⟩
      · exact congrArg (fun m => some (VObj.cells [.raw (vs 0), .raw (vs 1), .raw (vs 2), .raw (vs 3), .raw (vs 4), .raw (vs 5), .raw (vs 6), .raw (vs 7), .raw (vs 8), .raw (vs 9), .nilp, .nilp, .raw (us 12), .raw vq, .ts 7 (.lit 0) (.sym m) none, .raw (vs 15), .raw (vs 16), .raw (vs 17), .raw (vs 18), .raw (vs 19)] 75)) (by first | rfl | (simp [SN.val]; done) | (simp [SN.val] <;> omega))
      · simp [hw]
    · have h1 := at_can hat
      obtain ⟨us, h2⟩ := at_forget 3 [false, false, false, false, false, false, false, false, false, false, false, false, true, false, false, false, false, false, false, false] rfl rfl h1
      refine ⟨_, h2, [.raw (vs 0), .raw (vs 1), .raw (vs 2), .raw (vs 3), .raw (vs 4), .raw (vs 5), .raw (vs 6), .raw (vs 7), .raw (vs 8), .raw (vs 9), .nilp, .nilp, .raw (us 12), .raw vq, .es true, .raw (vs 15), .raw (vs 16), .raw (vs 17), .raw (vs 18), .raw (vs 19)], _, [], _, WG s0 s1 (.idle .es (us 12) _) s3, ?_, rfl, rfl, rfl, fun n => ((WG_2 _ s0 s1 _ s3 n)).trans rfl, rfl, s0, s1, (.idle .es (us 12) _), s3, _, _, _, _, ⟨js, rfl⟩, rfl, rfl, by show 4 ≤ 6; omega, ?_, ⟨(WS.ok_mono (Nat.le_succ _) ho.1), (WS.ok_mono (Nat.le_succ _) ho.2.1), trivial, (WS.ok_mono (Nat.le_succ _) ho.2.2)⟩, by omega, by omega, by omega, by omega⟩
      · rfl
      · simp [hw]
    · have h1 := at_can hat
      refine ⟨_, h1, [.raw (vs 0), .raw (vs 1), .raw (vs 2), .raw (vs 3), .raw (vs 4), .raw (vs 5), .raw (vs 6), .raw (vs 7), .raw (vs 8), .raw (vs 9), .ptr 4 0, .nilp, .ptr 5 0, .raw vq, .es true, .raw (vs 15), .raw (vs 16), .raw (vs 17), .raw (vs 18), .raw (vs 19)], _, [(4, 30), (5, 31)], _, WG s0 s1 (.pop 1 _ _ .es _) s3, ?_, rfl, rfl, rfl, fun n => ((WG_2 _ s0 s1 _ s3 n)).trans rfl, rfl, s0, s1, (.pop 1 _ _ .es _), s3, _, _, _, _, ⟨js, rfl⟩, rfl, rfl, by show 4 ≤ 6; omega, ?_, ⟨(WS.ok_mono (Nat.le_succ _) ho.1), (WS.ok_mono (Nat.le_succ _) ho.2.1), ⟨by omega, trivial⟩, (WS.ok_mono (Nat.le_succ _) ho.2.2)⟩, by omega, by omega, by omega, by omega⟩
      · rfl
      · simp [hw]
theorem w2p3t (K : Nat) (w : Int) (l : Int) (vq : Value) (rows : List (List Int)) (kk : Int) (s0 s1 s3 : WS) (hkk : kk.tmod 4 = 2) (hr : 0 < rows.length ∧ rows.length ≤ 1000000) (hKr : rows.length ≤ K)  (ho : okO K s0 s1 s3) (hK6 : K ≤ 1000000) : TriX MS (listX Try.prog four) E ⟨pre n0 np false i ++ [.v (.int .i64 (.sym kk))] ++ junk js 58 11, base ps ws c c2 t (.abs (.grp (WG s0 s1 (.pop 3 w l (.tab rows) vq) s3))), 4, []⟩ (Mid n0 np i ps ws c c2 K) := by
  refine tri_group (mono_list _) 3 (WG s0 s1 (.pop 3 w l (.tab rows) vq) s3) [(30, some (popO 3 w l)), (31, some (rpopO 3 w l)), (32, some (tabO rows))] (wo 10 s0 ++ (wo 20 s1 ++ wo 40 s3)) M5q2 (WL s0 s1 (.pop 3 w l (.tab rows) vq) s3) _ 75 [(4, some (ofU (popO 3 w l))), (5, some (ofU (rpopO 3 w l))), (6, some (.tab [.int .i64] rows 3))] (Z3 30) rfl (fun n => (WG_2 _ s0 s1 (.pop 3 w l (.tab rows) vq) s3 n)) (by simp [Z3, Nat.beq]) (by simp) rfl rfl (hZL5q2 _ s0 s1 s3) (hZF5q2 (.tab rows) s0 s1 s3) rfl rfl (by rw [hT]; exact Nat.le_of_ble_eq_true rfl) (hD 3 (by decide)) ?_
  intro vs E1 e1 e2 e3
  show TriX MS (listX Try.prog four) E1 ⟨pre n0 np false i ++ [.v (.int .i64 (.sym kk))] ++ junk js 58 11, [(4, some (ofU (popO 3 w l))), (5, some (ofU (rpopO 3 w l))), (6, some (.tab [.int .i64] rows 3))] ++ base ps ws c c2 t (.cells [.raw (vs 0), .raw (vs 1), .raw (vs 2), .raw (vs 3), .raw (vs 4), .raw (vs 5), .raw (vs 6), .raw (vs 7), .raw (vs 8), .raw (vs 9), .ptr 4 0, .nilp, .ptr 5 0, .raw vq, .ts 6 (.lit 0) (.sym rows.length) none, .raw (vs 15), .raw (vs 16), .raw (vs 17), .raw (vs 18), .raw (vs 19)] 75), 7, []⟩ _
  have ht : ∀ {k : Nat}, Nat.ble k 40 = true → k ≤ E1.top := fun h => by rw [e2, hT]; exact Nat.le_of_ble_eq_true h
  have hd : ∀ (l : List Nat), l.all (Nat.ble 1) = true → ∀ b, b ∈ l → E1.D b := fun l hl b hb => e3 b (hD b (Nat.le_of_ble_eq_true (List.all_eq_true.1 hl b hb)))
  refine TriX.postE (mono_list _) (Q := fun x s => x = .normal ∧ (((∃ js, s = ⟨(q2p3t_l0 n0 i c c2 t np ps ws vs w l vq rows).pre ++ junk js 59 10, (q2p3t_l0 n0 i c c2 t np ps ws vs w l vq rows).hp, (q2p3t_l0 n0 i c c2 t np ps ws vs w l vq rows).nid, []⟩) ∧ True) ∨ ((∃ js, s = ⟨(q2p3t_l1 n0 i c c2 t np ps ws vs w l vq rows).pre ++ junk js 59 10, (q2p3t_l1 n0 i c c2 t np ps ws vs w l vq rows).hp, (q2p3t_l1 n0 i c c2 t np ps ws vs w l vq rows).nid, []⟩) ∧ True) ∨ ((∃ js, s = ⟨(q2p3t_l2 n0 i c c2 t np ps ws vs w l vq rows).pre ++ junk js 59 10, (q2p3t_l2 n0 i c c2 t np ps ws vs w l vq rows).hp, (q2p3t_l2 n0 i c c2 t np ps ws vs w l vq rows).nid, []⟩) ∧ True))) (TriX.listR (m := 10) (n := 59) codeOK (q2p3t n0 i c c2 t np ps ws vs js kk w l vq rows hw hc hc2 hkk hr) ?_) ?_
  · exact Tr.all_ite (fun _ => Tr.all_ite (fun _ => Tr.all_ok ⟨rfl, rfl, ht rfl, hd _ rfl, fun js => ⟨rfl, Or.inl ⟨⟨js, rfl⟩, trivial⟩⟩⟩) (fun _ => Tr.all_ok ⟨rfl, rfl, ht rfl, hd _ rfl, fun js => ⟨rfl, Or.inr (Or.inl ⟨⟨js, rfl⟩, trivial⟩)⟩⟩)) (fun _ => Tr.all_ok ⟨rfl, rfl, ht rfl, hd _ rfl, fun js => ⟨rfl, Or.inr (Or.inr (⟨⟨js, rfl⟩, trivial⟩))⟩⟩)
  · rintro x s ac w ⟨rfl, hq⟩ hat
    rcases hq with ⟨⟨js, rfl⟩, hcond⟩ | ⟨⟨js, rfl⟩, hcond⟩ | ⟨⟨js, rfl⟩, hcond⟩
    · have h1 := at_can hat
      obtain ⟨us, h2⟩ := at_forget 3 [false, false, false, false, false, false, false, false, false, false, false, false, true, false, false, false, false, false, false, false] rfl rfl h1
      refine ⟨_, h2, [.raw (vs 0), .raw (vs 1), .raw (vs 2), .raw (vs 3), .raw (vs 4), .raw (vs 5), .raw (vs 6), .raw (vs 7), .raw (vs 8), .raw (vs 9), .nilp, .nilp, .raw (us 12), .raw vq, .ts 8 (.lit 0) (.sym _) none, .raw (vs 15), .raw (vs 16), .raw (vs 17), .raw (vs 18), .raw (vs 19)], _, [(8, 32)], _, WG s0 s1 (.idle (.tab _) (us 12) _) s3, ?_, rfl, rfl, rfl, fun n => ((WG_2 _ s0 s1 _ s3 n)).trans rfl, rfl, s0, s1, (.idle (.tab _) (us 12) _), s3, _, _, _, _, ⟨js, rfl⟩, rfl, rfl, by show 4 ≤ 9; omega, ?_, ⟨(WS.ok_mono (Nat.le_succ _) ho.1), (WS.ok_mono (Nat.le_succ _) ho.2.1), (by first | exact ⟨hr.1, by omega⟩ | (constructor <;> simp <;> omega)), (WS.ok_mono (Nat.le_succ _) ho.2.2)⟩, by omega, by omega, by omega, by omega⟩
      · exact congrArg (fun m => some (VObj.cells [.raw (vs 0), .raw (vs 1), .raw (vs 2), .raw (vs 3), .raw (vs 4), .raw (vs 5), .raw (vs 6), .raw (vs 7), .raw (vs 8), .raw (vs 9), .nilp, .nilp, .raw (us 12), .raw vq, .ts 8 (.lit 0) (.sym m) none, .raw (vs 15), .raw (vs 16), .raw (vs 17), .raw (vs 18), .raw (vs 19)] 75)) (by first | rfl | (simp [SN.val]; done) | (simp [SN.val] <;> omega))
      · simp [hw]
    · have h1 := at_can hat
      obtain ⟨us, h2⟩ := at_forget 3 [false, false, false, false, false, false, false, false, false, false, false, false, true, false, false, false, false, false, false, false] rfl rfl h1
      refine ⟨_, h2, [.raw (vs 0), .raw (vs 1), .raw (vs 2), .raw (vs 3), .raw (vs 4), .raw (vs 5), .raw (vs 6), .raw (vs 7), .raw (vs 8), .raw (vs 9), .nilp, .nilp, .raw (us 12), .raw vq, .ts 6 (.lit 0) (.sym _) none, .raw (vs 15), .raw (vs 16), .raw (vs 17), .raw (vs 18), .raw (vs 19)], _, [(6, 32)], _, WG s0 s1 (.idle (.tab _) (us 12) _) s3, ?_, rfl, rfl, rfl, fun n => ((WG_2 _ s0 s1 _ s3 n)).trans rfl, rfl, s0, s1, (.idle (.tab _) (us 12) _), s3, _, _, _, _, ⟨js, rfl⟩, rfl, rfl, by show 4 ≤ 7; omega, ?_, ⟨(WS.ok_mono (Nat.le_succ _) ho.1), (WS.ok_mono (Nat.le_succ _) ho.2.1), (by first | exact ⟨hr.1, by omega⟩ | (constructor <;> simp <;> omega)), (WS.ok_mono (Nat.le_succ _) ho.2.2)⟩, by omega, by omega, by omega, by omega⟩
      · exact congrArg (fun m => some (VObj.cells [.raw (vs 0), .raw (vs 1), .raw (vs 2), .raw (vs 3), .raw (vs 4), .raw (vs 5), .raw (vs 6), .raw (vs 7), .raw (vs 8), .raw (vs 9), .nilp, .nilp, .raw (us 12), .raw vq, .ts 6 (.lit 0) (.sym m) none, .raw (vs 15), .raw (vs 16), .raw (vs 17), .raw (vs 18), .raw (vs 19)] 75)) (by first | rfl | (simp [SN.val]; done) | (simp [SN.val] <;> omega))
      · simp [hw]
    · have h1 := at_can hat
      refine ⟨_, h1, [.raw (vs 0), .raw (vs 1), .raw (vs 2), .raw (vs 3), .raw (vs 4), .raw (vs 5), .raw (vs 6), .raw (vs 7), .raw (vs 8), .raw (vs 9), .ptr 4 0, .nilp, .ptr 5 0, .raw vq, .ts 6 (.lit 0) (.sym _) none, .raw (vs 15), .raw (vs 16), .raw (vs 17), .raw (vs 18), .raw (vs 19)], _, [(4, 30), (5, 31), (6, 32)], _, WG s0 s1 (.pop 1 _ _ (.tab _) _) s3, ?_, rfl, rfl, rfl, fun n => ((WG_2 _ s0 s1 _ s3 n)).trans rfl, rfl, s0, s1, (.pop 1 _ _ (.tab _) _), s3, _, _, _, _, ⟨js, rfl⟩, rfl, rfl, by show 4 ≤ 7; omega, ?_, ⟨(WS.ok_mono (Nat.le_succ _) ho.1), (WS.ok_mono (Nat.le_succ _) ho.2.1), ⟨by omega, (by first | exact ⟨hr.1, by omega⟩ | (constructor <;> simp <;> omega))⟩, (WS.ok_mono (Nat.le_succ _) ho.2.2)⟩, by omega, by omega, by omega, by omega⟩
      · exact congrArg (fun m => some (VObj.cells [.raw (vs 0), .raw (vs 1), .raw (vs 2), .raw (vs 3), .raw (vs 4), .raw (vs 5), .raw (vs 6), .raw (vs 7), .raw (vs 8), .raw (vs 9), .ptr 4 0, .nilp, .ptr 5 0, .raw vq, .ts 6 (.lit 0) (.sym m) none, .raw (vs 15), .raw (vs 16), .raw (vs 17), .raw (vs 18), .raw (vs 19)] 75)) (by first | rfl | (simp [SN.val]; done) | (simp [SN.val] <;> omega))
      · simp [hw]
theorem w2u1 (K : Nat) (a : Int) (w : Int) (vp : Value) (kk : Int) (h : HS) (s0 s1 s3 : WS) (hkk : kk.tmod 4 = 2) (hK : h.ok K) (ho : okO K s0 s1 s3) (hK6 : K ≤ 1000000) : TriX MS (listX Try.prog four) E ⟨pre n0 np false i ++ [.v (.int .i64 (.sym kk))] ++ junk js 58 11, base ps ws c c2 t (.abs (.grp (WG s0 s1 (.push 1 a w h vp) s3))), 4, []⟩ (Mid n0 np i ps ws c c2 K) := by
  refine tri_group (mono_list _) 3 (WG s0 s1 (.push 1 a w h vp) s3) [(30, some (pushO 1 a w)), (31, some (rpushO 1 a w))] (hobj 30 h ++ (wo 10 s0 ++ (wo 20 s1 ++ wo 40 s3))) M4q2 (WL s0 s1 (.push 1 a w h vp) s3) _ 75 [(4, some (ofU (pushO 1 a w))), (5, some (ofU (rpushO 1 a w)))] (Z2 30) rfl (fun n => (WG_2 _ s0 s1 (.push 1 a w h vp) s3 n)) (by simp [Z2, Nat.beq]) (by simp) rfl rfl (hZL4q2 _ s0 s1 s3) (hZF4q2 h s0 s1 s3) rfl rfl (by rw [hT]; exact Nat.le_of_ble_eq_true rfl) (hD 3 (by decide)) ?_
  intro vs E1 e1 e2 e3
  show TriX MS (listX Try.prog four) E1 ⟨pre n0 np false i ++ [.v (.int .i64 (.sym kk))] ++ junk js 58 11, [(4, some (ofU (pushO 1 a w))), (5, some (ofU (rpushO 1 a w)))] ++ base ps ws c c2 t (.cells [.raw (vs 0), .raw (vs 1), .raw (vs 2), .raw (vs 3), .raw (vs 4), .raw (vs 5), .raw (vs 6), .raw (vs 7), .raw (vs 8), .raw (vs 9), .nilp, .ptr 4 0, .raw vp, .ptr 5 0, .raw (vs 14), .raw (vs 15), .raw (vs 16), .raw (vs 17), .raw (vs 18), .raw (vs 19)] 75), 6, []⟩ _
  have ht : ∀ {k : Nat}, Nat.ble k 40 = true → k ≤ E1.top := fun h => by rw [e2, hT]; exact Nat.le_of_ble_eq_true h
  have hd : ∀ (l : List Nat), l.all (Nat.ble 1) = true → ∀ b, b ∈ l → E1.D b := fun l hl b hb => e3 b (hD b (Nat.le_of_ble_eq_true (List.all_eq_true.1 hl b hb)))
  refine TriX.postE (mono_list _) (Q := fun x s => x = .normal ∧ (((∃ js, s = ⟨(q2u1_l0 n0 i c c2 t np ps ws vs a vp).pre ++ junk js 59 10, (q2u1_l0 n0 i c c2 t np ps ws vs a vp).hp, (q2u1_l0 n0 i c c2 t np ps ws vs a vp).nid, []⟩) ∧ True))) (TriX.listR (m := 10) (n := 59) codeOK (q2u1 n0 i c c2 t np ps ws vs js kk a w vp hw hc hc2 hkk) ?_) ?_
  · exact Tr.all_ok ⟨rfl, rfl, ht rfl, hd _ rfl, fun js => ⟨rfl, ⟨⟨js, rfl⟩, trivial⟩⟩⟩
  · rintro x s ac w ⟨rfl, hq⟩ hat
    rcases hq with ⟨⟨js, rfl⟩, hcond⟩
    · have h1 := at_can hat
      refine ⟨_, h1, [.raw (vs 0), .raw (vs 1), .raw (vs 2), .raw (vs 3), .raw (vs 4), .raw (vs 5), .raw (vs 6), .raw (vs 7), .raw (vs 8), .raw (vs 9), .nilp, .ptr 4 0, .raw vp, .ptr 5 0, .raw (vs 14), .raw (vs 15), .raw (vs 16), .raw (vs 17), .raw (vs 18), .raw (vs 19)], _, [(4, 30), (5, 31)], _, WG s0 s1 (.push 2 _ _ h _) s3, ?_, rfl, rfl, rfl, fun n => ((WG_2 _ s0 s1 _ s3 n)).trans rfl, rfl, s0, s1, (.push 2 _ _ h _), s3, _, _, _, _, ⟨js, rfl⟩, rfl, rfl, by show 4 ≤ 6; omega, ?_, ⟨(WS.ok_mono (Nat.le_succ _) ho.1), (WS.ok_mono (Nat.le_succ _) ho.2.1), ⟨by omega, HS.ok_mono (Nat.le_succ _) hK⟩, (WS.ok_mono (Nat.le_succ _) ho.2.2)⟩, by omega, by omega, by omega, by omega⟩
      · rfl
      · simp [hw]
theorem w2u2 (K : Nat) (a : Int) (w : Int) (vp : Value) (kk : Int) (h : HS) (s0 s1 s3 : WS) (hkk : kk.tmod 4 = 2) (hK : h.ok K) (ho : okO K s0 s1 s3) (hK6 : K ≤ 1000000) : TriX MS (listX Try.prog four) E ⟨pre n0 np false i ++ [.v (.int .i64 (.sym kk))] ++ junk js 58 11, base ps ws c c2 t (.abs (.grp (WG s0 s1 (.push 2 a w h vp) s3))), 4, []⟩ (Mid n0 np i ps ws c c2 K) := by
  refine tri_group (mono_list _) 3 (WG s0 s1 (.push 2 a w h vp) s3) [(30, some (pushO 2 a w)), (31, some (rpushO 2 a w))] (hobj 30 h ++ (wo 10 s0 ++ (wo 20 s1 ++ wo 40 s3))) M4q2 (WL s0 s1 (.push 2 a w h vp) s3) _ 75 [(4, some (ofU (pushO 2 a w))), (5, some (ofU (rpushO 2 a w)))] (Z2 30) rfl (fun n => (WG_2 _ s0 s1 (.push 2 a w h vp) s3 n)) (by simp [Z2, Nat.beq]) (by simp) rfl rfl (hZL4q2 _ s0 s1 s3) (hZF4q2 h s0 s1 s3) rfl rfl (by rw [hT]; exact Nat.le_of_ble_eq_true rfl) (hD 3 (by decide)) ?_
  intro vs E1 e1 e2 e3
  show TriX MS (listX Try.prog four) E1 ⟨pre n0 np false i ++ [.v (.int .i64 (.sym kk))] ++ junk js 58 11, [(4, some (ofU (pushO 2 a w))), (5, some (ofU (rpushO 2 a w)))] ++ base ps ws c c2 t (.cells [.raw (vs 0), .raw (vs 1), .raw (vs 2), .raw (vs 3), .raw (vs 4), .raw (vs 5), .raw (vs 6), .raw (vs 7), .raw (vs 8), .raw (vs 9), .nilp, .ptr 4 0, .raw vp, .ptr 5 0, .raw (vs 14), .raw (vs 15), .raw (vs 16), .raw (vs 17), .raw (vs 18), .raw (vs 19)] 75), 6, []⟩ _
  have ht : ∀ {k : Nat}, Nat.ble k 40 = true → k ≤ E1.top := fun h => by rw [e2, hT]; exact Nat.le_of_ble_eq_true h
  have hd : ∀ (l : List Nat), l.all (Nat.ble 1) = true → ∀ b, b ∈ l → E1.D b := fun l hl b hb => e3 b (hD b (Nat.le_of_ble_eq_true (List.all_eq_true.1 hl b hb)))
  refine TriX.postE (mono_list _) (Q := fun x s => x = .normal ∧ (((∃ js, s = ⟨(q2u2_l0 n0 i c c2 t np ps ws vs a w vp).pre ++ junk js 59 10, (q2u2_l0 n0 i c c2 t np ps ws vs a w vp).hp, (q2u2_l0 n0 i c c2 t np ps ws vs a w vp).nid, []⟩) ∧ True) ∨ ((∃ js, s = ⟨(q2u2_l1 n0 i c c2 t np ps ws vs a w vp).pre ++ junk js 59 10, (q2u2_l1 n0 i c c2 t np ps ws vs a w vp).hp, (q2u2_l1 n0 i c c2 t np ps ws vs a w vp).nid, []⟩) ∧ True))) (TriX.listR (m := 10) (n := 59) codeOK (q2u2 n0 i c c2 t np ps ws vs js kk a w vp hw hc hc2 hkk) ?_) ?_
  · exact Tr.all_ite (fun _ => Tr.all_ok ⟨rfl, rfl, ht rfl, hd _ rfl, fun js => ⟨rfl, Or.inl ⟨⟨js, rfl⟩, trivial⟩⟩⟩) (fun _ => Tr.all_ok ⟨rfl, rfl, ht rfl, hd _ rfl, fun js => ⟨rfl, Or.inr (⟨⟨js, rfl⟩, trivial⟩)⟩⟩)
  · rintro x s ac w ⟨rfl, hq⟩ hat
    rcases hq with ⟨⟨js, rfl⟩, hcond⟩ | ⟨⟨js, rfl⟩, hcond⟩
    · have h1 := at_can hat
      refine ⟨_, h1, [.raw (vs 0), .raw (vs 1), .raw (vs 2), .raw (vs 3), .raw (vs 4), .raw (vs 5), .raw (vs 6), .raw (vs 7), .raw (vs 8), .raw (vs 9), .nilp, .ptr 4 0, .raw vp, .ptr 5 0, .raw (vs 14), .raw (vs 15), .raw (vs 16), .raw (vs 17), .raw (vs 18), .raw (vs 19)], _, [(4, 30), (5, 31)], _, WG s0 s1 (.push 3 _ _ h _) s3, ?_, rfl, rfl, rfl, fun n => ((WG_2 _ s0 s1 _ s3 n)).trans rfl, rfl, s0, s1, (.push 3 _ _ h _), s3, _, _, _, _, ⟨js, rfl⟩, rfl, rfl, by show 4 ≤ 6; omega, ?_, ⟨(WS.ok_mono (Nat.le_succ _) ho.1), (WS.ok_mono (Nat.le_succ _) ho.2.1), ⟨by omega, HS.ok_mono (Nat.le_succ _) hK⟩, (WS.ok_mono (Nat.le_succ _) ho.2.2)⟩, by omega, by omega, by omega, by omega⟩
      · rfl
      · simp [hw]
    · have h1 := at_can hat
      refine ⟨_, h1, [.raw (vs 0), .raw (vs 1), .raw (vs 2), .raw (vs 3), .raw (vs 4), .raw (vs 5), .raw (vs 6), .raw (vs 7), .raw (vs 8), .raw (vs 9), .nilp, .ptr 4 0, .raw vp, .ptr 5 0, .raw (vs 14), .raw (vs 15), .raw (vs 16), .raw (vs 17), .raw (vs 18), .raw (vs 19)], _, [(4, 30), (5, 31)], _, WG s0 s1 (.push 3 _ _ h _) s3, ?_, rfl, rfl, rfl, fun n => ((WG_2 _ s0 s1 _ s3 n)).trans rfl, rfl, s0, s1, (.push 3 _ _ h _), s3, _, _, _, _, ⟨js, rfl⟩, rfl, rfl, by show 4 ≤ 6; omega, ?_, ⟨(WS.ok_mono (Nat.le_succ _) ho.1), (WS.ok_mono (Nat.le_succ _) ho.2.1), ⟨by omega, HS.ok_mono (Nat.le_succ _) hK⟩, (WS.ok_mono (Nat.le_succ _) ho.2.2)⟩, by omega, by omega, by omega, by omega⟩
      · rfl
      · simp [hw]
theorem w2u3 (K : Nat) (a : Int) (w : Int) (vp : Value) (kk : Int) (h : HS) (s0 s1 s3 : WS) (hkk : kk.tmod 4 = 2) (hK : h.ok K) (ho : okO K s0 s1 s3) (hK6 : K ≤ 1000000) : TriX MS (listX Try.prog four) E ⟨pre n0 np false i ++ [.v (.int .i64 (.sym kk))] ++ junk js 58 11, base ps ws c c2 t (.abs (.grp (WG s0 s1 (.push 3 a w h vp) s3))), 4, []⟩ (Mid n0 np i ps ws c c2 K) := by
  refine tri_group (mono_list _) 3 (WG s0 s1 (.push 3 a w h vp) s3) [(30, some (pushO 3 a w)), (31, some (rpushO 3 a w))] (hobj 30 h ++ (wo 10 s0 ++ (wo 20 s1 ++ wo 40 s3))) M4q2 (WL s0 s1 (.push 3 a w h vp) s3) _ 75 [(4, some (ofU (pushO 3 a w))), (5, some (ofU (rpushO 3 a w)))] (Z2 30) rfl (fun n => (WG_2 _ s0 s1 (.push 3 a w h vp) s3 n)) (by simp [Z2, Nat.beq]) (by simp) rfl rfl (hZL4q2 _ s0 s1 s3) (hZF4q2 h s0 s1 s3) rfl rfl (by rw [hT]; exact Nat.le_of_ble_eq_true rfl) (hD 3 (by decide)) ?_
  intro vs E1 e1 e2 e3
  show TriX MS (listX Try.prog four) E1 ⟨pre n0 np false i ++ [.v (.int .i64 (.sym kk))] ++ junk js 58 11, [(4, some (ofU (pushO 3 a w))), (5, some (ofU (rpushO 3 a w)))] ++ base ps ws c c2 t (.cells [.raw (vs 0), .raw (vs 1), .raw (vs 2), .raw (vs 3), .raw (vs 4), .raw (vs 5), .raw (vs 6), .raw (vs 7), .raw (vs 8), .raw (vs 9), .nilp, .ptr 4 0, .raw vp, .ptr 5 0, .raw (vs 14), .raw (vs 15), .raw (vs 16), .raw (vs 17), .raw (vs 18), .raw (vs 19)] 75), 6, []⟩ _
  have ht : ∀ {k : Nat}, Nat.ble k 40 = true → k ≤ E1.top := fun h => by rw [e2, hT]; exact Nat.le_of_ble_eq_true h
  have hd : ∀ (l : List Nat), l.all (Nat.ble 1) = true → ∀ b, b ∈ l → E1.D b := fun l hl b hb => e3 b (hD b (Nat.le_of_ble_eq_true (List.all_eq_true.1 hl b hb)))
  refine TriX.postE (mono_list _) (Q := fun x s => x = .normal ∧ (((∃ js, s = ⟨(q2u3_l0 n0 i c c2 t np ps ws vs a w vp).pre ++ junk js 59 10, (q2u3_l0 n0 i c c2 t np ps ws vs a w vp).hp, (q2u3_l0 n0 i c c2 t np ps ws vs a w vp).nid, []⟩) ∧ True) ∨ ((∃ js, s = ⟨(q2u3_l1 n0 i c c2 t np ps ws vs a w vp).pre ++ junk js 59 10, (q2u3_l1 n0 i c c2 t np ps ws vs a w vp).hp, (q2u3_l1 n0 i c c2 t np ps ws vs a w vp).nid, []⟩) ∧ True))) (TriX.listR (m := 10) (n := 59) codeOK (q2u3 n0 i c c2 t np ps ws vs js kk a w vp hw hc hc2 hkk) ?_) ?_
  · exact Tr.all_ite (fun _ => Tr.all_ok ⟨rfl, rfl, ht rfl, hd _ rfl, fun js => ⟨rfl, Or.inl ⟨⟨js, rfl⟩, trivial⟩⟩⟩) (fun _ => Tr.all_ok ⟨rfl, rfl, ht rfl, hd _ rfl, fun js => ⟨rfl, Or.inr (⟨⟨js, rfl⟩, trivial⟩)⟩⟩)
  · rintro x s ac w ⟨rfl, hq⟩ hat
    rcases hq with ⟨⟨js, rfl⟩, hcond⟩ | ⟨⟨js, rfl⟩, hcond⟩
    · have h1 := at_can hat
      obtain ⟨us, h2⟩ := at_forget 3 [false, false, false, false, false, false, false, false, false, false, false, false, false, true, false, false, false, false, false, false] rfl rfl h1
      refine ⟨_, h2, [.raw (vs 0), .raw (vs 1), .raw (vs 2), .raw (vs 3), .raw (vs 4), .raw (vs 5), .raw (vs 6), .raw (vs 7), .raw (vs 8), .raw (vs 9), .nilp, .nilp, .raw vp, .raw (us 13), .raw (vs 14), .raw (vs 15), .raw (vs 16), .raw (vs 17), .raw (vs 18), .raw (vs 19)], _, [], _, WG s0 s1 (.idle h _ (us 13)) s3, ?_, rfl, rfl, rfl, fun n => ((WG_2 _ s0 s1 _ s3 n)).trans rfl, rfl, s0, s1, (.idle h _ (us 13)), s3, _, _, _, _, ⟨js, rfl⟩, rfl, rfl, by show 4 ≤ 6; omega, ?_, ⟨(WS.ok_mono (Nat.le_succ _) ho.1), (WS.ok_mono (Nat.le_succ _) ho.2.1), HS.ok_mono (Nat.le_succ _) hK, (WS.ok_mono (Nat.le_succ _) ho.2.2)⟩, by omega, by omega, by omega, by omega⟩
      · rfl
      · simp [hw]
    · have h1 := at_can hat
      refine ⟨_, h1, [.raw (vs 0), .raw (vs 1), .raw (vs 2), .raw (vs 3), .raw (vs 4), .raw (vs 5), .raw (vs 6), .raw (vs 7), .raw (vs 8), .raw (vs 9), .nilp, .ptr 4 0, .raw vp, .ptr 5 0, .raw (vs 14), .raw (vs 15), .raw (vs 16), .raw (vs 17), .raw (vs 18), .raw (vs 19)], _, [(4, 30), (5, 31)], _, WG s0 s1 (.push 1 _ _ h _) s3, ?_, rfl, rfl, rfl, fun n => ((WG_2 _ s0 s1 _ s3 n)).trans rfl, rfl, s0, s1, (.push 1 _ _ h _), s3, _, _, _, _, ⟨js, rfl⟩, rfl, rfl, by show 4 ≤ 6; omega, ?_, ⟨(WS.ok_mono (Nat.le_succ _) ho.1), (WS.ok_mono (Nat.le_succ _) ho.2.1), ⟨by omega, HS.ok_mono (Nat.le_succ _) hK⟩, (WS.ok_mono (Nat.le_succ _) ho.2.2)⟩, by omega, by omega, by omega, by omega⟩
      · rfl
      · simp [hw]
end
end Go.Proofs.Ytnlfphlmlklofaa.ListPlays
