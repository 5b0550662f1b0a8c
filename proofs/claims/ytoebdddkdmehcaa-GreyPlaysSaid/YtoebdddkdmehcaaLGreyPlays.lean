/-
  GreyPlays: objects are shaded and taken as the document says, step by step: both memories hold the same words, and each thread is at the same step in both.
-/
import Derived.Test.YtoebdddkdmehcaaRows
import Derived.Test.YtoebdddkdmehcaaWGreyPlays0
import Derived.Test.YtoebdddkdmehcaaWGreyPlays1
import Derived.Test.YtoebdddkdmehcaaWGreyPlays2
import Derived.Test.YtoebdddkdmehcaaTGreyPlaysR
namespace Go.Proofs.Ytoebdddkdmehcaa.GreyPlays
open Go Go.RowKit Go.Proofs.Ytoebdddkdmehcaa.Eng
set_option linter.unusedVariables false
set_option linter.unusedSimpArgs false
set_option linter.unusedSectionVars false
set_option maxRecDepth 20000
set_option maxHeartbeats 1000000
noncomputable abbrev St0 (np : Nat) (i : Int) (ps : List (List Int)) (ws : List Int) (c c2 t : Int) (a b d : SH) (nj nw n1 n2 n3 n4 n5 n6 n7 : Int) (js : Nat → SV) : St MObj := ⟨pre np false i ++ junk js 125 11, base ps ws c c2 t (.abs (.grp (SG a b d))) (.abs (.grp (TG a b d))) (nO nj nw n1 n2 n3 n4 n5 n6 n7) (oO (pcR nj) nw n1 n2 n3 n4 n5 n6 n7), 7, []⟩
def Post (np : Nat) (i : Int) (ps : List (List Int)) (c c2 : Int) (s : St MObj) : Prop := ∃ ws' c' c2' t' a' b' d' nj' nw' n1' n2' n3' n4' n5' n6' n7' js', s = St0 np i ps ws' c' c2' t' a' b' d' nj' nw' n1' n2' n3' n4' n5' n6' n7' js' ∧ ws'.length = 160 ∧ ok3 a' b' d' ∧ (nj' = 0 ∨ nj' = 3 ∨ nj' = 1 ∨ nj' = 4) ∧ (c ≤ c' ∧ c' ≤ c + 1) ∧ (c2 ≤ c2' ∧ c2' ≤ c2 + 1)
section
variable {i c c2 t nj nw n1 n2 n3 n4 n5 n6 n7 : Int} {np : Nat} {ps : List (List Int)} {ws : List Int} {js : Nat → SV} {E : Ctx MObj} (hE : E.nid0 = 1) (hT : E.top = 40) (hD : ∀ b, 1 ≤ b → E.D b) (hw : ws.length = 160) (hc : 0 ≤ c ∧ c ≤ 1000000) (hc2 : 0 ≤ c2 ∧ c2 ≤ 1000000)
include hE hT hD hw hc hc2
theorem step0 (s0 s1 s2 : SH) (hk : ok3 s0 s1 s2) (oj : Int) (kk : Int) (hkk : kk.tmod 4 = 0) (hk0 : 0 ≤ kk ∧ kk < 160) : TriX MS ((at' [true, false, false, true]).wp Try.prog) E ⟨pre np false i ++ [.v (.int .i64 (.sym kk))] ++ junk js 124 12, base ps ws c c2 t (.abs (.grp (SG s0 s1 s2))) (.abs (.grp (TG s0 s1 s2))) (nO nj nw n1 n2 n3 n4 n5 n6 n7) (oO oj nw n1 n2 n3 n4 n5 n6 n7), 7, []⟩ (Mid np i ps ws c c2 (nO nj nw n1 n2 n3 n4 n5 n6 n7) (oO oj nw n1 n2 n3 n4 n5 n6 n7)) := by
  have ho : s1.ok ∧ s2.ok := ⟨hk.2.1, hk.2.2⟩
  have hm : s0.ok := hk.1
  clear hk
  cases s0 with
  | idle v => exact w0N hE hT hD hw hc hc2 v s1 s2 kk hkk hk0 ho
  | s0 at' mk w v p1 p2 p3 p4 p5 p6 p7 q1 q2 q3 q4 q5 q6 q7 => exact w0R0 hE hT hD hw hc hc2 at' mk w v p1 p2 p3 p4 p5 p6 p7 q1 q2 q3 q4 q5 q6 q7 s1 s2 kk hkk hk0 ho
  | s1 at' mk w p1 p2 p3 p4 p5 p6 p7 => exact w0R1 hE hT hD hw hc hc2 at' mk w p1 p2 p3 p4 p5 p6 p7 s1 s2 kk hkk hk0 ho
  | sn j at' mk w p1 p2 p3 p4 p5 p6 p7 =>
    rcases hm with rfl | rfl | rfl
    · exact w0R2 hE hT hD hw hc hc2 at' mk w p1 p2 p3 p4 p5 p6 p7 s1 s2 kk hkk hk0 ho
    · exact w0R3 hE hT hD hw hc hc2 at' mk w p1 p2 p3 p4 p5 p6 p7 s1 s2 kk hkk hk0 ho
    · exact w0R4 hE hT hD hw hc hc2 at' mk w p1 p2 p3 p4 p5 p6 p7 s1 s2 kk hkk hk0 ho
theorem step1 (s0 s1 s2 : SH) (hk : ok3 s0 s1 s2) (oj : Int) (kk : Int) (hkk : kk.tmod 4 = 1) (hk0 : 0 ≤ kk ∧ kk < 160) : TriX MS ((at' [true, false, false, true]).wp Try.prog) E ⟨pre np false i ++ [.v (.int .i64 (.sym kk))] ++ junk js 124 12, base ps ws c c2 t (.abs (.grp (SG s0 s1 s2))) (.abs (.grp (TG s0 s1 s2))) (nO nj nw n1 n2 n3 n4 n5 n6 n7) (oO oj nw n1 n2 n3 n4 n5 n6 n7), 7, []⟩ (Mid np i ps ws c c2 (nO nj nw n1 n2 n3 n4 n5 n6 n7) (oO oj nw n1 n2 n3 n4 n5 n6 n7)) := by
  have ho : s0.ok ∧ s2.ok := ⟨hk.1, hk.2.2⟩
  have hm : s1.ok := hk.2.1
  clear hk
  cases s1 with
  | idle v => exact w1N hE hT hD hw hc hc2 v s0 s2 kk hkk hk0 ho
  | s0 at' mk w v p1 p2 p3 p4 p5 p6 p7 q1 q2 q3 q4 q5 q6 q7 => exact w1R0 hE hT hD hw hc hc2 at' mk w v p1 p2 p3 p4 p5 p6 p7 q1 q2 q3 q4 q5 q6 q7 s0 s2 kk hkk hk0 ho
  | s1 at' mk w p1 p2 p3 p4 p5 p6 p7 => exact w1R1 hE hT hD hw hc hc2 at' mk w p1 p2 p3 p4 p5 p6 p7 s0 s2 kk hkk hk0 ho
  | sn j at' mk w p1 p2 p3 p4 p5 p6 p7 =>
    rcases hm with rfl | rfl | rfl
    · exact w1R2 hE hT hD hw hc hc2 at' mk w p1 p2 p3 p4 p5 p6 p7 s0 s2 kk hkk hk0 ho
    · exact w1R3 hE hT hD hw hc hc2 at' mk w p1 p2 p3 p4 p5 p6 p7 s0 s2 kk hkk hk0 ho
    · exact w1R4 hE hT hD hw hc hc2 at' mk w p1 p2 p3 p4 p5 p6 p7 s0 s2 kk hkk hk0 ho
theorem step2 (s0 s1 s2 : SH) (hk : ok3 s0 s1 s2) (oj : Int) (kk : Int) (hkk : kk.tmod 4 = 2) (hk0 : 0 ≤ kk ∧ kk < 160) : TriX MS ((at' [true, false, false, true]).wp Try.prog) E ⟨pre np false i ++ [.v (.int .i64 (.sym kk))] ++ junk js 124 12, base ps ws c c2 t (.abs (.grp (SG s0 s1 s2))) (.abs (.grp (TG s0 s1 s2))) (nO nj nw n1 n2 n3 n4 n5 n6 n7) (oO oj nw n1 n2 n3 n4 n5 n6 n7), 7, []⟩ (Mid np i ps ws c c2 (nO nj nw n1 n2 n3 n4 n5 n6 n7) (oO oj nw n1 n2 n3 n4 n5 n6 n7)) := by
  have ho : s0.ok ∧ s1.ok := ⟨hk.1, hk.2.1⟩
  have hm : s2.ok := hk.2.2
  clear hk
  cases s2 with
  | idle v => exact w2N hE hT hD hw hc hc2 v s0 s1 kk hkk hk0 ho
  | s0 at' mk w v p1 p2 p3 p4 p5 p6 p7 q1 q2 q3 q4 q5 q6 q7 => exact w2R0 hE hT hD hw hc hc2 at' mk w v p1 p2 p3 p4 p5 p6 p7 q1 q2 q3 q4 q5 q6 q7 s0 s1 kk hkk hk0 ho
  | s1 at' mk w p1 p2 p3 p4 p5 p6 p7 => exact w2R1 hE hT hD hw hc hc2 at' mk w p1 p2 p3 p4 p5 p6 p7 s0 s1 kk hkk hk0 ho
  | sn j at' mk w p1 p2 p3 p4 p5 p6 p7 =>
    rcases hm with rfl | rfl | rfl
    · exact w2R2 hE hT hD hw hc hc2 at' mk w p1 p2 p3 p4 p5 p6 p7 s0 s1 kk hkk hk0 ho
    · exact w2R3 hE hT hD hw hc hc2 at' mk w p1 p2 p3 p4 p5 p6 p7 s0 s1 kk hkk hk0 ho
    · exact w2R4 hE hT hD hw hc hc2 at' mk w p1 p2 p3 p4 p5 p6 p7 s0 s1 kk hkk hk0 ho
theorem stepS (s0 s1 s2 : SH) (hk : ok3 s0 s1 s2) (hnj : nj = 0 ∨ nj = 3 ∨ nj = 1 ∨ nj = 4) (kk : Int) (hkk : kk.tmod 4 = 0 ∨ kk.tmod 4 = 1 ∨ kk.tmod 4 = 2) (hk0 : 0 ≤ kk ∧ kk < 160) : Tri MS Try.prog E (at' [true, false, false, true]) ⟨pre np false i ++ [.v (.int .i64 (.sym kk))] ++ junk js 124 12, base ps ws c c2 t (.abs (.grp (SG s0 s1 s2))) (.abs (.grp (TG s0 s1 s2))) (nO nj nw n1 n2 n3 n4 n5 n6 n7) (oO (pcR nj) nw n1 n2 n3 n4 n5 n6 n7), 7, []⟩
    fun x s => (x = .normal ∨ x = .exit 1) ∧ Post np i ps c c2 s := by
  have key : TriX MS ((at' [true, false, false, true]).wp Try.prog) E ⟨pre np false i ++ [.v (.int .i64 (.sym kk))] ++ junk js 124 12, base ps ws c c2 t (.abs (.grp (SG s0 s1 s2))) (.abs (.grp (TG s0 s1 s2))) (nO nj nw n1 n2 n3 n4 n5 n6 n7) (oO (pcR nj) nw n1 n2 n3 n4 n5 n6 n7), 7, []⟩ (Mid np i ps ws c c2 (nO nj nw n1 n2 n3 n4 n5 n6 n7) (oO (pcR nj) nw n1 n2 n3 n4 n5 n6 n7)) := by
    rcases hkk with h | h | h
    · exact step0 hE hT hD hw hc hc2 s0 s1 s2 hk _ kk h hk0
    · exact step1 hE hT hD hw hc hc2 s0 s1 s2 hk _ kk h hk0
    · exact step2 hE hT hD hw hc hc2 s0 s1 s2 hk _ kk h hk0
  refine TriX.postE (mono_wp _) key ?_
  rintro x ⟨tm, hp, nid, dd⟩ ac w ⟨rfl, a, b, d, ws', c', c2', t', ⟨js', h0⟩, h1, h2, h3, h4, h5, h6, h7, h8, h9⟩ hat
  have h0 : tm = pre np false i ++ junk js' 125 11 := h0
  subst h0
  have h2 : renChk R7 hp E.nid0 nid 7 = true := by rw [hE]; exact h2
  obtain ⟨js2, h10⟩ := at_rename (dirty' := []) (m := 11) (n := 125) (pre := pre np false i) (pre' := pre np false i) R7 rfl (by simp [length_junk]) rfl h1 h2 (by omega) (by omega) hat
  exact ⟨_, h10, .inl rfl, ws', c', c2', t', a, b, d, nj, nw, n1, n2, n3, n4, n5, n6, n7, js2, rfl, h4, h5, hnj, ⟨h6, h7⟩, ⟨h8, h9⟩⟩
theorem next0 (a b d : SH) (hk : ok3 a b d) (kk : Int) (hkk : kk.tmod 4 = 3) : Tri MS Try.prog E (at' [true, false, false, true]) ⟨pre np false i ++ [.v (.int .i64 (.sym kk))] ++ junk js 124 12, base ps ws c c2 t (.abs (.grp (SG a b d))) (.abs (.grp (TG a b d))) (nO 0 nw n1 n2 n3 n4 n5 n6 n7) (oO (pcR 0) nw n1 n2 n3 n4 n5 n6 n7), 7, []⟩
    fun x s => (x = .normal ∨ x = .exit 1) ∧ Post np i ps c c2 s := by
  have hd : ∀ (l : List Nat), l.all (Nat.ble 1) = true → ∀ b, b ∈ l → E.D b := fun l hl b hb => hD b (Nat.le_of_ble_eq_true (List.all_eq_true.1 hl b hb))
  have ht : ∀ {k : Nat}, Nat.ble k 40 = true → k ≤ E.top := fun h => by rw [hT]; exact Nat.le_of_ble_eq_true h
  refine Tri.postE (Q := fun x s => x = .exit 1 ∧ ((∃ js, s = ⟨(nx0_l0 i c c2 t np ps ws (SG a b d) (TG a b d) n1 n2 n3 n4 n5 n6 n7).pre ++ junk js 125 11, (nx0_l0 i c c2 t np ps ws (SG a b d) (TG a b d) n1 n2 n3 n4 n5 n6 n7).hp, (nx0_l0 i c c2 t np ps ws (SG a b d) (TG a b d) n1 n2 n3 n4 n5 n6 n7).nid, []⟩) ∨ (∃ js, s = ⟨(nx0_l1 i c c2 t np ps ws (SG a b d) (TG a b d) n1 n2 n3 n4 n5 n6 n7).pre ++ junk js 125 11, (nx0_l1 i c c2 t np ps ws (SG a b d) (TG a b d) n1 n2 n3 n4 n5 n6 n7).hp, (nx0_l1 i c c2 t np ps ws (SG a b d) (TG a b d) n1 n2 n3 n4 n5 n6 n7).nid, []⟩))) (Tri.allR (m := 11) (n := 125) (codeOK _) (nx0 i c c2 t np ps ws js (SG a b d) (TG a b d) nw n1 n2 n3 n4 n5 n6 n7 kk hw hc hc2 hkk) ?_) ?_
  · exact Tr.all_ite (fun _ => Tr.all_ok ⟨rfl, ht rfl, hd _ rfl, fun js => ⟨rfl, Or.inl ⟨js, rfl⟩⟩⟩) (fun _ => Tr.all_ok ⟨rfl, ht rfl, hd _ rfl, fun js => ⟨rfl, Or.inr (⟨js, rfl⟩)⟩⟩)
  · rintro x s ac w ⟨rfl, hq⟩ hat
    rcases hq with ⟨js, rfl⟩ | ⟨js, rfl⟩
    · have h1 := at_can hat
      obtain ⟨js2, h2⟩ := at_rename (dirty' := []) (m := 11) (n := 125) (pre' := pre np false i) [(0, 0), (1, 1), (2, 2), (3, 3), (4, 4), (7, 5), (8, 6)] (nid' := 7) rfl (by simp [length_junk]) rfl rfl (by rw [hE]; rfl) (by omega) (by omega) h1
      exact ⟨_, h2, .inr rfl, _, _, _, _, a, b, d, 0, 0, 0, 0, 0, 0, 0, 0, 0, js2, rfl, by simp [hw], hk, by omega, by omega, by omega⟩
    · have h1 := at_can hat
      obtain ⟨js2, h2⟩ := at_rename (dirty' := []) (m := 11) (n := 125) (pre' := pre np false i) [(0, 0), (1, 1), (2, 2), (3, 3), (4, 4), (5, 5), (6, 6)] (nid' := 7) rfl (by simp [length_junk]) rfl rfl (by rw [hE]; rfl) (by omega) (by omega) h1
      exact ⟨_, h2, .inr rfl, _, _, _, _, a, b, d, 3, (List.getD ws 1 0), n1, n2, n3, n4, n5, n6, n7, js2, rfl, by simp [hw], hk, by omega, by omega, by omega⟩
theorem next3 (a b d : SH) (hk : ok3 a b d) (kk : Int) (hkk : kk.tmod 4 = 3) : Tri MS Try.prog E (at' [true, false, false, true]) ⟨pre np false i ++ [.v (.int .i64 (.sym kk))] ++ junk js 124 12, base ps ws c c2 t (.abs (.grp (SG a b d))) (.abs (.grp (TG a b d))) (nO 3 nw n1 n2 n3 n4 n5 n6 n7) (oO (pcR 3) nw n1 n2 n3 n4 n5 n6 n7), 7, []⟩
    fun x s => (x = .normal ∨ x = .exit 1) ∧ Post np i ps c c2 s := by
  have hd : ∀ (l : List Nat), l.all (Nat.ble 1) = true → ∀ b, b ∈ l → E.D b := fun l hl b hb => hD b (Nat.le_of_ble_eq_true (List.all_eq_true.1 hl b hb))
  have ht : ∀ {k : Nat}, Nat.ble k 40 = true → k ≤ E.top := fun h => by rw [hT]; exact Nat.le_of_ble_eq_true h
  refine Tri.postE (Q := fun x s => x = .exit 1 ∧ ((∃ js, s = ⟨(nx3_l0 i c c2 t np ps ws (SG a b d) (TG a b d) nw).pre ++ junk js 125 11, (nx3_l0 i c c2 t np ps ws (SG a b d) (TG a b d) nw).hp, (nx3_l0 i c c2 t np ps ws (SG a b d) (TG a b d) nw).nid, []⟩) ∨ (∃ js, s = ⟨(nx3_l1 i c c2 t np ps ws (SG a b d) (TG a b d) nw).pre ++ junk js 125 11, (nx3_l1 i c c2 t np ps ws (SG a b d) (TG a b d) nw).hp, (nx3_l1 i c c2 t np ps ws (SG a b d) (TG a b d) nw).nid, []⟩))) (Tri.allR (m := 11) (n := 125) (codeOK _) (nx3 i c c2 t np ps ws js (SG a b d) (TG a b d) nw n1 n2 n3 n4 n5 n6 n7 kk hw hc hc2 hkk) ?_) ?_
  · exact Tr.all_ite (fun _ => Tr.all_ok ⟨rfl, ht rfl, hd _ rfl, fun js => ⟨rfl, Or.inl ⟨js, rfl⟩⟩⟩) (fun _ => Tr.all_ok ⟨rfl, ht rfl, hd _ rfl, fun js => ⟨rfl, Or.inr (⟨js, rfl⟩)⟩⟩)
  · rintro x s ac w ⟨rfl, hq⟩ hat
    rcases hq with ⟨js, rfl⟩ | ⟨js, rfl⟩
    · have h1 := at_can hat
      obtain ⟨js2, h2⟩ := at_rename (dirty' := []) (m := 11) (n := 125) (pre' := pre np false i) [(0, 0), (1, 1), (2, 2), (3, 3), (4, 4), (5, 5), (6, 6)] (nid' := 7) rfl (by simp [length_junk]) rfl rfl (by rw [hE]; rfl) (by omega) (by omega) h1
      exact ⟨_, h2, .inr rfl, _, _, _, _, a, b, d, 1, nw, (mHState (List.getD ws (Int.toNat (mAt nw)) 0)), (mHClass (List.getD ws (Int.toNat (mAt nw)) 0)), (mHCount (List.getD ws (Int.toNat (mAt nw)) 0)), (mHMark (List.getD ws (Int.toNat (mAt nw)) 0)), (mHGrey (List.getD ws (Int.toNat (mAt nw)) 0)), (mHTag (List.getD ws (Int.toNat (mAt nw)) 0)), (mHLink (List.getD ws (Int.toNat (mAt nw)) 0)), js2, rfl, by simp [hw], hk, by omega, by omega, by omega⟩
    · have h1 := at_can hat
      obtain ⟨js2, h2⟩ := at_rename (dirty' := []) (m := 11) (n := 125) (pre' := pre np false i) [(0, 0), (1, 1), (2, 2), (3, 3), (4, 4), (5, 5), (6, 6)] (nid' := 7) rfl (by simp [length_junk]) rfl rfl (by rw [hE]; rfl) (by omega) (by omega) h1
      exact ⟨_, h2, .inr rfl, _, _, _, _, a, b, d, 1, nw, 0, 0, 0, 0, 0, 0, 0, js2, rfl, by simp [hw], hk, by omega, by omega, by omega⟩
theorem next1 (a b d : SH) (hk : ok3 a b d) (kk : Int) (hkk : kk.tmod 4 = 3) : Tri MS Try.prog E (at' [true, false, false, true]) ⟨pre np false i ++ [.v (.int .i64 (.sym kk))] ++ junk js 124 12, base ps ws c c2 t (.abs (.grp (SG a b d))) (.abs (.grp (TG a b d))) (nO 1 nw n1 n2 n3 n4 n5 n6 n7) (oO (pcR 1) nw n1 n2 n3 n4 n5 n6 n7), 7, []⟩
    fun x s => (x = .normal ∨ x = .exit 1) ∧ Post np i ps c c2 s := by
  have hd : ∀ (l : List Nat), l.all (Nat.ble 1) = true → ∀ b, b ∈ l → E.D b := fun l hl b hb => hD b (Nat.le_of_ble_eq_true (List.all_eq_true.1 hl b hb))
  have ht : ∀ {k : Nat}, Nat.ble k 40 = true → k ≤ E.top := fun h => by rw [hT]; exact Nat.le_of_ble_eq_true h
  refine Tri.postE (Q := fun x s => x = .exit 1 ∧ ((∃ js, s = ⟨(nx1_l0 i c c2 t np ps ws (SG a b d) (TG a b d) nw n1 n2 n3 n4 n5 n6 n7).pre ++ junk js 125 11, (nx1_l0 i c c2 t np ps ws (SG a b d) (TG a b d) nw n1 n2 n3 n4 n5 n6 n7).hp, (nx1_l0 i c c2 t np ps ws (SG a b d) (TG a b d) nw n1 n2 n3 n4 n5 n6 n7).nid, []⟩) ∨ (∃ js, s = ⟨(nx1_l1 i c c2 t np ps ws (SG a b d) (TG a b d) nw n1 n2 n3 n4 n5 n6 n7).pre ++ junk js 125 11, (nx1_l1 i c c2 t np ps ws (SG a b d) (TG a b d) nw n1 n2 n3 n4 n5 n6 n7).hp, (nx1_l1 i c c2 t np ps ws (SG a b d) (TG a b d) nw n1 n2 n3 n4 n5 n6 n7).nid, []⟩))) (Tri.allR (m := 11) (n := 125) (codeOK _) (nx1 i c c2 t np ps ws js (SG a b d) (TG a b d) nw n1 n2 n3 n4 n5 n6 n7 kk hw hc hc2 hkk) ?_) ?_
  · exact Tr.all_ite (fun _ => Tr.all_ok ⟨rfl, ht rfl, hd _ rfl, fun js => ⟨rfl, Or.inl ⟨js, rfl⟩⟩⟩) (fun _ => Tr.all_ok ⟨rfl, ht rfl, hd _ rfl, fun js => ⟨rfl, Or.inr (⟨js, rfl⟩)⟩⟩)
  · rintro x s ac w ⟨rfl, hq⟩ hat
    rcases hq with ⟨js, rfl⟩ | ⟨js, rfl⟩
    · have h1 := at_can hat
      obtain ⟨js2, h2⟩ := at_rename (dirty' := []) (m := 11) (n := 125) (pre' := pre np false i) [(0, 0), (1, 1), (2, 2), (3, 3), (4, 4), (5, 5), (6, 6)] (nid' := 7) rfl (by simp [length_junk]) rfl rfl (by rw [hE]; rfl) (by omega) (by omega) h1
      exact ⟨_, h2, .inr rfl, _, _, _, _, a, b, d, 4, nw, n1, n2, n3, n4, n5, n6, n7, js2, rfl, by simp [hw], hk, by omega, by omega, by omega⟩
    · have h1 := at_can hat
      obtain ⟨js2, h2⟩ := at_rename (dirty' := []) (m := 11) (n := 125) (pre' := pre np false i) [(0, 0), (1, 1), (2, 2), (3, 3), (4, 4), (5, 5), (6, 6)] (nid' := 7) rfl (by simp [length_junk]) rfl rfl (by rw [hE]; rfl) (by omega) (by omega) h1
      exact ⟨_, h2, .inr rfl, _, _, _, _, a, b, d, 0, nw, n1, n2, n3, n4, n5, n6, n7, js2, rfl, by simp [hw], hk, by omega, by omega, by omega⟩
theorem next4 (a b d : SH) (hk : ok3 a b d) (kk : Int) (hkk : kk.tmod 4 = 3) : Tri MS Try.prog E (at' [true, false, false, true]) ⟨pre np false i ++ [.v (.int .i64 (.sym kk))] ++ junk js 124 12, base ps ws c c2 t (.abs (.grp (SG a b d))) (.abs (.grp (TG a b d))) (nO 4 nw n1 n2 n3 n4 n5 n6 n7) (oO (pcR 4) nw n1 n2 n3 n4 n5 n6 n7), 7, []⟩
    fun x s => (x = .normal ∨ x = .exit 1) ∧ Post np i ps c c2 s := by
  have hd : ∀ (l : List Nat), l.all (Nat.ble 1) = true → ∀ b, b ∈ l → E.D b := fun l hl b hb => hD b (Nat.le_of_ble_eq_true (List.all_eq_true.1 hl b hb))
  have ht : ∀ {k : Nat}, Nat.ble k 40 = true → k ≤ E.top := fun h => by rw [hT]; exact Nat.le_of_ble_eq_true h
  refine Tri.postE (Q := fun x s => x = .exit 1 ∧ ((∃ js, s = ⟨(nx4_l0 i c c2 t np ps ws (SG a b d) (TG a b d) nw n1 n2 n3 n4 n5 n6 n7).pre ++ junk js 125 11, (nx4_l0 i c c2 t np ps ws (SG a b d) (TG a b d) nw n1 n2 n3 n4 n5 n6 n7).hp, (nx4_l0 i c c2 t np ps ws (SG a b d) (TG a b d) nw n1 n2 n3 n4 n5 n6 n7).nid, []⟩) ∨ (∃ js, s = ⟨(nx4_l1 i c c2 t np ps ws (SG a b d) (TG a b d) nw n1 n2 n3 n4 n5 n6 n7).pre ++ junk js 125 11, (nx4_l1 i c c2 t np ps ws (SG a b d) (TG a b d) nw n1 n2 n3 n4 n5 n6 n7).hp, (nx4_l1 i c c2 t np ps ws (SG a b d) (TG a b d) nw n1 n2 n3 n4 n5 n6 n7).nid, []⟩))) (Tri.allR (m := 11) (n := 125) (codeOK _) (nx4 i c c2 t np ps ws js (SG a b d) (TG a b d) nw n1 n2 n3 n4 n5 n6 n7 kk hw hc hc2 hkk) ?_) ?_
  · exact Tr.all_ite (fun _ => Tr.all_ok ⟨rfl, ht rfl, hd _ rfl, fun js => ⟨rfl, Or.inl ⟨js, rfl⟩⟩⟩) (fun _ => Tr.all_ok ⟨rfl, ht rfl, hd _ rfl, fun js => ⟨rfl, Or.inr (⟨js, rfl⟩)⟩⟩)
  · rintro x s ac w ⟨rfl, hq⟩ hat
    rcases hq with ⟨js, rfl⟩ | ⟨js, rfl⟩
    · have h1 := at_can hat
      obtain ⟨js2, h2⟩ := at_rename (dirty' := []) (m := 11) (n := 125) (pre' := pre np false i) [(0, 0), (1, 1), (2, 2), (3, 3), (4, 4), (8, 5), (9, 6)] (nid' := 7) rfl (by simp [length_junk]) rfl rfl (by rw [hE]; rfl) (by omega) (by omega) h1
      exact ⟨_, h2, .inr rfl, _, _, _, _, a, b, d, 0, 0, 0, 0, 0, 0, 0, 0, 0, js2, rfl, by simp [hw], hk, by omega, by omega, by omega⟩
    · have h1 := at_can hat
      obtain ⟨js2, h2⟩ := at_rename (dirty' := []) (m := 11) (n := 125) (pre' := pre np false i) [(0, 0), (1, 1), (2, 2), (3, 3), (4, 4), (8, 5), (9, 6)] (nid' := 7) rfl (by simp [length_junk]) rfl rfl (by rw [hE]; rfl) (by omega) (by omega) h1
      exact ⟨_, h2, .inr rfl, _, _, _, _, a, b, d, 0, 0, 0, 0, 0, 0, 0, 0, 0, js2, rfl, by simp [hw], hk, by omega, by omega, by omega⟩
end
noncomputable abbrev lbody : Code := .seq (at' [false]) (.seq (.block 1 (.seq (at' [true, false, false, false]) (at' [true, false, false, true]))) (at' [true, true]))
theorem res (np : Nat) (ps : List (List Int)) (g g' : HP Unit) (on oo : VObj MObj) (r : Bool) (i c c2 t : Int) (ws : List Int) (js : Nat → SV) : vresults Try.prog (⟨pre np r i ++ junk js 125 11, base ps ws c c2 t (.abs (.grp g)) (.abs (.grp g')) on oo, 7, []⟩ : St MObj) Try.f6.results.toList = .ok [.one (.bool (.lit r))] := by kernel_rfl
theorem hb : Try.f6.body = some body := by kernel_rfl
theorem restE : (Eng.spine 8 body).2 = .seq (.seq (codeAt body [true, true, true, true, true, true, true, true, false, false]) (.block 0 (.loop lbody))) (codeAt body [true, true, true, true, true, true, true, true, true]) := by kernel_rfl
section
variable (np : Nat) (ps : List (List Int)) (hn : np = ps.length) (hf : RFits [.int .i64] ps) (E : Ctx MObj) (hE : E.nid0 = 1) (hT : E.top = 40) (hD : ∀ b, 1 ≤ b → E.D b)
include hn hf hE hT hD
theorem round {i c c2 t nj nw n1 n2 n3 n4 n5 n6 n7 : Int} {ws : List Int} {a b d : SH} {js : Nat → SV} (hi : 0 ≤ i ∧ i ≤ 300) (hw : ws.length = 160) (hc : 0 ≤ c ∧ c ≤ 1000 + i) (hc2 : 0 ≤ c2 ∧ c2 ≤ 1000 + i) (hk : ok3 a b d) (hnj : nj = 0 ∨ nj = 3 ∨ nj = 1 ∨ nj = 4) :
    Tri MS Try.prog E lbody (St0 np i ps ws c c2 t a b d nj nw n1 n2 n3 n4 n5 n6 n7 js) fun x s => ∃ i', (x = .normal ∧ i' = i + 1 ∧ i' ≤ 300 ∧ Post np i' ps c c2 s) ∨ (x = .exit 0 ∧ Post np i' ps c c2 s) := by
  have hd : ∀ (l : List Nat), l.all (Nat.ble 1) = true → ∀ b, b ∈ l → E.D b := fun l hl b hb => hD b (Nat.le_of_ble_eq_true (List.all_eq_true.1 hl b hb))
  have ht : ∀ {k : Nat}, Nat.ble k 40 = true → k ≤ E.top := fun h => by rw [hT]; exact Nat.le_of_ble_eq_true h
  refine Tri.seq (R := fun x s => ∃ js, s = St0 np i ps ws c c2 t a b d nj nw n1 n2 n3 n4 n5 n6 n7 js ∧ ((x = .normal ∧ i < np ∧ i < 300) ∨ x = .exit 0)) ?_ ?_ ?_
  · refine Tri.allR (m := 11) (n := 125) (codeOK _) (rA i c c2 t np ps ws js _ _ _ _ (Nat.zero_le _)) (Tr.all_ite (fun h1 => Tr.all_ite (fun h2 => Tr.all_ok ⟨rfl, ht rfl, hd _ rfl, fun js => ⟨js, rfl, .inl ⟨rfl, of_decide_eq_true h1, of_decide_eq_true h2⟩⟩⟩) fun _ => Tr.all_ok ⟨rfl, ht rfl, hd _ rfl, fun js => ⟨js, rfl, .inr rfl⟩⟩) fun _ => Tr.all_ok ⟨rfl, ht rfl, hd _ rfl, fun js => ⟨js, rfl, .inr rfl⟩⟩)
  · rintro s ⟨js, rfl, h | h⟩
    rotate_left
    · cases h
    obtain ⟨_, hin, hi300⟩ := h
    have hix : i.toNat < ps.length := by omega
    have k0 := kM_range (c := tabAt ps i.toNat 0) (n := 160) (by decide) (tab_fits hf hix (j := 0) rfl)
    refine Tri.seq (R := fun x s => x = .normal ∧ Post np i ps c c2 s) ?_ ?_ (fun x s hx hh => absurd hh.1 hx)
    · refine Tri.block (R := fun x s => (x = .normal ∨ x = .exit 1) ∧ Post np i ps c c2 s) ?_ (fun s hh => by
        rcases hh with hh | hh
        · exact ⟨rfl, hh.2⟩
        · exact ⟨rfl, hh.2⟩) (fun x s h1 h2 hh => by
        rcases hh.1 with h | h
        · exact absurd h h1
        · exact absurd h h2)
      refine Tri.seq (R := fun x s => x = .normal ∧ ∃ js, s = ⟨pre np false i ++ [.v (.int .i64 (.sym (kM (tabAt ps i.toNat 0) 160)))] ++ junk js 124 12, base ps ws c c2 t (.abs (.grp (SG a b d))) (.abs (.grp (TG a b d))) (nO nj nw n1 n2 n3 n4 n5 n6 n7) (oO (pcR nj) nw n1 n2 n3 n4 n5 n6 n7), 7, []⟩) ?_ ?_ (fun x s hx hh => absurd hh.1 hx)
      · exact Tri.allR (m := 12) (n := 124) (codeOK _) (rB i c c2 t np ps ws js _ _ _ _ hi.1 hin hn) (Tr.all_ok ⟨rfl, ht rfl, hd _ rfl, fun js => ⟨rfl, js, rfl⟩⟩)
      · rintro s ⟨_, js, rfl⟩
        generalize kM (tabAt ps i.toNat 0) 160 = kk at k0
        have h4 : 0 ≤ kk.tmod 4 ∧ kk.tmod 4 < 4 := ⟨Int.tmod_nonneg _ k0.1, Int.tmod_lt_of_pos _ (by decide)⟩
        by_cases h3 : kk.tmod 4 = 3
        · rcases hnj with rfl | rfl | rfl | rfl
          · exact next0 hE hT hD hw (by omega) (by omega) a b d hk kk h3
          · exact next3 hE hT hD hw (by omega) (by omega) a b d hk kk h3
          · exact next1 hE hT hD hw (by omega) (by omega) a b d hk kk h3
          · exact next4 hE hT hD hw (by omega) (by omega) a b d hk kk h3
        · exact stepS hE hT hD hw (by omega) (by omega) a b d hk hnj kk (by omega) k0
    · rintro s ⟨_, ws', c', c2', t', a', b', d', nj', nw', n1', n2', n3', n4', n5', n6', n7', js', rfl, g1, g2, g3, g4, g5⟩
      have e4 : W (i + 1) = i + 1 := wrap_i64_of (by omega) (by omega)
      refine Tri.allR (m := 11) (n := 125) (codeOK _) (rE i c' c2' t' np ps ws' js' _ _ _ _ (Nat.zero_le _)) (Tr.all_ok ⟨rfl, ht rfl, hd _ rfl, fun js => ⟨W (i + 1), .inl ⟨rfl, e4, by omega, ws', c', c2', t', a', b', d', nj', nw', n1', n2', n3', n4', n5', n6', n7', js, rfl, g1, g2, g3, g4, g5⟩⟩⟩)
  · rintro x s hx ⟨js, rfl, h | h⟩
    · exact absurd h.1 hx
    · exact ⟨i, .inr ⟨h, ws, c, c2, t, a, b, d, nj, nw, n1, n2, n3, n4, n5, n6, n7, js, rfl, hw, hk, hnj, by omega, by omega⟩⟩
abbrev Fin : VX → St MObj → Prop := fun x st => (x = .normal ∨ x = .ret) ∧ ∃ l, (vresults Try.prog st Try.f6.results.toList).run = some l ∧ IsTrue (tupleOf l)
abbrev W0 : List Int := [0, 0, 0, 0, 0, 0, 0, 0, 0, 0, 0, 0, 0, 0, 0, 0, 0, 0, 0, 0, 0, 0, 0, 0, 0, 0, 0, 0, 0, 0, 0, 0, 0, 0, 0, 0, 0, 0, 0, 0, 0, 0, 0, 0, 0, 0, 0, 0, 0, 0, 0, 0, 0, 0, 0, 0, 0, 0, 0, 0, 0, 0, 0, 0, 0, 0, 0, 0, 0, 0, 0, 0, 0, 0, 0, 0, 0, 0, 0, 0, 0, 0, 0, 0, 0, 0, 0, 0, 0, 0, 0, 0, 0, 0, 0, 0, 17, 0, 0, 0, 17, 0, 0, 0, 17, 0, 0, 0, 17, 0, 0, 0, 17, 0, 0, 0, 17, 0, 0, 0, 17, 0, 0, 0, 17, 0, 0, 0, 17, 0, 0, 0, 17, 0, 0, 0, 17, 0, 0, 0, 17, 0, 0, 0, 17, 0, 0, 0, 17, 0, 0, 0, 17, 0, 0, 0, 17, 0, 0, 0]
theorem loopT {t : Int} (js : Nat → SV) (v0 v1 v2 : Value) : Tri MS Try.prog E (.block 0 (.loop lbody)) (St0 np 0 ps W0 16 16 t (.idle v0) (.idle v1) (.idle v2) 0 0 0 0 0 0 0 0 0 js)
    fun x s => x = .normal ∧ ∃ i c c2, (0 ≤ c ∧ c ≤ 2000) ∧ (0 ≤ c2 ∧ c2 ≤ 2000) ∧ Post np i ps c c2 s := by
  refine Tri.block (R := fun x s => x = .exit 0 ∧ ∃ i c c2, (0 ≤ c ∧ c ≤ 2000) ∧ (0 ≤ c2 ∧ c2 ≤ 2000) ∧ Post np i ps c c2 s) ?_ (fun s hh => by
    rcases hh with hh | hh
    · cases hh.1
    · exact ⟨rfl, hh.2⟩) (fun x s _ hx hh => absurd hh.1 hx)
  refine Tri.loop (J := fun k s => ∃ i c c2 t a b d nj nw n1 n2 n3 n4 n5 n6 n7 ws js, s = St0 np i ps ws c c2 t a b d nj nw n1 n2 n3 n4 n5 n6 n7 js ∧ ws.length = 160 ∧ (0 ≤ i ∧ i ≤ 300) ∧ (0 ≤ c ∧ c ≤ 1000 + i) ∧ (0 ≤ c2 ∧ c2 ≤ 1000 + i) ∧ ok3 a b d ∧ (nj = 0 ∨ nj = 3 ∨ nj = 1 ∨ nj = 4) ∧ k = (300 - i).toNat) ?_ (k := (300 - 0 : Int).toNat)
    ⟨0, 16, 16, t, _, _, _, 0, 0, 0, 0, 0, 0, 0, 0, 0, W0, js, rfl, rfl, by omega, by omega, by omega, ⟨trivial, trivial, trivial⟩, by omega, rfl⟩
  rintro k s ⟨i, c, c2, t, a, b, d, nj, nw, n1, n2, n3, n4, n5, n6, n7, ws, js, rfl, hw, hi, hc, hc2, hk, hnj, hkk⟩
  refine (round np ps hn hf E hE hT hD hi hw hc hc2 hk hnj).mono ?_
  rintro x s ⟨i', ⟨rfl, h1, h2, ws', c', c2', t', a', b', d', nj', nw', n1', n2', n3', n4', n5', n6', n7', js', rfl, g1, g2, g3, g4, g5⟩ | ⟨rfl, h⟩⟩
  · exact ⟨(300 - i').toNat, by omega, i', c', c2', t', a', b', d', nj', nw', n1', n2', n3', n4', n5', n6', n7', ws', js', rfl, g1, by omega, by omega, by omega, g2, g3, rfl⟩
  · exact ⟨rfl, i', c, c2, by omega, by omega, h⟩
theorem runs : Tri MS Try.prog E body ⟨[.v (.an 0 (.sym np))] ++ List.replicate (nt - 1) .undef, [(0, some (.rotab [.int .i64] ps))], 1, []⟩ Fin := by
  have hd : ∀ (l : List Nat), l.all (Nat.ble 1) = true → ∀ b, b ∈ l → E.D b := fun l hl b hb => hD b (Nat.le_of_ble_eq_true (List.all_eq_true.1 hl b hb))
  have ht : ∀ {k : Nat}, Nat.ble k 40 = true → k ≤ E.top := fun h => by rw [hT]; exact Nat.le_of_ble_eq_true h
  refine Tri.listR (m := 11) (n := 125) (l := (Eng.spine 8 body).1) codeOK 8 rfl restE (start np ps (Nat.zero_le _)) (Tr.all_ok ⟨rfl, rfl, ht rfl, hd _ rfl, fun js => ?_⟩)
  refine Tri.ren (m := 11) (n := 125) [(0, 0), (1, 1), (2, 2), (3, 3), (4, 4), (5, 5), (6, 6)] (nid' := 7) rfl (by simp [length_junk]) rfl rfl (by rw [hE]; rfl) (by omega) (by omega) fun js => ?_
  refine Tri.preE fun ac w hat => ?_
  have h1 := at_can hat
  obtain ⟨us, h2⟩ := at_forget 4 [true, true, true] rfl rfl h1
  have h3 := at_grpfold (b := 4) (g := TG (.idle (us 0)) (.idle (us 1)) (.idle (us 2))) rfl rfl (fun n => rfl) h2
  have h4 := at_grpfold (b := 3) (g := SG (.idle (us 0)) (.idle (us 1)) (.idle (us 2))) rfl rfl (fun n => rfl) h3
  refine ⟨_, h4, ?_⟩
  refine Tri.seq (R := fun x s => x = .normal ∧ ∃ i c c2, (0 ≤ c ∧ c ≤ 2000) ∧ (0 ≤ c2 ∧ c2 ≤ 2000) ∧ Post np i ps c c2 s) ?_ ?_ (fun x s hx hh => absurd hh.1 hx)
  · refine Tri.seq (R := fun x s => x = .normal ∧ ∃ js, s = ⟨[.v (.an 0 (.sym np)), .t [], .v (.bool (.lit false)), .v (.bool (.lit true)), .v (.ptr 1 0), .v (.ptr 2 0), .v (.ptr 3 0), .v (.ptr 4 0), .v (.ptr 5 0), .v (.ptr 6 0), .v (.int .i64 (.lit 0))] ++ junk js 125 11, base ps W0 16 16 0 (.abs (.grp (SG (.idle (us 0)) (.idle (us 1)) (.idle (us 2))))) (.abs (.grp (TG (.idle (us 0)) (.idle (us 1)) (.idle (us 2))))) (nO 0 0 0 0 0 0 0 0 0) (oO 1 0 0 0 0 0 0 0 0), 7, []⟩) ?_ ?_ (fun x s hx hh => absurd hh.1 hx)
    · exact Tri.allR (m := 11) (n := 125) (codeOK _) (init 16 16 0 np ps W0 js _ _ _ _ (Nat.zero_le _)) (Tr.all_ok ⟨rfl, ht rfl, hd _ rfl, fun js => ⟨rfl, js, rfl⟩⟩)
    rintro s ⟨_, js, rfl⟩
    exact Tri.preWk (pre' := pre np false 0) (hp' := base ps W0 16 16 0 (.abs (.grp (SG (.idle (us 0)) (.idle (us 1)) (.idle (us 2))))) (.abs (.grp (TG (.idle (us 0)) (.idle (us 1)) (.idle (us 2))))) (nO 0 0 0 0 0 0 0 0 0) (oO 1 0 0 0 0 0 0 0 0)) (by (repeat' apply And.intro) <;> first | rfl | trivial) (by (repeat' apply And.intro) <;> first | rfl | trivial) (loopT np ps hn hf E hE hT hD js _ _ _)
  · rintro s ⟨_, i, c, c2, hc, hc2, ws', c', c2', t', a', b', d', nj', nw', n1', n2', n3', n4', n5', n6', n7', js', rfl, g1, g2, g3, g4, g5⟩
    exact Tri.allR (m := 11) (n := 125) (codeOK _) (fin i c' c2' t' np ps ws' js' _ _ _ _ g1 (by omega)) (Tr.all_ok ⟨rfl, ht rfl, hd _ rfl, fun js => ⟨.inr rfl, _, (congrArg Tr.run (res np ps _ _ _ _ true i _ _ _ _ js)).trans rfl, rfl⟩⟩)
end
abbrev ts : List TypeId := [43]
theorem hts : Try.f6.params.toList = ts := by kernel_rfl
theorem core (w : World) (vals : List Value) (ha : F2 (ArgOK Try.prog w) ts vals) :
    Calls Try.prog 6 vals.toArray w fun e W' => ∃ v, e = .returned v ∧ v = .bool true ∧ Below w.heap.size w W' := by
  obtain ⟨v, rfl⟩ : ∃ v, vals = [v] := by
    match vals, ha with
    | [v], _ => exact ⟨v, rfl⟩
    | [], ha => exact ha.elim
    | _ :: _ :: _, ha => exact ha.2.elim
  obtain ⟨xs, p, hf, hlen, hall⟩ := arg_slice (e := 3) (ks := [.int .i64]) ha.1 (by kernel_rfl) (by kernel_rfl) (by kernel_rfl) (by decide)
  let ρ0 : Rho := fun b => match b with | 0 => some p | _ + 1 => none
  have hρ : ∀ b, 1 ≤ b → ρ0 b = none := fun b hb => by
    match b, hb with
    | b + 1, _ => rfl
  refine (calls_of_triA (S := MS) (vargs := [v]) (R := IsTrue) Try.func6 hb 1 40 (by omega) hρ (hp := [(0, some (.rotab [.int .i64] xs))]) (fun b o ho => ?_) (runs xs.length xs rfl hf _ rfl rfl (fun b hb => hb)) ⟨(hall MS ρ0 0 rfl).1, trivial⟩).mono ?_
  · match b, ho with
    | 0, ho =>
      injection ho with ho
      subst ho
      exact (hall MS ρ0 0 rfl).2
    | b + 1, ho => cases ho
  · rintro e w' ⟨v, x, ρ, rfl, hv, hR, hbel⟩
    exact ⟨v, rfl, hR.value hv, hbel⟩
theorem own : ownKnob Try.prog.godebug = none := by kernel_rfl
theorem lifted {H : Type} (os : Os) (started : os.Started) (enc : TypeId × Value → H) : ReturnsInHanded {} Try.checked os 6 .any (Rows.greyPlaysSpec.pre6 enc Try.prog Try.f6 Rows.greyPlaysRow.domain false) (Rows.greyPlaysSpec.post enc Try.prog Try.f6 false true false false) :=
  law_lifted own started (by kernel_rfl) (by kernel_rfl)
    (ChangeSpec.witness6 (enc := enc) (C := Try.checked) false ⟨#[], #[.slice none 0 0], []⟩ 8 (by kernel_rfl) (by kernel_rfl) (by kernel_rfl) (by kernel_rfl))
    (tb := 4) (by kernel_rfl) (by kernel_rfl) rfl
    (fun ds hd => by
      match ds, hd with
      | [_], _ => exact ⟨rfl, rfl, rfl⟩)
    (by kernel_rfl) (by kernel_rfl) (fun W vals ha => core W vals (hts ▸ ha))
theorem proved : Rows.GreyPlaysSaid :=
  OpenClaim.holds_of_wide 6 Try.f6 rfl rfl rfl rfl rfl rfl rfl ⟨rfl, rfl, rfl, rfl, rfl⟩ rfl rfl rfl rfl rfl (by kernel_rfl) Try.func6 (by kernel_rfl) (of_decide_eq_true (by kernel_rfl))
    (by unfold Func.isWrapper; first | (rw [if_pos (by decide +kernel)]; kernel_rfl) | (rw [if_neg (by decide +kernel)]; exact ⟨rfl, rfl⟩))
    (fun os started H enc _ => lifted os started enc)
end Go.Proofs.Ytoebdddkdmehcaa.GreyPlays
