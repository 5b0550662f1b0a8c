/-
  taken of flitlaw09: a block that is taken (or none), as a function of the plan, the words and the class.
-/
import Derived.Test.YtmhfaaccoojbjaaTTaken
import Derived.Test.YtmhfaaccoojbjaaEvLC9
namespace Go.Proofs.Ytmhfaaccoojbjaa.Taken
open Go Go.RowKit Go.Proofs.Ytmhfaaccoojbjaa.Eng
set_option linter.unusedVariables false
set_option linter.unusedSimpArgs false
set_option maxRecDepth 20000
theorem gBlk_ok : FunOK MS Try.prog 49 (pureT MObj gBlk) := funOK_calls fun args v hv => by
  unfold gBlk at hv
  split at hv
  · rename_i t b u h s a
    rw [Tr.run_ite] at hv
    rcases hv with ⟨hc, hv⟩ | ⟨_, hv⟩
    · rw [Tr.run_ok] at hv
      subst hv
      simp only [Bool.and_eq_true, decide_eq_true_eq] at hc
      exact ⟨rfl, RB.calls hc.1.1 hc.1.2 hc.2⟩
    · cases hv
  · cases hv
theorem tabK_ok : ∀ p ∈ tabK, FunOK MS Try.prog p.1 p.2 := tab_cons gBlk_ok (tab_cons L9.iCarve_ok LF09.tabT_ok)
theorem codeOK (c : Code) : CodeOK MS Try.prog c (ev c) :=
  evCode_sound progOK (fun f args hp nid r h _ => evF_sound progOK (lookH_ok tabK_ok) 100 19 f args hp nid r h) 100 c
theorem hb : Try.f24.body = some body := by kernel_rfl
theorem funOKz_sym {f : FuncId} {i : Intr MObj} (hi : FunOKz MS Try.prog f i) : FunOKz MS Try.prog f (symI i) := by
  intro args hp nid r hrun B ρ F w vargs hhr hargs
  exact hi _ _ _ r hrun B ρ F w vargs (HR_symHP hhr) ((F2_map fun _ _ => RS_symW).2 hargs)
noncomputable def mkR (l : Lf MObj) : CR MObj := ⟨l.pre.getD 6 .undef, [(0, hget l.hp 0), (1, hget l.hp 1)], [0, 1], 2⟩
def okP (p1 p2 p3 p4 c : Int) (xs : List Int) : Bool := (decide ((xs.length : Int) = p4) && decide (p4 = p3 + 32 * p1)) && ((decide (1 ≤ p1 ∧ p1 ≤ 8) && decide (10 ≤ p2 ∧ p2 + p1 ≤ p3)) && (decide (p3 ≤ 1000) && decide (0 ≤ c ∧ c ≤ 100000)))
noncomputable def cI : Intr MObj := fun args hp nid => match args, hp, nid with
  | [.s (.agg [.int .i64 (.sym p0), .int .i64 (.sym p1), .int .i64 (.sym p2), .int .i64 (.sym p3), .int .i64 (.sym p4)]), .s (.one (.ptr 0 0)), .s (.one (.int .i64 (.sym cl)))], [(0, some (.abs (.mem ty xs c t)))], 1 =>
    .chk (Nat.beq ty 95) "taken: type" (.ite (okP p1 p2 p3 p4 c xs)
      (.ite (decide (mAt (List.getD xs 2 0) = 0))
        (.ite (decide (cl = 0)) (.ok (mkR (e0_l0 p0 p1 p2 p3 p4 c t xs))) (.ite (decide (cl = 1)) (.ok (mkR (e1_l0 p0 p1 p2 p3 p4 c t xs))) (.ite (decide (cl = 2)) (.ok (mkR (e2_l0 p0 p1 p2 p3 p4 c t xs))) (.no "taken: class"))))
        (.ite (decide (1 ≤ mAt (List.getD xs 2 0) ∧ mAt (List.getD xs 2 0) ≤ p1))
          (.ite (decide (cl = 0)) (.ok (mkR (t0_l0 p0 p1 p2 p3 p4 c t xs))) (.ite (decide (cl = 1)) (.ok (mkR (t1_l0 p0 p1 p2 p3 p4 c t xs))) (.ite (decide (cl = 2)) (.ok (mkR (t2_l0 p0 p1 p2 p3 p4 c t xs))) (.no "taken: class"))))
          (.no "taken: block"))) (.no "taken: plan"))
  | _, _, _ => .no "taken: arguments"
theorem res (a0 a2 x4 x5 : SV) (r : Int) (hp : HP MObj) (js : Nat → SV) : vresults Try.prog (⟨[a0, .v (.ptr 0 0), a2, .v (.ptr 1 0), x4, x5, .v (ii r)] ++ junk js 24 7, hp, 2, []⟩ : St MObj) Try.f24.results.toList = .ok [.one (ii r)] := by kernel_rfl
section
variable {p0 p1 p2 p3 p4 c t : Int} {xs : List Int} (hx : (xs.length : Int) = p4) (hp : p4 = p3 + 32 * p1) (h1 : 1 ≤ p1 ∧ p1 ≤ 8) (h2 : 10 ≤ p2 ∧ p2 + p1 ≤ p3) (h3 : p3 ≤ 1000) (hc : 0 ≤ c ∧ c ≤ 100000) (E : Ctx MObj) (hE : E.nid0 = 1) (hT : E.top = 20) (hD : ∀ b, 1 ≤ b → E.D b) (h0 : E.D 0)
include hx hp h1 h2 h3 hc hE hT hD h0
abbrev Post (r : CR MObj) : VX → St MObj → Prop := fun x st => (x = .normal ∨ x = .ret) ∧ (∀ b, hget st.hp b = hget r.hp b) ∧ st.nid = r.nid ∧ ∃ l, (vresults Try.prog st Try.f24.results.toList).run = some l ∧ tupleOf l = r.val
theorem trie0 (ha : mAt (List.getD xs 2 0) = 0) : Tri MS Try.prog E body ⟨[.s (.agg [ii p0, ii p1, ii p2, ii p3, ii p4]), .v (.ptr 0 0), .v (ii 0)] ++ List.replicate (nt - 3) .undef, [(0, some (.abs (.mem 95 xs c t)))], 1, []⟩ (Post (mkR (e0_l0 p0 p1 p2 p3 p4 c t xs))) := by
  have hd : ∀ (l : List Nat), l.all (fun b => Nat.beq b 0 || Nat.ble 1 b) = true → ∀ b, b ∈ l → E.D b := fun l hl b hb => by
    have := List.all_eq_true.1 hl b hb
    simp only [Bool.or_eq_true] at this
    rcases this with h | h
    · rw [Nat.eq_of_beq_eq_true h]; exact h0
    · exact hD b (Nat.le_of_ble_eq_true h)
  have ht : ∀ {k : Nat}, Nat.ble k 20 = true → k ≤ E.top := fun h => by rw [hT]; exact Nat.le_of_ble_eq_true h
  refine Tri.postE (Q := fun x s => x = .ret ∧ ∃ js, s = ⟨(e0_l0 p0 p1 p2 p3 p4 c t xs).pre ++ junk js 24 7, (e0_l0 p0 p1 p2 p3 p4 c t xs).hp, (e0_l0 p0 p1 p2 p3 p4 c t xs).nid, []⟩) (Tri.allR (m := 7) (n := 24) (codeOK _) (e0 p0 p1 p2 p3 p4 c t xs hx hp h1 h2 h3 hc ha) (Tr.all_ok ⟨rfl, ht rfl, hd _ rfl, fun js => ⟨rfl, js, rfl⟩⟩)) ?_
  rintro x s a w ⟨rfl, js, rfl⟩ hat
  obtain ⟨js', h9⟩ := at_rename (dirty' := []) (nid' := 2) (m := 7) (n := 24) [(0, 0), (1, 1)] rfl (by simp [length_junk]) rfl rfl (by rw [hE]; rfl) (by omega) (by omega) hat
  exact ⟨_, h9, .inr rfl, fun b => rfl, rfl, _, (congrArg Tr.run (res _ _ _ _ _ _ js')).trans rfl, rfl⟩
theorem trie1 (ha : mAt (List.getD xs 2 0) = 0) : Tri MS Try.prog E body ⟨[.s (.agg [ii p0, ii p1, ii p2, ii p3, ii p4]), .v (.ptr 0 0), .v (ii 1)] ++ List.replicate (nt - 3) .undef, [(0, some (.abs (.mem 95 xs c t)))], 1, []⟩ (Post (mkR (e1_l0 p0 p1 p2 p3 p4 c t xs))) := by
  have hd : ∀ (l : List Nat), l.all (fun b => Nat.beq b 0 || Nat.ble 1 b) = true → ∀ b, b ∈ l → E.D b := fun l hl b hb => by
    have := List.all_eq_true.1 hl b hb
    simp only [Bool.or_eq_true] at this
    rcases this with h | h
    · rw [Nat.eq_of_beq_eq_true h]; exact h0
    · exact hD b (Nat.le_of_ble_eq_true h)
  have ht : ∀ {k : Nat}, Nat.ble k 20 = true → k ≤ E.top := fun h => by rw [hT]; exact Nat.le_of_ble_eq_true h
  refine Tri.postE (Q := fun x s => x = .ret ∧ ∃ js, s = ⟨(e1_l0 p0 p1 p2 p3 p4 c t xs).pre ++ junk js 24 7, (e1_l0 p0 p1 p2 p3 p4 c t xs).hp, (e1_l0 p0 p1 p2 p3 p4 c t xs).nid, []⟩) (Tri.allR (m := 7) (n := 24) (codeOK _) (e1 p0 p1 p2 p3 p4 c t xs hx hp h1 h2 h3 hc ha) (Tr.all_ok ⟨rfl, ht rfl, hd _ rfl, fun js => ⟨rfl, js, rfl⟩⟩)) ?_
  rintro x s a w ⟨rfl, js, rfl⟩ hat
  obtain ⟨js', h9⟩ := at_rename (dirty' := []) (nid' := 2) (m := 7) (n := 24) [(0, 0), (1, 1)] rfl (by simp [length_junk]) rfl rfl (by rw [hE]; rfl) (by omega) (by omega) hat
  exact ⟨_, h9, .inr rfl, fun b => rfl, rfl, _, (congrArg Tr.run (res _ _ _ _ _ _ js')).trans rfl, rfl⟩
theorem trie2 (ha : mAt (List.getD xs 2 0) = 0) : Tri MS Try.prog E body ⟨[.s (.agg [ii p0, ii p1, ii p2, ii p3, ii p4]), .v (.ptr 0 0), .v (ii 2)] ++ List.replicate (nt - 3) .undef, [(0, some (.abs (.mem 95 xs c t)))], 1, []⟩ (Post (mkR (e2_l0 p0 p1 p2 p3 p4 c t xs))) := by
  have hd : ∀ (l : List Nat), l.all (fun b => Nat.beq b 0 || Nat.ble 1 b) = true → ∀ b, b ∈ l → E.D b := fun l hl b hb => by
    have := List.all_eq_true.1 hl b hb
    simp only [Bool.or_eq_true] at this
    rcases this with h | h
    · rw [Nat.eq_of_beq_eq_true h]; exact h0
    · exact hD b (Nat.le_of_ble_eq_true h)
  have ht : ∀ {k : Nat}, Nat.ble k 20 = true → k ≤ E.top := fun h => by rw [hT]; exact Nat.le_of_ble_eq_true h
  refine Tri.postE (Q := fun x s => x = .ret ∧ ∃ js, s = ⟨(e2_l0 p0 p1 p2 p3 p4 c t xs).pre ++ junk js 24 7, (e2_l0 p0 p1 p2 p3 p4 c t xs).hp, (e2_l0 p0 p1 p2 p3 p4 c t xs).nid, []⟩) (Tri.allR (m := 7) (n := 24) (codeOK _) (e2 p0 p1 p2 p3 p4 c t xs hx hp h1 h2 h3 hc ha) (Tr.all_ok ⟨rfl, ht rfl, hd _ rfl, fun js => ⟨rfl, js, rfl⟩⟩)) ?_
  rintro x s a w ⟨rfl, js, rfl⟩ hat
  obtain ⟨js', h9⟩ := at_rename (dirty' := []) (nid' := 2) (m := 7) (n := 24) [(0, 0), (1, 1)] rfl (by simp [length_junk]) rfl rfl (by rw [hE]; rfl) (by omega) (by omega) hat
  exact ⟨_, h9, .inr rfl, fun b => rfl, rfl, _, (congrArg Tr.run (res _ _ _ _ _ _ js')).trans rfl, rfl⟩
theorem trit0 (ha : 1 ≤ mAt (List.getD xs 2 0) ∧ mAt (List.getD xs 2 0) ≤ p1) : Tri MS Try.prog E body ⟨[.s (.agg [ii p0, ii p1, ii p2, ii p3, ii p4]), .v (.ptr 0 0), .v (ii 0)] ++ List.replicate (nt - 3) .undef, [(0, some (.abs (.mem 95 xs c t)))], 1, []⟩ (Post (mkR (t0_l0 p0 p1 p2 p3 p4 c t xs))) := by
  have hd : ∀ (l : List Nat), l.all (fun b => Nat.beq b 0 || Nat.ble 1 b) = true → ∀ b, b ∈ l → E.D b := fun l hl b hb => by
    have := List.all_eq_true.1 hl b hb
    simp only [Bool.or_eq_true] at this
    rcases this with h | h
    · rw [Nat.eq_of_beq_eq_true h]; exact h0
    · exact hD b (Nat.le_of_ble_eq_true h)
  have ht : ∀ {k : Nat}, Nat.ble k 20 = true → k ≤ E.top := fun h => by rw [hT]; exact Nat.le_of_ble_eq_true h
  refine Tri.postE (Q := fun x s => x = .ret ∧ ∃ js, s = ⟨(t0_l0 p0 p1 p2 p3 p4 c t xs).pre ++ junk js 24 7, (t0_l0 p0 p1 p2 p3 p4 c t xs).hp, (t0_l0 p0 p1 p2 p3 p4 c t xs).nid, []⟩) (Tri.allR (m := 7) (n := 24) (codeOK _) (t0 p0 p1 p2 p3 p4 c t xs hx hp h1 h2 h3 hc ha) (Tr.all_ok ⟨rfl, ht rfl, hd _ rfl, fun js => ⟨rfl, js, rfl⟩⟩)) ?_
  rintro x s a w ⟨rfl, js, rfl⟩ hat
  obtain ⟨js', h9⟩ := at_rename (dirty' := []) (nid' := 2) (m := 7) (n := 24) [(0, 0), (1, 1)] rfl (by simp [length_junk]) rfl rfl (by rw [hE]; rfl) (by omega) (by omega) hat
  exact ⟨_, h9, .inr rfl, fun b => rfl, rfl, _, (congrArg Tr.run (res _ _ _ _ _ _ js')).trans rfl, rfl⟩
theorem trit1 (ha : 1 ≤ mAt (List.getD xs 2 0) ∧ mAt (List.getD xs 2 0) ≤ p1) : Tri MS Try.prog E body ⟨[.s (.agg [ii p0, ii p1, ii p2, ii p3, ii p4]), .v (.ptr 0 0), .v (ii 1)] ++ List.replicate (nt - 3) .undef, [(0, some (.abs (.mem 95 xs c t)))], 1, []⟩ (Post (mkR (t1_l0 p0 p1 p2 p3 p4 c t xs))) := by
  have hd : ∀ (l : List Nat), l.all (fun b => Nat.beq b 0 || Nat.ble 1 b) = true → ∀ b, b ∈ l → E.D b := fun l hl b hb => by
    have := List.all_eq_true.1 hl b hb
    simp only [Bool.or_eq_true] at this
    rcases this with h | h
    · rw [Nat.eq_of_beq_eq_true h]; exact h0
    · exact hD b (Nat.le_of_ble_eq_true h)
  have ht : ∀ {k : Nat}, Nat.ble k 20 = true → k ≤ E.top := fun h => by rw [hT]; exact Nat.le_of_ble_eq_true h
  refine Tri.postE (Q := fun x s => x = .ret ∧ ∃ js, s = ⟨(t1_l0 p0 p1 p2 p3 p4 c t xs).pre ++ junk js 24 7, (t1_l0 p0 p1 p2 p3 p4 c t xs).hp, (t1_l0 p0 p1 p2 p3 p4 c t xs).nid, []⟩) (Tri.allR (m := 7) (n := 24) (codeOK _) (t1 p0 p1 p2 p3 p4 c t xs hx hp h1 h2 h3 hc ha) (Tr.all_ok ⟨rfl, ht rfl, hd _ rfl, fun js => ⟨rfl, js, rfl⟩⟩)) ?_
  rintro x s a w ⟨rfl, js, rfl⟩ hat
  obtain ⟨js', h9⟩ := at_rename (dirty' := []) (nid' := 2) (m := 7) (n := 24) [(0, 0), (1, 1)] rfl (by simp [length_junk]) rfl rfl (by rw [hE]; rfl) (by omega) (by omega) hat
  exact ⟨_, h9, .inr rfl, fun b => rfl, rfl, _, (congrArg Tr.run (res _ _ _ _ _ _ js')).trans rfl, rfl⟩
theorem trit2 (ha : 1 ≤ mAt (List.getD xs 2 0) ∧ mAt (List.getD xs 2 0) ≤ p1) : Tri MS Try.prog E body ⟨[.s (.agg [ii p0, ii p1, ii p2, ii p3, ii p4]), .v (.ptr 0 0), .v (ii 2)] ++ List.replicate (nt - 3) .undef, [(0, some (.abs (.mem 95 xs c t)))], 1, []⟩ (Post (mkR (t2_l0 p0 p1 p2 p3 p4 c t xs))) := by
  have hd : ∀ (l : List Nat), l.all (fun b => Nat.beq b 0 || Nat.ble 1 b) = true → ∀ b, b ∈ l → E.D b := fun l hl b hb => by
    have := List.all_eq_true.1 hl b hb
    simp only [Bool.or_eq_true] at this
    rcases this with h | h
    · rw [Nat.eq_of_beq_eq_true h]; exact h0
    · exact hD b (Nat.le_of_ble_eq_true h)
  have ht : ∀ {k : Nat}, Nat.ble k 20 = true → k ≤ E.top := fun h => by rw [hT]; exact Nat.le_of_ble_eq_true h
  refine Tri.postE (Q := fun x s => x = .ret ∧ ∃ js, s = ⟨(t2_l0 p0 p1 p2 p3 p4 c t xs).pre ++ junk js 24 7, (t2_l0 p0 p1 p2 p3 p4 c t xs).hp, (t2_l0 p0 p1 p2 p3 p4 c t xs).nid, []⟩) (Tri.allR (m := 7) (n := 24) (codeOK _) (t2 p0 p1 p2 p3 p4 c t xs hx hp h1 h2 h3 hc ha) (Tr.all_ok ⟨rfl, ht rfl, hd _ rfl, fun js => ⟨rfl, js, rfl⟩⟩)) ?_
  rintro x s a w ⟨rfl, js, rfl⟩ hat
  obtain ⟨js', h9⟩ := at_rename (dirty' := []) (nid' := 2) (m := 7) (n := 24) [(0, 0), (1, 1)] rfl (by simp [length_junk]) rfl rfl (by rw [hE]; rfl) (by omega) (by omega) hat
  exact ⟨_, h9, .inr rfl, fun b => rfl, rfl, _, (congrArg Tr.run (res _ _ _ _ _ _ js')).trans rfl, rfl⟩
end
theorem ok : FunOK MS Try.prog 24 (renI (symI cI)) := by
  refine funOK_ren (funOKz_sym (funOK_tri Try.func24 hb ?_))
  intro args hp nid r hrun
  unfold cI at hrun
  split at hrun
  · rename_i p0 p1 p2 p3 p4 cl ty xs c t
    rw [Tr.run_chk, Tr.run_ite] at hrun
    obtain ⟨hT, hrun⟩ := hrun
    obtain rfl := Nat.eq_of_beq_eq_true hT
    rcases hrun with ⟨hc, hrun⟩ | ⟨_, hrun⟩
    rotate_left
    · cases hrun
    simp only [okP, Bool.and_eq_true, decide_eq_true_eq] at hc
    obtain ⟨⟨hx, hp⟩, ⟨h1, h2⟩, h3, hc⟩ := hc
    simp only [Tr.run_ite, Tr.run_ok, decide_eq_true_eq, decide_eq_false_iff_not] at hrun
    rcases hrun with ⟨ha, ⟨rfl, hr⟩ | ⟨_, ⟨rfl, hr⟩ | ⟨_, ⟨rfl, hr⟩ | ⟨_, hr⟩⟩⟩⟩ | ⟨_, ⟨ha, ⟨rfl, hr⟩ | ⟨_, ⟨rfl, hr⟩ | ⟨_, ⟨rfl, hr⟩ | ⟨_, hr⟩⟩⟩⟩ | ⟨_, hr⟩⟩
    · subst hr
      refine ⟨by show 1 ≤ 2; omega, fun b o hb ho => ?_, 20, by show 2 ≤ 20; omega, fun E hE hT hD hr => trie0 hx hp h1 h2 h3 hc E hE hT hD (hr 0 (by simp [mkR])) ha⟩
      match b, hb, ho with
      | 0, hb, _ => exact absurd hb (by decide)
      | 1, _, _ => simp [mkR]
      | b + 2, _, ho => cases ho
    · subst hr
      refine ⟨by show 1 ≤ 2; omega, fun b o hb ho => ?_, 20, by show 2 ≤ 20; omega, fun E hE hT hD hr => trie1 hx hp h1 h2 h3 hc E hE hT hD (hr 0 (by simp [mkR])) ha⟩
      match b, hb, ho with
      | 0, hb, _ => exact absurd hb (by decide)
      | 1, _, _ => simp [mkR]
      | b + 2, _, ho => cases ho
    · subst hr
      refine ⟨by show 1 ≤ 2; omega, fun b o hb ho => ?_, 20, by show 2 ≤ 20; omega, fun E hE hT hD hr => trie2 hx hp h1 h2 h3 hc E hE hT hD (hr 0 (by simp [mkR])) ha⟩
      match b, hb, ho with
      | 0, hb, _ => exact absurd hb (by decide)
      | 1, _, _ => simp [mkR]
      | b + 2, _, ho => cases ho
    · cases hr
    · subst hr
      refine ⟨by show 1 ≤ 2; omega, fun b o hb ho => ?_, 20, by show 2 ≤ 20; omega, fun E hE hT hD hr => trit0 hx hp h1 h2 h3 hc E hE hT hD (hr 0 (by simp [mkR])) ha⟩
      match b, hb, ho with
      | 0, hb, _ => exact absurd hb (by decide)
      | 1, _, _ => simp [mkR]
      | b + 2, _, ho => cases ho
    · subst hr
      refine ⟨by show 1 ≤ 2; omega, fun b o hb ho => ?_, 20, by show 2 ≤ 20; omega, fun E hE hT hD hr => trit1 hx hp h1 h2 h3 hc E hE hT hD (hr 0 (by simp [mkR])) ha⟩
      match b, hb, ho with
      | 0, hb, _ => exact absurd hb (by decide)
      | 1, _, _ => simp [mkR]
      | b + 2, _, ho => cases ho
    · subst hr
      refine ⟨by show 1 ≤ 2; omega, fun b o hb ho => ?_, 20, by show 2 ≤ 20; omega, fun E hE hT hD hr => trit2 hx hp h1 h2 h3 hc E hE hT hD (hr 0 (by simp [mkR])) ha⟩
      match b, hb, ho with
      | 0, hb, _ => exact absurd hb (by decide)
      | 1, _, _ => simp [mkR]
      | b + 2, _, ho => cases ho
    · cases hr
    · cases hr
  · cases hrun
noncomputable def tabL : List (Nat × Intr MObj) := (24, renI (symI cI)) :: (49, pureT MObj gBlk) :: LC9.tabL
theorem tabL_ok : ∀ p ∈ tabL, FunOK MS Try.prog p.1 p.2 := tab_cons ok (tab_cons gBlk_ok LC9.tabL_ok)
end Go.Proofs.Ytmhfaaccoojbjaa.Taken
