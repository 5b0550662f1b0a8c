/-
  'same' of a law's package: two memories that have the same words (and traps) are told to be the same, and stay as they are.
-/
import Derived.Test.YtkbleapcnbphjaaGreatTSame
namespace Go.Proofs.YtkbleapcnbphjaaGreat.Same
open Go Go.RowKit Go.Proofs.YtkbleapcnbphjaaGreat.Eng
set_option linter.unusedVariables false
set_option linter.unusedSimpArgs false
set_option maxRecDepth 20000
theorem tabS_ok : ∀ p ∈ tabS, FunOK MS Tryz.prog p.1 p.2 := tab_cons Clone.ok tabM_ok
theorem codeOK (c : Code) : CodeOK MS Tryz.prog c (ev c) :=
  evCode_sound progOK (fun f args hp nid r h _ => evF_sound progOK (lookH_ok tabS_ok) 100 19 f args hp nid r h) 100 c
theorem hb : Tryz.f18.body = some body := by kernel_rfl
theorem rest : (Eng.spine 3 body).2 = .seq (.seq (codeAt body [true, true, true, false, false]) (.block 0 (.loop (codeAt body [true, true, true, false, true, false, false])))) (codeAt body [true, true, true, true]) := by kernel_rfl
def sI : Intr MObj := fun args hp nid => match args, hp, nid with
  | [.s (.one (.ptr 0 0)), .s (.one (.ptr 1 0))], [(0, some (.abs (.mem ty xs c t))), (1, some (.abs (.mem ty' ys c2 t2)))], 2 => .chk (Nat.beq ty 110 && Nat.beq ty' 66) "same: types" (.ite (decide (xs = ys) && (decide (t = t2) && (decide (0 < xs.length) && (decide (xs.length ≤ 1000000) && (decide (0 ≤ c) && decide (c ≤ 1000000000))))))
    (.ok ⟨.v (.bool (.lit true)), [(0, some (.abs (.mem 110 xs c t))), (1, some (.abs (.mem 66 xs c2 t)))], [0, 1], 2⟩) (.no "same: sizes"))
  | _, _, _ => .no "same: arguments"
abbrev hpE (xs : List Int) (c t c2 : Int) : HP MObj := [(0, some (.abs (.mem 110 xs c t))), (1, some (.abs (.mem 66 xs c2 t)))]
theorem res (js : Nat → SV) (hp : HP MObj) (x2 x3 : SV) : vresults Tryz.prog (⟨[.v (.ptr 0 0), .v (.ptr 1 0), x2, x3, .v (.bool (.lit true))] ++ junk js 36 5, hp, 2, []⟩ : St MObj) Tryz.f18.results.toList = .ok [.one (.bool (.lit true))] := by kernel_rfl
abbrev Post (xs : List Int) (c t c2 : Int) : VX → St MObj → Prop := fun x st => (x = .normal ∨ x = .ret) ∧ (∀ b, hget st.hp b = hget (hpE xs c t c2) b) ∧ st.nid = 2 ∧ ∃ l, (vresults Tryz.prog st Tryz.f18.results.toList).run = some l ∧ tupleOf l = .v (.bool (.lit true))
section
variable {xs : List Int} {c t c2 : Int} {E : Ctx MObj} (hE : E.nid0 = 2) (hT : E.top = 10) (hD : ∀ b, E.D b) (hn : 0 < xs.length ∧ xs.length ≤ 1000000) (hc : 0 ≤ c ∧ c ≤ 1000000000)
include hE hT hD hn hc
theorem tri0 : Tri MS Tryz.prog E body ⟨pre0, hp0 xs c t c2 t, 4, []⟩ (Post xs c t c2) := by
  have ht : ∀ {k : Nat}, Nat.ble k 10 = true → k ≤ E.top := fun h => by rw [hT]; exact Nat.le_of_ble_eq_true h
  refine Tri.listR (m := 7) (n := 34) (l := (Eng.spine 3 body).1) codeOK 3 rfl rest (s0 xs c t c2 t hn hc) (Tr.all_ok ⟨rfl, rfl, ht rfl, fun b _ => hD b, fun js => ?_⟩)
  refine Tri.seq (R := fun x s => x = .normal ∧ ∃ a cc js, s = (⟨pre (.t []) (.t []) false a ++ junk js 34 7, hp0 xs c t c2 t ++ [(4, some (memA xs cc t))], 5, []⟩ : St MObj)) ?_ ?_ (fun x s hx hh => absurd hh.1 hx)
  · refine Tri.seq (R := fun x s => x = .normal ∧ ∃ js, s = ⟨(i0_l0 xs c t c2 t c (.t []) (.t [])).pre ++ junk js 34 7, hp0 xs c t c2 t ++ [(4, some (memA xs c t))], 5, []⟩) (Tri.allR (m := 7) (n := 34) (codeOK _) (i0 xs c t c2 t c (.t []) (.t []) (.t []) js hn hc) (Tr.all_ok ⟨rfl, ht rfl, fun b _ => hD b, fun js => ⟨rfl, js, rfl⟩⟩)) ?_ (fun x s hx hh => absurd hh.1 hx)
    rintro s ⟨_, js, rfl⟩
    refine Tri.preWk (pre' := pre (.t []) (.t []) false 0) (hp' := hp0 xs c t c2 t ++ [(4, some (memA xs c t))]) (by (repeat' apply And.intro) <;> first | rfl | trivial) (by (repeat' apply And.intro) <;> first | rfl | trivial) ?_
    refine Tri.block (R := fun x s => x = .exit 0 ∧ ∃ a cc js, s = (⟨pre (.t []) (.t []) false a ++ junk js 34 7, hp0 xs c t c2 t ++ [(4, some (memA xs cc t))], 5, []⟩ : St MObj)) ?_ (fun s hh => by
      rcases hh with hh | hh
      · cases hh.1
      · exact ⟨rfl, hh.2⟩) (fun x s _ hx hh => absurd hh.1 hx)
    refine Tri.loop (J := fun k s => ∃ a cc js, s = (⟨pre (.t []) (.t []) false a ++ junk js 34 7, hp0 xs c t c2 t ++ [(4, some (memA xs cc t))], 5, []⟩ : St MObj) ∧ (0 ≤ a ∧ a ≤ xs.length) ∧ cc = c + a ∧ k = (xs.length - a).toNat) ?_ (k := ((xs.length : Int) - 0).toNat) ⟨0, c, js, rfl, by omega, by omega, rfl⟩
    rintro k s ⟨a, cc, js, rfl, ha, hcc, hk⟩
    refine Tri.allR (m := 7) (n := 34) (codeOK _) (r0 xs c t c2 t cc a (.t []) (.t []) js hn hc (by omega) ha) (Tr.all_ite (fun h1 => Tr.all_ok ⟨rfl, ht rfl, fun b _ => hD b, fun js => ?_⟩) fun _ => Tr.all_ok ⟨rfl, ht rfl, fun b _ => hD b, fun js => ⟨rfl, a, cc, js, rfl⟩⟩)
    have h1 := of_decide_eq_true h1
    have e4 : W (a + 1) = a + 1 := wrap_i64_of (by omega) (by omega)
    exact ⟨((xs.length : Int) - (a + 1)).toNat, by omega, W (a + 1), cc + 1, js, rfl, by omega, by omega, by rw [e4]⟩
  · rintro s ⟨_, a, cc, js, rfl⟩
    refine Tri.postE (Q := fun x s => x = .ret ∧ ∃ js, s = ⟨(f0_l0 xs c t c2 t cc a (.t []) (.t [])).pre ++ junk js 34 7, (f0_l0 xs c t c2 t cc a (.t []) (.t [])).hp, 5, []⟩) (Tri.allR (m := 7) (n := 34) (codeOK _) (f0 xs c t c2 t cc a (.t []) (.t []) js hn hc) (Tr.all_ok ⟨rfl, ht rfl, fun b _ => hD b, fun js => ⟨rfl, js, rfl⟩⟩)) ?_
    rintro x s ac w ⟨rfl, js, rfl⟩ hat
    have im : IsMem 57 131 (hget (f0_l0 xs c t c2 t cc a (.t []) (.t [])).hp) 1 2 3 66 xs c2 t := ⟨by decide, by decide, by decide, ⟨.sym xs.length, _, _, _, rfl, rfl, .inl ⟨rfl, rfl⟩, rfl, rfl⟩, rfl⟩
    have h2 := at_memfold im (hD 1) (hD 2) (hD 3) hat
    obtain ⟨js', h3⟩ := at_rename (dirty' := []) (m := 5) (n := 36) [(0, 0), (1, 1)] (nid' := 2) rfl (by simp [length_junk]) rfl rfl (by rw [hE]; rfl) (by omega) (by omega) h2
    have h4 := at_wk (dirty' := []) (pre' := [.v (.ptr 0 0), .v (.ptr 1 0), .t [], .t [], .v (.bool (.lit true))]) (hp' := hpE xs c t c2) (by (repeat' apply And.intro) <;> first | rfl | trivial | (show (t == t) = true; simp)) (by (repeat' apply And.intro) <;> first | rfl | trivial) h3
    exact ⟨_, h4, .inr rfl, fun b => rfl, rfl, _, (congrArg Tr.run (res _ _ _ _)).trans rfl, rfl⟩
theorem tri1 (ls : List (List Int)) (hl : 0 < ls.length ∧ ls.length ≤ c2.toNat) : Tri MS Tryz.prog E body ⟨pre0, hp1 xs c t c2 t ls, 4, []⟩ (Post xs c t c2) := by
  have ht : ∀ {k : Nat}, Nat.ble k 10 = true → k ≤ E.top := fun h => by rw [hT]; exact Nat.le_of_ble_eq_true h
  refine Tri.listR (m := 7) (n := 34) (l := (Eng.spine 3 body).1) codeOK 3 rfl rest (s1 xs c t c2 t ls hn hc) (Tr.all_ok ⟨rfl, rfl, ht rfl, fun b _ => hD b, fun js => ?_⟩)
  refine Tri.seq (R := fun x s => x = .normal ∧ ∃ a cc js, s = (⟨pre (.t []) (.t []) false a ++ junk js 34 7, hp1 xs c t c2 t ls ++ [(4, some (memA xs cc t))], 5, []⟩ : St MObj)) ?_ ?_ (fun x s hx hh => absurd hh.1 hx)
  · refine Tri.seq (R := fun x s => x = .normal ∧ ∃ js, s = ⟨(i1_l0 xs c t c2 t ls c (.t []) (.t [])).pre ++ junk js 34 7, hp1 xs c t c2 t ls ++ [(4, some (memA xs c t))], 5, []⟩) (Tri.allR (m := 7) (n := 34) (codeOK _) (i1 xs c t c2 t ls c (.t []) (.t []) (.t []) js hn hc) (Tr.all_ok ⟨rfl, ht rfl, fun b _ => hD b, fun js => ⟨rfl, js, rfl⟩⟩)) ?_ (fun x s hx hh => absurd hh.1 hx)
    rintro s ⟨_, js, rfl⟩
    refine Tri.preWk (pre' := pre (.t []) (.t []) false 0) (hp' := hp1 xs c t c2 t ls ++ [(4, some (memA xs c t))]) (by (repeat' apply And.intro) <;> first | rfl | trivial) (by (repeat' apply And.intro) <;> first | rfl | trivial) ?_
    refine Tri.block (R := fun x s => x = .exit 0 ∧ ∃ a cc js, s = (⟨pre (.t []) (.t []) false a ++ junk js 34 7, hp1 xs c t c2 t ls ++ [(4, some (memA xs cc t))], 5, []⟩ : St MObj)) ?_ (fun s hh => by
      rcases hh with hh | hh
      · cases hh.1
      · exact ⟨rfl, hh.2⟩) (fun x s _ hx hh => absurd hh.1 hx)
    refine Tri.loop (J := fun k s => ∃ a cc js, s = (⟨pre (.t []) (.t []) false a ++ junk js 34 7, hp1 xs c t c2 t ls ++ [(4, some (memA xs cc t))], 5, []⟩ : St MObj) ∧ (0 ≤ a ∧ a ≤ xs.length) ∧ cc = c + a ∧ k = (xs.length - a).toNat) ?_ (k := ((xs.length : Int) - 0).toNat) ⟨0, c, js, rfl, by omega, by omega, rfl⟩
    rintro k s ⟨a, cc, js, rfl, ha, hcc, hk⟩
    refine Tri.allR (m := 7) (n := 34) (codeOK _) (r1 xs c t c2 t ls cc a (.t []) (.t []) js hn hc (by omega) ha) (Tr.all_ite (fun h1 => Tr.all_ok ⟨rfl, ht rfl, fun b _ => hD b, fun js => ?_⟩) fun _ => Tr.all_ok ⟨rfl, ht rfl, fun b _ => hD b, fun js => ⟨rfl, a, cc, js, rfl⟩⟩)
    have h1 := of_decide_eq_true h1
    have e4 : W (a + 1) = a + 1 := wrap_i64_of (by omega) (by omega)
    exact ⟨((xs.length : Int) - (a + 1)).toNat, by omega, W (a + 1), cc + 1, js, rfl, by omega, by omega, by rw [e4]⟩
  · rintro s ⟨_, a, cc, js, rfl⟩
    refine Tri.postE (Q := fun x s => x = .ret ∧ ∃ js, s = ⟨(f1_l0 xs c t c2 t ls cc a (.t []) (.t [])).pre ++ junk js 34 7, (f1_l0 xs c t c2 t ls cc a (.t []) (.t [])).hp, 5, []⟩) (Tri.allR (m := 7) (n := 34) (codeOK _) (f1 xs c t c2 t ls cc a (.t []) (.t []) js hn hc) (Tr.all_ok ⟨rfl, ht rfl, fun b _ => hD b, fun js => ⟨rfl, js, rfl⟩⟩)) ?_
    rintro x s ac w ⟨rfl, js, rfl⟩ hat
    have im : IsMem 57 131 (hget (f1_l0 xs c t c2 t ls cc a (.t []) (.t [])).hp) 1 2 3 66 xs c2 t := ⟨by decide, by decide, by decide, ⟨.sym xs.length, _, _, _, rfl, rfl, (.inr ⟨.sym ls.length, ls, rfl, rfl, rfl, hl⟩), rfl, rfl⟩, rfl⟩
    have h2 := at_memfold im (hD 1) (hD 2) (hD 3) hat
    obtain ⟨js', h3⟩ := at_rename (dirty' := []) (m := 5) (n := 36) [(0, 0), (1, 1)] (nid' := 2) rfl (by simp [length_junk]) rfl rfl (by rw [hE]; rfl) (by omega) (by omega) h2
    have h4 := at_wk (dirty' := []) (pre' := [.v (.ptr 0 0), .v (.ptr 1 0), .t [], .t [], .v (.bool (.lit true))]) (hp' := hpE xs c t c2) (by (repeat' apply And.intro) <;> first | rfl | trivial | (show (t == t) = true; simp)) (by (repeat' apply And.intro) <;> first | rfl | trivial) h3
    exact ⟨_, h4, .inr rfl, fun b => rfl, rfl, _, (congrArg Tr.run (res _ _ _ _)).trans rfl, rfl⟩
end
theorem ok : FunOK MS Tryz.prog 18 (renI sI) := by
  refine funOK_ren (funOK_tri Tryz.func18 hb ?_)
  intro args hp nid r hrun
  unfold sI at hrun
  split at hrun
  · rename_i ty xs c t ty' ys c2 t2
    rw [Tr.run_chk, Tr.run_ite, Bool.and_eq_true] at hrun
    obtain ⟨⟨hT, hT'⟩, hrun⟩ := hrun
    obtain rfl := Nat.eq_of_beq_eq_true hT
    obtain rfl := Nat.eq_of_beq_eq_true hT'
    rcases hrun with ⟨hc, hrun⟩ | ⟨_, hrun⟩
    · rw [Tr.run_ok] at hrun
      subst hrun
      simp only [Bool.and_eq_true, decide_eq_true_eq] at hc
      obtain ⟨rfl, rfl, h1, h2, h3, h4⟩ := hc
      refine ⟨by show 2 ≤ 2; omega, fun b o hb ho => ?_, 10, by show 2 ≤ 10; omega, fun E hE hT hD hr => ?_⟩
      · match b, hb, ho with
        | b + 2, _, ho => cases ho
      · have hD' : ∀ b, E.D b := fun b => by
          match b with
          | 0 => exact hr 0 (by simp)
          | 1 => exact hr 1 (by simp)
          | b + 2 => exact hD _ (by omega)
        refine Tri.preE fun a w hat => ?_
        obtain ⟨tr, o2, htr, hk, hat2⟩ := at_memopen (b := 1) rfl (hD' 1) (by rw [hT]; omega) hat
        rcases htr with ⟨rfl, rfl⟩ | ⟨ls, rfl, rfl, hl⟩
        · exact ⟨_, hat2, (tri0 hE hT hD' ⟨h1, h2⟩ ⟨h3, h4⟩)⟩
        · exact ⟨_, hat2, (tri1 hE hT hD' ⟨h1, h2⟩ ⟨h3, h4⟩ ls hl)⟩
    · cases hrun
  · cases hrun
end Go.Proofs.YtkbleapcnbphjaaGreat.Same
