/-
  Clone of a memory: a second one with the same words and counts.
-/
import Derived.Test.YtkbleapcnbphjaaGreatTClone
namespace Go.Proofs.YtkbleapcnbphjaaGreat.Clone
open Go Go.RowKit Go.Proofs.YtkbleapcnbphjaaGreat.Eng
set_option linter.unusedVariables false
set_option linter.unusedSimpArgs false
set_option maxRecDepth 20000
theorem codeOK (c : Code) : CodeOK MS Tryz.prog c (ev c) :=
  evCode_sound progOK (fun f args hp nid r h _ => evF_sound progOK (fun _ _ h => by cases h) 100 19 f args hp nid r h) 100 c
theorem hb : Tryz.f43.body = some body := by kernel_rfl
abbrev okC (xs : List Int) (c : Int) : Bool := decide (0 < xs.length) && (decide (xs.length ≤ 1099511627776) && okc c)
def cI : Intr MObj := fun args hp nid => match args, hp, nid with
  | [.s (.one (.ptr 0 0))], [(0, some (.abs (.mem ty xs c t)))], 1 => .chk (Nat.beq ty 110) "Clone: type" (.ite (okC xs c)
    (.ok ⟨.v (.ptr 1 0), [(0, some (.abs (.mem 110 xs c t))), (1, some (.abs (.mem 110 xs c t)))], [0, 1], 2⟩) (.no "Clone: size"))
  | _, _, _ => .no "Clone: arguments"
theorem res (js : Nat → SV) (hp : HP MObj) (x1 : SV) : vresults Tryz.prog (⟨[.v (.ptr 0 0), x1, .v (.ptr 1 0)] ++ junk js 20 3, hp, 2, []⟩ : St MObj) Tryz.f43.results.toList = .ok [.one (.ptr 1 0)] := by kernel_rfl
section
variable {xs : List Int} {c t : Int} {E : Ctx MObj} (hE : E.nid0 = 1) (hT : E.top = 10) (hD : ∀ b, 1 ≤ b → E.D b) (h0 : E.D 0) (hn : 0 < xs.length ∧ xs.length ≤ 1099511627776)
include hE hT hD h0 hn
abbrev Post (xs : List Int) (c t : Int) : VX → St MObj → Prop := fun x st => (x = .normal ∨ x = .ret) ∧ (∀ b, hget st.hp b = hget [(0, some (VObj.abs (MObj.mem 110 xs c t))), (1, some (VObj.abs (MObj.mem 110 xs c t)))] b) ∧ st.nid = 2 ∧ ∃ l, (vresults Tryz.prog st Tryz.f43.results.toList).run = some l ∧ tupleOf l = .v (.ptr 1 0)
theorem tri0 : Tri MS Tryz.prog E body ⟨[.v (.ptr 0 0)] ++ List.replicate (Tryz.f43.ntmps - 1) .undef, [(1, some (.tab [.int .u64] (rowsW xs) 57)), (0, some (memO 110 xs.length c t 1 .nils))], 3, []⟩ (Post xs c t) := by
  have hd : ∀ (l : List Nat), l.all (Nat.ble 1) = true → ∀ b, b ∈ l → E.D b := fun l hl b hb => hD b (Nat.le_of_ble_eq_true (List.all_eq_true.1 hl b hb))
  have ht : ∀ {k : Nat}, Nat.ble k 10 = true → k ≤ E.top := fun h => by rw [hT]; exact Nat.le_of_ble_eq_true h
  refine Tri.postE (Q := fun x s => x = .ret ∧ ∃ js, s = ⟨(b0_l0 xs c t).pre ++ junk js 20 3, (b0_l0 xs c t).hp, (b0_l0 xs c t).nid, []⟩) (Tri.allR (m := 3) (n := 20) (codeOK _) (b0 xs c t hn) (Tr.all_ok ⟨rfl, ht rfl, hd _ rfl, fun js => ⟨rfl, js, rfl⟩⟩)) ?_
  rintro x s a w ⟨rfl, js, rfl⟩ hat
  have h1 := at_memfold (b := 0) (x1 := 1) (x2 := 9) (ty := 110) (xs := xs) (c := c) (t := t) (isMem_nil rfl rfl rfl (by decide) (by decide) (by decide) rfl rfl rfl rfl) h0 (hD 1 (by decide)) (hD 9 (by decide)) hat
  have e1 : [] ++ List.take (List.length xs) (List.drop 0 (rowsW xs)) = rowsW xs := by rw [List.nil_append, List.drop_zero]; exact List.take_of_length_le (by simp [rowsW])
  have im : IsMem 57 131 (hget (putH 0 (.abs (.mem 110 xs c t)) [1, 9] (b0_l0 xs c t).hp)) 5 4 9 110 xs c t := ⟨by decide, by decide, by decide, ⟨.sym (0 + xs.length), _, _, _, rfl, Nat.zero_add _, .inl ⟨rfl, rfl⟩, rfl, rfl⟩, congrArg (fun r => some (VObj.tab [.int .u64] r 57)) e1⟩
  have h2 := at_memfold im (hD 5 (by decide)) (hD 4 (by decide)) (hD 9 (by decide)) h1
  obtain ⟨js', h3⟩ := at_rename (dirty' := []) (m := 3) (n := 20) [(0, 0), (5, 1)] (nid' := 2) rfl (by simp [length_junk]) rfl rfl (by rw [hE]; rfl) (by omega) (by omega) h2
  exact ⟨_, h3, .inr rfl, fun b => rfl, rfl, _, (congrArg Tr.run (res _ _ _)).trans rfl, rfl⟩
theorem tri1 (ls : List (List Int)) (hl : 0 < ls.length ∧ ls.length ≤ 1099511627776) (hlc : ls.length ≤ c.toNat) : Tri MS Tryz.prog E body ⟨[.v (.ptr 0 0)] ++ List.replicate (Tryz.f43.ntmps - 1) .undef, [(2, some (.tab ckA ls 131)), (1, some (.tab [.int .u64] (rowsW xs) 57)), (0, some (memO 110 xs.length c t 1 (.ts 2 (.lit 0) (.sym ls.length) none)))], 3, []⟩ (Post xs c t) := by
  have hd : ∀ (l : List Nat), l.all (Nat.ble 1) = true → ∀ b, b ∈ l → E.D b := fun l hl b hb => hD b (Nat.le_of_ble_eq_true (List.all_eq_true.1 hl b hb))
  have ht : ∀ {k : Nat}, Nat.ble k 10 = true → k ≤ E.top := fun h => by rw [hT]; exact Nat.le_of_ble_eq_true h
  refine Tri.postE (Q := fun x s => x = .ret ∧ ∃ js, s = ⟨(b1_l0 xs c t ls).pre ++ junk js 20 3, (b1_l0 xs c t ls).hp, (b1_l0 xs c t ls).nid, []⟩) (Tri.allR (m := 3) (n := 20) (codeOK _) (b1 xs c t ls hn hl) (Tr.all_ok ⟨rfl, ht rfl, hd _ rfl, fun js => ⟨rfl, js, rfl⟩⟩)) ?_
  rintro x s a w ⟨rfl, js, rfl⟩ hat
  have e1 : [] ++ List.take (List.length xs) (List.drop 0 (rowsW xs)) = rowsW xs := by rw [List.nil_append, List.drop_zero]; exact List.take_of_length_le (by simp [rowsW])
  have e2 : [] ++ List.take (List.length ls) (List.drop 0 ls) = ls := by simp
  have h1 := at_memfold (b := 0) (x1 := 1) (x2 := 2) (ty := 110) (xs := xs) (c := c) (t := t) ⟨by decide, by decide, by decide, ⟨.sym xs.length, _, _, _, rfl, rfl, .inr ⟨.sym ls.length, ls, rfl, rfl, rfl, hl.1, hlc⟩, rfl, rfl⟩, rfl⟩ h0 (hD 1 (by decide)) (hD 2 (by decide)) hat
  have im : IsMem 57 131 (hget (putH 0 (.abs (.mem 110 xs c t)) [1, 2] (b1_l0 xs c t ls).hp)) 7 4 6 110 xs c t := ⟨by decide, by decide, by decide, ⟨.sym (0 + xs.length), _, _, _, rfl, Nat.zero_add _, .inr ⟨.sym (0 + ls.length), ls, rfl, congrArg (fun r => some (VObj.tab ckA r 131)) e2, Nat.zero_add _, hl.1, hlc⟩, rfl, rfl⟩, congrArg (fun r => some (VObj.tab [.int .u64] r 57)) e1⟩
  have h2 := at_memfold im (hD 7 (by decide)) (hD 4 (by decide)) (hD 6 (by decide)) h1
  obtain ⟨js', h3⟩ := at_rename (dirty' := []) (m := 3) (n := 20) [(0, 0), (7, 1)] (nid' := 2) rfl (by simp [length_junk]) rfl rfl (by rw [hE]; rfl) (by omega) (by omega) h2
  exact ⟨_, h3, .inr rfl, fun b => rfl, rfl, _, (congrArg Tr.run (res _ _ _)).trans rfl, rfl⟩
end
theorem ok : FunOK MS Tryz.prog 43 (renI cI) := by
  refine funOK_ren (funOK_tri Tryz.func43 hb ?_)
  intro args hp nid r hrun
  unfold cI at hrun
  split at hrun
  · rename_i ty xs c t
    rw [Tr.run_chk, Tr.run_ite] at hrun
    obtain ⟨hT, hrun⟩ := hrun
    obtain rfl := Nat.eq_of_beq_eq_true hT
    rcases hrun with ⟨hc, hrun⟩ | ⟨_, hrun⟩
    · rw [Tr.run_ok] at hrun
      subst hrun
      simp only [okC, Bool.and_eq_true, decide_eq_true_eq, okc_iff] at hc
      refine ⟨by show 1 ≤ 2; omega, fun b o hb ho => ?_, 10, by show 2 ≤ 10; omega, fun E hE hT hD hr => ?_⟩
      · match b, hb, ho with
        | 1, _, _ => simp
        | b + 2, _, ho => cases ho
      · have h0 : E.D 0 := hr 0 (by simp)
        refine Tri.preE fun a w hat => ?_
        obtain ⟨tr, o2, htr, hk, hat2⟩ := at_memopen (b := 0) rfl h0 (by rw [hT]; omega) hat
        rcases htr with ⟨rfl, rfl⟩ | ⟨ls, rfl, rfl, hl⟩
        · exact ⟨_, hat2, tri0 hE hT hD h0 ⟨hc.1, hc.2.1⟩⟩
        · exact ⟨_, hat2, tri1 hE hT hD h0 ⟨hc.1, hc.2.1⟩ ls ⟨hl.1, by omega⟩ hl.2⟩
    · cases hrun
  · cases hrun
end Go.Proofs.YtkbleapcnbphjaaGreat.Clone
