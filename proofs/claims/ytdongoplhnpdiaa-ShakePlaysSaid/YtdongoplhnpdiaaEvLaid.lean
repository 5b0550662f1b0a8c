/-
  laid of flitlaw16 as a contract: the words of both memories as a function of the tags and the sentinel.
-/
import Derived.Test.YtdongoplhnpdiaaTLaid
import Derived.Test.YtdongoplhnpdiaaEngZe
namespace Go.Proofs.Ytdongoplhnpdiaa.Laid
open Go Go.RowKit Go.Proofs.Ytdongoplhnpdiaa.Eng
set_option linter.unusedVariables false
set_option linter.unusedSimpArgs false
set_option linter.unusedSectionVars false
set_option maxRecDepth 20000
theorem tabS_ok : ∀ p ∈ tabS, FunOK MS Try.prog p.1 p.2 := tab_cons L16.kind_ok (tab_append tabM_ok (tab_append L16.tab2p_ok L16.tab5p_ok))
theorem codeOK (c : Code) : CodeOK MS Try.prog c (ev c) :=
  evCode_sound progOK (fun f args hp nid r h _ => evF_sound progOK (lookH_ok tabS_ok) 100 19 f args hp nid r h) 100 c
theorem hb : Try.f7.body = some body := by kernel_rfl
theorem funOKz_sym {f : FuncId} {i : Intr MObj} (hi : FunOKz MS Try.prog f i) : FunOKz MS Try.prog f (symI i) := by
  intro args hp nid r hrun B ρ F w vargs hhr hargs
  exact hi _ _ _ r hrun B ρ F w vargs (HR_symHP hhr) ((F2_map fun _ _ => RS_symW).2 hargs)
/-- Whether an object was moved; its header; the words. -/
def mv (ls : List (List Int)) (i : Nat) : Bool := decide (i < 8) && (decide (i < ls.length) && (kM (tabAt ls i 0) 3 == 2))
def hdr (ls : List (List Int)) (i : Nat) : Int := if mv ls i = true then mWord 1 0 3 0 0 2 (96 + 4 * ((i : Int) + 8)) else mWord 1 0 3 0 0 0 0
def lx (ls : List (List Int)) : Nat → List Int
  | 0 => List.replicate 160 0
  | k + 1 => (lx ls k).set (96 + 4 * k) (hdr ls k)
theorem lx_len (ls : List (List Int)) : ∀ k, (lx ls k).length = 160
  | 0 => List.length_replicate ..
  | k + 1 => by
    show ((lx ls k).set _ _).length = 160
    rw [List.length_set]; exact lx_len ls k
def lxF (ls : List (List Int)) (al : Int) : List Int := (lx ls 16).set 9 (IntKind.wrap IntKind.u64 (kM al 1000))
theorem lxF_len (ls : List (List Int)) (al : Int) : (lxF ls al).length = 160 := by unfold lxF; rw [List.length_set]; exact lx_len ls 16
def fitI (a : Int) : Bool := decide (-9223372036854775808 ≤ a) && decide (a ≤ 9223372036854775807)
def fitB (ls : List (List Int)) : Bool := ls.all fun r => fitI (r.getD 0 0)
theorem fitB_of {ls : List (List Int)} (h : RFits [.int .i64] ls) : fitB ls = true := by
  unfold fitB
  rw [List.all_eq_true]
  intro r hr
  obtain ⟨i, hi, rfl⟩ := List.getElem_of_mem hr
  have f0 : CK.fits (.int .i64) (tabAt ls i 0) := tab_fits h hi rfl
  have e : ls.getD i [] = ls[i] := by simp [hi]
  unfold tabAt at f0
  rw [e] at f0
  have f0 : -9223372036854775808 ≤ ls[i].getD 0 0 ∧ ls[i].getD 0 0 ≤ 9223372036854775807 := f0
  simp only [fitI, Bool.and_eq_true, decide_eq_true_eq]
  exact f0
theorem fitB_at {ls : List (List Int)} (h : fitB ls = true) {i : Nat} (hi : i < ls.length) (n : Int) (hn : 0 < n) : 0 ≤ kM (tabAt ls i 0) n ∧ kM (tabAt ls i 0) n < n := by
  have h := List.all_eq_true.1 h ls[i] (List.getElem_mem hi)
  simp only [fitI, Bool.and_eq_true, decide_eq_true_eq] at h
  have e : ls.getD i [] = ls[i] := by simp [hi]
  unfold tabAt
  rw [e]
  exact kM_range hn h
theorem W_of {x : Int} (h : -100000 ≤ x) (h2 : x ≤ 100000) : W x = x := by simp only [W, wrap64]; omega
theorem res (x0 x1 x2 x3 x6 x7 x8 x9 x10 x11 x12 : SV) (hp : HP MObj) (nid : Nat) (js : Nat → SV) : vresults Try.prog (⟨[x0, x1, x2, x3, .v (.ptr 1 0), .v (.ptr 2 0), x6, x7, x8, x9, x10, x11, x12] ++ junk js 72 13, hp, nid, []⟩ : St MObj) Try.f7.results.toList = .ok [.one (.ptr 1 0), .one (.ptr 2 0)] := by kernel_rfl
theorem restE : (Eng.spine 5 body).2 = .seq (.seq (codeAt body [true, true, true, true, true, false, false]) (.block 0 (.loop (.seq (at' [false]) (.seq (.block 1 (at' [true, false, false])) (at' [true, true])))))) (codeAt body [true, true, true, true, true, true]) := by kernel_rfl
section
variable (n : Nat) (al : Int) (ls : List (List Int)) (hn : n = ls.length) (hf : fitB ls = true) (hal : fitI al = true) (E : Ctx MObj) (hE : E.nid0 = 1) (hT : E.top = 9) (hD : ∀ b, 1 ≤ b → E.D b)
include hn hf hal hE hT hD
abbrev S (n : Nat) (al : Int) (ls : List (List Int)) (i c c2 : Int) (xs : List Int) (js : Nat → SV) : St MObj := ⟨pre n al (.v (ii i)) ++ junk js 72 13, hp0 ls xs c c2, 4, []⟩
theorem round (i : Nat) (hi : i < 16) (js : Nat → SV) : Tri MS Try.prog E (at' [true, false, false]) (S n al ls i i i (lx ls i) js) fun x st => x = .normal ∧ ∃ js, st = S n al ls i (i + 1) (i + 1) (lx ls (i + 1)) js := by
  have hd : ∀ (l : List Nat), l.all (Nat.ble 1) = true → ∀ b, b ∈ l → E.D b := fun l hl b hb => hD b (Nat.le_of_ble_eq_true (List.all_eq_true.1 hl b hb))
  have ht : ∀ {k : Nat}, Nat.ble k 9 = true → k ≤ E.top := fun h => by rw [hT]; exact Nat.le_of_ble_eq_true h
  have hin : Int.toNat (i : Int) = i := by omega
  have ea : Int.toNat (W (96 + W (4 * (i : Int)))) = 96 + 4 * i := by simp only [W, wrap64]; omega
  have eb : W (96 + W (4 * W ((i : Int) + 8))) = 96 + 4 * ((i : Int) + 8) := by simp only [W, wrap64]; omega
  have key : ∀ (v : Int) (L : HP MObj) (js : Nat → SV) aa ww (k5 : Nat), v = hdr ls i → (∃ o, L = [(4, some o)] ∧ k5 = 5) → At MS E ⟨pre n al (.v (ii i)) ++ junk js 72 13, hp0 ls ((lx ls i).set (Int.toNat (W (96 + W (4 * (i : Int))))) v) (i + 1) (i + 1) ++ L, k5, []⟩ aa ww → ∃ js, At MS E (S n al ls i (i + 1) (i + 1) (lx ls (i + 1)) js) aa ww := by
    rintro v L js aa ww k5 rfl ⟨o, rfl, rfl⟩ hat
    rw [ea] at hat
    exact at_rename (dirty' := []) (m := 13) (n := 72) [(0, 0), (1, 1), (2, 2), (3, 3)] (nid' := 4) rfl (by simp [length_junk]) rfl rfl (by rw [hE]; rfl) (by rw [hE]; decide) (by rw [hT]; decide) hat
  refine Tri.postE (Q := fun x st => x = .normal ∧ ∀ aa ww, At MS E st aa ww → ∃ js, At MS E (S n al ls i (i + 1) (i + 1) (lx ls (i + 1)) js) aa ww) (Tri.allR (m := 13) (n := 72) (codeOK _) (b n al i i i ls (lx ls i) js (lx_len ls i) (by omega) (by omega) (by omega) hn fun h => (fitB_at hf (by omega) 3 (by decide)).1)
    (Tr.all_ite (fun q1 => Tr.all_ite (fun q2 => Tr.all_ite (fun q3 => Tr.all_ok ⟨rfl, ht rfl, hd _ rfl, fun js => ⟨rfl, fun aa ww hat => key _ _ js aa ww _ ?_ ⟨_, rfl, rfl⟩ hat⟩⟩) fun q3 => Tr.all_ok ⟨rfl, ht rfl, hd _ rfl, fun js => ⟨rfl, fun aa ww hat => key _ _ js aa ww _ ?_ ⟨_, rfl, rfl⟩ hat⟩⟩) fun q2 => Tr.all_ok ⟨rfl, ht rfl, hd _ rfl, fun js => ⟨rfl, fun aa ww hat => key _ _ js aa ww _ ?_ ⟨_, rfl, rfl⟩ hat⟩⟩) fun q1 => Tr.all_ok ⟨rfl, ht rfl, hd _ rfl, fun js => ⟨rfl, fun aa ww hat => key _ _ js aa ww _ ?_ ⟨_, rfl, rfl⟩ hat⟩⟩)) ?_
  · have q1 := of_decide_eq_true q1; have q2 := of_decide_eq_true q2; rw [hin] at q3
    unfold hdr mv
    rw [eb, if_pos (by simp only [Bool.and_eq_true, decide_eq_true_eq]; exact ⟨by omega, by omega, q3⟩)]
  · rw [hin] at q3
    unfold hdr mv
    rw [if_neg (by simp only [Bool.and_eq_true, decide_eq_true_eq]; rintro ⟨_, _, h⟩; rw [q3] at h; cases h)]; rfl
  · have q2 := of_decide_eq_false q2
    unfold hdr mv
    rw [if_neg (by simp only [Bool.and_eq_true, decide_eq_true_eq]; omega)]; rfl
  · have q1 := of_decide_eq_false q1
    unfold hdr mv
    rw [if_neg (by simp only [Bool.and_eq_true, decide_eq_true_eq]; omega)]; rfl
  · rintro x st aa ww ⟨rfl, hh⟩ hat
    obtain ⟨js', h'⟩ := hh aa ww hat
    exact ⟨_, h', rfl, js', rfl⟩
abbrev hpR (ls : List (List Int)) (al : Int) : HP MObj := [(0, some (.rotab [.int .i64] ls)), (1, some (.abs (.mem 97 (lxF ls al) 17 0))), (2, some (.abs (.mem 51 (lxF ls al) 17 0)))]
theorem all : Tri MS Try.prog E body ⟨[.v (.an 0 (.sym n)), .v (ii al)] ++ List.replicate (nt - 2) .undef, [(0, some (.rotab [.int .i64] ls))], 1, []⟩
    fun x st => (x = .normal ∨ x = .ret) ∧ (∀ b, hget st.hp b = hget (hpR ls al) b) ∧ st.nid = 3 ∧ ∃ l, (vresults Try.prog st Try.f7.results.toList).run = some l ∧ tupleOf l = .t [.one (.ptr 1 0), .one (.ptr 2 0)] := by
  have hd : ∀ (l : List Nat), l.all (Nat.ble 1) = true → ∀ b, b ∈ l → E.D b := fun l hl b hb => hD b (Nat.le_of_ble_eq_true (List.all_eq_true.1 hl b hb))
  have ht : ∀ {k : Nat}, Nat.ble k 9 = true → k ≤ E.top := fun h => by rw [hT]; exact Nat.le_of_ble_eq_true h
  have hal' : 0 ≤ kM al 1000 ∧ kM al 1000 < 1000 := by
    simp only [fitI, Bool.and_eq_true, decide_eq_true_eq] at hal
    exact kM_range (by decide) hal
  refine Tri.listR (m := 13) (n := 72) (l := (Eng.spine 5 body).1) codeOK 5 rfl restE (s n al ls hal') (Tr.all_ok ⟨rfl, rfl, ht rfl, hd _ rfl, fun js => ?_⟩)
  refine (?_ : Tri MS Try.prog E _ ⟨pre n al (.t []) ++ junk js 72 13, hp0 ls (lx ls 0) 0 0, 4, []⟩ _)
  refine Tri.seq (R := fun x st => x = .normal ∧ ∃ (i : Nat) (js : Nat → SV), i = 16 ∧ st = S n al ls i i i (lx ls i) js) ?_ ?_ (fun x s hx hh => absurd hh.1 hx)
  · refine Tri.seq (R := fun x st => x = .normal ∧ ∃ js, st = ⟨pre n al (.v (.int .i64 (.lit 0))) ++ junk js 72 13, hp0 ls (lx ls 0) 0 0, 4, []⟩) (Tri.allR (m := 13) (n := 72) (codeOK _) (init n al 0 0 ls (lx ls 0) js (.t []) (lx_len ls 0) (by decide) (by decide)) (Tr.all_ok ⟨rfl, ht rfl, hd _ rfl, fun js => ⟨rfl, js, rfl⟩⟩)) ?_ (fun x s hx hh => absurd hh.1 hx)
    rintro st ⟨_, js, rfl⟩
    refine Tri.preWk (pre' := pre n al (.v (ii ((0 : Nat) : Int)))) (hp' := hp0 ls (lx ls 0) 0 0) (by (repeat' apply And.intro) <;> first | rfl | trivial) (by (repeat' apply And.intro) <;> first | rfl | trivial) ?_
    refine Tri.block (R := fun x st => x = .exit 0 ∧ ∃ (i : Nat) (js : Nat → SV), i = 16 ∧ st = S n al ls i i i (lx ls i) js) ?_ (fun s hh => by
      rcases hh with hh | hh
      · cases hh.1
      · exact ⟨rfl, hh.2⟩) (fun x s _ hx hh => absurd hh.1 hx)
    refine Tri.loop (J := fun q st => ∃ (i : Nat) (js : Nat → SV), st = S n al ls i i i (lx ls i) js ∧ i ≤ 16 ∧ q = 16 - i) ?_ (k := 16) ⟨0, js, rfl, Nat.zero_le _, rfl⟩
    rintro q st ⟨i, js, rfl, h2, rfl⟩
    refine Tri.seq (R := fun x st => ∃ js, st = S n al ls i i i (lx ls i) js ∧ ((x = .normal ∧ i < 16) ∨ (x = .exit 0 ∧ ¬ i < 16))) ?_ ?_ ?_
    · exact Tri.allR (m := 13) (n := 72) (codeOK _) (g n al i i i ls (lx ls i) js (lx_len ls i) (by omega) (by omega)) (Tr.all_ite (fun h1 => Tr.all_ok ⟨rfl, ht rfl, hd _ rfl, fun js => ⟨js, rfl, .inl ⟨rfl, by have := of_decide_eq_true h1; omega⟩⟩⟩) fun h1 => Tr.all_ok ⟨rfl, ht rfl, hd _ rfl, fun js => ⟨js, rfl, .inr ⟨rfl, by have := of_decide_eq_false h1; omega⟩⟩⟩)
    · rintro st ⟨js, rfl, h | h⟩
      rotate_left
      · cases h.1
      obtain ⟨_, hi⟩ := h
      refine Tri.seq (R := fun x st => x = .normal ∧ ∃ js, st = S n al ls i (i + 1) (i + 1) (lx ls (i + 1)) js) (Tri.block (round n al ls hn hf hal E hE hT hD i hi js) (fun s hh => by
        rcases hh with hh | hh
        · exact hh
        · cases hh.1) (fun x s hx _ hh => absurd hh.1 hx)) ?_ (fun x s hx hh => absurd hh.1 hx)
      rintro st ⟨_, js, rfl⟩
      have e4 : W ((i : Int) + 1) = ((i + 1 : Nat) : Int) := by rw [show ((i + 1 : Nat) : Int) = (i : Int) + 1 by omega]; exact W_of (by omega) (by omega)
      refine Tri.allR (m := 13) (n := 72) (codeOK _) (inc n al (i + 1) (i + 1) i ls (lx ls (i + 1)) js (lx_len ls _) (by omega) (by omega)) (Tr.all_ok ⟨rfl, ht rfl, hd _ rfl, fun js => ⟨16 - (i + 1), by omega, i + 1, js, ?_, by omega, rfl⟩⟩)
      have e5 : W ((i : Int) + 1) = (i : Int) + 1 := W_of (by omega) (by omega)
      show (⟨pre n al (.v (ii (W ((i : Int) + 1)))) ++ junk js 72 13, hp0 ls (lx ls (i + 1)) ((i : Int) + 1) ((i : Int) + 1), 4, []⟩ : St MObj) = _
      rw [e5]; rfl
    · rintro x st hx ⟨js, rfl, h | h⟩
      · exact absurd h.1 hx
      · obtain ⟨rfl, h⟩ := h
        exact ⟨rfl, i, js, by omega, rfl⟩
  · rintro st ⟨_, i, js, rfl, rfl⟩
    refine Tri.postE (Q := fun x st => x = .ret ∧ ∃ js, st = ⟨(fin_l0 n al 16 16 16 ls (lx ls 16)).pre ++ junk js 72 13, (fin_l0 n al 16 16 16 ls (lx ls 16)).hp, 4, []⟩) (Tri.allR (m := 13) (n := 72) (codeOK _) (fin n al 16 16 16 ls (lx ls 16) js (lx_len ls 16) (by decide) (by decide) hal') (Tr.all_ok ⟨rfl, ht rfl, hd _ rfl, fun js => ⟨rfl, js, rfl⟩⟩)) ?_
    rintro x st aa ww ⟨rfl, js, rfl⟩ hat
    obtain ⟨js', h'⟩ := at_rename (dirty' := []) (m := 6) (n := 79) [(0, 0), (2, 1), (3, 2)] (nid' := 3) rfl (by simp [length_junk]) rfl rfl (by rw [hE]; rfl) (by rw [hE]; decide) (by rw [hT]; decide) hat
    refine ⟨_, h', .inr rfl, fun b => rfl, rfl, _, (congrArg Tr.run (res (.v (.an 0 (.sym n))) (.v (ii al)) (.t []) (.t []) (js' 6) (js' 7) (js' 8) (js' 9) (js' 10) (js' 11) (js' 12) (hpR ls al) 3 js')).trans rfl, rfl⟩
end
def cI : Intr MObj := fun args hp nid => match args, hp, nid with
  | [.s (.one (.an 0 (.sym n))), .s (.one (.int .i64 (.sym al)))], [(0, some (.rotab [.int .i64] ls))], 1 => .ite ((decide (n = ls.length) && fitB ls) && fitI al)
    (.ok ⟨.t [.one (.ptr 1 0), .one (.ptr 2 0)], hpR ls al, [1, 2], 3⟩) (.no "laid: sizes")
  | _, _, _ => .no "laid: arguments"
theorem ok : FunOK MS Try.prog 7 (renI (symI cI)) := by
  refine funOK_ren (funOKz_sym (funOK_tri Try.func7 hb ?_))
  intro args hp nid r hrun
  unfold cI at hrun
  split at hrun
  · rename_i n al ls
    rw [Tr.run_ite] at hrun
    rcases hrun with ⟨hc, hrun⟩ | ⟨_, hrun⟩
    · rw [Tr.run_ok] at hrun
      subst hrun
      simp only [Bool.and_eq_true, decide_eq_true_eq] at hc
      refine ⟨by show 1 ≤ 3; omega, fun b o hb ho => ?_, 9, by show 3 ≤ 9; omega, fun E hE hT hD hr => all n al ls hc.1.1 hc.1.2 hc.2 E hE hT hD⟩
      match b, hb, ho with
      | 0, hb, _ => exact absurd hb (by decide)
      | 1, _, _ => simp
      | 2, _, _ => simp
      | b + 3, _, ho => cases ho
    · cases hrun
  · cases hrun
end Go.Proofs.Ytdongoplhnpdiaa.Laid
