/-
  copied of flitlaw25, and mark of view.sorter, as contracts.
-/
import Derived.Test.YtcolladpdmjloaaTView
import Derived.Test.YtcolladpdmjloaaEngZe
import Derived.Test.YtcolladpdmjloaaEngZm
namespace Go.Proofs.Ytcolladpdmjloaa.ViewC
open Go Go.RowKit Go.Proofs.Ytcolladpdmjloaa.Eng
set_option linter.unusedVariables false
set_option linter.unusedSimpArgs false
set_option linter.unusedSectionVars false
set_option maxRecDepth 20000
theorem codeOK (c : Code) : CodeOK MS Try.prog c (ev c) :=
  evCode_sound progOK (fun f args hp nid r h _ => evF_sound progOK (lookH_ok V25.tabN_ok) 400 20 f args hp nid r h) 400 c
theorem W_of {x : Int} (h : -1000000 ≤ x) (h2 : x ≤ 1000000) : W x = x := wrap_i64_of (by omega) (by omega)
/-! ### copied -/
def cpW (rows : List (List Int)) : List Int := rows.map fun r => r.getD 0 0
def cpK (rows : List (List Int)) (k : Nat) : List Int := (cpW rows).take k ++ List.replicate (rows.length - k) 0
theorem cpK_len (rows : List (List Int)) {k : Nat} (h : k ≤ rows.length) : (cpK rows k).length = rows.length := by
  unfold cpK cpW
  simp
  omega
theorem cpK_set (rows : List (List Int)) {k : Nat} (h : k < rows.length) : (cpK rows k).set k (tabAt rows k 0) = cpK rows (k + 1) := by
  refine List.ext_getElem? fun i => ?_
  have hl : (cpW rows).length = rows.length := by simp [cpW]
  unfold cpK
  rw [List.getElem?_set]
  simp only [List.length_append, List.length_take, List.length_replicate, hl]
  rcases Nat.lt_trichotomy i k with hi | hi | hi
  · rw [if_neg (by omega), List.getElem?_append_left (by simp [hl]; omega), List.getElem?_append_left (by simp [hl]; omega), List.getElem?_take_of_lt hi, List.getElem?_take_of_lt (by omega)]
  · subst hi
    rw [if_pos rfl, if_pos (by omega), List.getElem?_append_left (by simp [hl]; omega), List.getElem?_take_of_lt (by omega)]
    unfold tabAt cpW
    simp [h]
  · rw [if_neg (by omega), List.getElem?_append_right (by simp [hl]; omega), List.getElem?_append_right (by simp [hl]; omega)]
    simp only [List.length_take, hl, List.getElem?_replicate]
    rw [Nat.min_eq_left (by omega), Nat.min_eq_left (by omega)]
    by_cases h2 : i < rows.length
    · rw [if_pos (by omega), if_pos (by omega)]
    · rw [if_neg (by omega), if_neg (by omega)]
theorem hbC : Try.f7.body = some cbody := by kernel_rfl
noncomputable abbrev cl : Code := .seq (codeAt cbody [true, true, false, true, false, false, false]) (.seq (.block 1 (codeAt cbody [true, true, false, true, false, false, true, false, false])) (codeAt cbody [true, true, false, true, false, false, true, true]))
theorem restC : (Eng.spine 2 cbody).2 = .seq (.seq (codeAt cbody [true, true, false, false]) (.block 0 (.loop cl))) (codeAt cbody [true, true, true]) := by kernel_rfl
theorem resC (x3 x4 x5 : SV) (hp : HP MObj) (nid : Nat) (x2 : SV) (js : Nat → SV) : vresults Try.prog (⟨[.v (.ptr 0 0), x2, .v (.ptr 2 0), x3, x4, x5] ++ junk js 33 6, hp, nid, []⟩ : St MObj) Try.f7.results.toList = .ok [.one (.ptr 2 0)] := by kernel_rfl
abbrev chpM (n : Nat) (b d : Int) (rows : List (List Int)) (xs : List Int) (c : Int) : HP MObj := chp n b d rows ++ [(2, some (.abs (.mem 79 xs c 0)))]
section
variable (n : Nat) (b d : Int) (rows : List (List Int)) (hr : n = rows.length) (hn : 1 ≤ n ∧ n ≤ 4000) (E : Ctx MObj) (hE : E.nid0 = 2) (hT : E.top = 20) (hD : ∀ b, 2 ≤ b → E.D b)
include hr hn hE hT hD
theorem allC : Tri MS Try.prog E cbody ⟨[.v (.ptr 0 0)] ++ List.replicate (Try.f7.ntmps - 1) .undef, chp n b d rows, 2, []⟩
    fun x st => (x = .normal ∨ x = .ret) ∧ (∀ k, hget st.hp k = hget (chpM n b d rows (cpW rows) n) k) ∧ st.nid = 3 ∧ ∃ l, (vresults Try.prog st Try.f7.results.toList).run = some l ∧ tupleOf l = .s (.one (.ptr 2 0)) := by
  have hd : ∀ (l : List Nat), l.all (Nat.ble 2) = true → ∀ b, b ∈ l → E.D b := fun l hl b hb => hD b (Nat.le_of_ble_eq_true (List.all_eq_true.1 hl b hb))
  have ht : ∀ {k : Nat}, Nat.ble k 20 = true → k ≤ E.top := fun h => by rw [hT]; exact Nat.le_of_ble_eq_true h
  have hw : (cpW rows).length = rows.length := by simp [cpW]
  refine Tri.listR (m := 6) (n := 33) (l := (Eng.spine 2 cbody).1) codeOK 2 rfl restC (cs n b d rows hn) (Tr.all_ok ⟨rfl, rfl, ht rfl, hd _ rfl, fun js => ?_⟩)
  have e0 : List.replicate (Int.toNat (n : Int)) (0 : Int) = cpK rows 0 := by unfold cpK; rw [List.take_zero, List.nil_append, Nat.sub_zero, ← hr]; rfl
  rw [show (cs_l0 n b d rows).hp = chpM n b d rows (cpK rows 0) 0 from by rw [← e0]; rfl]
  let Sk : SV → Nat → (Nat → SV) → St MObj := fun x4 k js => ⟨[.v (.ptr 0 0), .t [], .v .nilp, .v (.ptr 2 0), x4, .v (ii k)] ++ junk js 33 6, chpM n b d rows (cpK rows k) k, 3, []⟩
  refine Tri.seq (R := fun x st => x = .normal ∧ ∃ x4 js, st = Sk x4 n js) ?_ ?_ (fun x s hx hh => absurd hh.1 hx)
  · refine Tri.seq (R := fun x st => x = .normal ∧ ∃ x4 js, st = Sk x4 0 js) ?_ ?_ (fun x s hx hh => absurd hh.1 hx)
    · refine Tri.postE (Q := fun x st => x = .normal ∧ ∃ js, st = (⟨(ci_l0 n b d 0 rows (cpK rows 0) (.t []) (.v (lt 0))).pre ++ junk js 33 6, (ci_l0 n b d 0 rows (cpK rows 0) (.t []) (.v (lt 0))).hp, 3, []⟩ : St MObj)) (Tri.allR (m := 6) (n := 33) (codeOK _) (ci n b d 0 rows (cpK rows 0) (.t []) (.v (lt 0)) (.t []) js ((cpK_len rows (Nat.zero_le _)).trans hr.symm)) (Tr.all_ok ⟨rfl, ht rfl, hd _ rfl, fun js => ⟨rfl, js, rfl⟩⟩)) ?_
      rintro x st aa ww ⟨rfl, js, rfl⟩ hat
      have h := at_slot [.v (.ptr 0 0), .t [], .v .nilp, .v (.ptr 2 0), .v (lt 0)] (x := .v (lt 0)) (y := .v (ii ((0 : Nat) : Int))) (l := junk js 33 6) (d' := []) ⟨rfl, rfl⟩ hat
      exact ⟨_, h, rfl, .v (lt 0), js, rfl⟩
    · rintro st ⟨_, x4, js, rfl⟩
      refine Tri.block (R := fun x st => x = .exit 0 ∧ ∃ x4 js, st = Sk x4 n js) ?_ (fun s hh => by
        rcases hh with hh | hh
        · cases hh.1
        · exact ⟨rfl, hh.2⟩) (fun x s _ hx hh => absurd hh.1 hx)
      refine Tri.loop (J := fun q st => ∃ (k : Nat) (x4 : SV) (js : Nat → SV), st = Sk x4 k js ∧ k ≤ n ∧ q = n - k) ?_ (k := n) ⟨0, x4, js, rfl, Nat.zero_le _, rfl⟩
      rintro q st ⟨k, x4, js, rfl, hk, rfl⟩
      have hl := cpK_len rows (k := k) (by omega)
      refine Tri.seq (R := fun x st => ∃ js, st = Sk x4 k js ∧ ((x = .normal ∧ k < n) ∨ (x = .exit 0 ∧ ¬ k < n))) ?_ ?_ ?_
      · exact Tri.allR (m := 6) (n := 33) (codeOK _) (cg n b d k k rows (cpK rows k) (.t []) x4 js (hl.trans hr.symm) (by omega)) (Tr.all_ite (fun h1 => Tr.all_ok ⟨rfl, ht rfl, hd _ rfl, fun js => ⟨js, rfl, .inl ⟨rfl, by have := of_decide_eq_true h1; omega⟩⟩⟩) fun h1 => Tr.all_ok ⟨rfl, ht rfl, hd _ rfl, fun js => ⟨js, rfl, .inr ⟨rfl, by have := of_decide_eq_false h1; omega⟩⟩⟩)
      · rintro st ⟨js, rfl, h | h⟩
        rotate_left
        · cases h.1
        obtain ⟨_, hi⟩ := h
        refine Tri.seq (R := fun x st => x = .normal ∧ ∃ js, st = (⟨[.v (.ptr 0 0), .t [], .v .nilp, .v (.ptr 2 0), x4, .v (ii k)] ++ junk js 33 6, chpM n b d rows (cpK rows (k + 1)) (k + 1), 3, []⟩ : St MObj)) (Tri.block (R := fun x st => x = .normal ∧ ∃ js, st = (⟨[.v (.ptr 0 0), .t [], .v .nilp, .v (.ptr 2 0), x4, .v (ii k)] ++ junk js 33 6, chpM n b d rows (cpK rows (k + 1)) (k + 1), 3, []⟩ : St MObj)) (Tri.allR (m := 6) (n := 33) (codeOK _) (cb n b d k k rows (cpK rows k) (.t []) x4 js (hl.trans hr.symm) hr hn.2 (by omega) (by omega)) (Tr.all_ok ⟨rfl, ht rfl, hd _ rfl, fun js => ⟨rfl, js, ?_⟩⟩)) (fun s hh => by
          rcases hh with hh | hh
          · exact hh
          · cases hh.1) (fun x s hx _ hh => absurd hh.1 hx)) ?_ (fun x s hx hh => absurd hh.1 hx)
        · have e1 : 0 + Int.toNat (k : Int) = k := by omega
          have e2 := cpK_set rows (k := k) (by omega)
          show (⟨_, _, _, _⟩ : St MObj) = _
          rw [show (cb_l0 n b d k k rows (cpK rows k) (.t []) x4).hp = chpM n b d rows (List.set (cpK rows k) (Int.toNat (k : Int)) (tabAt rows (0 + Int.toNat (k : Int)) 0)) (k + 1) from rfl, e1, Int.toNat_natCast, e2]
        · rintro st ⟨_, js, rfl⟩
          have e4 : W ((k : Int) + 1) = ((k + 1 : Nat) : Int) := W_of (by omega) (by omega)
          refine Tri.allR (m := 6) (n := 33) (codeOK _) (cn n b d (k + 1) k rows (cpK rows (k + 1)) (.t []) x4 js (by omega)) (Tr.all_ok ⟨rfl, ht rfl, hd _ rfl, fun js => ⟨n - (k + 1), by omega, k + 1, x4, js, ?_, by omega, rfl⟩⟩)
          show (⟨[.v (.ptr 0 0), .t [], .v .nilp, .v (.ptr 2 0), x4, .v (ii (W ((k : Int) + 1)))] ++ junk js 33 6, chpM n b d rows (cpK rows (k + 1)) ((k : Int) + 1), 3, []⟩ : St MObj) = _
          rw [e4]
          rfl
      · rintro x st hx ⟨js, rfl, h | h⟩
        · exact absurd h.1 hx
        · obtain ⟨rfl, h⟩ := h
          obtain rfl : k = n := by omega
          exact ⟨rfl, x4, js, rfl⟩
  · rintro st ⟨_, x4, js, rfl⟩
    have e9 : cpK rows n = cpW rows := by unfold cpK; rw [hr, Nat.sub_self, List.replicate_zero, List.append_nil, ← hw, List.take_length]
    refine Tri.allR (m := 6) (n := 33) (codeOK _) (cf n b d n rows (cpK rows n) (.t []) x4 (.v (ii n)) js hn.1) (Tr.all_ok ⟨rfl, ht rfl, hd _ rfl, fun js => ⟨.inr rfl, fun k => by rw [← e9]; rfl, rfl, _, (congrArg Tr.run (resC (.v (.ptr 2 0)) x4 (.v (ii n)) _ 3 (.t []) js)).trans rfl, rfl⟩⟩)
end
def cI : Intr MObj := fun args hp nid => match args, hp, nid with
  | [.s (.one (.ptr 0 0))], [(0, some (.cells [.ts 1 (.lit 0) (.sym n) none, .int .i64 (.sym b), .int .i64 (.sym d), .nils] ty0)), (1, some (.tab [.int .u64] rows ty1))], 2 => .ite ((decide (ty0 = 51) && decide (ty1 = 53)) && (decide (n = rows.length) && (decide (1 ≤ n) && decide (n ≤ 4000))))
    (.ok ⟨.s (.one (.ptr 2 0)), chpM n b d rows (cpW rows) n, [2], 3⟩) (.no "copied: sizes")
  | _, _, _ => .no "copied: arguments"
theorem funOKz_sym {f : FuncId} {i : Intr MObj} (hi : FunOKz MS Try.prog f i) : FunOKz MS Try.prog f (symI i) := by
  intro args hp nid r hrun B ρ F w vargs hhr hargs
  exact hi _ _ _ r hrun B ρ F w vargs (HR_symHP hhr) ((F2_map fun _ _ => RS_symW).2 hargs)
theorem okC : FunOK MS Try.prog 7 (renI (symI cI)) := by
  refine funOK_ren (funOKz_sym (funOK_tri Try.func7 hbC ?_))
  intro args hp nid r hrun
  unfold cI at hrun
  split at hrun
  · rename_i n b d ty0 rows ty1
    rw [Tr.run_ite] at hrun
    rcases hrun with ⟨hc, hrun⟩ | ⟨_, hrun⟩
    · rw [Tr.run_ok] at hrun
      subst hrun
      simp only [Bool.and_eq_true, decide_eq_true_eq] at hc
      obtain ⟨⟨rfl, rfl⟩, h1, h2, h3⟩ := hc
      refine ⟨by show 2 ≤ 3; omega, fun k o hb ho => ?_, 20, by show 3 ≤ 20; omega, fun E hE hT hD hr => allC n b d rows h1 ⟨h2, h3⟩ E hE hT hD⟩
      match k, hb, ho with
      | 0, hb, _ => exact absurd hb (by decide)
      | 1, hb, _ => exact absurd hb (by decide)
      | 2, _, _ => simp
      | k + 3, _, ho => cases ho
    · cases hrun
  · cases hrun
/-! ### mark -/
def mkR (rows : List (List Int)) (a k : Nat) (w : Int) : List (List Int) := rows.take a ++ (List.replicate k [w] ++ rows.drop (a + k))
theorem mkR_get (rows : List (List Int)) {a k : Nat} (w : Int) (h : a + k ≤ rows.length) (i : Nat) : (mkR rows a k w)[i]? = if a ≤ i ∧ i < a + k then some [w] else rows[i]? := by
  unfold mkR
  by_cases h1 : i < a
  · rw [if_neg (by omega), List.getElem?_append_left (by simp; omega), List.getElem?_take_of_lt h1]
  · rw [List.getElem?_append_right (by simp; omega)]
    have e : i - (rows.take a).length = i - a := by simp; omega
    rw [e]
    by_cases h2 : i < a + k
    · rw [if_pos ⟨by omega, h2⟩, List.getElem?_append_left (by simp; omega), List.getElem?_replicate, if_pos (by omega)]
    · rw [if_neg (by omega), List.getElem?_append_right (by simp; omega), List.getElem?_drop]
      congr 1
      simp
      omega
theorem mkR_len (rows : List (List Int)) {a k : Nat} (w : Int) (h : a + k ≤ rows.length) : (mkR rows a k w).length = rows.length := by
  unfold mkR
  simp
  omega
theorem mkR_set (rows : List (List Int)) {a k : Nat} (w : Int) (h : a + k < rows.length) : (mkR rows a k w).set (a + k) [w] = mkR rows a (k + 1) w := by
  refine List.ext_getElem? fun i => ?_
  rw [List.getElem?_set, mkR_get rows w (by omega), mkR_get rows w (by omega), mkR_len rows w (by omega)]
  by_cases e : a + k = i
  · rw [if_pos e, if_pos (by omega), if_pos (by omega)]
  · rw [if_neg e]
    by_cases h1 : a ≤ i ∧ i < a + k
    · rw [if_pos h1, if_pos (by omega)]
    · rw [if_neg h1, if_neg (by omega)]
theorem hbM : Try.f25.body = some mbody := by kernel_rfl
noncomputable abbrev ml : Code := .seq (codeAt mbody [true, false, false, false]) (.seq (codeAt mbody [true, false, false, true, false]) (.seq (.block 1 (codeAt mbody [true, false, false, true, true, false, false])) (codeAt mbody [true, false, false, true, true, true])))
theorem bodyM : mbody = .seq (codeAt mbody [false]) (.block 0 (.loop ml)) := by kernel_rfl
section
variable (t b x h z a n w : Int) (nn : Nat) (bad : Bool) (o1 : VObj MObj) (rows : List (List Int)) (hn : 0 ≤ n) (ha : 0 ≤ h ∧ h ≤ a ∧ a + n ≤ z ∧ z ≤ nn ∧ nn ≤ 4000) (hr : nn = rows.length) (h0 : ∀ k, k < n.toNat → rows.getD (a.toNat + k) [] = [0]) (E : Ctx MObj) (hE : E.nid0 = 3) (hT : E.top = 20) (hD2 : E.D 2)
include hn ha hr h0 hE hT hD2
theorem allM : Tri MS Try.prog E mbody ⟨[.v (.ptr 0 0), .v (ii a), .v (ii n), .v (ii w)] ++ List.replicate (Try.f25.ntmps - 4) .undef, shp t b x h z nn bad o1 rows, 3, []⟩
    fun y st => (y = .normal ∨ y = .ret) ∧ (∀ k, hget st.hp k = hget (shp t b x h z nn bad o1 (mkR rows a.toNat n.toNat w)) k) ∧ st.nid = 3 ∧ ∃ l, (vresults Try.prog st Try.f25.results.toList).run = some l ∧ tupleOf l = .t [] := by
  have ht : ∀ {k : Nat}, Nat.ble k 20 = true → k ≤ E.top := fun h => by rw [hT]; exact Nat.le_of_ble_eq_true h
  have hd0 : ∀ k, k ∈ ([] : List Nat) → E.D k := fun k hk => by cases hk
  let Pk : (Nat → SV) → Nat → List SV := fun e k => [.v (.ptr 0 0), .v (ii a), .v (ii n), .v (ii w), e 4, e 5, e 6, e 7, e 8, e 9, e 10, .v (ii n), .v (ii k)]
  let Sk : (Nat → SV) → Nat → (Nat → SV) → St MObj := fun e k js => ⟨Pk e k ++ junk js 52 13, shp t b x h z nn bad o1 (mkR rows a.toNat k w), 3, []⟩
  have m0 : mkR rows a.toNat 0 w = rows := by unfold mkR; rw [List.replicate_zero, List.nil_append, Nat.add_zero, List.take_append_drop]
  rw [bodyM]
  refine Tri.seq (R := fun y st => y = .normal ∧ ∃ e js, st = Sk e 0 js) ?_ ?_ (fun y s hx hh => absurd hh.1 hx)
  · refine Tri.postE (Q := fun y st => y = .normal ∧ ∃ js, st = (⟨(ms_l0 t b x h z a n w nn bad o1 rows).pre ++ junk js 52 13, shp t b x h z nn bad o1 rows, 3, []⟩ : St MObj)) (Tri.allR (m := 13) (n := 52) (codeOK _) (ms t b x h z a n w nn bad o1 rows hn) (Tr.all_ok ⟨rfl, ht rfl, hd0, fun js => ⟨rfl, js, rfl⟩⟩)) ?_
    rintro y st aa ww ⟨rfl, js, rfl⟩ hat
    have hh := at_slot (List.take 12 (ms_l0 t b x h z a n w nn bad o1 rows).pre) (x := .v (lt 0)) (y := .v (ii ((0 : Nat) : Int))) (l := junk js 52 13) (d' := []) ⟨rfl, rfl⟩ hat
    refine ⟨_, hh, rfl, fun _ => .t [], js, ?_⟩
    simp only [Sk, m0]
    rfl
  · rintro st ⟨_, e, js, rfl⟩
    refine Tri.block (R := fun y st => y = .exit 0 ∧ ∃ e js, st = Sk e n.toNat js) ?_ (fun s hh => by
      rcases hh with hh | ⟨_, e, js, rfl⟩
      · cases hh.1
      · exact ⟨.inl rfl, fun k => rfl, rfl, [], rfl, rfl⟩) (fun y s _ hx hh => absurd hh.1 hx)
    refine Tri.loop (J := fun q st => ∃ (k : Nat) (e : Nat → SV) (js : Nat → SV), st = Sk e k js ∧ k ≤ n.toNat ∧ q = n.toNat - k) ?_ (k := n.toNat) ⟨0, e, js, rfl, Nat.zero_le _, rfl⟩
    rintro q st ⟨k, e, js, rfl, hk, rfl⟩
    refine Tri.seq (R := fun y st => y = .normal ∧ ∃ js, st = (⟨Pk e k ++ [.v (.bool (.sym (decide ((k : Int) < n))))] ++ junk js 51 14, shp t b x h z nn bad o1 (mkR rows a.toNat k w), 3, []⟩ : St MObj)) (Tri.allR (m := 14) (n := 51) (codeOK _) (mg t b x h z a n w nn bad o1 (mkR rows a.toNat k w) k (e 4) (e 5) (e 6) (e 7) (e 8) (e 9) (e 10) js (by omega)) (Tr.all_ok ⟨rfl, ht rfl, hd0, fun js => ⟨rfl, js, rfl⟩⟩)) ?_ (fun y s hx hh => absurd hh.1 hx)
    rintro st ⟨_, js, rfl⟩
    refine Tri.seq (R := fun y st => ((y = .normal ∧ k < n.toNat) ∨ (y = .exit 0 ∧ ¬ k < n.toNat)) ∧ ∃ js, st = Sk e k js) (Tri.allR (m := 13) (n := 52) (codeOK _) (mc t b x h z a n w nn bad o1 (mkR rows a.toNat k w) k (decide ((k : Int) < n)) (e 4) (e 5) (e 6) (e 7) (e 8) (e 9) (e 10) js (by omega)) (Tr.all_ite (fun h1 => Tr.all_ok ⟨rfl, ht rfl, hd0, fun js => ⟨.inl ⟨rfl, by have := of_decide_eq_true h1; omega⟩, js, rfl⟩⟩) fun h1 => Tr.all_ok ⟨rfl, ht rfl, hd0, fun js => ⟨.inr ⟨rfl, by have := of_decide_eq_false h1; omega⟩, js, rfl⟩⟩)) ?_ ?_
    · rintro st ⟨h1, js, rfl⟩
      have hkn : k < n.toNat := by
        rcases h1 with h1 | h1
        · exact h1.2
        · cases h1.1
      have eW : W (a + (k : Int)) = a + k := W_of (by omega) (by omega)
      have eN : 0 + Int.toNat (W (a + (k : Int))) = a.toNat + k := by rw [eW]; omega
      have hrow : (mkR rows a.toNat k w).getD (a.toNat + k) [] = [0] := by
        rw [List.getD_eq_getElem?_getD, mkR_get rows w (by omega), if_neg (by omega), ← List.getD_eq_getElem?_getD]
        exact h0 k hkn
      have hta : tabAt (mkR rows a.toNat k w) (0 + Int.toNat (W (a + (k : Int)))) 0 = 0 := by
        rw [eN]; unfold tabAt; rw [hrow]; rfl
      refine Tri.seq (R := fun y st => y = .normal ∧ ∃ e js, st = (⟨Pk e k ++ junk js 52 13, shp t b x h z nn bad o1 (mkR rows a.toNat (k + 1) w), 3, []⟩ : St MObj)) ?_ ?_ (fun y s hx hh => absurd hh.1 hx)
      · refine Tri.block (R := fun y st => y = .normal ∧ ∃ e js, st = (⟨Pk e k ++ junk js 52 13, shp t b x h z nn bad o1 (mkR rows a.toNat (k + 1) w), 3, []⟩ : St MObj)) ?_ (fun s hh => by
          rcases hh with hh | hh
          · exact hh
          · cases hh.1) (fun y s hx _ hh => absurd hh.1 hx)
        refine Tri.allR (m := 13) (n := 52) (codeOK _) (mb t b x h z a n w nn bad o1 (mkR rows a.toNat k w) k (e 4) (e 5) (e 6) (e 7) (e 8) (e 9) (e 10) js (by omega) ha (by rw [mkR_len rows w (by omega)]; exact hr) hta) (Tr.all_ite (fun hb => absurd hb (by rw [hta]; decide)) fun hb => Tr.all_ok ⟨rfl, ht rfl, fun k' hk' => by rcases List.mem_singleton.1 hk' with rfl; exact hD2, fun js => ⟨rfl, fun j => if j = 8 then .v (ii k) else if j = 9 then .v (ii (W (a + (k : Int)))) else if j = 10 then .v (ii (tabAt (mkR rows a.toNat k w) (0 + Int.toNat (W (a + (k : Int)))) 0)) else e j, js, ?_⟩⟩)
        have e2 : List.set (mkR rows a.toNat k w) (0 + Int.toNat (W (a + (k : Int)))) (splice (List.getD (mkR rows a.toNat k w) (0 + Int.toNat (W (a + (k : Int)))) []) 0 [w]) = mkR rows a.toNat (k + 1) w := by
          rw [eN, hrow]
          exact mkR_set rows w (by omega)
        rw [← e2]
        rfl
      · rintro st ⟨_, e, js, rfl⟩
        have e4 : W ((k : Int) + 1) = ((k + 1 : Nat) : Int) := W_of (by omega) (by omega)
        refine Tri.allR (m := 13) (n := 52) (codeOK _) (mi t b x h z a n w nn bad o1 (mkR rows a.toNat (k + 1) w) k (e 4) (e 5) (e 6) (e 7) (e 8) (e 9) (e 10) js (by omega)) (Tr.all_ok ⟨rfl, ht rfl, hd0, fun js => ⟨n.toNat - (k + 1), by omega, k + 1, e, js, ?_, by omega, rfl⟩⟩)
        simp only [Sk, Pk]
        rw [← e4]
    · rintro y st hx ⟨h1, js, rfl⟩
      rcases h1 with h1 | h1
      · exact absurd h1.1 hx
      · obtain ⟨rfl, h2⟩ := h1
        obtain rfl : k = n.toNat := by omega
        exact ⟨rfl, e, js, rfl⟩
end
def mI : Intr MObj := fun args hp nid => match args, hp, nid with
  | [.s (.one (.ptr 0 0)), .s (.one (.int .i64 (.sym a))), .s (.one (.int .i64 (.sym n))), .s (.one (.int .i64 (.sym w)))],
    [(0, some (.cells [.int .i64 (.sym t), .int .i64 (.sym b), .int .i64 (.sym x), .int .i64 (.sym h), .int .i64 (.sym z), .ptr 1 0, .ts 2 (.lit 0) (.sym nn) none, .bool (.sym bad)] ty0)), (1, some o1), (2, some (.tab [.int .i64] rows ty2))], 3 =>
    .ite ((decide (ty0 = 67) && decide (ty2 = 3)) && ((decide (0 ≤ n) && (decide (0 ≤ h) && (decide (h ≤ a) && (decide (a + n ≤ z) && (decide (z ≤ nn) && decide (nn ≤ 4000)))))) && (decide (nn = rows.length) && (List.range n.toNat).all fun k => decide (rows.getD (a.toNat + k) [] = [0]))))
    (.ok ⟨.t [], shp t b x h z nn bad o1 (mkR rows a.toNat n.toNat w), [2], 3⟩) (.no "mark: places")
  | _, _, _ => .no "mark: arguments"
theorem okM : FunOK MS Try.prog 25 (renI (symI mI)) := by
  refine funOK_ren (funOKz_sym (funOK_tri Try.func25 hbM ?_))
  intro args hp nid r hrun
  unfold mI at hrun
  split at hrun
  · rename_i a n w t b x h z nn bad ty0 o1 rows ty2
    rw [Tr.run_ite] at hrun
    rcases hrun with ⟨hc, hrun⟩ | ⟨_, hrun⟩
    · rw [Tr.run_ok] at hrun
      subst hrun
      simp only [Bool.and_eq_true, decide_eq_true_eq] at hc
      obtain ⟨⟨rfl, rfl⟩, ⟨h1, h2, h3, h4, h5, h6⟩, h7, h8⟩ := hc
      refine ⟨by show 3 ≤ 3; omega, fun k o hb ho => ?_, 20, by show 3 ≤ 20; omega, fun E hE hT hD hr => allM t b x h z a n w nn bad o1 rows h1 ⟨h2, h3, h4, h5, h6⟩ h7 (fun k hk => of_decide_eq_true (List.all_eq_true.1 h8 k (List.mem_range.2 hk))) E hE hT (hr 2 (by simp))⟩
      match k, hb, ho with
      | 0, hb, _ => exact absurd hb (by decide)
      | 1, hb, _ => exact absurd hb (by decide)
      | 2, hb, _ => exact absurd hb (by decide)
      | k + 3, _, ho => cases ho
    · cases hrun
  · cases hrun
end Go.Proofs.Ytcolladpdmjloaa.ViewC
