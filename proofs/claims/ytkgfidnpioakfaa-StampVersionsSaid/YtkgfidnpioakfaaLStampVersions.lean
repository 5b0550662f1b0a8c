/-
  StampVersions: a head that is replaced again and again has a version that rises by one each time, going round; what is kept: the k-th word has the first one's version and k.
-/
import Derived.Test.YtkgfidnpioakfaaRows
import Derived.Test.YtkgfidnpioakfaaTStampVersions
import Derived.Test.YtkgfidnpioakfaaMod2
namespace Go.Proofs.Ytkgfidnpioakfaa.StampVersions
open Go Go.RowKit Go.Proofs.Ytkgfidnpioakfaa.Eng
set_option linter.unusedVariables false
set_option linter.unusedSimpArgs false
set_option linter.unusedSectionVars false
set_option maxRecDepth 20000
def unitSys : Eng.Sys Unit := ⟨fun _ _ _ _ => False, fun _ h => h⟩
theorem codeOK (c : Code) : CodeOK unitSys Try.prog c (ev c) :=
  evCode_sound progOK (fun f args hp nid r h _ => evF_sound progOK (lookI_ok tab2_ok) 100 19 f args hp nid r h) 100 c
theorem hb : Try.f5.body = some body := by kernel_rfl
noncomputable abbrev inner : Code := .block 2 (.loop (at' [true, false, false, true, true, true, false, true, false, false]))
noncomputable abbrev inBody : Code := .seq (at' [true, false, false, false]) (.seq (at' [true, false, false, true, false]) (.seq (at' [true, false, false, true, true, false]) (.seq (.seq (at' [true, false, false, true, true, true, false, false]) inner) (at' [true, false, false, true, true, true, true]))))
noncomputable abbrev lbody : Code := .seq (at' [false]) (.seq (.block 1 inBody) (at' [true, true]))
theorem restE : (Eng.spine 4 body).2 = .seq (.seq (codeAt body [true, true, true, true, false, false]) (.block 0 (.loop lbody))) (codeAt body [true, true, true, true, true]) := by kernel_rfl
theorem junk_congr {js js' : Nat → SV} : ∀ (n k : Nat), (∀ t, k ≤ t → js t = js' t) → junk js n k = junk js' n k
  | 0, _, _ => rfl
  | n + 1, k, h => by
    rw [junk, junk, h k (Nat.le_refl _), junk_congr n (k + 1) fun t ht => h t (by omega)]
theorem junk_in (pre : List SV) (x : SV) (js : Nat → SV) (n k : Nat) : pre ++ [x] ++ junk js n (k + 1) = pre ++ junk (fun t => if t = k then x else js t) (n + 1) k := by
  rw [List.append_assoc, junk, junk_congr (js := js) (js' := fun t => if t = k then x else js t) n (k + 1) fun t ht => by simp [show t ≠ k by omega]]
  simp
theorem tab_old {xs : List (List Int)} {L : Nat} (hL : L = xs.length) (w : Int) {k : Nat} (hk : k < L) : tabAt (List.take L (List.drop 0 xs) ++ [[w]]) k 0 = tabAt xs k 0 := by
  subst hL
  unfold tabAt
  have e : (xs ++ [[w]]).getD k [] = xs.getD k [] := by rw [List.getD_eq_getElem?_getD, List.getElem?_append_left hk, ← List.getD_eq_getElem?_getD]
  rw [List.drop_zero, List.take_length, e]
theorem tab_new {xs : List (List Int)} {L : Nat} (hL : L = xs.length) (w : Int) : tabAt (List.take L (List.drop 0 xs) ++ [[w]]) L 0 = w := by
  subst hL
  unfold tabAt
  have e : (xs ++ [[w]]).getD xs.length [] = [w] := by rw [List.getD_eq_getElem?_getD, List.getElem?_append_right (Nat.le_refl _)]; simp
  rw [List.drop_zero, List.take_length, e]
  rfl
theorem next_ver {w n a : Int} (hn : n = mVer w) : mVer (mNext w a) = Int.tmod (W (n + 1)) 1099511627776 := by
  have h0 : 0 ≤ mVer w ∧ mVer w < 1099511627776 := by unfold mVer; omega
  have e : W (n + 1) = n + 1 := wrap_i64_of (by omega) (by omega)
  rw [e, Int.tmod_eq_emod_of_nonneg (by omega), hn]
  unfold mNext
  rw [ver_top]
theorem next_ver' {w a : Int} : mVer (mNext w a) = (mVer w + 1) % 1099511627776 := by
  unfold mNext
  rw [ver_top]
section
variable (nl : Nat) (ls : List (List Int)) (hl : nl = ls.length) (v0 : Int) (hv0 : 0 ≤ v0 ∧ v0 < 1099511627776) (E : Ctx Unit) (hE : E.nid0 = 1) (hT : E.top = 10) (hD : ∀ b, 1 ≤ b → E.D b)
include hl hv0 hE hT hD
/-- A state behind i rounds. -/
def InB (xs : List (List Int)) (w n i : Int) : Prop := 1 ≤ i ∧ i ≤ 40 ∧ (xs.length : Int) = i + 1 ∧ n = mVer w ∧ mVer w = (v0 + i) % 1099511627776 ∧ ∀ k : Nat, k < xs.length → mVer (tabAt xs k 0) = (v0 + k) % 1099511627776
omit hl hv0 hE hT hD
noncomputable abbrev SB (w n i : Int) (xs : List (List Int)) (js : Nat → SV) : St Unit := ⟨pre w nl (aB xs.length) n i ++ junk js 48 9, hB ls xs, 2, []⟩
noncomputable abbrev SA (w n : Int) (js : Nat → SV) : St Unit := ⟨pre w nl aA n 0 ++ junk js 48 9, hA ls w, 2, []⟩
include hl hv0 hE hT hD
theorem innerB {w n i : Int} {xs : List (List Int)} {js : Nat → SV} (hx : ∀ k : Nat, k < xs.length → mVer (tabAt xs k 0) ≠ mVer w) (hs : xs.length ≤ 100) :
    Tri unitSys Try.prog E (.seq (at' [true, false, false, true, true, true, false, false]) inner) (SB nl ls w n i xs js) fun x s => x = .normal ∧ ∃ js, s = SB nl ls w n i xs js := by
  have hd : ∀ (l : List Nat), l.all (Nat.ble 1) = true → ∀ b, b ∈ l → E.D b := fun l hl b hb => hD b (Nat.le_of_ble_eq_true (List.all_eq_true.1 hl b hb))
  have ht : ∀ {k : Nat}, Nat.ble k 10 = true → k ≤ E.top := fun h => by rw [hT]; exact Nat.le_of_ble_eq_true h
  refine Tri.seq (R := fun x s => x = .normal ∧ ∃ js, s = ⟨pre w nl (aB xs.length) n i ++ [.v (.int .i64 (.lit 0))] ++ junk js 47 10, hB ls xs, 2, []⟩) (Tri.allR (m := 10) (n := 47) (codeOK _) (k0B w n i nl xs.length ls xs js (Nat.zero_le _)) (Tr.all_ok ⟨rfl, ht rfl, hd _ rfl, fun js => ⟨rfl, js, rfl⟩⟩)) ?_ (fun x s hx hh => absurd hh.1 hx)
  rintro s ⟨_, js, rfl⟩
  refine Tri.preWk (pre' := pre w nl (aB xs.length) n i ++ [.v (ii 0)]) (hp' := hB ls xs) (by (repeat' apply And.intro) <;> first | rfl | trivial) (by (repeat' apply And.intro) <;> first | rfl | trivial) ?_
  refine Tri.block (R := fun x s => x = .exit 2 ∧ ∃ js, s = SB nl ls w n i xs js) ?_ (fun s hh => by
    rcases hh with hh | hh
    · cases hh.1
    · exact ⟨rfl, hh.2⟩) (fun x s _ hx hh => absurd hh.1 hx)
  refine Tri.loop (J := fun q s => ∃ (k : Int) (js : Nat → SV), s = ⟨pre w nl (aB xs.length) n i ++ [.v (ii k)] ++ junk js 47 10, hB ls xs, 2, []⟩ ∧ (0 ≤ k ∧ k ≤ xs.length) ∧ q = ((xs.length : Int) - k).toNat) ?_ (k := ((xs.length : Int) - 0).toNat) ⟨0, js, rfl, by omega, rfl⟩
  rintro q s ⟨k, js, rfl, hk, hq⟩
  refine Tri.allR (m := 10) (n := 47) (codeOK _) (inB w n i k nl xs.length ls xs js hk.1 rfl (fun hlt => ?_)) (Tr.all_ite (fun h1 => Tr.all_ok ⟨rfl, ht rfl, hd _ rfl, fun js => ?_⟩) fun h1 => Tr.all_ok ⟨rfl, ht rfl, hd _ rfl, fun js => ⟨rfl, fun t => if t = 9 then .v (ii k) else js t, ?_⟩⟩)
  · rw [beq_eq_false_iff_ne]
    intro e
    have := hx (0 + k.toNat) (by omega)
    rw [e] at this
    exact this rfl
  · have h1 := of_decide_eq_true h1
    have e4 : W (k + 1) = k + 1 := wrap_i64_of (by omega) (by omega)
    exact ⟨((xs.length : Int) - (k + 1)).toNat, by omega, W (k + 1), js, rfl, by omega, by omega⟩
  · show (⟨pre w nl (aB xs.length) n i ++ [.v (ii k)] ++ junk js 47 10, hB ls xs, 2, []⟩ : St Unit) = _
    rw [junk_in]
theorem innerA {w n i x : Int} {js : Nat → SV} (hx : mVer x ≠ mVer w) :
    Tri unitSys Try.prog E (.seq (at' [true, false, false, true, true, true, false, false]) inner) ⟨pre w nl aA n i ++ junk js 48 9, hA ls x, 2, []⟩ fun y s => y = .normal ∧ ∃ js, s = ⟨pre w nl aA n i ++ junk js 48 9, hA ls x, 2, []⟩ := by
  have hd : ∀ (l : List Nat), l.all (Nat.ble 1) = true → ∀ b, b ∈ l → E.D b := fun l hl b hb => hD b (Nat.le_of_ble_eq_true (List.all_eq_true.1 hl b hb))
  have ht : ∀ {k : Nat}, Nat.ble k 10 = true → k ≤ E.top := fun h => by rw [hT]; exact Nat.le_of_ble_eq_true h
  have hne : (x == w) = false := by
    rw [beq_eq_false_iff_ne]
    intro e
    rw [e] at hx
    exact hx rfl
  refine Tri.seq (R := fun y s => y = .normal ∧ ∃ js, s = ⟨pre w nl aA n i ++ [.v (.int .i64 (.lit 0))] ++ junk js 47 10, hA ls x, 2, []⟩) (Tri.allR (m := 10) (n := 47) (codeOK _) (k0A w n i x nl ls js (Nat.zero_le _)) (Tr.all_ok ⟨rfl, ht rfl, hd _ rfl, fun js => ⟨rfl, js, rfl⟩⟩)) ?_ (fun x s hx hh => absurd hh.1 hx)
  rintro s ⟨_, js, rfl⟩
  refine Tri.preWk (pre' := pre w nl aA n i ++ [.v (ii 0)]) (hp' := hA ls x) (by (repeat' apply And.intro) <;> first | rfl | trivial) (by (repeat' apply And.intro) <;> first | rfl | trivial) ?_
  refine Tri.block (R := fun y s => y = .exit 2 ∧ ∃ js, s = ⟨pre w nl aA n i ++ junk js 48 9, hA ls x, 2, []⟩) ?_ (fun s hh => by
    rcases hh with hh | hh
    · cases hh.1
    · exact ⟨rfl, hh.2⟩) (fun x s _ hx hh => absurd hh.1 hx)
  refine Tri.loop (J := fun q s => ∃ (k : Int) (js : Nat → SV), s = ⟨pre w nl aA n i ++ [.v (ii k)] ++ junk js 47 10, hA ls x, 2, []⟩ ∧ (0 ≤ k ∧ k ≤ 1) ∧ q = (1 - k).toNat) ?_ (k := (1 - 0 : Int).toNat) ⟨0, js, rfl, by omega, rfl⟩
  rintro q s ⟨k, js, rfl, hk, hq⟩
  refine Tri.allR (m := 10) (n := 47) (codeOK _) (inA w n i x k nl ls js hk.1 hk.2 hne) (Tr.all_ite (fun h1 => Tr.all_ok ⟨rfl, ht rfl, hd _ rfl, fun js => ?_⟩) fun h1 => Tr.all_ok ⟨rfl, ht rfl, hd _ rfl, fun js => ⟨rfl, fun t => if t = 9 then .v (ii k) else js t, ?_⟩⟩)
  · have h1 := of_decide_eq_true h1
    have e4 : W (k + 1) = k + 1 := wrap_i64_of (by omega) (by omega)
    exact ⟨(1 - (k + 1)).toNat, by omega, W (k + 1), js, rfl, by omega, by omega⟩
  · show (⟨pre w nl aA n i ++ [.v (ii k)] ++ junk js 47 10, hA ls x, 2, []⟩ : St Unit) = _
    rw [junk_in]
/-- A round. -/
theorem roundB {w n i : Int} {xs : List (List Int)} {js : Nat → SV} (hI : InB v0 xs w n i) :
    Tri unitSys Try.prog E lbody (SB nl ls w n i xs js) fun x s => (x = .normal ∧ ∃ w' n' xs' js', s = SB nl ls w' n' (i + 1) xs' js' ∧ InB v0 xs' w' n' (i + 1)) ∨ (x = .exit 0 ∧ ∃ js', s = SB nl ls w n i xs js') := by
  have hd : ∀ (l : List Nat), l.all (Nat.ble 1) = true → ∀ b, b ∈ l → E.D b := fun l hl b hb => hD b (Nat.le_of_ble_eq_true (List.all_eq_true.1 hl b hb))
  have ht : ∀ {k : Nat}, Nat.ble k 10 = true → k ≤ E.top := fun h => by rw [hT]; exact Nat.le_of_ble_eq_true h
  obtain ⟨i1, i2, i3, i4, i5, i6⟩ := hI
  refine Tri.seq (R := fun x s => ∃ js, s = SB nl ls w n i xs js ∧ ((x = .normal ∧ i < nl ∧ i < 40) ∨ x = .exit 0)) ?_ ?_ ?_
  · exact Tri.allR (m := 9) (n := 48) (codeOK _) (rAB w n i nl xs.length ls xs js (Nat.zero_le _)) (Tr.all_ite (fun h1 => Tr.all_ite (fun h2 => Tr.all_ok ⟨rfl, ht rfl, hd _ rfl, fun js => ⟨js, rfl, .inl ⟨rfl, of_decide_eq_true h1, of_decide_eq_true h2⟩⟩⟩) fun _ => Tr.all_ok ⟨rfl, ht rfl, hd _ rfl, fun js => ⟨js, rfl, .inr rfl⟩⟩) fun _ => Tr.all_ok ⟨rfl, ht rfl, hd _ rfl, fun js => ⟨js, rfl, .inr rfl⟩⟩)
  · rintro s ⟨js, rfl, h | h⟩
    rotate_left
    · cases h
    obtain ⟨_, hin, hi40⟩ := h
    have e4 : W (i + 1) = i + 1 := wrap_i64_of (by omega) (by omega)
    have hv := next_ver (a := tabAt ls i.toNat 0) i4
    have hv' : mVer (mNext w (tabAt ls i.toNat 0)) = (v0 + (i + 1)) % 1099511627776 := by rw [next_ver', i5]; omega
    refine Tri.seq (R := fun x s => x = .normal ∧ ∃ w' n' xs' js', s = SB nl ls w' n' i xs' js' ∧ InB v0 xs' w' n' (i + 1)) ?_ ?_ (fun x s hx hh => absurd hh.1 hx)
    · refine Tri.block (R := fun x s => x = .normal ∧ ∃ w' n' xs' js', s = SB nl ls w' n' i xs' js' ∧ InB v0 xs' w' n' (i + 1)) ?_ (fun s hh => by
        rcases hh with hh | hh
        · exact hh
        · cases hh.1) (fun x s hx _ hh => absurd hh.1 hx)
      refine Tri.listR (m := 9) (n := 48) (l := [at' [true, false, false, false], at' [true, false, false, true, false], at' [true, false, false, true, true, false]]) (c' := .seq (.seq (at' [true, false, false, true, true, true, false, false]) inner) (at' [true, false, false, true, true, true, true])) codeOK 3 rfl rfl (nextB w n i nl xs.length ls xs js (by omega) hin hl)
        (Tr.all_ite (fun h => by rw [hv] at h; simp at h) fun _ => Tr.all_ok ⟨rfl, rfl, ht rfl, hd _ rfl, fun js => ?_⟩)
      refine Tri.seq (innerB nl ls hl v0 hv0 E hE hT hD (w := mNext w (tabAt ls i.toNat 0)) (fun k hk => ?_) (by omega)) ?_ (fun x s hx hh => absurd hh.1 hx)
      · rw [i6 k hk, hv']; omega
      · rintro s ⟨_, js, rfl⟩
        refine Tri.postRen (Q := fun x s => x = .normal ∧ ∃ js, s = ⟨pre (mNext w (tabAt ls i.toNat 0)) nl (.v (.ts 3 (.lit 0) (.sym (xs.length + 1)) none)) (Int.tmod (W (n + 1)) 1099511627776) i ++ junk js 48 9, [(0, some (.rotab [.int .i64] ls)), (2, some (.cells [uu (mNext w (tabAt ls i.toNat 0))] 29)), (3, some (.tab [.int .u64] (List.take xs.length (List.drop 0 xs) ++ [[mNext w (tabAt ls i.toNat 0)]]) 29))], 4, []⟩)
          (Tri.allR (m := 9) (n := 48) (codeOK _) (apB _ _ i nl xs.length ls xs js rfl (by omega)) (Tr.all_ok ⟨rfl, ht rfl, hd _ rfl, fun js => ⟨rfl, js, rfl⟩⟩)) ?_
        rintro x s ⟨rfl, js, rfl⟩
        have hlen : (List.take xs.length (List.drop 0 xs) ++ [[mNext w (tabAt ls i.toNat 0)]]).length = xs.length + 1 := by simp
        refine ⟨[(0, 0), (3, 1)], _, pre (mNext w (tabAt ls i.toNat 0)) nl (aB (xs.length + 1)) (Int.tmod (W (n + 1)) 1099511627776) i, hB ls (List.take xs.length (List.drop 0 xs) ++ [[mNext w (tabAt ls i.toNat 0)]]), 2, 9, 48, rfl, by simp [length_junk], rfl, rfl, by rw [hE]; rfl, by omega, by omega, fun js => ⟨rfl, _, _, List.take xs.length (List.drop 0 xs) ++ [[mNext w (tabAt ls i.toNat 0)]], js, congrArg (fun L => (⟨pre (mNext w (tabAt ls i.toNat 0)) nl (aB L) (Int.tmod (W (n + 1)) 1099511627776) i ++ junk js 48 9, hB ls (List.take xs.length (List.drop 0 xs) ++ [[mNext w (tabAt ls i.toNat 0)]]), 2, []⟩ : St Unit)) hlen.symm, by omega, by omega, by rw [hlen]; omega, hv.symm, hv', fun k hk => ?_⟩⟩
        rw [hlen] at hk
        by_cases hk2 : k < xs.length
        · rw [tab_old rfl _ hk2]; exact i6 k hk2
        · have : k = xs.length := by omega
          subst this
          rw [tab_new rfl, hv']
          omega
    · rintro s ⟨_, w', n', xs', js', rfl, h⟩
      exact Tri.allR (m := 9) (n := 48) (codeOK _) (incB w' n' i nl xs'.length ls xs' js' (Nat.zero_le _)) (Tr.all_ok ⟨rfl, ht rfl, hd _ rfl, fun js => .inl ⟨rfl, w', n', xs', js, by rw [← e4], h⟩⟩)
  · rintro x s hx ⟨js, rfl, h | h⟩
    · exact absurd h.1 hx
    · exact .inr ⟨h, js, rfl⟩
/-- The first round. -/
theorem roundA {w n : Int} {js : Nat → SV} (hn : n = mVer w) (hw : mVer w = v0) :
    Tri unitSys Try.prog E lbody (SA nl ls w n js) fun x s => (x = .normal ∧ ∃ w' n' xs' js', s = SB nl ls w' n' 1 xs' js' ∧ InB v0 xs' w' n' 1) ∨ (x = .exit 0 ∧ ∃ js', s = SA nl ls w n js') := by
  have hd : ∀ (l : List Nat), l.all (Nat.ble 1) = true → ∀ b, b ∈ l → E.D b := fun l hl b hb => hD b (Nat.le_of_ble_eq_true (List.all_eq_true.1 hl b hb))
  have ht : ∀ {k : Nat}, Nat.ble k 10 = true → k ≤ E.top := fun h => by rw [hT]; exact Nat.le_of_ble_eq_true h
  refine Tri.seq (R := fun x s => ∃ js, s = SA nl ls w n js ∧ ((x = .normal ∧ 0 < (nl : Int)) ∨ x = .exit 0)) ?_ ?_ ?_
  · exact Tri.allR (m := 9) (n := 48) (codeOK _) (rAA w n 0 w nl ls js (Nat.zero_le _)) (Tr.all_ite (fun h1 => Tr.all_ite (fun h2 => Tr.all_ok ⟨rfl, ht rfl, hd _ rfl, fun js => ⟨js, rfl, .inl ⟨rfl, of_decide_eq_true h1⟩⟩⟩) fun _ => Tr.all_ok ⟨rfl, ht rfl, hd _ rfl, fun js => ⟨js, rfl, .inr rfl⟩⟩) fun _ => Tr.all_ok ⟨rfl, ht rfl, hd _ rfl, fun js => ⟨js, rfl, .inr rfl⟩⟩)
  · rintro s ⟨js, rfl, h | h⟩
    rotate_left
    · cases h
    obtain ⟨_, hin⟩ := h
    have hv := next_ver (a := tabAt ls (Int.toNat 0) 0) hn
    have hv' : mVer (mNext w (tabAt ls (Int.toNat 0) 0)) = (v0 + 1) % 1099511627776 := by rw [next_ver', hw]
    refine Tri.seq (R := fun x s => x = .normal ∧ ∃ w' n' xs' js', s = SB nl ls w' n' 0 xs' js' ∧ InB v0 xs' w' n' 1) ?_ ?_ (fun x s hx hh => absurd hh.1 hx)
    · refine Tri.block (R := fun x s => x = .normal ∧ ∃ w' n' xs' js', s = SB nl ls w' n' 0 xs' js' ∧ InB v0 xs' w' n' 1) ?_ (fun s hh => by
        rcases hh with hh | hh
        · exact hh
        · cases hh.1) (fun x s hx _ hh => absurd hh.1 hx)
      refine Tri.listR (m := 9) (n := 48) (l := [at' [true, false, false, false], at' [true, false, false, true, false], at' [true, false, false, true, true, false]]) (c' := .seq (.seq (at' [true, false, false, true, true, true, false, false]) inner) (at' [true, false, false, true, true, true, true])) codeOK 3 rfl rfl (nextA w n 0 w nl ls js (by omega) hin hl)
        (Tr.all_ite (fun h => by rw [hv] at h; simp at h) fun _ => Tr.all_ok ⟨rfl, rfl, ht rfl, hd _ rfl, fun js => ?_⟩)
      refine Tri.seq (innerA nl ls hl v0 hv0 E hE hT hD (w := mNext w (tabAt ls (Int.toNat 0) 0)) (x := w) (by rw [hv', hw]; omega)) ?_ (fun x s hx hh => absurd hh.1 hx)
      rintro s ⟨_, js, rfl⟩
      refine Tri.postE (Q := fun x s => x = .normal ∧ ∃ js, s = ⟨pre (mNext w (tabAt ls (Int.toNat 0) 0)) nl (.v (.ts 1 (.lit 0) (.lit 2) none)) (Int.tmod (W (n + 1)) 1099511627776) 0 ++ junk js 48 9, hB ls [[w], [(mNext w (tabAt ls (Int.toNat 0) 0))]], 2, []⟩) ?_ ?_
      · refine Tri.postRen (Q := fun x s => x = .normal ∧ ∃ js, s = ⟨pre (mNext w (tabAt ls (Int.toNat 0) 0)) nl (.v (.ts 3 (.lit 0) (.lit 2) none)) (Int.tmod (W (n + 1)) 1099511627776) 0 ++ junk js 48 9, [(0, some (.rotab [.int .i64] ls)), (1, some (.cells [uu w] 29)), (2, some (.cells [uu (mNext w (tabAt ls (Int.toNat 0) 0))] 29)), (3, some (.tab [.int .u64] [[w], [(mNext w (tabAt ls (Int.toNat 0) 0))]] 29))], 4, []⟩)
          (Tri.allR (m := 9) (n := 48) (codeOK _) (apA _ _ 0 w nl ls js (Nat.zero_le _)) (Tr.all_ok ⟨rfl, ht rfl, hd _ rfl, fun js => ⟨rfl, js, rfl⟩⟩)) ?_
        rintro x s ⟨rfl, js, rfl⟩
        exact ⟨[(0, 0), (3, 1)], _, pre (mNext w (tabAt ls (Int.toNat 0) 0)) nl (.v (.ts 1 (.lit 0) (.lit 2) none)) (Int.tmod (W (n + 1)) 1099511627776) 0, hB ls [[w], [(mNext w (tabAt ls (Int.toNat 0) 0))]], 2, 9, 48, rfl, by simp [length_junk], rfl, rfl, by rw [hE]; rfl, by omega, by omega, fun js => ⟨rfl, js, rfl⟩⟩
      · rintro x s ac wd ⟨rfl, js, rfl⟩ hat
        refine ⟨_, at_wk (dirty' := []) (pre' := pre (mNext w (tabAt ls (Int.toNat 0) 0)) nl (aB 2) (Int.tmod (W (n + 1)) 1099511627776) 0) (hp' := hB ls [[w], [(mNext w (tabAt ls (Int.toNat 0) 0))]]) (by (repeat' apply And.intro) <;> first | rfl | trivial) (by (repeat' apply And.intro) <;> first | rfl | trivial) hat, rfl, (mNext w (tabAt ls (Int.toNat 0) 0)), (Int.tmod (W (n + 1)) 1099511627776), [[w], [(mNext w (tabAt ls (Int.toNat 0) 0))]], js, rfl, by omega, by omega, rfl, hv.symm, hv', fun k hk => ?_⟩
        match k, hk with
        | 0, _ => show mVer w = _; rw [hw]; simp; omega
        | 1, _ => show mVer (mNext w (tabAt ls (Int.toNat 0) 0)) = _; rw [hv']; rfl
        | k + 2, hk =>
          exfalso
          have hk : k + 2 < 2 := hk
          omega
    · rintro s ⟨_, w', n', xs', js', rfl, h⟩
      exact Tri.allR (m := 9) (n := 48) (codeOK _) (incB w' n' 0 nl xs'.length ls xs' js' (Nat.zero_le _)) (Tr.all_ok ⟨rfl, ht rfl, hd _ rfl, fun js => .inl ⟨rfl, w', n', xs', js, rfl, h⟩⟩)
  · rintro x s hx ⟨js, rfl, h | h⟩
    · exact absurd h.1 hx
    · exact .inr ⟨h, js, rfl⟩
end
abbrev Fin : VX → St Unit → Prop := fun x st => (x = .normal ∨ x = .ret) ∧ ∃ l, (vresults Try.prog st Try.f5.results.toList).run = some l ∧ IsTrue (tupleOf l)
theorem resB (w n i : Int) (nl L : Nat) (ls xs : List (List Int)) (js : Nat → SV) : vresults Try.prog (⟨[.v (uu w), .v (.an 0 (.sym nl)), .t [], .t [], .v (.bool (.lit true)), .v (.bool (.lit true)), aB L, .v (ii n), .v (ii i)] ++ junk js 48 9, hB ls xs, 2, []⟩ : St Unit) Try.f5.results.toList = .ok [.one (.bool (.lit true))] := by kernel_rfl
theorem resA (w n i x : Int) (nl : Nat) (ls : List (List Int)) (js : Nat → SV) : vresults Try.prog (⟨[.v (uu w), .v (.an 0 (.sym nl)), .t [], .t [], .v (.bool (.lit true)), .v (.bool (.lit true)), aA, .v (ii n), .v (ii i)] ++ junk js 48 9, hA ls x, 2, []⟩ : St Unit) Try.f5.results.toList = .ok [.one (.bool (.lit true))] := by kernel_rfl
theorem runs (w : Int) (nl : Nat) (ls : List (List Int)) (hl : nl = ls.length) (E : Ctx Unit) (hE : E.nid0 = 1) (hT : E.top = 10) (hD : ∀ b, 1 ≤ b → E.D b) :
    Tri unitSys Try.prog E body ⟨[.v (uu w), .v (.an 0 (.sym nl))] ++ List.replicate (nt - 2) .undef, [(0, some (.rotab [.int .i64] ls))], 1, []⟩ Fin := by
  have hd : ∀ (l : List Nat), l.all (Nat.ble 1) = true → ∀ b, b ∈ l → E.D b := fun l hl b hb => hD b (Nat.le_of_ble_eq_true (List.all_eq_true.1 hl b hb))
  have ht : ∀ {k : Nat}, Nat.ble k 10 = true → k ≤ E.top := fun h => by rw [hT]; exact Nat.le_of_ble_eq_true h
  have hv0 : 0 ≤ mVer w ∧ mVer w < 1099511627776 := by unfold mVer; omega
  refine Tri.listR (m := 9) (n := 48) (l := (Eng.spine 4 body).1) codeOK 4 rfl restE (start w nl ls (Nat.zero_le _)) (Tr.all_ok ⟨rfl, rfl, ht rfl, hd _ rfl, fun js => ?_⟩)
  refine Tri.seq (R := fun x s => x = .normal ∧ ((∃ n js, s = SA nl ls w n js) ∨ ∃ w' n' i xs js, s = SB nl ls w' n' i xs js)) ?_ ?_ (fun x s hx hh => absurd hh.1 hx)
  · refine Tri.seq (R := fun x s => x = .normal ∧ ∃ js, s = ⟨[.v (uu w), .v (.an 0 (.sym nl)), .t [], .t [], .v (.bool (.lit false)), .v (.bool (.lit true)), aA, .v (ii (mVer w)), .v (.int .i64 (.lit 0))] ++ junk js 48 9, hA ls w, 2, []⟩) (Tri.allR (m := 9) (n := 48) (codeOK _) (init w (mVer w) nl ls (.t []) js (Nat.zero_le _)) (Tr.all_ok ⟨rfl, ht rfl, hd _ rfl, fun js => ⟨rfl, js, rfl⟩⟩)) ?_ (fun x s hx hh => absurd hh.1 hx)
    rintro s ⟨_, js, rfl⟩
    refine Tri.preWk (pre' := pre w nl aA (mVer w) 0) (hp' := hA ls w) (by (repeat' apply And.intro) <;> first | rfl | trivial) (by (repeat' apply And.intro) <;> first | rfl | trivial) ?_
    refine Tri.block (R := fun x s => x = .exit 0 ∧ ((∃ n js, s = SA nl ls w n js) ∨ ∃ w' n' i xs js, s = SB nl ls w' n' i xs js)) ?_ (fun s hh => by
      rcases hh with hh | hh
      · cases hh.1
      · exact ⟨rfl, hh.2⟩) (fun x s _ hx hh => absurd hh.1 hx)
    refine Tri.loop (J := fun q s => (q = 41 ∧ ∃ js, s = SA nl ls w (mVer w) js) ∨ ∃ w' n' i xs js, s = SB nl ls w' n' i xs js ∧ InB (mVer w) xs w' n' i ∧ q = (40 - i).toNat) ?_ (k := 41) (.inl ⟨rfl, js, rfl⟩)
    rintro q s (⟨rfl, js, rfl⟩ | ⟨w', n', i, xs, js, rfl, hI, rfl⟩)
    · refine (roundA nl ls hl (mVer w) hv0 E hE hT hD rfl rfl).mono ?_
      rintro x s (⟨rfl, w', n', xs', js', rfl, h⟩ | ⟨rfl, js', rfl⟩)
      · exact ⟨(40 - 1 : Int).toNat, by decide, .inr ⟨w', n', 1, xs', js', rfl, h, rfl⟩⟩
      · exact ⟨rfl, .inl ⟨_, js', rfl⟩⟩
    · refine (roundB nl ls hl (mVer w) hv0 E hE hT hD hI).mono ?_
      rintro x s (⟨rfl, w2, n2, xs', js', rfl, h⟩ | ⟨rfl, js', rfl⟩)
      · have := h.2.1
        exact ⟨(40 - (i + 1)).toNat, by omega, .inr ⟨w2, n2, i + 1, xs', js', rfl, h, rfl⟩⟩
      · exact ⟨rfl, .inr ⟨_, _, _, _, js', rfl⟩⟩
  · rintro s ⟨_, ⟨n, js, rfl⟩ | ⟨w', n', i, xs, js, rfl⟩⟩
    · exact Tri.allR (m := 9) (n := 48) (codeOK _) (finA w n 0 w nl ls js (Nat.zero_le _)) (Tr.all_ok ⟨rfl, ht rfl, hd _ rfl, fun js => ⟨.inr rfl, _, (congrArg Tr.run (resA w n 0 w nl ls js)).trans rfl, rfl⟩⟩)
    · exact Tri.allR (m := 9) (n := 48) (codeOK _) (finB w' n' i nl xs.length ls xs js (Nat.zero_le _)) (Tr.all_ok ⟨rfl, ht rfl, hd _ rfl, fun js => ⟨.inr rfl, _, (congrArg Tr.run (resB w' n' i nl xs.length ls xs js)).trans rfl, rfl⟩⟩)
abbrev ts : List TypeId := [29, 37]
theorem hts : Try.f5.params.toList = ts := by kernel_rfl
theorem arg0 (n : Int) : (SV.s (mkS1 Try.prog 29 [.int .u64] [n])) = .v (uu n) := by kernel_rfl
theorem core (w : World) (vals : List Value) (ha : F2 (ArgOK Try.prog w) ts vals) :
    Calls Try.prog 5 vals.toArray w fun e W' => ∃ v, e = .returned v ∧ v = .bool true ∧ Below w.heap.size w W' := by
  obtain ⟨u, v, rfl⟩ : ∃ u v, vals = [u, v] := by
    match vals, ha with
    | [u, v], _ => exact ⟨u, v, rfl⟩
    | [], ha => exact ha.elim
    | [_], ha => exact ha.2.elim
    | _ :: _ :: _ :: _, ha => exact ha.2.2.elim
  obtain ⟨ns, cs, hcs, hr⟩ := arg_plain (ks := [.int .u64]) ha.1 (by kernel_rfl)
  obtain ⟨n0, rfl⟩ : ∃ n0, ns = [n0] := by
    have := hcs.fits'
    match ns, this with
    | [n0], h => exact ⟨n0, rfl⟩
    | [], h => exact h.elim
    | _ :: _ :: _, h => exact h.2.elim
  obtain ⟨xs, p, hf, hlen, hall⟩ := arg_slice (e := 3) (ks := [.int .i64]) ha.2.1 (by kernel_rfl) (by kernel_rfl) (by kernel_rfl) (by decide)
  let ρ0 : Rho := fun b => match b with | 0 => some p | _ + 1 => none
  have hρ : ∀ b, 1 ≤ b → ρ0 b = none := fun b hb => by
    match b, hb with
    | b + 1, _ => rfl
  have hr0 : RS ρ0 (.s (mkS1 Try.prog 29 [.int .u64] [n0])) u := hr ρ0
  rw [arg0] at hr0
  refine (calls_of_triA (S := unitSys) (vargs := [u, v]) (R := IsTrue) Try.func5 hb 1 10 (by omega) hρ (hp := [(0, some (.rotab [.int .i64] xs))]) (fun b o ho => ?_) (runs n0 xs.length xs rfl _ rfl rfl (fun b hb => hb)) ⟨hr0, (hall unitSys ρ0 0 rfl).1, trivial⟩).mono ?_
  · match b, ho with
    | 0, ho =>
      injection ho with ho
      subst ho
      exact (hall unitSys ρ0 0 rfl).2
    | b + 1, ho => cases ho
  · rintro e w' ⟨v, x, ρ, rfl, hv, hR, hbel⟩
    exact ⟨v, rfl, hR.value hv, hbel⟩
theorem own : ownKnob Try.prog.godebug = none := by kernel_rfl
theorem lifted {H : Type} (os : Os) (started : os.Started) (enc : TypeId × Value → H) : ReturnsInHanded {} Try.checked os 5 .any (Rows.stampVersionsSpec.pre6 enc Try.prog Try.f5 Rows.stampVersionsRow.domain false) (Rows.stampVersionsSpec.post enc Try.prog Try.f5 false true false false) :=
  law_lifted own started (by kernel_rfl) (by kernel_rfl)
    (ChangeSpec.witness6 (enc := enc) (C := Try.checked) false ⟨#[], #[.int .u64 0, .slice none 0 0], []⟩ 8 (by kernel_rfl) (by kernel_rfl) (by kernel_rfl) (by kernel_rfl))
    (tb := 4) (by kernel_rfl) (by kernel_rfl) rfl
    (fun ds hd => by
      match ds, hd with
      | [_, _], _ => exact ⟨rfl, rfl, rfl⟩)
    (by kernel_rfl) (by kernel_rfl) (fun W vals ha => core W vals (hts ▸ ha))
theorem proved : Rows.StampVersionsSaid :=
  OpenClaim.holds_of_wide 5 Try.f5 rfl rfl rfl rfl rfl rfl rfl ⟨rfl, rfl, rfl, rfl, rfl⟩ rfl rfl rfl rfl rfl (by kernel_rfl) Try.func5 (by kernel_rfl) (of_decide_eq_true (by kernel_rfl))
    (by unfold Func.isWrapper; first | (rw [if_pos (by decide +kernel)]; kernel_rfl) | (rw [if_neg (by decide +kernel)]; exact ⟨rfl, rfl⟩))
    (fun os started H enc _ => lifted os started enc)
end Go.Proofs.Ytkgfidnpioakfaa.StampVersions
