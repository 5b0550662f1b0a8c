/-
  GreyOrder: alone, what was shaded last is told first, each with its count; what is kept: the words hold a list of the objects that were shaded, the last one first.
-/
import Derived.Test.YtlkanbgcghjhnaaRows
import Derived.Test.YtlkanbgcghjhnaaLGreyOrder0
import Derived.Test.YtlkanbgcghjhnaaEngZh
namespace Go.Proofs.Ytlkanbgcghjhnaa.GreyOrder
open Go Go.RowKit Go.Proofs.Ytlkanbgcghjhnaa.Eng
set_option linter.unusedVariables false
set_option linter.unusedSimpArgs false
set_option linter.unusedSectionVars false
set_option maxRecDepth 20000

theorem hb : Try.f3.body = some body := by kernel_rfl
noncomputable abbrev inBody : Code := .seq (qt [false]) (.seq (qt [true, false]) (.seq (qt [true, true, false]) (.seq (qt [true, true, true, false]) (.seq (qt [true, true, true, true, false]) (.seq (qt [true, true, true, true, true, false]) (qt [true, true, true, true, true, true]))))))
noncomputable abbrev lbody : Code := .seq (at' [false]) (.seq (.block 1 inBody) (at' [true, true]))
noncomputable abbrev lbody2 : Code := .seq (a2 [false]) (.seq (.block 5 (rt [])) (a2 [true, true]))
noncomputable abbrev i1c : Code := codeAt body [true, true, true, true, true, true, false, false]
noncomputable abbrev i2c : Code := codeAt body [true, true, true, true, true, true, true, false, false]
noncomputable abbrev finc : Code := codeAt body [true, true, true, true, true, true, true, true]
theorem restE : (Eng.spine 6 body).2 = .seq (.seq i1c (.block 0 (.loop lbody))) (.seq (.seq i2c (.block 4 (.loop lbody2))) finc) := by kernel_rfl
/-- What is kept while objects are shaded. -/
def P1 (nl : Nat) (ls : List (List Int)) (ys : List Int) (i b : Int) (L : List Int) (st : St MObj) : Prop := ∃ xs c js, J xs L ∧ Un xs L ∧ (16 ≤ c ∧ c ≤ b) ∧ ((L = [] ∧ st = SA nl ls ys xs c i js) ∨ (1 ≤ L.length ∧ st = SB nl ls ys xs c i L js))
theorem W_of {x : Int} (h : -100000 ≤ x) (h2 : x ≤ 100000) : W x = x := wrap_i64_of (by omega) (by omega)
abbrev Fin : VX → St MObj → Prop := fun x st => (x = .normal ∨ x = .ret) ∧ ∃ l, (vresults Try.prog st Try.f3.results.toList).run = some l ∧ IsTrue (tupleOf l)
theorem res (x0 x1 x3 x4 x5 x6 x7 x8 x9 x10 x11 x12 x13 x14 : SV) (hp : HP MObj) (nid : Nat) (js : Nat → SV) : vresults Try.prog (⟨[x0, x1, .v (.bool (.lit true)), x3, x4, x5, x6, x7, x8, x9, x10, x11, x12, x13, x14] ++ junk js 143 15, hp, nid, []⟩ : St MObj) Try.f3.results.toList = .ok [.one (.bool (.lit true))] := by kernel_rfl
section
variable (nl : Nat) (ls : List (List Int)) (ys : List Int) (E : Ctx MObj) (hE : E.nid0 = 1) (hT : E.top = 20) (hD : ∀ b, 1 ≤ b → E.D b)
include hE hT hD
theorem roundA (hl : nl = ls.length) (hf : RFits [.int .i64] ls) {i c b : Int} {xs : List Int} (hj : J xs ([] : List Int)) (hu : Un xs ([] : List Int)) (hc : 16 ≤ c ∧ c ≤ b) (hb : b ≤ 1000) (hi : 0 ≤ i ∧ i ≤ 30) (js : Nat → SV) :
    Tri MS Try.prog E lbody (SA nl ls ys xs c i js) fun x s => (x = .normal ∧ i < 30 ∧ ∃ L', L'.length ≤ ([] : List Int).length + 1 ∧ P1 nl ls ys (i + 1) (b + 5) L' s) ∨ (x = .exit 0 ∧ P1 nl ls ys i b ([] : List Int) s) := by
  have hd : ∀ (l : List Nat), l.all (Nat.ble 1) = true → ∀ b, b ∈ l → E.D b := fun l hl b hb => hD b (Nat.le_of_ble_eq_true (List.all_eq_true.1 hl b hb))
  have ht : ∀ {k : Nat}, Nat.ble k 20 = true → k ≤ E.top := fun h => by rw [hT]; exact Nat.le_of_ble_eq_true h
  have hc1 : 0 ≤ c ∧ c ≤ 100000 := by omega
  refine Tri.seq (R := fun x s => ∃ js, s = SA nl ls ys xs c i js ∧ ((x = .normal ∧ i < nl ∧ i < 30) ∨ x = .exit 0)) ?_ ?_ ?_
  · exact Tri.allR (m := 9) (n := 149) (codeOK _) (gA nl ls xs ys c i (sb ([] : List Int)) js hj.len hc1) (Tr.all_ite (fun h1 => Tr.all_ite (fun h2 => Tr.all_ok ⟨rfl, ht rfl, hd _ rfl, fun js => ⟨js, rfl, .inl ⟨rfl, of_decide_eq_true h1, of_decide_eq_true h2⟩⟩⟩) fun h2 => Tr.all_ok ⟨rfl, ht rfl, hd _ rfl, fun js => ⟨js, rfl, .inr rfl⟩⟩) fun h1 => Tr.all_ok ⟨rfl, ht rfl, hd _ rfl, fun js => ⟨js, rfl, .inr rfl⟩⟩)
  · rintro s ⟨js, rfl, h | h⟩
    rotate_left
    · cases h
    obtain ⟨_, hin, hi30⟩ := h
    have hix : i.toNat < ls.length := by omega
    have hkr := kM_range (c := tabAt ls i.toNat 0) (n := 16) (by decide) (tab_fits hf hix (j := 0) rfl)
    obtain ⟨k, hkk⟩ : ∃ k : Nat, kM (tabAt ls i.toNat 0) 16 = (k : Int) := ⟨(kM (tabAt ls i.toNat 0) 16).toNat, by omega⟩
    have hk16 : k < 16 := by omega
    have ea : W (96 + W (4 * kM (tabAt ls i.toNat 0) 16)) = 96 + 4 * (k : Int) := by rw [hkk, W_of (x := 4 * (k : Int)) (by omega) (by omega), W_of (by omega) (by omega)]
    have en : (96 + 4 * (k : Int)).toNat = 96 + 4 * k := by omega
    refine Tri.seq (R := fun x s => x = .normal ∧ ∃ L', L'.length ≤ ([] : List Int).length + 1 ∧ P1 nl ls ys i (b + 5) L' s) ?_ ?_ (fun x s hx hh => absurd hh.1 hx)
    · refine Tri.block (R := fun x s => x = .normal ∧ ∃ L', L'.length ≤ ([] : List Int).length + 1 ∧ P1 nl ls ys i (b + 5) L' s) ?_ (fun s hh => by
        rcases hh with hh | hh
        · exact hh
        · cases hh.1) (fun x s hx _ hh => absurd hh.1 hx)
      refine Tri.seq (R := fun x s => x = .normal ∧ ∃ js, s = ⟨pre nl oA i ++ [.v (ii (kM (tabAt ls i.toNat 0) 16))] ++ junk js 148 10, hA ls xs ys c (sb []), 4, []⟩) (Tri.allR (m := 10) (n := 148) (codeOK _) (kA nl ls xs ys c i (sb ([] : List Int)) js hj.len hc1 ⟨hi.1, hin⟩ hl) (Tr.all_ok ⟨rfl, ht rfl, hd _ rfl, fun js => ⟨rfl, js, rfl⟩⟩)) ?_ (fun x s hx hh => absurd hh.1 hx)
      rintro s ⟨_, js, rfl⟩
      have hs := shade hj hu hk16 (by simp)
      have h17 := hu k hk16 (by simp)
      refine Tri.listR (m := 13) (n := 145) (l := [qt [true, false], qt [true, true, false], qt [true, true, true, false], qt [true, true, true, true, false], qt [true, true, true, true, true, false]]) (c' := qt [true, true, true, true, true, true]) codeOK 5 rfl rfl (iUA nl ls xs ys c i (kM (tabAt ls i.toNat 0) 16) (sb ([] : List Int)) js hj.len hc1 (by rw [show IntKind.i64.wrap (96 + IntKind.i64.wrap (4 * kM (tabAt ls i.toNat 0) 16)) = _ from ea]; omega) (by rw [show IntKind.i64.wrap (96 + IntKind.i64.wrap (4 * kM (tabAt ls i.toNat 0) 16)) = _ from ea]; omega) (by rw [show IntKind.i64.wrap (96 + IntKind.i64.wrap (4 * kM (tabAt ls i.toNat 0) 16)) = _ from ea, en, h17]; rfl) (by rw [show IntKind.i64.wrap (96 + IntKind.i64.wrap (4 * kM (tabAt ls i.toNat 0) 16)) = _ from ea, en, h17]; rfl)) (Tr.all_ok ⟨rfl, rfl, ht rfl, hd _ rfl, fun js => ?_⟩)
      rw [← ea] at hs
      refine (uA_all nl ls ys E hE hT hD (c := c + 1 + 1 + 1 + 1 + 1) (i := i) hk16 hkk hs.1.len (by omega) (.v (.ptr 4 0)) (.v (.bool (.lit true))) _ js).mono ?_
      rintro x st ⟨rfl, js, rfl⟩
      exact ⟨rfl, (96 + 4 * (k : Int)) :: ([] : List Int), by simp, _, c + 1 + 1 + 1 + 1 + 1, js, ea ▸ hs.1, ea ▸ hs.2, by omega, .inr ⟨by simp, rfl⟩⟩
    · have e4 : W (i + 1) = i + 1 := W_of (by omega) (by omega)
      rintro s ⟨_, L', hL', xs', c', js', hj', hu', hc', ⟨rfl, rfl⟩ | ⟨hL1, rfl⟩⟩
      · refine Tri.allR (m := 9) (n := 149) (codeOK _) (incA nl ls xs' ys c' i (sb []) js' hj'.len (by omega)) (Tr.all_ok ⟨rfl, ht rfl, hd _ rfl, fun js => .inl ⟨rfl, hi30, [], hL', xs', c', js, hj', hu', hc', .inl ⟨rfl, ?_⟩⟩⟩)
        rw [← e4]
      · refine Tri.allR (m := 9) (n := 149) (codeOK _) (incB nl L'.length ls (rows L') xs' ys c' i (sb L') js' hj'.len (by omega) (by simp [rows]) hL1 (by simp at hL'; omega)) (Tr.all_ok ⟨rfl, ht rfl, hd _ rfl, fun js => .inl ⟨rfl, hi30, L', hL', xs', c', js, hj', hu', hc', .inr ⟨hL1, ?_⟩⟩⟩)
        rw [← e4]; rfl
  · rintro x s hx ⟨js, rfl, h | h⟩
    · exact absurd h.1 hx
    · exact .inr ⟨h, xs, c, js, hj, hu, hc, .inl ⟨rfl, rfl⟩⟩
theorem roundB (hl : nl = ls.length) (hf : RFits [.int .i64] ls) {i c b : Int} {xs L : List Int} (hj : J xs L) (hu : Un xs L) (hL : 1 ≤ L.length ∧ L.length ≤ 1000) (hL9 : L.length ≤ 900) (hc : 16 ≤ c ∧ c ≤ b) (hb : b ≤ 1000) (hi : 0 ≤ i ∧ i ≤ 30) (js : Nat → SV) :
    Tri MS Try.prog E lbody (SB nl ls ys xs c i L js) fun x s => (x = .normal ∧ i < 30 ∧ ∃ L', L'.length ≤ L.length + 1 ∧ P1 nl ls ys (i + 1) (b + 5) L' s) ∨ (x = .exit 0 ∧ P1 nl ls ys i b L s) := by
  have hd : ∀ (l : List Nat), l.all (Nat.ble 1) = true → ∀ b, b ∈ l → E.D b := fun l hl b hb => hD b (Nat.le_of_ble_eq_true (List.all_eq_true.1 hl b hb))
  have ht : ∀ {k : Nat}, Nat.ble k 20 = true → k ≤ E.top := fun h => by rw [hT]; exact Nat.le_of_ble_eq_true h
  have hc1 : 0 ≤ c ∧ c ≤ 100000 := by omega
  refine Tri.seq (R := fun x s => ∃ js, s = SB nl ls ys xs c i L js ∧ ((x = .normal ∧ i < nl ∧ i < 30) ∨ x = .exit 0)) ?_ ?_ ?_
  · exact Tri.allR (m := 9) (n := 149) (codeOK _) (gB nl L.length ls (rows L) xs ys c i (sb L) js hj.len hc1 (by simp [rows]) hL.1 hL.2) (Tr.all_ite (fun h1 => Tr.all_ite (fun h2 => Tr.all_ok ⟨rfl, ht rfl, hd _ rfl, fun js => ⟨js, rfl, .inl ⟨rfl, of_decide_eq_true h1, of_decide_eq_true h2⟩⟩⟩) fun h2 => Tr.all_ok ⟨rfl, ht rfl, hd _ rfl, fun js => ⟨js, rfl, .inr rfl⟩⟩) fun h1 => Tr.all_ok ⟨rfl, ht rfl, hd _ rfl, fun js => ⟨js, rfl, .inr rfl⟩⟩)
  · rintro s ⟨js, rfl, h | h⟩
    rotate_left
    · cases h
    obtain ⟨_, hin, hi30⟩ := h
    have hix : i.toNat < ls.length := by omega
    have hkr := kM_range (c := tabAt ls i.toNat 0) (n := 16) (by decide) (tab_fits hf hix (j := 0) rfl)
    obtain ⟨k, hkk⟩ : ∃ k : Nat, kM (tabAt ls i.toNat 0) 16 = (k : Int) := ⟨(kM (tabAt ls i.toNat 0) 16).toNat, by omega⟩
    have hk16 : k < 16 := by omega
    have ea : W (96 + W (4 * kM (tabAt ls i.toNat 0) 16)) = 96 + 4 * (k : Int) := by rw [hkk, W_of (x := 4 * (k : Int)) (by omega) (by omega), W_of (by omega) (by omega)]
    have en : (96 + 4 * (k : Int)).toNat = 96 + 4 * k := by omega
    refine Tri.seq (R := fun x s => x = .normal ∧ ∃ L', L'.length ≤ L.length + 1 ∧ P1 nl ls ys i (b + 5) L' s) ?_ ?_ (fun x s hx hh => absurd hh.1 hx)
    · refine Tri.block (R := fun x s => x = .normal ∧ ∃ L', L'.length ≤ L.length + 1 ∧ P1 nl ls ys i (b + 5) L' s) ?_ (fun s hh => by
        rcases hh with hh | hh
        · exact hh
        · cases hh.1) (fun x s hx _ hh => absurd hh.1 hx)
      refine Tri.seq (R := fun x s => x = .normal ∧ ∃ js, s = ⟨pre nl (oB L.length) i ++ [.v (ii (kM (tabAt ls i.toNat 0) 16))] ++ junk js 148 10, hB ls xs ys c (sb L) (rows L), 5, []⟩) (Tri.allR (m := 10) (n := 148) (codeOK _) (kB nl L.length ls (rows L) xs ys c i (sb L) js hj.len hc1 (by simp [rows]) hL.1 hL.2 ⟨hi.1, hin⟩ hl) (Tr.all_ok ⟨rfl, ht rfl, hd _ rfl, fun js => ⟨rfl, js, rfl⟩⟩)) ?_ (fun x s hx hh => absurd hh.1 hx)
      rintro s ⟨_, js, rfl⟩
      by_cases hm : (96 + 4 * (k : Int)) ∈ L
      · obtain ⟨m1, m2⟩ := marked hj.ch hm
        refine Tri.listR (m := 13) (n := 145) (l := [qt [true, false], qt [true, true, false], qt [true, true, true, false], qt [true, true, true, true, false], qt [true, true, true, true, true, false]]) (c' := qt [true, true, true, true, true, true]) codeOK 5 rfl rfl (iSB nl L.length ls (rows L) xs ys c i (kM (tabAt ls i.toNat 0) 16) (sb L) js hj.len hc1 (by simp [rows]) hL.1 hL.2 (by rw [show IntKind.i64.wrap (96 + IntKind.i64.wrap (4 * kM (tabAt ls i.toNat 0) 16)) = _ from ea]; omega) (by rw [show IntKind.i64.wrap (96 + IntKind.i64.wrap (4 * kM (tabAt ls i.toNat 0) 16)) = _ from ea]; omega) (by rw [show IntKind.i64.wrap (96 + IntKind.i64.wrap (4 * kM (tabAt ls i.toNat 0) 16)) = _ from ea, m1]; rfl) (by rw [show IntKind.i64.wrap (96 + IntKind.i64.wrap (4 * kM (tabAt ls i.toNat 0) 16)) = _ from ea, m2]; rfl)) (Tr.all_ok ⟨rfl, rfl, ht rfl, hd _ rfl, fun js => ?_⟩)
        refine (sB_all nl ls ys E hE hT hD (c := c + 1) (i := i) hk16 hkk hj.len (by omega) hL hm (.v (.ptr 5 0)) (.v (.bool (.lit true))) _ js).mono ?_
        rintro x st ⟨rfl, js, rfl⟩
        exact ⟨rfl, L, by omega, xs, c + 1, js, hj, hu, by omega, .inr ⟨hL.1, rfl⟩⟩
      · have hs := shade hj hu hk16 hm
        have h17 := hu k hk16 hm
        refine Tri.listR (m := 13) (n := 145) (l := [qt [true, false], qt [true, true, false], qt [true, true, true, false], qt [true, true, true, true, false], qt [true, true, true, true, true, false]]) (c' := qt [true, true, true, true, true, true]) codeOK 5 rfl rfl (iUB nl L.length ls (rows L) xs ys c i (kM (tabAt ls i.toNat 0) 16) (sb L) js hj.len hc1 (by simp [rows]) hL.1 hL.2 (by rw [show IntKind.i64.wrap (96 + IntKind.i64.wrap (4 * kM (tabAt ls i.toNat 0) 16)) = _ from ea]; omega) (by rw [show IntKind.i64.wrap (96 + IntKind.i64.wrap (4 * kM (tabAt ls i.toNat 0) 16)) = _ from ea]; omega) (by rw [show IntKind.i64.wrap (96 + IntKind.i64.wrap (4 * kM (tabAt ls i.toNat 0) 16)) = _ from ea, en, h17]; rfl) (by rw [show IntKind.i64.wrap (96 + IntKind.i64.wrap (4 * kM (tabAt ls i.toNat 0) 16)) = _ from ea, en, h17]; rfl)) (Tr.all_ok ⟨rfl, rfl, ht rfl, hd _ rfl, fun js => ?_⟩)
        rw [← ea] at hs
        refine (uB_all nl ls ys E hE hT hD (c := c + 1 + 1 + 1 + 1 + 1) (i := i) hk16 hkk hs.1.len (by omega) hL hm (.v (.ptr 5 0)) (.v (.bool (.lit true))) _ js).mono ?_
        rintro x st ⟨rfl, js, rfl⟩
        exact ⟨rfl, (96 + 4 * (k : Int)) :: L, by simp, _, c + 1 + 1 + 1 + 1 + 1, js, ea ▸ hs.1, ea ▸ hs.2, by omega, .inr ⟨by simp, rfl⟩⟩
    · have e4 : W (i + 1) = i + 1 := W_of (by omega) (by omega)
      rintro s ⟨_, L', hL', xs', c', js', hj', hu', hc', ⟨rfl, rfl⟩ | ⟨hL1, rfl⟩⟩
      · refine Tri.allR (m := 9) (n := 149) (codeOK _) (incA nl ls xs' ys c' i (sb []) js' hj'.len (by omega)) (Tr.all_ok ⟨rfl, ht rfl, hd _ rfl, fun js => .inl ⟨rfl, hi30, [], hL', xs', c', js, hj', hu', hc', .inl ⟨rfl, ?_⟩⟩⟩)
        rw [← e4]
      · refine Tri.allR (m := 9) (n := 149) (codeOK _) (incB nl L'.length ls (rows L') xs' ys c' i (sb L') js' hj'.len (by omega) (by simp [rows]) hL1 (by omega)) (Tr.all_ok ⟨rfl, ht rfl, hd _ rfl, fun js => .inl ⟨rfl, hi30, L', hL', xs', c', js, hj', hu', hc', .inr ⟨hL1, ?_⟩⟩⟩)
        rw [← e4]; rfl
  · rintro x s hx ⟨js, rfl, h | h⟩
    · exact absurd h.1 hx
    · exact .inr ⟨h, xs, c, js, hj, hu, hc, .inr ⟨hL.1, rfl⟩⟩
end
theorem rcons {r : List (Nat × Nat)} {x : SV} {l : List SV} (h : renSV r x = some x) (hl : renSVs r l = some l) : renSVs r (x :: l) = some (x :: l) := by
  simp only [renSVs, h, hl]
theorem ren_pre2 (nl M : Nat) (x8 x9 x10 x11 x12 x13 : SV) (i : Int) (h8 : NoName x8) (h9 : NoName x9) (h10 : NoName x10) (h11 : NoName x11) (h12 : NoName x12) (h13 : NoName x13) : renSVs [(0, 0), (1, 1), (2, 2), (3, 3), (4, 4)] (pre2 nl (oB M) x8 x9 x10 x11 x12 x13 i) = some (pre2 nl (oB M) x8 x9 x10 x11 x12 x13 i) :=
  (rcons rfl (rcons rfl (rcons rfl (rcons rfl (rcons rfl (rcons rfl (rcons rfl (rcons rfl (rcons (h8 _) (rcons (h9 _) (rcons (h10 _) (rcons (h11 _) (rcons (h12 _) (rcons (h13 _) (rcons rfl rfl)))))))))))))))
theorem row_at (l1 l2 : List Int) (a : Int) : tabAt ((l1 ++ a :: l2).map fun b => [b]) l1.length 0 = a := by
  unfold tabAt
  simp [List.getD_eq_getElem?_getD]
abbrev W0 : List Int := [0, 0, 0, 0, 0, 0, 0, 0, 0, 0, 0, 0, 0, 0, 0, 0, 0, 0, 0, 0, 0, 0, 0, 0, 0, 0, 0, 0, 0, 0, 0, 0, 0, 0, 0, 0, 0, 0, 0, 0, 0, 0, 0, 0, 0, 0, 0, 0, 0, 0, 0, 0, 0, 0, 0, 0, 0, 0, 0, 0, 0, 0, 0, 0, 0, 0, 0, 0, 0, 0, 0, 0, 0, 0, 0, 0, 0, 0, 0, 0, 0, 0, 0, 0, 0, 0, 0, 0, 0, 0, 0, 0, 0, 0, 0, 0, 17, 0, 0, 0, 17, 0, 0, 0, 17, 0, 0, 0, 17, 0, 0, 0, 17, 0, 0, 0, 17, 0, 0, 0, 17, 0, 0, 0, 17, 0, 0, 0, 17, 0, 0, 0, 17, 0, 0, 0, 17, 0, 0, 0, 17, 0, 0, 0, 17, 0, 0, 0, 17, 0, 0, 0, 17, 0, 0, 0, 17, 0, 0, 0]
theorem J0 : J W0 [] := ⟨rfl, (rfl : mAt (W0.getD 1 0) = 0), List.nodup_nil, fun a h => by cases h⟩
theorem U0 : Un W0 [] := fun k hk _ => by
  rcases (show k = 0 ∨ k = 1 ∨ k = 2 ∨ k = 3 ∨ k = 4 ∨ k = 5 ∨ k = 6 ∨ k = 7 ∨ k = 8 ∨ k = 9 ∨ k = 10 ∨ k = 11 ∨ k = 12 ∨ k = 13 ∨ k = 14 ∨ k = 15 by omega) with rfl | rfl | rfl | rfl | rfl | rfl | rfl | rfl | rfl | rfl | rfl | rfl | rfl | rfl | rfl | rfl <;> rfl
/-- What is kept while they are taken. -/
def P2 (nl : Nat) (ls : List (List Int)) (ys : List Int) (L : List Int) (st : St MObj) : Prop := ∃ F rest xs c js x8 x9 x10 x11 x12 x13, (NoName x8 ∧ NoName x9 ∧ NoName x10 ∧ NoName x11 ∧ NoName x12 ∧ NoName x13) ∧ (1 ≤ F.length ∧ F.length ≤ 900) ∧ F.reverse = L.reverse ++ rest ∧ J xs L ∧ (0 ≤ c ∧ c + 4 * (L.length : Int) ≤ 90000) ∧
  st = ⟨pre2 nl (oB F.length) x8 x9 x10 x11 x12 x13 ((L.length : Int) - 1) ++ junk js 143 15, hB ls xs ys c (sb F) (rows F), 5, []⟩
def P2A (nl : Nat) (ls : List (List Int)) (ys : List Int) (st : St MObj) : Prop := ∃ xs c js x8 x9 x10 x11 x12 x13, J xs [] ∧ (0 ≤ c ∧ c ≤ 1000) ∧ st = ⟨pre2 nl oA x8 x9 x10 x11 x12 x13 (-1) ++ junk js 143 15, hA ls xs ys c (sb []), 4, []⟩
section
variable (nl : Nat) (ls : List (List Int)) (ys : List Int) (E : Ctx MObj) (hE : E.nid0 = 1) (hT : E.top = 20) (hD : ∀ b, 1 ≤ b → E.D b)
include hE hT hD
theorem lastA {st : St MObj} (h : P2A nl ls ys st) : Tri MS Try.prog E lbody2 st fun x s => x = .ret ∧ Fin x s := by
  have hd : ∀ (l : List Nat), l.all (Nat.ble 1) = true → ∀ b, b ∈ l → E.D b := fun l hl b hb => hD b (Nat.le_of_ble_eq_true (List.all_eq_true.1 hl b hb))
  have ht : ∀ {k : Nat}, Nat.ble k 20 = true → k ≤ E.top := fun h => by rw [hT]; exact Nat.le_of_ble_eq_true h
  obtain ⟨xs, c, js, x8, x9, x10, x11, x12, x13, hj, hc, rfl⟩ := h
  have hc1 : 0 ≤ c ∧ c ≤ 100000 := by omega
  have hz : mAt (List.getD xs 1 0) = 0 := hj.ch
  refine Tri.seq (R := fun x s => x = .normal ∧ ∃ js, s = ⟨pre2 nl oA x8 x9 x10 x11 x12 x13 (-1) ++ junk js 143 15, hA ls xs ys c (sb []), 4, []⟩) (Tri.allR (m := 15) (n := 143) (codeOK _) (g2A nl ls xs ys c (-1) (sb []) js x8 x9 x10 x11 x12 x13 hj.len hc1 (by decide)) (Tr.all_ok ⟨rfl, ht rfl, hd _ rfl, fun js => ⟨rfl, js, rfl⟩⟩)) ?_ (fun x s hx hh => absurd hh.1 hx)
  rintro s ⟨_, js, rfl⟩
  refine Tri.seq (R := fun x s => x = .ret ∧ Fin x s) ?_ (fun s hh => by cases hh.1) (fun x s _ hh => hh)
  refine Tri.block (R := fun x s => x = .ret ∧ Fin x s) ?_ (fun s hh => by rcases hh with hh | hh <;> cases hh.1) (fun x s _ _ hh => hh)
  exact Tri.allR (m := 15) (n := 143) (codeOK _) (zA nl ls xs ys c (-1) (sb []) js x8 x9 x10 x11 x12 x13 hj.len hc1 (by decide) hz) (Tr.all_ok ⟨rfl, ht rfl, hd _ rfl, fun js => ⟨rfl, .inr rfl, _, (congrArg Tr.run (res _ _ _ _ _ _ _ _ _ _ _ _ _ _ _ _ js)).trans rfl, rfl⟩⟩)
theorem lastB {st : St MObj} (h : P2 nl ls ys [] st) : Tri MS Try.prog E lbody2 st fun x s => x = .ret ∧ Fin x s := by
  have hd : ∀ (l : List Nat), l.all (Nat.ble 1) = true → ∀ b, b ∈ l → E.D b := fun l hl b hb => hD b (Nat.le_of_ble_eq_true (List.all_eq_true.1 hl b hb))
  have ht : ∀ {k : Nat}, Nat.ble k 20 = true → k ≤ E.top := fun h => by rw [hT]; exact Nat.le_of_ble_eq_true h
  obtain ⟨F, rest, xs, c, js, x8, x9, x10, x11, x12, x13, hnn, hF, hre, hj, hc, rfl⟩ := h
  have hc1 : 0 ≤ c ∧ c ≤ 100000 := by simp at hc; omega
  have hz : mAt (List.getD xs 1 0) = 0 := hj.ch
  refine Tri.seq (R := fun x s => x = .normal ∧ ∃ js, s = ⟨pre2 nl (oB F.length) x8 x9 x10 x11 x12 x13 ((([] : List Int).length : Int) - 1) ++ junk js 143 15, hB ls xs ys c (sb F) (rows F), 5, []⟩) (Tri.allR (m := 15) (n := 143) (codeOK _) (g2B nl F.length ls (rows F) xs ys c ((([] : List Int).length : Int) - 1) (sb F) js x8 x9 x10 x11 x12 x13 hj.len hc1 (by simp [rows]) hF.1 (by omega) (by decide)) (Tr.all_ok ⟨rfl, ht rfl, hd _ rfl, fun js => ⟨rfl, js, rfl⟩⟩)) ?_ (fun x s hx hh => absurd hh.1 hx)
  rintro s ⟨_, js, rfl⟩
  refine Tri.seq (R := fun x s => x = .ret ∧ Fin x s) ?_ (fun s hh => by cases hh.1) (fun x s _ hh => hh)
  refine Tri.block (R := fun x s => x = .ret ∧ Fin x s) ?_ (fun s hh => by rcases hh with hh | hh <;> cases hh.1) (fun x s _ _ hh => hh)
  exact Tri.allR (m := 15) (n := 143) (codeOK _) (zB nl F.length ls (rows F) xs ys c ((([] : List Int).length : Int) - 1) (sb F) js x8 x9 x10 x11 x12 x13 hj.len hc1 (by simp [rows]) hF.1 (by omega) (by decide) hz) (Tr.all_ok ⟨rfl, ht rfl, hd _ rfl, fun js => ⟨rfl, .inr rfl, _, (congrArg Tr.run (res _ _ _ _ _ _ _ _ _ _ _ _ _ _ _ _ js)).trans rfl, rfl⟩⟩)
theorem take {a : Int} {r : List Int} {st : St MObj} (h : P2 nl ls ys (a :: r) st) : Tri MS Try.prog E lbody2 st fun x s => x = .normal ∧ P2 nl ls ys r s := by
  have hd : ∀ (l : List Nat), l.all (Nat.ble 1) = true → ∀ b, b ∈ l → E.D b := fun l hl b hb => hD b (Nat.le_of_ble_eq_true (List.all_eq_true.1 hl b hb))
  have ht : ∀ {k : Nat}, Nat.ble k 20 = true → k ≤ E.top := fun h => by rw [hT]; exact Nat.le_of_ble_eq_true h
  obtain ⟨F, rest, xs, c, js, x8, x9, x10, x11, x12, x13, ⟨h8, h9, h10, h11, h12, h13⟩, hF, hre, hj, hc, rfl⟩ := h
  have hlen : ((a :: r : List Int).length : Int) = (r.length : Int) + 1 := by simp
  have hFl : r.length + 1 + rest.length = F.length := by
    have := congrArg List.length hre
    simp at this
    omega
  rw [hlen] at hc
  have hc1 : 0 ≤ c ∧ c ≤ 100000 := by omega
  obtain ⟨f1, f2, f3, f4, f5⟩ := first hj
  unfold Rg at f2
  have ei : Int.toNat (((a :: r : List Int).length : Int) - 1) = r.length := by omega
  have ha : tabAt (rows F) r.length 0 = a := by
    have : rows F = (r.reverse ++ a :: rest).map fun b => [b] := by
      show F.reverse.map _ = _
      rw [hre]; simp
    rw [this]
    have := row_at r.reverse rest a
    rwa [List.length_reverse] at this
  refine Tri.seq (R := fun x s => x = .normal ∧ ∃ js, s = ⟨pre2 nl (oB F.length) x8 x9 x10 x11 x12 x13 (((a :: r : List Int).length : Int) - 1) ++ junk js 143 15, hB ls xs ys c (sb F) (rows F), 5, []⟩) (Tri.allR (m := 15) (n := 143) (codeOK _) (g2B nl F.length ls (rows F) xs ys c (((a :: r : List Int).length : Int) - 1) (sb F) js x8 x9 x10 x11 x12 x13 hj.len hc1 (by simp [rows]) hF.1 (by omega) (by omega)) (Tr.all_ok ⟨rfl, ht rfl, hd _ rfl, fun js => ⟨rfl, js, rfl⟩⟩)) ?_ (fun x s hx hh => absurd hh.1 hx)
  rintro s ⟨_, js, rfl⟩
  refine Tri.seq (R := fun x s => x = .normal ∧ ∃ js, s = ⟨pre2 nl (oB F.length) x8 x9 x10 x11 x12 x13 (((a :: r : List Int).length : Int) - 1) ++ junk js 143 15, hB ls (nextW xs) ys (c + 1 + 1 + 1 + 1) (sb F) (rows F), 5, []⟩) ?_ ?_ (fun x s hx hh => absurd hh.1 hx)
  · refine Tri.block (R := fun x s => x = .normal ∧ ∃ js, s = ⟨pre2 nl (oB F.length) x8 x9 x10 x11 x12 x13 (((a :: r : List Int).length : Int) - 1) ++ junk js 143 15, hB ls (nextW xs) ys (c + 1 + 1 + 1 + 1) (sb F) (rows F), 5, []⟩) ?_ (fun s hh => by
      rcases hh with hh | hh
      · exact hh
      · cases hh.1) (fun x s hx _ hh => absurd hh.1 hx)
    refine Tri.postE (Q := fun x s => x = .normal ∧ ∃ js, s = ⟨(nB_l0 nl F.length ls (rows F) xs ys c (((a :: r : List Int).length : Int) - 1) (sb F) x8 x9 x10 x11 x12 x13).pre ++ junk js 143 15, (nB_l0 nl F.length ls (rows F) xs ys c (((a :: r : List Int).length : Int) - 1) (sb F) x8 x9 x10 x11 x12 x13).hp, 7, []⟩) (Tri.allR (m := 15) (n := 143) (codeOK _) (nB nl F.length ls (rows F) xs ys c (((a :: r : List Int).length : Int) - 1) (sb F) js x8 x9 x10 x11 x12 x13 hj.len hc1 (by simp [rows]) hF.1 (by omega) (by omega) (by rw [ei, ha]; exact f1) (by rw [ei, ha]; omega) (by rw [ei, ha]; omega) (by rw [f1, f3]; rfl) (by rw [ei, Nat.zero_add, ha, f1]; simp)) (Tr.all_ok ⟨rfl, ht rfl, hd _ rfl, fun js => ⟨rfl, js, rfl⟩⟩)) ?_
    rintro x s ac w ⟨rfl, js, rfl⟩ hat
    obtain ⟨js', h9'⟩ := at_rename (dirty' := []) (nid' := 5) (m := 15) (n := 143) (hp' := hB ls (nextW xs) ys (c + 1 + 1 + 1 + 1) (sb F) (rows F)) (pre := pre2 nl (oB F.length) x8 x9 x10 x11 x12 x13 (((a :: r : List Int).length : Int) - 1)) (pre' := pre2 nl (oB F.length) x8 x9 x10 x11 x12 x13 (((a :: r : List Int).length : Int) - 1)) [(0, 0), (1, 1), (2, 2), (3, 3), (4, 4)] rfl (by simp [length_junk]) (ren_pre2 nl F.length x8 x9 x10 x11 x12 x13 (((a :: r : List Int).length : Int) - 1) h8 h9 h10 h11 h12 h13) rfl (by rw [hE]; rfl) (by omega) (by omega) hat
    exact ⟨_, h9', rfl, js', rfl⟩
  · rintro s ⟨_, js, rfl⟩
    have hj2 := next hj
    have e5 : W ((((a :: r : List Int).length : Int) - 1) - 1) = (r.length : Int) - 1 := by rw [hlen, W_of (by omega) (by omega)]; omega
    refine Tri.allR (m := 15) (n := 143) (codeOK _) (c2B nl F.length ls (rows F) (nextW xs) ys (c + 1 + 1 + 1 + 1) (((a :: r : List Int).length : Int) - 1) (sb F) js x8 x9 x10 x11 x12 x13 hj2.len (by omega) (by simp [rows]) hF.1 (by omega)) (Tr.all_ok ⟨rfl, ht rfl, hd _ rfl, fun js => ⟨rfl, F, a :: rest, nextW xs, c + 1 + 1 + 1 + 1, js, x8, x9, x10, x11, x12, x13, ⟨h8, h9, h10, h11, h12, h13⟩, hF, by rw [hre]; simp, hj2, by omega, ?_⟩⟩)
    rw [← e5]; rfl
theorem allTaken : ∀ {st : St MObj} (q : Nat) (L : List Int), q = L.length → P2 nl ls ys L st ∨ (L = [] ∧ P2A nl ls ys st) → Tri MS Try.prog E (.loop lbody2) st fun x s => x = .ret ∧ Fin x s := fun q L hq h => by
  refine Tri.loop (J := fun q st => ∃ L : List Int, q = L.length ∧ (P2 nl ls ys L st ∨ (L = [] ∧ P2A nl ls ys st))) ?_ ⟨L, hq, h⟩
  rintro q st ⟨L, hq, h | ⟨rfl, h⟩⟩
  · match L, h with
    | [], h =>
      refine (lastB nl ls ys E hE hT hD h).mono ?_
      rintro x s ⟨rfl, hf⟩
      exact ⟨rfl, hf⟩
    | a :: r, h =>
      refine (take nl ls ys E hE hT hD h).mono ?_
      rintro x s ⟨rfl, hp⟩
      exact ⟨r.length, by rw [hq]; simp, r, rfl, .inl hp⟩
  · refine (lastA nl ls ys E hE hT hD h).mono ?_
    rintro x s ⟨rfl, hf⟩
    exact ⟨rfl, hf⟩
end
theorem runs (nl : Nat) (ls : List (List Int)) (hl : nl = ls.length) (hf : RFits [.int .i64] ls) (E : Ctx MObj) (hE : E.nid0 = 1) (hT : E.top = 20) (hD : ∀ b, 1 ≤ b → E.D b) :
    Tri MS Try.prog E body ⟨[.v (.an 0 (.sym nl))] ++ List.replicate (nt - 1) .undef, [(0, some (.rotab [.int .i64] ls))], 1, []⟩ Fin := by
  have hd : ∀ (l : List Nat), l.all (Nat.ble 1) = true → ∀ b, b ∈ l → E.D b := fun l hl b hb => hD b (Nat.le_of_ble_eq_true (List.all_eq_true.1 hl b hb))
  have ht : ∀ {k : Nat}, Nat.ble k 20 = true → k ≤ E.top := fun h => by rw [hT]; exact Nat.le_of_ble_eq_true h
  refine Tri.listR (m := 9) (n := 149) (l := (Eng.spine 6 body).1) codeOK 6 rfl restE (start nl ls (Nat.zero_le _)) (Tr.all_ok ⟨rfl, rfl, ht rfl, hd _ rfl, fun js => ?_⟩)
  refine Tri.preWk (pre' := [.v (.an 0 (.sym nl)), .t [], .v (.bool (.lit false)), .v (.bool (.lit true)), .v (.ptr 1 0), .v (.ptr 2 0), oA, .v (.ptr 4 0), .t []]) (hp' := [(0, some (.rotab [.int .i64] ls)), (1, some (.abs (.mem 66 W0 16 0))), (2, some (.abs (.mem 70 W0 16 0))), (3, some (.cells [] 3)), (4, some (.cells (bits (sb [])) 28))]) (by (repeat' apply And.intro) <;> first | rfl | trivial | (intro h; rfl)) (by (repeat' apply And.intro) <;> first | rfl | trivial) ?_
  refine Tri.ren (m := 9) (n := 149) (nid' := 4) [(0, 0), (1, 1), (2, 2), (4, 3)] rfl (by simp [length_junk]) rfl rfl (by rw [hE]; rfl) (by omega) (by omega) fun js => ?_
  refine Tri.seq (R := fun x s => x = .normal ∧ ∃ i b L, b ≤ 200 ∧ L.length ≤ 30 ∧ P1 nl ls W0 i b L s) ?_ ?_ (fun x s hx hh => absurd hh.1 hx)
  · refine Tri.seq (R := fun x s => x = .normal ∧ ∃ js, s = ⟨[.v (.an 0 (.sym nl)), .t [], .v (.bool (.lit false)), .v (.bool (.lit true)), .v (.ptr 1 0), .v (.ptr 2 0), oA, .v (.ptr 3 0), .v (.int .i64 (.lit 0))] ++ junk js 149 9, hA ls W0 W0 16 (sb []), 4, []⟩) (Tri.allR (m := 9) (n := 149) (codeOK _) (i1 nl ls W0 W0 16 (sb []) js (.t []) rfl (by decide)) (Tr.all_ok ⟨rfl, ht rfl, hd _ rfl, fun js => ⟨rfl, js, rfl⟩⟩)) ?_ (fun x s hx hh => absurd hh.1 hx)
    rintro s ⟨_, js, rfl⟩
    refine Tri.preWk (pre' := pre nl oA 0) (hp' := hA ls W0 W0 16 (sb [])) (by (repeat' apply And.intro) <;> first | rfl | trivial) (wkH_refl _) ?_
    refine Tri.block (R := fun x s => x = .exit 0 ∧ ∃ i b L, b ≤ 200 ∧ L.length ≤ 30 ∧ P1 nl ls W0 i b L s) ?_ (fun s hh => by
      rcases hh with hh | hh
      · cases hh.1
      · exact ⟨rfl, hh.2⟩) (fun x s _ hx hh => absurd hh.1 hx)
    refine Tri.loop (J := fun q s => ∃ i L, 0 ≤ i ∧ i ≤ 30 ∧ (L.length : Int) ≤ i ∧ P1 nl ls W0 i (16 + 5 * i) L s ∧ q = (30 - i).toNat) ?_ (k := (30 - 0 : Int).toNat) ⟨0, [], by decide, by decide, by decide, ⟨W0, 16, js, J0, U0, by decide, .inl ⟨rfl, rfl⟩⟩, rfl⟩
    rintro q s ⟨i, L, h0, h1, h2, h3, rfl⟩
    have step : Tri MS Try.prog E lbody s fun x s => (x = .normal ∧ i < 30 ∧ ∃ L', L'.length ≤ L.length + 1 ∧ P1 nl ls W0 (i + 1) (16 + 5 * i + 5) L' s) ∨ (x = .exit 0 ∧ P1 nl ls W0 i (16 + 5 * i) L s) := by
      obtain ⟨xs, c, js, hj, hu, hc, ⟨rfl, rfl⟩ | ⟨hL, rfl⟩⟩ := h3
      · exact roundA nl ls W0 E hE hT hD hl hf hj hu hc (by omega) ⟨h0, h1⟩ js
      · exact roundB nl ls W0 E hE hT hD hl hf hj hu ⟨hL, by omega⟩ (by omega) hc (by omega) ⟨h0, h1⟩ js
    refine step.mono ?_
    rintro x s (⟨rfl, a1, L', a2, a3⟩ | ⟨rfl, a1⟩)
    · exact ⟨(30 - (i + 1)).toNat, by omega, i + 1, L', by omega, by omega, by omega, by rw [show 16 + 5 * (i + 1) = 16 + 5 * i + 5 by omega]; exact a3, rfl⟩
    · exact ⟨rfl, i, 16 + 5 * i, L, by omega, by omega, a1⟩
  · rintro s ⟨_, i, b, L, hb, hL30, xs, c, js, hj, hu, hc, hs⟩
    refine Tri.seq (R := fun x s => x = .ret ∧ Fin x s) ?_ (fun s hh => by cases hh.1) (fun x s _ hh => hh.2)
    refine Tri.seq (R := fun x s => x = .normal ∧ (P2 nl ls W0 L s ∨ (L = [] ∧ P2A nl ls W0 s))) ?_ ?_ (fun x s hx hh => absurd hh.1 hx)
    · rcases hs with ⟨rfl, rfl⟩ | ⟨hL1, rfl⟩
      · refine Tri.preE fun a w hat => ?_
        obtain ⟨js', hn, hat'⟩ := at_plain rfl hat
        refine ⟨_, hat', ?_⟩
        refine Tri.postE (Q := fun x s => x = .normal ∧ ∃ js, s = ⟨(i2A_l0 nl ls xs W0 c (sb []) (.v (ii i)) (js' 9) (js' 10) (js' 11) (js' 12) (js' 13)).pre ++ junk js 143 15, hA ls xs W0 c (sb []), 4, []⟩) (Tri.allR (m := 15) (n := 143) (codeOK _) (i2A nl ls xs W0 c (sb []) js' (.v (ii i)) (js' 9) (js' 10) (js' 11) (js' 12) (js' 13) hj.len (by omega)) (Tr.all_ok ⟨rfl, ht rfl, hd _ rfl, fun js => ⟨rfl, js, rfl⟩⟩)) ?_
        rintro x s a w ⟨rfl, js, rfl⟩ hat
        exact ⟨_, at_wk (dirty' := []) (pre' := pre2 nl oA (.v (ii i)) (js' 9) (js' 10) (js' 11) (js' 12) (js' 13) (-1)) (hp' := hA ls xs W0 c (sb [])) (by (repeat' apply And.intro) <;> first | rfl | exact wkS_refl _ | trivial) (wkH_refl _) hat, rfl, .inr ⟨rfl, xs, c, js, .v (ii i), js' 9, js' 10, js' 11, js' 12, js' 13, hj, by omega, rfl⟩⟩
      · refine Tri.preE fun a w hat => ?_
        obtain ⟨js', hn, hat'⟩ := at_plain rfl hat
        refine ⟨_, hat', ?_⟩
        have e6 : W ((L.length : Int) - 1) = (L.length : Int) - 1 := W_of (by omega) (by omega)
        refine Tri.allR (m := 15) (n := 143) (codeOK _) (i2B nl L.length ls (rows L) xs W0 c (sb L) js' (.v (ii i)) (js' 9) (js' 10) (js' 11) (js' 12) (js' 13) hj.len (by omega) (by simp [rows]) hL1 (by omega)) (Tr.all_ok ⟨rfl, ht rfl, hd _ rfl, fun js => ?_⟩)
        refine ⟨rfl, .inl ⟨L, [], xs, c, js, .v (ii i), js' 9, js' 10, js' 11, js' 12, js' 13, ⟨fun r => rfl, hn 9, hn 10, hn 11, hn 12, hn 13⟩, ⟨hL1, by omega⟩, by simp, hj, by omega, ?_⟩⟩
        rw [← e6]; rfl
    · rintro s ⟨_, h⟩
      refine Tri.block (R := fun x s => x = .ret ∧ Fin x s) ?_ (fun s hh => by rcases hh with hh | hh <;> cases hh.1) (fun x s _ _ hh => hh)
      exact allTaken nl ls W0 E hE hT hD L.length L rfl h
abbrev ts : List TypeId := [22]
theorem hts : Try.f3.params.toList = ts := by kernel_rfl
theorem core (w : World) (vals : List Value) (ha : F2 (ArgOK Try.prog w) ts vals) :
    Calls Try.prog 3 vals.toArray w fun e W' => ∃ v, e = .returned v ∧ v = .bool true ∧ Below w.heap.size w W' := by
  obtain ⟨v, rfl⟩ : ∃ v, vals = [v] := by
    match vals, ha with
    | [v], _ => exact ⟨v, rfl⟩
    | [], ha => exact ha.elim
    | _ :: _ :: _, ha => exact ha.2.elim
  obtain ⟨xs, p, hf, hlen, hall⟩ := arg_slice (e := 3) (ks := [.int .i64]) ha.1 (by kernel_rfl) (by kernel_rfl) (by kernel_rfl) (by decide)
  let ρ0 : Rho := fun b => match b with | 0 => some p | _ + 1 => none
  have hρ : ∀ b, 1 ≤ b → ρ0 b = none := fun b hb => by
    match b, hb with
    | b + 1, _ => rfl
  refine (calls_of_triA (S := MS) (vargs := [v]) (R := IsTrue) Try.func3 hb 1 20 (by omega) hρ (hp := [(0, some (.rotab [.int .i64] xs))]) (fun b o ho => ?_) (runs xs.length xs rfl hf _ rfl rfl (fun b hb => hb)) ⟨(hall MS ρ0 0 rfl).1, trivial⟩).mono ?_
  · match b, ho with
    | 0, ho =>
      injection ho with ho
      subst ho
      exact (hall MS ρ0 0 rfl).2
    | b + 1, ho => cases ho
  · rintro e w' ⟨v, x, ρ, rfl, hv, hR, hbel⟩
    exact ⟨v, rfl, hR.value hv, hbel⟩
theorem own : ownKnob Try.prog.godebug = none := by kernel_rfl
theorem lifted {H : Type} (os : Os) (started : os.Started) (enc : TypeId × Value → H) : ReturnsInHanded {} Try.checked os 3 .any (Rows.greyOrderSpec.pre6 enc Try.prog Try.f3 Rows.greyOrderRow.domain false) (Rows.greyOrderSpec.post enc Try.prog Try.f3 false true false false) :=
  law_lifted own started (by kernel_rfl) (by kernel_rfl)
    (ChangeSpec.witness6 (enc := enc) (C := Try.checked) false ⟨#[], #[.slice none 0 0], []⟩ 8 (by kernel_rfl) (by kernel_rfl) (by kernel_rfl) (by kernel_rfl))
    (tb := 4) (by kernel_rfl) (by kernel_rfl) rfl
    (fun ds hd => by
      match ds, hd with
      | [_], _ => exact ⟨rfl, rfl, rfl⟩)
    (by kernel_rfl) (by kernel_rfl) (fun W vals ha => core W vals (hts ▸ ha))
theorem proved : Rows.GreyOrderSaid :=
  OpenClaim.holds_of_wide 3 Try.f3 rfl rfl rfl rfl rfl rfl rfl ⟨rfl, rfl, rfl, rfl, rfl⟩ rfl rfl rfl rfl rfl (by kernel_rfl) Try.func3 (by kernel_rfl) (of_decide_eq_true (by kernel_rfl))
    (by unfold Func.isWrapper; first | (rw [if_pos (by decide +kernel)]; kernel_rfl) | (rw [if_neg (by decide +kernel)]; exact ⟨rfl, rfl⟩))
    (fun os started H enc _ => lifted os started enc)
end Go.Proofs.Ytlkanbgcghjhnaa.GreyOrder
