/-
  ShakePlays: handshakes and polls do what the document says, step by step, in any order of the steps: both memories hold the same words, and each poll and the collector are at the same step in both.
-/
import Derived.Test.YtdongoplhnpdiaaLShakePlays0
namespace Go.Proofs.Ytdongoplhnpdiaa.ShakePlays
open Go Go.RowKit Go.Proofs.Ytdongoplhnpdiaa.Eng
set_option linter.unusedVariables false
set_option linter.unusedSimpArgs false
set_option linter.unusedSectionVars false
set_option maxRecDepth 20000
set_option maxHeartbeats 1000000
section
variable (A : AG) (nm np : Nat) (ms ps : List (List Int)) (hnm : nm = ms.length) (hnp : np = ps.length) (hf : RFits [.int .i64] ps) (E : Ctx MObj) (hE : E.nid0 = 6) (hT : E.top = 60) (hD : ∀ b, 6 ≤ b → E.D b)
include hnm hnp hf hE hT hD
abbrev Q : VX → St MObj → Prop := fun x st => (x = .normal ∨ x = .ret) ∧ ∃ l, (vresults Try.prog st Try.f5.results.toList).run = some l ∧ IsTrue (tupleOf l)
theorem round {i : Int} (hi : 0 ≤ i ∧ i ≤ 400) {st : St MObj} (hJ : J A nm np ms ps i i st) :
    Tri MS Try.prog E lbody st fun x st => (x = .normal ∧ i + 1 ≤ 400 ∧ J A nm np ms ps (i + 1) (i + 1) st) ∨ (x = .exit 2 ∧ J A nm np ms ps i i st) := by
  obtain ⟨ak, c, d, t, g0, g1, g2, g3, tl, th, pc, xs, s, js, hx, hok, hc, hc2, hak, hcs, rfl⟩ := hJ
  have hdd : ∀ (l : List Nat), l.all (Nat.ble 6) = true → ∀ b, b ∈ l → E.D b := fun l hl b hb => hD b (Nat.le_of_ble_eq_true (List.all_eq_true.1 hl b hb))
  have ht : ∀ {k : Nat}, Nat.ble k 60 = true → k ≤ E.top := fun h => by rw [hT]; exact Nat.le_of_ble_eq_true h
  have hOA : (base A ms ps xs c d t (OL s) (AL s) (RL s) (.abs (.grp (GA s))) (.abs (.grp (GB s))) (caS g0 g1 g2 g3 tl th) (cbS g0 g1 g2 g3 pc th)) = bas A ms ps xs c d t s (caS g0 g1 g2 g3 tl th) (cbS g0 g1 g2 g3 pc th) := rfl
  refine Tri.seq (R := fun x st => ∃ js, st = St0 A nm np ak i c d t g0 g1 g2 g3 tl th pc ms ps xs s js ∧ ((x = .normal ∧ i < np ∧ i < 400) ∨ x = .exit 2)) ?_ ?_ ?_
  · exact Tri.allR (m := 22) (n := 216) (codeOK _) (g A nm np ak i c d t ms ps xs (OL s) (AL s) (RL s) (.abs (.grp (GA s))) (.abs (.grp (GB s))) (caS g0 g1 g2 g3 tl th) (cbS g0 g1 g2 g3 pc th) js hx (by omega) (by omega)) (Tr.all_ite (fun h1 => Tr.all_ite (fun h2 => Tr.all_ok ⟨rfl, ht rfl, hdd _ rfl, fun js => ⟨js, rfl, .inl ⟨rfl, of_decide_eq_true h1, of_decide_eq_true h2⟩⟩⟩) fun _ => Tr.all_ok ⟨rfl, ht rfl, hdd _ rfl, fun js => ⟨js, rfl, .inr rfl⟩⟩) fun _ => Tr.all_ok ⟨rfl, ht rfl, hdd _ rfl, fun js => ⟨js, rfl, .inr rfl⟩⟩)
  · rintro st ⟨js, rfl, h | h⟩
    rotate_left
    · cases h
    obtain ⟨_, hin, hi3⟩ := h
    have hix : i.toNat < ps.length := by omega
    have k0 := kM_range (c := tabAt ps i.toNat 0) (n := 4) (by decide) (tab_fits hf hix (j := 0) rfl)
    refine Tri.seq (R := fun x st => x = .normal ∧ J A nm np ms ps i (i + 1) st) ?_ ?_ (fun x s hx hh => absurd hh.1 hx)
    · refine Tri.block (R := fun x st => (x = .normal ∨ x = .exit 3) ∧ J A nm np ms ps i (i + 1) st) ?_ (fun s hh => by
        rcases hh with hh | hh
        · exact ⟨rfl, hh.2⟩
        · exact ⟨rfl, hh.2⟩) (fun x s h1 h2 hh => (hh.1.elim h1 h2).elim)
      refine Tri.seq (R := fun x st => x = .normal ∧ ∃ js, st = ⟨pre A nm np ak i ++ [.v (ii (kM (tabAt ps i.toNat 0) 4))] ++ junk js 215 23, bas A ms ps xs c d t s (caS g0 g1 g2 g3 tl th) (cbS g0 g1 g2 g3 pc th), 17, []⟩) ?_ ?_ (fun x s hx hh => absurd hh.1 hx)
      · exact Tri.allR (m := 23) (n := 215) (codeOK _) (kx A nm np ak i c d t ms ps xs (OL s) (AL s) (RL s) (.abs (.grp (GA s))) (.abs (.grp (GB s))) (caS g0 g1 g2 g3 tl th) (cbS g0 g1 g2 g3 pc th) js hx (by omega) (by omega) ⟨hi.1, hi3⟩ hin hnp) (Tr.all_ok ⟨rfl, ht rfl, hdd _ rfl, fun js => ⟨rfl, js, rfl⟩⟩)
      · rintro st ⟨_, js, rfl⟩
        generalize kM (tabAt ps i.toNat 0) 4 = kk at k0
        have fin : ∀ {c' d' : Int}, c ≤ c' → c' ≤ c + 2 → d ≤ d' → d' ≤ d + 2 → (0 ≤ c' ∧ c' ≤ 1000 + 2 * (i + 1)) ∧ (0 ≤ d' ∧ d' ≤ 1000 + 2 * (i + 1)) := fun h1 h2 h3 h4 => by omega
        by_cases hk3 : kk = 3
        · refine Tri.preE fun aa ww hat => ⟨_, at_tm (p' := pre A nm np ak i ++ [.v (lt 3)]) (by (repeat' apply And.intro) <;> first | rfl | trivial | exact hk3) hat, ?_⟩
          refine (stepC hx (by omega) (by omega) E hE hT hD s hok hak hcs hnm js).mono ?_
          rintro x st ⟨rfl, ak', c', d', t', g0', g1', g2', g3', tl', th', pc', xs', s', js', f1, f2, f3, f4, f5, f6, f7, f8, rfl⟩
          exact ⟨.inr rfl, ak', c', d', t', g0', g1', g2', g3', tl', th', pc', xs', s', js', f1, f2, (fin f3 f4 f5 f6).1, (fin f3 f4 f5 f6).2, f7, f8, rfl⟩
        · obtain ⟨q, hq, hkq⟩ : ∃ q : Nat, q < 3 ∧ kk = (q : Int) := ⟨kk.toNat, by omega, by omega⟩
          refine Tri.preE fun aa ww hat => ⟨_, at_tm (p' := pre A nm np ak i ++ [.v (lt q)]) (by (repeat' apply And.intro) <;> first | rfl | trivial | exact hkq) hat, ?_⟩
          refine (stepT hx (by omega) (by omega) E hE hT hD hq s hok hak hcs js).mono ?_
          rintro x st ⟨rfl, ak', c', d', t', g0', g1', g2', g3', tl', th', pc', xs', s', js', f1, f2, f3, f4, f5, f6, f7, f8, rfl⟩
          exact ⟨.inl rfl, ak', c', d', t', g0', g1', g2', g3', tl', th', pc', xs', s', js', f1, f2, (fin f3 f4 f5 f6).1, (fin f3 f4 f5 f6).2, f7, f8, rfl⟩
    · rintro st ⟨_, ak', c', d', t', g0', g1', g2', g3', tl', th', pc', xs', s', js', f1, f2, f3, f4, f7, f8, rfl⟩
      have e4 : W (i + 1) = i + 1 := wrap_i64_of (by omega) (by omega)
      refine Tri.allR (m := 22) (n := 216) (codeOK _) (inc A nm np ak' i c' d' t' ms ps xs' (OL s') (AL s') (RL s') (.abs (.grp (GA s'))) (.abs (.grp (GB s'))) (caS g0' g1' g2' g3' tl' th') (cbS g0' g1' g2' g3' pc' th') js' f1 (by omega) (by omega)) (Tr.all_ok ⟨rfl, ht rfl, hdd _ rfl, fun js => .inl ⟨rfl, by omega, ?_⟩⟩)
      rw [← e4]
      refine ⟨ak', c', d', t', g0', g1', g2', g3', tl', th', pc', xs', s', js, f1, f2, ?_, ?_, f7, f8, rfl⟩
      · rw [e4]; exact f3
      · rw [e4]; exact f4
  · rintro x st hx' ⟨js, rfl, h | h⟩
    · exact absurd h.1 hx'
    · exact .inr ⟨h, ak, c, d, t, g0, g1, g2, g3, tl, th, pc, xs, s, js, hx, hok, hc, hc2, hak, hcs, rfl⟩
/-- A thread's roots, at first. -/
abbrev rcS (ls : List (List Int)) : List VV := rc (Some16.rN ls) (Some16.Lf ls (Some16.rN ls) 0) (Some16.Lf ls (Some16.rN ls) 1) (Some16.Lf ls (Some16.rN ls) 2) (Some16.Lf ls (Some16.rN ls) 3) (Some16.Lf ls (Some16.rN ls) 4) (Some16.Lf ls (Some16.rN ls) 5) (Some16.Lf ls (Some16.rN ls) 6) (Some16.Lf ls (Some16.rN ls) 7)
abbrev td (ls : List (List Int)) (v : Value) : TD := ⟨0, 0, 0, 0, 0, Some16.rN ls, Some16.Lf ls (Some16.rN ls) 0, Some16.Lf ls (Some16.rN ls) 1, Some16.Lf ls (Some16.rN ls) 2, Some16.Lf ls (Some16.rN ls) 3, Some16.Lf ls (Some16.rN ls) 4, Some16.Lf ls (Some16.rN ls) 5, Some16.Lf ls (Some16.rN ls) 6, Some16.Lf ls (Some16.rN ls) 7, .idle v⟩
def s0' (A : AG) (vs : Nat → Value) : Nat → TD
  | 0 => td A.l0 (vs 0)
  | 1 => td A.l1 (vs 1)
  | _ => td A.l2 (vs 2)
omit hnm hnp hf hE hT hD in
theorem td_ok (ls : List (List Int)) (v : Value) : (td ls v).ok := by
  refine ⟨?_, trivial⟩
  show 0 ≤ Some16.rN ls ∧ Some16.rN ls ≤ 8
  unfold Some16.rN
  split <;> omega
omit hnm hnp hf hE hT hD in
theorem s0_ok (vs : Nat → Value) : ∀ k, k < 3 → (s0' A vs k).ok := fun k hk => by
  rcases q3 hk with rfl | rfl | rfl <;> exact td_ok _ _
theorem rest {xs : List Int} {c d : Int} (vs : Nat → Value) (hx : xs.length = 160) (hc : 0 ≤ c ∧ c ≤ 1000) (hd : 0 ≤ d ∧ d ≤ 1000) (js : Nat → SV) :
    Tri MS Try.prog E (.seq (.seq initC (.block 2 (.loop lbody))) finC) ⟨List.take 21 (pre A nm np 0 0) ++ [.t []] ++ junk js 216 22, bas A ms ps xs c d 0 (s0' A vs) (caS 0 0 0 0 false 0) (cbS 0 0 0 0 1 0), 17, []⟩ (Q) := by
  have hdd : ∀ (l : List Nat), l.all (Nat.ble 6) = true → ∀ b, b ∈ l → E.D b := fun l hl b hb => hD b (Nat.le_of_ble_eq_true (List.all_eq_true.1 hl b hb))
  have ht : ∀ {k : Nat}, Nat.ble k 60 = true → k ≤ E.top := fun h => by rw [hT]; exact Nat.le_of_ble_eq_true h
  refine Tri.seq (R := fun x s => x = .normal ∧ ∃ i, 0 ≤ i ∧ i ≤ 400 ∧ J A nm np ms ps i i s) ?_ ?_ (fun x s hx hh => absurd hh.1 hx)
  · refine Tri.seq (R := fun x s => x = .normal ∧ J A nm np ms ps 0 0 s) ?_ ?_ (fun x s hx hh => absurd hh.1 hx)
    · refine Tri.postE (Q := fun x s => x = .normal ∧ ∀ aa ww, At MS E s aa ww → ∃ s', At MS E s' aa ww ∧ J A nm np ms ps 0 0 s') (Tri.allR (m := 22) (n := 216) (codeOK _) (init A nm np 0 c d 0 ms ps xs (OL (s0' A vs)) (AL (s0' A vs)) (RL (s0' A vs)) (.abs (.grp (GA (s0' A vs)))) (.abs (.grp (GB (s0' A vs)))) (caS 0 0 0 0 false 0) (cbS 0 0 0 0 1 0) (.t []) js hx (by omega) (by omega)) (Tr.all_ok ⟨rfl, ht rfl, hdd _ rfl, fun js => ⟨rfl, fun aa ww hat => ⟨St0 A nm np 0 0 c d 0 0 0 0 0 false 0 1 ms ps xs (s0' A vs) js, at_tm (p' := pre A nm np 0 0) (by (repeat' apply And.intro) <;> first | rfl | trivial) hat, 0, c, d, 0, 0, 0, 0, 0, false, 0, 1, xs, s0' A vs, js, hx, s0_ok A vs, by omega, by omega, by omega, .inl ⟨rfl, rfl, rfl⟩, rfl⟩⟩⟩)) ?_
      rintro x s aa ww ⟨rfl, hh⟩ hat
      obtain ⟨s', h1, h2⟩ := hh aa ww hat
      exact ⟨s', h1, rfl, h2⟩
    · rintro s ⟨_, hJ⟩
      refine Tri.block (R := fun x s => x = .exit 2 ∧ ∃ i, 0 ≤ i ∧ i ≤ 400 ∧ J A nm np ms ps i i s) ?_ (fun s hh => by
        rcases hh with hh | hh
        · cases hh.1
        · exact ⟨rfl, hh.2⟩) (fun x s _ hx hh => absurd hh.1 hx)
      refine Tri.loop (J := fun k s => ∃ i : Int, 0 ≤ i ∧ i ≤ 400 ∧ J A nm np ms ps i i s ∧ k = (400 - i).toNat) ?_ (k := (400 - 0 : Int).toNat) ⟨0, by decide, by decide, hJ, rfl⟩
      rintro k s ⟨i, h0, h1, hJ, rfl⟩
      refine (round A nm np ms ps hnm hnp hf E hE hT hD ⟨h0, h1⟩ hJ).mono ?_
      rintro x s (⟨rfl, h2, h3⟩ | ⟨rfl, h3⟩)
      · exact ⟨(400 - (i + 1)).toNat, by omega, i + 1, by omega, h2, h3, rfl⟩
      · exact ⟨rfl, i, h0, h1, h3⟩
  · rintro s ⟨_, i, h0, h1, ak, c', d', t', g0, g1, g2, g3, tl, th, pc, xs', s', js, f1, f2, f3, f4, f5, f6, rfl⟩
    exact Tri.allR (m := 22) (n := 216) (codeOK _) (fin A nm np ak i c' d' t' ms ps xs' (OL s') (AL s') (RL s') (.abs (.grp (GA s'))) (.abs (.grp (GB s'))) (caS g0 g1 g2 g3 tl th) (cbS g0 g1 g2 g3 pc th) js f1 (by omega) (by omega) (by omega)) (Tr.all_ok ⟨rfl, ht rfl, hdd _ rfl, fun js => ⟨.inr rfl, _, (congrArg Tr.run (resX _ _ _ _ _ _ _ _ _ _ _ _ _ _ _ _ _ _ _ _ _ _ _ true js)).trans rfl, rfl⟩⟩)
/-- The law's state when its head is over. -/
theorem settle0 {c d t : Int} {xs : List Int} {js : Nat → SV} {dd : List Nat} {a : Act} {w : World}
    (h : At MS E ⟨[.s (.agg [.an 0 (.sym A.nt), .an 1 (.sym A.n0), .an 2 (.sym A.n1), .an 3 (.sym A.n2), ii A.al]), .v (.an 4 (.sym nm)), .v (.an 5 (.sym np)), .v (.ptr 6 0), .t [], .t [], .v (.bool (.lit false)), .v (.bool (.lit true)), .v (.ptr 7 0), .v (.ptr 8 0), .v (.ptr 9 0), .v (lt 0), .v (.ptr 10 0), .v (.ptr 11 0), .v (.ptr 12 0), .v (lt 3), .v (.ptr 16 0), .v (.ptr 17 0), .v (.ptr 20 0), .v (.ptr 23 0), .v (lt 0), .t []] ++ junk js 216 22, [(0, some (.rotab [.int .i64] A.ts)), (1, some (.rotab [.int .i64] A.l0)), (2, some (.rotab [.int .i64] A.l1)), (3, some (.rotab [.int .i64] A.l2)), (4, some (.rotab [.int .i64] ms)), (5, some (.rotab [.int .i64] ps)), (6, some (.cells [.an 0 (.sym A.nt), .an 1 (.sym A.n0), .an 2 (.sym A.n1), .an 3 (.sym A.n2), ii A.al] 64)), (7, some (.abs (.mem 97 xs c t))), (8, some (.abs (.mem 51 xs d t))), (9, some (.cells [lt 3, lt 4, lt 13, lt 32, lt 160] 29)), (10, some (.cells [lt 0, lt 0, lt 0, lt 0, lt 0, lt 0, lt 0, lt 0, lt 0, lt 0, lt 0, lt 0] 58)), (11, some (.cells [lt 0, lt 0, lt 0] 65)), (12, some (.cells (rcS A.l0 ++ rcS A.l1 ++ rcS A.l2) 66)), (16, some (.cells [.nilp, .nilp, .nilp] 59)), (17, some (.cells [.nilp, .nilp, .nilp] 68)), (20, some (.cells [lt 3, lt 4, lt 13, lt 32, lt 160, lt 0, lt 0, lt 0, lt 0, .bool (.lit false), lt 0] 85)), (23, some (.cells [lt 3, lt 4, lt 13, lt 32, lt 160, lt 0, lt 0, lt 0, lt 0, lt 1, lt 0] 99))], 24, dd⟩ a w) :
    ∃ (vs : Nat → Value) (js : Nat → SV), At MS E ⟨List.take 21 (pre A nm np 0 0) ++ [.t []] ++ junk js 216 22, bas A ms ps xs c d t (s0' A vs) (caS 0 0 0 0 false 0) (cbS 0 0 0 0 1 0), 17, []⟩ a w := by
  have h1 := at_can h
  obtain ⟨vs, h2⟩ := at_forget 17 [true, true, true] rfl rfl h1
  have h3 := at_grpfold (b := 16) (g := GA (s0' A vs)) rfl rfl (fun n => rfl) h2
  have h4 := at_grpfold (b := 17) (g := GB (s0' A vs)) rfl rfl (fun n => rfl) h3
  have h5 := at_tm (p' := [.s (.agg [.an 0 (.sym A.nt), .an 1 (.sym A.n0), .an 2 (.sym A.n1), .an 3 (.sym A.n2), ii A.al]), .v (.an 4 (.sym nm)), .v (.an 5 (.sym np)), .v (.ptr 6 0), .t [], .t [], .v (.bool (.lit false)), .v (.bool (.lit true)), .v (.ptr 7 0), .v (.ptr 8 0), .v (.ptr 9 0), .v (lt 0), .v (.ptr 10 0), .v (.ptr 11 0), .v (.ptr 12 0), .v (lt 3), .v (.ptr 16 0), .v (.ptr 17 0), .v (.ptr 20 0), .v (.ptr 23 0), .v (ii 0), .t []]) (by (repeat' apply And.intro) <;> first | rfl | trivial) h4
  obtain ⟨js', h6⟩ := at_rename (dirty' := []) (m := 22) (n := 216) (pre' := List.take 21 (pre A nm np 0 0) ++ [.t []]) [(0, 0), (1, 1), (2, 2), (3, 3), (4, 4), (5, 5), (6, 6), (7, 7), (8, 8), (9, 9), (10, 10), (11, 11), (12, 12), (16, 13), (17, 14), (20, 15), (23, 16)] (nid' := 17) rfl (by simp [length_junk]) rfl rfl (by rw [hE]; rfl) (by omega) (by omega) h5
  exact ⟨vs, js', h6⟩
theorem runs (h1 : A.nt = A.ts.length) (k1 : Laid.fitB A.ts = true) (ka : Laid.fitI A.al = true) (h2 : A.n0 = A.l0.length) (k2 : Laid.fitB A.l0 = true) (h3 : A.n1 = A.l1.length) (k3 : Laid.fitB A.l1 = true) (h4 : A.n2 = A.l2.length) (k4 : Laid.fitB A.l2 = true) :
    Tri MS Try.prog E body ⟨[.s (.agg [.an 0 (.sym A.nt), .an 1 (.sym A.n0), .an 2 (.sym A.n1), .an 3 (.sym A.n2), ii A.al]), .v (.an 4 (.sym nm)), .v (.an 5 (.sym np))] ++ List.replicate (nt - 3) .undef, [(0, some (.rotab [.int .i64] A.ts)), (1, some (.rotab [.int .i64] A.l0)), (2, some (.rotab [.int .i64] A.l1)), (3, some (.rotab [.int .i64] A.l2)), (4, some (.rotab [.int .i64] ms)), (5, some (.rotab [.int .i64] ps))], 6, []⟩ Q := by
  have hdd : ∀ (l : List Nat), l.all (Nat.ble 6) = true → ∀ b, b ∈ l → E.D b := fun l hl b hb => hD b (Nat.le_of_ble_eq_true (List.all_eq_true.1 hl b hb))
  have ht : ∀ {k : Nat}, Nat.ble k 60 = true → k ≤ E.top := fun h => by rw [hT]; exact Nat.le_of_ble_eq_true h
  refine Tri.listR (m := 22) (n := 216) (l := (Eng.spine 14 body).1) codeOK 14 rfl restE (start A.nt A.n0 A.n1 A.n2 nm np A.al A.ts A.l0 A.l1 A.l2 ms ps h1 k1 ka h2 k2 h3 k3 h4 k4) (Tr.all_ok ⟨rfl, rfl, ht rfl, hdd _ rfl, fun js => ?_⟩)
  refine Tri.preE fun aa ww hat => let ⟨vs, js', hat'⟩ := settle0 A nm np ms ps hnm hnp hf E hE hT hD (c := 17) (d := 17) (t := 0) hat; ⟨_, hat', ?_⟩
  exact rest A nm np ms ps hnm hnp hf E hE hT hD vs rfl (by decide) (by decide) js'
end
abbrev ks : List CK := [.int .i64]
abbrev tys : List TypeId := [64, 22, 22]
theorem hts : Try.f5.params.toList = tys := by kernel_rfl
theorem w_sl : Try.prog.cellsOf 22 = 1 := by kernel_rfl
theorem w_ar : Try.prog.cellsOf 62 = 3 := by kernel_rfl
theorem w_in : Try.prog.cellsOf 3 = 1 := by kernel_rfl
theorem w_bg : Try.prog.cellsOf 64 = 5 := by kernel_rfl
theorem core (w : World) (vals : List Value) (ha : F2 (ArgOK Try.prog w) tys vals) :
    Calls Try.prog 5 vals.toArray w fun e W' => ∃ v, e = .returned v ∧ v = .bool true ∧ Below w.heap.size w W' := by
  obtain ⟨u, v, b, rfl⟩ : ∃ u v b, vals = [u, v, b] := by
    match vals, ha with
    | [u, v, b], _ => exact ⟨u, v, b, rfl⟩
    | [], ha => exact ha.elim
    | [_], ha => exact ha.2.elim
    | [_, _], ha => exact ha.2.2.elim
    | _ :: _ :: _ :: _ :: _, ha => exact ha.2.2.2.elim
  obtain ⟨cs, H, enc, fuel, rfl, hlen, hfl⟩ := arg_struct (fs := #[⟨ "Tags", 22, 0, false, "", "", 0⟩, ⟨ "Roots", 62, 1, false, "", "", 24⟩, ⟨ "Alpha", 3, 4, false, "", "", 96⟩]) ha.1 (by kernel_rfl)
  rw [w_bg] at hlen
  obtain ⟨e0, e1, e2, e3, e4, hcs⟩ : ∃ e0 e1 e2 e3 e4, cs.toList = [e0, e1, e2, e3, e4] := by
    match cs.toList, hlen with
    | [a, b, c, d, e], _ => exact ⟨a, b, c, d, e, rfl⟩
  rw [hcs] at hfl
  obtain ⟨y0, t0⟩ := hfl ⟨ "Tags", 22, 0, false, "", "", 0⟩ (.head _)
  obtain ⟨y1, t1⟩ := hfl ⟨ "Roots", 62, 1, false, "", "", 24⟩ (.tail _ (.head _))
  obtain ⟨y4, t4⟩ := hfl ⟨ "Alpha", 3, 4, false, "", "", 96⟩ (.tail _ (.tail _ (.head _)))
  simp only [w_sl] at t0
  simp only [w_ar] at t1
  simp only [w_in] at t4
  have t0 : DataW.trod enc Try.prog w 0 (fun _ => true) true fuel 22 [e0] = some y0 := t0
  have t1 : DataW.trod enc Try.prog w 0 (fun _ => true) true fuel 62 [e1, e2, e3] = some y1 := t1
  have t4 : DataW.trod enc Try.prog w 0 (fun _ => true) true fuel 3 [e4] = some y4 := t4
  obtain ⟨f, rfl⟩ : ∃ f, fuel = f + 1 := by
    cases fuel with
    | zero => simp [DataW.trod] at t1
    | succ f => exact ⟨f, rfl⟩
  obtain ⟨_, h3⟩ := trod_array (n := 3) (e := 22) (by kernel_rfl) t1
  obtain ⟨z1, r1⟩ := h3 0 (by decide)
  obtain ⟨z2, r2⟩ := h3 1 (by decide)
  obtain ⟨z3, r3⟩ := h3 2 (by decide)
  simp only [w_sl] at r1 r2 r3
  have r1 : DataW.trod enc Try.prog w 0 (fun _ => true) true f 22 [e1] = some z1 := r1
  have r2 : DataW.trod enc Try.prog w 0 (fun _ => true) true f 22 [e2] = some z2 := r2
  have r3 : DataW.trod enc Try.prog w 0 (fun _ => true) true f 22 [e3] = some z3 := r3
  obtain ⟨ts, p0, hf0, _, hall0⟩ := cell_slice (e := 3) (ks := ks) t0 (by kernel_rfl) (by kernel_rfl) (by kernel_rfl) (by decide)
  obtain ⟨l0, p1, hf1, _, hall1⟩ := cell_slice (e := 3) (ks := ks) r1 (by kernel_rfl) (by kernel_rfl) (by kernel_rfl) (by decide)
  obtain ⟨l1, p2, hf2, _, hall2⟩ := cell_slice (e := 3) (ks := ks) r2 (by kernel_rfl) (by kernel_rfl) (by kernel_rfl) (by decide)
  obtain ⟨l2, p3, hf3, _, hall3⟩ := cell_slice (e := 3) (ks := ks) r3 (by kernel_rfl) (by kernel_rfl) (by kernel_rfl) (by decide)
  obtain ⟨ms, p4, hf4, _, hall4⟩ := arg_slice (e := 3) (ks := ks) ha.2.1 (by kernel_rfl) (by kernel_rfl) (by kernel_rfl) (by decide)
  obtain ⟨ps, p5, hf5, _, hall5⟩ := arg_slice (e := 3) (ks := ks) ha.2.2.1 (by kernel_rfl) (by kernel_rfl) (by kernel_rfl) (by decide)
  obtain ⟨ns, hc4⟩ := shape_read 8 t4 (ks := [.int .i64]) (by kernel_rfl)
  obtain ⟨al, rfl⟩ : ∃ al, ns = [al] := by
    match ns, hc4 with
    | [m], _ => exact ⟨m, rfl⟩
  have hal : Laid.fitI al = true := by
    have h : -9223372036854775808 ≤ al ∧ al ≤ 9223372036854775807 := hc4.1
    simp only [Laid.fitI, Bool.and_eq_true, decide_eq_true_eq]
    exact h
  let ρ0 : Rho := fun b => match b with | 0 => some p0 | 1 => some p1 | 2 => some p2 | 3 => some p3 | 4 => some p4 | 5 => some p5 | _ + 6 => none
  have hρ : ∀ b, 6 ≤ b → ρ0 b = none := fun b hb => by
    match b, hb with
    | 0, hb => exact absurd hb (by decide)
    | 1, hb => exact absurd hb (by decide)
    | 2, hb => exact absurd hb (by decide)
    | 3, hb => exact absurd hb (by decide)
    | 4, hb => exact absurd hb (by decide)
    | 5, hb => exact absurd hb (by decide)
    | b + 6, _ => rfl
  have hva : RV ρ0 (ii al) e4 := (Cells.rel ρ0 hc4).1
  have hv0 : RS ρ0 (.s (.agg [.an 0 (.sym ts.length), .an 1 (.sym l0.length), .an 2 (.sym l1.length), .an 3 (.sym l2.length), ii al])) (.agg cs) :=
    ⟨[e0, e1, e2, e3, e4], by rw [← hcs], (hall0 MS ρ0 0 rfl).1, (hall1 MS ρ0 1 rfl).1, (hall2 MS ρ0 2 rfl).1, (hall3 MS ρ0 3 rfl).1, hva, trivial⟩
  refine (calls_of_triA (S := MS) (vargs := [.agg cs, v, b]) (R := IsTrue) Try.func5 hb 6 60 (by omega) hρ (hp := [(0, some (.rotab ks ts)), (1, some (.rotab ks l0)), (2, some (.rotab ks l1)), (3, some (.rotab ks l2)), (4, some (.rotab ks ms)), (5, some (.rotab ks ps))]) (fun b o ho => ?_) (runs ⟨ts.length, l0.length, l1.length, l2.length, al, ts, l0, l1, l2⟩ ms.length ps.length ms ps rfl rfl hf5 _ rfl rfl (fun b hb => hb) rfl (Laid.fitB_of hf0) hal rfl (Laid.fitB_of hf1) rfl (Laid.fitB_of hf2) rfl (Laid.fitB_of hf3)) ⟨hv0, (hall4 MS ρ0 4 rfl).1, (hall5 MS ρ0 5 rfl).1, trivial⟩).mono ?_
  · match b, ho with
    | 0, ho =>
      injection ho with ho
      subst ho
      exact (hall0 MS ρ0 0 rfl).2
    | 1, ho =>
      injection ho with ho
      subst ho
      exact (hall1 MS ρ0 1 rfl).2
    | 2, ho =>
      injection ho with ho
      subst ho
      exact (hall2 MS ρ0 2 rfl).2
    | 3, ho =>
      injection ho with ho
      subst ho
      exact (hall3 MS ρ0 3 rfl).2
    | 4, ho =>
      injection ho with ho
      subst ho
      exact (hall4 MS ρ0 4 rfl).2
    | 5, ho =>
      injection ho with ho
      subst ho
      exact (hall5 MS ρ0 5 rfl).2
    | b + 6, ho => cases ho
  · rintro e w' ⟨v, x, ρ, rfl, hv, hR, hbel⟩
    exact ⟨v, rfl, hR.value hv, hbel⟩
theorem own' : ownKnob Try.prog.godebug = none := by kernel_rfl
theorem lifted {H : Type} (os : Os) (started : os.Started) (enc : TypeId × Value → H) : ReturnsInHanded {} Try.checked os 5 .any (Rows.shakePlaysSpec.pre6 enc Try.prog Try.f5 Rows.shakePlaysRow.domain false) (Rows.shakePlaysSpec.post enc Try.prog Try.f5 false true false false) :=
  law_lifted own' started (by kernel_rfl) (by kernel_rfl)
    (ChangeSpec.witness6 (enc := enc) (C := Try.checked) false ⟨#[], #[.agg #[.slice none 0 0, .slice none 0 0, .slice none 0 0, .slice none 0 0, .int .i64 0], .slice none 0 0, .slice none 0 0], []⟩ 8 (by kernel_rfl) (by kernel_rfl) (by kernel_rfl) (by kernel_rfl))
    (tb := 4) (by kernel_rfl) (by kernel_rfl) rfl
    (fun ds hd => by
      match ds, hd with
      | [_, _, _], _ => exact ⟨rfl, rfl, rfl⟩)
    (by kernel_rfl) (by kernel_rfl) (fun W vals ha => core W vals (hts ▸ ha))
theorem proved : Rows.ShakePlaysSaid :=
  OpenClaim.holds_of_wide 5 Try.f5 rfl rfl rfl rfl rfl rfl rfl ⟨rfl, rfl, rfl, rfl, rfl⟩ rfl rfl rfl rfl rfl (by kernel_rfl) Try.func5 (by kernel_rfl) (of_decide_eq_true (by kernel_rfl))
    (by unfold Func.isWrapper; first | (rw [if_pos (by decide +kernel)]; kernel_rfl) | (rw [if_neg (by decide +kernel)]; exact ⟨rfl, rfl⟩))
    (fun os started H enc _ => lifted os started enc)
end Go.Proofs.Ytdongoplhnpdiaa.ShakePlays
