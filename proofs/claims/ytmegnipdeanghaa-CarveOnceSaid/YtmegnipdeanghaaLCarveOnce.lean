/-
  CarveOnce: no block is taken twice, and there are as many as there are blocks: takers of any classes, whose steps follow one another in any order, all go on till there is none. Of any number of blocks, any picks.
-/
import Derived.Test.YtmegnipdeanghaaRows
import Derived.Test.YtmegnipdeanghaaLCarveOnce3
namespace Go.Proofs.Ytmegnipdeanghaa.CarveOnce
open Go Go.RowKit Go.Proofs.Ytmegnipdeanghaa.Eng
set_option linter.unusedVariables false
set_option linter.unusedSimpArgs false
set_option linter.unusedSectionVars false
set_option maxRecDepth 20000
theorem hb : Try.f3.body = some body := by kernel_rfl
noncomputable abbrev initC : Code := codeAt body [true, true, true, true, true, true, true, true, true, false, false]
noncomputable abbrev finC : Code := codeAt body [true, true, true, true, true, true, true, true, true, true]
noncomputable abbrev lbody : Code := .seq (at' [false]) (.seq (.block 1 (qt [])) (at' [true, true]))
theorem restE : (Eng.spine 9 body).2 = .seq (.seq initC (.block 0 (.loop lbody))) finC := by kernel_rfl
abbrev r10 : List (Nat × Nat) := [(0, 0), (1, 1), (4, 2), (5, 3), (6, 4), (7, 5), (8, 6), (9, 7)]
abbrev z8 : List VV := [.int .i64 (.lit 0), .int .i64 (.lit 0), .int .i64 (.lit 0), .int .i64 (.lit 0), .int .i64 (.lit 0), .int .i64 (.lit 0), .int .i64 (.lit 0), .int .i64 (.lit 0)]
abbrev preI (n : Int) (np : Nat) (f : Int) : List SV := [.v (ii n), .v (.an 0 (.sym np)), .t [], .t [], .v (.bool (.lit false)), .v (.bool (.lit true)), .v (.ptr 1 0), .v (.int .i64 (.lit 0)), .v (.ptr 4 0), .v (.ptr 3 0), .v (.ptr 5 0), .v (ii f), .v (.ptr 6 0), .v (.ptr 7 0), .t []]
/-- The law's state when its head is over. -/
theorem settle0 {n B p4 c : Int} {np N : Nat} {ps rows : List (List Int)} {xs : List Int} {E : Ctx MObj} (hE : E.nid0 = 1) (hT : E.top = 30) {js : Nat → SV} {d : List Nat} {a : Act} {w : World}
    (h : At MS E ⟨[.v (ii n), .v (.an 0 (.sym np)), .t [], .t [], .v (.bool (.lit false)), .v (.bool (.lit true)), .v (.ptr 1 0), .v (.int .i64 (.lit 0)), .v (.ptr 6 0), .v (.ptr 5 0), .v (.ptr 7 0), .v (.int .i64 (.lit 0)), .v (.ptr 8 0), .v (.ptr 9 0), .t []] ++ junk js 110 15,
      [(0, some (.rotab [.int .i64] ps)), (1, some (.cells [.int .i64 (.lit 3), .int .i64 (.lit B), .int .i64 (.lit 13), .int .i64 (.lit 32), .int .i64 (.lit p4)] 25)), (4, some (.tab [.int .u64] rows 44)), (5, some (.cells [.ts 4 (.lit 0) (.lit N) none, .int .i64 (.lit 0), .int .i64 (.lit 0), .nils] 62)), (6, some (.abs (.mem 65 xs c 0))), (7, some (.cells z8 34)), (8, some (.cells [.nilp, .nilp, .nilp] 36)), (9, some (.cells [.bool (.lit false), .bool (.lit false), .bool (.lit false)] 37))], 10, d⟩ a w) :
    ∃ js, At MS E ⟨preI n np 0 ++ junk js 110 15, base ps rows B p4 N xs c 0 0 0 0 0 0 0 0 .nilp .nilp .nilp false false false ++ six B p4 .nil .nil .nil, 14, []⟩ a w := by
  have h2 : ∃ js, At MS E ⟨[.v (ii n), .v (.an 0 (.sym np)), .t [], .t [], .v (.bool (.lit false)), .v (.bool (.lit true)), .v (.ptr 1 0), .v (.int .i64 (.lit 0)), .v (.ptr 4 0), .v (.ptr 3 0), .v (.ptr 5 0), .v (.int .i64 (.lit 0)), .v (.ptr 6 0), .v (.ptr 7 0), .t []] ++ junk js 110 15, [(0, some (.rotab [.int .i64] ps)), (1, some (.cells [.int .i64 (.lit 3), .int .i64 (.lit B), .int .i64 (.lit 13), .int .i64 (.lit 32), .int .i64 (.lit p4)] 25)), (2, some (.tab [.int .u64] rows 44)), (3, some (.cells [.ts 2 (.lit 0) (.lit N) none, .int .i64 (.lit 0), .int .i64 (.lit 0), .nils] 62)), (4, some (.abs (.mem 65 xs c 0))), (5, some (.cells z8 34)), (6, some (.cells [.nilp, .nilp, .nilp] 36)), (7, some (.cells [.bool (.lit false), .bool (.lit false), .bool (.lit false)] 37)), (8, none), (9, none), (10, none), (11, none), (12, none), (13, none)], 14, []⟩ a w := by
    refine at_rename2 (m := 15) (n := 110) (nid' := 14) (dirty' := []) r10 rfl (by simp [length_junk]) rfl ?_ ?_ ?_ (by rw [hE]; rfl) (by rw [hE]; decide) (by rw [hT]; decide) h
    · intro p hp x hx
      simp only [List.mem_cons, List.not_mem_nil, or_false] at hp
      rcases hp with rfl | rfl | rfl | rfl | rfl | rfl | rfl | rfl <;> exact ⟨_, by cases hx; rfl, rfl⟩
    · intro p hp hx
      simp only [List.mem_cons, List.not_mem_nil, or_false] at hp
      rcases hp with rfl | rfl | rfl | rfl | rfl | rfl | rfl | rfl <;> cases hx
    · intro b hb
      have h0 := hb (0, 0) (by simp); have h1 := hb (1, 1) (by simp); have h2 := hb (4, 2) (by simp); have h3 := hb (5, 3) (by simp); have h4 := hb (6, 4) (by simp); have h5 := hb (7, 5) (by simp); have h6 := hb (8, 6) (by simp); have h7 := hb (9, 7) (by simp)
      match b with
      | 0 => exact absurd rfl h0
      | 1 => exact absurd rfl h1
      | 2 => exact absurd rfl h2
      | 3 => exact absurd rfl h3
      | 4 => exact absurd rfl h4
      | 5 => exact absurd rfl h5
      | 6 => exact absurd rfl h6
      | 7 => exact absurd rfl h7
      | 8 => rfl
      | 9 => rfl
      | 10 => rfl
      | 11 => rfl
      | 12 => rfl
      | 13 => rfl
      | b + 14 => rfl
  obtain ⟨js, h2⟩ := h2
  exact ⟨js, at_wk (by (repeat' apply And.intro) <;> first | rfl | trivial) (by (repeat' apply And.intro) <;> first | rfl | trivial) h2⟩
theorem resX (n : Int) (np : Nat) (x6 x7 x8 x9 x10 x11 x12 x13 x14 : SV) (hp : HP MObj) (nid : Nat) (r : Bool) (js : Nat → SV) : vresults Try.prog (⟨[.v (ii n), .v (.an 0 (.sym np)), .t [], .t [], .v (.bool (.sym r)), .v (.bool (.lit true)), x6, x7, x8, x9, x10, x11, x12, x13, x14] ++ junk js 110 15, hp, nid, []⟩ : St MObj) Try.f3.results.toList = .ok [.one (.bool (.sym r))] := by kernel_rfl
abbrev T0 : Int → Int := fun _ => 0
abbrev s0 : Nat → TK := fun _ => .nil
abbrev z0 : Nat → Bool := fun _ => false
theorem inv0 {B : Int} {xs : List Int} (hB : 1 ≤ B ∧ B ≤ 8) (h : Mem xs B 0) : Inv B 0 0 xs T0 s0 z0 :=
  ⟨h, fun _ _ => trivial, fun _ _ b hb => (by cases hb), fun _ _ _ _ _ b hb => (by cases hb), fun _ _ => rfl, rfl, fun _ _ h => (by cases h)⟩
theorem near0 {B : Int} (hB : 1 ≤ B ∧ B ≤ 8) : Near B 0 0 s0 z0 := fun j hj => by
  refine .inr ?_
  simp only [TK.left, cnt]
  split <;> (try split) <;> omega
section
variable (n : Int) (np : Nat) (ps : List (List Int)) (hnp : np = ps.length) (hf : RFits [.int .i64] ps) (E : Ctx MObj) (hE : E.nid0 = 1) (hT : E.top = 30) (hD : ∀ b, 1 ≤ b → E.D b)
include hnp hf hE hT hD
abbrev Q : VX → St MObj → Prop := fun x st => (x = .normal ∨ x = .ret) ∧ ∃ l, (vresults Try.prog st Try.f3.results.toList).run = some l ∧ IsTrue (tupleOf l)
section
variable {B p4 : Int} {N : Nat} {rows : List (List Int)} (hp4 : p4 = 32 + 32 * B) (hB : 1 ≤ B ∧ B ≤ 8)
include hp4 hB
/-- What holds ahead of round i. -/
def J (n : Int) (np : Nat) (ps rows : List (List Int)) (B p4 : Int) (N : Nat) (i : Int) (st : St MObj) : Prop :=
  ∃ d f xs T s z c js, Inv B d f xs T s z ∧ Near B d i s z ∧ 0 ≤ c ∧ c ≤ 300 + i ∧ st = SF n np f i ps rows B p4 N xs c T s z js
theorem oneRound {i : Int} (hi : 0 ≤ i ∧ i < 1200) {d f c : Int} {xs : List Int} {T : Int → Int} {s : Nat → TK} {z : Nat → Bool} (hv : Inv B d f xs T s z) (hn : Near B d i s z) (hc : 0 ≤ c ∧ c ≤ 300 + i) (js : Nat → SV) :
    Tri MS Try.prog E (qt []) (SF n np f i ps rows B p4 N xs c T s z js) fun x st => (x = .exit 1 ∨ x = .normal) ∧ ∃ d' f' xs' T' s' z' c' js, Inv B d' f' xs' T' s' z' ∧ Near B d' (i + 1) s' z' ∧ 0 ≤ c' ∧ c' ≤ 300 + (i + 1) ∧ st = SF n np f' i ps rows B p4 N xs' c' T' s' z' js := by
  have hd : ∀ (l : List Nat), l.all (Nat.ble 1) = true → ∀ b, b ∈ l → E.D b := fun l hl b hb => hD b (Nat.le_of_ble_eq_true (List.all_eq_true.1 hl b hb))
  have ht : ∀ {k : Nat}, Nat.ble k 30 = true → k ≤ E.top := fun h => by rw [hT]; exact Nat.le_of_ble_eq_true h
  have hx := hv.mem.len
  have hP : ∀ (k : Nat), k < 3 → (400 ≤ i → i % 3 = k) → ∀ x st, Post n np i ps rows B p4 N c d s z k x st → (x = .exit 1 ∨ x = .normal) ∧ ∃ d' f' xs' T' s' z' c' js, Inv B d' f' xs' T' s' z' ∧ Near B d' (i + 1) s' z' ∧ 0 ≤ c' ∧ c' ≤ 300 + (i + 1) ∧ st = SF n np f' i ps rows B p4 N xs' c' T' s' z' js := by
    rintro k hk hki x st ⟨hxx, d', f', xs', T', s', z', g1, g2, c', js, g3, g4, rfl⟩
    exact ⟨hxx, d', f', xs', T', s', z', c', js, g1, hn.step hB hi.1 hki g2 g1, by omega, by omega, rfl⟩
  have hr0 := fun js => (round0 (n := n) (i := i) (np := np) (N := N) (ps := ps) (rows := rows) E hE hT hD hp4 hB (c := c) ⟨hc.1, by omega⟩ hv js)
  have hr1 := fun js => (round1 (n := n) (i := i) (np := np) (N := N) (ps := ps) (rows := rows) E hE hT hD hp4 hB (c := c) ⟨hc.1, by omega⟩ hv js)
  have hr2 := fun js => (round2 (n := n) (i := i) (np := np) (N := N) (ps := ps) (rows := rows) E hE hT hD hp4 hB (c := c) ⟨hc.1, by omega⟩ hv js)
  have hturn : ∀ js, Tri MS Try.prog E stc ⟨pre n np f i ++ [.v (.int .i64 (.sym (Int.tmod i 3)))] ++ junk js 109 16, base ps rows B p4 N xs c (T 0) (T 1) (T 2) (T 3) (T 4) (T 5) (T 6) (T 7) (vT 0 (s 0)) (vT 1 (s 1)) (vT 2 (s 2)) (z 0) (z 1) (z 2) ++ six B p4 (s 0) (s 1) (s 2), 14, []⟩ fun x st => (x = .exit 1 ∨ x = .normal) ∧ ∃ d' f' xs' T' s' z' c' js, Inv B d' f' xs' T' s' z' ∧ Near B d' (i + 1) s' z' ∧ 0 ≤ c' ∧ c' ≤ 300 + (i + 1) ∧ st = SF n np f' i ps rows B p4 N xs' c' T' s' z' js := fun js => by
    have hm : Int.tmod i 3 = i % 3 := Int.tmod_eq_emod_of_nonneg hi.1
    rcases (show i % 3 = 0 ∨ i % 3 = 1 ∨ i % 3 = 2 by omega) with e | e | e
    · refine Tri.preE fun aa ww hat => ⟨_, at_tm (p' := pre n np f i ++ [.v (.int .i64 (.lit 0))]) (by (repeat' apply And.intro) <;> first | rfl | trivial | (exact hm.trans e)) hat, ?_⟩
      exact (hr0 js).mono (hP 0 (by decide) fun _ => e)
    · refine Tri.preE fun aa ww hat => ⟨_, at_tm (p' := pre n np f i ++ [.v (.int .i64 (.lit 1))]) (by (repeat' apply And.intro) <;> first | rfl | trivial | (exact hm.trans e)) hat, ?_⟩
      exact (hr1 js).mono (hP 1 (by decide) fun _ => e)
    · refine Tri.preE fun aa ww hat => ⟨_, at_tm (p' := pre n np f i ++ [.v (.int .i64 (.lit 2))]) (by (repeat' apply And.intro) <;> first | rfl | trivial | (exact hm.trans e)) hat, ?_⟩
      exact (hr2 js).mono (hP 2 (by decide) fun _ => e)
  refine Tri.listR (m := 16) (n := 109) (l := [qt [false], qt [true, false]]) (c' := stc) codeOK 2 rfl rfl
    (kp n f i B p4 c (T 0) (T 1) (T 2) (T 3) (T 4) (T 5) (T 6) (T 7) np N ps rows xs (vT 0 (s 0)) (vT 1 (s 1)) (vT 2 (s 2)) (z 0) (z 1) (z 2) (oT B p4 0 (s 0)) (oP 0 (s 0)) (oT B p4 1 (s 1)) (oP 1 (s 1)) (oT B p4 2 (s 2)) (oP 2 (s 2)) js hx hp4 hB ⟨hc.1, by omega⟩ hi hnp fun h => kM_range (c := tabAt ps i.toNat 0) (n := 3) (by decide) (tab_fits hf (show i.toNat < ps.length by omega) (j := 0) rfl))
    (Tr.all_ite (fun q1 => Tr.all_ite (fun q2 => Tr.all_ite (fun _ => Tr.all_ok ⟨rfl, rfl, ht rfl, hd _ rfl, fun js => ?_⟩) fun _ => Tr.all_ite (fun _ => Tr.all_ok ⟨rfl, rfl, ht rfl, hd _ rfl, fun js => ?_⟩) fun _ => Tr.all_ok ⟨rfl, rfl, ht rfl, hd _ rfl, fun js => ?_⟩) fun _ => Tr.all_ok ⟨rfl, rfl, ht rfl, hd _ rfl, hturn⟩) fun _ => Tr.all_ok ⟨rfl, rfl, ht rfl, hd _ rfl, hturn⟩)
  · exact (hr0 js).mono (hP 0 (by decide) fun h => absurd (of_decide_eq_true q2) (by omega))
  · exact (hr1 js).mono (hP 1 (by decide) fun h => absurd (of_decide_eq_true q2) (by omega))
  · exact (hr2 js).mono (hP 2 (by decide) fun h => absurd (of_decide_eq_true q2) (by omega))
theorem rest {xs : List Int} {c : Int} (hm : Mem xs B 0) (hc : 0 ≤ c ∧ c ≤ 300) (js : Nat → SV) :
    Tri MS Try.prog E (.seq (.seq initC (.block 0 (.loop lbody))) finC) ⟨preI n np 0 ++ junk js 110 15, base ps rows B p4 N xs c 0 0 0 0 0 0 0 0 .nilp .nilp .nilp false false false ++ six B p4 .nil .nil .nil, 14, []⟩ Q := by
  have hd : ∀ (l : List Nat), l.all (Nat.ble 1) = true → ∀ b, b ∈ l → E.D b := fun l hl b hb => hD b (Nat.le_of_ble_eq_true (List.all_eq_true.1 hl b hb))
  have ht : ∀ {k : Nat}, Nat.ble k 30 = true → k ≤ E.top := fun h => by rw [hT]; exact Nat.le_of_ble_eq_true h
  refine Tri.seq (R := fun x s => x = .normal ∧ J n np ps rows B p4 N 1200 s) ?_ ?_ (fun x s hx hh => absurd hh.1 hx)
  · refine Tri.seq (R := fun x s => x = .normal ∧ J n np ps rows B p4 N 0 s) ?_ ?_ (fun x s hx hh => absurd hh.1 hx)
    · refine Tri.postE (Q := fun x s => x = .normal ∧ ∀ aa ww, At MS E s aa ww → ∃ s', At MS E s' aa ww ∧ J n np ps rows B p4 N 0 s') (Tri.allR (m := 15) (n := 110) (codeOK _) (init n 0 B p4 c 0 0 0 0 0 0 0 0 np N ps rows xs .nilp .nilp .nilp false false false none none none none none none js (.t []) hm.len hp4 hB ⟨hc.1, by omega⟩) (Tr.all_ok ⟨rfl, ht rfl, hd _ rfl, fun js => ⟨rfl, fun aa ww hat => ⟨SF n np 0 0 ps rows B p4 N xs c T0 s0 z0 js, at_tm (p' := pre n np 0 0) (by (repeat' apply And.intro) <;> first | rfl | trivial) hat, 0, 0, xs, T0, s0, z0, c, js, inv0 hB hm, near0 hB, hc.1, by omega, rfl⟩⟩⟩)) ?_
      rintro x s aa ww ⟨rfl, hh⟩ hat
      obtain ⟨s', h1, h2⟩ := hh aa ww hat
      exact ⟨s', h1, rfl, h2⟩
    · rintro s ⟨_, hJ⟩
      refine Tri.block (R := fun x s => x = .exit 0 ∧ J n np ps rows B p4 N 1200 s) ?_ (fun s hh => by
        rcases hh with hh | hh
        · cases hh.1
        · exact ⟨rfl, hh.2⟩) (fun x s _ hx hh => absurd hh.1 hx)
      refine Tri.loop (J := fun q s => ∃ i : Int, 0 ≤ i ∧ i ≤ 1200 ∧ J n np ps rows B p4 N i s ∧ q = (1200 - i).toNat) ?_ (k := (1200 - 0 : Int).toNat) ⟨0, by decide, by decide, hJ, rfl⟩
      rintro q s ⟨i, h0, h1, ⟨d, f, xs, T, s, z, c, js, hv, hn, hc0, hc1, rfl⟩, rfl⟩
      have hx := hv.mem.len
      refine Tri.seq (R := fun x st => (x = .normal ∧ i < 1200 ∧ ∃ js, st = SF n np f i ps rows B p4 N xs c T s z js) ∨ (x = .exit 0 ∧ ¬ i < 1200 ∧ ∃ js, st = SF n np f i ps rows B p4 N xs c T s z js))
        (Tri.allR (m := 15) (n := 110) (codeOK _) (g n f i B p4 c (T 0) (T 1) (T 2) (T 3) (T 4) (T 5) (T 6) (T 7) np N ps rows xs (vT 0 (s 0)) (vT 1 (s 1)) (vT 2 (s 2)) (z 0) (z 1) (z 2) (oT B p4 0 (s 0)) (oP 0 (s 0)) (oT B p4 1 (s 1)) (oP 1 (s 1)) (oT B p4 2 (s 2)) (oP 2 (s 2)) js hx hp4 hB ⟨hc0, by omega⟩)
          (Tr.all_ite (fun q1 => Tr.all_ok ⟨rfl, ht rfl, hd _ rfl, fun js => .inl ⟨rfl, of_decide_eq_true q1, js, rfl⟩⟩) fun q1 => Tr.all_ok ⟨rfl, ht rfl, hd _ rfl, fun js => .inr ⟨rfl, of_decide_eq_false q1, js, rfl⟩⟩)) ?_ ?_
      · rintro st (⟨_, hi, js, rfl⟩ | ⟨hh, _⟩)
        rotate_left
        · cases hh
        refine Tri.seq (R := fun x st => x = .normal ∧ ∃ d' f' xs' T' s' z' c' js, Inv B d' f' xs' T' s' z' ∧ Near B d' (i + 1) s' z' ∧ 0 ≤ c' ∧ c' ≤ 300 + (i + 1) ∧ st = SF n np f' i ps rows B p4 N xs' c' T' s' z' js)
          (Tri.block (oneRound n np ps hnp hf E hE hT hD hp4 hB ⟨h0, hi⟩ hv hn ⟨hc0, hc1⟩ js) (fun s hh => by
            rcases hh with hh | hh <;> exact ⟨rfl, hh.2⟩) (fun x s h1 h2 hh => by
            rcases hh.1 with hh | hh
            · exact absurd hh h2
            · exact absurd hh h1)) ?_ (fun x s hx hh => absurd hh.1 hx)
        rintro st ⟨_, d', f', xs', T', s', z', c', js, hv', hn', hc0', hc1', rfl⟩
        refine Tri.allR (m := 15) (n := 110) (codeOK _) (inc n f' i B p4 c' (T' 0) (T' 1) (T' 2) (T' 3) (T' 4) (T' 5) (T' 6) (T' 7) np N ps rows xs' (vT 0 (s' 0)) (vT 1 (s' 1)) (vT 2 (s' 2)) (z' 0) (z' 1) (z' 2) (oT B p4 0 (s' 0)) (oP 0 (s' 0)) (oT B p4 1 (s' 1)) (oP 1 (s' 1)) (oT B p4 2 (s' 2)) (oP 2 (s' 2)) js hv'.mem.len hp4 hB ⟨hc0', by omega⟩) (Tr.all_ok ⟨rfl, ht rfl, hd _ rfl, fun js => ?_⟩)
        refine ⟨(1200 - (i + 1)).toNat, by omega, i + 1, by omega, by omega, ⟨d', f', xs', T', s', z', c', js, hv', hn', hc0', hc1', ?_⟩, rfl⟩
        have e4 : W (i + 1) = i + 1 := W_of (by omega) (by omega)
        rw [← e4]; rfl
      · rintro x st hx (⟨hh, _⟩ | ⟨rfl, hi, js, rfl⟩)
        · exact absurd hh hx
        · have : i = 1200 := by omega
          subst this
          exact ⟨rfl, d, f, xs, T, s, z, c, js, hv, hn, hc0, hc1, rfl⟩
  · rintro s ⟨_, d, f, xs, T, s, z, c, js, hv, hn, hc0, hc1, rfl⟩
    obtain ⟨e0, e1, e2, e3⟩ := hn.fin hB hv
    exact Tri.allR (m := 15) (n := 110) (codeOK _) (fin n f 1200 B p4 c (T 0) (T 1) (T 2) (T 3) (T 4) (T 5) (T 6) (T 7) np N ps rows xs (vT 0 (s 0)) (vT 1 (s 1)) (vT 2 (s 2)) (z 0) (z 1) (z 2) (oT B p4 0 (s 0)) (oP 0 (s 0)) (oT B p4 1 (s 1)) (oP 1 (s 1)) (oT B p4 2 (s 2)) (oP 2 (s 2)) js hv.mem.len hp4 hB ⟨hc0, by omega⟩ e0 e1 e2 e3)
      (Tr.all_ok ⟨rfl, ht rfl, hd _ rfl, fun js => ⟨.inr rfl, _, (congrArg Tr.run (resX n np _ _ _ _ _ _ _ _ _ _ _ _ js)).trans rfl, by simp [IsTrue, tupleOf]; rfl⟩⟩)
end
theorem runs (hn : -9223372036854775808 ≤ n ∧ n ≤ 9223372036854775807) :
    Tri MS Try.prog E body ⟨[.v (ii n), .v (.an 0 (.sym np))] ++ List.replicate (nt - 2) .undef, [(0, some (.rotab [.int .i64] ps))], 1, []⟩ Q := by
  have hd : ∀ (l : List Nat), l.all (Nat.ble 1) = true → ∀ b, b ∈ l → E.D b := fun l hl b hb => hD b (Nat.le_of_ble_eq_true (List.all_eq_true.1 hl b hb))
  have ht : ∀ {k : Nat}, Nat.ble k 30 = true → k ≤ E.top := fun h => by rw [hT]; exact Nat.le_of_ble_eq_true h
  have hkn := kM_range (c := n) (n := 8) (by decide) hn
  rcases (show kM n 8 = 0 ∨ kM n 8 = 1 ∨ kM n 8 = 2 ∨ kM n 8 = 3 ∨ kM n 8 = 4 ∨ kM n 8 = 5 ∨ kM n 8 = 6 ∨ kM n 8 = 7 by omega) with hk | hk | hk | hk | hk | hk | hk | hk
  · refine Tri.listR (m := 15) (n := 110) (l := (Eng.spine 9 body).1) codeOK 9 rfl restE (start0 n np ps hk) (Tr.all_ok ⟨rfl, rfl, ht rfl, hd _ rfl, fun js => ?_⟩)
    refine Tri.preE fun aa ww hat => let ⟨js', hat'⟩ := settle0 (n := n) (np := np) (ps := ps) (B := 1) (p4 := 64) (c := 64) (N := 64) hE hT hat; ⟨_, hat', ?_⟩
    exact rest n np ps hnp hf E hE hT hD (B := 1) (by decide) (by decide) ⟨by decide, by decide, by decide, fun i h1 h2 => by rcases (show i = 0 by omega) with rfl <;> decide⟩ (by decide) js'
  · refine Tri.listR (m := 15) (n := 110) (l := (Eng.spine 9 body).1) codeOK 9 rfl restE (start1 n np ps hk) (Tr.all_ok ⟨rfl, rfl, ht rfl, hd _ rfl, fun js => ?_⟩)
    refine Tri.preE fun aa ww hat => let ⟨js', hat'⟩ := settle0 (n := n) (np := np) (ps := ps) (B := 2) (p4 := 96) (c := 96) (N := 96) hE hT hat; ⟨_, hat', ?_⟩
    exact rest n np ps hnp hf E hE hT hD (B := 2) (by decide) (by decide) ⟨by decide, by decide, by decide, fun i h1 h2 => by rcases (show i = 0 ∨ i = 1 by omega) with rfl | rfl <;> decide⟩ (by decide) js'
  · refine Tri.listR (m := 15) (n := 110) (l := (Eng.spine 9 body).1) codeOK 9 rfl restE (start2 n np ps hk) (Tr.all_ok ⟨rfl, rfl, ht rfl, hd _ rfl, fun js => ?_⟩)
    refine Tri.preE fun aa ww hat => let ⟨js', hat'⟩ := settle0 (n := n) (np := np) (ps := ps) (B := 3) (p4 := 128) (c := 128) (N := 128) hE hT hat; ⟨_, hat', ?_⟩
    exact rest n np ps hnp hf E hE hT hD (B := 3) (by decide) (by decide) ⟨by decide, by decide, by decide, fun i h1 h2 => by rcases (show i = 0 ∨ i = 1 ∨ i = 2 by omega) with rfl | rfl | rfl <;> decide⟩ (by decide) js'
  · refine Tri.listR (m := 15) (n := 110) (l := (Eng.spine 9 body).1) codeOK 9 rfl restE (start3 n np ps hk) (Tr.all_ok ⟨rfl, rfl, ht rfl, hd _ rfl, fun js => ?_⟩)
    refine Tri.preE fun aa ww hat => let ⟨js', hat'⟩ := settle0 (n := n) (np := np) (ps := ps) (B := 4) (p4 := 160) (c := 160) (N := 160) hE hT hat; ⟨_, hat', ?_⟩
    exact rest n np ps hnp hf E hE hT hD (B := 4) (by decide) (by decide) ⟨by decide, by decide, by decide, fun i h1 h2 => by rcases (show i = 0 ∨ i = 1 ∨ i = 2 ∨ i = 3 by omega) with rfl | rfl | rfl | rfl <;> decide⟩ (by decide) js'
  · refine Tri.listR (m := 15) (n := 110) (l := (Eng.spine 9 body).1) codeOK 9 rfl restE (start4 n np ps hk) (Tr.all_ok ⟨rfl, rfl, ht rfl, hd _ rfl, fun js => ?_⟩)
    refine Tri.preE fun aa ww hat => let ⟨js', hat'⟩ := settle0 (n := n) (np := np) (ps := ps) (B := 5) (p4 := 192) (c := 192) (N := 192) hE hT hat; ⟨_, hat', ?_⟩
    exact rest n np ps hnp hf E hE hT hD (B := 5) (by decide) (by decide) ⟨by decide, by decide, by decide, fun i h1 h2 => by rcases (show i = 0 ∨ i = 1 ∨ i = 2 ∨ i = 3 ∨ i = 4 by omega) with rfl | rfl | rfl | rfl | rfl <;> decide⟩ (by decide) js'
  · refine Tri.listR (m := 15) (n := 110) (l := (Eng.spine 9 body).1) codeOK 9 rfl restE (start5 n np ps hk) (Tr.all_ok ⟨rfl, rfl, ht rfl, hd _ rfl, fun js => ?_⟩)
    refine Tri.preE fun aa ww hat => let ⟨js', hat'⟩ := settle0 (n := n) (np := np) (ps := ps) (B := 6) (p4 := 224) (c := 224) (N := 224) hE hT hat; ⟨_, hat', ?_⟩
    exact rest n np ps hnp hf E hE hT hD (B := 6) (by decide) (by decide) ⟨by decide, by decide, by decide, fun i h1 h2 => by rcases (show i = 0 ∨ i = 1 ∨ i = 2 ∨ i = 3 ∨ i = 4 ∨ i = 5 by omega) with rfl | rfl | rfl | rfl | rfl | rfl <;> decide⟩ (by decide) js'
  · refine Tri.listR (m := 15) (n := 110) (l := (Eng.spine 9 body).1) codeOK 9 rfl restE (start6 n np ps hk) (Tr.all_ok ⟨rfl, rfl, ht rfl, hd _ rfl, fun js => ?_⟩)
    refine Tri.preE fun aa ww hat => let ⟨js', hat'⟩ := settle0 (n := n) (np := np) (ps := ps) (B := 7) (p4 := 256) (c := 256) (N := 256) hE hT hat; ⟨_, hat', ?_⟩
    exact rest n np ps hnp hf E hE hT hD (B := 7) (by decide) (by decide) ⟨by decide, by decide, by decide, fun i h1 h2 => by rcases (show i = 0 ∨ i = 1 ∨ i = 2 ∨ i = 3 ∨ i = 4 ∨ i = 5 ∨ i = 6 by omega) with rfl | rfl | rfl | rfl | rfl | rfl | rfl <;> decide⟩ (by decide) js'
  · refine Tri.listR (m := 15) (n := 110) (l := (Eng.spine 9 body).1) codeOK 9 rfl restE (start7 n np ps hk) (Tr.all_ok ⟨rfl, rfl, ht rfl, hd _ rfl, fun js => ?_⟩)
    refine Tri.preE fun aa ww hat => let ⟨js', hat'⟩ := settle0 (n := n) (np := np) (ps := ps) (B := 8) (p4 := 288) (c := 288) (N := 288) hE hT hat; ⟨_, hat', ?_⟩
    exact rest n np ps hnp hf E hE hT hD (B := 8) (by decide) (by decide) ⟨by decide, by decide, by decide, fun i h1 h2 => by rcases (show i = 0 ∨ i = 1 ∨ i = 2 ∨ i = 3 ∨ i = 4 ∨ i = 5 ∨ i = 6 ∨ i = 7 by omega) with rfl | rfl | rfl | rfl | rfl | rfl | rfl | rfl <;> decide⟩ (by decide) js'
end
abbrev ks : List CK := [.int .i64]
abbrev ts : List TypeId := [3, 22]
theorem hts : Try.f3.params.toList = ts := by kernel_rfl
theorem arg0 (n : Int) : (SV.s (mkS1 Try.prog 3 [.int .i64] [n])) = .v (ii n) := by kernel_rfl
theorem core (w : World) (vals : List Value) (ha : F2 (ArgOK Try.prog w) ts vals) :
    Calls Try.prog 3 vals.toArray w fun e W' => ∃ v, e = .returned v ∧ v = .bool true ∧ Below w.heap.size w W' := by
  obtain ⟨u, v, rfl⟩ : ∃ u v, vals = [u, v] := by
    match vals, ha with
    | [u, v], _ => exact ⟨u, v, rfl⟩
    | [], ha => exact ha.elim
    | [_], ha => exact ha.2.elim
    | _ :: _ :: _ :: _, ha => exact ha.2.2.elim
  obtain ⟨ns, cs, hcs, hr⟩ := arg_plain (ks := [.int .i64]) ha.1 (by kernel_rfl)
  obtain ⟨n0, rfl, hfit⟩ : ∃ n0, ns = [n0] ∧ CK.fits (.int .i64) n0 := by
    have := hcs.fits'
    match ns, this with
    | [n0], h => exact ⟨n0, rfl, h.1⟩
    | [], h => exact h.elim
    | _ :: _ :: _, h => exact h.2.elim
  obtain ⟨xs, p, hf, hlen, hall⟩ := arg_slice (e := 3) (ks := ks) ha.2.1 (by kernel_rfl) (by kernel_rfl) (by kernel_rfl) (by decide)
  let ρ0 : Rho := fun b => match b with | 0 => some p | _ + 1 => none
  have hρ : ∀ b, 1 ≤ b → ρ0 b = none := fun b hb => by
    match b, hb with
    | b + 1, _ => rfl
  have hr0 : RS ρ0 (.s (mkS1 Try.prog 3 [.int .i64] [n0])) u := hr ρ0
  rw [arg0] at hr0
  refine (calls_of_triA (S := MS) (vargs := [u, v]) (R := IsTrue) Try.func3 hb 1 30 (by omega) hρ (hp := [(0, some (.rotab ks xs))]) (fun b o ho => ?_) (runs n0 xs.length xs rfl hf _ rfl rfl (fun b hb => hb) hfit) ⟨hr0, (hall MS ρ0 0 rfl).1, trivial⟩).mono ?_
  · match b, ho with
    | 0, ho =>
      injection ho with ho
      subst ho
      exact (hall MS ρ0 0 rfl).2
    | b + 1, ho => cases ho
  · rintro e w' ⟨v, x, ρ, rfl, hv, hR, hbel⟩
    exact ⟨v, rfl, hR.value hv, hbel⟩
theorem own : ownKnob Try.prog.godebug = none := by kernel_rfl
theorem lifted {H : Type} (os : Os) (started : os.Started) (enc : TypeId × Value → H) : ReturnsInHanded {} Try.checked os 3 .any (Rows.carveOnceSpec.pre6 enc Try.prog Try.f3 Rows.carveOnceRow.domain false) (Rows.carveOnceSpec.post enc Try.prog Try.f3 false true false false) :=
  law_lifted own started (by kernel_rfl) (by kernel_rfl)
    (ChangeSpec.witness6 (enc := enc) (C := Try.checked) false ⟨#[], #[.int .i64 0, .slice none 0 0], []⟩ 8 (by kernel_rfl) (by kernel_rfl) (by kernel_rfl) (by kernel_rfl))
    (tb := 4) (by kernel_rfl) (by kernel_rfl) rfl
    (fun ds hd => by
      match ds, hd with
      | [_, _], _ => exact ⟨rfl, rfl, rfl⟩)
    (by kernel_rfl) (by kernel_rfl) (fun W vals ha => core W vals (hts ▸ ha))
theorem proved : Rows.CarveOnceSaid :=
  OpenClaim.holds_of_wide 3 Try.f3 rfl rfl rfl rfl rfl rfl rfl ⟨rfl, rfl, rfl, rfl, rfl⟩ rfl rfl rfl rfl rfl (by kernel_rfl) Try.func3 (by kernel_rfl) (of_decide_eq_true (by kernel_rfl))
    (by unfold Func.isWrapper; first | (rw [if_pos (by decide +kernel)]; kernel_rfl) | (rw [if_neg (by decide +kernel)]; exact ⟨rfl, rfl⟩))
    (fun os started H enc _ => lifted os started enc)
end Go.Proofs.Ytmegnipdeanghaa.CarveOnce
