/-
  MemChanges: a memory of eight words and an array of eight words go on alike, whatever calls are done: what is kept from call to call is that both hold the same words.
-/
import Derived.Test.YtnlfphlmlklofaaRows
import Derived.Test.YtnlfphlmlklofaaTMemChanges
namespace Go.Proofs.Ytnlfphlmlklofaa.MemChanges
open Go Go.RowKit Go.Proofs.Ytnlfphlmlklofaa.Eng
set_option linter.unusedVariables false
set_option linter.unusedSimpArgs false
set_option maxRecDepth 20000
theorem codeOK (c : Code) : CodeOK MS Try.prog c (ev c) :=
  evCode_sound progOK (fun f args hp nid r h _ => evF_sound progOK (lookH_ok L4.tabL_ok) 100 19 f args hp nid r h) 100 c
theorem hb : Try.f3.body = some body := by kernel_rfl
theorem rest : (Eng.spine 5 body).2 = .seq (.seq (codeAt body [true, true, true, true, true, false, false]) (.block 0 (.loop (.seq (at' [false]) (.seq (.block 1 (.seq (at' [true, false, false, false]) (.seq (at' [true, false, false, true, false]) (.seq (at' [true, false, false, true, true, false]) (at' [true, false, false, true, true, true]))))) (at' [true, true])))))) (codeAt body [true, true, true, true, true, true]) := by kernel_rfl
theorem J0 (n : Nat) (xs : List (List Int)) (hn : n = xs.length) (E : Ctx MObj) (hE : E.nid0 = 1) (hT : E.top = 10) (hD : ∀ b, 1 ≤ b → E.D b) {x1 x5 : SV} {i c t w0 w1 w2 w3 w4 w5 w6 w7 o0 o1 o2 o3 o4 o5 : Int} {js : Nat → SV} {j : Int} (hj : 0 ≤ j ∧ j < 8)
    (hc : 0 ≤ c ∧ c ≤ 1000000) (hi : 0 ≤ i) (hk : 0 ≤ kM o0 8 ∧ kM o0 8 < 8) :
    Tri MS Try.prog E (at' [true, false, false, true, true, false]) ⟨pre n x1 x5 false i ++ [.v (.ptr 3 0), .v (.int .i64 (.lit j))] ++ junk js 127 10, hp1 xs (ws w0 w1 w2 w3 w4 w5 w6 w7) c t ++ row o0 o1 o2 o3 o4 o5, 4, []⟩
      fun x s => x = .normal ∧ ∃ v0 v1 v2 v3 v4 v5 v6 v7 c' js, s = ⟨pre n x1 x5 false i ++ junk js 129 8, hp1 xs (ws v0 v1 v2 v3 v4 v5 v6 v7) c' t ++ row o0 o1 o2 o3 o4 o5, 4, []⟩ ∧ c ≤ c' ∧ c' ≤ c + 1 := by
  have hd : ∀ (l : List Nat), l.all (Nat.ble 1) = true → ∀ b, b ∈ l → E.D b := fun l hl b hb => hD b (Nat.le_of_ble_eq_true (List.all_eq_true.1 hl b hb))
  have key : ∀ {T : Tr (Lf MObj)}, ((ev (at' [true, false, false, true, true, false]) ⟨pre n x1 x5 false i ++ [.v (.ptr 3 0), .v (.int .i64 (.lit j))] ++ junk js 127 10, hp1 xs (ws w0 w1 w2 w3 w4 w5 w6 w7) c t ++ row o0 o1 o2 o3 o4 o5, 4, []⟩).vmap (leaf 8)).run = T.run →
      T.All (fun l => l.x = .normal ∧ l.len = 8 + 129 ∧ l.nid = 4 ∧ (∀ b, b ∈ l.dirty → E.D b) ∧ l.pre = pre n x1 x5 false i ∧ ∃ v0 v1 v2 v3 v4 v5 v6 v7 c', l.hp = hp1 xs (ws v0 v1 v2 v3 v4 v5 v6 v7) c' t ++ row o0 o1 o2 o3 o4 o5 ∧ c ≤ c' ∧ c' ≤ c + 1) → _ := fun {T} h hA =>
    Tri.allR (m := 8) (n := 129) (S := MS) (P := Try.prog) (E := E) (codeOK _) (Q := fun x s => x = .normal ∧ ∃ v0 v1 v2 v3 v4 v5 v6 v7 c' js, s = ⟨pre n x1 x5 false i ++ junk js 129 8, hp1 xs (ws v0 v1 v2 v3 v4 v5 v6 v7) c' t ++ row o0 o1 o2 o3 o4 o5, 4, []⟩ ∧ c ≤ c' ∧ c' ≤ c + 1) h (by
      obtain ⟨l, h0, h1, h2, h3, h4, h5, v0, v1, v2, v3, v4, v5, v6, v7, c', h6, h7⟩ := Tr.all_iff.1 hA
      refine Tr.all_iff.2 ⟨l, h0, h2, by omega, h4, fun js => ⟨h1, v0, v1, v2, v3, v4, v5, v6, v7, c', js, ?_, h7⟩⟩
      rw [h5, h6, h3])
  rcases (show j = 0 ∨ j = 1 ∨ j = 2 ∨ j = 3 ∨ j = 4 ∨ j = 5 ∨ j = 6 ∨ j = 7 by omega) with rfl | rfl | rfl | rfl | rfl | rfl | rfl | rfl
  · refine key (op0 n xs x1 x5 i c t w0 w1 w2 w3 w4 w5 w6 w7 js o0 o1 o2 o3 o4 o5 hc hi hn hk) ?_
    repeat' (first | exact Tr.all_ok ⟨rfl, rfl, rfl, hd _ rfl, rfl, _, _, _, _, _, _, _, _, _, rfl, by omega, by omega⟩ | refine Tr.all_ite (fun _ => ?_) (fun _ => ?_))
  · refine key (op1 n xs x1 x5 i c t w0 w1 w2 w3 w4 w5 w6 w7 js o0 o1 o2 o3 o4 o5 hc hi hn hk) ?_
    repeat' (first | exact Tr.all_ok ⟨rfl, rfl, rfl, hd _ rfl, rfl, _, _, _, _, _, _, _, _, _, rfl, by omega, by omega⟩ | refine Tr.all_ite (fun _ => ?_) (fun _ => ?_))
  · refine key (op2 n xs x1 x5 i c t w0 w1 w2 w3 w4 w5 w6 w7 js o0 o1 o2 o3 o4 o5 hc hi hn hk) ?_
    repeat' (first | exact Tr.all_ok ⟨rfl, rfl, rfl, hd _ rfl, rfl, _, _, _, _, _, _, _, _, _, rfl, by omega, by omega⟩ | refine Tr.all_ite (fun _ => ?_) (fun _ => ?_))
  · refine key (op3 n xs x1 x5 i c t w0 w1 w2 w3 w4 w5 w6 w7 js o0 o1 o2 o3 o4 o5 hc hi hn hk) ?_
    repeat' (first | exact Tr.all_ok ⟨rfl, rfl, rfl, hd _ rfl, rfl, _, _, _, _, _, _, _, _, _, rfl, by omega, by omega⟩ | refine Tr.all_ite (fun _ => ?_) (fun _ => ?_))
  · refine key (op4 n xs x1 x5 i c t w0 w1 w2 w3 w4 w5 w6 w7 js o0 o1 o2 o3 o4 o5 hc hi hn hk) ?_
    repeat' (first | exact Tr.all_ok ⟨rfl, rfl, rfl, hd _ rfl, rfl, _, _, _, _, _, _, _, _, _, rfl, by omega, by omega⟩ | refine Tr.all_ite (fun _ => ?_) (fun _ => ?_))
  · refine key (op5 n xs x1 x5 i c t w0 w1 w2 w3 w4 w5 w6 w7 js o0 o1 o2 o3 o4 o5 hc hi hn hk) ?_
    repeat' (first | exact Tr.all_ok ⟨rfl, rfl, rfl, hd _ rfl, rfl, _, _, _, _, _, _, _, _, _, rfl, by omega, by omega⟩ | refine Tr.all_ite (fun _ => ?_) (fun _ => ?_))
  · refine key (op6 n xs x1 x5 i c t w0 w1 w2 w3 w4 w5 w6 w7 js o0 o1 o2 o3 o4 o5 hc hi hn hk) ?_
    repeat' (first | exact Tr.all_ok ⟨rfl, rfl, rfl, hd _ rfl, rfl, _, _, _, _, _, _, _, _, _, rfl, by omega, by omega⟩ | refine Tr.all_ite (fun _ => ?_) (fun _ => ?_))
  · refine key (op7 n xs x1 x5 i c t w0 w1 w2 w3 w4 w5 w6 w7 js o0 o1 o2 o3 o4 o5 hc hi hn hk) ?_
    repeat' (first | exact Tr.all_ok ⟨rfl, rfl, rfl, hd _ rfl, rfl, _, _, _, _, _, _, _, _, _, rfl, by omega, by omega⟩ | refine Tr.all_ite (fun _ => ?_) (fun _ => ?_))

abbrev X1 : SV := .t []
abbrev X5 : SV := .v (.int .i64 (.lit 0))
section
variable (n : Nat) (xs : List (List Int)) (hn : n = xs.length) (hf : RFits ks xs) (E : Ctx MObj) (hE : E.nid0 = 1) (hT : E.top = 10) (hD : ∀ b, 1 ≤ b → E.D b)
include hn hf hE hT hD
/-- A round of the loop. -/
theorem round {i c w0 w1 w2 w3 w4 w5 w6 w7 : Int} {js : Nat → SV} (hc : 0 ≤ c ∧ c ≤ 9 * i) (hi : 0 ≤ i ∧ i ≤ 80) :
    Tri MS Try.prog E (.seq (at' [false]) (.seq (.block 1 (.seq (at' [true, false, false, false]) (.seq (at' [true, false, false, true, false]) (.seq (at' [true, false, false, true, true, false]) (at' [true, false, false, true, true, true]))))) (at' [true, true])))
      ⟨pre n X1 X5 false i ++ junk js 129 8, hp1 xs (ws w0 w1 w2 w3 w4 w5 w6 w7) c 0, 3, []⟩
      fun x s => ∃ i' v0 v1 v2 v3 v4 v5 v6 v7 c' js, s = ⟨pre n X1 X5 false i' ++ junk js 129 8, hp1 xs (ws v0 v1 v2 v3 v4 v5 v6 v7) c' 0, 3, []⟩ ∧ ((x = .normal ∧ i' = i + 1 ∧ i' ≤ 80 ∧ 0 ≤ c' ∧ c' ≤ 9 * i') ∨ (x = .exit 0)) := by
  have hd : ∀ (l : List Nat), l.all (Nat.ble 1) = true → ∀ b, b ∈ l → E.D b := fun l hl b hb => hD b (Nat.le_of_ble_eq_true (List.all_eq_true.1 hl b hb))
  have hc1 : 0 ≤ c ∧ c ≤ 1000000 := by omega
  have ht : ∀ {k : Nat}, Nat.ble k 10 = true → k ≤ E.top := fun h => by rw [hT]; exact Nat.le_of_ble_eq_true h
  refine Tri.seq (R := fun x s => ∃ js, s = ⟨pre n X1 X5 false i ++ junk js 129 8, hp1 xs (ws w0 w1 w2 w3 w4 w5 w6 w7) c 0, 3, []⟩ ∧ ((x = .normal ∧ i < n ∧ i < 80) ∨ x = .exit 0)) ?_ ?_ ?_
  · refine Tri.allR (m := 8) (n := 129) (codeOK _) (round0 n xs X1 X5 i c 0 w0 w1 w2 w3 w4 w5 w6 w7 js hc1 hi.1 hn) (Tr.all_ite (fun h1 => Tr.all_ite (fun h2 => Tr.all_ok ⟨rfl, ht rfl, hd _ rfl, fun js => ⟨js, rfl, .inl ⟨rfl, of_decide_eq_true h1, of_decide_eq_true h2⟩⟩⟩) fun _ => Tr.all_ok ⟨rfl, ht rfl, hd _ rfl, fun js => ⟨js, rfl, .inr rfl⟩⟩) fun _ => Tr.all_ok ⟨rfl, ht rfl, hd _ rfl, fun js => ⟨js, rfl, .inr rfl⟩⟩)
  · rintro s ⟨js, rfl, h | h⟩
    rotate_left
    · cases h
    obtain ⟨_, hin, hi80⟩ := h
    have hix : i.toNat < xs.length := by omega
    have fits := fun (j : Nat) (k : CK) (hk : ks[j]? = some k) => tab_fits hf hix hk
    have k0 := kM_range (c := tabAt xs i.toNat 0) (n := 8) (by decide) (fits 0 _ rfl)
    have k1 := kM_range (c := tabAt xs i.toNat 1) (n := 8) (by decide) (fits 1 _ rfl)
    refine Tri.seq (R := fun x s => x = .normal ∧ ∃ v0 v1 v2 v3 v4 v5 v6 v7 c' js o0 o1 o2 o3 o4 o5, s = ⟨pre n X1 X5 false i ++ junk js 129 8, hp1 xs (ws v0 v1 v2 v3 v4 v5 v6 v7) c' 0 ++ row o0 o1 o2 o3 o4 o5, 4, []⟩ ∧ 0 ≤ c' ∧ c' ≤ c + 9) ?_ ?_ (fun x s hx hh => absurd hh.1 hx)
    · refine Tri.block (R := fun x s => x = .normal ∧ ∃ v0 v1 v2 v3 v4 v5 v6 v7 c' js o0 o1 o2 o3 o4 o5, s = ⟨pre n X1 X5 false i ++ junk js 129 8, hp1 xs (ws v0 v1 v2 v3 v4 v5 v6 v7) c' 0 ++ row o0 o1 o2 o3 o4 o5, 4, []⟩ ∧ 0 ≤ c' ∧ c' ≤ c + 9) ?_ (fun s hh => by
        rcases hh with hh | hh
        · exact hh
        · cases hh.1) (fun x s hx _ hh => absurd hh.1 hx)
      have key : ∀ (j : Int), 0 ≤ j ∧ j < 8 → ∀ js, Tri MS Try.prog E (.seq (at' [true, false, false, true, true, false]) (at' [true, false, false, true, true, true]))
          ⟨pre n X1 X5 false i ++ [.v (.ptr 3 0), .v (.int .i64 (.lit j))] ++ junk js 127 10, hp1 xs (ws w0 w1 w2 w3 w4 w5 w6 w7) c 0 ++ row (tabAt xs i.toNat 0) (tabAt xs i.toNat 1) (tabAt xs i.toNat 2) (tabAt xs i.toNat 3) (tabAt xs i.toNat 4) (tabAt xs i.toNat 5), 4, []⟩
          fun x s => x = .normal ∧ ∃ v0 v1 v2 v3 v4 v5 v6 v7 c' js o0 o1 o2 o3 o4 o5, s = ⟨pre n X1 X5 false i ++ junk js 129 8, hp1 xs (ws v0 v1 v2 v3 v4 v5 v6 v7) c' 0 ++ row o0 o1 o2 o3 o4 o5, 4, []⟩ ∧ 0 ≤ c' ∧ c' ≤ c + 9 := by
        intro j hj js
        refine Tri.seq (J0 n xs hn E hE hT hD (c := c) (o0 := tabAt xs i.toNat 0) hj hc1 hi.1 k0) ?_ (fun x s hx hh => absurd hh.1 hx)
        rintro s ⟨_, v0, v1, v2, v3, v4, v5, v6, v7, c', js, rfl, h3, h4⟩
        exact Tri.allR (m := 8) (n := 129) (codeOK _) (look n xs X1 X5 i c' 0 v0 v1 v2 v3 v4 v5 v6 v7 js _ _ _ _ _ _ (by omega) hi.1 hn) (Tr.all_ok ⟨rfl, ht rfl, hd _ rfl, fun js => ⟨rfl, v0, v1, v2, v3, v4, v5, v6, v7, _, js, _, _, _, _, _, _, rfl, by omega, by omega⟩⟩)
      refine Tri.listR (m := 10) (n := 127) (l := [at' [true, false, false, false], at' [true, false, false, true, false]]) (c' := .seq (at' [true, false, false, true, true, false]) (at' [true, false, false, true, true, true])) codeOK 2 rfl rfl (round1 n xs X1 X5 i c 0 w0 w1 w2 w3 w4 w5 w6 w7 js hc1 hi.1 hn k1 hin) ?_
      repeat' (first | exact Tr.all_ok ⟨rfl, rfl, ht rfl, hd _ rfl, fun js => key _ (by decide) js⟩ | refine Tr.all_ite (fun _ => ?_) (fun _ => ?_))
    · rintro s ⟨_, v0, v1, v2, v3, v4, v5, v6, v7, c', js, o0, o1, o2, o3, o4, o5, rfl, h3, h4⟩
      refine Tri.postRen (Q := fun x s => x = .normal ∧ ∃ js, s = ⟨pre n X1 X5 false (W (i + 1)) ++ junk js 129 8, hp1 xs (ws v0 v1 v2 v3 v4 v5 v6 v7) c' 0 ++ row o0 o1 o2 o3 o4 o5, 4, []⟩) ?_ ?_
      · exact Tri.allR (m := 8) (n := 129) (codeOK _) (step n xs X1 X5 i c' 0 v0 v1 v2 v3 v4 v5 v6 v7 js o0 o1 o2 o3 o4 o5 (by omega) hi.1 hn) (Tr.all_ok ⟨rfl, ht rfl, hd _ rfl, fun js => ⟨rfl, js, rfl⟩⟩)
      · rintro x s ⟨rfl, js, rfl⟩
        have e4 : W (i + 1) = i + 1 := wrap_i64_of (by omega) (by omega)
        refine ⟨[(0, 0), (1, 1), (2, 2)], pre n X1 X5 false (W (i + 1)), pre n X1 X5 false (W (i + 1)), hp1 xs (ws v0 v1 v2 v3 v4 v5 v6 v7) c' 0, 3, 8, 129, rfl, by simp [length_junk], rfl, rfl, by rw [hE]; rfl, by omega, by omega, fun js => ⟨W (i + 1), v0, v1, v2, v3, v4, v5, v6, v7, c', js, rfl, .inl ⟨rfl, by omega, by omega, by omega, by omega⟩⟩⟩
  · rintro x s hx ⟨js, rfl, h | h⟩
    · exact absurd h.1 hx
    · exact ⟨i, w0, w1, w2, w3, w4, w5, w6, w7, c, js, rfl, .inr h⟩
end
theorem res (n : Nat) (xs : List (List Int)) (r : Bool) (i c t w0 w1 w2 w3 w4 w5 w6 w7 : Int) (js : Nat → SV) : vresults Try.prog (⟨[.v (.an 0 (.sym n)), X1, .v (.bool (.sym r)), .v (.bool (.lit true)), .v (.ptr 1 0), X5, .v (.ptr 2 0), .v (ii i)] ++ junk js 129 8, hp1 xs (ws w0 w1 w2 w3 w4 w5 w6 w7) c t, 3, []⟩ : St MObj) Try.f3.results.toList = .ok [.one (.bool (.sym r))] := by kernel_rfl
theorem runs (n : Nat) (xs : List (List Int)) (hn : n = xs.length) (hf : RFits ks xs) (E : Ctx MObj) (hE : E.nid0 = 1) (hT : E.top = 10) (hD : ∀ b, 1 ≤ b → E.D b) :
    Tri MS Try.prog E body ⟨[.v (.an 0 (.sym n))] ++ List.replicate (Try.f3.ntmps - 1) .undef, [(0, some (.rotab ks xs))], 1, []⟩
      fun x st => (x = .normal ∨ x = .ret) ∧ ∃ l, (vresults Try.prog st Try.f3.results.toList).run = some l ∧ IsTrue (tupleOf l) := by
  have hd : ∀ (l : List Nat), l.all (Nat.ble 1) = true → ∀ b, b ∈ l → E.D b := fun l hl b hb => hD b (Nat.le_of_ble_eq_true (List.all_eq_true.1 hl b hb))
  have ht : ∀ {k : Nat}, Nat.ble k 10 = true → k ≤ E.top := fun h => by rw [hT]; exact Nat.le_of_ble_eq_true h
  refine Tri.listR (m := 8) (n := 129) (l := (Eng.spine 5 body).1) codeOK 5 rfl rest (start n xs (Nat.zero_le n)) (Tr.all_ok ⟨rfl, rfl, ht rfl, hd _ rfl, fun js => ?_⟩)
  refine Tri.seq (R := fun x s => x = .normal ∧ ∃ i w0 w1 w2 w3 w4 w5 w6 w7 c js, s = ⟨pre n X1 X5 false i ++ junk js 129 8, hp1 xs (ws w0 w1 w2 w3 w4 w5 w6 w7) c 0, 3, []⟩) ?_ ?_ (fun x s hx hh => absurd hh.1 hx)
  · refine Tri.seq (R := fun x s => x = .normal ∧ ∃ js, s = ⟨(init_l0 n xs).pre ++ junk js 129 8, (init_l0 n xs).hp, 3, []⟩) ?_ ?_ (fun x s hx hh => absurd hh.1 hx)
    · exact Tri.allR (m := 8) (n := 129) (codeOK _) (init n xs js (Nat.zero_le n)) (Tr.all_ok ⟨rfl, ht rfl, hd _ rfl, fun js => ⟨rfl, js, rfl⟩⟩)
    · rintro s ⟨_, js, rfl⟩
      refine Tri.preWk (pre' := pre n X1 X5 false 0) (hp' := hp1 xs (ws 0 0 0 0 0 0 0 0) 0 0) (by (repeat' apply And.intro) <;> first | rfl | trivial) (by (repeat' apply And.intro) <;> first | rfl | trivial) ?_
      refine Tri.block (R := fun x s => x = .exit 0 ∧ ∃ i w0 w1 w2 w3 w4 w5 w6 w7 c js, s = ⟨pre n X1 X5 false i ++ junk js 129 8, hp1 xs (ws w0 w1 w2 w3 w4 w5 w6 w7) c 0, 3, []⟩) ?_ (fun s hh => by
        rcases hh with hh | hh
        · cases hh.1
        · exact ⟨rfl, hh.2⟩) (fun x s _ hx hh => absurd hh.1 hx)
      refine Tri.loop (J := fun k s => ∃ i w0 w1 w2 w3 w4 w5 w6 w7 c js, s = ⟨pre n X1 X5 false i ++ junk js 129 8, hp1 xs (ws w0 w1 w2 w3 w4 w5 w6 w7) c 0, 3, []⟩ ∧ (0 ≤ i ∧ i ≤ 80) ∧ (0 ≤ c ∧ c ≤ 9 * i) ∧ k = (80 - i).toNat) ?_ (k := (80 - 0 : Int).toNat) ⟨0, 0, 0, 0, 0, 0, 0, 0, 0, 0, js, rfl, by omega, by omega, rfl⟩
      rintro k s ⟨i, w0, w1, w2, w3, w4, w5, w6, w7, c, js, rfl, hi, hc, hk⟩
      refine (round n xs hn hf E hE hT hD hc hi).mono ?_
      rintro x s ⟨i', v0, v1, v2, v3, v4, v5, v6, v7, c', js, rfl, ⟨rfl, h1, h2, h3, h4⟩ | rfl⟩
      · exact ⟨(80 - i').toNat, by omega, i', v0, v1, v2, v3, v4, v5, v6, v7, c', js, rfl, by omega, by omega, rfl⟩
      · exact ⟨rfl, i', v0, v1, v2, v3, v4, v5, v6, v7, c', js, rfl⟩
  · rintro s ⟨_, i, w0, w1, w2, w3, w4, w5, w6, w7, c, js, rfl⟩
    refine Tri.allR (m := 8) (n := 129) (codeOK _) (fin n xs X1 X5 i c 0 w0 w1 w2 w3 w4 w5 w6 w7 js (Nat.zero_le n)) (Tr.all_ok ⟨rfl, ht rfl, hd _ rfl, fun js => ⟨.inr rfl, _, (congrArg Tr.run (res n xs _ i c 0 w0 w1 w2 w3 w4 w5 w6 w7 js)).trans rfl, rfl⟩⟩)
abbrev ts : List TypeId := [22]
theorem hts : Try.f3.params.toList = ts := by kernel_rfl
theorem core (w : World) (vals : List Value) (ha : F2 (ArgOK Try.prog w) ts vals) :
    Calls Try.prog 3 vals.toArray w fun e W' => ∃ v, e = .returned v ∧ v = .bool true ∧ Below w.heap.size w W' := by
  obtain ⟨v, rfl⟩ : ∃ v, vals = [v] := by
    match vals, ha with
    | [v], _ => exact ⟨v, rfl⟩
    | [], ha => exact ha.elim
    | _ :: _ :: _, ha => exact ha.2.elim
  obtain ⟨xs, p, hf, hlen, hall⟩ := arg_slice (e := 31) (ks := ks) ha.1 (by kernel_rfl) (by kernel_rfl) (by kernel_rfl) (by decide)
  let ρ0 : Rho := fun b => match b with | 0 => some p | _ + 1 => none
  have hρ : ∀ b, 1 ≤ b → ρ0 b = none := fun b hb => by
    match b, hb with
    | b + 1, _ => rfl
  refine (calls_of_triA (S := MS) (vargs := [v]) (R := IsTrue) Try.func3 hb 1 10 (by omega) hρ (hp := [(0, some (.rotab ks xs))]) (fun b o ho => ?_) (runs xs.length xs rfl hf _ rfl rfl (fun b hb => hb)) ⟨(hall MS ρ0 0 rfl).1, trivial⟩).mono ?_
  · match b, ho with
    | 0, ho =>
      injection ho with ho
      subst ho
      exact (hall MS ρ0 0 rfl).2
    | b + 1, ho => cases ho
  · rintro e w' ⟨v, x, ρ, rfl, hv, hR, hbel⟩
    exact ⟨v, rfl, hR.value hv, hbel⟩
theorem own : ownKnob Try.prog.godebug = none := by kernel_rfl
theorem lifted {H : Type} (os : Os) (started : os.Started) (enc : TypeId × Value → H) : ReturnsInHanded {} Try.checked os 3 .any (Rows.memChangesSpec.pre6 enc Try.prog Try.f3 Rows.memChangesRow.domain false) (Rows.memChangesSpec.post enc Try.prog Try.f3 false true false false) :=
  law_lifted own started (by kernel_rfl) (by kernel_rfl)
    (ChangeSpec.witness6 (enc := enc) (C := Try.checked) false ⟨#[], #[.slice none 0 0], []⟩ 8 (by kernel_rfl) (by kernel_rfl) (by kernel_rfl) (by kernel_rfl))
    (tb := 4) (by kernel_rfl) (by kernel_rfl) rfl
    (fun ds hd => by
      match ds, hd with
      | [_], _ => exact ⟨rfl, rfl, rfl⟩)
    (by kernel_rfl) (by kernel_rfl) (fun W vals ha => core W vals (hts ▸ ha))
theorem proved : Rows.MemChangesSaid :=
  OpenClaim.holds_of_wide 3 Try.f3 rfl rfl rfl rfl rfl rfl rfl ⟨rfl, rfl, rfl, rfl, rfl⟩ rfl rfl rfl rfl rfl (by kernel_rfl) Try.func3 (by kernel_rfl) (of_decide_eq_true (by kernel_rfl))
    (by unfold Func.isWrapper; first | (rw [if_pos (by decide +kernel)]; kernel_rfl) | (rw [if_neg (by decide +kernel)]; exact ⟨rfl, rfl⟩))
    (fun os started H enc _ => lifted os started enc)
end Go.Proofs.Ytnlfphlmlklofaa.MemChanges
