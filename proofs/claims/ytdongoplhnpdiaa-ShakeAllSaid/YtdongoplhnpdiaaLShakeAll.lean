/-
  ShakeAll: a handshake is done just when each thread has acknowledged it, and each Poll that begins behind its first step acknowledges it. Of any mode, any picks.
-/
import Derived.Test.YtdongoplhnpdiaaRows
import Derived.Test.YtdongoplhnpdiaaLShakeAll0
import Derived.Test.YtdongoplhnpdiaaEngZj
namespace Go.Proofs.Ytdongoplhnpdiaa.ShakeAll
open Go Go.RowKit Go.Proofs.Ytdongoplhnpdiaa.Eng
set_option linter.unusedVariables false
set_option linter.unusedSimpArgs false
set_option linter.unusedSectionVars false
set_option maxRecDepth 20000
section
variable {n i c md t : Int} {np N M : Nat} {ps rows ls : List (List Int)} {xs : List Int} {s : Nat → PK} (E : Ctx MObj) (hE : E.nid0 = 1) (hT : E.top = 70) (hD : ∀ b, 1 ≤ b → E.D b) (hmd : 0 ≤ md ∧ md < 9) (hc : 0 ≤ c ∧ c ≤ 100000) (h : Inv md xs s t)
include hE hT hD hmd hc h
theorem round3 (js : Nat → SV) : Tri MS Try.prog E (qt [true, true]) ⟨pre n np i ++ [.v (.int .i64 (.lit 3))] ++ junk js 134 16, base ps rows ls N M xs c md t (own md (s 0) (s 1) (s 2)) (vP 0 (s 0)) (vP 1 (s 1)) (vP 2 (s 2)) ++ [(10, oP 0 md (s 0)), (11, oP 1 md (s 1)), (12, oP 2 md (s 2))], 13, []⟩ (Post n np i ps rows ls N M c md t s 3) := by
  have hd : ∀ (l : List Nat), l.all (Nat.ble 1) = true → ∀ b, b ∈ l → E.D b := fun l hl b hb => hD b (Nat.le_of_ble_eq_true (List.all_eq_true.1 hl b hb))
  have ht : ∀ {k : Nat}, Nat.ble k 70 = true → k ≤ E.top := fun h => by rw [hT]; exact Nat.le_of_ble_eq_true h
  have hx := h.len
  have h0 := h.ht
  refine Tri.postE (Q := fun x st => x = .exit 1 ∧ ∀ aa ww, At MS E st aa ww → ∃ st', At MS E st' aa ww ∧ ∃ xs' s' t', Inv md xs' s' t' ∧ Rel 3 s t s' t' ∧ ∃ c' js, c ≤ c' ∧ c' ≤ c + 1 ∧ st' = SF n np i ps rows ls N M xs' c' md t' s' js) ?_ fun x st aa ww hh hat => let ⟨st', h1, h2⟩ := hh.2 aa ww hat; ⟨st', h1, .inl hh.1, h2⟩
  refine Tri.seq (c := qt [true, true, false]) (d := qt [true, true, true]) (R := fun x st => x = .exit 1 ∧ ∀ aa ww, At MS E st aa ww → ∃ st', At MS E st' aa ww ∧ ∃ xs' s' t', Inv md xs' s' t' ∧ Rel 3 s t s' t' ∧ ∃ c' js, c ≤ c' ∧ c' ≤ c + 1 ∧ st' = SF n np i ps rows ls N M xs' c' md t' s' js) ?_ (fun s hh => by cases hh.1) (fun x st _ hh => hh)
  rcases (show t = 0 ∨ t = 1 ∨ t = 2 ∨ t = 3 by omega) with rfl | rfl | rfl | rfl
  · cases hw : (List.getD xs 10 0 == 5) with
    | true =>
      have g : Inv md xs s 1 ∧ Rel 3 s 0 s 1 := h.more (by decide) (by simpa using hw)
      exact Tri.allR (m := 15) (n := 135) (codeOK _) (cy0 n i c md np N M ps rows ls xs (oI md (s 0) 0) (oI md (s 0) 1) (oI md (s 0) 2) (oI md (s 0) 3) (oI md (s 1) 0) (oI md (s 1) 1) (oI md (s 1) 2) (oI md (s 1) 3) (oI md (s 2) 0) (oI md (s 2) 1) (oI md (s 2) 2) (oI md (s 2) 3) (vP 0 (s 0)) (vP 1 (s 1)) (vP 2 (s 2)) (oP 0 md (s 0)) (oP 1 md (s 1)) (oP 2 md (s 2)) js hx hc hmd hw) (Tr.all_ok ⟨rfl, ht rfl, hd _ rfl, fun js => ⟨rfl, fun aa ww hat => let ⟨js', h'⟩ := settle (xs := xs) (c := c + 1) (t := 1) (ow := own md (s 0) (s 1) (s 2)) (how := fun r => own_keep r md (s 0) (s 1) (s 2)) (i := i) (n := n) (np := np) (s0 := s 0) (s1 := s 1) (s2 := s 2) (d := []) hE hT hat; ⟨_, h', xs, s, 1, g.1, g.2, c + 1, js', by omega, by omega, rfl⟩⟩⟩)
    | false =>
      have g : Inv md xs s 0 ∧ Rel 3 s 0 s 0 := ⟨h, h.wait (by decide) (by simpa using hw)⟩
      exact Tri.allR (m := 15) (n := 135) (codeOK _) (cn0 n i c md np N M ps rows ls xs (oI md (s 0) 0) (oI md (s 0) 1) (oI md (s 0) 2) (oI md (s 0) 3) (oI md (s 1) 0) (oI md (s 1) 1) (oI md (s 1) 2) (oI md (s 1) 3) (oI md (s 2) 0) (oI md (s 2) 1) (oI md (s 2) 2) (oI md (s 2) 3) (vP 0 (s 0)) (vP 1 (s 1)) (vP 2 (s 2)) (oP 0 md (s 0)) (oP 1 md (s 1)) (oP 2 md (s 2)) js hx hc hmd hw) (Tr.all_ok ⟨rfl, ht rfl, hd _ rfl, fun js => ⟨rfl, fun aa ww hat => let ⟨js', h'⟩ := settle (xs := xs) (c := c + 1) (t := 0) (ow := own md (s 0) (s 1) (s 2)) (how := fun r => own_keep r md (s 0) (s 1) (s 2)) (i := i) (n := n) (np := np) (s0 := s 0) (s1 := s 1) (s2 := s 2) (d := []) hE hT hat; ⟨_, h', xs, s, 0, g.1, g.2, c + 1, js', by omega, by omega, rfl⟩⟩⟩)
  · cases hw : (List.getD xs 11 0 == 5) with
    | true =>
      have g : Inv md xs s 2 ∧ Rel 3 s 1 s 2 := h.more (by decide) (by simpa using hw)
      exact Tri.allR (m := 15) (n := 135) (codeOK _) (cy1 n i c md np N M ps rows ls xs (oI md (s 0) 0) (oI md (s 0) 1) (oI md (s 0) 2) (oI md (s 0) 3) (oI md (s 1) 0) (oI md (s 1) 1) (oI md (s 1) 2) (oI md (s 1) 3) (oI md (s 2) 0) (oI md (s 2) 1) (oI md (s 2) 2) (oI md (s 2) 3) (vP 0 (s 0)) (vP 1 (s 1)) (vP 2 (s 2)) (oP 0 md (s 0)) (oP 1 md (s 1)) (oP 2 md (s 2)) js hx hc hmd hw) (Tr.all_ok ⟨rfl, ht rfl, hd _ rfl, fun js => ⟨rfl, fun aa ww hat => let ⟨js', h'⟩ := settle (xs := xs) (c := c + 1) (t := 2) (ow := own md (s 0) (s 1) (s 2)) (how := fun r => own_keep r md (s 0) (s 1) (s 2)) (i := i) (n := n) (np := np) (s0 := s 0) (s1 := s 1) (s2 := s 2) (d := []) hE hT hat; ⟨_, h', xs, s, 2, g.1, g.2, c + 1, js', by omega, by omega, rfl⟩⟩⟩)
    | false =>
      have g : Inv md xs s 1 ∧ Rel 3 s 1 s 1 := ⟨h, h.wait (by decide) (by simpa using hw)⟩
      exact Tri.allR (m := 15) (n := 135) (codeOK _) (cn1 n i c md np N M ps rows ls xs (oI md (s 0) 0) (oI md (s 0) 1) (oI md (s 0) 2) (oI md (s 0) 3) (oI md (s 1) 0) (oI md (s 1) 1) (oI md (s 1) 2) (oI md (s 1) 3) (oI md (s 2) 0) (oI md (s 2) 1) (oI md (s 2) 2) (oI md (s 2) 3) (vP 0 (s 0)) (vP 1 (s 1)) (vP 2 (s 2)) (oP 0 md (s 0)) (oP 1 md (s 1)) (oP 2 md (s 2)) js hx hc hmd hw) (Tr.all_ok ⟨rfl, ht rfl, hd _ rfl, fun js => ⟨rfl, fun aa ww hat => let ⟨js', h'⟩ := settle (xs := xs) (c := c + 1) (t := 1) (ow := own md (s 0) (s 1) (s 2)) (how := fun r => own_keep r md (s 0) (s 1) (s 2)) (i := i) (n := n) (np := np) (s0 := s 0) (s1 := s 1) (s2 := s 2) (d := []) hE hT hat; ⟨_, h', xs, s, 1, g.1, g.2, c + 1, js', by omega, by omega, rfl⟩⟩⟩)
  · cases hw : (List.getD xs 12 0 == 5) with
    | true =>
      have g : Inv md xs s 3 ∧ Rel 3 s 2 s 3 := h.more (by decide) (by simpa using hw)
      have q0 : s 0 = .q := h.told 0 (by decide) (by decide)
      have q1 : s 1 = .q := h.told 1 (by decide) (by decide)
      have q2 : s 2 = .q := (h.ack 2 (by decide)).1 (by simpa using hw)
      exact Tri.allR (m := 15) (n := 135) (codeOK _) (cy2 n i c md np N M ps rows ls xs (oI md (s 0) 0) (oI md (s 0) 1) (oI md (s 0) 2) (oI md (s 0) 3) (oI md (s 1) 0) (oI md (s 1) 1) (oI md (s 1) 2) (oI md (s 1) 3) (oI md (s 2) 0) (oI md (s 2) 1) (oI md (s 2) 2) (oI md (s 2) 3) (vP 0 (s 0)) (vP 1 (s 1)) (vP 2 (s 2)) (oP 0 md (s 0)) (oP 1 md (s 1)) (oP 2 md (s 2)) js hx hc hmd hw (by rw [q0]; rfl) (by rw [q0]; rfl) (by rw [q0]; rfl) (by rw [q0]; rfl) (by rw [q1]; rfl) (by rw [q1]; rfl) (by rw [q1]; rfl) (by rw [q1]; rfl) (by rw [q2]; rfl) (by rw [q2]; rfl) (by rw [q2]; rfl) (by rw [q2]; rfl)) (Tr.all_ok ⟨rfl, ht rfl, hd _ rfl, fun js => ⟨rfl, fun aa ww hat => let ⟨js', h'⟩ := settle (xs := xs) (c := c + 1) (t := 3) (ow := own md (s 0) (s 1) (s 2)) (how := fun r => own_keep r md (s 0) (s 1) (s 2)) (i := i) (n := n) (np := np) (s0 := s 0) (s1 := s 1) (s2 := s 2) (d := []) hE hT hat; ⟨_, h', xs, s, 3, g.1, g.2, c + 1, js', by omega, by omega, rfl⟩⟩⟩)
    | false =>
      have g : Inv md xs s 2 ∧ Rel 3 s 2 s 2 := ⟨h, h.wait (by decide) (by simpa using hw)⟩
      exact Tri.allR (m := 15) (n := 135) (codeOK _) (cn2 n i c md np N M ps rows ls xs (oI md (s 0) 0) (oI md (s 0) 1) (oI md (s 0) 2) (oI md (s 0) 3) (oI md (s 1) 0) (oI md (s 1) 1) (oI md (s 1) 2) (oI md (s 1) 3) (oI md (s 2) 0) (oI md (s 2) 1) (oI md (s 2) 2) (oI md (s 2) 3) (vP 0 (s 0)) (vP 1 (s 1)) (vP 2 (s 2)) (oP 0 md (s 0)) (oP 1 md (s 1)) (oP 2 md (s 2)) js hx hc hmd hw) (Tr.all_ok ⟨rfl, ht rfl, hd _ rfl, fun js => ⟨rfl, fun aa ww hat => let ⟨js', h'⟩ := settle (xs := xs) (c := c + 1) (t := 2) (ow := own md (s 0) (s 1) (s 2)) (how := fun r => own_keep r md (s 0) (s 1) (s 2)) (i := i) (n := n) (np := np) (s0 := s 0) (s1 := s 1) (s2 := s 2) (d := []) hE hT hat; ⟨_, h', xs, s, 2, g.1, g.2, c + 1, js', by omega, by omega, rfl⟩⟩⟩)
  · have q0 : s 0 = .q := h.told 0 (by decide) (by decide)
    have q1 : s 1 = .q := h.told 1 (by decide) (by decide)
    have q2 : s 2 = .q := h.told 2 (by decide) (by decide)
    have g : Inv md xs s 3 ∧ Rel 3 s 3 s 3 := ⟨h, h.over rfl⟩
    exact Tri.allR (m := 15) (n := 135) (codeOK _) (cd n i c md np N M ps rows ls xs (oI md (s 0) 0) (oI md (s 0) 1) (oI md (s 0) 2) (oI md (s 0) 3) (oI md (s 1) 0) (oI md (s 1) 1) (oI md (s 1) 2) (oI md (s 1) 3) (oI md (s 2) 0) (oI md (s 2) 1) (oI md (s 2) 2) (oI md (s 2) 3) (vP 0 (s 0)) (vP 1 (s 1)) (vP 2 (s 2)) (oP 0 md (s 0)) (oP 1 md (s 1)) (oP 2 md (s 2)) js hx hc hmd (by rw [q0]; rfl) (by rw [q0]; rfl) (by rw [q0]; rfl) (by rw [q0]; rfl) (by rw [q1]; rfl) (by rw [q1]; rfl) (by rw [q1]; rfl) (by rw [q1]; rfl) (by rw [q2]; rfl) (by rw [q2]; rfl) (by rw [q2]; rfl) (by rw [q2]; rfl)) (Tr.all_ok ⟨rfl, ht rfl, hd _ rfl, fun js => ⟨rfl, fun aa ww hat => ⟨_, hat, xs, s, 3, g.1, g.2, c, js, by omega, by omega, rfl⟩⟩⟩)
end
theorem hb : Try.f4.body = some body := by kernel_rfl
noncomputable abbrev initC : Code := codeAt body [true, true, true, true, true, true, true, true, true, true, false, false]
noncomputable abbrev finC : Code := codeAt body [true, true, true, true, true, true, true, true, true, true, true]
noncomputable abbrev lbody : Code := .seq (at' [false]) (.seq (.block 1 (qt [])) (at' [true, true]))
theorem restE : (Eng.spine 10 body).2 = .seq (.seq initC (.block 0 (.loop lbody))) finC := by kernel_rfl
abbrev ks : List CK := [.int .i64]
theorem resX (n : Int) (np : Nat) (x6 x7 x8 x9 x10 x11 x12 x13 x14 : SV) (hp : HP MObj) (nid : Nat) (r : SB) (js : Nat → SV) : vresults Try.prog (⟨[.v (ii n), .v (.an 0 (.sym np)), .t [], .t [], .v (.bool r), .v (.bool (.lit true)), x6, x7, x8, x9, x10, x11, x12, x13, x14] ++ junk js 135 15, hp, nid, []⟩ : St MObj) Try.f4.results.toList = .ok [.one (.bool r)] := by kernel_rfl
/-- What holds ahead of round i. -/
def J (n : Int) (np : Nat) (ps : List (List Int)) (md σ : Int) (i : Int) (st : St MObj) : Prop :=
  ∃ xs s t c js rows ls N M, Inv md xs s t ∧ Near σ i s t ∧ 0 ≤ c ∧ c ≤ 300 + i ∧ st = SF n np i ps rows ls N M xs c md t s js
abbrev Q : VX → St MObj → Prop := fun x st => (x = .normal ∨ x = .ret) ∧ ∃ l, (vresults Try.prog st Try.f4.results.toList).run = some l ∧ IsTrue (tupleOf l)
section
variable (n : Int) (np : Nat) (ps : List (List Int)) (hnp : np = ps.length) (hsz : np ≤ 1000000000000000000) (hf : RFits ks ps) (E : Ctx MObj) (hE : E.nid0 = 1) (hT : E.top = 70) (hD : ∀ b, 1 ≤ b → E.D b)
include hnp hsz hf hE hT hD
section
variable {md σ : Int} (hmd : 0 ≤ md ∧ md < 9) (hσ : σ = if (np : Int) ≤ 100 then (np : Int) else 100)
include hmd hσ
theorem oneRound {i : Int} (hi : 0 ≤ i ∧ i < σ + 40) {t c : Int} {xs : List Int} {s : Nat → PK} {rows ls : List (List Int)} {N M : Nat} (hv : Inv md xs s t) (hn : Near σ i s t) (hc : 0 ≤ c ∧ c ≤ 300 + i) (js : Nat → SV) :
    Tri MS Try.prog E (qt []) (SF n np i ps rows ls N M xs c md t s js) fun x st => (x = .exit 1 ∨ x = .normal) ∧ ∃ xs' s' t' c' js, Inv md xs' s' t' ∧ Near σ (i + 1) s' t' ∧ 0 ≤ c' ∧ c' ≤ 300 + (i + 1) ∧ st = SF n np i ps rows ls N M xs' c' md t' s' js := by
  have hd : ∀ (l : List Nat), l.all (Nat.ble 1) = true → ∀ b, b ∈ l → E.D b := fun l hl b hb => hD b (Nat.le_of_ble_eq_true (List.all_eq_true.1 hl b hb))
  have ht : ∀ {k : Nat}, Nat.ble k 70 = true → k ≤ E.top := fun h => by rw [hT]; exact Nat.le_of_ble_eq_true h
  have hx := hv.len
  have hs : 0 ≤ σ ∧ σ ≤ 100 ∧ σ ≤ np := by split at hσ <;> omega
  have hP : ∀ (k : Nat), (σ ≤ i → i % 4 = k) → ∀ x st, Post n np i ps rows ls N M c md t s k x st → (x = .exit 1 ∨ x = .normal) ∧ ∃ xs' s' t' c' js, Inv md xs' s' t' ∧ Near σ (i + 1) s' t' ∧ 0 ≤ c' ∧ c' ≤ 300 + (i + 1) ∧ st = SF n np i ps rows ls N M xs' c' md t' s' js := by
    rintro k hki x st ⟨hxx, xs', s', t', g1, g2, c', js, g3, g4, rfl⟩
    exact ⟨hxx, xs', s', t', c', js, g1, hn.step hs.1 hi.1 hki g2 g1 hv.ht.1, by omega, by omega, rfl⟩
  have hr0 := fun js => (round0 (n := n) (i := i) (np := np) (N := N) (M := M) (ps := ps) (rows := rows) (ls := ls) E hE hT hD hmd (c := c) ⟨hc.1, by omega⟩ hv js)
  have hr1 := fun js => (round1 (n := n) (i := i) (np := np) (N := N) (M := M) (ps := ps) (rows := rows) (ls := ls) E hE hT hD hmd (c := c) ⟨hc.1, by omega⟩ hv js)
  have hr2 := fun js => (round2 (n := n) (i := i) (np := np) (N := N) (M := M) (ps := ps) (rows := rows) (ls := ls) E hE hT hD hmd (c := c) ⟨hc.1, by omega⟩ hv js)
  have hr3 := fun js => (round3 (n := n) (i := i) (np := np) (N := N) (M := M) (ps := ps) (rows := rows) (ls := ls) E hE hT hD hmd (c := c) ⟨hc.1, by omega⟩ hv js)
  have hgo : ∀ (k : Int) js, 0 ≤ k ∧ k < 4 → (σ ≤ i → i % 4 = k) → Tri MS Try.prog E (qt [true, true]) ⟨pre n np i ++ [.v (.int .i64 (.sym k))] ++ junk js 134 16, base ps rows ls N M xs c md t (own md (s 0) (s 1) (s 2)) (vP 0 (s 0)) (vP 1 (s 1)) (vP 2 (s 2)) ++ [(10, oP 0 md (s 0)), (11, oP 1 md (s 1)), (12, oP 2 md (s 2))], 13, []⟩ fun x st => (x = .exit 1 ∨ x = .normal) ∧ ∃ xs' s' t' c' js, Inv md xs' s' t' ∧ Near σ (i + 1) s' t' ∧ 0 ≤ c' ∧ c' ≤ 300 + (i + 1) ∧ st = SF n np i ps rows ls N M xs' c' md t' s' js := fun k js hk hki => by
    rcases (show k = 0 ∨ k = 1 ∨ k = 2 ∨ k = 3 by omega) with e | e | e | e
    · refine Tri.preE fun aa ww hat => ⟨_, at_tm (p' := pre n np i ++ [.v (.int .i64 (.lit 0))]) (by (repeat' apply And.intro) <;> first | rfl | trivial | (exact e)) hat, ?_⟩
      exact (hr0 js).mono (hP 0 fun hh => by have := hki hh; omega)
    · refine Tri.preE fun aa ww hat => ⟨_, at_tm (p' := pre n np i ++ [.v (.int .i64 (.lit 1))]) (by (repeat' apply And.intro) <;> first | rfl | trivial | (exact e)) hat, ?_⟩
      exact (hr1 js).mono (hP 1 fun hh => by have := hki hh; omega)
    · refine Tri.preE fun aa ww hat => ⟨_, at_tm (p' := pre n np i ++ [.v (.int .i64 (.lit 2))]) (by (repeat' apply And.intro) <;> first | rfl | trivial | (exact e)) hat, ?_⟩
      exact (hr2 js).mono (hP 2 fun hh => by have := hki hh; omega)
    · refine Tri.preE fun aa ww hat => ⟨_, at_tm (p' := pre n np i ++ [.v (.int .i64 (.lit 3))]) (by (repeat' apply And.intro) <;> first | rfl | trivial | (exact e)) hat, ?_⟩
      exact (hr3 js).mono (hP 3 fun hh => by have := hki hh; omega)
  have hm : Int.tmod i 4 = i % 4 := Int.tmod_eq_emod_of_nonneg hi.1
  refine Tri.listR (m := 16) (n := 134) (l := [qt [false], qt [true, false]]) (c' := qt [true, true]) codeOK 2 rfl rfl
    (kp n i c md t np N M ps rows ls xs (oI md (s 0) 0) (oI md (s 0) 1) (oI md (s 0) 2) (oI md (s 0) 3) (oI md (s 1) 0) (oI md (s 1) 1) (oI md (s 1) 2) (oI md (s 1) 3) (oI md (s 2) 0) (oI md (s 2) 1) (oI md (s 2) 2) (oI md (s 2) 3) (vP 0 (s 0)) (vP 1 (s 1)) (vP 2 (s 2)) (oP 0 md (s 0)) (oP 1 md (s 1)) (oP 2 md (s 2)) js hx ⟨hc.1, by omega⟩ hmd ⟨hi.1, by omega⟩ hnp)
    (Tr.all_ite (fun q1 => Tr.all_ite (fun q2 => Tr.all_ok ⟨rfl, rfl, ht rfl, hd _ rfl, fun js => ?_⟩) fun q2 => Tr.all_ok ⟨rfl, rfl, ht rfl, hd _ rfl, fun js => ?_⟩) fun q1 => Tr.all_ok ⟨rfl, rfl, ht rfl, hd _ rfl, fun js => ?_⟩)
  · have q1 := of_decide_eq_true q1; have q2 := of_decide_eq_true q2
    exact hgo _ js (kM_range (c := tabAt ps i.toNat 0) (n := 4) (by decide) (tab_fits hf (show i.toNat < ps.length by omega) (j := 0) rfl)) (fun hh => by split at hσ <;> omega)
  · exact hgo _ js (by rw [hm]; omega) (fun _ => hm.symm)
  · exact hgo _ js (by rw [hm]; omega) (fun _ => hm.symm)
theorem rest {rows ls : List (List Int)} {N M : Nat} {xs : List Int} {c : Int} (hv : Inv md xs (fun _ => .z) 0) (hc : 0 ≤ c ∧ c ≤ 300) (x14 : SV) (js : Nat → SV) :
    Tri MS Try.prog E (.seq (.seq initC (.block 0 (.loop lbody))) finC) ⟨List.take 14 (pre n np 0) ++ [x14] ++ junk js 135 15, base ps rows ls N M xs c md 0 (own md .z .z .z) .nilp .nilp .nilp ++ [(10, none), (11, none), (12, none)], 13, []⟩ Q := by
  have hd : ∀ (l : List Nat), l.all (Nat.ble 1) = true → ∀ b, b ∈ l → E.D b := fun l hl b hb => hD b (Nat.le_of_ble_eq_true (List.all_eq_true.1 hl b hb))
  have ht : ∀ {k : Nat}, Nat.ble k 70 = true → k ≤ E.top := fun h => by rw [hT]; exact Nat.le_of_ble_eq_true h
  have hs : 0 ≤ σ ∧ σ ≤ 100 ∧ σ ≤ np ∧ (σ = np ∨ σ = 100) := by split at hσ <;> omega
  have hw : IntKind.i64.wrap ((np : Int) + 40) = np + 40 := wrap_i64_of (by omega) (by omega)
  refine Tri.seq (R := fun x s => x = .normal ∧ J n np ps md σ (σ + 40) s) ?_ ?_ (fun x s hx hh => absurd hh.1 hx)
  · refine Tri.seq (R := fun x s => x = .normal ∧ J n np ps md σ 0 s) ?_ ?_ (fun x s hx hh => absurd hh.1 hx)
    · refine Tri.postE (Q := fun x s => x = .normal ∧ ∀ aa ww, At MS E s aa ww → ∃ s', At MS E s' aa ww ∧ J n np ps md σ 0 s') (Tri.allR (m := 15) (n := 135) (codeOK _) (init n c md 0 np N M ps rows ls xs 0 0 0 0 0 0 0 0 0 0 0 0 .nilp .nilp .nilp none none none js x14 hv.len ⟨hc.1, by omega⟩ hmd) (Tr.all_ok ⟨rfl, ht rfl, hd _ rfl, fun js => ⟨rfl, fun aa ww hat => ⟨SF n np 0 ps rows ls N M xs c md 0 (fun _ => .z) js, at_tm (p' := pre n np 0) (by (repeat' apply And.intro) <;> first | rfl | trivial) hat, xs, (fun _ => .z), 0, c, js, rows, ls, N, M, hv, near0 hs.1, hc.1, by omega, rfl⟩⟩⟩)) ?_
      rintro x s aa ww ⟨rfl, hh⟩ hat
      obtain ⟨s', h1, h2⟩ := hh aa ww hat
      exact ⟨s', h1, rfl, h2⟩
    · rintro s ⟨_, hJ⟩
      refine Tri.block (R := fun x s => x = .exit 0 ∧ J n np ps md σ (σ + 40) s) ?_ (fun s hh => by
        rcases hh with hh | hh
        · cases hh.1
        · exact ⟨rfl, hh.2⟩) (fun x s _ hx hh => absurd hh.1 hx)
      refine Tri.loop (J := fun q s => ∃ i : Int, 0 ≤ i ∧ i ≤ σ + 40 ∧ J n np ps md σ i s ∧ q = (140 - i).toNat) ?_ (k := (140 - 0 : Int).toNat) ⟨0, by decide, by omega, hJ, rfl⟩
      rintro q s ⟨i, h0, h1, ⟨xs, s, t, c, js, rows, ls, N, M, hv, hn, hc0, hc1, rfl⟩, rfl⟩
      have hx := hv.len
      refine Tri.seq (R := fun x st => (x = .normal ∧ i < σ + 40 ∧ ∃ js, st = SF n np i ps rows ls N M xs c md t s js) ∨ (x = .exit 0 ∧ ¬ i < σ + 40 ∧ ∃ js, st = SF n np i ps rows ls N M xs c md t s js))
        (Tri.allR (m := 15) (n := 135) (codeOK _) (g n i c md t np N M ps rows ls xs (oI md (s 0) 0) (oI md (s 0) 1) (oI md (s 0) 2) (oI md (s 0) 3) (oI md (s 1) 0) (oI md (s 1) 1) (oI md (s 1) 2) (oI md (s 1) 3) (oI md (s 2) 0) (oI md (s 2) 1) (oI md (s 2) 2) (oI md (s 2) 3) (vP 0 (s 0)) (vP 1 (s 1)) (vP 2 (s 2)) (oP 0 md (s 0)) (oP 1 md (s 1)) (oP 2 md (s 2)) js hx ⟨hc0, by omega⟩ hmd h0 hnp (by omega) hw)
          (Tr.all_ite (fun q1 => Tr.all_ite (fun q2 => Tr.all_ok ⟨rfl, ht rfl, hd _ rfl, fun js => .inl ⟨rfl, by
            have q1 := of_decide_eq_true q1; have q2 := of_decide_eq_true q2
            rw [show W ((np : Int) + 40) = np + 40 from hw] at q1
            omega, js, rfl⟩⟩) fun q2 => Tr.all_ok ⟨rfl, ht rfl, hd _ rfl, fun js => .inr ⟨rfl, by
            have q2 := of_decide_eq_false q2
            omega, js, rfl⟩⟩) fun q1 => Tr.all_ok ⟨rfl, ht rfl, hd _ rfl, fun js => .inr ⟨rfl, by
            have q1 := of_decide_eq_false q1
            rw [show W ((np : Int) + 40) = np + 40 from hw] at q1
            omega, js, rfl⟩⟩)) ?_ ?_
      · rintro st (⟨_, hi, js, rfl⟩ | ⟨hh, _⟩)
        rotate_left
        · cases hh
        refine Tri.seq (R := fun x st => x = .normal ∧ ∃ xs' s' t' c' js, Inv md xs' s' t' ∧ Near σ (i + 1) s' t' ∧ 0 ≤ c' ∧ c' ≤ 300 + (i + 1) ∧ st = SF n np i ps rows ls N M xs' c' md t' s' js)
          (Tri.block (oneRound n np ps hnp hsz hf E hE hT hD hmd hσ ⟨h0, hi⟩ hv hn ⟨hc0, hc1⟩ js) (fun s hh => by
            rcases hh with hh | hh <;> exact ⟨rfl, hh.2⟩) (fun x s h1 h2 hh => by
            rcases hh.1 with hh | hh
            · exact absurd hh h2
            · exact absurd hh h1)) ?_ (fun x s hx hh => absurd hh.1 hx)
        rintro st ⟨_, xs', s', t', c', js, hv', hn', hc0', hc1', rfl⟩
        refine Tri.allR (m := 15) (n := 135) (codeOK _) (inc n i c' md t' np N M ps rows ls xs' (oI md (s' 0) 0) (oI md (s' 0) 1) (oI md (s' 0) 2) (oI md (s' 0) 3) (oI md (s' 1) 0) (oI md (s' 1) 1) (oI md (s' 1) 2) (oI md (s' 1) 3) (oI md (s' 2) 0) (oI md (s' 2) 1) (oI md (s' 2) 2) (oI md (s' 2) 3) (vP 0 (s' 0)) (vP 1 (s' 1)) (vP 2 (s' 2)) (oP 0 md (s' 0)) (oP 1 md (s' 1)) (oP 2 md (s' 2)) js hv'.len ⟨hc0', by omega⟩ hmd) (Tr.all_ok ⟨rfl, ht rfl, hd _ rfl, fun js => ?_⟩)
        refine ⟨(140 - (i + 1)).toNat, by omega, i + 1, by omega, by omega, ⟨xs', s', t', c', js, rows, ls, N, M, hv', hn', hc0', hc1', ?_⟩, rfl⟩
        have e4 : W (i + 1) = i + 1 := W_of (by omega) (by omega)
        rw [← e4]; rfl
      · rintro x st hx (⟨hh, _⟩ | ⟨rfl, hi, js, rfl⟩)
        · exact absurd hh hx
        · have : i = σ + 40 := by omega
          rw [this] at hn hc1 ⊢
          exact ⟨rfl, xs, s, t, c, js, rows, ls, N, M, hv, hn, hc0, hc1, rfl⟩
  · rintro s ⟨_, xs, s, t, c, js, rows, ls, N, M, hv, hn, hc0, hc1, rfl⟩
    have h3 := hn.fin hs.1 hv
    subst h3
    exact Tri.allR (m := 15) (n := 135) (codeOK _) (fin n (σ + 40) c md np N M ps rows ls xs (oI md (s 0) 0) (oI md (s 0) 1) (oI md (s 0) 2) (oI md (s 0) 3) (oI md (s 1) 0) (oI md (s 1) 1) (oI md (s 1) 2) (oI md (s 1) 3) (oI md (s 2) 0) (oI md (s 2) 1) (oI md (s 2) 2) (oI md (s 2) 3) (vP 0 (s 0)) (vP 1 (s 1)) (vP 2 (s 2)) (oP 0 md (s 0)) (oP 1 md (s 1)) (oP 2 md (s 2)) js hv.len ⟨hc0, by omega⟩ hmd)
      (Tr.all_ok ⟨rfl, ht rfl, hd _ rfl, fun js => ⟨.inr rfl, _, (congrArg Tr.run (resX n np _ _ _ _ _ _ _ _ _ _ _ _ js)).trans rfl, by simp [IsTrue, tupleOf]; rfl⟩⟩)
end
abbrev r62 : List (Nat × Nat) := [(0, 0), (2, 1), (3, 2), (4, 3), (54, 4), (55, 5), (56, 6), (59, 7), (60, 8), (61, 9)]
abbrev zr : VV := .int .i64 (.lit 0)
/-- The law's state when its head is over. -/
theorem settle0 {md c : Int} {rows ls : List (List Int)} {N M : Nat} {xs : List Int} {js : Nat → SV} {d : List Nat} {a : Act} {w : World}
    (h : At MS E ⟨[.v (ii n), .v (.an 0 (.sym np)), .t [], .t [], .v (.bool (.lit false)), .v (.bool (.lit true)), .v (.ptr 2 0), .v (.ptr 4 0), .v (.ptr 55 0), .v zr, .v (.ptr 56 0), .v (.ptr 59 0), .v (.ptr 60 0), .v (.ptr 61 0), .t []] ++ junk js 135 15,
      [(0, some (.rotab ks ps)), (2, some (.abs (.mem 97 xs c 0))), (3, some (.tab [.int .u64] rows 47)), (4, some (.cells [.ts 3 (.lit 0) (.lit N) none, .int .i64 (.lit 17), zr, .ts 54 (.lit 0) (.lit M) none] 51)), (54, some (.tab ckA ls 120)), (55, some (.cells pl 29)), (56, some (.cells [.int .i64 (.lit 5), ii md, zr, zr] 34)), (59, some (.cells (pl ++ [.int .i64 (.lit 5), ii md, zr, zr, .bool (.lit true), zr]) 85)), (60, some (.cells [zr, zr, zr, zr, zr, zr, zr, zr, zr, zr, zr, zr] 58)), (61, some (.cells [.nilp, .nilp, .nilp] 59))], 62, d⟩ a w) :
    ∃ js, At MS E ⟨List.take 14 (pre n np 0) ++ [.t []] ++ junk js 135 15, base ps rows ls N M xs c md 0 (own md .z .z .z) .nilp .nilp .nilp ++ [(10, none), (11, none), (12, none)], 13, []⟩ a w := by
  have h2 : ∃ js, At MS E ⟨[.v (ii n), .v (.an 0 (.sym np)), .t [], .t [], .v (.bool (.lit false)), .v (.bool (.lit true)), .v (.ptr 1 0), .v (.ptr 3 0), .v (.ptr 5 0), .v zr, .v (.ptr 6 0), .v (.ptr 7 0), .v (.ptr 8 0), .v (.ptr 9 0), .t []] ++ junk js 135 15,
      [(0, some (.rotab ks ps)), (1, some (.abs (.mem 97 xs c 0))), (2, some (.tab [.int .u64] rows 47)), (3, some (.cells [.ts 2 (.lit 0) (.lit N) none, .int .i64 (.lit 17), zr, .ts 4 (.lit 0) (.lit M) none] 51)), (4, some (.tab ckA ls 120)), (5, some (.cells pl 29)), (6, some (.cells [.int .i64 (.lit 5), ii md, zr, zr] 34)), (7, some (.cells (pl ++ [.int .i64 (.lit 5), ii md, zr, zr, .bool (.lit true), zr]) 85)), (8, some (.cells [zr, zr, zr, zr, zr, zr, zr, zr, zr, zr, zr, zr] 58)), (9, some (.cells [.nilp, .nilp, .nilp] 59)), (10, none), (11, none), (12, none)], 13, []⟩ a w := by
    refine at_rename2 (m := 15) (n := 135) (nid' := 13) (dirty' := []) r62 rfl (by simp [length_junk]) rfl ?_ ?_ ?_ (by rw [hE]; rfl) (by rw [hE]; decide) (by rw [hT]; decide) h
    · intro p hp x hx
      simp only [List.mem_cons, List.not_mem_nil, or_false] at hp
      rcases hp with rfl | rfl | rfl | rfl | rfl | rfl | rfl | rfl | rfl | rfl <;> exact ⟨_, by cases hx; rfl, rfl⟩
    · intro p hp hx
      simp only [List.mem_cons, List.not_mem_nil, or_false] at hp
      rcases hp with rfl | rfl | rfl | rfl | rfl | rfl | rfl | rfl | rfl | rfl <;> cases hx
    · intro b hb
      have h0 := hb (0, 0) (by simp); have h1 := hb (2, 1) (by simp); have h2 := hb (3, 2) (by simp); have h3 := hb (4, 3) (by simp); have h4 := hb (54, 4) (by simp); have h5 := hb (55, 5) (by simp); have h6 := hb (56, 6) (by simp); have h7 := hb (59, 7) (by simp); have h8 := hb (60, 8) (by simp); have h9 := hb (61, 9) (by simp)
      match b with
      | 0 => exact absurd rfl h0
      | 1 => exact absurd rfl h1
      | 2 => exact absurd rfl h2
      | 3 => exact absurd rfl h3
      | 4 => exact absurd rfl h4
      | 5 => exact absurd rfl h5
      | 6 => exact absurd rfl h6
      | 7 => exact absurd rfl h7
      | 8 => exact absurd rfl h8
      | 9 => exact absurd rfl h9
      | 10 => rfl
      | 11 => rfl
      | 12 => rfl
      | b + 13 => rfl
  obtain ⟨js, h2⟩ := h2
  exact ⟨js, at_wk (by (repeat' apply And.intro) <;> first | rfl | trivial) (by (repeat' apply And.intro) <;> first | rfl | trivial) h2⟩
theorem runs (hn : -9223372036854775808 ≤ n ∧ n ≤ 9223372036854775807) :
    Tri MS Try.prog E body ⟨[.v (ii n), .v (.an 0 (.sym np))] ++ List.replicate (nt - 2) .undef, [(0, some (.rotab ks ps))], 1, []⟩ Q := by
  have hd : ∀ (l : List Nat), l.all (Nat.ble 1) = true → ∀ b, b ∈ l → E.D b := fun l hl b hb => hD b (Nat.le_of_ble_eq_true (List.all_eq_true.1 hl b hb))
  have ht : ∀ {k : Nat}, Nat.ble k 70 = true → k ≤ E.top := fun h => by rw [hT]; exact Nat.le_of_ble_eq_true h
  have hkn := kM_range (c := n) (n := 9) (by decide) hn
  refine Tri.listR (m := 15) (n := 135) (l := (Eng.spine 10 body).1) codeOK 10 rfl restE (start n np ps hkn) (Tr.all_ok ⟨rfl, rfl, ht rfl, hd _ rfl, fun js => ?_⟩)
  refine Tri.preE fun aa ww hat => let ⟨js', hat'⟩ := settle0 n np ps hnp hsz hf E hE hT hD (md := kM n 9) (c := 18) (N := 160) (M := 17) hat; ⟨_, hat', ?_⟩
  refine rest n np ps hnp hsz hf E hE hT hD hkn rfl ⟨rfl, ?_, ?_, ?_, ?_, fun k hk => ?_, by decide, fun k hk hkt => by omega⟩ (by decide) _ js'
  · show mNo (mPhase 5 (kM n 9) 0 0) = 5
    unfold mNo mPhase; omega
  · show mMode (mPhase 5 (kM n 9) 0 0) = kM n 9
    unfold mMode mPhase; omega
  · show mMark (mPhase 5 (kM n 9) 0 0) = 0
    unfold mMark mPhase; omega
  · show mList (mPhase 5 (kM n 9) 0 0) = 0
    unfold mList mPhase; omega
  · refine ⟨fun e => ?_, fun e => by cases e⟩
    match k, hk with
    | 0, _ => exact absurd (show (0 : Int) = 5 from e) (by decide)
    | 1, _ => exact absurd (show (0 : Int) = 5 from e) (by decide)
    | 2, _ => exact absurd (show (0 : Int) = 5 from e) (by decide)
end
abbrev ts : List TypeId := [3, 22]
theorem hts : Try.f4.params.toList = ts := by kernel_rfl
theorem arg0 (n : Int) : (SV.s (mkS1 Try.prog 3 [.int .i64] [n])) = .v (ii n) := by kernel_rfl
theorem core (w : World) (vals : List Value) (ha : F2 (ArgOK Try.prog w) ts vals) (hz : F2 (ArgSz Try.prog w) ts vals) :
    Calls Try.prog 4 vals.toArray w fun e W' => ∃ v, e = .returned v ∧ v = .bool true ∧ Below w.heap.size w W' := by
  obtain ⟨u, v, rfl⟩ : ∃ u v, vals = [u, v] := by
    match vals, ha with
    | [u, v], _ => exact ⟨u, v, rfl⟩
    | [], ha => exact ha.elim
    | [_], ha => exact ha.2.elim
    | _ :: _ :: _ :: _, ha => exact ha.2.2.elim
  obtain ⟨ns, cs, hcs, hr⟩ := arg_plain (ks := [.int .i64]) ha.1 (by kernel_rfl)
  obtain ⟨n0, rfl, hfit⟩ : ∃ n0, ns = [n0] ∧ CK.fits (.int .i64) n0 := by
    have := hcs.fits'
    match ns, this with
    | [n0], h => exact ⟨n0, rfl, h.1⟩
    | [], h => exact h.elim
    | _ :: _ :: _, h => exact h.2.elim
  obtain ⟨xs, p, hf, hlen, hall⟩ := arg_slice (e := 3) (ks := ks) ha.2.1 (by kernel_rfl) (by kernel_rfl) (by kernel_rfl) (by decide)
  let ρ0 : Rho := fun b => match b with | 0 => some p | _ + 1 => none
  have hρ : ∀ b, 1 ≤ b → ρ0 b = none := fun b hb => by
    match b, hb with
    | b + 1, _ => rfl
  have hr0 : RS ρ0 (.s (mkS1 Try.prog 3 [.int .i64] [n0])) u := hr ρ0
  rw [arg0] at hr0
  have hsz : xs.length ≤ 1000000000000000000 := by
    have := an_len (k := 8) hz.2.1 (e := 3) (by kernel_rfl) (hall MS ρ0 0 rfl).1 (by kernel_rfl)
    simp only [reachBytes] at this
    omega
  refine (calls_of_triA (S := MS) (vargs := [u, v]) (R := IsTrue) Try.func4 hb 1 70 (by omega) hρ (hp := [(0, some (.rotab ks xs))]) (fun b o ho => ?_) (runs n0 xs.length xs rfl hsz hf _ rfl rfl (fun b hb => hb) hfit) ⟨hr0, (hall MS ρ0 0 rfl).1, trivial⟩).mono ?_
  · match b, ho with
    | 0, ho =>
      injection ho with ho
      subst ho
      exact (hall MS ρ0 0 rfl).2
    | b + 1, ho => cases ho
  · rintro e w' ⟨v, x, ρ, rfl, hv, hR, hbel⟩
    exact ⟨v, rfl, hR.value hv, hbel⟩
theorem own' : ownKnob Try.prog.godebug = none := by kernel_rfl
theorem lifted {H : Type} (os : Os) (started : os.Started) (enc : TypeId × Value → H) : ReturnsInHanded {} Try.checked os 4 .any (Rows.shakeAllSpec.pre6 enc Try.prog Try.f4 Rows.shakeAllRow.domain false) (Rows.shakeAllSpec.post enc Try.prog Try.f4 false true false false) :=
  law_liftedS own' started (by kernel_rfl) (by kernel_rfl)
    (ChangeSpec.witness6 (enc := enc) (C := Try.checked) false ⟨#[], #[.int .i64 0, .slice none 0 0], []⟩ 8 (by kernel_rfl) (by kernel_rfl) (by kernel_rfl) (by kernel_rfl))
    (tb := 4) (by kernel_rfl) (by kernel_rfl) rfl
    (fun ds hd => by
      match ds, hd with
      | [_, _], _ => exact ⟨rfl, rfl, rfl⟩)
    (by kernel_rfl) (by kernel_rfl) (fun W vals ha hz => core W vals (hts ▸ ha) (hts ▸ hz))
theorem proved : Rows.ShakeAllSaid :=
  OpenClaim.holds_of_wide 4 Try.f4 rfl rfl rfl rfl rfl rfl rfl ⟨rfl, rfl, rfl, rfl, rfl⟩ rfl rfl rfl rfl rfl (by kernel_rfl) Try.func4 (by kernel_rfl) (of_decide_eq_true (by kernel_rfl))
    (by unfold Func.isWrapper; first | (rw [if_pos (by decide +kernel)]; kernel_rfl) | (rw [if_neg (by decide +kernel)]; exact ⟨rfl, rfl⟩))
    (fun os started H enc _ => lifted os started enc)
end Go.Proofs.Ytdongoplhnpdiaa.ShakeAll
