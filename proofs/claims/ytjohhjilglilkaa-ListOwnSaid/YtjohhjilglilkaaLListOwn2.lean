/-
  ListOwn: a round of the law's loop.
-/
import Derived.Test.YtjohhjilglilkaaLListOwn1
namespace Go.Proofs.Ytjohhjilglilkaa.ListOwn
open Go Go.RowKit Go.Proofs.Ytjohhjilglilkaa.Eng
set_option linter.unusedVariables false
set_option linter.unusedSimpArgs false
set_option linter.unusedSectionVars false
set_option maxRecDepth 20000
set_option maxHeartbeats 1000000
noncomputable abbrev smC : Code := qt [true, true, true, true]
noncomputable abbrev lbody : Code := .seq (at' [false]) (.seq (.block 1 (qt [])) (at' [true, true]))
theorem kxE : (Eng.spine 4 (qt [])).2 = smC := by kernel_rfl
noncomputable abbrev St0 (n : Int) (np : Nat) (mn i : Int) (ps : List (List Int)) (xs : List Int) (c : Int) (s : Nat → WS) (js : Nat → SV) : St MObj := ⟨pre n np mn i ++ junk js 253 12, bas ps xs c 0 s, 5, []⟩
/-- From when on the workers take turns. -/
def m0 (np : Nat) : Int := if np ≤ 200 then np else 200
/-- What holds ahead of round i. -/
def J (N : Nat) (n : Int) (np : Nat) (ps : List (List Int)) (i j : Int) (st : St MObj) : Prop :=
  ∃ xs c s V L js, Good N xs V L s ∧ (0 ≤ c ∧ c ≤ 1000 + 2 * j) ∧ V ≤ 20 + j ∧ (m0 np ≤ j → ListOwnP.Soon xs (zz s) j.toNat (243 - (j - m0 np).toNat)) ∧ st = St0 n np N i ps xs c s js
section
variable (N : Nat) (n : Int) (np : Nat) (ps : List (List Int)) (hnp : np = ps.length) (hnl : np ≤ 140737488355328) (hf : RFits [.int .i64] ps) (E : Ctx MObj) (hE : E.nid0 = 1) (hT : E.top = 60) (hD : ∀ b, 1 ≤ b → E.D b)
include hnp hnl hf hE hT hD
theorem stepR {i : Int} {xs : List Int} {c : Int} {s : Nat → WS} {V : Int} {L : List Int} (G : Good N xs V L s) (hc : 0 ≤ c ∧ c ≤ 100000) {q : Nat} (hq : q < 4) (b1 b2 : Bool) (hb : b1 = false → b2 = false) (js : Nat → SV) :
    Tri MS Try.prog E smC ⟨pre n np N i ++ [.v (lt q), .v (.bool (.lit b1)), .v (.bool (.lit b2))] ++ junk js 250 15, bas ps xs c 0 s, 5, []⟩ fun x st => x = .normal ∧ ∃ Y xs' c' js, st = St0 n np N i ps xs' c' (upd s q Y) js ∧ KA xs 0 (s q) b1 Y xs' 0 ∧ c ≤ c' ∧ c' ≤ c + 2 := by
  have h0 := stepX (n := n) (mn := N) (i := i) (c := c) (t := 0) (np := np) (ps := ps) hq G.inv.len hc E hE hT hD s (s q) b1 b2 hb (G.sh q hq).1 (G.sh q hq).2 (G.few hq) (G.p1 hq) (G.p2 hq) (G.u hq) js
  rw [← upd_self] at h0
  refine Tri.postE h0 ?_
  rintro x ⟨tm, hp, nid, dd⟩ ac w ⟨rfl, Y, xs', c', t', ⟨js', h0⟩, h1, h2, h3, hk, h6, h7⟩ hat
  have h0 : tm = pre n np N i ++ junk js' 253 12 := h0
  subst h0
  obtain rfl : t' = 0 := hk.2.1
  have h2 : renChk R5 hp E.nid0 nid 5 = true := by rw [hE]; exact h2
  obtain ⟨js2, h10⟩ := at_rename (dirty' := []) (m := 12) (n := 253) (pre := pre n np N i) (pre' := pre n np N i) R5 rfl (by simp [length_junk]) rfl h1 h2 (by omega) (by omega) hat
  exact ⟨_, h10, rfl, Y, xs', c', js2, rfl, hk, h6, h7⟩
theorem round {i : Int} (hi : 0 ≤ i ∧ i ≤ 600) {st : St MObj} (hJ : J N n np ps i i st) :
    Tri MS Try.prog E lbody st fun x st => (x = .normal ∧ i + 1 ≤ 600 ∧ J N n np ps (i + 1) (i + 1) st) ∨ (x = .exit 0 ∧ J N n np ps i i st ∧ ((np : Int) + 400 ≤ i ∨ 600 ≤ i)) := by
  obtain ⟨xs, c, s, V, L, js, G, hc, hV, hs, rfl⟩ := hJ
  have hx := G.inv.len
  have hd : ∀ (l : List Nat), l.all (Nat.ble 1) = true → ∀ b, b ∈ l → E.D b := fun l hl b hb => hD b (Nat.le_of_ble_eq_true (List.all_eq_true.1 hl b hb))
  have ht : ∀ {k : Nat}, Nat.ble k 60 = true → k ≤ E.top := fun h => by rw [hT]; exact Nat.le_of_ble_eq_true h
  have e400 : W ((np : Int) + 400) = np + 400 := wrap_i64_of (by omega) (by omega)
  have hm : m0 np ≤ 200 ∧ m0 np ≤ np ∧ (m0 np = 200 ∨ m0 np = np) := by unfold m0; split <;> omega
  refine Tri.seq (R := fun x st => ∃ js, st = St0 n np N i ps xs c s js ∧ ((x = .normal ∧ i < 600) ∨ (x = .exit 0 ∧ ((np : Int) + 400 ≤ i ∨ 600 ≤ i)))) ?_ ?_ ?_
  · exact Tri.allR (m := 12) (n := 253) (codeOK _) (g n N i c 0 np ps xs _ _ _ js hx (by omega) hi hnp hnl) (Tr.all_ite (fun h1 => Tr.all_ite (fun h2 => Tr.all_ok ⟨rfl, ht rfl, hd _ rfl, fun js => ⟨js, rfl, .inl ⟨rfl, of_decide_eq_true h2⟩⟩⟩) fun h2 => Tr.all_ok ⟨rfl, ht rfl, hd _ rfl, fun js => ⟨js, rfl, .inr ⟨rfl, .inr (by have := of_decide_eq_false h2; omega)⟩⟩⟩) fun h1 => Tr.all_ok ⟨rfl, ht rfl, hd _ rfl, fun js => ⟨js, rfl, .inr ⟨rfl, .inl (by have := of_decide_eq_false h1; rw [e400] at this; omega)⟩⟩⟩)
  · rintro st ⟨js, rfl, h | h⟩
    rotate_left
    · cases h.1
    obtain ⟨_, hi6⟩ := h
    refine Tri.seq (R := fun x st => x = .normal ∧ J N n np ps i (i + 1) st) ?_ ?_ (fun x s hx hh => absurd hh.1 hx)
    · refine Tri.block (R := fun x st => x = .normal ∧ J N n np ps i (i + 1) st) ?_ (fun s hh => by
        rcases hh with hh | hh
        · exact ⟨rfl, hh.2⟩
        · exact ⟨rfl, hh.2⟩) (fun x s h1 h2 hh => absurd hh.1 h1)
      -- a step of a worker that is given its turn, whatever is begun
      have go : ∀ (q : Nat), q < 4 → ∀ (b1 b2 : Bool), (b1 = false → b2 = false) → (b1 = false → q = i.toNat % 4) → (b1 = true → i < m0 np) → ∀ js, Tri MS Try.prog E smC ⟨pre n np N i ++ [.v (lt q), .v (.bool (.lit b1)), .v (.bool (.lit b2))] ++ junk js 250 15, bas ps xs c 0 s, 5, []⟩ fun x st => x = .normal ∧ J N n np ps i (i + 1) st := by
        intro q hq b1 b2 hb h1 h2 js
        refine (stepR N n np ps hnp hnl hf E hE hT hD G (by omega) hq b1 b2 hb js).mono ?_
        rintro x st ⟨rfl, Y, xs', c', js', rfl, hk, k1, k2⟩
        obtain ⟨V', L', k3, G'⟩ := G.step hq (by omega) hk
        refine ⟨rfl, xs', c', upd s q Y, V', L', js', G', by omega, by omega, fun hmi => ?_, rfl⟩
        by_cases hmi2 : m0 np ≤ i
        · cases b1 with
          | true => have := h2 rfl; omega
          | false =>
            have hq' := h1 rfl
            subst hq'
            have h3 := hs hmi2
            have e1 : 243 - (i - m0 np).toNat = 243 - (i + 1 - m0 np).toNat + 1 ∨ 243 - (i - m0 np).toNat = 0 := by omega
            have e2 : (i + 1).toNat = i.toNat + 1 := by omega
            rw [e2]
            rcases e1 with e1 | e1
            · rw [e1] at h3
              exact near_step G hk h3
            · rw [e1] at h3
              refine near_step G hk ?_
              rcases h3 with h3 | h3
              · exact .inl h3
              · obtain ⟨q', a1, a2, a3⟩ := h3
                exact .inr ⟨q', a1, a2, by omega⟩
        · have e3 : (i + 1 - m0 np).toNat = 0 := by omega
          rw [e3]
          exact ListOwnP.soon_any (by have := ListOwnP.phi_le xs' (zz (upd s q Y)); omega)
      have turn : ∀ js, Tri MS Try.prog E smC ⟨pre n np N i ++ [.v (ii (Int.tmod i 4)), .v (.bool (.lit false)), .v (.bool (.lit false))] ++ junk js 250 15, bas ps xs c 0 s, 5, []⟩ fun x st => x = .normal ∧ J N n np ps i (i + 1) st := fun js => by
        have e1 : Int.tmod i 4 = ((i.toNat % 4 : Nat) : Int) := by
          rw [Int.tmod_eq_emod_of_nonneg hi.1]; omega
        refine Tri.preE fun aa ww hat => ⟨_, at_tm (p' := pre n np N i ++ [.v (lt ((i.toNat % 4 : Nat) : Int)), .v (.bool (.lit false)), .v (.bool (.lit false))]) (by (repeat' apply And.intro) <;> first | rfl | trivial | exact e1) hat, ?_⟩
        exact go _ (Nat.mod_lt _ (by decide)) false false (fun _ => rfl) (fun _ => rfl) (fun e => by cases e) js
      refine Tri.listR (m := 15) (n := 250) (l := [qt [false], qt [true, false], qt [true, true, false], qt [true, true, true, false]]) (c' := smC) codeOK 4 rfl kxE (kx n N i c 0 np ps xs _ _ _ js hx (by omega) ⟨hi.1, hi6⟩ hnp)
        (Tr.all_ite (fun h1 => Tr.all_ite (fun h2 => Tr.all_ok ⟨rfl, rfl, ht rfl, hd _ rfl, fun js => ?_⟩) fun _ => Tr.all_ok ⟨rfl, rfl, ht rfl, hd _ rfl, fun js => turn js⟩) fun _ => Tr.all_ok ⟨rfl, rfl, ht rfl, hd _ rfl, fun js => turn js⟩)
      have h1 := of_decide_eq_true h1
      have h2 := of_decide_eq_true h2
      have hix : i.toNat < ps.length := by omega
      have k0 := kM_range (c := tabAt ps i.toNat 0) (n := 8) (by decide) (tab_fits hf hix (j := 0) rfl)
      have k1 : 0 ≤ Int.tmod (kM (tabAt ps (Int.toNat i) 0) 8) 4 ∧ Int.tmod (kM (tabAt ps (Int.toNat i) 0) 8) 4 < 4 := ⟨Int.tmod_nonneg _ k0.1, Int.tmod_lt_of_pos _ (by decide)⟩
      obtain ⟨q, hq, hkq⟩ : ∃ q : Nat, q < 4 ∧ Int.tmod (kM (tabAt ps (Int.toNat i) 0) 8) 4 = (q : Int) := ⟨(Int.tmod (kM (tabAt ps (Int.toNat i) 0) 8) 4).toNat, by omega, by omega⟩
      refine Tri.preE fun aa ww hat => ⟨_, at_tm (p' := pre n np N i ++ [.v (lt q), .v (.bool (.lit true)), .v (.bool (.lit (decide (kM (tabAt ps (Int.toNat i) 0) 8 < 4))))]) (by (repeat' apply And.intro) <;> first | rfl | trivial | exact hkq) hat, ?_⟩
      exact go q hq true _ (fun e => by cases e) (fun e => by cases e) (fun _ => by omega) js
    · rintro st ⟨_, xs', c', s', V', L', js, G', g1, g2, g3, rfl⟩
      have e4 : W (i + 1) = i + 1 := wrap_i64_of (by omega) (by omega)
      refine Tri.allR (m := 12) (n := 253) (codeOK _) (inc n N i c' 0 np ps xs' _ _ _ js G'.inv.len (by omega)) (Tr.all_ok ⟨rfl, ht rfl, hd _ rfl, fun js => .inl ⟨rfl, by omega, ?_⟩⟩)
      refine ⟨xs', c', s', V', L', js, G', g1, g2, g3, ?_⟩
      show (⟨_, _, _, _⟩ : St MObj) = St0 n np N (i + 1) ps xs' c' s' js
      rw [← e4]
  · rintro x st hx' ⟨js, rfl, h | h⟩
    · exact absurd h.1 hx'
    · exact .inr ⟨h.1, ⟨xs, c, s, V, L, js, G, hc, hV, hs, rfl⟩, h.2⟩
end
end Go.Proofs.Ytjohhjilglilkaa.ListOwn
