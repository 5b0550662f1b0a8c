/-
  ListOwn: the law's loop as a whole: behind it nothing is under way.
-/
import Derived.Test.YtjohhjilglilkaaLListOwn2
namespace Go.Proofs.Ytjohhjilglilkaa.ListOwn
open Go Go.RowKit Go.Proofs.Ytjohhjilglilkaa.Eng
set_option linter.unusedVariables false
set_option linter.unusedSimpArgs false
set_option linter.unusedSectionVars false
set_option maxRecDepth 20000
set_option maxHeartbeats 1000000
def chB (xs : List Int) : Int → List Int → Bool
  | x, [] => x == 0
  | x, a :: l => x == a && chB xs (mHLink (ListOwnP.at' xs a)) l
theorem chB_ok {xs : List Int} : ∀ {l : List Int} {x : Int}, chB xs x l = true → ListOwnP.Ch xs x l
  | [], _, h => eq_of_beq h
  | a :: l, x, h => by
    unfold chB at h
    rw [Bool.and_eq_true] at h
    exact ⟨eq_of_beq h.1, chB_ok h.2⟩
abbrev s00 : Nat → WS := fun _ => ⟨.nil, .idle⟩
theorem good0 {N : Nat} (hN : N ≤ 12) {xs : List Int} (hl : xs.length = 160) {V : Int} (hv : mVer (ListOwnP.at' xs 3) = V) (hV : 0 ≤ V ∧ V ≤ 20) (hch : chB xs (mAt (ListOwnP.at' xs 3)) (ListOwnP.cells N) = true) : Good N xs V (ListOwnP.cells N) s00 where
  inv := ⟨hN, hl, hv, by omega, chB_ok hch, by
    have e : ListOwnP.allOf (ListOwnP.cells N) (own' s00) (zz s00) = ListOwnP.cells N := by
      show ListOwnP.cells N ++ ([] ++ []) ++ ([] ++ []) ++ ([] ++ []) ++ ([] ++ []) = _
      simp
    rw [e], fun q hq => trivial⟩
  sh := fun k hk => ⟨trivial, trivial⟩
noncomputable abbrev initC : Code := codeAt body [true, true, true, true, true, true, true, true, false, false]
section
variable (N : Nat) (n : Int) (np : Nat) (ps : List (List Int)) (hnp : np = ps.length) (hnl : np ≤ 140737488355328) (hf : RFits [.int .i64] ps) (E : Ctx MObj) (hE : E.nid0 = 1) (hT : E.top = 60) (hD : ∀ b, 1 ≤ b → E.D b)
include hnp hnl hf hE hT hD
theorem loop {xs : List Int} {c V : Int} {L : List Int} (G : Good N xs V L s00) (hc : 0 ≤ c ∧ c ≤ 1000) (hV : V ≤ 20) (js : Nat → SV) :
    Tri MS Try.prog E (.seq initC (.block 0 (.loop lbody))) ⟨List.take 11 (pre n np N 0) ++ [.t []] ++ junk js 253 12, bas ps xs c 0 s00, 5, []⟩ fun x st => x = .normal ∧ ∃ xs c s V L i js, Good N xs V L s ∧ (∀ q, q < 4 → (s q).z.abs = .idle) ∧ (0 ≤ c ∧ c ≤ 3000) ∧ V ≤ 700 ∧ st = St0 n np N i ps xs c s js := by
  have hd : ∀ (l : List Nat), l.all (Nat.ble 1) = true → ∀ b, b ∈ l → E.D b := fun l hl b hb => hD b (Nat.le_of_ble_eq_true (List.all_eq_true.1 hl b hb))
  have ht : ∀ {k : Nat}, Nat.ble k 60 = true → k ≤ E.top := fun h => by rw [hT]; exact Nat.le_of_ble_eq_true h
  have hm : 0 ≤ m0 np ∧ m0 np ≤ 200 ∧ m0 np ≤ np ∧ (m0 np = 200 ∨ m0 np = np) := by unfold m0; split <;> omega
  have hs0 : m0 np ≤ 0 → ListOwnP.Soon xs (zz s00) (0 : Int).toNat (243 - (0 - m0 np).toNat) := fun h => by
    have e : (0 - m0 np).toNat = 0 := by omega
    rw [e]
    exact ListOwnP.soon_any (by have := ListOwnP.phi_le xs (zz s00); omega)
  refine Tri.seq (R := fun x s => x = .normal ∧ J N n np ps 0 0 s) ?_ ?_ (fun x s hx hh => absurd hh.1 hx)
  · refine Tri.postE (Q := fun x s => x = .normal ∧ ∀ aa ww, At MS E s aa ww → ∃ s', At MS E s' aa ww ∧ J N n np ps 0 0 s') (Tri.allR (m := 12) (n := 253) (codeOK _) (init n N c 0 np ps xs _ _ _ (.t []) js G.inv.len (by omega)) (Tr.all_ok ⟨rfl, ht rfl, hd _ rfl, fun js => ⟨rfl, fun aa ww hat => ⟨St0 n np N 0 ps xs c s00 js, at_tm (p' := pre n np N 0) (by (repeat' apply And.intro) <;> first | rfl | trivial) hat, xs, c, s00, V, L, js, G, by omega, by omega, hs0, rfl⟩⟩⟩)) ?_
    rintro x s aa ww ⟨rfl, hh⟩ hat
    obtain ⟨s', h1, h2⟩ := hh aa ww hat
    exact ⟨s', h1, rfl, h2⟩
  · rintro s ⟨_, hJ⟩
    refine Tri.block (R := fun x s => x = .exit 0 ∧ ∃ i, 0 ≤ i ∧ i ≤ 600 ∧ J N n np ps i i s ∧ ((np : Int) + 400 ≤ i ∨ 600 ≤ i)) ?_ (fun s hh => by
      rcases hh with hh | hh
      · cases hh.1
      · obtain ⟨_, i, h0, h1, ⟨xs, c, s, V, L, js, G, hc, hV, hs, rfl⟩, h2⟩ := hh
        have h3 := hs (by omega)
        have e : 243 - (i - m0 np).toNat = 0 := by omega
        rw [e] at h3
        exact ⟨rfl, xs, c, s, V, L, i, js, G, ListOwnP.soon_end h3, by omega, by omega, rfl⟩) (fun x s hx1 hx hh => absurd hh.1 hx)
    refine Tri.loop (J := fun k s => ∃ i : Int, 0 ≤ i ∧ i ≤ 600 ∧ J N n np ps i i s ∧ k = (600 - i).toNat) ?_ (k := (600 - 0 : Int).toNat) ⟨0, by decide, by decide, hJ, rfl⟩
    rintro k s ⟨i, h0, h1, hJ, rfl⟩
    refine (round N n np ps hnp hnl hf E hE hT hD ⟨h0, h1⟩ hJ).mono ?_
    rintro x s (⟨rfl, h2, h3⟩ | ⟨rfl, h3, h4⟩)
    · exact ⟨(600 - (i + 1)).toNat, by omega, i + 1, by omega, h2, h3, rfl⟩
    · exact ⟨rfl, i, h0, h1, h3, h4⟩
end
end Go.Proofs.Ytjohhjilglilkaa.ListOwn
