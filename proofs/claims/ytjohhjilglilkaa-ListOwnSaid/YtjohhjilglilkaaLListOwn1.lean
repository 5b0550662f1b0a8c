/-
  ListOwn: a step in the plain law's words: what is kept, and how near the end is.
-/
import Derived.Test.YtjohhjilglilkaaLListOwn0
namespace Go.Proofs.Ytjohhjilglilkaa.ListOwn
open Go Go.RowKit Go.Proofs.Ytjohhjilglilkaa.Eng
set_option linter.unusedVariables false
set_option linter.unusedSimpArgs false
set_option linter.unusedSectionVars false
set_option maxRecDepth 20000
set_option maxHeartbeats 1000000
abbrev own' (s : Nat → WS) : Nat → List Int := fun k => (s k).h.own
abbrev zz (s : Nat → WS) : Nat → ListOwnP.PW := fun k => (s k).z.abs
theorem own_upd (s : Nat → WS) (q : Nat) (Y : WS) : own' (upd s q Y) = ListOwnP.upd (own' s) q Y.h.own := by
  funext k
  show (upd s q Y k).h.own = ListOwnP.upd (own' s) q Y.h.own k
  by_cases h : k = q
  · rw [h, upd_eq, ListOwnP.upd_eq]
  · rw [upd_ne _ _ h, ListOwnP.upd_ne _ _ h]
theorem zz_upd (s : Nat → WS) (q : Nat) (Y : WS) : zz (upd s q Y) = ListOwnP.upd (zz s) q Y.z.abs := by
  funext k
  show (upd s q Y k).z.abs = ListOwnP.upd (zz s) q Y.z.abs k
  by_cases h : k = q
  · rw [h, upd_eq, ListOwnP.upd_eq]
  · rw [upd_ne _ _ h, ListOwnP.upd_ne _ _ h]
structure Good (N : Nat) (xs : List Int) (V : Int) (L : List Int) (s : Nat → WS) : Prop where
  inv : ListOwnP.Inv N xs V L (own' s) (zz s)
  sh : ∀ k, k < 4 → (s k).z.ok ∧ (s k).h.ok
section
variable {N : Nat} {xs : List Int} {V : Int} {L : List Int} {s : Nat → WS} (G : Good N xs V L s) {q : Nat} (hq : q < 4)
include G hq
theorem Good.step (hV : V + 1 ≤ 1000000) {b1 : Bool} {t : Int} {Y : WS} {ys : List Int} {t' : Int} (hk : KA xs t (s q) b1 Y ys t') : ∃ V' L', V' ≤ V + 1 ∧ Good N ys V' L' (upd s q Y) := by
  obtain ⟨_, _, h1, h2, h3, _⟩ := hk
  obtain ⟨V', L', _, h4, h5⟩ := ListOwnP.keeps G.inv hq hV (o' := Y.h.own) (p' := Y.z.abs) h1
  refine ⟨V', L', h4, by rw [own_upd, zz_upd]; exact h5, fun k hk => ?_⟩
  by_cases e : k = q
  · rw [e, upd_eq]; exact ⟨h2, h3⟩
  · rw [upd_ne _ _ e]; exact G.sh k hk
theorem Good.few : (s q).h.own.length ≤ 12 := by
  have h := G.inv.perm.length_eq
  have hn := G.inv.hn
  have hc : (ListOwnP.cells N).length = N := by simp [ListOwnP.cells]
  rw [hc] at h
  unfold ListOwnP.allOf at h
  simp only [List.length_append] at h
  rcases q4 hq with rfl | rfl | rfl | rfl <;> (simp only [own'] at h; omega)
theorem Good.p1 (w : Int) (h : (s q).z.abs = .pop1 w) : 96 ≤ mAt w ∧ mAt w < 160 := by
  have h1 := G.inv.ok q hq
  have h2 : zz s q = .pop1 w := h
  rw [h2] at h1
  exact G.inv.rng h1.2
theorem Good.p2 (w k : Int) (h : (s q).z.abs = .pop2 w k) : 96 ≤ mAt w ∧ mAt w < 160 := by
  have h1 := G.inv.ok q hq
  have h2 : zz s q = .pop2 w k := h
  rw [h2] at h1
  exact G.inv.rng h1.2.1
theorem Good.u (a : Int) (h : a ∈ (s q).z.abs.cell) : 96 ≤ a ∧ a < 160 := G.inv.rng (G.inv.cellq hq h)
end
/-- A round in turn comes nearer to the end. -/
theorem near_step {N : Nat} {xs : List Int} {V : Int} {L : List Int} {s : Nat → WS} (G : Good N xs V L s) {i m : Nat} {t : Int} {Y : WS} {ys : List Int} {t' : Int} (hk : KA xs t (s (i % 4)) false Y ys t') (hs : ListOwnP.Soon xs (zz s) i (m + 1)) : ListOwnP.Soon ys (zz (upd s (i % 4) Y)) (i + 1) m := by
  have hq : i % 4 < 4 := Nat.mod_lt _ (by decide)
  obtain ⟨h0, _, h1, _⟩ := hk
  by_cases e : (s (i % 4)).z = .idle
  · obtain ⟨rfl, rfl⟩ := h0 rfl e
    rw [← upd_self]
    exact ListOwnP.soon_idle rfl hs (by show (s (i % 4)).z.abs = .idle; rw [e]; rfl)
  · have e2 : zz s (i % 4) ≠ .idle := fun h => e (by
      have h : (s (i % 4)).z.abs = .idle := h
      cases hz : (s (i % 4)).z with
      | idle => rfl
      | pop j w k se => rw [hz] at h; match j, h with | 0, h => cases h | 1, h => cases h | j + 2, h => cases h
      | push j a w => rw [hz] at h; match j, h with | 0, h => cases h | 1, h => cases h | j + 2, h => cases h)
    rw [zz_upd]
    exact ListOwnP.soon_step hs e2 (ListOwnP.nearer G.inv hq e2 h1)
end Go.Proofs.Ytjohhjilglilkaa.ListOwn
