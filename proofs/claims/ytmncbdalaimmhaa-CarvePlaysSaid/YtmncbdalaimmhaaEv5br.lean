/-
  The reference's Block: a loop over the plan's blocks.
-/
import Derived.Test.YtmncbdalaimmhaaEv5r
import Derived.Test.YtmncbdalaimmhaaEngU
namespace Go.Proofs.Ytmncbdalaimmhaa.Eng
open Go Go.RowKit
set_option linter.unusedSimpArgs false
set_option linter.unusedVariables false

def unitS : Eng.Sys Unit := ⟨fun _ _ _ _ => False, fun _ h => h⟩
theorem code0 {S : Eng.Sys Unit} (R d : Nat) (c : Code) : CodeOK S Try.prog c (evCode Try.prog (evF Try.prog (I0 Unit) R d) R c) :=
  evCode_sound progOK (fun f args hp nid r h _ => evF_sound progOK (fun _ _ h => by cases h) R d f args hp nid r h) R c

namespace RB
noncomputable abbrev body : Code := Try.f25.body.get!
noncomputable abbrev ev (c : Code) : St Unit → Tr (VX × St Unit) := evCode Try.prog (evF Try.prog (I0 Unit) 100 19) 100 c
theorem hb : Try.f25.body = some body := by kernel_rfl
theorem code : body = .seq (codeAt body [false]) (.seq (.seq (codeAt body [true, false, false]) (.block 0 (.loop (codeAt body [true, false, true, false, false])))) (codeAt body [true, true])) := by kernel_rfl
section
variable (t b u h s a : Int)
abbrev pl : List VV := [ii t, ii b, ii u, ii h, ii s]
abbrev pre (r i : VV) : List SV := [.s (.agg (pl t b u h s)), .v (ii a), .v (.ptr 0 0), .undef, .v r, .v i]
abbrev hp0 : HP Unit := [(0, some (.cells (pl t b u h s) 25))]
abbrev rr (z : Int) : VV := .int .i64 (.lit z)
theorem start : ((ev (codeAt body [false]) ⟨[.s (.agg (pl t b u h s)), .v (ii a)] ++ List.replicate (Try.f25.ntmps - 2) .undef, [], 0, []⟩).vmap (leaf 6)) =
    .ok ⟨.normal, [.s (.agg (pl t b u h s)), .v (ii a), .v (.ptr 0 0), .undef, .v (rr 0), .undef], 30, hp0 t b u h s, 1, [0]⟩ := by kernel_rfl
theorem first (js : Nat → SV) : ((ev (codeAt body [true, false, false]) ⟨[.s (.agg (pl t b u h s)), .v (ii a), .v (.ptr 0 0), .undef, .v (rr 0), .undef] ++ junk js 24 6, hp0 t b u h s, 1, [0]⟩).vmap (leaf 6)) =
    .ok ⟨.normal, pre t b u h s a (rr 0) (rr 0), 30, hp0 t b u h s, 1, [0]⟩ := by kernel_rfl
theorem round (i : Int) (js : Nat → SV) : ((ev (codeAt body [true, false, true, false, false]) ⟨pre t b u h s a (rr 0) (ii i) ++ junk js 24 6, hp0 t b u h s, 1, [0]⟩).vmap (leaf 6)) =
    .ite (decide (i < b)) (.ite (decide (a ≥ IntKind.i64.wrap (h + IntKind.i64.wrap (32 * i)))) (.ite (decide (a < IntKind.i64.wrap (IntKind.i64.wrap (h + IntKind.i64.wrap (32 * i)) + 32)))
      (.ok ⟨.ret, pre t b u h s a (ii i) (ii i), 30, hp0 t b u h s, 1, [0]⟩)
      (.ok ⟨.normal, pre t b u h s a (rr 0) (ii (IntKind.i64.wrap (i + 1))), 30, hp0 t b u h s, 1, [0]⟩))
      (.ok ⟨.normal, pre t b u h s a (rr 0) (ii (IntKind.i64.wrap (i + 1))), 30, hp0 t b u h s, 1, [0]⟩))
      (.ok ⟨.exit 0, pre t b u h s a (rr 0) (ii i), 30, hp0 t b u h s, 1, [0]⟩) := by kernel_rfl
theorem last (i : VV) (js : Nat → SV) : ((ev (codeAt body [true, true]) ⟨pre t b u h s a (rr 0) i ++ junk js 24 6, hp0 t b u h s, 1, [0]⟩).vmap (leaf 6)) =
    .ok ⟨.ret, pre t b u h s a (rr (-1)) i, 30, hp0 t b u h s, 1, [0]⟩ := by kernel_rfl
theorem res (r i : VV) (js : Nat → SV) : vresults Try.prog (⟨pre t b u h s a r i ++ junk js 24 6, hp0 t b u h s, 1, [0]⟩ : St Unit) Try.f25.results.toList = .ok [.one r] := by kernel_rfl
end
def mBlk (h s a : Int) : Int := if a < h ∨ a ≥ s then -1 else (a - h) / 32
theorem calls {t b u h s a : Int} (hb1 : 0 ≤ b ∧ b ≤ 64) (hh : 0 ≤ h ∧ h ≤ 100000) (hs : s = h + 32 * b) : PureCalls Try.prog 25 [.s (.agg (pl t b u h s)), .v (ii a)] (.v (ii (mBlk h s a))) := by
  intro w vargs hargs
  have key : Tri unitS Try.prog (lawCtx Unit 1 w) body ⟨[.s (.agg (pl t b u h s)), .v (ii a)] ++ List.replicate (Try.f25.ntmps - 2) .undef, [], 0, []⟩
      fun x st => x = .ret ∧ ∃ r i js, st = ⟨pre t b u h s a r i ++ junk js 24 6, hp0 t b u h s, 1, [0]⟩ ∧ wkV r (ii (mBlk h s a)) := by
    rw [code]
    refine Tri.seq (Tri.leaf (m := 6) (n := 24) (code0 _ _ _) ((congrArg Tr.run (start t b u h s a)).trans rfl) rfl (Nat.le_refl 1) (fun _ _ => trivial)) ?_ (fun x st hx hh => absurd hh.1 hx)
    rintro st ⟨_, js, rfl⟩
    refine Tri.seq (R := fun x st => (x = .normal ∧ (a < h ∨ a ≥ s) ∧ ∃ i js, st = ⟨pre t b u h s a (rr 0) i ++ junk js 24 6, hp0 t b u h s, 1, [0]⟩) ∨
        (x = .ret ∧ ∃ r i js, st = ⟨pre t b u h s a r i ++ junk js 24 6, hp0 t b u h s, 1, [0]⟩ ∧ wkV r (ii (mBlk h s a)))) ?_ ?_ ?_
    · refine Tri.seq (Tri.leaf (m := 6) (n := 24) (code0 _ _ _) ((congrArg Tr.run (first t b u h s a js)).trans rfl) rfl (Nat.le_refl 1) (fun _ _ => trivial)) ?_ (fun x st hx hh => absurd hh.1 hx)
      rintro st ⟨_, js, rfl⟩
      refine Tri.block (R := fun x st => (x = .exit 0 ∧ (a < h ∨ a ≥ s) ∧ ∃ i js, st = ⟨pre t b u h s a (rr 0) i ++ junk js 24 6, hp0 t b u h s, 1, [0]⟩) ∨
        (x = .ret ∧ ∃ r i js, st = ⟨pre t b u h s a r i ++ junk js 24 6, hp0 t b u h s, 1, [0]⟩ ∧ wkV r (ii (mBlk h s a)))) ?_ ?_ ?_
      · refine Tri.preE fun ac wd hat => ⟨⟨pre t b u h s a (rr 0) (ii 0) ++ junk js 24 6, hp0 t b u h s, 1, [0]⟩, at_wk ?_ ?_ hat, ?_⟩
        · (repeat' apply And.intro) <;> first | rfl | trivial
        · (repeat' apply And.intro) <;> first | rfl | trivial
        refine Tri.loop (J := fun k st => ∃ i js, st = ⟨pre t b u h s a (rr 0) (ii i) ++ junk js 24 6, hp0 t b u h s, 1, [0]⟩ ∧ 0 ≤ i ∧ i ≤ b ∧ k = (b - i).toNat ∧ (a < h ∨ a ≥ h + 32 * i)) ?_ (k := (b - 0).toNat) ⟨0, js, rfl, by omega, by omega, rfl, by omega⟩
        rintro k st ⟨i, js, rfl, hi0, hi1, hk, hi⟩
        have e1 : IntKind.i64.wrap (32 * i) = 32 * i := wrap_i64_of (by omega) (by omega)
        have e2 : IntKind.i64.wrap (h + 32 * i) = h + 32 * i := wrap_i64_of (by omega) (by omega)
        have e3 : IntKind.i64.wrap (h + 32 * i + 32) = h + 32 * i + 32 := wrap_i64_of (by omega) (by omega)
        have e4 : IntKind.i64.wrap (i + 1) = i + 1 := wrap_i64_of (by omega) (by omega)
        have hr := round t b u h s a i js
        rw [e1, e2, e3, e4] at hr
        by_cases c1 : i < b
        · by_cases c2 : a ≥ h + 32 * i
          · by_cases c3 : a < h + 32 * i + 32
            · refine (Tri.leaf (m := 6) (n := 24) (code0 _ _ _) ((congrArg Tr.run hr).trans (by simp only [c1, c2, c3, decide_true, Tr.run]; rfl)) rfl (Nat.le_refl 1) (fun _ _ => trivial)).mono ?_
              rintro x st ⟨rfl, js', rfl⟩
              refine .inr ⟨rfl, _, _, js', rfl, rfl, ?_⟩
              show i = mBlk h s a
              unfold mBlk
              rw [if_neg (by omega)]
              omega
            · refine (Tri.leaf (m := 6) (n := 24) (code0 _ _ _) ((congrArg Tr.run hr).trans (by simp only [c1, c2, c3, decide_true, decide_false, Tr.run]; rfl)) rfl (Nat.le_refl 1) (fun _ _ => trivial)).mono ?_
              rintro x st ⟨rfl, js', rfl⟩
              exact ⟨(b - (i + 1)).toNat, by omega, i + 1, js', rfl, by omega, by omega, rfl, by omega⟩
          · refine (Tri.leaf (m := 6) (n := 24) (code0 _ _ _) ((congrArg Tr.run hr).trans (by simp only [c1, c2, decide_true, decide_false, Tr.run]; rfl)) rfl (Nat.le_refl 1) (fun _ _ => trivial)).mono ?_
            rintro x st ⟨rfl, js', rfl⟩
            exact ⟨(b - (i + 1)).toNat, by omega, i + 1, js', rfl, by omega, by omega, rfl, by omega⟩
        · refine (Tri.leaf (m := 6) (n := 24) (code0 _ _ _) ((congrArg Tr.run hr).trans (by simp only [c1, decide_false, Tr.run]; rfl)) rfl (Nat.le_refl 1) (fun _ _ => trivial)).mono ?_
          rintro x st ⟨rfl, js', rfl⟩
          exact .inl ⟨rfl, by omega, _, js', rfl⟩
      · intro st hst
        rcases hst with h1 | h1
        · rcases h1 with h1 | h1 <;> cases h1.1
        · rcases h1 with h1 | h1
          · exact .inl ⟨rfl, h1.2⟩
          · cases h1.1
      · rintro x st hx1 hx2 (⟨rfl, _⟩ | hst)
        · exact absurd rfl hx2
        · exact .inr hst
    · rintro st (⟨_, ha, i, js', rfl⟩ | ⟨hx, _⟩)
      · refine (Tri.leaf (m := 6) (n := 24) (code0 _ _ _) ((congrArg Tr.run (last t b u h s a i js')).trans rfl) rfl (Nat.le_refl 1) (fun _ _ => trivial)).mono ?_
        rintro x st ⟨rfl, js2, rfl⟩
        refine ⟨rfl, _, _, js2, rfl, rfl, ?_⟩
        show -1 = mBlk h s a
        unfold mBlk
        rw [if_pos ha]
      · cases hx
    · rintro x st hx (⟨hn, _⟩ | hst)
      · exact absurd hn hx
      · exact hst
  refine (calls_of_tri (R := fun x => ∀ ρ v, RS ρ x v → RS ρ (.v (ii (mBlk h s a))) v) Try.func25 hb 1 (key.mono ?_) hargs).mono ?_
  · rintro x st ⟨rfl, r, i, js, rfl, hw⟩
    exact ⟨.inr rfl, [.one r], (congrArg Tr.run (res t b u h s a r i js)).trans rfl, fun ρ v hv => wkS_ok (x := .v r) (y := .v (ii (mBlk h s a))) hw hv⟩
  · rintro e w' ⟨v, x, ρ, rfl, hv, hR, hbel⟩
    exact ⟨v, ρ, rfl, hR ρ v hv, hbel⟩
end RB
end Go.Proofs.Ytmncbdalaimmhaa.Eng
