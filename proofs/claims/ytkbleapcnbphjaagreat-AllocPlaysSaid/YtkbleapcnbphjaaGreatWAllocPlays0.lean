/-
  AllocPlays: a step of a worker, whichever it is: its objects are opened, the step runs, they are hidden again. Printed by genAPW.py.
-/
import Derived.Test.YtkbleapcnbphjaaGreatDAllocPlays
import Derived.Test.YtkbleapcnbphjaaGreatTAllocPlays2
import Derived.Test.YtkbleapcnbphjaaGreatTAllocPlays3
import Derived.Test.YtkbleapcnbphjaaGreatTAllocPlays4
import Derived.Test.YtkbleapcnbphjaaGreatTAllocPlays5
namespace Go.Proofs.YtkbleapcnbphjaaGreat.AllocPlays
open Go Go.RowKit Go.Proofs.YtkbleapcnbphjaaGreat.Eng
set_option linter.unusedVariables false
set_option linter.unusedSimpArgs false
set_option linter.unusedSectionVars false
set_option maxRecDepth 20000
set_option maxHeartbeats 1000000
/-- The worker's cell alone. -/
abbrev PN (q : Nat) (x : VV) : List VV := match q with
  | 0 => [x, .nilp, .nilp, .nilp]
  | 1 => [.nilp, x, .nilp, .nilp]
  | 2 => [.nilp, .nilp, x, .nilp]
  | _ => [.nilp, .nilp, .nilp, x]
def fm (q : Nat) : List Bool := match q with
  | 0 => [true, false, false, false]
  | 1 => [false, true, false, false]
  | 2 => [false, false, true, false]
  | _ => [false, false, false, true]
def LS (l : Lf MObj) (st : St MObj) : Prop := ∃ js, st = ⟨l.pre ++ junk js 177 15, l.hp, l.nid, []⟩
/-- What must hold of the objects behind a step, so that the workers' objects can be hidden again. -/
def Shut (B p4 : Int) (q kA kB kC : Nat) (s : Nat → AS) (hp : HP MObj) (nid : Nat) (vA vB vC vD : Nat → Value) (Y : AS) (xA xB xC xD : VV) (RA RB RC RD : List (Nat × Nat)) (R : HP MObj) : Prop :=
  hget (hp) 7 = some (.cells (rawAt vD (mK q) 0 (AC q xD vD)) 41) ∧ renMask RD (mK q) (AC q xD vD) = some (PN q (cD q Y)) ∧ renHP RD (hp) RD = some (upHP (fD B p4 q Y)) ∧ grpChk (Z (bq q)) (8 + kA + kB + kC) nid 7 RD (upHP (fD B p4 q Y)) = true ∧
  hget (closeH 7 (GD B p4 (upd s q Y)) (RD.map (·.1)) (hp)) 6 = some (.cells (rawAt vC (mK q) 0 (AC q xC vC)) 39) ∧ renMask RC (mK q) (AC q xC vC) = some (PN q (cC q Y)) ∧ renHP RC (closeH 7 (GD B p4 (upd s q Y)) (RD.map (·.1)) (hp)) RC = some (upHP (fC B p4 q Y)) ∧ grpChk (Z (bq q)) (8 + kA + kB) nid 6 RC (upHP (fC B p4 q Y)) = true ∧
  hget (closeH 6 (GC B p4 (upd s q Y)) (RC.map (·.1)) (closeH 7 (GD B p4 (upd s q Y)) (RD.map (·.1)) (hp))) 5 = some (.cells (rawAt vB (mK q) 0 (AC q xB vB)) 37) ∧ renMask RB (mK q) (AC q xB vB) = some (PN q (cB q Y)) ∧ renHP RB (closeH 6 (GC B p4 (upd s q Y)) (RC.map (·.1)) (closeH 7 (GD B p4 (upd s q Y)) (RD.map (·.1)) (hp))) RB = some (upHP (fB B p4 q Y)) ∧ grpChk (Z (bq q)) (8 + kA) nid 5 RB (upHP (fB B p4 q Y)) = true ∧
  hget (closeH 5 (GB B p4 (upd s q Y)) (RB.map (·.1)) (closeH 6 (GC B p4 (upd s q Y)) (RC.map (·.1)) (closeH 7 (GD B p4 (upd s q Y)) (RD.map (·.1)) (hp)))) 4 = some (.cells (rawAt vA (mK q) 0 (AC q xA vA)) 35) ∧ renMask RA (mK q) (AC q xA vA) = some (PN q (cA q Y)) ∧ renHP RA (closeH 5 (GB B p4 (upd s q Y)) (RB.map (·.1)) (closeH 6 (GC B p4 (upd s q Y)) (RC.map (·.1)) (closeH 7 (GD B p4 (upd s q Y)) (RD.map (·.1)) (hp)))) RA = some (upHP (fA B p4 q Y)) ∧ grpChk (Z (bq q)) 8 nid 4 RA (upHP (fA B p4 q Y)) = true ∧
  renHP R8 (closeH 4 (GA B p4 (upd s q Y)) (RA.map (·.1)) (closeH 5 (GB B p4 (upd s q Y)) (RB.map (·.1)) (closeH 6 (GC B p4 (upd s q Y)) (RC.map (·.1)) (closeH 7 (GD B p4 (upd s q Y)) (RD.map (·.1)) (hp))))) R8 = some R ∧ renChk R8 (closeH 4 (GA B p4 (upd s q Y)) (RA.map (·.1)) (closeH 5 (GB B p4 (upd s q Y)) (RB.map (·.1)) (closeH 6 (GC B p4 (upd s q Y)) (RC.map (·.1)) (closeH 7 (GD B p4 (upd s q Y)) (RD.map (·.1)) (hp))))) 1 nid 8 = true
theorem rawAC {q : Nat} (hq : q < 4) (vs : Nat → Value) (x : VV) : rawAt vs (mK q) 0 (PN q x) = AC q x vs := by
  rcases q4 hq with rfl | rfl | rfl | rfl <;> rfl
theorem mK_len (q : Nat) : (mK q).length = 4 := by
  match q with
  | 0 => rfl
  | 1 => rfl
  | 2 => rfl
  | _ + 3 => rfl
theorem Z0 (b : Nat) : Z b 0 = true := rfl
section
variable (B p4 : Int)
theorem dnA (q : Nat) (Y : AS) : dnHP (upHP (fA B p4 q Y)) = fA B p4 q Y := by
  cases Y with
  | all cn mk r wd => cases r <;> rfl
  | _ => rfl
theorem dnB (q : Nat) (Y : AS) : dnHP (upHP (fB B p4 q Y)) = fB B p4 q Y := by
  cases Y with
  | all cn mk r wd => cases r <;> rfl
  | _ => rfl
theorem dnC (q : Nat) (Y : AS) : dnHP (upHP (fC B p4 q Y)) = fC B p4 q Y := by
  cases Y with
  | res r wb => cases r <;> rfl
  | _ => rfl
theorem dnD (q : Nat) (Y : AS) : dnHP (upHP (fD B p4 q Y)) = fD B p4 q Y := by
  cases Y with
  | res r wb => cases r <;> rfl
  | _ => rfl
end
theorem mixPN {q : Nat} (hq : q < 4) (C : Nat → AS → VV) (s : Nat → AS) (X Y : AS) : mixAt (mK q) (CL C (upd s q X)) (PN q (C q Y)) = CL C (upd s q Y) := by
  rcases q4 hq with rfl | rfl | rfl | rfl <;> rfl
theorem stq {q : Nat} (hq : q < 4) : 0 ≤ ((q / 2 : Nat) : Int) ∧ ((q / 2 : Nat) : Int) < 2 := by omega
theorem hdq {q : Nat} (hq : q < 4) {cl : Int} (h : 0 ≤ cl ∧ cl < 3) : 0 ≤ W (W (3 + 3 * ((q / 2 : Nat) : Int)) + cl) ∧ W (W (3 + 3 * ((q / 2 : Nat) : Int)) + cl) < 32 := by
  have h1 := stq hq
  have e : W (3 + 3 * ((q / 2 : Nat) : Int)) = 3 + 3 * ((q / 2 : Nat) : Int) := wrap_i64_of (by omega) (by omega)
  rw [e, show W (3 + 3 * ((q / 2 : Nat) : Int) + cl) = 3 + 3 * ((q / 2 : Nat) : Int) + cl from wrap_i64_of (by omega) (by omega)]
  omega
theorem hdr {st cl : Int} (h1 : 0 ≤ st ∧ st < 2) (h : 0 ≤ cl ∧ cl < 3) : 0 ≤ W (W (3 + W (3 * st)) + cl) ∧ W (W (3 + W (3 * st)) + cl) < 32 := by
  have e0 : W (3 * st) = 3 * st := wrap_i64_of (by omega) (by omega)
  have e : W (3 + 3 * st) = 3 + 3 * st := wrap_i64_of (by omega) (by omega)
  rw [e0, e, show W (3 + 3 * st + cl) = 3 + 3 * st + cl from wrap_i64_of (by omega) (by omega)]
  omega
theorem in_of {a B : Int} {xs : List Int} (hx : (xs.length : Int) = 32 + 32 * B) (hB : 1 ≤ B ∧ B ≤ 4) (h : 0 ≤ a ∧ a < 32) : inb a xs.length = true := inb_iff.2 (by omega)
theorem mCl {x : Int} (h : 0 ≤ x ∧ x < 8) : 0 ≤ mClass x ∧ mClass x < 3 := by
  unfold mClass
  split
  · omega
  · split
    · omega
    · split <;> omega
theorem tm8 (x : Int) (h : 0 ≤ x) : 0 ≤ Int.tmod x 8 ∧ Int.tmod x 8 < 8 := ⟨Int.tmod_nonneg _ h, Int.tmod_lt_of_pos _ (by decide)⟩
theorem tm3 (x : Int) (h : 0 ≤ x) : 0 ≤ Int.tmod x 3 ∧ Int.tmod x 3 < 3 := ⟨Int.tmod_nonneg _ h, Int.tmod_lt_of_pos _ (by decide)⟩
theorem dv4 {kk : Int} (h : 0 ≤ kk ∧ kk < 64) : 0 ≤ W (Int.tdiv kk 4) := by
  have h1 : Int.tdiv kk 4 = kk / 4 := Int.tdiv_eq_ediv_of_nonneg h.1
  have h2 : W (Int.tdiv kk 4) = kk / 4 := by rw [h1]; exact wrap_i64_of (by omega) (by omega)
  rw [h2]; omega
theorem kLt {k cl : Int} (h : k < W (mCells cl - 1)) : k < 8 := by
  unfold mCells at h
  split at h
  · simp only [W, wrap64] at h; omega
  · split at h
    · simp only [W, wrap64] at h; omega
    · split at h <;> (simp only [W, wrap64] at h; omega)
theorem w1 {k : Int} (h : 0 ≤ k ∧ k ≤ 8) : W (k + 1) = k + 1 := wrap_i64_of (by omega) (by omega)
section
variable {n i B p4 c d t : Int} {np : Nat} {ps : List (List Int)} {xs : List Int} {q : Nat} (hq : q < 4) (hx : (xs.length : Int) = 32 + 32 * B) (hp4 : p4 = 32 + 32 * B) (hB : 1 ≤ B ∧ B ≤ 4) (hc : 0 ≤ c ∧ c ≤ 100000) (hc2 : 0 ≤ d ∧ d ≤ 100000) (E : Ctx MObj) (hE : E.nid0 = 1) (hT : E.top = 60) (hD : ∀ b, 1 ≤ b → E.D b)
include hq hx hp4 hB hc hc2 hE hT hD
/-- A worker's step: its objects are opened, it runs, they are hidden again. -/
theorem step4 (s : Nat → AS) (X : AS) (kA kB kC kD : Nat) (xA xB xC xD : VV) (kk : Int) (js : Nat → SV) (hk2 : kA + kB + kC + kD ≤ 40) (hl : (fA B p4 q X).length = kA ∧ (fB B p4 q X).length = kB ∧ (fC B p4 q X).length = kC ∧ (fD B p4 q X).length = kD)
    (ho : (renMask (numb ((fA B p4 q X).map (·.1)) (8)) (mK q) (CL cA (upd s q X)) = some (PN q xA) ∧ renHP (numb ((fA B p4 q X).map (·.1)) (8)) (upHP (fA B p4 q X)) (numb ((fA B p4 q X).map (·.1)) (8)) = some (upHP (fAb B p4 (8) X))) ∧ (renMask (numb ((fB B p4 q X).map (·.1)) (8 + kA)) (mK q) (CL cB (upd s q X)) = some (PN q xB) ∧ renHP (numb ((fB B p4 q X).map (·.1)) (8 + kA)) (upHP (fB B p4 q X)) (numb ((fB B p4 q X).map (·.1)) (8 + kA)) = some (upHP (fBb B p4 (8 + kA) X))) ∧ (renMask (numb ((fC B p4 q X).map (·.1)) (8 + kA + kB)) (mK q) (CL cC (upd s q X)) = some (PN q xC) ∧ renHP (numb ((fC B p4 q X).map (·.1)) (8 + kA + kB)) (upHP (fC B p4 q X)) (numb ((fC B p4 q X).map (·.1)) (8 + kA + kB)) = some (upHP (fCb B p4 (8 + kA + kB) X))) ∧ (renMask (numb ((fD B p4 q X).map (·.1)) (8 + kA + kB + kC)) (mK q) (CL cD (upd s q X)) = some (PN q xD) ∧ renHP (numb ((fD B p4 q X).map (·.1)) (8 + kA + kB + kC)) (upHP (fD B p4 q X)) (numb ((fD B p4 q X).map (·.1)) (8 + kA + kB + kC)) = some (upHP (fDb B p4 (8 + kA + kB + kC) X))))
    (hb : ∀ vA vB vC : Nat → Value, hget (upHP (fAb B p4 (8) X) ++ hset (bas ps B p4 xs c d t (upd s q X)) 4 (.cells (AC q xA vA) 35)) 5 = some (.abs (.grp (GB B p4 (upd s q X)))) ∧ hget (upHP (fBb B p4 (8 + kA) X) ++ hset (upHP (fAb B p4 (8) X) ++ hset (bas ps B p4 xs c d t (upd s q X)) 4 (.cells (AC q xA vA) 35)) 5 (.cells (AC q xB vB) 37)) 6 = some (.abs (.grp (GC B p4 (upd s q X)))) ∧ hget (upHP (fCb B p4 (8 + kA + kB) X) ++ hset (upHP (fBb B p4 (8 + kA) X) ++ hset (upHP (fAb B p4 (8) X) ++ hset (bas ps B p4 xs c d t (upd s q X)) 4 (.cells (AC q xA vA) 35)) 5 (.cells (AC q xB vB) 37)) 6 (.cells (AC q xC vC) 39)) 7 = some (.abs (.grp (GD B p4 (upd s q X)))))
    (inner : ∀ (vA vB vC vD : Nat → Value) (E2 : Ctx MObj), E2.top = 60 → (∀ n, 1 ≤ n → E2.D n) → TriX MS ((qt [true, true]).wp Tryz.prog) E2 ⟨pre n np i ++ [.v (ii kk), .v (lt q)] ++ junk js 175 17, upHP (fDb B p4 (8 + kA + kB + kC) X) ++ hset (upHP (fCb B p4 (8 + kA + kB) X) ++ hset (upHP (fBb B p4 (8 + kA) X) ++ hset (upHP (fAb B p4 (8) X) ++ hset (bas ps B p4 xs c d t (upd s q X)) 4 (.cells (AC q xA vA) 35)) 5 (.cells (AC q xB vB) 37)) 6 (.cells (AC q xC vC) 39)) 7 (.cells (AC q xD vD) 41), 8 + kA + kB + kC + kD, []⟩ fun x st => x = .normal ∧ ∃ (Y : AS) (xs' : List Int) (c' d' t' : Int) (yA yB yC yD : VV) (RA RB RC RD : List (Nat × Nat)), (∃ js, st.tm = pre n np i ++ junk js 177 15) ∧
      Shut B p4 q kA kB kC s st.hp st.nid vA vB vC vD Y yA yB yC yD RA RB RC RD (bas ps B p4 xs' c' d' t' (upd s q Y)) ∧ (xs'.length : Int) = 32 + 32 * B ∧ Y.ok ∧ (8 ≤ st.nid ∧ c ≤ c' ∧ c' ≤ c + 2 ∧ d ≤ d' ∧ d' ≤ d + 2))
    (hoth : ∀ k, k < 4 → (s k).ok) :
    TriX MS ((qt [true, true]).wp Tryz.prog) E ⟨pre n np i ++ [.v (ii kk), .v (lt q)] ++ junk js 175 17, bas ps B p4 xs c d t (upd s q X), 8, []⟩ (Mid n np i ps B p4 c d) := by
  obtain ⟨⟨a1, a2⟩, ⟨b1, b2⟩, ⟨c1, c2⟩, d1, d2⟩ := ho
  obtain ⟨lA, lB, lC, lD⟩ := hl
  refine tri_group (mono_wp _) 4 (GA B p4 (upd s q X)) (fA B p4 q X) (oth (fA B p4) q (upd s q X)) (mK q) (CL cA (upd s q X)) (PN q xA) 35 (upHP (fAb B p4 (8) X)) (Z (bq q)) rfl (hg (own_A B p4) hq _ s X) (hk (own_A B p4) hq X) ((own_A B p4).nd q _) (mK_len q) (Z0 _) (hZL (own_A B p4) hq _) (hZF (own_A B p4) hq _) a1 a2 (by rw [hT, lA]; omega) (hD 4 (by decide)) ?_
  intro vA EA nA tA uA
  rw [rawAC hq, lA]
  refine tri_group (mono_wp _) 5 (GB B p4 (upd s q X)) (fB B p4 q X) (oth (fB B p4) q (upd s q X)) (mK q) (CL cB (upd s q X)) (PN q xB) 37 (upHP (fBb B p4 (8 + kA) X)) (Z (bq q)) (hb vA vA vA).1 (hg (own_B B p4) hq _ s X) (hk (own_B B p4) hq X) ((own_B B p4).nd q _) (mK_len q) (Z0 _) (hZL (own_B B p4) hq _) (hZF (own_B B p4) hq _) b1 b2 (by rw [tA, hT, lB]; omega) (uA 5 (hD 5 (by decide))) ?_
  intro vB EB nB tB uB
  rw [rawAC hq, lB]
  refine tri_group (mono_wp _) 6 (GC B p4 (upd s q X)) (fC B p4 q X) (oth (fC B p4) q (upd s q X)) (mK q) (CL cC (upd s q X)) (PN q xC) 39 (upHP (fCb B p4 (8 + kA + kB) X)) (Z (bq q)) (hb vA vB vA).2.1 (hg (own_C B p4) hq _ s X) (hk (own_C B p4) hq X) ((own_C B p4).nd q _) (mK_len q) (Z0 _) (hZL (own_C B p4) hq _) (hZF (own_C B p4) hq _) c1 c2 (by rw [tB, tA, hT, lC]; omega) (uB 6 (uA 6 (hD 6 (by decide)))) ?_
  intro vC EC nC tC uC
  rw [rawAC hq, lC]
  refine tri_group (mono_wp _) 7 (GD B p4 (upd s q X)) (fD B p4 q X) (oth (fD B p4) q (upd s q X)) (mK q) (CL cD (upd s q X)) (PN q xD) 41 (upHP (fDb B p4 (8 + kA + kB + kC) X)) (Z (bq q)) (hb vA vB vC).2.2 (hg (own_D B p4) hq _ s X) (hk (own_D B p4) hq X) ((own_D B p4).nd q _) (mK_len q) (Z0 _) (hZL (own_D B p4) hq _) (hZF (own_D B p4) hq _) d1 d2 (by rw [tC, tB, tA, hT, lD]; omega) (uC 7 (uB 7 (uA 7 (hD 7 (by decide))))) ?_
  intro vD ED nD tD uD
  rw [rawAC hq, lD]
  have key := inner vA vB vC vD ED (by rw [tD, tC, tB, tA, hT]) (fun n hn => uD n (uC n (uB n (uA n (hD n hn)))))
  refine TriX.postE (mono_wp _) key ?_
  rintro x st a w ⟨rfl, Y, xs', c', d', t', yA, yB, yC, yD, RA, RB, RC, RD, hjs, ⟨p1, p2, p3, p4', q1, q2, q3, q4', r1, r2, r3, r4, s1, s2, s3, s4, z1, z2⟩, hlen, hY, hn, hc1, hc2, hd1, hd2⟩ hat
  have gA : ∀ m, hget (GA B p4 (upd s q Y)) m = hget ((0, some (.cells (mixAt (mK q) (CL cA (upd s q X)) (PN q (cA q Y))) 35)) :: (dnHP (upHP (fA B p4 q Y)) ++ oth (fA B p4) q (upd s q X))) m := fun m => by
    rw [hg (own_A B p4) hq _ s Y m, mixPN hq, dnA, oth_upd hq s Y X]
  have gB : ∀ m, hget (GB B p4 (upd s q Y)) m = hget ((0, some (.cells (mixAt (mK q) (CL cB (upd s q X)) (PN q (cB q Y))) 37)) :: (dnHP (upHP (fB B p4 q Y)) ++ oth (fB B p4) q (upd s q X))) m := fun m => by
    rw [hg (own_B B p4) hq _ s Y m, mixPN hq, dnB, oth_upd hq s Y X]
  have gC : ∀ m, hget (GC B p4 (upd s q Y)) m = hget ((0, some (.cells (mixAt (mK q) (CL cC (upd s q X)) (PN q (cC q Y))) 39)) :: (dnHP (upHP (fC B p4 q Y)) ++ oth (fC B p4) q (upd s q X))) m := fun m => by
    rw [hg (own_C B p4) hq _ s Y m, mixPN hq, dnC, oth_upd hq s Y X]
  have gD : ∀ m, hget (GD B p4 (upd s q Y)) m = hget ((0, some (.cells (mixAt (mK q) (CL cD (upd s q X)) (PN q (cD q Y))) 41)) :: (dnHP (upHP (fD B p4 q Y)) ++ oth (fD B p4) q (upd s q X))) m := fun m => by
    rw [hg (own_D B p4) hq _ s Y m, mixPN hq, dnD, oth_upd hq s Y X]
  exact ⟨st, hat, AC q yD vD, PN q (cD q Y), RD, upHP (fD B p4 q Y), GD B p4 (upd s q Y), p1, p2, p3, p4', gD, AC q yC vC, PN q (cC q Y), RC, upHP (fC B p4 q Y), GC B p4 (upd s q Y), q1, q2, q3, q4', gC, AC q yB vB, PN q (cB q Y), RB, upHP (fB B p4 q Y), GB B p4 (upd s q Y), r1, r2, r3, r4, gB, AC q yA vA, PN q (cA q Y), RA, upHP (fA B p4 q Y), GA B p4 (upd s q Y), s1, s2, s3, s4, gA, rfl, upd s q Y, xs', c', d', t', hjs, z1, z2, hn, hlen, ok_upd hoth hY, hc1, hc2, hd1, hd2⟩
theorem w_idle (vb vd : Value) (kk : Int) (hkk : 0 ≤ kk ∧ kk < 64) (s : Nat → AS) (hok : AS.ok (.idle vb vd)) (ho : ∀ k, k < 4 → (s k).ok) (js : Nat → SV) : TriX MS ((qt [true, true]).wp Tryz.prog) E ⟨pre n np i ++ [.v (ii kk), .v (lt q)] ++ junk js 175 17, bas ps B p4 xs c d t (upd s q (.idle vb vd)), 8, []⟩ (Mid n np i ps B p4 c d) := by
  have hm3 := tm3 _ (dv4 hkk)
  have hm8 := tm8 _ (dv4 hkk)
  have hcl3 := hm3
  have hcl8 := mCl hm8
  refine step4 hq hx hp4 hB hc hc2 E hE hT hD s _ 0 0 0 0 .nilp (.raw vb) .nilp (.raw vd) kk js (by decide) ⟨rfl, rfl, rfl, rfl⟩ (by rcases q4 hq with rfl | rfl | rfl | rfl <;> exact ⟨⟨rfl, rfl⟩, ⟨rfl, rfl⟩, ⟨rfl, rfl⟩, rfl, rfl⟩) (fun _ _ _ => ⟨rfl, rfl, rfl⟩) ?_ ho
  intro vA vB vC vD E2 hT2 hD2
  have ht : ∀ {k : Nat}, Nat.ble k 60 = true → k ≤ E2.top := fun h => by rw [hT2]; exact Nat.le_of_ble_eq_true h
  have hdd : ∀ (l : List Nat), l.all (Nat.ble 1) = true → ∀ b, b ∈ l → E2.D b := fun l hl b hb => hD2 b (Nat.le_of_ble_eq_true (List.all_eq_true.1 hl b hb))
  refine TriX.postE (mono_wp _) (Q := fun x s' => x = .normal ∧ ((LS (idle_l0 q n i B p4 c d t np ps xs kk vd vA vB vC vD) s' ∧ mAt (List.getD xs (Int.toNat (W (W (3 + 3 * ((q / 2 : Nat) : Int)) + mClass (Int.tmod (W (Int.tdiv kk 4)) 8)))) 0) = 0) ∨ (LS (idle_l1 q n i B p4 c d t np ps xs kk vd vA vB vC vD) s') ∨ (LS (idle_l2 q n i B p4 c d t np ps xs kk vb vA vB vC vD) s' ∧ mAt (List.getD xs (Int.toNat (W (W (3 + 3 * ((q / 2 : Nat) : Int)) + Int.tmod (W (Int.tdiv kk 4)) 3))) 0) = 0) ∨ (LS (idle_l3 q n i B p4 c d t np ps xs kk vb vA vB vC vD) s'))) (fun aa ww hat => Tri.allR (m := 15) (n := 177) (codeOK _) (idle q n i B p4 c d t np ps xs kk vb vd vA vB vC vD js hq hx hp4 hB hc hc2 hkk hm3 hm8 (in_of hx hB (hdq hq hcl3)) (in_of hx hB (hdq hq hcl8))) ?_ aa ww (at_wk2 (dirty' := []) (hp' := base ps B p4 xs c d t (.cells (AC q .nilp vA) 35) (.cells (AC q (.raw vb) vB) 37) (.cells (AC q .nilp vC) 39) (.cells (AC q (.raw vd) vD) 41)) (by repeat' (first | exact trivial | refine ⟨.inl rfl, ?_⟩ | refine ⟨.inr ⟨_, _, _, rfl, rfl, (by (repeat' apply And.intro) <;> first | rfl | trivial)⟩, ?_⟩)) hat)) ?_
  · exact Tr.all_ite (fun e0 => Tr.all_ite (fun e1 => Tr.all_ok ⟨rfl, ht rfl, hdd _ rfl, fun js => ⟨rfl, Or.inl ⟨⟨js, rfl⟩, eq_of_beq e1⟩⟩⟩) fun e1 => Tr.all_ok ⟨rfl, ht rfl, hdd _ rfl, fun js => ⟨rfl, Or.inr (Or.inl ⟨js, rfl⟩)⟩⟩) fun e0 => Tr.all_ite (fun e1 => Tr.all_ok ⟨rfl, ht rfl, hdd _ rfl, fun js => ⟨rfl, Or.inr (Or.inr (Or.inl ⟨⟨js, rfl⟩, eq_of_beq e1⟩))⟩⟩) fun e1 => Tr.all_ok ⟨rfl, ht rfl, hdd _ rfl, fun js => ⟨rfl, Or.inr (Or.inr (Or.inr (⟨js, rfl⟩)))⟩⟩
  · rintro x s' ac aw ⟨rfl, hq'⟩ hat
    rcases hq' with ⟨⟨js, rfl⟩, hlt⟩ | ⟨js, rfl⟩ | ⟨⟨js, rfl⟩, hlt⟩ | ⟨js, rfl⟩
    · have k1 := at_can (at_wk2 (dirty' := []) (hp' := base ps B p4 xs (c + 1) (d + 1) t (.cells (AC q (.ptr 13 0) vA) 35) (.cells (AC q (.ptr 18 0) vB) 37) (.cells (AC q (.nilp) vC) 39) (.cells (AC q (.raw vd) vD) 41) ++ [(11, some (.cells (pl B p4 ++ [ii (mClass (Int.tmod (W (Int.tdiv kk 4)) 8)), lt ((q / 2 : Nat) : Int), lt 1, .ptr 12 0, .ptr 20 0, uu (List.getD xs (Int.toNat (W (W (3 + 3 * ((q / 2 : Nat) : Int)) + mClass (Int.tmod (W (Int.tdiv kk 4)) 8)))) 0), ii 0]) 76)), (12, some (.cells [.nilf, ii (W (W (3 + 3 * ((q / 2 : Nat) : Int)) + mClass (Int.tmod (W (Int.tdiv kk 4)) 8))), uu (List.getD xs (Int.toNat (W (W (3 + 3 * ((q / 2 : Nat) : Int)) + mClass (Int.tmod (W (Int.tdiv kk 4)) 8)))) 0), uu 0, ii (mAt (List.getD xs (Int.toNat (W (W (3 + 3 * ((q / 2 : Nat) : Int)) + mClass (Int.tmod (W (Int.tdiv kk 4)) 8)))) 0)), uu (List.getD xs (Int.toNat (W (W (3 + 3 * ((q / 2 : Nat) : Int)) + mClass (Int.tmod (W (Int.tdiv kk 4)) 8)))) 0)] 121)), (13, some (.cells [lt 1, ii (mClass (Int.tmod (W (Int.tdiv kk 4)) 8)), ii (Int.tmod (W (Int.tdiv kk 4)) 8), ii (Int.tmod kk 2), lt 0, lt 0, lt 0, lt 0, .ptr 11 0, lt 0, lt 0] 72)), (16, some (.cells [ii (W (W (3 + 3 * ((q / 2 : Nat) : Int)) + mClass (Int.tmod (W (Int.tdiv kk 4)) 8))), lt 0, uu (List.getD xs (Int.toNat (W (W (3 + 3 * ((q / 2 : Nat) : Int)) + mClass (Int.tmod (W (Int.tdiv kk 4)) 8)))) 0), uu 0, ii 0, uu (List.getD xs (Int.toNat (W (W (3 + 3 * ((q / 2 : Nat) : Int)) + mClass (Int.tmod (W (Int.tdiv kk 4)) 8)))) 0)] 92)), (17, some (.cells (pl B p4 ++ [ii (mClass (Int.tmod (W (Int.tdiv kk 4)) 8)), lt ((q / 2 : Nat) : Int), lt 2, .ptr 16 0, .ptr 22 0, ii 0]) 54)), (18, some (.cells (pl B p4 ++ [ii (Int.tmod (W (Int.tdiv kk 4)) 8), ii (Int.tmod kk 2), lt 1, lt 0, .ptr 17 0, lt 0]) 50)), (20, some (.cells ([.fn 57 [(20, 0)] []] ++ pl B p4 ++ [ii (mClass (Int.tmod (W (Int.tdiv kk 4)) 8)), lt ((q / 2 : Nat) : Int), .int .u64 (.lit 0), lt 0, .int .u64 (.lit 0), lt 0, .nilp, lt 0]) 90)), (22, some (.cells (pl B p4 ++ [ii (mClass (Int.tmod (W (Int.tdiv kk 4)) 8)), lt ((q / 2 : Nat) : Int), lt 1, lt 0, .int .u64 (.lit 0), .int .u64 (.lit 0), .nilp, lt 0]) 96))]) (by repeat' (first | exact trivial | refine ⟨.inl rfl, ?_⟩ | refine ⟨.inr ⟨_, _, _, rfl, rfl, (by (repeat' apply And.intro) <;> first | rfl | trivial | exact hlt)⟩, ?_⟩)) hat)
      obtain ⟨f0, k1⟩ := at_forget 11 [false, false, false, false, false, false, false, false, true, false, false, false] rfl rfl k1
      obtain ⟨f1, k1⟩ := at_forget 16 [true, true, true, true, true, false] rfl rfl k1
      exact ⟨_, k1, rfl, (.all (Int.tmod (W (Int.tdiv kk 4)) 8) (Int.tmod kk 2) (.ld (mClass (Int.tmod (W (Int.tdiv kk 4)) 8)) ((q / 2 : Nat) : Int) (List.getD xs (Int.toNat (W (W (3 + 3 * ((q / 2 : Nat) : Int)) + mClass (Int.tmod (W (Int.tdiv kk 4)) 8)))) 0) 0 0 0 0 0 (f0 8) f1) vd : AS), xs, (c + 1), (d + 1), t, (.ptr 13 0), (.ptr 18 0), .nilp, (.raw vd), [(13, bq q), (11, bq q + 1), (20, bq q + 2)], [(18, bq q), (17, bq q + 1), (16, bq q + 2), (22, bq q + 3)], [], [], ⟨js, rfl⟩, by rcases q4 hq with rfl | rfl | rfl | rfl <;> exact ⟨rfl, rfl, rfl, rfl, rfl, rfl, rfl, rfl, rfl, rfl, rfl, rfl, rfl, rfl, rfl, rfl, rfl, rfl⟩, by first | exact hx | (simp only [List.length_set]; exact hx), ⟨(by omega), ⟨hcl8, (stq hq), (by decide)⟩⟩, by show 8 ≤ 23 ∧ _; omega⟩
    · have k1 := at_can hat
      obtain ⟨f0, k1⟩ := at_forget 11 [false, false, false, false, false, false, false, false, false, true, false, false] rfl rfl k1
      obtain ⟨f1, k1⟩ := at_forget 17 [false, false, false, false, false, false, false, false, false, true, false] rfl rfl k1
      exact ⟨_, k1, rfl, (.all (Int.tmod (W (Int.tdiv kk 4)) 8) (Int.tmod kk 2) (.pp 1 (mClass (Int.tmod (W (Int.tdiv kk 4)) 8)) ((q / 2 : Nat) : Int) (W (W (3 + 3 * ((q / 2 : Nat) : Int)) + mClass (Int.tmod (W (Int.tdiv kk 4)) 8))) (List.getD xs (Int.toNat (W (W (3 + 3 * ((q / 2 : Nat) : Int)) + mClass (Int.tmod (W (Int.tdiv kk 4)) 8)))) 0) 0 0 0 0 (f0 9) (f1 9)) vd : AS), xs, (c + 1), (d + 1), t, (.ptr 13 0), (.ptr 18 0), .nilp, (.raw vd), [(13, bq q), (11, bq q + 1), (12, bq q + 2)], [(18, bq q), (17, bq q + 1), (16, bq q + 2)], [], [], ⟨js, rfl⟩, by rcases q4 hq with rfl | rfl | rfl | rfl <;> exact ⟨rfl, rfl, rfl, rfl, rfl, rfl, rfl, rfl, rfl, rfl, rfl, rfl, rfl, rfl, rfl, rfl, rfl, rfl⟩, by first | exact hx | (simp only [List.length_set]; exact hx), ⟨(by omega), ⟨by decide, hcl8, (stq hq), (hdq hq hcl8)⟩⟩, by show 8 ≤ 19 ∧ _; omega⟩
    · have k1 := at_can (at_wk2 (dirty' := []) (hp' := base ps B p4 xs (c + 1) (d + 1) t (.cells (AC q (.nilp) vA) 35) (.cells (AC q (.raw vb) vB) 37) (.cells (AC q (.ptr 9 0) vC) 39) (.cells (AC q (.ptr 13 0) vD) 41) ++ [(9, some (.cells (pl B p4 ++ [ii (Int.tmod (W (Int.tdiv kk 4)) 3), lt ((q / 2 : Nat) : Int), lt 1, .ptr 10 0, .ptr 15 0, uu (List.getD xs (Int.toNat (W (W (3 + 3 * ((q / 2 : Nat) : Int)) + Int.tmod (W (Int.tdiv kk 4)) 3))) 0), ii 0]) 76)), (10, some (.cells [.nilf, ii (W (W (3 + 3 * ((q / 2 : Nat) : Int)) + Int.tmod (W (Int.tdiv kk 4)) 3)), uu (List.getD xs (Int.toNat (W (W (3 + 3 * ((q / 2 : Nat) : Int)) + Int.tmod (W (Int.tdiv kk 4)) 3))) 0), uu 0, ii (mAt (List.getD xs (Int.toNat (W (W (3 + 3 * ((q / 2 : Nat) : Int)) + Int.tmod (W (Int.tdiv kk 4)) 3))) 0)), uu (List.getD xs (Int.toNat (W (W (3 + 3 * ((q / 2 : Nat) : Int)) + Int.tmod (W (Int.tdiv kk 4)) 3))) 0)] 121)), (12, some (.cells [ii (W (W (3 + 3 * ((q / 2 : Nat) : Int)) + Int.tmod (W (Int.tdiv kk 4)) 3)), lt 0, uu (List.getD xs (Int.toNat (W (W (3 + 3 * ((q / 2 : Nat) : Int)) + Int.tmod (W (Int.tdiv kk 4)) 3))) 0), uu 0, ii 0, uu (List.getD xs (Int.toNat (W (W (3 + 3 * ((q / 2 : Nat) : Int)) + Int.tmod (W (Int.tdiv kk 4)) 3))) 0)] 92)), (13, some (.cells (pl B p4 ++ [ii (Int.tmod (W (Int.tdiv kk 4)) 3), lt ((q / 2 : Nat) : Int), lt 2, .ptr 12 0, .ptr 17 0, ii 0]) 54)), (15, some (.cells ([.fn 57 [(15, 0)] []] ++ pl B p4 ++ [ii (Int.tmod (W (Int.tdiv kk 4)) 3), lt ((q / 2 : Nat) : Int), .int .u64 (.lit 0), lt 0, .int .u64 (.lit 0), lt 0, .nilp, lt 0]) 90)), (17, some (.cells (pl B p4 ++ [ii (Int.tmod (W (Int.tdiv kk 4)) 3), lt ((q / 2 : Nat) : Int), lt 1, lt 0, .int .u64 (.lit 0), .int .u64 (.lit 0), .nilp, lt 0]) 96))]) (by repeat' (first | exact trivial | refine ⟨.inl rfl, ?_⟩ | refine ⟨.inr ⟨_, _, _, rfl, rfl, (by (repeat' apply And.intro) <;> first | rfl | trivial | exact hlt)⟩, ?_⟩)) hat)
      obtain ⟨f0, k1⟩ := at_forget 9 [false, false, false, false, false, false, false, false, true, false, false, false] rfl rfl k1
      obtain ⟨f1, k1⟩ := at_forget 12 [true, true, true, true, true, false] rfl rfl k1
      exact ⟨_, k1, rfl, (.res (.ld (Int.tmod (W (Int.tdiv kk 4)) 3) ((q / 2 : Nat) : Int) (List.getD xs (Int.toNat (W (W (3 + 3 * ((q / 2 : Nat) : Int)) + Int.tmod (W (Int.tdiv kk 4)) 3))) 0) 0 0 0 0 0 (f0 8) f1) vb : AS), xs, (c + 1), (d + 1), t, .nilp, (.raw vb), (.ptr 9 0), (.ptr 13 0), [], [], [(9, bq q), (15, bq q + 1)], [(13, bq q), (12, bq q + 1), (17, bq q + 2)], ⟨js, rfl⟩, by rcases q4 hq with rfl | rfl | rfl | rfl <;> exact ⟨rfl, rfl, rfl, rfl, rfl, rfl, rfl, rfl, rfl, rfl, rfl, rfl, rfl, rfl, rfl, rfl, rfl, rfl⟩, by first | exact hx | (simp only [List.length_set]; exact hx), ⟨hcl3, (stq hq), (by decide)⟩, by show 8 ≤ 18 ∧ _; omega⟩
    · have k1 := at_can hat
      obtain ⟨f0, k1⟩ := at_forget 9 [false, false, false, false, false, false, false, false, false, true, false, false] rfl rfl k1
      obtain ⟨f1, k1⟩ := at_forget 13 [false, false, false, false, false, false, false, false, false, true, false] rfl rfl k1
      exact ⟨_, k1, rfl, (.res (.pp 1 (Int.tmod (W (Int.tdiv kk 4)) 3) ((q / 2 : Nat) : Int) (W (W (3 + 3 * ((q / 2 : Nat) : Int)) + Int.tmod (W (Int.tdiv kk 4)) 3)) (List.getD xs (Int.toNat (W (W (3 + 3 * ((q / 2 : Nat) : Int)) + Int.tmod (W (Int.tdiv kk 4)) 3))) 0) 0 0 0 0 (f0 9) (f1 9)) vb : AS), xs, (c + 1), (d + 1), t, .nilp, (.raw vb), (.ptr 9 0), (.ptr 13 0), [], [], [(9, bq q), (10, bq q + 1)], [(13, bq q), (12, bq q + 1)], ⟨js, rfl⟩, by rcases q4 hq with rfl | rfl | rfl | rfl <;> exact ⟨rfl, rfl, rfl, rfl, rfl, rfl, rfl, rfl, rfl, rfl, rfl, rfl, rfl, rfl, rfl, rfl, rfl, rfl⟩, by first | exact hx | (simp only [List.length_set]; exact hx), ⟨by decide, hcl3, (stq hq), (hdq hq hcl3)⟩, by show 8 ≤ 14 ∧ _; omega⟩
theorem w_cp0 (cl st hd w h se sn rc : Int) (va vb : Value) (wb : Value) (kk : Int) (hkk : 0 ≤ kk ∧ kk < 64) (s : Nat → AS) (hok : AS.ok (.res (.pp 0 cl st hd w h se sn rc va vb) wb)) (ho : ∀ k, k < 4 → (s k).ok) (js : Nat → SV) : TriX MS ((qt [true, true]).wp Tryz.prog) E ⟨pre n np i ++ [.v (ii kk), .v (lt q)] ++ junk js 175 17, bas ps B p4 xs c d t (upd s q (.res (.pp 0 cl st hd w h se sn rc va vb) wb)), 8, []⟩ (Mid n np i ps B p4 c d) := by
  obtain ⟨_, hcl, hst, hhd⟩ := hok
  refine step4 hq hx hp4 hB hc hc2 E hE hT hD s _ 0 0 2 2 .nilp (.raw wb) (.ptr 8 0) (.ptr 10 0) kk js (by decide) ⟨rfl, rfl, rfl, rfl⟩ (by rcases q4 hq with rfl | rfl | rfl | rfl <;> exact ⟨⟨rfl, rfl⟩, ⟨rfl, rfl⟩, ⟨rfl, rfl⟩, rfl, rfl⟩) (fun _ _ _ => ⟨rfl, rfl, rfl⟩) ?_ ho
  intro vA vB vC vD E2 hT2 hD2
  have ht : ∀ {k : Nat}, Nat.ble k 60 = true → k ≤ E2.top := fun h => by rw [hT2]; exact Nat.le_of_ble_eq_true h
  have hdd : ∀ (l : List Nat), l.all (Nat.ble 1) = true → ∀ b, b ∈ l → E2.D b := fun l hl b hb => hD2 b (Nat.le_of_ble_eq_true (List.all_eq_true.1 hl b hb))
  refine TriX.postE (mono_wp _) (Q := fun x s' => x = .normal ∧ ((LS (cp0_l0 q n i B p4 c d t np ps xs cl st hd h wb vA vB vC vD) s' ∧ mAt (List.getD xs (Int.toNat hd) 0) = 0) ∨ (LS (cp0_l1 q n i B p4 c d t np ps xs cl st hd h se sn rc va vb wb vA vB vC vD) s'))) (fun aa ww hat => Tri.allR (m := 15) (n := 177) (codeOK _) (cp0 q n i B p4 c d t np ps xs kk cl st hd w h se sn rc va vb wb vA vB vC vD js hq hx hp4 hB hc hc2 hkk hcl hhd) ?_ aa ww (at_wk2 (dirty' := []) (hp' := [(10, some (rr B p4 cl st 1 (.ptr 11 0) (.raw vb) rc)), (11, some (ro hd 1 w h se)), (8, some (re B p4 cl st 0 (.ptr 9 0) (.raw va) sn rc)), (9, some (po (.fn 71 [] []) hd w h se))] ++ base ps B p4 xs c d t (.cells (AC q .nilp vA) 35) (.cells (AC q (.raw wb) vB) 37) (.cells (AC q (.ptr 8 0) vC) 39) (.cells (AC q (.ptr 10 0) vD) 41)) (by repeat' (first | exact trivial | refine ⟨.inl rfl, ?_⟩ | refine ⟨.inr ⟨_, _, _, rfl, rfl, (by (repeat' apply And.intro) <;> first | rfl | trivial)⟩, ?_⟩)) hat)) ?_
  · exact Tr.all_ite (fun e0 => Tr.all_ok ⟨rfl, ht rfl, hdd _ rfl, fun js => ⟨rfl, Or.inl ⟨⟨js, rfl⟩, eq_of_beq e0⟩⟩⟩) fun e0 => Tr.all_ok ⟨rfl, ht rfl, hdd _ rfl, fun js => ⟨rfl, Or.inr (⟨js, rfl⟩)⟩⟩
  · rintro x s' ac aw ⟨rfl, hq'⟩ hat
    rcases hq' with ⟨⟨js, rfl⟩, hlt⟩ | ⟨js, rfl⟩
    · have k1 := at_can (at_wk2 (dirty' := []) (hp' := [(10, some (.cells (pl B p4 ++ [ii cl, ii st, lt 2, .ptr 11 0, .ptr 15 0, ii 0]) 54)), (11, some (.cells [ii hd, lt 0, uu (List.getD xs (Int.toNat hd) 0), uu h, ii 0, uu (List.getD xs (Int.toNat hd) 0)] 92)), (8, some (.cells (pl B p4 ++ [ii cl, ii st, lt 1, .ptr 9 0, .ptr 13 0, uu (List.getD xs (Int.toNat hd) 0), ii 0]) 76)), (9, some (.cells [.nilf, ii hd, uu (List.getD xs (Int.toNat hd) 0), uu h, ii (mAt (List.getD xs (Int.toNat hd) 0)), uu (List.getD xs (Int.toNat hd) 0)] 121))] ++ base ps B p4 xs (c + 1) (d + 1) t (.cells (AC q (.nilp) vA) 35) (.cells (AC q (.raw wb) vB) 37) (.cells (AC q (.ptr 8 0) vC) 39) (.cells (AC q (.ptr 10 0) vD) 41) ++ [(13, some (.cells ([.fn 57 [(13, 0)] []] ++ pl B p4 ++ [ii cl, ii st, .int .u64 (.lit 0), lt 0, .int .u64 (.lit 0), lt 0, .nilp, lt 0]) 90)), (15, some (.cells (pl B p4 ++ [ii cl, ii st, lt 1, lt 0, .int .u64 (.lit 0), .int .u64 (.lit 0), .nilp, lt 0]) 96))]) (by repeat' (first | exact trivial | refine ⟨.inl rfl, ?_⟩ | refine ⟨.inr ⟨_, _, _, rfl, rfl, (by (repeat' apply And.intro) <;> first | rfl | trivial | exact hlt)⟩, ?_⟩)) hat)
      obtain ⟨f0, k1⟩ := at_forget 8 [false, false, false, false, false, false, false, false, true, false, false, false] rfl rfl k1
      obtain ⟨f1, k1⟩ := at_forget 11 [true, true, true, true, true, false] rfl rfl k1
      exact ⟨_, k1, rfl, (.res (.ld cl st (List.getD xs (Int.toNat hd) 0) 0 0 0 0 0 (f0 8) f1) wb : AS), xs, (c + 1), (d + 1), t, .nilp, (.raw wb), (.ptr 8 0), (.ptr 10 0), [], [], [(8, bq q), (13, bq q + 1)], [(10, bq q), (11, bq q + 1), (15, bq q + 2)], ⟨js, rfl⟩, by rcases q4 hq with rfl | rfl | rfl | rfl <;> exact ⟨rfl, rfl, rfl, rfl, rfl, rfl, rfl, rfl, rfl, rfl, rfl, rfl, rfl, rfl, rfl, rfl, rfl, rfl⟩, by first | exact hx | (simp only [List.length_set]; exact hx), ⟨hcl, hst, (by decide)⟩, by show 8 ≤ 16 ∧ _; omega⟩
    · have k1 := at_can hat
      exact ⟨_, k1, rfl, (.res (.pp 1 cl st hd (List.getD xs (Int.toNat hd) 0) h se sn rc va vb) wb : AS), xs, (c + 1), (d + 1), t, .nilp, (.raw wb), (.ptr 8 0), (.ptr 10 0), [], [], [(8, bq q), (9, bq q + 1)], [(10, bq q), (11, bq q + 1)], ⟨js, rfl⟩, by rcases q4 hq with rfl | rfl | rfl | rfl <;> exact ⟨rfl, rfl, rfl, rfl, rfl, rfl, rfl, rfl, rfl, rfl, rfl, rfl, rfl, rfl, rfl, rfl, rfl, rfl⟩, by first | exact hx | (simp only [List.length_set]; exact hx), ⟨by decide, hcl, hst, hhd⟩, by show 8 ≤ 12 ∧ _; omega⟩
theorem w_cp1 (cl st hd w h se sn rc : Int) (va vb : Value) (wb : Value) (kk : Int) (hkk : 0 ≤ kk ∧ kk < 64) (s : Nat → AS) (hok : AS.ok (.res (.pp 1 cl st hd w h se sn rc va vb) wb)) (ho : ∀ k, k < 4 → (s k).ok) (js : Nat → SV) : TriX MS ((qt [true, true]).wp Tryz.prog) E ⟨pre n np i ++ [.v (ii kk), .v (lt q)] ++ junk js 175 17, bas ps B p4 xs c d t (upd s q (.res (.pp 1 cl st hd w h se sn rc va vb) wb)), 8, []⟩ (Mid n np i ps B p4 c d) := by
  obtain ⟨_, hcl, hst, hhd⟩ := hok
  refine step4 hq hx hp4 hB hc hc2 E hE hT hD s _ 0 0 2 2 .nilp (.raw wb) (.ptr 8 0) (.ptr 10 0) kk js (by decide) ⟨rfl, rfl, rfl, rfl⟩ (by rcases q4 hq with rfl | rfl | rfl | rfl <;> exact ⟨⟨rfl, rfl⟩, ⟨rfl, rfl⟩, ⟨rfl, rfl⟩, rfl, rfl⟩) (fun _ _ _ => ⟨rfl, rfl, rfl⟩) ?_ ho
  intro vA vB vC vD E2 hT2 hD2
  have ht : ∀ {k : Nat}, Nat.ble k 60 = true → k ≤ E2.top := fun h => by rw [hT2]; exact Nat.le_of_ble_eq_true h
  have hdd : ∀ (l : List Nat), l.all (Nat.ble 1) = true → ∀ b, b ∈ l → E2.D b := fun l hl b hb => hD2 b (Nat.le_of_ble_eq_true (List.all_eq_true.1 hl b hb))
  refine TriX.postE (mono_wp _) (Q := fun x s' => x = .normal ∧ ((LS (cp1_l0 q n i B p4 c d t np ps xs cl st hd w se sn rc va vb wb vA vB vC vD) s') ∨ (LS (cp1_l1 q n i B p4 c d t np ps xs cl st hd w se sn rc va vb wb vA vB vC vD) s'))) (fun aa ww hat => Tri.allR (m := 15) (n := 177) (codeOK _) (cp1 q n i B p4 c d t np ps xs kk cl st hd w h se sn rc va vb wb vA vB vC vD js hq hx hp4 hB hc hc2 hkk hcl hhd) ?_ aa ww (at_wk2 (dirty' := []) (hp' := [(10, some (rr B p4 cl st 1 (.ptr 11 0) (.raw vb) rc)), (11, some (ro hd 2 w h se)), (8, some (re B p4 cl st 0 (.ptr 9 0) (.raw va) sn rc)), (9, some (po (.fn 77 [] []) hd w h se))] ++ base ps B p4 xs c d t (.cells (AC q .nilp vA) 35) (.cells (AC q (.raw wb) vB) 37) (.cells (AC q (.ptr 8 0) vC) 39) (.cells (AC q (.ptr 10 0) vD) 41)) (by repeat' (first | exact trivial | refine ⟨.inl rfl, ?_⟩ | refine ⟨.inr ⟨_, _, _, rfl, rfl, (by (repeat' apply And.intro) <;> first | rfl | trivial)⟩, ?_⟩)) hat)) ?_
  · exact Tr.all_ite (fun e0 => Tr.all_ok ⟨rfl, ht rfl, hdd _ rfl, fun js => ⟨rfl, Or.inl ⟨js, rfl⟩⟩⟩) fun e0 => Tr.all_ok ⟨rfl, ht rfl, hdd _ rfl, fun js => ⟨rfl, Or.inr (⟨js, rfl⟩)⟩⟩
  · rintro x s' ac aw ⟨rfl, hq'⟩ hat
    rcases hq' with ⟨js, rfl⟩ | ⟨js, rfl⟩
    · have k1 := at_can hat
      exact ⟨_, k1, rfl, (.res (.pp 2 cl st hd w (List.getD xs (Int.toNat (mAt w)) 0) se sn rc va vb) wb : AS), xs, (c + 1), (d + 1), t, .nilp, (.raw wb), (.ptr 8 0), (.ptr 10 0), [], [], [(8, bq q), (9, bq q + 1)], [(10, bq q), (11, bq q + 1)], ⟨js, rfl⟩, by rcases q4 hq with rfl | rfl | rfl | rfl <;> exact ⟨rfl, rfl, rfl, rfl, rfl, rfl, rfl, rfl, rfl, rfl, rfl, rfl, rfl, rfl, rfl, rfl, rfl, rfl⟩, by first | exact hx | (simp only [List.length_set]; exact hx), ⟨by decide, hcl, hst, hhd⟩, by show 8 ≤ 12 ∧ _; omega⟩
    · have k1 := at_can hat
      exact ⟨_, k1, rfl, (.res (.pp 2 cl st hd w 0 se sn rc va vb) wb : AS), xs, (c + 1), (d + 1), (W (t + 1)), .nilp, (.raw wb), (.ptr 8 0), (.ptr 10 0), [], [], [(8, bq q), (9, bq q + 1)], [(10, bq q), (11, bq q + 1)], ⟨js, rfl⟩, by rcases q4 hq with rfl | rfl | rfl | rfl <;> exact ⟨rfl, rfl, rfl, rfl, rfl, rfl, rfl, rfl, rfl, rfl, rfl, rfl, rfl, rfl, rfl, rfl, rfl, rfl⟩, by first | exact hx | (simp only [List.length_set]; exact hx), ⟨by decide, hcl, hst, hhd⟩, by show 8 ≤ 12 ∧ _; omega⟩
theorem w_cp2 (cl st hd w h se sn rc : Int) (va vb : Value) (wb : Value) (kk : Int) (hkk : 0 ≤ kk ∧ kk < 64) (s : Nat → AS) (hok : AS.ok (.res (.pp 2 cl st hd w h se sn rc va vb) wb)) (ho : ∀ k, k < 4 → (s k).ok) (js : Nat → SV) : TriX MS ((qt [true, true]).wp Tryz.prog) E ⟨pre n np i ++ [.v (ii kk), .v (lt q)] ++ junk js 175 17, bas ps B p4 xs c d t (upd s q (.res (.pp 2 cl st hd w h se sn rc va vb) wb)), 8, []⟩ (Mid n np i ps B p4 c d) := by
  obtain ⟨_, hcl, hst, hhd⟩ := hok
  refine step4 hq hx hp4 hB hc hc2 E hE hT hD s _ 0 0 2 2 .nilp (.raw wb) (.ptr 8 0) (.ptr 10 0) kk js (by decide) ⟨rfl, rfl, rfl, rfl⟩ (by rcases q4 hq with rfl | rfl | rfl | rfl <;> exact ⟨⟨rfl, rfl⟩, ⟨rfl, rfl⟩, ⟨rfl, rfl⟩, rfl, rfl⟩) (fun _ _ _ => ⟨rfl, rfl, rfl⟩) ?_ ho
  intro vA vB vC vD E2 hT2 hD2
  have ht : ∀ {k : Nat}, Nat.ble k 60 = true → k ≤ E2.top := fun h => by rw [hT2]; exact Nat.le_of_ble_eq_true h
  have hdd : ∀ (l : List Nat), l.all (Nat.ble 1) = true → ∀ b, b ∈ l → E2.D b := fun l hl b hb => hD2 b (Nat.le_of_ble_eq_true (List.all_eq_true.1 hl b hb))
  refine TriX.postE (mono_wp _) (Q := fun x s' => x = .normal ∧ ((LS (cp2_l0 q n i B p4 c d t np ps xs cl st hd w h wb vA vB vC vD) s') ∨ (LS (cp2_l1 q n i B p4 c d t np ps xs cl st hd w h wb vA vB vC vD) s') ∨ (LS (cp2_l2 q n i B p4 c d t np ps xs cl st hd w h se sn rc va vb wb vA vB vC vD) s'))) (fun aa ww hat => Tri.allR (m := 15) (n := 177) (codeOK _) (cp2 q n i B p4 c d t np ps xs kk cl st hd w h se sn rc va vb wb vA vB vC vD js hq hx hp4 hB hc hc2 hkk hcl hhd) ?_ aa ww (at_wk2 (dirty' := []) (hp' := [(10, some (rr B p4 cl st 1 (.ptr 11 0) (.raw vb) rc)), (11, some (ro hd 3 w h se)), (8, some (re B p4 cl st 0 (.ptr 9 0) (.raw va) sn rc)), (9, some (po (.fn 83 [] []) hd w h se))] ++ base ps B p4 xs c d t (.cells (AC q .nilp vA) 35) (.cells (AC q (.raw wb) vB) 37) (.cells (AC q (.ptr 8 0) vC) 39) (.cells (AC q (.ptr 10 0) vD) 41)) (by repeat' (first | exact trivial | refine ⟨.inl rfl, ?_⟩ | refine ⟨.inr ⟨_, _, _, rfl, rfl, (by (repeat' apply And.intro) <;> first | rfl | trivial)⟩, ?_⟩)) hat)) ?_
  · exact Tr.all_ite (fun e0 => Tr.all_ite (fun e1 => Tr.all_ok ⟨rfl, ht rfl, hdd _ rfl, fun js => ⟨rfl, Or.inl ⟨js, rfl⟩⟩⟩) fun e1 => Tr.all_ok ⟨rfl, ht rfl, hdd _ rfl, fun js => ⟨rfl, Or.inr (Or.inl ⟨js, rfl⟩)⟩⟩) fun e0 => Tr.all_ok ⟨rfl, ht rfl, hdd _ rfl, fun js => ⟨rfl, Or.inr (Or.inr (⟨js, rfl⟩))⟩⟩
  · rintro x s' ac aw ⟨rfl, hq'⟩ hat
    rcases hq' with ⟨js, rfl⟩ | ⟨js, rfl⟩ | ⟨js, rfl⟩
    · have k1 := at_can hat
      obtain ⟨eD, k1⟩ := at_forget 7 (fm q) rfl (by rcases q4 hq with rfl | rfl | rfl | rfl <;> rfl) k1
      exact ⟨_, k1, rfl, (.idle wb (eD q) : AS), (List.set xs (Int.toNat hd) (mNext w (mHLink h))), (c + 1), (d + 1), t, .nilp, (.raw wb), .nilp, (.raw (eD q)), [], [], [], [], ⟨js, rfl⟩, by rcases q4 hq with rfl | rfl | rfl | rfl <;> exact ⟨rfl, rfl, rfl, rfl, rfl, rfl, rfl, rfl, rfl, rfl, rfl, rfl, rfl, rfl, rfl, rfl, rfl, rfl⟩, by first | exact hx | (simp only [List.length_set]; exact hx), trivial, by show 8 ≤ 16 ∧ _; omega⟩
    · have k1 := at_can hat
      obtain ⟨f0, k1⟩ := at_forget 8 [false, false, false, false, false, false, false, false, true, false, false, false] rfl rfl k1
      obtain ⟨f1, k1⟩ := at_forget 11 [true, true, true, true, true, false] rfl rfl k1
      exact ⟨_, k1, rfl, (.res (.ld cl st w (mAt w) 0 0 0 0 (f0 8) f1) wb : AS), (List.set xs (Int.toNat hd) (mNext w (mHLink h))), (c + 1), (d + 1), t, .nilp, (.raw wb), (.ptr 8 0), (.ptr 10 0), [], [], [(8, bq q), (13, bq q + 1)], [(10, bq q), (11, bq q + 1), (15, bq q + 2)], ⟨js, rfl⟩, by rcases q4 hq with rfl | rfl | rfl | rfl <;> exact ⟨rfl, rfl, rfl, rfl, rfl, rfl, rfl, rfl, rfl, rfl, rfl, rfl, rfl, rfl, rfl, rfl, rfl, rfl⟩, by first | exact hx | (simp only [List.length_set]; exact hx), ⟨hcl, hst, (by decide)⟩, by show 8 ≤ 16 ∧ _; omega⟩
    · have k1 := at_can hat
      exact ⟨_, k1, rfl, (.res (.pp 0 cl st hd w h se sn rc va vb) wb : AS), xs, (c + 1), (d + 1), t, .nilp, (.raw wb), (.ptr 8 0), (.ptr 10 0), [], [], [(8, bq q), (9, bq q + 1)], [(10, bq q), (11, bq q + 1)], ⟨js, rfl⟩, by rcases q4 hq with rfl | rfl | rfl | rfl <;> exact ⟨rfl, rfl, rfl, rfl, rfl, rfl, rfl, rfl, rfl, rfl, rfl, rfl, rfl, rfl, rfl, rfl, rfl, rfl⟩, by first | exact hx | (simp only [List.length_set]; exact hx), ⟨by decide, hcl, hst, hhd⟩, by show 8 ≤ 12 ∧ _; omega⟩
end
end Go.Proofs.YtkbleapcnbphjaaGreat.AllocPlays
