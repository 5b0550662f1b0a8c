/-
  ListOwn: a step of a worker, whichever it is: its objects are opened, the step runs, they are hidden again. Printed by genLOW.py.
-/
import Derived.Test.YtjohhjilglilkaaDListOwn
import Derived.Test.YtjohhjilglilkaaTListOwn2
namespace Go.Proofs.Ytjohhjilglilkaa.ListOwn
open Go Go.RowKit Go.Proofs.Ytjohhjilglilkaa.Eng
set_option linter.unusedVariables false
set_option linter.unusedSimpArgs false
set_option linter.unusedSectionVars false
set_option maxRecDepth 20000
set_option maxHeartbeats 4000000
/-- The worker's cell alone. -/
abbrev PN (q : Nat) (x : VV) : List VV := match q with
  | 0 => [x, .nilp, .nilp, .nilp]
  | 1 => [.nilp, x, .nilp, .nilp]
  | 2 => [.nilp, .nilp, x, .nilp]
  | _ => [.nilp, .nilp, .nilp, x]
def LS (l : Lf MObj) (st : St MObj) : Prop := ∃ js, st = ⟨l.pre ++ junk js 253 12, l.hp, l.nid, []⟩
theorem rawAC {q : Nat} (hq : q < 4) (vs : Nat → Value) (x : VV) : rawAt vs (mK q) 0 (PN q x) = AC q x vs := by
  rcases q4 hq with rfl | rfl | rfl | rfl <;> rfl
theorem mK_len (q : Nat) : (mK q).length = 4 := by
  match q with
  | 0 => rfl
  | 1 => rfl
  | 2 => rfl
  | _ + 3 => rfl
theorem Z0 (b : Nat) : Z b 0 = true := rfl
theorem dnP (q : Nat) (Y : WS) : dnHP (upHP (fP q Y)) = fP q Y := by
  obtain ⟨h, z⟩ := Y
  cases z <;> rfl
theorem dnU (q : Nat) (Y : WS) : dnHP (upHP (fU q Y)) = fU q Y := by
  obtain ⟨h, z⟩ := Y
  cases z <;> rfl
theorem dnH (q : Nat) (Y : WS) : dnHP (upHP (fH q Y)) = fH q Y := by
  obtain ⟨h, z⟩ := Y
  cases h <;> rfl
theorem mixPN {q : Nat} (hq : q < 4) (C : Nat → WS → VV) (s : Nat → WS) (X Y : WS) : mixAt (mK q) (CL C (upd s q X)) (PN q (C q Y)) = CL C (upd s q Y) := by
  rcases q4 hq with rfl | rfl | rfl | rfl <;> rfl
/-- Behind a worker's step: what it is at, and what is known of that. -/
def Mid (n : Int) (np : Nat) (mn i : Int) (ps : List (List Int)) (c : Int) (s : Nat → WS) (q : Nat) (K : WS → List Int → Int → Prop) : VX → St MObj → Prop := fun x st => x = .normal ∧ ∃ (Y : WS) (xs' : List Int) (c' t' : Int), (∃ js, st.tm = pre n np mn i ++ junk js 253 12) ∧
  renHP R5 st.hp R5 = some (bas ps xs' c' t' (upd s q Y)) ∧ renChk R5 st.hp 1 st.nid 5 = true ∧ 5 ≤ st.nid ∧ K Y xs' t' ∧ c ≤ c' ∧ c' ≤ c + 2
section
variable {n mn i c t : Int} {np : Nat} {ps : List (List Int)} {xs : List Int} {q : Nat} (hq : q < 4) (hx : xs.length = 160) (hc : 0 ≤ c ∧ c ≤ 100000) (E : Ctx MObj) (hE : E.nid0 = 1) (hT : E.top = 60) (hD : ∀ b, 1 ≤ b → E.D b)
include hq hx hc hE hT hD
def Shut2 (q kP kU : Nat) (s : Nat → WS) (hp : HP MObj) (nid : Nat) (vP vU : Nat → Value) (Y : WS) (xP xU : VV) (RP RU : List (Nat × Nat)) (R : HP MObj) : Prop :=
  hget (hp) 3 = some (.cells (rawAt vU (mK q) 0 (AC q xU vU)) 30) ∧ renMask RU (mK q) (AC q xU vU) = some (PN q (cU q Y)) ∧ renHP RU (hp) RU = some (upHP (fU q Y)) ∧ grpChk (Z (bq q)) (5 + kP) nid 3 RU (upHP (fU q Y)) = true ∧
  hget (closeH 3 (GU (upd s q Y)) (RU.map (·.1)) (hp)) 2 = some (.cells (rawAt vP (mK q) 0 (AC q xP vP)) 28) ∧ renMask RP (mK q) (AC q xP vP) = some (PN q (cP q Y)) ∧ renHP RP (closeH 3 (GU (upd s q Y)) (RU.map (·.1)) (hp)) RP = some (upHP (fP q Y)) ∧ grpChk (Z (bq q)) (5) nid 2 RP (upHP (fP q Y)) = true ∧
  renHP R5 (closeH 2 (GP (upd s q Y)) (RP.map (·.1)) (closeH 3 (GU (upd s q Y)) (RU.map (·.1)) (hp))) R5 = some R ∧ renChk R5 (closeH 2 (GP (upd s q Y)) (RP.map (·.1)) (closeH 3 (GU (upd s q Y)) (RU.map (·.1)) (hp))) 1 nid 5 = true
theorem step2 (s : Nat → WS) (X : WS) (kP kU : Nat) (xP xU : VV) (bg pp : VV) (js : Nat → SV) (K : WS → List Int → Int → Prop) (hk2 : kP + kU ≤ 40) (hl : (fP q X).length = kP ∧ (fU q X).length = kU)
    (ho : (renMask (numb ((fP q X).map (·.1)) (5)) (mK q) (CL cP (upd s q X)) = some (PN q xP) ∧ renHP (numb ((fP q X).map (·.1)) (5)) (upHP (fP q X)) (numb ((fP q X).map (·.1)) (5)) = some (upHP (fPb (5) X))) ∧ (renMask (numb ((fU q X).map (·.1)) (5 + kP)) (mK q) (CL cU (upd s q X)) = some (PN q xU) ∧ renHP (numb ((fU q X).map (·.1)) (5 + kP)) (upHP (fU q X)) (numb ((fU q X).map (·.1)) (5 + kP)) = some (upHP (fUb (5 + kP) X))))
    (hb : ∀ vP : Nat → Value, hget (upHP (fPb (5) X) ++ hset (bas ps xs c t (upd s q X)) 2 (.cells (AC q xP vP) 28)) 3 = some (.abs (.grp (GU (upd s q X)))))
    (inner : ∀ (vP vU : Nat → Value) (E2 : Ctx MObj), E2.top = 60 → (∀ n, 1 ≤ n → E2.D n) → TriX MS ((qt [true, true, true, true]).wp Try.prog) E2 ⟨pre n np mn i ++ [.v (lt q), .v bg, .v pp] ++ junk js 250 15, upHP (fUb (5 + kP) X) ++ hset (upHP (fPb (5) X) ++ hset (bas ps xs c t (upd s q X)) 2 (.cells (AC q xP vP) 28)) 3 (.cells (AC q xU vU) 30), 5 + kP + kU, []⟩ fun x st => x = .normal ∧ ∃ (Y : WS) (xs' : List Int) (c' t' : Int) (yP yU : VV) (RP RU : List (Nat × Nat)), (∃ js, st.tm = pre n np mn i ++ junk js 253 12) ∧
      Shut2 q kP kU s st.hp st.nid vP vU Y yP yU RP RU (bas ps xs' c' t' (upd s q Y)) ∧ K Y xs' t' ∧ (5 ≤ st.nid ∧ c ≤ c' ∧ c' ≤ c + 2)) :
    TriX MS ((qt [true, true, true, true]).wp Try.prog) E ⟨pre n np mn i ++ [.v (lt q), .v bg, .v pp] ++ junk js 250 15, bas ps xs c t (upd s q X), 5, []⟩ (Mid n np mn i ps c s q K) := by
  obtain ⟨⟨p1, p2⟩, ⟨u1, u2⟩⟩ := ho
  obtain ⟨lP, lU⟩ := hl
  refine tri_group (mono_wp _) 2 (GP (upd s q X)) (fP q X) (oth fP q (upd s q X)) (mK q) (CL cP (upd s q X)) (PN q xP) 28 (upHP (fPb (5) X)) (Z (bq q)) rfl (hg own_P hq _ s X) (hk own_P hq X) (own_P.nd q _) (mK_len q) (Z0 _) (hZL own_P hq _) (hZF own_P hq _) p1 p2 (by rw [hT, lP]; omega) (hD 2 (by decide)) ?_
  intro vP EP nP tP uP
  rw [rawAC hq, lP]
  refine tri_group (mono_wp _) 3 (GU (upd s q X)) (fU q X) (oth fU q (upd s q X)) (mK q) (CL cU (upd s q X)) (PN q xU) 30 (upHP (fUb (5 + kP) X)) (Z (bq q)) (hb vP) (hg own_U hq _ s X) (hk own_U hq X) (own_U.nd q _) (mK_len q) (Z0 _) (hZL own_U hq _) (hZF own_U hq _) u1 u2 (by rw [tP, hT, lU]; omega) (uP 3 (hD 3 (by decide))) ?_
  intro vU EU nU tU uU
  rw [rawAC hq, lU]
  have key := inner vP vU EU (by rw [tU, tP, hT]) (fun n hn => uU n (uP n (hD n hn)))
  refine TriX.postE (mono_wp _) key ?_
  rintro x st a w ⟨rfl, Y, xs', c', t', yP, yU, RP, RU, hjs, ⟨ua, ub, uc, ud, pa, pb, pc, pd, z1, z2⟩, hK, hn, hc1, hc2⟩ hat
  have gP : ∀ m, hget (GP (upd s q Y)) m = hget ((0, some (.cells (mixAt (mK q) (CL cP (upd s q X)) (PN q (cP q Y))) 28)) :: (dnHP (upHP (fP q Y)) ++ oth fP q (upd s q X))) m := fun m => by
    rw [hg own_P hq _ s Y m, mixPN hq, dnP, oth_upd hq s Y X]
  have gU : ∀ m, hget (GU (upd s q Y)) m = hget ((0, some (.cells (mixAt (mK q) (CL cU (upd s q X)) (PN q (cU q Y))) 30)) :: (dnHP (upHP (fU q Y)) ++ oth fU q (upd s q X))) m := fun m => by
    rw [hg own_U hq _ s Y m, mixPN hq, dnU, oth_upd hq s Y X]
  exact ⟨st, hat, AC q yU vU, PN q (cU q Y), RU, upHP (fU q Y), GU (upd s q Y), ua, ub, uc, ud, gU, AC q yP vP, PN q (cP q Y), RP, upHP (fP q Y), GP (upd s q Y), pa, pb, pc, pd, gP, rfl, Y, xs', c', t', hjs, z1, z2, hn, hK, hc1, hc2⟩
def Shut3 (q kP kU kH : Nat) (s : Nat → WS) (hp : HP MObj) (nid : Nat) (vP vU vH : Nat → Value) (Y : WS) (xP xU xH : VV) (RP RU RH : List (Nat × Nat)) (R : HP MObj) : Prop :=
  hget (hp) 4 = some (.cells (rawAt vH (mK q) 0 (AC q xH vH)) 31) ∧ renMask RH (mK q) (AC q xH vH) = some (PN q (cH q Y)) ∧ renHP RH (hp) RH = some (upHP (fH q Y)) ∧ grpChk (Z (bq q)) (5 + kP + kU) nid 4 RH (upHP (fH q Y)) = true ∧
  hget (closeH 4 (GH (upd s q Y)) (RH.map (·.1)) (hp)) 3 = some (.cells (rawAt vU (mK q) 0 (AC q xU vU)) 30) ∧ renMask RU (mK q) (AC q xU vU) = some (PN q (cU q Y)) ∧ renHP RU (closeH 4 (GH (upd s q Y)) (RH.map (·.1)) (hp)) RU = some (upHP (fU q Y)) ∧ grpChk (Z (bq q)) (5 + kP) nid 3 RU (upHP (fU q Y)) = true ∧
  hget (closeH 3 (GU (upd s q Y)) (RU.map (·.1)) (closeH 4 (GH (upd s q Y)) (RH.map (·.1)) (hp))) 2 = some (.cells (rawAt vP (mK q) 0 (AC q xP vP)) 28) ∧ renMask RP (mK q) (AC q xP vP) = some (PN q (cP q Y)) ∧ renHP RP (closeH 3 (GU (upd s q Y)) (RU.map (·.1)) (closeH 4 (GH (upd s q Y)) (RH.map (·.1)) (hp))) RP = some (upHP (fP q Y)) ∧ grpChk (Z (bq q)) (5) nid 2 RP (upHP (fP q Y)) = true ∧
  renHP R5 (closeH 2 (GP (upd s q Y)) (RP.map (·.1)) (closeH 3 (GU (upd s q Y)) (RU.map (·.1)) (closeH 4 (GH (upd s q Y)) (RH.map (·.1)) (hp)))) R5 = some R ∧ renChk R5 (closeH 2 (GP (upd s q Y)) (RP.map (·.1)) (closeH 3 (GU (upd s q Y)) (RU.map (·.1)) (closeH 4 (GH (upd s q Y)) (RH.map (·.1)) (hp)))) 1 nid 5 = true
theorem step3 (s : Nat → WS) (X : WS) (kP kU kH : Nat) (xP xU xH : VV) (bg pp : VV) (js : Nat → SV) (K : WS → List Int → Int → Prop) (hk2 : kP + kU + kH ≤ 40) (hl : (fP q X).length = kP ∧ (fU q X).length = kU ∧ (fH q X).length = kH)
    (ho : (renMask (numb ((fP q X).map (·.1)) (5)) (mK q) (CL cP (upd s q X)) = some (PN q xP) ∧ renHP (numb ((fP q X).map (·.1)) (5)) (upHP (fP q X)) (numb ((fP q X).map (·.1)) (5)) = some (upHP (fPb (5) X))) ∧ (renMask (numb ((fU q X).map (·.1)) (5 + kP)) (mK q) (CL cU (upd s q X)) = some (PN q xU) ∧ renHP (numb ((fU q X).map (·.1)) (5 + kP)) (upHP (fU q X)) (numb ((fU q X).map (·.1)) (5 + kP)) = some (upHP (fUb (5 + kP) X))) ∧ (renMask (numb ((fH q X).map (·.1)) (5 + kP + kU)) (mK q) (CL cH (upd s q X)) = some (PN q xH) ∧ renHP (numb ((fH q X).map (·.1)) (5 + kP + kU)) (upHP (fH q X)) (numb ((fH q X).map (·.1)) (5 + kP + kU)) = some (upHP (fHb (5 + kP + kU) X))))
    (hb : ∀ vP vU : Nat → Value, hget (upHP (fPb (5) X) ++ hset (bas ps xs c t (upd s q X)) 2 (.cells (AC q xP vP) 28)) 3 = some (.abs (.grp (GU (upd s q X)))) ∧ hget (upHP (fUb (5 + kP) X) ++ hset (upHP (fPb (5) X) ++ hset (bas ps xs c t (upd s q X)) 2 (.cells (AC q xP vP) 28)) 3 (.cells (AC q xU vU) 30)) 4 = some (.abs (.grp (GH (upd s q X)))))
    (inner : ∀ (vP vU vH : Nat → Value) (E2 : Ctx MObj), E2.top = 60 → (∀ n, 1 ≤ n → E2.D n) → TriX MS ((qt [true, true, true, true]).wp Try.prog) E2 ⟨pre n np mn i ++ [.v (lt q), .v bg, .v pp] ++ junk js 250 15, upHP (fHb (5 + kP + kU) X) ++ hset (upHP (fUb (5 + kP) X) ++ hset (upHP (fPb (5) X) ++ hset (bas ps xs c t (upd s q X)) 2 (.cells (AC q xP vP) 28)) 3 (.cells (AC q xU vU) 30)) 4 (.cells (AC q xH vH) 31), 5 + kP + kU + kH, []⟩ fun x st => x = .normal ∧ ∃ (Y : WS) (xs' : List Int) (c' t' : Int) (yP yU yH : VV) (RP RU RH : List (Nat × Nat)), (∃ js, st.tm = pre n np mn i ++ junk js 253 12) ∧
      Shut3 q kP kU kH s st.hp st.nid vP vU vH Y yP yU yH RP RU RH (bas ps xs' c' t' (upd s q Y)) ∧ K Y xs' t' ∧ (5 ≤ st.nid ∧ c ≤ c' ∧ c' ≤ c + 2)) :
    TriX MS ((qt [true, true, true, true]).wp Try.prog) E ⟨pre n np mn i ++ [.v (lt q), .v bg, .v pp] ++ junk js 250 15, bas ps xs c t (upd s q X), 5, []⟩ (Mid n np mn i ps c s q K) := by
  obtain ⟨⟨p1, p2⟩, ⟨u1, u2⟩, ⟨h1, h2⟩⟩ := ho
  obtain ⟨lP, lU, lH⟩ := hl
  refine tri_group (mono_wp _) 2 (GP (upd s q X)) (fP q X) (oth fP q (upd s q X)) (mK q) (CL cP (upd s q X)) (PN q xP) 28 (upHP (fPb (5) X)) (Z (bq q)) rfl (hg own_P hq _ s X) (hk own_P hq X) (own_P.nd q _) (mK_len q) (Z0 _) (hZL own_P hq _) (hZF own_P hq _) p1 p2 (by rw [hT, lP]; omega) (hD 2 (by decide)) ?_
  intro vP EP nP tP uP
  rw [rawAC hq, lP]
  refine tri_group (mono_wp _) 3 (GU (upd s q X)) (fU q X) (oth fU q (upd s q X)) (mK q) (CL cU (upd s q X)) (PN q xU) 30 (upHP (fUb (5 + kP) X)) (Z (bq q)) (hb vP vP).1 (hg own_U hq _ s X) (hk own_U hq X) (own_U.nd q _) (mK_len q) (Z0 _) (hZL own_U hq _) (hZF own_U hq _) u1 u2 (by rw [tP, hT, lU]; omega) (uP 3 (hD 3 (by decide))) ?_
  intro vU EU nU tU uU
  rw [rawAC hq, lU]
  refine tri_group (mono_wp _) 4 (GH (upd s q X)) (fH q X) (oth fH q (upd s q X)) (mK q) (CL cH (upd s q X)) (PN q xH) 31 (upHP (fHb (5 + kP + kU) X)) (Z (bq q)) (hb vP vU).2 (hg own_H hq _ s X) (hk own_H hq X) (own_H.nd q _) (mK_len q) (Z0 _) (hZL own_H hq _) (hZF own_H hq _) h1 h2 (by rw [tU, tP, hT, lH]; omega) (uU 4 (uP 4 (hD 4 (by decide)))) ?_
  intro vH EH nH tH uH
  rw [rawAC hq, lH]
  have key := inner vP vU vH EH (by rw [tH, tU, tP, hT]) (fun n hn => uH n (uU n (uP n (hD n hn))))
  refine TriX.postE (mono_wp _) key ?_
  rintro x st a w ⟨rfl, Y, xs', c', t', yP, yU, yH, RP, RU, RH, hjs, ⟨ha, hb, hc, hd, ua, ub, uc, ud, pa, pb, pc, pd, z1, z2⟩, hK, hn, hc1, hc2⟩ hat
  have gP : ∀ m, hget (GP (upd s q Y)) m = hget ((0, some (.cells (mixAt (mK q) (CL cP (upd s q X)) (PN q (cP q Y))) 28)) :: (dnHP (upHP (fP q Y)) ++ oth fP q (upd s q X))) m := fun m => by
    rw [hg own_P hq _ s Y m, mixPN hq, dnP, oth_upd hq s Y X]
  have gU : ∀ m, hget (GU (upd s q Y)) m = hget ((0, some (.cells (mixAt (mK q) (CL cU (upd s q X)) (PN q (cU q Y))) 30)) :: (dnHP (upHP (fU q Y)) ++ oth fU q (upd s q X))) m := fun m => by
    rw [hg own_U hq _ s Y m, mixPN hq, dnU, oth_upd hq s Y X]
  have gH : ∀ m, hget (GH (upd s q Y)) m = hget ((0, some (.cells (mixAt (mK q) (CL cH (upd s q X)) (PN q (cH q Y))) 31)) :: (dnHP (upHP (fH q Y)) ++ oth fH q (upd s q X))) m := fun m => by
    rw [hg own_H hq _ s Y m, mixPN hq, dnH, oth_upd hq s Y X]
  exact ⟨st, hat, AC q yH vH, PN q (cH q Y), RH, upHP (fH q Y), GH (upd s q Y), ha, hb, hc, hd, gH, AC q yU vU, PN q (cU q Y), RU, upHP (fU q Y), GU (upd s q Y), ua, ub, uc, ud, gU, AC q yP vP, PN q (cP q Y), RP, upHP (fP q Y), GP (upd s q Y), pa, pb, pc, pd, gP, rfl, Y, xs', c', t', hjs, z1, z2, hn, hK, hc1, hc2⟩
end
end Go.Proofs.Ytjohhjilglilkaa.ListOwn
