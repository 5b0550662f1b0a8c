/-
  GreyOnce: what a thread is at, as data; its cell and object; the group of all threads' objects with one of them ahead. Printed by genGND.py.
-/
import Derived.Test.YtlkanbgcghjhnaaTGreyOnce2
import Derived.Test.YtlkanbgcghjhnaaTGreyOnce3
import Derived.Test.YtlkanbgcghjhnaaTGreyOnce4
import Derived.Test.YtlkanbgcghjhnaaEngZm
import Derived.Test.YtlkanbgcghjhnaaEngZi
namespace Go.Proofs.Ytlkanbgcghjhnaa.GreyOnce
open Go Go.RowKit Go.Proofs.Ytlkanbgcghjhnaa.Eng
set_option linter.unusedVariables false
set_option linter.unusedSimpArgs false
set_option linter.unusedSectionVars false
set_option maxRecDepth 20000
inductive WS where
  | idle
  | sh (j : Nat) (a w p1 p2 p3 p4 p5 p6 p7 : Int)
abbrev bq (q : Nat) : Nat := 10 * (q + 1)
def fSb (b : Nat) : WS → HP Unit
  | .sh j a w p1 p2 p3 p4 p5 p6 p7 => [(b, some (.cells [ii a, ii 1, ii j, uu w, ii p1, ii p2, ii p3, ii p4, ii p5, ii p6, ii p7] 53))]
  | .idle => []
def fS (q : Nat) (x : WS) : HP Unit := fSb (bq q) x
def cS (q : Nat) : WS → VV
  | .sh .. => .ptr (bq q) 0
  | .idle => .nilp
theorem q3 {q : Nat} (h : q < 3) : q = 0 ∨ q = 1 ∨ q = 2 := by omega
/-! ### Names -/
def inB (b n : Nat) : Bool := Nat.ble b n && Nat.blt n (b + 10)
theorem inB_iff {b n : Nat} : inB b n = true ↔ b ≤ n ∧ n < b + 10 := by
  unfold inB
  rw [Bool.and_eq_true, Nat.blt_eq]
  exact and_congr ⟨Nat.le_of_ble_eq_true, Nat.ble_eq_true_of_le⟩ Iff.rfl
theorem inB_j {b j : Nat} (h : j < 10) : inB b (b + j) = true := inB_iff.2 ⟨by omega, by omega⟩
def Z (b n : Nat) : Bool := Nat.beq n 0 || inB b n
theorem Z_far {A b n : Nat} (hA : 0 < A) (h : A + 10 ≤ b ∨ b + 10 ≤ A) (hn : inB A n = true) : Z b n = false := by
  rw [inB_iff] at hn
  have h1 : inB b n = false := by
    cases h2 : inB b n with
    | false => rfl
    | true => rw [inB_iff] at h2; omega
  have h2 : Nat.beq n 0 = false := by
    cases h3 : Nat.beq n 0 with
    | false => rfl
    | true => have := Nat.eq_of_beq_eq_true h3; omega
  unfold Z
  rw [h1, h2]; rfl
theorem Z_in {b n : Nat} (h : inB b n = true) : Z b n = true := by
  unfold Z
  rw [h]; simp
/-- A thread's objects and its cell: under its own names. -/
structure Own (F : Nat → WS → HP Unit) (C : Nat → WS → VV) : Prop where
  all : ∀ q s, ∀ p ∈ F q s, p.2.isSome = true ∧ inB (bq q) p.1 = true ∧ ∀ o, p.2 = some o → ∀ m ∈ objIds o, inB (bq q) m = true
  cell : ∀ q s, ∀ n ∈ vvIds (C q s), inB (bq q) n = true
  nd : ∀ q s, ((F q s).map (·.1)).Nodup
/-- Objects whose names, and what they lead to, lie between two bounds. -/
def Near (b e : Nat) (l : HP Unit) : Prop := ∀ p ∈ l, p.2.isSome = true ∧ (b ≤ p.1 ∧ p.1 < e) ∧ ∀ o, p.2 = some o → ∀ m ∈ objIds o, b ≤ m ∧ m < e
theorem near_nil (b e : Nat) : Near b e [] := fun p hp => by cases hp
theorem near_cons {b e n : Nat} {o : VObj Unit} {l : HP Unit} (h1 : b ≤ n ∧ n < e) (h2 : ∀ m ∈ objIds o, b ≤ m ∧ m < e) (h3 : Near b e l) : Near b e ((n, some o) :: l) := fun p hp => by
  rcases List.mem_cons.1 hp with rfl | hp
  · exact ⟨rfl, h1, fun o' ho => by injection ho with ho; subst ho; exact h2⟩
  · exact h3 p hp
theorem near_mono {b e b' e' : Nat} {l : HP Unit} (h : Near b e l) (h1 : b' ≤ b) (h2 : e ≤ e') : Near b' e' l := fun p hp => by
  obtain ⟨g1, g2, g3⟩ := h p hp
  exact ⟨g1, ⟨by omega, by omega⟩, fun o ho m hm => by have := g3 o ho m hm; omega⟩
theorem near_own {q e : Nat} {l : HP Unit} (h : Near (bq q) e l) (he : e ≤ bq q + 10) : ∀ p ∈ l, p.2.isSome = true ∧ inB (bq q) p.1 = true ∧ ∀ o, p.2 = some o → ∀ m ∈ objIds o, inB (bq q) m = true := fun p hp => by
  obtain ⟨g1, g2, g3⟩ := h p hp
  exact ⟨g1, inB_iff.2 ⟨g2.1, by omega⟩, fun o ho m hm => by have := g3 o ho m hm; exact inB_iff.2 ⟨this.1, by omega⟩⟩
theorem near_S (b : Nat) (x : WS) : Near b (b + 1) (fSb b x) := by
  cases x with
  | sh j a w p1 p2 p3 p4 p5 p6 p7 => exact near_cons (by omega) (fun m hm => by simp [objIds, vvIds] at hm) (near_nil _ _)
  | idle => exact near_nil _ _
theorem own_S : Own fS cS := by
  refine ⟨fun q s p hp => near_own (near_S (bq q) s) (by omega) p hp, fun q s n hn => ?_, fun q s => ?_⟩
  · cases s <;> simp [cS, vvIds] at hn <;> subst hn <;> exact inB_j (j := 0) (by decide)
  · cases s <;> simp [fS, fSb]
theorem oor_swap {α : Type} {a b r : Option α} (h : a = none ∨ b = none) : oor a (oor b r) = oor b (oor a r) := by
  rcases h with rfl | rfl
  · cases b <;> rfl
  · cases a <;> rfl
theorem oor_last {α : Type} {a b : Option α} (h : a = none ∨ b = none) : oor a b = oor b a := by
  rcases h with rfl | rfl
  · cases b <;> rfl
  · cases a <;> rfl
abbrev CL (C : Nat → WS → VV) (s : Nat → WS) : List VV := [C 0 (s 0), C 1 (s 1), C 2 (s 2)]
def GG (F : Nat → WS → HP Unit) (C : Nat → WS → VV) (ty : TypeId) (s : Nat → WS) : HP Unit := (0, some (.cells (CL C s) ty)) :: (F 0 (s 0) ++ (F 1 (s 1) ++ F 2 (s 2)))
def oth (F : Nat → WS → HP Unit) (q : Nat) (s : Nat → WS) : HP Unit := match q with
  | 0 => F 1 (s 1) ++ F 2 (s 2)
  | 1 => F 0 (s 0) ++ F 2 (s 2)
  | _ => F 0 (s 0) ++ F 1 (s 1)
def mK (q : Nat) : List Bool := match q with
  | 0 => [false, true, true]
  | 1 => [true, false, true]
  | _ => [true, true, false]
def upd (s : Nat → WS) (q : Nat) (x : WS) : Nat → WS := fun j => if j = q then x else s j
theorem upd_eq (s : Nat → WS) (q : Nat) (x : WS) : upd s q x q = x := if_pos rfl
theorem upd_ne (s : Nat → WS) {j q : Nat} (x : WS) (h : j ≠ q) : upd s q x j = s j := if_neg h
theorem upd_self (s : Nat → WS) (q : Nat) : s = upd s q (s q) := by
  funext j
  by_cases h : j = q
  · rw [h, upd_eq]
  · rw [upd_ne _ _ h]
section
variable {F : Nat → WS → HP Unit} {C : Nat → WS → VV} (hF : Own F C)
include hF
theorem F_some (q : Nat) (s : WS) : ∀ p ∈ F q s, p.2.isSome = true := fun p hp => (hF.all q s p hp).1
theorem F_ids (q : Nat) (s : WS) : ∀ n o, hget (F q s) n = some o → inB (bq q) n = true ∧ ∀ m ∈ objIds o, inB (bq q) m = true := by
  intro n o ho
  obtain ⟨p, hp, rfl, h2⟩ := hget_mem ho
  obtain ⟨_, h3, h4⟩ := hF.all q s p hp
  exact ⟨h3, h4 o h2⟩
theorem apart {A D : Nat} (h : A ≠ D) (a b : WS) (n : Nat) : hget (F A a) n = none ∨ hget (F D b) n = none := by
  cases ha : hget (F A a) n with
  | none => exact .inl rfl
  | some o => cases hb : hget (F D b) n with
    | none => exact .inr rfl
    | some o' =>
      have h1 := inB_iff.1 (F_ids hF A a n o ha).1; have h2 := inB_iff.1 (F_ids hF D b n o' hb).1
      have e1 : bq A = 10 * (A + 1) := rfl
      have e2 : bq D = 10 * (D + 1) := rfl
      omega
theorem get3 (X : VObj Unit) (A b D : Nat) (a b' d : WS) (n : Nat) : hget ((0, some X) :: (F A a ++ (F b b' ++ F D d))) n = if n = 0 then some X else oor (hget (F A a) n) (oor (hget (F b b') n) (hget (F D d) n)) := by
  by_cases e : n = 0
  · subst e; rfl
  · rw [if_neg e, hget_ne e, hget_app (F_some hF A a), hget_app (F_some hF b b')]
theorem GG_q {q : Nat} (hq : q < 3) (ty : TypeId) (s : Nat → WS) (n : Nat) : hget (GG F C ty s) n = hget ((0, some (.cells (CL C s) ty)) :: (F q (s q) ++ oth F q s)) n := by
  unfold GG
  rcases q3 hq with rfl | rfl | rfl
  · rfl
  · show _ = hget ((0, some _) :: (F 1 (s 1) ++ (F 0 (s 0) ++ F 2 (s 2)))) n
    rw [get3 hF, get3 hF, oor_swap (apart hF (by decide) (s 0) (s 1) n)]
  · show _ = hget ((0, some _) :: (F 2 (s 2) ++ (F 0 (s 0) ++ F 1 (s 1)))) n
    rw [get3 hF, get3 hF, oor_last (apart hF (by decide) (s 1) (s 2) n), oor_swap (apart hF (by decide) (s 0) (s 2) n)]
theorem hg {q : Nat} (hq : q < 3) (ty : TypeId) (s : Nat → WS) (x : WS) (n : Nat) : hget (GG F C ty (upd s q x)) n = hget ((0, some (.cells (CL C (upd s q x)) ty)) :: (F q x ++ oth F q (upd s q x))) n := by
  rw [GG_q hF hq, upd_eq]
theorem hZF {q : Nat} (hq : q < 3) (s : Nat → WS) : ∀ n o, hget (oth F q s) n = some o → Z (bq q) n = false ∧ ∀ m ∈ objIds o, Z (bq q) m = false := by
  intro n o h
  have one : ∀ {A : Nat} {a : WS}, (bq A + 10 ≤ bq q ∨ bq q + 10 ≤ bq A) → hget (F A a) n = some o → Z (bq q) n = false ∧ ∀ m ∈ objIds o, Z (bq q) m = false := by
    intro A a k1 ha
    obtain ⟨g1, g2⟩ := F_ids hF A a n _ ha
    exact ⟨Z_far (by show 0 < 10 * (A + 1); omega) k1 g1, fun m hm => Z_far (by show 0 < 10 * (A + 1); omega) k1 (g2 m hm)⟩
  have key : ∀ {A b : Nat} {a b' : WS}, (bq A + 10 ≤ bq q ∨ bq q + 10 ≤ bq A) → (bq b + 10 ≤ bq q ∨ bq q + 10 ≤ bq b) → hget (F A a ++ F b b') n = some o → Z (bq q) n = false ∧ ∀ m ∈ objIds o, Z (bq q) m = false := by
    intro A b a b' k1 k2 h
    rw [hget_app (F_some hF A a)] at h
    cases ha : hget (F A a) n with
    | some o' => rw [ha] at h; injection h with h; subst h; exact one k1 ha
    | none => rw [ha] at h; exact one k2 h
  rcases q3 hq with rfl | rfl | rfl <;> exact key (by decide) (by decide) h
theorem hk {q : Nat} (hq : q < 3) (x : WS) : ∀ p ∈ F q x, p.1 ≠ 0 ∧ Z (bq q) p.1 = true ∧ p.2.isSome = true := by
  intro p hp
  obtain ⟨h1, h2, _⟩ := hF.all q x p hp
  exact ⟨by have := inB_iff.1 h2; have e1 : bq q = 10 * (q + 1) := rfl; omega, Z_in h2, h1⟩
theorem hZL {q : Nat} (hq : q < 3) (s : Nat → WS) : ∀ (i : Nat) x, (mK q)[i]? = some true → (CL C s)[i]? = some x → ∀ n ∈ vvIds x, Z (bq q) n = false := by
  intro i x h1 h2 n hn
  have key : ∀ {A : Nat}, (bq A + 10 ≤ bq q ∨ bq q + 10 ≤ bq A) → n ∈ vvIds (C A (s A)) → Z (bq q) n = false := fun {A} k h => Z_far (by show 0 < 10 * (A + 1); omega) k (hF.cell A (s A) n h)
  have hi : i < 3 := by
    cases Nat.lt_or_ge i 3 with
    | inl h => exact h
    | inr h => rw [List.getElem?_eq_none (by show 3 ≤ i; exact h)] at h2; cases h2
  rcases q3 hq with rfl | rfl | rfl <;> rcases q3 hi with rfl | rfl | rfl <;> first
    | (cases h1; done)
    | (injection h2 with h2; subst h2; exact key (A := 0) (by decide) hn)
    | (injection h2 with h2; subst h2; exact key (A := 1) (by decide) hn)
    | (injection h2 with h2; subst h2; exact key (A := 2) (by decide) hn)
omit hF in
theorem oth_upd {q : Nat} (hq : q < 3) (s : Nat → WS) (x y : WS) : oth F q (upd s q x) = oth F q (upd s q y) := by
  rcases q3 hq with rfl | rfl | rfl <;> rfl
end
abbrev GS (s : Nat → WS) : HP Unit := GG fS cS 38 s
theorem codeOK (c : Code) : CodeOK MS Try.prog c (ev c) :=
  evCode_sound progOK (fun f args hp nid r h _ => evF_sound progOK (lookH_ok tabG_ok) 200 19 f args hp nid r h) 200 c
abbrev R7 : List (Nat × Nat) := [(0, 0), (1, 1), (2, 2), (3, 3), (4, 4), (5, 5), (6, 6)]
/-- What the one that takes is at. -/
structure NS where
  j : Nat
  w : Int
  n1 : Int
  n2 : Int
  n3 : Int
  n4 : Int
  n5 : Int
  n6 : Int
  n7 : Int
abbrev oN (x : NS) : VObj MObj := nxO x.j x.w x.n1 x.n2 x.n3 x.n4 x.n5 x.n6 x.n7
abbrev bas (ps : List (List Int)) (xs ys : List Int) (c : Int) (s : Nat → WS) (x : NS) (a t : Nat → Bool) : HP MObj := base ps xs ys c (.abs (.grp (GS s))) (oN x) (SO a) (SO t)
abbrev PN (q : Nat) (x : VV) : List VV := match q with
  | 0 => [x, .nilp, .nilp]
  | 1 => [.nilp, x, .nilp]
  | _ => [.nilp, .nilp, x]
theorem rawAC {q : Nat} (hq : q < 3) (vs : Nat → Value) (x : VV) : rawAt vs (mK q) 0 (PN q x) = AC q x vs := by
  rcases q3 hq with rfl | rfl | rfl <;> rfl
theorem mK_len (q : Nat) : (mK q).length = 3 := by
  match q with
  | 0 => rfl
  | 1 => rfl
  | _ + 2 => rfl
theorem dnS (q : Nat) (Y : WS) : dnHP (upHP (fS q Y)) = fS q Y := by
  cases Y <;> rfl
theorem mixPN {q : Nat} (hq : q < 3) (C : Nat → WS → VV) (s : Nat → WS) (X Y : WS) : mixAt (mK q) (CL C (upd s q X)) (PN q (C q Y)) = CL C (upd s q Y) := by
  rcases q3 hq with rfl | rfl | rfl <;> rfl
section
variable {ps : List (List Int)} {xs ys : List Int} {c : Int} {N : NS} {a t : Nat → Bool} {q : Nat} (hq : q < 3) (E : Ctx MObj) (hE : E.nid0 = 1) (hT : E.top = 60) (hD : ∀ b, 1 ≤ b → E.D b)
include hq hE hT hD
def Shut (q k : Nat) (s : Nat → WS) (hp : HP MObj) (nid : Nat) (vS : Nat → Value) (Y : WS) (xS : VV) (RS : List (Nat × Nat)) (R : HP MObj) : Prop :=
  hget hp 3 = some (.cells (rawAt vS (mK q) 0 (AC q xS vS)) 38) ∧ renMask RS (mK q) (AC q xS vS) = some (PN q (cS q Y)) ∧ renHP RS hp RS = some (upHP (fS q Y)) ∧ grpChk (Z (bq q)) 7 nid 3 RS (upHP (fS q Y)) = true ∧
  renHP R7 (closeH 3 (GS (upd s q Y)) (RS.map (·.1)) hp) R7 = some R ∧ renChk R7 (closeH 3 (GS (upd s q Y)) (RS.map (·.1)) hp) 1 nid 7 = true
/-- A thread's object is opened, something runs, it is hidden again. -/
theorem open1 {cd : Code} {tm : List SV} {m n : Nat} (s : Nat → WS) (X : WS) (k : Nat) (xS : VV) (Q : List SV → WS → List Int → Int → (Nat → Bool) → Prop) (hk2 : k ≤ 40) (hl : (fS q X).length = k)
    (ho : renMask (numb ((fS q X).map (·.1)) 7) (mK q) (CL cS (upd s q X)) = some (PN q xS) ∧ renHP (numb ((fS q X).map (·.1)) 7) (upHP (fS q X)) (numb ((fS q X).map (·.1)) 7) = some (upHP (fSb 7 X)))
    (inner : ∀ (vS : Nat → Value) (E2 : Ctx MObj), E2.top = 60 → (∀ n, 1 ≤ n → E2.D n) → Tri MS Try.prog E2 cd ⟨tm, upHP (fSb 7 X) ++ base ps xs ys c (.cells (AC q xS vS) 38) (oN N) (SO a) (SO t), 7 + k, []⟩ fun x st => x = .normal ∧ ∃ (Y : WS) (xs' : List Int) (c' : Int) (a' : Nat → Bool) (yS : VV) (RS : List (Nat × Nat)) (pre' : List SV) (js : Nat → SV), st.tm = pre' ++ junk js n m ∧ pre'.length = m ∧ renSVs R7 pre' = some pre' ∧
      Shut q k s st.hp st.nid vS Y yS RS (bas ps xs' ys c' (upd s q Y) N a' t) ∧ 7 ≤ st.nid ∧ Q pre' Y xs' c' a') :
    Tri MS Try.prog E cd ⟨tm, bas ps xs ys c (upd s q X) N a t, 7, []⟩ fun x st => x = .normal ∧ ∃ (Y : WS) (xs' : List Int) (c' : Int) (a' : Nat → Bool) (pre' : List SV) (js : Nat → SV), Q pre' Y xs' c' a' ∧ st = ⟨pre' ++ junk js n m, bas ps xs' ys c' (upd s q Y) N a' t, 7, []⟩ := by
  obtain ⟨p1, p2⟩ := ho
  have key : TriX MS (cd.wp Try.prog) E ⟨tm, bas ps xs ys c (upd s q X) N a t, 7, []⟩ fun x st => x = .normal ∧ ∃ (Y : WS) (xs' : List Int) (c' : Int) (a' : Nat → Bool) (pre' : List SV) (js : Nat → SV), st.tm = pre' ++ junk js n m ∧ pre'.length = m ∧ renSVs R7 pre' = some pre' ∧ renHP R7 st.hp R7 = some (bas ps xs' ys c' (upd s q Y) N a' t) ∧ renChk R7 st.hp 1 st.nid 7 = true ∧ Q pre' Y xs' c' a' := by
    refine tri_group (mono_wp _) 3 (GS (upd s q X)) (fS q X) (oth fS q (upd s q X)) (mK q) (CL cS (upd s q X)) (PN q xS) 38 (upHP (fSb 7 X)) (Z (bq q)) rfl (hg own_S hq _ s X) (hk own_S hq X) (own_S.nd q _) (mK_len q) rfl (hZL own_S hq _) (hZF own_S hq _) p1 p2 (by rw [hT, hl]; omega) (hD 3 (by decide)) ?_
    intro vS ES nS tS uS
    rw [rawAC hq, hl]
    refine TriX.mono (mono_wp _) (inner vS ES (by rw [tS, hT]) (fun n hn => uS n (hD n hn))) ?_
    rintro x st ⟨rfl, Y, xs', c', a', yS, RS, pre', js, h1, h2, h3, ⟨pa, pb, pc, pd, z1, z2⟩, hn, hQ⟩
    have gS : ∀ m, hget (GS (upd s q Y)) m = hget ((0, some (.cells (mixAt (mK q) (CL cS (upd s q X)) (PN q (cS q Y))) 38)) :: (dnHP (upHP (fS q Y)) ++ oth fS q (upd s q X))) m := fun m => by
      rw [hg own_S hq _ s Y m, mixPN hq, dnS, oth_upd hq s Y X]
    exact ⟨AC q yS vS, PN q (cS q Y), RS, upHP (fS q Y), GS (upd s q Y), pa, pb, pc, pd, gS, rfl, Y, xs', c', a', pre', js, h1, h2, h3, z1, z2, hQ⟩
  refine Tri.postE key ?_
  rintro x ⟨tm', hp, nid, dd⟩ ac w ⟨rfl, Y, xs', c', a', pre', js, h1, h2, h3, h4, h5, hQ⟩ hat
  have h1 : tm' = pre' ++ junk js n m := h1
  subst h1
  have h5 : renChk R7 hp E.nid0 nid 7 = true := by rw [hE]; exact h5
  obtain ⟨js2, h10⟩ := at_rename (dirty' := []) (m := m) (n := n) (pre := pre') (pre' := pre') R7 (by rw [← h2, List.take_left']; rfl) (by simp [length_junk, h2]) h3 h4 h5 (by omega) (by omega) hat
  exact ⟨_, h10, rfl, Y, xs', c', a', pre', js2, hQ, rfl⟩
end
end Go.Proofs.Ytlkanbgcghjhnaa.GreyOnce
