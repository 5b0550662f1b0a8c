/-
  ListOwn: what a worker is at, as data; its cells and objects; the groups of all workers' objects with one of them ahead.
-/
import Derived.Test.YtjohhjilglilkaaTListOwn1
import Derived.Test.YtjohhjilglilkaaEngZe
import Derived.Test.YtjohhjilglilkaaEngZi
namespace Go.Proofs.Ytjohhjilglilkaa.ListOwn
open Go Go.RowKit Go.Proofs.Ytjohhjilglilkaa.Eng
set_option linter.unusedVariables false
set_option linter.unusedSimpArgs false
set_option linter.unusedSectionVars false
set_option maxRecDepth 20000
abbrev poU (nx : VV) (w h se : Int) : VObj Unit := .cells [nx, ii 3, uu w, uu h, ii 0, uu se] 47
abbrev puU (nx : VV) (a w : Int) : VObj Unit := .cells [nx, ii 3, ii a, ii a, ii 0, uu w] 50
/-- What cells it has: no slice, an empty one, a table. -/
inductive HS where
  | nil
  | es
  | tab (rows : List (List Int))
/-- What is under way. -/
inductive ZS where
  | idle
  | pop (j : Nat) (w h se : Int)
  | push (j : Nat) (a w : Int)
structure WS where
  h : HS
  z : ZS
def popF : Nat → FuncId
  | 0 => 14
  | 1 => 17
  | _ => 23
def pushF : Nat → FuncId
  | 0 => 15
  | 1 => 20
  | _ => 27
abbrev bq (q : Nat) : Nat := 10 * (q + 1)
def fPb (b : Nat) (x : WS) : HP Unit := match x.z with
  | .pop j w h se => [(b, some (poU (.fn (popF j) [] []) w h se))]
  | _ => []
def fUb (b : Nat) (x : WS) : HP Unit := match x.z with
  | .push j a w => [(b, some (puU (.fn (pushF j) [] []) a w))]
  | _ => []
def fHb (b : Nat) (x : WS) : HP Unit := match x.h with
  | .tab rows => [(b, some (.tab [.int .i64] rows 3))]
  | _ => []
def fP (q : Nat) (x : WS) : HP Unit := fPb (bq q) x
def fU (q : Nat) (x : WS) : HP Unit := fUb (bq q) x
def fH (q : Nat) (x : WS) : HP Unit := fHb (bq q) x
def cP (q : Nat) (x : WS) : VV := match x.z with
  | .pop .. => .ptr (bq q) 0
  | _ => .nilp
def cU (q : Nat) (x : WS) : VV := match x.z with
  | .push .. => .ptr (bq q) 0
  | _ => .nilp
def cH (q : Nat) (x : WS) : VV := match x.h with
  | .nil => .nils
  | .es => .es true
  | .tab rows => .ts (bq q) (.lit 0) (.sym rows.length) none
theorem q4 {q : Nat} (h : q < 4) : q = 0 ∨ q = 1 ∨ q = 2 ∨ q = 3 := by omega
/-! ### Names -/
def inB (b n : Nat) : Bool := Nat.ble b n && Nat.blt n (b + 10)
theorem inB_iff {b n : Nat} : inB b n = true ↔ b ≤ n ∧ n < b + 10 := by
  unfold inB
  rw [Bool.and_eq_true, Nat.blt_eq]
  exact and_congr ⟨Nat.le_of_ble_eq_true, Nat.ble_eq_true_of_le⟩ Iff.rfl
theorem inB_j {b j : Nat} (h : j < 10) : inB b (b + j) = true := inB_iff.2 ⟨by omega, by omega⟩
def Z (b n : Nat) : Bool := Nat.beq n 0 || inB b n
theorem Z_far {A b n : Nat} (hA : 0 < A) (h : A + 10 ≤ b ∨ b + 10 ≤ A) (hn : inB A n = true) : Z b n = false := by
  rw [inB_iff] at hn
  have h1 : inB b n = false := by
    cases h2 : inB b n with
    | false => rfl
    | true => rw [inB_iff] at h2; omega
  have h2 : Nat.beq n 0 = false := by
    cases h3 : Nat.beq n 0 with
    | false => rfl
    | true => have := Nat.eq_of_beq_eq_true h3; omega
  unfold Z
  rw [h1, h2]; rfl
theorem Z_in {b n : Nat} (h : inB b n = true) : Z b n = true := by
  unfold Z
  rw [h]; simp
/-- A worker's objects and its cell: under its own names. -/
structure Own (F : Nat → WS → HP Unit) (C : Nat → WS → VV) : Prop where
  all : ∀ q s, ∀ p ∈ F q s, p.2.isSome = true ∧ inB (bq q) p.1 = true ∧ ∀ o, p.2 = some o → ∀ m ∈ objIds o, inB (bq q) m = true
  cell : ∀ q s, ∀ n ∈ vvIds (C q s), inB (bq q) n = true
  nd : ∀ q s, ((F q s).map (·.1)).Nodup
/-- Objects whose names, and what they lead to, lie between two bounds. -/
def Near (b e : Nat) (l : HP Unit) : Prop := ∀ p ∈ l, p.2.isSome = true ∧ (b ≤ p.1 ∧ p.1 < e) ∧ ∀ o, p.2 = some o → ∀ m ∈ objIds o, b ≤ m ∧ m < e
theorem near_nil (b e : Nat) : Near b e [] := fun p hp => by cases hp
theorem near_cons {b e n : Nat} {o : VObj Unit} {l : HP Unit} (h1 : b ≤ n ∧ n < e) (h2 : ∀ m ∈ objIds o, b ≤ m ∧ m < e) (h3 : Near b e l) : Near b e ((n, some o) :: l) := fun p hp => by
  rcases List.mem_cons.1 hp with rfl | hp
  · exact ⟨rfl, h1, fun o' ho => by injection ho with ho; subst ho; exact h2⟩
  · exact h3 p hp
theorem near_mono {b e b' e' : Nat} {l : HP Unit} (h : Near b e l) (h1 : b' ≤ b) (h2 : e ≤ e') : Near b' e' l := fun p hp => by
  obtain ⟨g1, g2, g3⟩ := h p hp
  exact ⟨g1, ⟨by omega, by omega⟩, fun o ho m hm => by have := g3 o ho m hm; omega⟩
theorem near_own {q e : Nat} {l : HP Unit} (h : Near (bq q) e l) (he : e ≤ bq q + 10) : ∀ p ∈ l, p.2.isSome = true ∧ inB (bq q) p.1 = true ∧ ∀ o, p.2 = some o → ∀ m ∈ objIds o, inB (bq q) m = true := fun p hp => by
  obtain ⟨g1, g2, g3⟩ := h p hp
  exact ⟨g1, inB_iff.2 ⟨g2.1, by omega⟩, fun o ho m hm => by have := g3 o ho m hm; exact inB_iff.2 ⟨this.1, by omega⟩⟩
theorem near_P (b : Nat) (x : WS) : Near b (b + 1) (fPb b x) := by
  obtain ⟨h, z⟩ := x
  cases z with
  | pop j w k se => exact near_cons (by omega) (fun m hm => by simp [objIds, vvIds] at hm) (near_nil _ _)
  | _ => exact near_nil _ _
theorem near_U (b : Nat) (x : WS) : Near b (b + 1) (fUb b x) := by
  obtain ⟨h, z⟩ := x
  cases z with
  | push j a w => exact near_cons (by omega) (fun m hm => by simp [objIds, vvIds] at hm) (near_nil _ _)
  | _ => exact near_nil _ _
theorem near_H (b : Nat) (x : WS) : Near b (b + 1) (fHb b x) := by
  obtain ⟨h, z⟩ := x
  cases h with
  | tab rows => exact near_cons (by omega) (fun m hm => by simp [objIds, vvIds] at hm) (near_nil _ _)
  | _ => exact near_nil _ _
theorem own_P : Own fP cP := by
  refine ⟨fun q s p hp => near_own (near_P (bq q) s) (by omega) p hp, fun q s n hn => ?_, fun q s => ?_⟩
  · obtain ⟨h, z⟩ := s
    cases z <;> simp [cP, vvIds] at hn <;> subst hn <;> exact inB_j (j := 0) (by decide)
  · obtain ⟨h, z⟩ := s
    cases z <;> simp [fP, fPb]
theorem own_U : Own fU cU := by
  refine ⟨fun q s p hp => near_own (near_U (bq q) s) (by omega) p hp, fun q s n hn => ?_, fun q s => ?_⟩
  · obtain ⟨h, z⟩ := s
    cases z <;> simp [cU, vvIds] at hn <;> subst hn <;> exact inB_j (j := 0) (by decide)
  · obtain ⟨h, z⟩ := s
    cases z <;> simp [fU, fUb]
theorem own_H : Own fH cH := by
  refine ⟨fun q s p hp => near_own (near_H (bq q) s) (by omega) p hp, fun q s n hn => ?_, fun q s => ?_⟩
  · obtain ⟨h, z⟩ := s
    cases h <;> simp [cH, vvIds] at hn <;> subst hn <;> exact inB_j (j := 0) (by decide)
  · obtain ⟨h, z⟩ := s
    cases h <;> simp [fH, fHb]
theorem oor_swap {α : Type} {a b r : Option α} (h : a = none ∨ b = none) : oor a (oor b r) = oor b (oor a r) := by
  rcases h with rfl | rfl
  · cases b <;> rfl
  · cases a <;> rfl
theorem oor_last {α : Type} {a b : Option α} (h : a = none ∨ b = none) : oor a b = oor b a := by
  rcases h with rfl | rfl
  · cases b <;> rfl
  · cases a <;> rfl
abbrev CL (C : Nat → WS → VV) (s : Nat → WS) : List VV := [C 0 (s 0), C 1 (s 1), C 2 (s 2), C 3 (s 3)]
/-- The group of all workers' objects. -/
def GG (F : Nat → WS → HP Unit) (C : Nat → WS → VV) (ty : TypeId) (s : Nat → WS) : HP Unit := (0, some (.cells (CL C s) ty)) :: (F 0 (s 0) ++ (F 1 (s 1) ++ (F 2 (s 2) ++ F 3 (s 3))))
/-- The others' objects. -/
def oth (F : Nat → WS → HP Unit) (q : Nat) (s : Nat → WS) : HP Unit := match q with
  | 0 => F 1 (s 1) ++ (F 2 (s 2) ++ F 3 (s 3))
  | 1 => F 0 (s 0) ++ (F 2 (s 2) ++ F 3 (s 3))
  | 2 => F 0 (s 0) ++ (F 1 (s 1) ++ F 3 (s 3))
  | _ => F 0 (s 0) ++ (F 1 (s 1) ++ F 2 (s 2))
def mK (q : Nat) : List Bool := match q with
  | 0 => [false, true, true, true]
  | 1 => [true, false, true, true]
  | 2 => [true, true, false, true]
  | _ => [true, true, true, false]
def upd (s : Nat → WS) (q : Nat) (x : WS) : Nat → WS := fun j => if j = q then x else s j
theorem upd_eq (s : Nat → WS) (q : Nat) (x : WS) : upd s q x q = x := if_pos rfl
theorem upd_ne (s : Nat → WS) {j q : Nat} (x : WS) (h : j ≠ q) : upd s q x j = s j := if_neg h
theorem upd_self (s : Nat → WS) (q : Nat) : s = upd s q (s q) := by
  funext j
  by_cases h : j = q
  · rw [h, upd_eq]
  · rw [upd_ne _ _ h]
section
variable {F : Nat → WS → HP Unit} {C : Nat → WS → VV} (hF : Own F C)
include hF
theorem F_some (q : Nat) (s : WS) : ∀ p ∈ F q s, p.2.isSome = true := fun p hp => (hF.all q s p hp).1
theorem F_ids (q : Nat) (s : WS) : ∀ n o, hget (F q s) n = some o → inB (bq q) n = true ∧ ∀ m ∈ objIds o, inB (bq q) m = true := by
  intro n o ho
  obtain ⟨p, hp, rfl, h2⟩ := hget_mem ho
  obtain ⟨_, h3, h4⟩ := hF.all q s p hp
  exact ⟨h3, h4 o h2⟩
theorem apart {A D : Nat} (h : A ≠ D) (a b : WS) (n : Nat) : hget (F A a) n = none ∨ hget (F D b) n = none := by
  cases ha : hget (F A a) n with
  | none => exact .inl rfl
  | some o => cases hb : hget (F D b) n with
    | none => exact .inr rfl
    | some o' =>
      have h1 := inB_iff.1 (F_ids hF A a n o ha).1; have h2 := inB_iff.1 (F_ids hF D b n o' hb).1
      have e1 : bq A = 10 * (A + 1) := rfl
      have e2 : bq D = 10 * (D + 1) := rfl
      omega
theorem get4 (X : VObj Unit) (A b D G : Nat) (a b' d g : WS) (n : Nat) : hget ((0, some X) :: (F A a ++ (F b b' ++ (F D d ++ F G g)))) n = if n = 0 then some X else oor (hget (F A a) n) (oor (hget (F b b') n) (oor (hget (F D d) n) (hget (F G g) n))) := by
  by_cases e : n = 0
  · subst e; rfl
  · rw [if_neg e, hget_ne e, hget_app (F_some hF A a), hget_app (F_some hF b b'), hget_app (F_some hF D d)]
/-- The group, with the worker q ahead. -/
theorem GG_q {q : Nat} (hq : q < 4) (ty : TypeId) (s : Nat → WS) (n : Nat) : hget (GG F C ty s) n = hget ((0, some (.cells (CL C s) ty)) :: (F q (s q) ++ oth F q s)) n := by
  unfold GG
  rcases q4 hq with rfl | rfl | rfl | rfl
  · rfl
  · show _ = hget ((0, some _) :: (F 1 (s 1) ++ (F 0 (s 0) ++ (F 2 (s 2) ++ F 3 (s 3))))) n
    rw [get4 hF, get4 hF, oor_swap (apart hF (by decide) (s 0) (s 1) n)]
  · show _ = hget ((0, some _) :: (F 2 (s 2) ++ (F 0 (s 0) ++ (F 1 (s 1) ++ F 3 (s 3))))) n
    rw [get4 hF, get4 hF, oor_swap (apart hF (by decide) (s 1) (s 2) n), oor_swap (apart hF (by decide) (s 0) (s 2) n)]
  · show _ = hget ((0, some _) :: (F 3 (s 3) ++ (F 0 (s 0) ++ (F 1 (s 1) ++ F 2 (s 2))))) n
    rw [get4 hF, get4 hF, oor_last (apart hF (by decide) (s 2) (s 3) n), oor_swap (apart hF (by decide) (s 1) (s 3) n), oor_swap (apart hF (by decide) (s 0) (s 3) n)]
theorem hg {q : Nat} (hq : q < 4) (ty : TypeId) (s : Nat → WS) (x : WS) (n : Nat) : hget (GG F C ty (upd s q x)) n = hget ((0, some (.cells (CL C (upd s q x)) ty)) :: (F q x ++ oth F q (upd s q x))) n := by
  rw [GG_q hF hq, upd_eq]
theorem hZF {q : Nat} (hq : q < 4) (s : Nat → WS) : ∀ n o, hget (oth F q s) n = some o → Z (bq q) n = false ∧ ∀ m ∈ objIds o, Z (bq q) m = false := by
  intro n o h
  have one : ∀ {A : Nat} {a : WS}, (bq A + 10 ≤ bq q ∨ bq q + 10 ≤ bq A) → hget (F A a) n = some o → Z (bq q) n = false ∧ ∀ m ∈ objIds o, Z (bq q) m = false := by
    intro A a k1 ha
    obtain ⟨g1, g2⟩ := F_ids hF A a n _ ha
    exact ⟨Z_far (by show 0 < 10 * (A + 1); omega) k1 g1, fun m hm => Z_far (by show 0 < 10 * (A + 1); omega) k1 (g2 m hm)⟩
  have key : ∀ {A b D : Nat} {a b' d : WS}, (bq A + 10 ≤ bq q ∨ bq q + 10 ≤ bq A) → (bq b + 10 ≤ bq q ∨ bq q + 10 ≤ bq b) → (bq D + 10 ≤ bq q ∨ bq q + 10 ≤ bq D) → hget (F A a ++ (F b b' ++ F D d)) n = some o → Z (bq q) n = false ∧ ∀ m ∈ objIds o, Z (bq q) m = false := by
    intro A b D a b' d k1 k2 k3 h
    rw [hget_app (F_some hF A a), hget_app (F_some hF b b')] at h
    cases ha : hget (F A a) n with
    | some o' => rw [ha] at h; injection h with h; subst h; exact one k1 ha
    | none =>
      rw [ha] at h
      cases hb : hget (F b b') n with
      | some o' => rw [hb] at h; injection h with h; subst h; exact one k2 hb
      | none => rw [hb] at h; exact one k3 h
  rcases q4 hq with rfl | rfl | rfl | rfl <;> exact key (by decide) (by decide) (by decide) h
theorem hk {q : Nat} (hq : q < 4) (x : WS) : ∀ p ∈ F q x, p.1 ≠ 0 ∧ Z (bq q) p.1 = true ∧ p.2.isSome = true := by
  intro p hp
  obtain ⟨h1, h2, _⟩ := hF.all q x p hp
  exact ⟨by have := inB_iff.1 h2; have e1 : bq q = 10 * (q + 1) := rfl; omega, Z_in h2, h1⟩
theorem hZL {q : Nat} (hq : q < 4) (s : Nat → WS) : ∀ (i : Nat) x, (mK q)[i]? = some true → (CL C s)[i]? = some x → ∀ n ∈ vvIds x, Z (bq q) n = false := by
  intro i x h1 h2 n hn
  have key : ∀ {A : Nat}, (bq A + 10 ≤ bq q ∨ bq q + 10 ≤ bq A) → n ∈ vvIds (C A (s A)) → Z (bq q) n = false := fun {A} k h => Z_far (by show 0 < 10 * (A + 1); omega) k (hF.cell A (s A) n h)
  have hi : i < 4 := by
    cases Nat.lt_or_ge i 4 with
    | inl h => exact h
    | inr h => rw [List.getElem?_eq_none (by show 4 ≤ i; exact h)] at h2; cases h2
  rcases q4 hq with rfl | rfl | rfl | rfl <;> rcases q4 hi with rfl | rfl | rfl | rfl <;> first
    | (cases h1; done)
    | (injection h2 with h2; subst h2; exact key (A := 0) (by decide) hn)
    | (injection h2 with h2; subst h2; exact key (A := 1) (by decide) hn)
    | (injection h2 with h2; subst h2; exact key (A := 2) (by decide) hn)
    | (injection h2 with h2; subst h2; exact key (A := 3) (by decide) hn)
omit hF in
theorem oth_upd {q : Nat} (hq : q < 4) (s : Nat → WS) (x y : WS) : oth F q (upd s q x) = oth F q (upd s q y) := by
  rcases q4 hq with rfl | rfl | rfl | rfl <;> rfl
end
abbrev GP (s : Nat → WS) : HP Unit := GG fP cP 28 s
abbrev GU (s : Nat → WS) : HP Unit := GG fU cU 30 s
abbrev GH (s : Nat → WS) : HP Unit := GG fH cH 31 s
theorem codeOK (c : Code) : CodeOK MS Try.prog c (ev c) :=
  evCode_sound progOK (fun f args hp nid r h _ => evF_sound progOK (lookH_ok LLO.tabL_ok) 100 19 f args hp nid r h) 100 c
theorem Tri_x {E : Ctx MObj} {c : Code} {st : St MObj} {Q : VX → St MObj → Prop} (h : Tri MS Try.prog E c st Q) : TriX MS (c.wp Try.prog) E st Q := h
abbrev R5 : List (Nat × Nat) := [(0, 0), (1, 1), (2, 2), (3, 3), (4, 4)]
abbrev bas (ps : List (List Int)) (xs : List Int) (c t : Int) (s : Nat → WS) : HP MObj := base ps xs c t (.abs (.grp (GP s))) (.abs (.grp (GU s))) (.abs (.grp (GH s)))
/-! ### What it is in the plain law -/
def HS.own : HS → List Int
  | .tab rows => rows.map fun r => r.getD 0 0
  | _ => []
end Go.Proofs.Ytjohhjilglilkaa.ListOwn
