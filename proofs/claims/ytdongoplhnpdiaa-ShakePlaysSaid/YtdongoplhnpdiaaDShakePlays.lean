/-
  ShakePlays: what a thread is at, as data; its cells and objects; the groups of all threads' polls with one of them ahead.
-/
import Derived.Test.YtdongoplhnpdiaaTShakePlays1
import Derived.Test.YtdongoplhnpdiaaEngZe
import Derived.Test.YtdongoplhnpdiaaEngZi
namespace Go.Proofs.Ytdongoplhnpdiaa.ShakePlays
open Go Go.RowKit Go.Proofs.Ytdongoplhnpdiaa.Eng
set_option linter.unusedVariables false
set_option linter.unusedSimpArgs false
set_option linter.unusedSectionVars false
set_option maxRecDepth 20000
/-- What a thread's poll is at: none under way; shading a root (its five steps); behind the roots; following a root; telling. -/
inductive TS where
  | idle (vb : Value)
  | s0 (p0 p1 p2 p3 rt at' mk : Int) (ua ub : Nat → Value)
  | s1 (p0 p1 p2 p3 rt at' mk w h0 h1 h2 h3 h4 h5 h6 : Int)
  | sn (j p0 p1 p2 p3 rt at' mk w h0 h1 h2 h3 h4 h5 h6 : Int)
  | learn (p0 p1 p2 p3 : Int)
  | fix (p0 p1 p2 p3 rt : Int)
  | tell (p0 p1 p2 p3 rt kk : Int) (va vb : Value)
/-- A thread: its phase, its sentinel, its roots, and what it is at. -/
structure TD where
  (o0 o1 o2 o3 a N L0 L1 L2 L3 L4 L5 L6 L7 : Int)
  (z : TS)
abbrev bq (q : Nat) : Nat := 10 * (q + 1)
abbrev poU (q : Nat) (x : TD) (p0 p1 p2 p3 pc rt : Int) (sh : VV) : VObj Unit := .cells (pl ++ [ii q, ii x.o0, ii x.o1, ii x.o2, ii x.o3, ii p0, ii p1, ii p2, ii p3, ii x.a] ++ rc x.N x.L0 x.L1 x.L2 x.L3 x.L4 x.L5 x.L6 x.L7 ++ [ii pc, ii rt, sh]) 88
abbrev roU (q : Nat) (x : TD) (p0 p1 p2 p3 pc rt : Int) (sh : VV) : VObj Unit := .cells (pl ++ [ii q, ii pc, ii rt, ii x.o0, ii x.o1, ii x.o2, ii x.o3, ii p0, ii p1, ii p2, ii p3, ii x.a] ++ rc x.N x.L0 x.L1 x.L2 x.L3 x.L4 x.L5 x.L6 x.L7 ++ [sh]) 75
abbrev sdU (at' mk pc w h0 h1 h2 h3 h4 h5 h6 : Int) : VObj Unit := .cells [ii at', ii mk, ii pc, uu w, ii h0, ii h1, ii h2, ii h3, ii h4, ii h5, ii h6] 112
abbrev rdU (at' mk pc w h0 h1 h2 h3 h4 h5 h6 : Int) : VObj Unit := .cells [ii at', ii mk, ii pc, ii h0, ii h1, ii h2, ii h3, ii h4, ii h5, ii h6, uu w] 124
abbrev sdU0 (at' mk : Int) (us : Nat → Value) : VObj Unit := .cells [ii at', ii mk, ii 0, .raw (us 3), .raw (us 4), .raw (us 5), .raw (us 6), .raw (us 7), .raw (us 8), .raw (us 9), .raw (us 10)] 112
abbrev rdU0 (at' mk : Int) (us : Nat → Value) : VObj Unit := .cells [ii at', ii mk, ii 1, .raw (us 3), .raw (us 4), .raw (us 5), .raw (us 6), .raw (us 7), .raw (us 8), .raw (us 9), .raw (us 10)] 124
def cA (q : Nat) (x : TD) : VV := match x.z with
  | .idle _ => .nilp
  | _ => .ptr (bq q) 0
def cB (q : Nat) (x : TD) : VV := match x.z with
  | .idle v => .raw v
  | _ => .ptr (bq q) 0
def fAb (b q : Nat) (x : TD) : HP Unit := match x.z with
  | .idle _ => []
  | .s0 p0 p1 p2 p3 rt at' mk ua _ => [(b, some (poU q x p0 p1 p2 p3 1 rt (.ptr (b + 1) 0))), (b + 1, some (sdU0 at' mk ua))]
  | .s1 p0 p1 p2 p3 rt at' mk w h0 h1 h2 h3 h4 h5 h6 => [(b, some (poU q x p0 p1 p2 p3 1 rt (.ptr (b + 1) 0))), (b + 1, some (sdU at' mk 1 w h0 h1 h2 h3 h4 h5 h6))]
  | .sn j p0 p1 p2 p3 rt at' mk w h0 h1 h2 h3 h4 h5 h6 => [(b, some (poU q x p0 p1 p2 p3 1 rt (.ptr (b + 1) 0))), (b + 1, some (sdU at' mk j w h0 h1 h2 h3 h4 h5 h6))]
  | .learn p0 p1 p2 p3 => [(b, some (poU q x p0 p1 p2 p3 2 0 .nilp))]
  | .fix p0 p1 p2 p3 rt => [(b, some (poU q x p0 p1 p2 p3 3 rt .nilp))]
  | .tell p0 p1 p2 p3 rt _ va _ => [(b, some (poU q x p0 p1 p2 p3 4 rt (.raw va)))]
def fA (q : Nat) (x : TD) : HP Unit := fAb (bq q) q x
def fBb (b q : Nat) (x : TD) : HP Unit := match x.z with
  | .idle _ => []
  | .s0 p0 p1 p2 p3 rt at' mk _ ub => [(b, some (roU q x p0 p1 p2 p3 2 rt (.ptr (b + 1) 0))), (b + 1, some (rdU0 at' mk ub))]
  | .s1 p0 p1 p2 p3 rt at' mk w h0 h1 h2 h3 h4 h5 h6 => [(b, some (roU q x p0 p1 p2 p3 2 rt (.ptr (b + 1) 0))), (b + 1, some (rdU at' mk 2 w h0 h1 h2 h3 h4 h5 h6))]
  | .sn j p0 p1 p2 p3 rt at' mk w h0 h1 h2 h3 h4 h5 h6 => [(b, some (roU q x p0 p1 p2 p3 2 rt (.ptr (b + 1) 0))), (b + 1, some (rdU at' mk (j + 1) w h0 h1 h2 mk 1 h5 h6))]
  | .learn p0 p1 p2 p3 => [(b, some (roU q x p0 p1 p2 p3 3 0 .nilp))]
  | .fix p0 p1 p2 p3 rt => [(b, some (roU q x p0 p1 p2 p3 4 rt .nilp))]
  | .tell p0 p1 p2 p3 _ kk _ vb => [(b, some (roU q x p0 p1 p2 p3 5 kk (.raw vb)))]
def fB (q : Nat) (x : TD) : HP Unit := fBb (bq q) q x
/-- The collector's objects, all by signs. -/
abbrev caS (g0 g1 g2 g3 : Int) (tl : Bool) (th : Int) : VObj MObj := .cells (pl ++ [ii g0, ii g1, ii g2, ii g3, .bool (.sym tl), ii th]) 85
abbrev cbS (g0 g1 g2 g3 pc th : Int) : VObj MObj := .cells (pl ++ [ii g0, ii g1, ii g2, ii g3, ii pc, ii th]) 99
theorem q3 {q : Nat} (h : q < 3) : q = 0 ∨ q = 1 ∨ q = 2 := by omega
/-! ### Names -/
def inB (b n : Nat) : Bool := Nat.ble b n && Nat.blt n (b + 10)
theorem inB_iff {b n : Nat} : inB b n = true ↔ b ≤ n ∧ n < b + 10 := by
  unfold inB
  rw [Bool.and_eq_true, Nat.blt_eq]
  exact and_congr ⟨Nat.le_of_ble_eq_true, Nat.ble_eq_true_of_le⟩ Iff.rfl
/-- The names that are a thread's own. -/
def Z (b n : Nat) : Bool := Nat.beq n 0 || inB b n
theorem Z_far {A b n : Nat} (hA : 0 < A) (h : A + 10 ≤ b ∨ b + 10 ≤ A) (hn : inB A n = true) : Z b n = false := by
  rw [inB_iff] at hn
  have h1 : inB b n = false := by
    cases h2 : inB b n with
    | false => rfl
    | true => rw [inB_iff] at h2; omega
  have h2 : Nat.beq n 0 = false := by
    cases h3 : Nat.beq n 0 with
    | false => rfl
    | true => have := Nat.eq_of_beq_eq_true h3; omega
  unfold Z
  rw [h1, h2]; rfl
theorem Z_in {b n : Nat} (h : inB b n = true) : Z b n = true := by
  unfold Z
  rw [h]; simp
/-- A thread's objects and its cell: under its own names. -/
structure Own (F : Nat → TD → HP Unit) (C : Nat → TD → VV) : Prop where
  all : ∀ q s, ∀ p ∈ F q s, p.2.isSome = true ∧ inB (bq q) p.1 = true ∧ ∀ o, p.2 = some o → ∀ m ∈ objIds o, inB (bq q) m = true
  cell : ∀ q s, ∀ n ∈ vvIds (C q s), inB (bq q) n = true
  nd : ∀ q s, ((F q s).map (·.1)).Nodup
theorem inB0 (b : Nat) : inB b b = true := inB_iff.2 ⟨by omega, by omega⟩
theorem inB1 (b : Nat) : inB b (b + 1) = true := inB_iff.2 ⟨by omega, by omega⟩
theorem own_A : Own fA cA := by
  refine ⟨fun q s p hp => ?_, fun q s n hn => ?_, fun q s => ?_⟩
  · obtain ⟨o0, o1, o2, o3, a, N, L0, L1, L2, L3, L4, L5, L6, L7, z⟩ := s
    cases z <;> simp only [fA, fAb, List.mem_cons, List.not_mem_nil, or_false] at hp
    all_goals
      first
      | exact hp.elim
      | (rcases hp with rfl | rfl
         · refine ⟨rfl, inB0 _, fun o ho m hm => ?_⟩
           injection ho with ho; subst ho
           simp [objIds, vvIds] at hm
           rw [hm]; exact inB1 _
         · refine ⟨rfl, inB1 _, fun o ho m hm => ?_⟩
           injection ho with ho; subst ho
           simp [objIds, vvIds] at hm)
      | (subst hp
         refine ⟨rfl, inB0 _, fun o ho m hm => ?_⟩
         injection ho with ho; subst ho
         simp [objIds, vvIds] at hm)
  · obtain ⟨o0, o1, o2, o3, a, N, L0, L1, L2, L3, L4, L5, L6, L7, z⟩ := s
    cases z <;> simp [cA, vvIds] at hn <;> subst hn <;> exact inB0 _
  · obtain ⟨o0, o1, o2, o3, a, N, L0, L1, L2, L3, L4, L5, L6, L7, z⟩ := s
    cases z <;> simp [fA, fAb]
theorem own_B : Own fB cB := by
  refine ⟨fun q s p hp => ?_, fun q s n hn => ?_, fun q s => ?_⟩
  · obtain ⟨o0, o1, o2, o3, a, N, L0, L1, L2, L3, L4, L5, L6, L7, z⟩ := s
    cases z <;> simp only [fB, fBb, List.mem_cons, List.not_mem_nil, or_false] at hp
    all_goals
      first
      | exact hp.elim
      | (rcases hp with rfl | rfl
         · refine ⟨rfl, inB0 _, fun o ho m hm => ?_⟩
           injection ho with ho; subst ho
           simp [objIds, vvIds] at hm
           rw [hm]; exact inB1 _
         · refine ⟨rfl, inB1 _, fun o ho m hm => ?_⟩
           injection ho with ho; subst ho
           simp [objIds, vvIds] at hm)
      | (subst hp
         refine ⟨rfl, inB0 _, fun o ho m hm => ?_⟩
         injection ho with ho; subst ho
         simp [objIds, vvIds] at hm)
  · obtain ⟨o0, o1, o2, o3, a, N, L0, L1, L2, L3, L4, L5, L6, L7, z⟩ := s
    cases z <;> simp [cB, vvIds] at hn <;> subst hn <;> exact inB0 _
  · obtain ⟨o0, o1, o2, o3, a, N, L0, L1, L2, L3, L4, L5, L6, L7, z⟩ := s
    cases z <;> simp [fB, fBb]
theorem oor_swap {α : Type} {a b r : Option α} (h : a = none ∨ b = none) : oor a (oor b r) = oor b (oor a r) := by
  rcases h with rfl | rfl
  · cases b <;> rfl
  · cases a <;> rfl
theorem oor_last {α : Type} {a b : Option α} (h : a = none ∨ b = none) : oor a b = oor b a := by
  rcases h with rfl | rfl
  · cases b <;> rfl
  · cases a <;> rfl
abbrev CL (C : Nat → TD → VV) (s : Nat → TD) : List VV := [C 0 (s 0), C 1 (s 1), C 2 (s 2)]
/-- The group of all threads' objects. -/
def GG (F : Nat → TD → HP Unit) (C : Nat → TD → VV) (ty : TypeId) (s : Nat → TD) : HP Unit := (0, some (.cells (CL C s) ty)) :: (F 0 (s 0) ++ (F 1 (s 1) ++ F 2 (s 2)))
/-- The others' objects. -/
def oth (F : Nat → TD → HP Unit) (q : Nat) (s : Nat → TD) : HP Unit := match q with
  | 0 => F 1 (s 1) ++ F 2 (s 2)
  | 1 => F 0 (s 0) ++ F 2 (s 2)
  | _ => F 0 (s 0) ++ F 1 (s 1)
def mK (q : Nat) : List Bool := match q with
  | 0 => [false, true, true]
  | 1 => [true, false, true]
  | _ => [true, true, false]
def upd (s : Nat → TD) (q : Nat) (x : TD) : Nat → TD := fun j => if j = q then x else s j
theorem upd_eq (s : Nat → TD) (q : Nat) (x : TD) : upd s q x q = x := if_pos rfl
theorem upd_ne (s : Nat → TD) {j q : Nat} (x : TD) (h : j ≠ q) : upd s q x j = s j := if_neg h
section
variable {F : Nat → TD → HP Unit} {C : Nat → TD → VV} (hF : Own F C)
include hF
theorem F_some (q : Nat) (s : TD) : ∀ p ∈ F q s, p.2.isSome = true := fun p hp => (hF.all q s p hp).1
theorem F_ids (q : Nat) (s : TD) : ∀ n o, hget (F q s) n = some o → inB (bq q) n = true ∧ ∀ m ∈ objIds o, inB (bq q) m = true := by
  intro n o ho
  obtain ⟨p, hp, rfl, h2⟩ := hget_mem ho
  obtain ⟨_, h3, h4⟩ := hF.all q s p hp
  exact ⟨h3, h4 o h2⟩
theorem apart {A D : Nat} (h : A ≠ D) (a b : TD) (n : Nat) : hget (F A a) n = none ∨ hget (F D b) n = none := by
  cases ha : hget (F A a) n with
  | none => exact .inl rfl
  | some o => cases hb : hget (F D b) n with
    | none => exact .inr rfl
    | some o' =>
      have h1 := inB_iff.1 (F_ids hF A a n o ha).1; have h2 := inB_iff.1 (F_ids hF D b n o' hb).1
      have e1 : bq A = 10 * (A + 1) := rfl
      have e2 : bq D = 10 * (D + 1) := rfl
      omega
theorem get3 (X : VObj Unit) (A b D : Nat) (a b' d : TD) (n : Nat) : hget ((0, some X) :: (F A a ++ (F b b' ++ F D d))) n = if n = 0 then some X else oor (hget (F A a) n) (oor (hget (F b b') n) (hget (F D d) n)) := by
  by_cases e : n = 0
  · subst e; rfl
  · rw [if_neg e, hget_ne e, hget_app (F_some hF A a), hget_app (F_some hF b b')]
/-- The group, with the thread q ahead. -/
theorem GG_q {q : Nat} (hq : q < 3) (ty : TypeId) (s : Nat → TD) (n : Nat) : hget (GG F C ty s) n = hget ((0, some (.cells (CL C s) ty)) :: (F q (s q) ++ oth F q s)) n := by
  unfold GG
  rcases q3 hq with rfl | rfl | rfl
  · rfl
  · show _ = hget ((0, some _) :: (F 1 (s 1) ++ (F 0 (s 0) ++ F 2 (s 2)))) n
    rw [get3 hF, get3 hF, oor_swap (apart hF (by decide) (s 0) (s 1) n)]
  · show _ = hget ((0, some _) :: (F 2 (s 2) ++ (F 0 (s 0) ++ F 1 (s 1)))) n
    rw [get3 hF, get3 hF, oor_last (apart hF (by decide) (s 1) (s 2) n), oor_swap (apart hF (by decide) (s 0) (s 2) n)]
theorem hg {q : Nat} (hq : q < 3) (ty : TypeId) (s : Nat → TD) (x : TD) (n : Nat) : hget (GG F C ty (upd s q x)) n = hget ((0, some (.cells (CL C (upd s q x)) ty)) :: (F q x ++ oth F q (upd s q x))) n := by
  rw [GG_q hF hq, upd_eq]
theorem hZF {q : Nat} (hq : q < 3) (s : Nat → TD) : ∀ n o, hget (oth F q s) n = some o → Z (bq q) n = false ∧ ∀ m ∈ objIds o, Z (bq q) m = false := by
  intro n o h
  have key : ∀ {A b : Nat} {a b' : TD}, (bq A + 10 ≤ bq q ∨ bq q + 10 ≤ bq A) → (bq b + 10 ≤ bq q ∨ bq q + 10 ≤ bq b) → hget (F A a ++ F b b') n = some o → Z (bq q) n = false ∧ ∀ m ∈ objIds o, Z (bq q) m = false := by
    intro A b a b' k1 k2 h
    rw [hget_app (F_some hF A a)] at h
    cases ha : hget (F A a) n with
    | some o' => rw [ha] at h; injection h with h; subst h; obtain ⟨g1, g2⟩ := F_ids hF A a n _ ha; exact ⟨Z_far (by show 0 < 10 * (A + 1); omega) k1 g1, fun m hm => Z_far (by show 0 < 10 * (A + 1); omega) k1 (g2 m hm)⟩
    | none =>
      rw [ha] at h
      obtain ⟨g1, g2⟩ := F_ids hF b b' n o h
      exact ⟨Z_far (by show 0 < 10 * (b + 1); omega) k2 g1, fun m hm => Z_far (by show 0 < 10 * (b + 1); omega) k2 (g2 m hm)⟩
  rcases q3 hq with rfl | rfl | rfl <;> exact key (by decide) (by decide) h
theorem hk {q : Nat} (hq : q < 3) (x : TD) : ∀ p ∈ F q x, p.1 ≠ 0 ∧ Z (bq q) p.1 = true ∧ p.2.isSome = true := by
  intro p hp
  obtain ⟨h1, h2, _⟩ := hF.all q x p hp
  exact ⟨by have := inB_iff.1 h2; have e1 : bq q = 10 * (q + 1) := rfl; omega, Z_in h2, h1⟩
theorem hZL {q : Nat} (hq : q < 3) (s : Nat → TD) : ∀ (i : Nat) x, (mK q)[i]? = some true → (CL C s)[i]? = some x → ∀ n ∈ vvIds x, Z (bq q) n = false := by
  intro i x h1 h2 n hn
  have key : ∀ {A : Nat}, (bq A + 10 ≤ bq q ∨ bq q + 10 ≤ bq A) → n ∈ vvIds (C A (s A)) → Z (bq q) n = false := fun {A} k h => Z_far (by show 0 < 10 * (A + 1); omega) k (hF.cell A (s A) n h)
  rcases q3 hq with rfl | rfl | rfl
  · match i, h1, h2 with
    | 0, h1, _ => cases h1
    | 1, _, h2 => injection h2 with h2; subst h2; exact key (A := 1) (by decide) hn
    | 2, _, h2 => injection h2 with h2; subst h2; exact key (A := 2) (by decide) hn
    | i + 3, h1, _ => cases h1
  · match i, h1, h2 with
    | 0, _, h2 => injection h2 with h2; subst h2; exact key (A := 0) (by decide) hn
    | 1, h1, _ => cases h1
    | 2, _, h2 => injection h2 with h2; subst h2; exact key (A := 2) (by decide) hn
    | i + 3, h1, _ => cases h1
  · match i, h1, h2 with
    | 0, _, h2 => injection h2 with h2; subst h2; exact key (A := 0) (by decide) hn
    | 1, _, h2 => injection h2 with h2; subst h2; exact key (A := 1) (by decide) hn
    | 2, h1, _ => cases h1
    | i + 3, h1, _ => cases h1
omit hF in
theorem oth_upd {q : Nat} (hq : q < 3) (s : Nat → TD) (x y : TD) : oth F q (upd s q x) = oth F q (upd s q y) := by
  rcases q3 hq with rfl | rfl | rfl <;> rfl
end
abbrev GA (s : Nat → TD) : HP Unit := GG fA cA 59 s
abbrev GB (s : Nat → TD) : HP Unit := GG fB cB 68 s
/-! ### The arrays -/
def oF (s : Nat → TD) (i : Nat) : Int := match i % 4 with
  | 0 => (s (i / 4)).o0
  | 1 => (s (i / 4)).o1
  | 2 => (s (i / 4)).o2
  | _ => (s (i / 4)).o3
def aF (s : Nat → TD) (i : Nat) : Int := (s i).a
def rF (s : Nat → TD) (i : Nat) : Int := match i % 9 with
  | 0 => (s (i / 9)).N
  | 1 => (s (i / 9)).L0
  | 2 => (s (i / 9)).L1
  | 3 => (s (i / 9)).L2
  | 4 => (s (i / 9)).L3
  | 5 => (s (i / 9)).L4
  | 6 => (s (i / 9)).L5
  | 7 => (s (i / 9)).L6
  | _ => (s (i / 9)).L7
abbrev OL (s : Nat → TD) : List VV := [ii (s 0).o0, ii (s 0).o1, ii (s 0).o2, ii (s 0).o3, ii (s 1).o0, ii (s 1).o1, ii (s 1).o2, ii (s 1).o3, ii (s 2).o0, ii (s 2).o1, ii (s 2).o2, ii (s 2).o3]
abbrev AL (s : Nat → TD) : List VV := [ii (s 0).a, ii (s 1).a, ii (s 2).a]
abbrev rcx (x : TD) : List VV := rc x.N x.L0 x.L1 x.L2 x.L3 x.L4 x.L5 x.L6 x.L7
abbrev RL (s : Nat → TD) : List VV := rcx (s 0) ++ rcx (s 1) ++ rcx (s 2)
section
variable {q : Nat} (hq : q < 3) (s : Nat → TD) (x : TD)
include hq
theorem OL_upd : OL (upd s q x) = OC q (ii x.o0) (ii x.o1) (ii x.o2) (ii x.o3) (oF s) := by
  rcases q3 hq with rfl | rfl | rfl <;> rfl
theorem AL_upd : AL (upd s q x) = AC q (ii x.a) (aF s) := by
  rcases q3 hq with rfl | rfl | rfl <;> rfl
theorem RL_upd : RL (upd s q x) = RC q (ii x.N) (ii x.L0) (ii x.L1) (ii x.L2) (ii x.L3) (ii x.L4) (ii x.L5) (ii x.L6) (ii x.L7) (rF s) := by
  rcases q3 hq with rfl | rfl | rfl <;> rfl
end
theorem upd_self (s : Nat → TD) (q : Nat) : s = upd s q (s q) := by
  funext j
  by_cases h : j = q
  · rw [h, upd_eq]
  · rw [upd_ne _ _ h]
/-! ### What is asked of a thread -/
def TS.ok (N : Int) : TS → Prop
  | .s0 _ _ _ _ rt _ _ _ _ => 0 ≤ rt ∧ rt < N
  | .s1 _ _ _ _ rt _ _ _ _ _ _ _ _ _ _ => 0 ≤ rt ∧ rt < N
  | .sn j _ _ _ _ rt _ _ _ _ _ _ _ _ _ _ => (j = 2 ∨ j = 3 ∨ j = 4) ∧ 0 ≤ rt ∧ rt < N
  | .fix _ _ _ _ rt => 0 ≤ rt ∧ rt < N
  | _ => True
def TD.ok (x : TD) : Prop := (0 ≤ x.N ∧ x.N ≤ 8) ∧ x.z.ok x.N
theorem ok_upd {s : Nat → TD} {q : Nat} {x : TD} (hs : ∀ k, k < 3 → (s k).ok) (hx : x.ok) : ∀ k, k < 3 → (upd s q x k).ok := fun k hk => by
  by_cases h : k = q
  · rw [h, upd_eq]; exact hx
  · rw [upd_ne _ _ h]; exact hs k hk
theorem codeOK (c : Code) : CodeOK MS Try.prog c (ev c) :=
  evCode_sound progOK (fun f args hp nid r h _ => evF_sound progOK (lookH_ok LSP.tabL_ok) 100 19 f args hp nid r h) 100 c
theorem Tri_x {E : Ctx MObj} {c : Code} {st : St MObj} {Q : VX → St MObj → Prop} (h : Tri MS Try.prog E c st Q) : TriX MS (c.wp Try.prog) E st Q := h
abbrev R17 : List (Nat × Nat) := [(0, 0), (1, 1), (2, 2), (3, 3), (4, 4), (5, 5), (6, 6), (7, 7), (8, 8), (9, 9), (10, 10), (11, 11), (12, 12), (13, 13), (14, 14), (15, 15), (16, 16)]
abbrev bas (A : AG) (ms ps : List (List Int)) (xs : List Int) (c d t : Int) (s : Nat → TD) (ca cb : VObj MObj) : HP MObj := base A ms ps xs c d t (OL s) (AL s) (RL s) (.abs (.grp (GA s))) (.abs (.grp (GB s))) ca cb
/-- Behind a thread's step: the same words in both memories, threads that are as is asked. -/
def Mid (A : AG) (nm np : Nat) (ak i : Int) (ms ps : List (List Int)) (c d : Int) (ca cb : VObj MObj) : VX → St MObj → Prop := fun x st => x = .normal ∧ ∃ (s' : Nat → TD) (xs' : List Int) (c' d' t' : Int), (∃ js, st.tm = pre A nm np ak i ++ junk js 216 22) ∧
  renHP R17 st.hp R17 = some (bas A ms ps xs' c' d' t' s' ca cb) ∧ renChk R17 st.hp 6 st.nid 17 = true ∧ 17 ≤ st.nid ∧ xs'.length = 160 ∧ (∀ k, k < 3 → (s' k).ok) ∧ c ≤ c' ∧ c' ≤ c + 2 ∧ d ≤ d' ∧ d' ≤ d + 2
end Go.Proofs.Ytdongoplhnpdiaa.ShakePlays
