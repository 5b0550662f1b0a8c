/-
  ListPlays: what a worker is at, as data; its cells and objects.
-/
import Derived.Test.YtnlfphlmlklofaaEvL8
import Derived.Test.YtnlfphlmlklofaaEvSame
import Derived.Test.YtnlfphlmlklofaaEngZe
namespace Go.Proofs.Ytnlfphlmlklofaa.ListPlays
open Go Go.RowKit Go.Proofs.Ytnlfphlmlklofaa.Eng
set_option linter.unusedVariables false
set_option linter.unusedSimpArgs false
set_option maxRecDepth 20000
/-- What was popped: no slice, an empty one, a table. -/
inductive HS where
  | nil
  | es
  | tab (rows : List (List Int))
/-- What a worker is at. -/
inductive WS where
  | idle (h : HS) (vp vq : Value)
  | pop (j : Nat) (w l : Int) (h : HS) (vq : Value)
  | push (j : Nat) (a w : Int) (h : HS) (vp : Value)
def WS.has : WS → HS
  | .idle h _ _ => h
  | .pop _ _ _ h _ => h
  | .push _ _ _ h _ => h
def popF : Nat → FuncId
  | 1 => 46
  | 2 => 54
  | _ => 65
def pushF : Nat → FuncId
  | 1 => 45
  | 2 => 53
  | _ => 64
abbrev popO (j : Nat) (w l : Int) : VObj Unit := .cells [.fn (popF j) [] [], .int .i64 (.sym 3), .int .u64 (.sym w), .int .u64 (.sym l), .int .i64 (.sym 0), .int .u64 (.sym 0)] 94
abbrev rpopO (j : Nat) (w l : Int) : VObj Unit := .cells [.int .i64 (.sym 3), .int .i64 (.sym j), .int .u64 (.sym w), .int .u64 (.sym l), .int .i64 (.sym 0), .int .u64 (.sym 0)] 102
abbrev pushO (j : Nat) (a w : Int) : VObj Unit := .cells [.fn (pushF j) [] [], .int .i64 (.sym 3), .int .i64 (.sym a), .int .i64 (.sym a), .int .i64 (.sym 0), .int .u64 (.sym w)] 91
abbrev rpushO (j : Nat) (a w : Int) : VObj Unit := .cells [.int .i64 (.sym 3), .int .i64 (.sym a), .int .i64 (.sym a), .int .i64 (.sym 0), .int .i64 (.sym j), .int .u64 (.sym w)] 106
abbrev tabO (rows : List (List Int)) : VObj Unit := .tab [.int .i64] rows 3
def c0 (B : Nat) : WS → VV
  | .pop .. => .ptr B 0
  | _ => .nilp
def c1 (B : Nat) : WS → VV
  | .push .. => .ptr B 0
  | _ => .nilp
def c2 (B : Nat) : WS → VV
  | .pop .. => .ptr (B + 1) 0
  | .idle _ vp _ => .raw vp
  | .push _ _ _ _ vp => .raw vp
def c3 (B : Nat) : WS → VV
  | .push .. => .ptr (B + 1) 0
  | .idle _ _ vq => .raw vq
  | .pop _ _ _ _ vq => .raw vq
def c4 (B : Nat) (s : WS) : VV := match s.has with
  | .nil => .nils
  | .es => .es true
  | .tab rows => .ts (B + 2) (.lit 0) (.sym rows.length) none
def hobj (B : Nat) : HS → HP Unit
  | .tab rows => [(B + 2, some (tabO rows))]
  | _ => []
def wobj (B : Nat) : WS → HP Unit
  | .idle .. => []
  | .pop j w l _ _ => [(B, some (popO j w l)), (B + 1, some (rpopO j w l))]
  | .push j a w _ _ => [(B, some (pushO j a w)), (B + 1, some (rpushO j a w))]
/-- The worker's cells, and all its objects. -/
abbrev wc (B : Nat) (s : WS) : List VV := [c0 B s, c1 B s, c2 B s, c3 B s, c4 B s]
def wo (B : Nat) (s : WS) : HP Unit := wobj B s ++ hobj B s.has
abbrev WL (s0 s1 s2 s3 : WS) : List VV := [c0 10 s0, c1 10 s0, c2 10 s0, c3 10 s0, c4 10 s0, c0 20 s1, c1 20 s1, c2 20 s1, c3 20 s1, c4 20 s1, c0 30 s2, c1 30 s2, c2 30 s2, c3 30 s2, c4 30 s2, c0 40 s3, c1 40 s3, c2 40 s3, c3 40 s3, c4 40 s3]
def WG (s0 s1 s2 s3 : WS) : HP Unit := (0, some (.cells (WL s0 s1 s2 s3) 75)) :: (wo 10 s0 ++ (wo 20 s1 ++ (wo 30 s2 ++ wo 40 s3)))

/-! ### Names -/
def inB (B n : Nat) : Bool := Nat.ble B n && Nat.blt n (B + 10)
theorem inB_iff {B n : Nat} : inB B n = true ↔ B ≤ n ∧ n < B + 10 := by
  unfold inB
  rw [Bool.and_eq_true, Nat.blt_eq]
  exact and_congr ⟨Nat.le_of_ble_eq_true, Nat.ble_eq_true_of_le⟩ Iff.rfl
theorem hget_out {A : Type} : ∀ {l : HP A} {n : Nat}, n ∉ l.map (·.1) → hget l n = none
  | [], _, _ => rfl
  | (k, o) :: l, n, h => by
    rw [hget_ne (fun e => h (by rw [e]; exact List.mem_cons_self ..))]
    exact hget_out fun hm => h (List.mem_cons_of_mem _ hm)
theorem wo_names (B : Nat) (s : WS) : ∀ n ∈ (wo B s).map (·.1), inB B n = true := by
  intro n hn
  rw [inB_iff]
  cases s with
  | idle h vp vq => cases h <;> simp [wo, wobj, hobj, WS.has] at hn <;> omega
  | pop j w l h vq => cases h <;> simp [wo, wobj, hobj, WS.has] at hn <;> omega
  | push j a w h vp => cases h <;> simp [wo, wobj, hobj, WS.has] at hn <;> omega
theorem wo_some (B : Nat) (s : WS) : ∀ p ∈ wo B s, p.2.isSome = true := by
  intro p hp
  cases s with
  | idle h vp vq => cases h <;> simp [wo, wobj, hobj, WS.has] at hp <;> simp [hp]
  | pop j w l h vq => cases h <;> simp [wo, wobj, hobj, WS.has] at hp <;> rcases hp with rfl | rfl | rfl <;> rfl
  | push j a w h vp => cases h <;> simp [wo, wobj, hobj, WS.has] at hp <;> rcases hp with rfl | rfl | rfl <;> rfl
theorem wo_ids (B : Nat) (s : WS) : ∀ n o, hget (wo B s) n = some o → inB B n = true ∧ objIds o = [] := by
  intro n o ho
  refine ⟨?_, ?_⟩
  · by_cases h : n ∈ (wo B s).map (·.1)
    · exact wo_names B s n h
    · rw [hget_out h] at ho; cases ho
  · obtain ⟨p, hp, rfl, h2⟩ := hget_mem ho
    cases s with
    | idle h vp vq => cases h <;> simp [wo, wobj, hobj, WS.has] at hp <;> subst hp <;> cases h2 <;> rfl
    | pop j w l h vq => cases h <;> simp [wo, wobj, hobj, WS.has] at hp <;> rcases hp with rfl | rfl | rfl <;> cases h2 <;> rfl
    | push j a w h vp => cases h <;> simp [wo, wobj, hobj, WS.has] at hp <;> rcases hp with rfl | rfl | rfl <;> cases h2 <;> rfl
theorem c_ids (B : Nat) (s : WS) : ∀ x ∈ wc B s, ∀ n ∈ vvIds x, inB B n = true := by
  intro x hx n hn
  rw [inB_iff]
  cases s with
  | idle h vp vq => cases h <;> simp [c0, c1, c2, c3, c4, WS.has] at hx <;> rcases hx with rfl | rfl | rfl | rfl <;> simp [vvIds] at hn <;> omega
  | pop j w l h vq => cases h <;> simp [c0, c1, c2, c3, c4, WS.has] at hx <;> rcases hx with rfl | rfl | rfl | rfl | rfl <;> simp [vvIds] at hn <;> omega
  | push j a w h vp => cases h <;> simp [c0, c1, c2, c3, c4, WS.has] at hx <;> rcases hx with rfl | rfl | rfl | rfl | rfl <;> simp [vvIds] at hn <;> omega

/-! ### The group, with one worker ahead -/
theorem oor_swap {α : Type} {a b r : Option α} (h : a = none ∨ b = none) : oor a (oor b r) = oor b (oor a r) := by
  rcases h with rfl | rfl
  · cases b <;> rfl
  · cases a <;> rfl
theorem oor_last {α : Type} {a b : Option α} (h : a = none ∨ b = none) : oor a b = oor b a := by
  rcases h with rfl | rfl
  · cases b <;> rfl
  · cases a <;> rfl
theorem wo_apart {A B : Nat} (h : ∀ n, inB A n = true → inB B n = true → False) (a b : WS) (n : Nat) : hget (wo A a) n = none ∨ hget (wo B b) n = none := by
  cases ha : hget (wo A a) n with
  | none => exact .inl rfl
  | some o => cases hb : hget (wo B b) n with
    | none => exact .inr rfl
    | some o' => exact (h n (wo_ids A a n o ha).1 (wo_ids B b n o' hb).1).elim
theorem ap {A B : Nat} (h : A + 10 ≤ B ∨ B + 10 ≤ A) (n : Nat) (h1 : inB A n = true) (h2 : inB B n = true) : False := by
  rw [inB_iff] at h1 h2
  omega
theorem get4 (C : VObj Unit) (A B D F : Nat) (a b d f : WS) (n : Nat) : hget ((0, some C) :: (wo A a ++ (wo B b ++ (wo D d ++ wo F f)))) n = if n = 0 then some C else oor (hget (wo A a) n) (oor (hget (wo B b) n) (oor (hget (wo D d) n) (hget (wo F f) n))) := by
  by_cases e : n = 0
  · subst e; rfl
  · rw [if_neg e, hget_ne e, hget_app (wo_some A a), hget_app (wo_some B b), hget_app (wo_some D d)]
theorem WG_1 (C : VObj Unit) (s0 s1 s2 s3 : WS) (n : Nat) : hget ((0, some C) :: (wo 10 s0 ++ (wo 20 s1 ++ (wo 30 s2 ++ wo 40 s3)))) n = hget ((0, some C) :: (wo 20 s1 ++ (wo 10 s0 ++ (wo 30 s2 ++ wo 40 s3)))) n := by
  rw [get4, get4, oor_swap (wo_apart (ap (by omega)) s0 s1 n)]
theorem WG_2 (C : VObj Unit) (s0 s1 s2 s3 : WS) (n : Nat) : hget ((0, some C) :: (wo 10 s0 ++ (wo 20 s1 ++ (wo 30 s2 ++ wo 40 s3)))) n = hget ((0, some C) :: (wo 30 s2 ++ (wo 10 s0 ++ (wo 20 s1 ++ wo 40 s3)))) n := by
  rw [get4, get4, oor_swap (wo_apart (ap (by omega)) s1 s2 n), oor_swap (wo_apart (ap (by omega)) s0 s2 n)]
theorem WG_3 (C : VObj Unit) (s0 s1 s2 s3 : WS) (n : Nat) : hget ((0, some C) :: (wo 10 s0 ++ (wo 20 s1 ++ (wo 30 s2 ++ wo 40 s3)))) n = hget ((0, some C) :: (wo 40 s3 ++ (wo 10 s0 ++ (wo 20 s1 ++ wo 30 s2)))) n := by
  rw [get4, get4, oor_last (wo_apart (ap (by omega)) s2 s3 n), oor_swap (wo_apart (ap (by omega)) s1 s3 n), oor_swap (wo_apart (ap (by omega)) s0 s3 n)]
theorem oth_ids {A B D : Nat} {a b d : WS} {n : Nat} {o : VObj Unit} (h : hget (wo A a ++ (wo B b ++ wo D d)) n = some o) : (inB A n = true ∨ inB B n = true ∨ inB D n = true) ∧ objIds o = [] := by
  rw [hget_app (wo_some A a), hget_app (wo_some B b)] at h
  cases ha : hget (wo A a) n with
  | some o' => rw [ha] at h; injection h with h; subst h; exact ⟨.inl (wo_ids A a n _ ha).1, (wo_ids A a n _ ha).2⟩
  | none =>
    rw [ha] at h
    cases hb : hget (wo B b) n with
    | some o' => rw [hb] at h; injection h with h; subst h; exact ⟨.inr (.inl (wo_ids B b n _ hb).1), (wo_ids B b n _ hb).2⟩
    | none =>
      rw [hb] at h
      exact ⟨.inr (.inr (wo_ids D d n o h).1), (wo_ids D d n o h).2⟩
theorem hobj_some (B : Nat) (h : HS) : ∀ p ∈ hobj B h, p.2.isSome = true := by
  intro p hp
  cases h <;> simp [hobj] at hp
  subst hp
  rfl
theorem hobj_ids {B : Nat} {h : HS} {n : Nat} {o : VObj Unit} (ho : hget (hobj B h) n = some o) : n = B + 2 ∧ objIds o = [] := by
  obtain ⟨p, hp, rfl, h2⟩ := hget_mem ho
  cases h <;> simp [hobj] at hp
  subst hp
  cases h2
  exact ⟨rfl, rfl⟩
/-- The names that are a worker's own: its two objects; and its table. -/
def Z2 (B n : Nat) : Bool := Nat.beq n 0 || (Nat.beq n B || Nat.beq n (B + 1))
def Z3 (B n : Nat) : Bool := Nat.beq n 0 || (Nat.beq n B || (Nat.beq n (B + 1) || Nat.beq n (B + 2)))
theorem beqF {a b : Nat} (h : a ≠ b) : Nat.beq a b = false := by
  cases h4 : Nat.beq a b with
  | false => rfl
  | true => exact absurd (Nat.eq_of_beq_eq_true h4) h
theorem Z2_no {B n : Nat} (h : n ≠ 0 ∧ n ≠ B ∧ n ≠ B + 1) : Z2 B n = false := by
  unfold Z2
  rw [beqF h.1, beqF h.2.1, beqF h.2.2]
  rfl
theorem Z3_no {B n : Nat} (h : n ≠ 0 ∧ n ≠ B ∧ n ≠ B + 1 ∧ n ≠ B + 2) : Z3 B n = false := by
  unfold Z3
  rw [beqF h.1, beqF h.2.1, beqF h.2.2.1, beqF h.2.2.2]
  rfl
theorem Z2_far {A B n : Nat} (hA : 0 < A) (h : A + 10 ≤ B ∨ B + 10 ≤ A) (hn : inB A n = true) : Z2 B n = false := by
  rw [inB_iff] at hn
  exact Z2_no ⟨by omega, by omega, by omega⟩
theorem Z3_far {A B n : Nat} (hA : 0 < A) (h : A + 10 ≤ B ∨ B + 10 ≤ A) (hn : inB A n = true) : Z3 B n = false := by
  rw [inB_iff] at hn
  exact Z3_no ⟨by omega, by omega, by omega, by omega⟩
theorem c4_id (B : Nat) (s : WS) : ∀ n ∈ vvIds (c4 B s), n = B + 2 := by
  intro n hn
  unfold c4 at hn
  split at hn <;> simp [vvIds] at hn
  exact hn
/-- What is asked of a worker: its step is one of three, its table is not empty. -/
def HS.ok (K : Nat) : HS → Prop
  | .tab rows => 0 < rows.length ∧ rows.length ≤ K
  | _ => True
def WS.ok (K : Nat) : WS → Prop
  | .idle h _ _ => h.ok K
  | .pop j _ _ h _ => (j = 1 ∨ j = 2 ∨ j = 3) ∧ h.ok K
  | .push j _ _ h _ => (j = 1 ∨ j = 2 ∨ j = 3) ∧ h.ok K
theorem HS.ok_mono {K K' : Nat} (hk : K ≤ K') {h : HS} (ho : h.ok K) : h.ok K' := by
  cases h with
  | tab rows => exact ⟨ho.1, Nat.le_trans ho.2 hk⟩
  | nil => trivial
  | es => trivial
theorem WS.ok_mono {K K' : Nat} (hk : K ≤ K') {s : WS} (ho : s.ok K) : s.ok K' := by
  cases s with
  | idle h vp vq => exact HS.ok_mono hk ho
  | pop j w l h vq => exact ⟨ho.1, HS.ok_mono hk ho.2⟩
  | push j a w h vp => exact ⟨ho.1, HS.ok_mono hk ho.2⟩
def tabLP : List (Nat × Intr MObj) := (36, renI Same.sI) :: L8.tabL
noncomputable abbrev body : Code := Try.f9.body.get!
noncomputable abbrev ev (c : Code) : St MObj → Tr (VX × St MObj) := evCode Try.prog (evF Try.prog (lookH MObj tabLP) 100 19) 100 c
noncomputable abbrev evl (c : List Code) : St MObj → Tr (VX × St MObj) := evList (P := Try.prog) (evF Try.prog (lookH MObj tabLP) 100 19) 100 c
noncomputable abbrev nt : Nat := Try.f9.ntmps
noncomputable abbrev at' (p : List Bool) : Code := codeAt body ([true, true, true, true, true, true, false, true, false, false] ++ p)
noncomputable abbrev four : List Code := [at' [true, false, false, true, false], at' [true, false, false, true, true, false], at' [true, false, false, true, true, true, false], at' [true, false, false, true, true, true, true, false]]
noncomputable abbrev pre (n0 : Int) (np : Nat) (r : Bool) (i : Int) : List SV := [.v (ii n0), .v (.an 0 (.sym np)), .t [], .t [], .v (.bool (.lit r)), .v (.bool (.lit true)), .v (.ptr 1 0), .v (.ptr 2 0), .v (.ptr 3 0), .v (ii i)]
noncomputable abbrev base (ps : List (List Int)) (ws : List Int) (c c2 t : Int) (o : VObj MObj) : HP MObj := [(0, some (.rotab [.int .i64] ps)), (1, some (.abs (.mem 81 ws c t))), (2, some (.abs (.mem 104 ws c2 t))), (3, some o)]
theorem codeOK (c : Code) : CodeOK MS Try.prog c (ev c) :=
  evCode_sound progOK (fun f args hp nid r h _ => evF_sound progOK (lookH_ok (tab_cons Same.ok L8.tabL_ok)) 100 19 f args hp nid r h) 100 c
abbrev R4 : List (Nat × Nat) := [(0, 0), (1, 1), (2, 2), (3, 3)]
def okO (K : Nat) (a b d : WS) : Prop := a.ok K ∧ b.ok K ∧ d.ok K
def ok4 (K : Nat) (a b d f : WS) : Prop := a.ok K ∧ b.ok K ∧ d.ok K ∧ f.ok K
def Mid (n0 : Int) (np : Nat) (i : Int) (ps : List (List Int)) (ws : List Int) (c c2 : Int) (K : Nat) : VX → St MObj → Prop := fun x s => x = .normal ∧ ∃ a b d f ws' c' c2' t', (∃ js, s.tm = pre n0 np false i ++ junk js 59 10) ∧
  renHP R4 s.hp R4 = some (base ps ws' c' c2' t' (.abs (.grp (WG a b d f)))) ∧ renChk R4 s.hp 1 s.nid 4 = true ∧ 4 ≤ s.nid ∧ ws'.length = 160 ∧ ok4 (K + 1) a b d f ∧ c ≤ c' ∧ c' ≤ c + 1 ∧ c2 ≤ c2' ∧ c2' ≤ c2 + 1
end Go.Proofs.Ytnlfphlmlklofaa.ListPlays
