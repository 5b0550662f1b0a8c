/-
  GreyPlays: what a thread that shades is at, as data; its objects in the program and in the reference; the law's code.
-/
import Derived.Test.YtoebdddkdmehcaaEvL11
import Derived.Test.YtoebdddkdmehcaaEvKS
import Derived.Test.YtoebdddkdmehcaaEvSame11
import Derived.Test.YtoebdddkdmehcaaEngZe
namespace Go.Proofs.Ytoebdddkdmehcaa.GreyPlays
open Go Go.RowKit Go.Proofs.Ytoebdddkdmehcaa.Eng
set_option linter.unusedVariables false
set_option linter.unusedSimpArgs false
set_option maxRecDepth 20000
/-- Nothing under way; ready; about to claim; later steps (the reference has the mark and Grey in its header already). -/
inductive SH where
  | idle (v : Value)
  | s0 (at' mk w v a b c d e f g a' b' c' d' e' f' g' : Int)
  | s1 (at' mk w a b c d e f g : Int)
  | sn (j : Nat) (at' mk w a b c d e f g : Int)
abbrev I (x : Int) : VV := .int .i64 (.sym x)
abbrev U (x : Int) : VV := .int .u64 (.sym x)
abbrev progO (at' mk j w a b c d e f g : Int) : VObj Unit := .cells [I at', I mk, I j, U w, I a, I b, I c, I d, I e, I f, I g] 71
abbrev refO (at' mk j a b c d e f g w : Int) : VObj Unit := .cells [I at', I mk, I j, I a, I b, I c, I d, I e, I f, I g, U w] 82
def pc (B : Nat) : SH → VV
  | .idle _ => .nilp
  | _ => .ptr B 0
def rc (B : Nat) : SH → VV
  | .idle v => .raw v
  | _ => .ptr B 0
def po (B : Nat) : SH → HP Unit
  | .idle _ => []
  | .s0 at' mk w _ a b c d e f g _ _ _ _ _ _ _ => [(B, some (progO at' mk 0 w a b c d e f g))]
  | .s1 at' mk w a b c d e f g => [(B, some (progO at' mk 1 w a b c d e f g))]
  | .sn j at' mk w a b c d e f g => [(B, some (progO at' mk j w a b c d e f g))]
def ro (B : Nat) : SH → HP Unit
  | .idle _ => []
  | .s0 at' mk _ v _ _ _ _ _ _ _ a b c d e f g => [(B, some (refO at' mk 1 a b c d e f g v))]
  | .s1 at' mk w a b c d e f g => [(B, some (refO at' mk 2 a b c d e f g w))]
  | .sn j at' mk w a b c d e f g => [(B, some (refO at' mk (j + 1) a b c mk 1 f g w))]
def SH.ok : SH → Prop
  | .sn j .. => j = 2 ∨ j = 3 ∨ j = 4
  | _ => True
abbrev SL (s0 s1 s2 : SH) : List VV := [pc 10 s0, pc 20 s1, pc 30 s2]
abbrev TL (s0 s1 s2 : SH) : List VV := [rc 10 s0, rc 20 s1, rc 30 s2]
def SG (s0 s1 s2 : SH) : HP Unit := (0, some (.cells (SL s0 s1 s2) 49)) :: (po 10 s0 ++ (po 20 s1 ++ po 30 s2))
def TG (s0 s1 s2 : SH) : HP Unit := (0, some (.cells (TL s0 s1 s2) 53)) :: (ro 10 s0 ++ (ro 20 s1 ++ ro 30 s2))
/-- A worker has one object at the most, with the worker's name. -/
structure One (F : Nat → SH → HP Unit) : Prop where
  some' : ∀ B s, ∀ p ∈ F B s, p.2.isSome = true
  ids : ∀ B s n o, hget (F B s) n = some o → n = B ∧ objIds o = []
theorem one_po : One po := by
  refine ⟨fun B s p hp => ?_, fun B s n o ho => ?_⟩
  · cases s <;> simp [po] at hp <;> subst hp <;> rfl
  · obtain ⟨p, hp, rfl, h2⟩ := hget_mem ho
    cases s <;> simp [po] at hp <;> subst hp <;> cases h2 <;> exact ⟨rfl, rfl⟩
theorem one_ro : One ro := by
  refine ⟨fun B s p hp => ?_, fun B s n o ho => ?_⟩
  · cases s <;> simp [ro] at hp <;> subst hp <;> rfl
  · obtain ⟨p, hp, rfl, h2⟩ := hget_mem ho
    cases s <;> simp [ro] at hp <;> subst hp <;> cases h2 <;> exact ⟨rfl, rfl⟩
theorem oor_swap {α : Type} {a b r : Option α} (h : a = none ∨ b = none) : oor a (oor b r) = oor b (oor a r) := by
  rcases h with rfl | rfl
  · cases b <;> rfl
  · cases a <;> rfl
theorem oor_last {α : Type} {a b : Option α} (h : a = none ∨ b = none) : oor a b = oor b a := by
  rcases h with rfl | rfl
  · cases b <;> rfl
  · cases a <;> rfl
section
variable {F : Nat → SH → HP Unit} (hF : One F)
include hF
theorem apart {A B : Nat} (h : A ≠ B) (a b : SH) (n : Nat) : hget (F A a) n = none ∨ hget (F B b) n = none := by
  cases ha : hget (F A a) n with
  | none => exact .inl rfl
  | some o => cases hb : hget (F B b) n with
    | none => exact .inr rfl
    | some o' => exact (h ((hF.ids A a n o ha).1.symm.trans (hF.ids B b n o' hb).1)).elim
theorem get3 (C : VObj Unit) (A B D : Nat) (a b d : SH) (n : Nat) : hget ((0, some C) :: (F A a ++ (F B b ++ F D d))) n = if n = 0 then some C else oor (hget (F A a) n) (oor (hget (F B b) n) (hget (F D d) n)) := by
  by_cases e : n = 0
  · subst e; rfl
  · rw [if_neg e, hget_ne e, hget_app (hF.some' A a), hget_app (hF.some' B b)]
theorem G_1 (C : VObj Unit) (s0 s1 s2 : SH) (n : Nat) : hget ((0, some C) :: (F 10 s0 ++ (F 20 s1 ++ F 30 s2))) n = hget ((0, some C) :: (F 20 s1 ++ (F 10 s0 ++ F 30 s2))) n := by
  rw [get3 hF, get3 hF, oor_swap (apart hF (by decide) s0 s1 n)]
theorem G_2 (C : VObj Unit) (s0 s1 s2 : SH) (n : Nat) : hget ((0, some C) :: (F 10 s0 ++ (F 20 s1 ++ F 30 s2))) n = hget ((0, some C) :: (F 30 s2 ++ (F 10 s0 ++ F 20 s1))) n := by
  rw [get3 hF, get3 hF, oor_last (apart hF (by decide) s1 s2 n), oor_swap (apart hF (by decide) s0 s2 n)]
theorem oth_ids {A B : Nat} {a b : SH} {n : Nat} {o : VObj Unit} (h : hget (F A a ++ F B b) n = some o) : (n = A ∨ n = B) ∧ objIds o = [] := by
  rw [hget_app (hF.some' A a)] at h
  cases ha : hget (F A a) n with
  | some o' => rw [ha] at h; injection h with h; subst h; exact ⟨.inl (hF.ids A a n _ ha).1, (hF.ids A a n _ ha).2⟩
  | none =>
    rw [ha] at h
    exact ⟨.inr (hF.ids B b n o h).1, (hF.ids B b n o h).2⟩
end
def Z1 (B n : Nat) : Bool := Nat.beq n 0 || Nat.beq n B
theorem beqF {a b : Nat} (h : a ≠ b) : Nat.beq a b = false := by
  cases h4 : Nat.beq a b with
  | false => rfl
  | true => exact absurd (Nat.eq_of_beq_eq_true h4) h
theorem Z1_no {B n : Nat} (h : n ≠ 0 ∧ n ≠ B) : Z1 B n = false := by
  unfold Z1
  rw [beqF h.1, beqF h.2]
  rfl
theorem Z1_oth {F : Nat → SH → HP Unit} (hF : One F) {A B D : Nat} (h : A ≠ 0 ∧ B ≠ 0 ∧ A ≠ D ∧ B ≠ D) (a b : SH) : ∀ n o, hget (F A a ++ F B b) n = some o → Z1 D n = false ∧ ∀ m ∈ objIds o, Z1 D m = false := by
  intro n o ho
  obtain ⟨h1, h2⟩ := oth_ids hF ho
  exact ⟨Z1_no (by omega), by rw [h2]; intro m hm; cases hm⟩
theorem pc_ids (B : Nat) (s : SH) : ∀ n ∈ vvIds (pc B s), n = B := by
  intro n hn
  cases s <;> simp [pc, vvIds] at hn <;> exact hn
theorem rc_ids (B : Nat) (s : SH) : ∀ n ∈ vvIds (rc B s), n = B := by
  intro n hn
  cases s <;> simp [rc, vvIds] at hn <;> exact hn

/-! ### The code -/
def tabG : List (Nat × Intr MObj) := (25, renI Same.sI) :: (12, pureT MObj gKindS) :: L11.tabL
theorem tabG_ok : ∀ p ∈ tabG, FunOK MS Try.prog p.1 p.2 := tab_cons Same.ok (tab_cons (kindS_of (L11.k0 _) (fun c n => by kernel_rfl)) L11.tabL_ok)
noncomputable abbrev body : Code := Try.f6.body.get!
noncomputable abbrev ev (c : Code) : St MObj → Tr (VX × St MObj) := evCode Try.prog (evF Try.prog (lookH MObj tabG) 100 19) 100 c
noncomputable abbrev evl (c : List Code) : St MObj → Tr (VX × St MObj) := evList (P := Try.prog) (evF Try.prog (lookH MObj tabG) 100 19) 100 c
theorem codeOK (c : Code) : CodeOK MS Try.prog c (ev c) :=
  evCode_sound progOK (fun f args hp nid r h _ => evF_sound progOK (lookH_ok tabG_ok) 100 19 f args hp nid r h) 100 c
noncomputable abbrev nt : Nat := Try.f6.ntmps
noncomputable abbrev at' (p : List Bool) : Code := codeAt body ([true, true, true, true, true, true, true, true, false, true, false, false] ++ p)
noncomputable abbrev pre (np : Nat) (r : Bool) (i : Int) : List SV := [.v (.an 0 (.sym np)), .t [], .v (.bool (.lit r)), .v (.bool (.lit true)), .v (.ptr 1 0), .v (.ptr 2 0), .v (.ptr 3 0), .v (.ptr 4 0), .v (.ptr 5 0), .v (.ptr 6 0), .v (ii i)]
abbrev nO (j w a b c d e f g : Int) : VObj MObj := .cells [I j, U w, I a, I b, I c, I d, I e, I f, I g, I 0, I 0] 73
abbrev oO (j w a b c d e f g : Int) : VObj MObj := .cells [I j, U w, I a, I b, I c, I d, I e, I f, I g, I 0, I 0] 58
noncomputable abbrev base (ps : List (List Int)) (ws : List Int) (c c2 t : Int) (os ot n o : VObj MObj) : HP MObj := [(0, some (.rotab [.int .i64] ps)), (1, some (.abs (.mem 64 ws c t))), (2, some (.abs (.mem 85 ws c2 t))), (3, some os), (4, some ot), (5, some n), (6, some o)]
def pcR : Int → Int
  | 0 => 1
  | 3 => 2
  | 1 => 3
  | _ => 4
abbrev R7 : List (Nat × Nat) := [(0, 0), (1, 1), (2, 2), (3, 3), (4, 4), (5, 5), (6, 6)]
def ok3 (a b d : SH) : Prop := a.ok ∧ b.ok ∧ d.ok
def Mid (np : Nat) (i : Int) (ps : List (List Int)) (ws : List Int) (c c2 : Int) (on oo : VObj MObj) : VX → St MObj → Prop := fun x s => x = .normal ∧ ∃ a b d ws' c' c2' t', (∃ js, s.tm = pre np false i ++ junk js 125 11) ∧
  renHP R7 s.hp R7 = some (base ps ws' c' c2' t' (.abs (.grp (SG a b d))) (.abs (.grp (TG a b d))) on oo) ∧ renChk R7 s.hp 1 s.nid 7 = true ∧ 7 ≤ s.nid ∧ ws'.length = 160 ∧ ok3 a b d ∧ c ≤ c' ∧ c' ≤ c + 1 ∧ c2 ≤ c2' ∧ c2' ≤ c2 + 1
theorem Tri_x {E : Ctx MObj} {c : Code} {st : St MObj} {Q : VX → St MObj → Prop} (h : Tri MS Try.prog E c st Q) : TriX MS (c.wp Try.prog) E st Q := h
end Go.Proofs.Ytoebdddkdmehcaa.GreyPlays
