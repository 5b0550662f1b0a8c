/-
  The engine, part Zg: a contract for signs, but for some cells (by type and place) that stay as they are.
-/
import Derived.Test.YtmhfaaccoojbjaaEngX
namespace Go.Proofs.Ytmhfaaccoojbjaa.Eng
open Go Go.RowKit
section
variable {A : Type} {S : Sys A} {P : Program}
def symL (k : Nat → Bool) : Nat → List VV → List VV
  | _, [] => []
  | i, x :: l => (match k i with | true => x | false => symW x) :: symL k (i + 1) l
theorem F2_symL {ρ : Rho} {k : Nat → Bool} : ∀ {l : List VV} {i : Nat} {cs : List Value}, F2 (RV ρ) (symL k i l) cs ↔ F2 (RV ρ) l cs
  | [], i, cs => Iff.rfl
  | x :: l, i, [] => Iff.rfl
  | x :: l, i, c :: cs => by
    have h : RV ρ (match k i with | true => x | false => symW x) c ↔ RV ρ x c := by
      cases k i with
      | true => exact Iff.rfl
      | false => exact RV_symW
    exact and_congr h F2_symL
def symOk (keep : TypeId → Nat → Bool) : VObj A → VObj A
  | .cells l ty => .cells (symL (keep ty) 0 l) ty
  | o => o
def symHPk (keep : TypeId → Nat → Bool) : HP A → HP A
  | [] => []
  | (b, o) :: r => (b, o.map (symOk keep)) :: symHPk keep r
theorem OK_symOk {keep : TypeId → Nat → Bool} {B : Nat} {ρ : Rho} {F : Nat → Prop} {b : Nat} {o : VObj A} {w : World} : OK S B ρ F b (symOk keep o) w ↔ OK S B ρ F b o w := by
  cases o with
  | cells l ty => exact exists_congr fun p => exists_congr fun arr => and_congr Iff.rfl (and_congr Iff.rfl (and_congr Iff.rfl F2_symL))
  | _ => rfl
theorem hget_symHPk {keep : TypeId → Nat → Bool} : ∀ (hp : HP A) (b : Nat), hget (symHPk keep hp) b = (hget hp b).map (symOk keep)
  | [], _ => rfl
  | (k, o) :: r, b => by
    simp only [symHPk, hget]
    cases Nat.beq k b with
    | true => rfl
    | false => exact hget_symHPk r b
theorem HR_symHPk {keep : TypeId → Nat → Bool} {B : Nat} {Z : Nat → Prop} {ρ : Rho} {F : Fm} {hp : HP A} {w : World} (h : HR S B Z ρ F (hget hp) w) : HR S B Z ρ F (hget (symHPk keep hp)) w := by
  refine ⟨fun b o ho => ?_, fun b hb => ?_, h.bound, h.disj, h.fresh, h.base⟩
  · rw [hget_symHPk] at ho
    obtain ⟨o', ho', rfl⟩ := Option.map_eq_some_iff.1 ho
    exact OK_symOk.2 (h.live b o' ho')
  · rw [hget_symHPk] at hb
    refine h.dead b ?_
    cases hg : hget hp b with
    | none => rfl
    | some o => rw [hg] at hb; cases hb
def symK (keep : TypeId → Nat → Bool) (i : Intr A) : Intr A := fun args hp nid => i (args.map symWS) (symHPk keep hp) nid
theorem funOK_symK {keep : TypeId → Nat → Bool} {f : FuncId} {i : Intr A} (hi : FunOK S P f i) : FunOK S P f (symK keep i) := by
  intro args hp nid r hrun B Z ρ F w vargs hhr hz hargs
  exact hi _ _ _ r hrun B Z ρ F w vargs (HR_symHPk hhr) hz ((F2_map fun _ _ => RS_symW).2 hargs)
theorem funOK_objK {keep : TypeId → Nat → Bool} {f : FuncId} {i : Intr A} (h : FunOK S P f i) : FunOK S P f (renI (symK keep i)) := funOK_ren (funOK_symK h).z
/-- What a cell is like. -/
inductive CS where
  | i64
  | u64
  | lit (n : Int)
  | fix (v : VV)
def eqVV : VV → VV → Bool
  | .nilf, .nilf => true
  | .nilp, .nilp => true
  | .ptr a b, .ptr c d => Nat.beq a c && Nat.beq b d
  | .fn f l [], .fn g m [] => Nat.beq f g && decide (l = m)
  | _, _ => false
theorem eqVV_ok : ∀ {x y : VV}, eqVV x y = true → x = y := by
  intro x y h
  unfold eqVV at h
  split at h
  · rfl
  · rfl
  · simp only [Bool.and_eq_true] at h
    rw [Nat.eq_of_beq_eq_true h.1, Nat.eq_of_beq_eq_true h.2]
  · simp only [Bool.and_eq_true, decide_eq_true_eq] at h
    rw [Nat.eq_of_beq_eq_true h.1, h.2]
  · cases h
def shV : List CS → List VV → Bool
  | [], [] => true
  | .i64 :: s, .int .i64 (.sym _) :: l => shV s l
  | .u64 :: s, .int .u64 (.sym _) :: l => shV s l
  | .lit n :: s, .int .i64 (.lit m) :: l => decide (m = n) && shV s l
  | .fix x :: s, y :: l => eqVV x y && shV s l
  | _, _ => false
def hdV : List VV → Int
  | .int _ (.sym v) :: _ => v
  | _ => 0
def rbV : List CS → List VV → List VV
  | [], _ => []
  | .i64 :: s, l => .int .i64 (.sym (hdV l)) :: rbV s l.tail
  | .u64 :: s, l => .int .u64 (.sym (hdV l)) :: rbV s l.tail
  | .lit n :: s, l => .int .i64 (.lit n) :: rbV s l.tail
  | .fix x :: s, l => x :: rbV s l.tail
def dr : Nat → List VV → List VV
  | 0, l => l
  | n + 1, l => dr n l.tail
theorem shV_rb : ∀ {s : List CS} {l : List VV}, shV s l = true → l = rbV s l := by
  intro s
  induction s with
  | nil =>
    intro l h
    cases l with
    | nil => rfl
    | cons x l => simp [shV] at h
  | cons c s ih =>
    intro l h
    unfold shV at h
    split at h
    · cases ‹c :: s = []›
    · rename_i h1
      injection h1 with h1 h2
      subst h1 h2
      simp only [rbV, hdV, List.tail_cons]
      rw [← ih h]
    · rename_i h1
      injection h1 with h1 h2
      subst h1 h2
      simp only [rbV, hdV, List.tail_cons]
      rw [← ih h]
    · rename_i h1
      injection h1 with h1 h2
      subst h1 h2
      simp only [Bool.and_eq_true, decide_eq_true_eq] at h
      simp only [rbV, List.tail_cons]
      rw [← ih h.2, h.1]
    · rename_i h1
      injection h1 with h1 h2
      subst h1 h2
      simp only [Bool.and_eq_true] at h
      simp only [rbV, List.tail_cons]
      rw [← ih h.2, eqVV_ok h.1]
    · cases h
end
end Go.Proofs.Ytmhfaaccoojbjaa.Eng
