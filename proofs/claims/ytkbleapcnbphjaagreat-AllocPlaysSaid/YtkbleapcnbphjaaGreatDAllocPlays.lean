/-
  AllocPlays: what a worker is at, as data; its cells and objects; the groups of all workers' objects with one of them ahead.
-/
import Derived.Test.YtkbleapcnbphjaaGreatTAllocPlays1
import Derived.Test.YtkbleapcnbphjaaGreatEngZe
import Derived.Test.YtkbleapcnbphjaaGreatEngZi
namespace Go.Proofs.YtkbleapcnbphjaaGreat.AllocPlays
open Go Go.RowKit Go.Proofs.YtkbleapcnbphjaaGreat.Eng
set_option linter.unusedVariables false
set_option linter.unusedSimpArgs false
set_option linter.unusedSectionVars false
set_option maxRecDepth 20000
abbrev alU (cn mk ph : Int) (rp : VV) (k : Int) : VObj Unit := .cells [ii 1, ii (mClass cn), ii cn, ii mk, ii 0, ii 0, ii 0, ii ph, rp, ii k, ii 0] 72
abbrev raU (B p4 cn mk pc k : Int) (rp : VV) : VObj Unit := .cells (pl B p4 ++ [ii cn, ii mk, ii pc, ii k, rp, ii 0]) 50
abbrev reU (B p4 cl st ph : Int) (po ta : VV) (sn rc : Int) : VObj Unit := .cells (pl B p4 ++ [ii cl, ii st, ii ph, po, ta, uu sn, ii rc]) 76
abbrev rrU (B p4 cl st pc : Int) (po ta : VV) (rc : Int) : VObj Unit := .cells (pl B p4 ++ [ii cl, ii st, ii pc, po, ta, ii rc]) 54
abbrev poU (nx : VV) (hd w h se : Int) : VObj Unit := .cells [nx, ii hd, uu w, uu h, ii 0, uu se] 121
abbrev roU (hd pc w h se : Int) : VObj Unit := .cells [ii hd, ii pc, uu w, uu h, ii 0, uu se] 92
abbrev rxU (u : Nat → Value) (sn : Int) : VObj Unit := .cells [.raw (u 0), .raw (u 1), .raw (u 2), .raw (u 3), .raw (u 4), uu sn] 92
abbrev tkU (nx : VV) (B p4 cl st w b e kk : Int) (ps : VV) : VObj Unit := .cells ([nx] ++ pl B p4 ++ [ii cl, ii st, uu w, ii b, uu e, ii kk, ps, ii 0]) 90
abbrev rtU (B p4 cl st pc kk w e : Int) (ps : VV) : VObj Unit := .cells (pl B p4 ++ [ii cl, ii st, ii pc, ii kk, uu w, uu e, ps, ii 0]) 96
abbrev puU (nx : VV) (hd fi la cl w : Int) : VObj Unit := .cells [nx, ii hd, ii fi, ii la, ii cl, uu w] 149
abbrev ruU (hd fi la cl pc w : Int) : VObj Unit := .cells [ii hd, ii fi, ii la, ii cl, ii pc, uu w] 138
abbrev rdU (u : Nat → Value) (at' : Int) : VObj Unit := .cells [.raw (u 0), .raw (u 1), .raw (u 2), .raw (u 3), .raw (u 4), .raw (u 5), .raw (u 6), .raw (u 7), .raw (u 8), .raw (u 9), .raw (u 10), ii at'] 76
abbrev sdU (u : Nat → Value) (at' : Int) : VObj Unit := .cells [.raw (u 0), .raw (u 1), .raw (u 2), .raw (u 3), .raw (u 4), .raw (u 5), .raw (u 6), .raw (u 7), .raw (u 8), .raw (u 9), ii at'] 54
/-- What a Reserve is at: its Pop; its Take (at first, later, laying); looking. -/
inductive RS where
  | pp (j : Nat) (cl st hd w h se sn rc : Int) (va vb : Value)
  | ld (cl st sn rc w b e k : Int) (va : Value) (u : Nat → Value)
  | tk (j : Nat) (cl st sn rc w e k : Int) (va : Value) (u : Nat → Value)
  | lay (j : Nat) (cl st sn rc w e k hd fi la pw : Int) (va : Value) (u : Nat → Value)
  | look (cl st sn rc : Int) (va vb vc : Value) (u : Nat → Value)
/-- What a worker is at: nothing; a Reserve; an Alloc that reserves, clears, seals. -/
inductive AS where
  | idle (vb vd : Value)
  | res (r : RS) (wb : Value)
  | all (cn mk : Int) (r : RS) (wd : Value)
  | clr (cn mk k at' : Int) (u v : Nat → Value) (wd : Value)
  | sea (cn mk k K at' : Int) (u v : Nat → Value) (wd : Value)
def popF : Nat → FuncId
  | 0 => 71
  | 1 => 77
  | _ => 83
def takeF : Nat → FuncId
  | 1 => 73
  | 2 => 82
  | 3 => 88
  | _ => 93
def pushF : Nat → FuncId
  | 0 => 102
  | 1 => 105
  | _ => 106
abbrev bq (q : Nat) : Nat := 10 * (q + 1)
section
variable (B p4 : Int)
def rP (b : Nat) : RS → HP Unit
  | .pp j cl st hd w h se sn rc va _ => [(b, some (reU B p4 cl st 0 (.ptr (b + 1) 0) (.raw va) sn rc)), (b + 1, some (poU (.fn (popF j) [] []) hd w h se))]
  | .ld cl st sn rc w b' e k va _ => [(b, some (reU B p4 cl st 1 (.raw va) (.ptr (b + 1) 0) sn rc)), (b + 1, some (tkU (.fn 57 [(b + 1, 0)] []) B p4 cl st w b' e k .nilp))]
  | .tk j cl st sn rc w e k va _ => [(b, some (reU B p4 cl st 1 (.raw va) (.ptr (b + 1) 0) sn rc)), (b + 1, some (tkU (.fn (takeF j) [(b + 1, 0)] []) B p4 cl st w (W (mAt w - 1)) e k .nilp))]
  | .lay j cl st sn rc w e k hd fi la pw va _ => [(b, some (reU B p4 cl st 1 (.raw va) (.ptr (b + 1) 0) sn rc)), (b + 1, some (tkU (.fn 99 [(b + 1, 0)] []) B p4 cl st w (W (mAt w - 1)) e k (.ptr (b + 2) 0))), (b + 2, some (puU (.fn (pushF j) [] []) hd fi la cl pw))]
  | .look cl st sn rc va _ vc _ => [(b, some (reU B p4 cl st 2 (.raw va) (.raw vc) sn rc))]
def rR (b : Nat) : RS → HP Unit
  | .pp j cl st hd w h se sn rc _ vb => [(b, some (rrU B p4 cl st 1 (.ptr (b + 1) 0) (.raw vb) rc)), (b + 1, some (roU hd (j + 1) w h se))]
  | .ld cl st sn rc w _ e k _ u => [(b, some (rrU B p4 cl st 2 (.ptr (b + 1) 0) (.ptr (b + 2) 0) rc)), (b + 1, some (rxU u sn)), (b + 2, some (rtU B p4 cl st 1 k w e .nilp))]
  | .tk j cl st sn rc w e k _ u => [(b, some (rrU B p4 cl st 2 (.ptr (b + 1) 0) (.ptr (b + 2) 0) rc)), (b + 1, some (rxU u sn)), (b + 2, some (rtU B p4 cl st (j + 1) k w e .nilp))]
  | .lay j cl st sn rc w e k hd fi la pw _ u => [(b, some (rrU B p4 cl st 2 (.ptr (b + 1) 0) (.ptr (b + 2) 0) rc)), (b + 1, some (rxU u sn)), (b + 2, some (rtU B p4 cl st 6 k w e (.ptr (b + 3) 0))), (b + 3, some (ruU hd fi la cl (j + 1) pw))]
  | .look cl st sn rc _ vb _ u => [(b, some (rrU B p4 cl st 3 (.ptr (b + 1) 0) (.raw vb) rc)), (b + 1, some (rxU u sn))]
def fAb (b : Nat) : AS → HP Unit
  | .all cn mk r _ => (b, some (alU cn mk 0 (.ptr (b + 1) 0) 0)) :: rP B p4 (b + 1) r
  | .clr cn mk k at' u _ _ => [(b, some (alU cn mk 3 (.ptr (b + 1) 0) k)), (b + 1, some (rdU u at'))]
  | .sea cn mk k _ at' u _ _ => [(b, some (alU cn mk 4 (.ptr (b + 1) 0) k)), (b + 1, some (rdU u at'))]
  | _ => []
def fBb (b : Nat) : AS → HP Unit
  | .all cn mk r _ => (b, some (raU B p4 cn mk 1 0 (.ptr (b + 1) 0))) :: rR B p4 (b + 1) r
  | .clr cn mk k at' _ v _ => [(b, some (raU B p4 cn mk 2 (W (k + 1)) (.ptr (b + 1) 0))), (b + 1, some (sdU v at'))]
  | .sea cn mk _ K at' _ v _ => [(b, some (raU B p4 cn mk 3 K (.ptr (b + 1) 0))), (b + 1, some (sdU v at'))]
  | _ => []
def fCb (b : Nat) : AS → HP Unit
  | .res r _ => rP B p4 b r
  | _ => []
def fDb (b : Nat) : AS → HP Unit
  | .res r _ => rR B p4 b r
  | _ => []
def fA (q : Nat) (x : AS) : HP Unit := fAb B p4 (bq q) x
def fB (q : Nat) (x : AS) : HP Unit := fBb B p4 (bq q) x
def fC (q : Nat) (x : AS) : HP Unit := fCb B p4 (bq q) x
def fD (q : Nat) (x : AS) : HP Unit := fDb B p4 (bq q) x
end
def cA (q : Nat) : AS → VV
  | .all .. => .ptr (bq q) 0
  | .clr .. => .ptr (bq q) 0
  | .sea .. => .ptr (bq q) 0
  | _ => .nilp
def cB (q : Nat) : AS → VV
  | .idle vb _ => .raw vb
  | .res _ wb => .raw wb
  | _ => .ptr (bq q) 0
def cC (q : Nat) : AS → VV
  | .res .. => .ptr (bq q) 0
  | _ => .nilp
def cD (q : Nat) : AS → VV
  | .idle _ vd => .raw vd
  | .res .. => .ptr (bq q) 0
  | .all _ _ _ wd => .raw wd
  | .clr _ _ _ _ _ _ wd => .raw wd
  | .sea _ _ _ _ _ _ _ wd => .raw wd
theorem q4 {q : Nat} (h : q < 4) : q = 0 ∨ q = 1 ∨ q = 2 ∨ q = 3 := by omega
/-! ### Names -/
def inB (b n : Nat) : Bool := Nat.ble b n && Nat.blt n (b + 10)
theorem inB_iff {b n : Nat} : inB b n = true ↔ b ≤ n ∧ n < b + 10 := by
  unfold inB
  rw [Bool.and_eq_true, Nat.blt_eq]
  exact and_congr ⟨Nat.le_of_ble_eq_true, Nat.ble_eq_true_of_le⟩ Iff.rfl
theorem inB_j {b j : Nat} (h : j < 10) : inB b (b + j) = true := inB_iff.2 ⟨by omega, by omega⟩
def Z (b n : Nat) : Bool := Nat.beq n 0 || inB b n
theorem Z_far {A b n : Nat} (hA : 0 < A) (h : A + 10 ≤ b ∨ b + 10 ≤ A) (hn : inB A n = true) : Z b n = false := by
  rw [inB_iff] at hn
  have h1 : inB b n = false := by
    cases h2 : inB b n with
    | false => rfl
    | true => rw [inB_iff] at h2; omega
  have h2 : Nat.beq n 0 = false := by
    cases h3 : Nat.beq n 0 with
    | false => rfl
    | true => have := Nat.eq_of_beq_eq_true h3; omega
  unfold Z
  rw [h1, h2]; rfl
theorem Z_in {b n : Nat} (h : inB b n = true) : Z b n = true := by
  unfold Z
  rw [h]; simp
/-- A worker's objects and its cell: under its own names. -/
structure Own (F : Nat → AS → HP Unit) (C : Nat → AS → VV) : Prop where
  all : ∀ q s, ∀ p ∈ F q s, p.2.isSome = true ∧ inB (bq q) p.1 = true ∧ ∀ o, p.2 = some o → ∀ m ∈ objIds o, inB (bq q) m = true
  cell : ∀ q s, ∀ n ∈ vvIds (C q s), inB (bq q) n = true
  nd : ∀ q s, ((F q s).map (·.1)).Nodup
/-- Objects whose names, and what they lead to, lie between two bounds. -/
def Near (b e : Nat) (l : HP Unit) : Prop := ∀ p ∈ l, p.2.isSome = true ∧ (b ≤ p.1 ∧ p.1 < e) ∧ ∀ o, p.2 = some o → ∀ m ∈ objIds o, b ≤ m ∧ m < e
theorem near_nil (b e : Nat) : Near b e [] := fun p hp => by cases hp
theorem near_cons {b e n : Nat} {o : VObj Unit} {l : HP Unit} (h1 : b ≤ n ∧ n < e) (h2 : ∀ m ∈ objIds o, b ≤ m ∧ m < e) (h3 : Near b e l) : Near b e ((n, some o) :: l) := fun p hp => by
  rcases List.mem_cons.1 hp with rfl | hp
  · exact ⟨rfl, h1, fun o' ho => by injection ho with ho; subst ho; exact h2⟩
  · exact h3 p hp
theorem near_mono {b e b' e' : Nat} {l : HP Unit} (h : Near b e l) (h1 : b' ≤ b) (h2 : e ≤ e') : Near b' e' l := fun p hp => by
  obtain ⟨g1, g2, g3⟩ := h p hp
  exact ⟨g1, ⟨by omega, by omega⟩, fun o ho m hm => by have := g3 o ho m hm; omega⟩
theorem near_own {q e : Nat} {l : HP Unit} (h : Near (bq q) e l) (he : e ≤ bq q + 10) : ∀ p ∈ l, p.2.isSome = true ∧ inB (bq q) p.1 = true ∧ ∀ o, p.2 = some o → ∀ m ∈ objIds o, inB (bq q) m = true := fun p hp => by
  obtain ⟨g1, g2, g3⟩ := h p hp
  exact ⟨g1, inB_iff.2 ⟨g2.1, by omega⟩, fun o ho m hm => by have := g3 o ho m hm; exact inB_iff.2 ⟨this.1, by omega⟩⟩
section
variable (B p4 : Int)
theorem near_rP (b : Nat) (r : RS) : Near b (b + 4) (rP B p4 b r) := by
  cases r <;> simp only [rP] <;> (repeat' (first | exact near_nil _ _ | refine near_cons (by omega) (fun m hm => ?_) ?_)) <;> simp [objIds, vvIds] at hm <;> omega
theorem near_rR (b : Nat) (r : RS) : Near b (b + 4) (rR B p4 b r) := by
  cases r <;> simp only [rR] <;> (repeat' (first | exact near_nil _ _ | refine near_cons (by omega) (fun m hm => ?_) ?_)) <;> simp [objIds, vvIds] at hm <;> omega
theorem near_A (b : Nat) (x : AS) : Near b (b + 5) (fAb B p4 b x) := by
  cases x with
  | idle vb vd => exact near_nil _ _
  | res r wb => exact near_nil _ _
  | all cn mk r wd => exact near_cons (by omega) (fun m hm => by simp [objIds, vvIds] at hm; omega) (near_mono (near_rP B p4 (b + 1) r) (by omega) (by omega))
  | clr cn mk k at' u v wd => exact near_cons (by omega) (fun m hm => by simp [objIds, vvIds] at hm; omega) (near_cons (by omega) (fun m hm => by simp [objIds, vvIds] at hm) (near_nil _ _))
  | sea cn mk k K at' u v wd => exact near_cons (by omega) (fun m hm => by simp [objIds, vvIds] at hm; omega) (near_cons (by omega) (fun m hm => by simp [objIds, vvIds] at hm) (near_nil _ _))
theorem near_B (b : Nat) (x : AS) : Near b (b + 5) (fBb B p4 b x) := by
  cases x with
  | idle vb vd => exact near_nil _ _
  | res r wb => exact near_nil _ _
  | all cn mk r wd => exact near_cons (by omega) (fun m hm => by simp [objIds, vvIds] at hm; omega) (near_mono (near_rR B p4 (b + 1) r) (by omega) (by omega))
  | clr cn mk k at' u v wd => exact near_cons (by omega) (fun m hm => by simp [objIds, vvIds] at hm; omega) (near_cons (by omega) (fun m hm => by simp [objIds, vvIds] at hm) (near_nil _ _))
  | sea cn mk k K at' u v wd => exact near_cons (by omega) (fun m hm => by simp [objIds, vvIds] at hm; omega) (near_cons (by omega) (fun m hm => by simp [objIds, vvIds] at hm) (near_nil _ _))
theorem near_C (b : Nat) (x : AS) : Near b (b + 4) (fCb B p4 b x) := by
  cases x with
  | res r wb => exact near_rP B p4 b r
  | _ => exact near_nil _ _
theorem near_D (b : Nat) (x : AS) : Near b (b + 4) (fDb B p4 b x) := by
  cases x with
  | res r wb => exact near_rR B p4 b r
  | _ => exact near_nil _ _
theorem nd_A (b : Nat) (x : AS) : ((fAb B p4 b x).map (·.1)).Nodup := by
  cases x with
  | all cn mk r wd => cases r <;> simp [fAb, rP] <;> omega
  | _ => simp [fAb]
theorem nd_B (b : Nat) (x : AS) : ((fBb B p4 b x).map (·.1)).Nodup := by
  cases x with
  | all cn mk r wd => cases r <;> simp [fBb, rR] <;> omega
  | _ => simp [fBb]
theorem nd_C (b : Nat) (x : AS) : ((fCb B p4 b x).map (·.1)).Nodup := by
  cases x with
  | res r wb => cases r <;> simp [fCb, rP] <;> omega
  | _ => simp [fCb]
theorem nd_D (b : Nat) (x : AS) : ((fDb B p4 b x).map (·.1)).Nodup := by
  cases x with
  | res r wb => cases r <;> simp [fDb, rR] <;> omega
  | _ => simp [fDb]
end
theorem own_A (B p4 : Int) : Own (fA B p4) cA := by
  refine ⟨fun q s p hp => ?_, fun q s n hn => ?_, fun q s => ?_⟩
  · exact near_own (near_A B p4 (bq q) s) (by omega) p hp
  · cases s <;> simp [cA, vvIds] at hn <;> subst hn <;> exact inB_j (j := 0) (by decide)
  · exact nd_A B p4 (bq q) s
theorem own_B (B p4 : Int) : Own (fB B p4) cB := by
  refine ⟨fun q s p hp => ?_, fun q s n hn => ?_, fun q s => ?_⟩
  · exact near_own (near_B B p4 (bq q) s) (by omega) p hp
  · cases s <;> simp [cB, vvIds] at hn <;> subst hn <;> exact inB_j (j := 0) (by decide)
  · exact nd_B B p4 (bq q) s
theorem own_C (B p4 : Int) : Own (fC B p4) cC := by
  refine ⟨fun q s p hp => ?_, fun q s n hn => ?_, fun q s => ?_⟩
  · exact near_own (near_C B p4 (bq q) s) (by omega) p hp
  · cases s <;> simp [cC, vvIds] at hn <;> subst hn <;> exact inB_j (j := 0) (by decide)
  · exact nd_C B p4 (bq q) s
theorem own_D (B p4 : Int) : Own (fD B p4) cD := by
  refine ⟨fun q s p hp => ?_, fun q s n hn => ?_, fun q s => ?_⟩
  · exact near_own (near_D B p4 (bq q) s) (by omega) p hp
  · cases s <;> simp [cD, vvIds] at hn <;> subst hn <;> exact inB_j (j := 0) (by decide)
  · exact nd_D B p4 (bq q) s
theorem oor_swap {α : Type} {a b r : Option α} (h : a = none ∨ b = none) : oor a (oor b r) = oor b (oor a r) := by
  rcases h with rfl | rfl
  · cases b <;> rfl
  · cases a <;> rfl
theorem oor_last {α : Type} {a b : Option α} (h : a = none ∨ b = none) : oor a b = oor b a := by
  rcases h with rfl | rfl
  · cases b <;> rfl
  · cases a <;> rfl
abbrev CL (C : Nat → AS → VV) (s : Nat → AS) : List VV := [C 0 (s 0), C 1 (s 1), C 2 (s 2), C 3 (s 3)]
/-- The group of all workers' objects. -/
def GG (F : Nat → AS → HP Unit) (C : Nat → AS → VV) (ty : TypeId) (s : Nat → AS) : HP Unit := (0, some (.cells (CL C s) ty)) :: (F 0 (s 0) ++ (F 1 (s 1) ++ (F 2 (s 2) ++ F 3 (s 3))))
/-- The others' objects. -/
def oth (F : Nat → AS → HP Unit) (q : Nat) (s : Nat → AS) : HP Unit := match q with
  | 0 => F 1 (s 1) ++ (F 2 (s 2) ++ F 3 (s 3))
  | 1 => F 0 (s 0) ++ (F 2 (s 2) ++ F 3 (s 3))
  | 2 => F 0 (s 0) ++ (F 1 (s 1) ++ F 3 (s 3))
  | _ => F 0 (s 0) ++ (F 1 (s 1) ++ F 2 (s 2))
def mK (q : Nat) : List Bool := match q with
  | 0 => [false, true, true, true]
  | 1 => [true, false, true, true]
  | 2 => [true, true, false, true]
  | _ => [true, true, true, false]
def upd (s : Nat → AS) (q : Nat) (x : AS) : Nat → AS := fun j => if j = q then x else s j
theorem upd_eq (s : Nat → AS) (q : Nat) (x : AS) : upd s q x q = x := if_pos rfl
theorem upd_ne (s : Nat → AS) {j q : Nat} (x : AS) (h : j ≠ q) : upd s q x j = s j := if_neg h
theorem upd_self (s : Nat → AS) (q : Nat) : s = upd s q (s q) := by
  funext j
  by_cases h : j = q
  · rw [h, upd_eq]
  · rw [upd_ne _ _ h]
section
variable {F : Nat → AS → HP Unit} {C : Nat → AS → VV} (hF : Own F C)
include hF
theorem F_some (q : Nat) (s : AS) : ∀ p ∈ F q s, p.2.isSome = true := fun p hp => (hF.all q s p hp).1
theorem F_ids (q : Nat) (s : AS) : ∀ n o, hget (F q s) n = some o → inB (bq q) n = true ∧ ∀ m ∈ objIds o, inB (bq q) m = true := by
  intro n o ho
  obtain ⟨p, hp, rfl, h2⟩ := hget_mem ho
  obtain ⟨_, h3, h4⟩ := hF.all q s p hp
  exact ⟨h3, h4 o h2⟩
theorem apart {A D : Nat} (h : A ≠ D) (a b : AS) (n : Nat) : hget (F A a) n = none ∨ hget (F D b) n = none := by
  cases ha : hget (F A a) n with
  | none => exact .inl rfl
  | some o => cases hb : hget (F D b) n with
    | none => exact .inr rfl
    | some o' =>
      have h1 := inB_iff.1 (F_ids hF A a n o ha).1; have h2 := inB_iff.1 (F_ids hF D b n o' hb).1
      have e1 : bq A = 10 * (A + 1) := rfl
      have e2 : bq D = 10 * (D + 1) := rfl
      omega
theorem get4 (X : VObj Unit) (A b D G : Nat) (a b' d g : AS) (n : Nat) : hget ((0, some X) :: (F A a ++ (F b b' ++ (F D d ++ F G g)))) n = if n = 0 then some X else oor (hget (F A a) n) (oor (hget (F b b') n) (oor (hget (F D d) n) (hget (F G g) n))) := by
  by_cases e : n = 0
  · subst e; rfl
  · rw [if_neg e, hget_ne e, hget_app (F_some hF A a), hget_app (F_some hF b b'), hget_app (F_some hF D d)]
/-- The group, with the worker q ahead. -/
theorem GG_q {q : Nat} (hq : q < 4) (ty : TypeId) (s : Nat → AS) (n : Nat) : hget (GG F C ty s) n = hget ((0, some (.cells (CL C s) ty)) :: (F q (s q) ++ oth F q s)) n := by
  unfold GG
  rcases q4 hq with rfl | rfl | rfl | rfl
  · rfl
  · show _ = hget ((0, some _) :: (F 1 (s 1) ++ (F 0 (s 0) ++ (F 2 (s 2) ++ F 3 (s 3))))) n
    rw [get4 hF, get4 hF, oor_swap (apart hF (by decide) (s 0) (s 1) n)]
  · show _ = hget ((0, some _) :: (F 2 (s 2) ++ (F 0 (s 0) ++ (F 1 (s 1) ++ F 3 (s 3))))) n
    rw [get4 hF, get4 hF, oor_swap (apart hF (by decide) (s 1) (s 2) n), oor_swap (apart hF (by decide) (s 0) (s 2) n)]
  · show _ = hget ((0, some _) :: (F 3 (s 3) ++ (F 0 (s 0) ++ (F 1 (s 1) ++ F 2 (s 2))))) n
    rw [get4 hF, get4 hF, oor_last (apart hF (by decide) (s 2) (s 3) n), oor_swap (apart hF (by decide) (s 1) (s 3) n), oor_swap (apart hF (by decide) (s 0) (s 3) n)]
theorem hg {q : Nat} (hq : q < 4) (ty : TypeId) (s : Nat → AS) (x : AS) (n : Nat) : hget (GG F C ty (upd s q x)) n = hget ((0, some (.cells (CL C (upd s q x)) ty)) :: (F q x ++ oth F q (upd s q x))) n := by
  rw [GG_q hF hq, upd_eq]
theorem hZF {q : Nat} (hq : q < 4) (s : Nat → AS) : ∀ n o, hget (oth F q s) n = some o → Z (bq q) n = false ∧ ∀ m ∈ objIds o, Z (bq q) m = false := by
  intro n o h
  have one : ∀ {A : Nat} {a : AS}, (bq A + 10 ≤ bq q ∨ bq q + 10 ≤ bq A) → hget (F A a) n = some o → Z (bq q) n = false ∧ ∀ m ∈ objIds o, Z (bq q) m = false := by
    intro A a k1 ha
    obtain ⟨g1, g2⟩ := F_ids hF A a n _ ha
    exact ⟨Z_far (by show 0 < 10 * (A + 1); omega) k1 g1, fun m hm => Z_far (by show 0 < 10 * (A + 1); omega) k1 (g2 m hm)⟩
  have key : ∀ {A b D : Nat} {a b' d : AS}, (bq A + 10 ≤ bq q ∨ bq q + 10 ≤ bq A) → (bq b + 10 ≤ bq q ∨ bq q + 10 ≤ bq b) → (bq D + 10 ≤ bq q ∨ bq q + 10 ≤ bq D) → hget (F A a ++ (F b b' ++ F D d)) n = some o → Z (bq q) n = false ∧ ∀ m ∈ objIds o, Z (bq q) m = false := by
    intro A b D a b' d k1 k2 k3 h
    rw [hget_app (F_some hF A a), hget_app (F_some hF b b')] at h
    cases ha : hget (F A a) n with
    | some o' => rw [ha] at h; injection h with h; subst h; exact one k1 ha
    | none =>
      rw [ha] at h
      cases hb : hget (F b b') n with
      | some o' => rw [hb] at h; injection h with h; subst h; exact one k2 hb
      | none => rw [hb] at h; exact one k3 h
  rcases q4 hq with rfl | rfl | rfl | rfl <;> exact key (by decide) (by decide) (by decide) h
theorem hk {q : Nat} (hq : q < 4) (x : AS) : ∀ p ∈ F q x, p.1 ≠ 0 ∧ Z (bq q) p.1 = true ∧ p.2.isSome = true := by
  intro p hp
  obtain ⟨h1, h2, _⟩ := hF.all q x p hp
  exact ⟨by have := inB_iff.1 h2; have e1 : bq q = 10 * (q + 1) := rfl; omega, Z_in h2, h1⟩
theorem hZL {q : Nat} (hq : q < 4) (s : Nat → AS) : ∀ (i : Nat) x, (mK q)[i]? = some true → (CL C s)[i]? = some x → ∀ n ∈ vvIds x, Z (bq q) n = false := by
  intro i x h1 h2 n hn
  have key : ∀ {A : Nat}, (bq A + 10 ≤ bq q ∨ bq q + 10 ≤ bq A) → n ∈ vvIds (C A (s A)) → Z (bq q) n = false := fun {A} k h => Z_far (by show 0 < 10 * (A + 1); omega) k (hF.cell A (s A) n h)
  have hi : i < 4 := by
    cases Nat.lt_or_ge i 4 with
    | inl h => exact h
    | inr h => rw [List.getElem?_eq_none (by show 4 ≤ i; exact h)] at h2; cases h2
  rcases q4 hq with rfl | rfl | rfl | rfl <;> rcases q4 hi with rfl | rfl | rfl | rfl <;> first
    | (cases h1; done)
    | (injection h2 with h2; subst h2; exact key (A := 0) (by decide) hn)
    | (injection h2 with h2; subst h2; exact key (A := 1) (by decide) hn)
    | (injection h2 with h2; subst h2; exact key (A := 2) (by decide) hn)
    | (injection h2 with h2; subst h2; exact key (A := 3) (by decide) hn)
omit hF in
theorem oth_upd {q : Nat} (hq : q < 4) (s : Nat → AS) (x y : AS) : oth F q (upd s q x) = oth F q (upd s q y) := by
  rcases q4 hq with rfl | rfl | rfl | rfl <;> rfl
end
section
variable (B p4 : Int)
abbrev GA (s : Nat → AS) : HP Unit := GG (fA B p4) cA 35 s
abbrev GB (s : Nat → AS) : HP Unit := GG (fB B p4) cB 37 s
abbrev GC (s : Nat → AS) : HP Unit := GG (fC B p4) cC 39 s
abbrev GD (s : Nat → AS) : HP Unit := GG (fD B p4) cD 41 s
end
/-! ### What is asked of a worker -/
def RS.ok : RS → Prop
  | .pp j cl st hd _ _ _ _ _ _ _ => j ≤ 2 ∧ (0 ≤ cl ∧ cl < 3) ∧ (0 ≤ st ∧ st < 2) ∧ 0 ≤ hd ∧ hd < 32
  | .ld cl st _ _ _ _ _ k _ _ => (0 ≤ cl ∧ cl < 3) ∧ (0 ≤ st ∧ st < 2) ∧ 0 ≤ k ∧ k ≤ 8
  | .tk j cl st _ _ _ _ k _ _ => (1 ≤ j ∧ j ≤ 4) ∧ (0 ≤ cl ∧ cl < 3) ∧ (0 ≤ st ∧ st < 2) ∧ 0 ≤ k ∧ k ≤ 8
  | .lay j cl st _ _ _ _ k hd _ _ _ _ _ => j ≤ 2 ∧ (0 ≤ cl ∧ cl < 3) ∧ (0 ≤ st ∧ st < 2) ∧ (0 ≤ k ∧ k ≤ 9) ∧ 0 ≤ hd ∧ hd < 32
  | .look cl st _ _ _ _ _ _ => (0 ≤ cl ∧ cl < 3) ∧ 0 ≤ st ∧ st < 2
def AS.ok : AS → Prop
  | .idle .. => True
  | .res r _ => r.ok
  | .all cn _ r _ => (0 ≤ cn ∧ cn ≤ 7) ∧ r.ok
  | .clr cn _ k _ _ _ _ => (0 ≤ cn ∧ cn ≤ 7) ∧ 0 ≤ k ∧ k < cn
  | .sea cn _ _ _ _ _ _ _ => 0 ≤ cn ∧ cn ≤ 7
theorem ok_upd {s : Nat → AS} {q : Nat} {x : AS} (hs : ∀ k, k < 4 → (s k).ok) (hx : x.ok) : ∀ k, k < 4 → (upd s q x k).ok := fun k hk => by
  by_cases h : k = q
  · rw [h, upd_eq]; exact hx
  · rw [upd_ne _ _ h]; exact hs k hk
theorem codeOK (c : Code) : CodeOK MS Tryz.prog c (ev c) :=
  evCode_sound progOK (fun f args hp nid r h _ => evF_sound progOK (lookH_ok LAP.tabL_ok) 100 19 f args hp nid r h) 100 c
theorem Tri_x {E : Ctx MObj} {c : Code} {st : St MObj} {Q : VX → St MObj → Prop} (h : Tri MS Tryz.prog E c st Q) : TriX MS (c.wp Tryz.prog) E st Q := h
abbrev R8 : List (Nat × Nat) := [(0, 0), (1, 1), (2, 2), (3, 3), (4, 4), (5, 5), (6, 6), (7, 7)]
abbrev bas (ps : List (List Int)) (B p4 : Int) (xs : List Int) (c c2 t : Int) (s : Nat → AS) : HP MObj := base ps B p4 xs c c2 t (.abs (.grp (GA B p4 s))) (.abs (.grp (GB B p4 s))) (.abs (.grp (GC B p4 s))) (.abs (.grp (GD B p4 s)))
/-- Behind a worker's step: the same words in both memories, workers that are as is asked. -/
def Mid (n : Int) (np : Nat) (i : Int) (ps : List (List Int)) (B p4 : Int) (c c2 : Int) : VX → St MObj → Prop := fun x st => x = .normal ∧ ∃ (s' : Nat → AS) (xs' : List Int) (c' c2' t' : Int), (∃ js, st.tm = pre n np i ++ junk js 177 15) ∧
  renHP R8 st.hp R8 = some (bas ps B p4 xs' c' c2' t' s') ∧ renChk R8 st.hp 1 st.nid 8 = true ∧ 8 ≤ st.nid ∧ (xs'.length : Int) = 32 + 32 * B ∧ (∀ k, k < 4 → (s' k).ok) ∧ c ≤ c' ∧ c' ≤ c + 2 ∧ c2 ≤ c2' ∧ c2' ≤ c2 + 2
end Go.Proofs.YtkbleapcnbphjaaGreat.AllocPlays
