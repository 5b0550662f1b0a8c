/-
  CarvePlays: what a worker is at, as data; its cells and objects; the group of all workers with one of them ahead.
-/
import Derived.Test.YtmncbdalaimmhaaTCarvePlays2
import Derived.Test.YtmncbdalaimmhaaTCarvePlays3
import Derived.Test.YtmncbdalaimmhaaTCarvePlays4
import Derived.Test.YtmncbdalaimmhaaEngZe
namespace Go.Proofs.Ytmncbdalaimmhaa.CarvePlays
open Go Go.RowKit Go.Proofs.Ytmncbdalaimmhaa.Eng
set_option linter.unusedVariables false
set_option linter.unusedSimpArgs false
set_option maxRecDepth 20000
/-- What blocks it has: no slice, an empty one, a table. -/
inductive HS where
  | nil
  | es
  | tab (rows : List (List Int))
/-- What a worker is at. -/
inductive WS where
  | idle (h : HS) (vp vq : Value)
  | load (cl st w b e k : Int) (h : HS) (vq : Value)
  | take (j : Nat) (cl st w e k : Int) (h : HS) (vq : Value)
  | lay (j : Nat) (cl st w e k hd fi la pw : Int) (h : HS) (vq : Value)
  | give (j : Nat) (b w : Int) (h : HS) (vp : Value)
def WS.has : WS → HS
  | .idle h _ _ => h
  | .load _ _ _ _ _ _ h _ => h
  | .take _ _ _ _ _ _ h _ => h
  | .lay _ _ _ _ _ _ _ _ _ _ h _ => h
  | .give _ _ _ h _ => h
def takeF : Nat → FuncId
  | 1 => 54
  | 2 => 68
  | 3 => 76
  | _ => 81
def pushF : Nat → FuncId
  | 0 => 92
  | 1 => 95
  | _ => 96
def giveF : Nat → FuncId
  | 0 => 38
  | 1 => 59
  | _ => 71
abbrev tkU (nx : VV) (B p4 cl st w b e kk : Int) (ps : VV) : VObj Unit := .cells ([nx] ++ pl B p4 ++ [ii cl, ii st, uu w, ii b, uu e, ii kk, ps, ii 0]) 55
abbrev rtU (B p4 cl st pc kk w e : Int) (ps : VV) : VObj Unit := .cells (pl B p4 ++ [ii cl, ii st, ii pc, ii kk, uu w, uu e, ps, ii 0]) 75
abbrev puU (nx : VV) (hd fi la cl w : Int) : VObj Unit := .cells [nx, ii hd, ii fi, ii la, ii cl, uu w] 135
abbrev ruU (hd fi la cl pc w : Int) : VObj Unit := .cells [ii hd, ii fi, ii la, ii cl, ii pc, uu w] 120
abbrev gvU (nx : VV) (B p4 b w : Int) : VObj Unit := .cells ([nx] ++ pl B p4 ++ [ii b, uu w]) 78
abbrev rgU (B p4 b pc w : Int) : VObj Unit := .cells (pl B p4 ++ [ii b, ii pc, uu w]) 99
abbrev tabO (rows : List (List Int)) : VObj Unit := .tab [.int .i64] rows 3
def c0 (b : Nat) : WS → VV
  | .load .. => .ptr b 0
  | .take .. => .ptr b 0
  | .lay .. => .ptr b 0
  | _ => .nilp
def c1 (b : Nat) : WS → VV
  | .give .. => .ptr b 0
  | _ => .nilp
def c2 (b : Nat) : WS → VV
  | .load .. => .ptr (b + 1) 0
  | .take .. => .ptr (b + 1) 0
  | .lay .. => .ptr (b + 1) 0
  | .idle _ vp _ => .raw vp
  | .give _ _ _ _ vp => .raw vp
def c3 (b : Nat) : WS → VV
  | .give .. => .ptr (b + 1) 0
  | .idle _ _ vq => .raw vq
  | .load _ _ _ _ _ _ _ vq => .raw vq
  | .take _ _ _ _ _ _ _ vq => .raw vq
  | .lay _ _ _ _ _ _ _ _ _ _ _ vq => .raw vq
def c4 (b : Nat) (s : WS) : VV := match s.has with
  | .nil => .nils
  | .es => .es true
  | .tab rows => .ts (b + 4) (.lit 0) (.sym rows.length) none
def hobj (b : Nat) : HS → HP Unit
  | .tab rows => [(b + 4, some (tabO rows))]
  | _ => []
section
variable (B p4 : Int)
def wobj (b : Nat) : WS → HP Unit
  | .idle .. => []
  | .load cl st w bb e k _ _ => [(b, some (tkU (.fn 30 [(b, 0)] []) B p4 cl st w bb e k .nilp)), (b + 1, some (rtU B p4 cl st 1 k w e .nilp))]
  | .take j cl st w e k _ _ => [(b, some (tkU (.fn (takeF j) [(b, 0)] []) B p4 cl st w (W (mAt w - 1)) e k .nilp)), (b + 1, some (rtU B p4 cl st (j + 1) k w e .nilp))]
  | .lay j cl st w e k hd fi la pw _ _ => [(b, some (tkU (.fn 88 [(b, 0)] []) B p4 cl st w (W (mAt w - 1)) e k (.ptr (b + 2) 0))), (b + 1, some (rtU B p4 cl st 6 k w e (.ptr (b + 3) 0))), (b + 2, some (puU (.fn (pushF j) [] []) hd fi la cl pw)), (b + 3, some (ruU hd fi la cl (j + 1) pw))]
  | .give j bb w _ _ => [(b, some (gvU (.fn (giveF j) [(b, 0)] []) B p4 bb w)), (b + 1, some (rgU B p4 bb (j + 1) w))]
def wo (b : Nat) (s : WS) : HP Unit := wobj B p4 b s ++ hobj b s.has
end
abbrev wc (b : Nat) (s : WS) : List VV := [c0 b s, c1 b s, c2 b s, c3 b s, c4 b s]
abbrev WL (s : Nat → WS) : List VV := [c0 10 (s 0), c1 10 (s 0), c2 10 (s 0), c3 10 (s 0), c4 10 (s 0), c0 20 (s 1), c1 20 (s 1), c2 20 (s 1), c3 20 (s 1), c4 20 (s 1), c0 30 (s 2), c1 30 (s 2), c2 30 (s 2), c3 30 (s 2), c4 30 (s 2), c0 40 (s 3), c1 40 (s 3), c2 40 (s 3), c3 40 (s 3), c4 40 (s 3)]
def WG (B p4 : Int) (s : Nat → WS) : HP Unit := (0, some (.cells (WL s) 40)) :: (wo B p4 10 (s 0) ++ (wo B p4 20 (s 1) ++ (wo B p4 30 (s 2) ++ wo B p4 40 (s 3))))
abbrev bq (q : Nat) : Nat := 10 * (q + 1)
/-- The others' objects. -/
def oth (B p4 : Int) (q : Nat) (s : Nat → WS) : HP Unit := match q with
  | 0 => wo B p4 20 (s 1) ++ (wo B p4 30 (s 2) ++ wo B p4 40 (s 3))
  | 1 => wo B p4 10 (s 0) ++ (wo B p4 30 (s 2) ++ wo B p4 40 (s 3))
  | 2 => wo B p4 10 (s 0) ++ (wo B p4 20 (s 1) ++ wo B p4 40 (s 3))
  | _ => wo B p4 10 (s 0) ++ (wo B p4 20 (s 1) ++ wo B p4 30 (s 2))
def mk (q : Nat) (hm : Bool) : List Bool := match q with
  | 0 => [false, false, false, false, hm, true, true, true, true, true, true, true, true, true, true, true, true, true, true, true]
  | 1 => [true, true, true, true, true, false, false, false, false, hm, true, true, true, true, true, true, true, true, true, true]
  | 2 => [true, true, true, true, true, true, true, true, true, true, false, false, false, false, hm, true, true, true, true, true]
  | _ => [true, true, true, true, true, true, true, true, true, true, true, true, true, true, true, false, false, false, false, hm]
theorem q4 {q : Nat} (h : q < 4) : q = 0 ∨ q = 1 ∨ q = 2 ∨ q = 3 := by omega
/-! ### Names -/
def inB (b n : Nat) : Bool := Nat.ble b n && Nat.blt n (b + 10)
theorem inB_iff {b n : Nat} : inB b n = true ↔ b ≤ n ∧ n < b + 10 := by
  unfold inB
  rw [Bool.and_eq_true, Nat.blt_eq]
  exact and_congr ⟨Nat.le_of_ble_eq_true, Nat.ble_eq_true_of_le⟩ Iff.rfl
theorem hget_out {A : Type} : ∀ {l : HP A} {n : Nat}, n ∉ l.map (·.1) → hget l n = none
  | [], _, _ => rfl
  | (k, o) :: l, n, h => by
    rw [hget_ne (fun e => h (by rw [e]; exact List.mem_cons_self ..))]
    exact hget_out fun hm => h (List.mem_cons_of_mem _ hm)
section
variable {B p4 : Int}
theorem wo_all (b : Nat) (s : WS) : ∀ p ∈ wo B p4 b s, p.2.isSome = true ∧ inB b p.1 = true ∧ ∀ o, p.2 = some o → ∀ m ∈ objIds o, inB b m = true := by
  intro p hp
  have h2 : ∀ p ∈ hobj b s.has, p.2.isSome = true ∧ inB b p.1 = true ∧ ∀ o, p.2 = some o → ∀ m ∈ objIds o, inB b m = true := by
    intro p hp
    cases hh : s.has with
    | nil => rw [hh] at hp; cases hp
    | es => rw [hh] at hp; cases hp
    | tab rows =>
      rw [hh] at hp
      simp only [hobj, List.mem_cons, List.not_mem_nil, or_false] at hp
      subst hp
      exact ⟨rfl, inB_iff.2 ⟨by show b ≤ b + 4; omega, by show b + 4 < b + 10; omega⟩, fun o ho m hm => by injection ho with ho; subst ho; cases hm⟩
  rcases List.mem_append.1 hp with hp | hp
  · cases s with
    | idle h vp vq => cases hp
    | load cl st w bb e k h vq =>
      simp only [wobj, List.mem_cons, List.not_mem_nil, or_false] at hp
      rcases hp with rfl | rfl <;> refine ⟨rfl, inB_iff.2 ⟨by simp only []; omega, by simp only []; omega⟩, fun o ho m hm => ?_⟩ <;> injection ho with ho <;> subst ho <;> simp [objIds, vvIds] at hm <;> rw [inB_iff] <;> omega
    | take j cl st w e k h vq =>
      simp only [wobj, List.mem_cons, List.not_mem_nil, or_false] at hp
      rcases hp with rfl | rfl <;> refine ⟨rfl, inB_iff.2 ⟨by simp only []; omega, by simp only []; omega⟩, fun o ho m hm => ?_⟩ <;> injection ho with ho <;> subst ho <;> simp [objIds, vvIds] at hm <;> rw [inB_iff] <;> omega
    | lay j cl st w e k hd fi la pw h vq =>
      simp only [wobj, List.mem_cons, List.not_mem_nil, or_false] at hp
      rcases hp with rfl | rfl | rfl | rfl <;> refine ⟨rfl, inB_iff.2 ⟨by simp only []; omega, by simp only []; omega⟩, fun o ho m hm => ?_⟩ <;> injection ho with ho <;> subst ho <;> simp [objIds, vvIds] at hm <;> rw [inB_iff] <;> omega
    | give j bb w h vp =>
      simp only [wobj, List.mem_cons, List.not_mem_nil, or_false] at hp
      rcases hp with rfl | rfl <;> refine ⟨rfl, inB_iff.2 ⟨by simp only []; omega, by simp only []; omega⟩, fun o ho m hm => ?_⟩ <;> injection ho with ho <;> subst ho <;> simp [objIds, vvIds] at hm <;> rw [inB_iff] <;> omega
  · exact h2 p hp
theorem wo_some (b : Nat) (s : WS) : ∀ p ∈ wo B p4 b s, p.2.isSome = true := fun p hp => (wo_all b s p hp).1
theorem wo_ids (b : Nat) (s : WS) : ∀ n o, hget (wo B p4 b s) n = some o → inB b n = true ∧ ∀ m ∈ objIds o, inB b m = true := by
  intro n o ho
  obtain ⟨p, hp, rfl, h2⟩ := hget_mem ho
  obtain ⟨_, h3, h4⟩ := wo_all b s p hp
  exact ⟨h3, h4 o h2⟩
theorem c_ids (b : Nat) (s : WS) : ∀ x ∈ wc b s, ∀ n ∈ vvIds x, inB b n = true := by
  intro x hx n hn
  rw [inB_iff]
  have h4 : ∀ n ∈ vvIds (c4 b s), n = b + 4 := by
    intro n hn
    unfold c4 at hn
    split at hn <;> simp [vvIds] at hn
    exact hn
  simp only [List.mem_cons, List.not_mem_nil, or_false] at hx
  rcases hx with rfl | rfl | rfl | rfl | rfl
  · cases s <;> simp [c0, vvIds] at hn <;> omega
  · cases s <;> simp [c1, vvIds] at hn <;> omega
  · cases s <;> simp [c2, vvIds] at hn <;> omega
  · cases s <;> simp [c3, vvIds] at hn <;> omega
  · have := h4 n hn; omega
theorem c4_id (b : Nat) (s : WS) : ∀ n ∈ vvIds (c4 b s), n = b + 4 := by
  intro n hn
  unfold c4 at hn
  split at hn <;> simp [vvIds] at hn
  exact hn
theorem oor_swap {α : Type} {a b r : Option α} (h : a = none ∨ b = none) : oor a (oor b r) = oor b (oor a r) := by
  rcases h with rfl | rfl
  · cases b <;> rfl
  · cases a <;> rfl
theorem oor_last {α : Type} {a b : Option α} (h : a = none ∨ b = none) : oor a b = oor b a := by
  rcases h with rfl | rfl
  · cases b <;> rfl
  · cases a <;> rfl
theorem wo_apart {A D : Nat} (h : A + 10 ≤ D ∨ D + 10 ≤ A) (a b : WS) (n : Nat) : hget (wo B p4 A a) n = none ∨ hget (wo B p4 D b) n = none := by
  cases ha : hget (wo B p4 A a) n with
  | none => exact .inl rfl
  | some o => cases hb : hget (wo B p4 D b) n with
    | none => exact .inr rfl
    | some o' =>
      have h1 := inB_iff.1 (wo_ids A a n o ha).1; have h2 := inB_iff.1 (wo_ids D b n o' hb).1
      omega
theorem get4 (C : VObj Unit) (A b D F : Nat) (a b' d f : WS) (n : Nat) : hget ((0, some C) :: (wo B p4 A a ++ (wo B p4 b b' ++ (wo B p4 D d ++ wo B p4 F f)))) n = if n = 0 then some C else oor (hget (wo B p4 A a) n) (oor (hget (wo B p4 b b') n) (oor (hget (wo B p4 D d) n) (hget (wo B p4 F f) n))) := by
  by_cases e : n = 0
  · subst e; rfl
  · rw [if_neg e, hget_ne e, hget_app (wo_some A a), hget_app (wo_some b b'), hget_app (wo_some D d)]
/-- The group, with the worker q ahead. -/
theorem WG_q {q : Nat} (hq : q < 4) (s : Nat → WS) (n : Nat) : hget (WG B p4 s) n = hget ((0, some (.cells (WL s) 40)) :: (wo B p4 (bq q) (s q) ++ oth B p4 q s)) n := by
  unfold WG
  rcases q4 hq with rfl | rfl | rfl | rfl
  · rfl
  · show _ = hget ((0, some _) :: (wo B p4 20 (s 1) ++ (wo B p4 10 (s 0) ++ (wo B p4 30 (s 2) ++ wo B p4 40 (s 3))))) n
    rw [get4, get4, oor_swap (wo_apart (by omega) (s 0) (s 1) n)]
  · show _ = hget ((0, some _) :: (wo B p4 30 (s 2) ++ (wo B p4 10 (s 0) ++ (wo B p4 20 (s 1) ++ wo B p4 40 (s 3))))) n
    rw [get4, get4, oor_swap (wo_apart (by omega) (s 1) (s 2) n), oor_swap (wo_apart (by omega) (s 0) (s 2) n)]
  · show _ = hget ((0, some _) :: (wo B p4 40 (s 3) ++ (wo B p4 10 (s 0) ++ (wo B p4 20 (s 1) ++ wo B p4 30 (s 2))))) n
    rw [get4, get4, oor_last (wo_apart (by omega) (s 2) (s 3) n), oor_swap (wo_apart (by omega) (s 1) (s 3) n), oor_swap (wo_apart (by omega) (s 0) (s 3) n)]
/-- The names that are a worker's own: all; without its table. -/
def Z (b : Nat) (hm : Bool) (n : Nat) : Bool := Nat.beq n 0 || (inB b n && !(hm && Nat.beq n (b + 4)))
theorem Z_far {A b n : Nat} {hm : Bool} (hA : 0 < A) (h : A + 10 ≤ b ∨ b + 10 ≤ A) (hn : inB A n = true) : Z b hm n = false := by
  rw [inB_iff] at hn
  have h1 : inB b n = false := by
    cases h2 : inB b n with
    | false => rfl
    | true => rw [inB_iff] at h2; omega
  have h2 : Nat.beq n 0 = false := by
    cases h3 : Nat.beq n 0 with
    | false => rfl
    | true => have := Nat.eq_of_beq_eq_true h3; omega
  unfold Z
  rw [h1, h2]; rfl
theorem Z_tab {b n : Nat} (h : n = b + 4) : Z b true n = false := by
  subst h
  unfold Z
  have h1 : Nat.beq (b + 4) (b + 4) = true := Nat.beq_refl _
  rw [h1, show Nat.beq (b + 4) 0 = false from rfl]
  simp
theorem oth_ids {q : Nat} (hq : q < 4) {s : Nat → WS} {n : Nat} {o : VObj Unit} {hm : Bool} (h : hget (oth B p4 q s) n = some o) : Z (bq q) hm n = false ∧ ∀ m ∈ objIds o, Z (bq q) hm m = false := by
  have key : ∀ {A b D : Nat} {a b' d : WS}, 0 < A → 0 < b → 0 < D → (A + 10 ≤ bq q ∨ bq q + 10 ≤ A) → (b + 10 ≤ bq q ∨ bq q + 10 ≤ b) → (D + 10 ≤ bq q ∨ bq q + 10 ≤ D) → hget (wo B p4 A a ++ (wo B p4 b b' ++ wo B p4 D d)) n = some o → Z (bq q) hm n = false ∧ ∀ m ∈ objIds o, Z (bq q) hm m = false := by
    intro A b D a b' d p1 p2 p3 k1 k2 k3 h
    rw [hget_app (wo_some A a), hget_app (wo_some b b')] at h
    cases ha : hget (wo B p4 A a) n with
    | some o' => rw [ha] at h; injection h with h; subst h; obtain ⟨g1, g2⟩ := wo_ids A a n _ ha; exact ⟨Z_far p1 k1 g1, fun m hm => Z_far p1 k1 (g2 m hm)⟩
    | none =>
      rw [ha] at h
      cases hb : hget (wo B p4 b b') n with
      | some o' => rw [hb] at h; injection h with h; subst h; obtain ⟨g1, g2⟩ := wo_ids b b' n _ hb; exact ⟨Z_far p2 k2 g1, fun m hm => Z_far p2 k2 (g2 m hm)⟩
      | none =>
        rw [hb] at h
        obtain ⟨g1, g2⟩ := wo_ids D d n o h
        exact ⟨Z_far p3 k3 g1, fun m hm => Z_far p3 k3 (g2 m hm)⟩
  rcases q4 hq with rfl | rfl | rfl | rfl <;> exact key (by decide) (by decide) (by decide) (by decide) (by decide) (by decide) h
theorem hobj_ids {b : Nat} {h : HS} {n : Nat} {o : VObj Unit} (ho : hget (hobj b h) n = some o) : n = b + 4 ∧ objIds o = [] := by
  obtain ⟨p, hp, rfl, h2⟩ := hget_mem ho
  cases h <;> simp [hobj] at hp
  subst hp
  cases h2
  exact ⟨rfl, rfl⟩
theorem hobj_some (b : Nat) (h : HS) : ∀ p ∈ hobj b h, p.2.isSome = true := by
  intro p hp
  cases h <;> simp [hobj] at hp
  subst hp
  rfl
/-- What stays closed: the others' objects, and its table. -/
theorem hZF4 {q : Nat} (hq : q < 4) (h : HS) (s : Nat → WS) : ∀ n o, hget (hobj (bq q) h ++ oth B p4 q s) n = some o → Z (bq q) true n = false ∧ ∀ m ∈ objIds o, Z (bq q) true m = false := by
  intro n o ho
  rw [hget_app (hobj_some _ h)] at ho
  cases hh : hget (hobj (bq q) h) n with
  | some o' =>
    rw [hh] at ho; injection ho with ho; subst ho
    obtain ⟨g1, g2⟩ := hobj_ids hh
    exact ⟨Z_tab g1, fun m hm => by rw [g2] at hm; cases hm⟩
  | none => rw [hh] at ho; exact oth_ids hq ho
theorem hZF5 {q : Nat} (hq : q < 4) (s : Nat → WS) : ∀ n o, hget (oth B p4 q s) n = some o → Z (bq q) false n = false ∧ ∀ m ∈ objIds o, Z (bq q) false m = false := fun n o ho => oth_ids hq ho
theorem WL_at (s : Nat → WS) : ∀ (i : Nat) x, (WL s)[i]? = some x → i < 20 ∧ (∀ n ∈ vvIds x, inB (bq (i / 5)) n = true) ∧ (i % 5 = 4 → ∀ n ∈ vvIds x, n = bq (i / 5) + 4) := by
  intro i x hx
  have hi : i < 20 := by
    cases Nat.lt_or_ge i 20 with
    | inl h => exact h
    | inr h => rw [List.getElem?_eq_none (by show 20 ≤ i; exact h)] at hx; cases hx
  refine ⟨hi, ?_⟩
  have hw : ∀ k, k < 4 → ∀ j, i = 5 * k + j → j < 5 → x ∈ wc (bq k) (s k) ∧ (j = 4 → x = c4 (bq k) (s k)) := by
    intro k hk j e hj
    subst e
    rcases q4 hk with rfl | rfl | rfl | rfl <;> rcases (show j = 0 ∨ j = 1 ∨ j = 2 ∨ j = 3 ∨ j = 4 by omega) with rfl | rfl | rfl | rfl | rfl <;> (injection hx with hx; subst hx; exact ⟨by simp, fun h => by first | rfl | (exact absurd h (by decide))⟩)
  obtain ⟨h1, h2⟩ := hw (i / 5) (by omega) (i % 5) (by omega) (by omega)
  exact ⟨c_ids _ _ x h1, fun e n hn => c4_id _ _ n (h2 e ▸ hn)⟩
theorem mk_at {q : Nat} (hq : q < 4) {hm : Bool} : ∀ i : Nat, (mk q hm)[i]? = some true → i / 5 ≠ q ∨ (i % 5 = 4 ∧ hm = true) := by
  intro i h
  by_cases e : i / 5 = q
  · right
    have h5 : i % 5 < 5 := Nat.mod_lt _ (by decide)
    have hi : i = 5 * q + i % 5 := by omega
    generalize i % 5 = j at hi h5
    subst hi
    rcases q4 hq with rfl | rfl | rfl | rfl <;> rcases (show j = 0 ∨ j = 1 ∨ j = 2 ∨ j = 3 ∨ j = 4 by omega) with rfl | rfl | rfl | rfl | rfl <;> first | (cases h; done) | (injection h with h; exact ⟨rfl, h⟩)
  · exact .inl e
theorem hZL {q : Nat} (hq : q < 4) {hm : Bool} (s : Nat → WS) : ∀ (i : Nat) x, (mk q hm)[i]? = some true → (WL s)[i]? = some x → ∀ n ∈ vvIds x, Z (bq q) hm n = false := by
  intro i x h1 h2 n hn
  obtain ⟨hi, g1, g2⟩ := WL_at s i x h2
  rcases mk_at hq i h1 with h | ⟨h, rfl⟩
  · exact Z_far (by show 0 < 10 * (i / 5 + 1); omega) (by show 10 * (i / 5 + 1) + 10 ≤ 10 * (q + 1) ∨ 10 * (q + 1) + 10 ≤ 10 * (i / 5 + 1); omega) (g1 n hn)
  · by_cases e : i / 5 = q
    · rw [← e]; exact Z_tab (g2 h n hn)
    · exact Z_far (by show 0 < 10 * (i / 5 + 1); omega) (by show 10 * (i / 5 + 1) + 10 ≤ 10 * (q + 1) ∨ 10 * (q + 1) + 10 ≤ 10 * (i / 5 + 1); omega) (g1 n hn)
end
/-! ### What is asked of a worker -/
def HS.ok (K : Nat) : HS → Prop
  | .tab rows => 0 < rows.length ∧ rows.length ≤ K
  | _ => True
def WS.ok (K : Nat) : WS → Prop
  | .idle h _ _ => h.ok K
  | .load cl _ _ _ _ k h _ => (0 ≤ cl ∧ cl < 3) ∧ (0 ≤ k ∧ k ≤ 8) ∧ h.ok K
  | .take j cl _ _ _ k h _ => (1 ≤ j ∧ j ≤ 4) ∧ (0 ≤ cl ∧ cl < 3) ∧ (0 ≤ k ∧ k ≤ 8) ∧ h.ok K
  | .lay j cl _ _ _ k _ _ _ _ h _ => j ≤ 2 ∧ (0 ≤ cl ∧ cl < 3) ∧ (0 ≤ k ∧ k ≤ 9) ∧ h.ok K
  | .give j _ _ h _ => j ≤ 2 ∧ h.ok K
theorem HS.ok_mono {K K' : Nat} (hk : K ≤ K') {h : HS} (ho : h.ok K) : h.ok K' := by
  cases h with
  | tab rows => exact ⟨ho.1, Nat.le_trans ho.2 hk⟩
  | nil => trivial
  | es => trivial
theorem WS.ok_mono {K K' : Nat} (hk : K ≤ K') {s : WS} (ho : s.ok K) : s.ok K' := by
  cases s with
  | idle h vp vq => exact HS.ok_mono hk ho
  | load cl st w b e k h vq => exact ⟨ho.1, ho.2.1, HS.ok_mono hk ho.2.2⟩
  | take j cl st w e k h vq => exact ⟨ho.1, ho.2.1, ho.2.2.1, HS.ok_mono hk ho.2.2.2⟩
  | lay j cl st w e k hd fi la pw h vq => exact ⟨ho.1, ho.2.1, ho.2.2.1, HS.ok_mono hk ho.2.2.2⟩
  | give j b w h vp => exact ⟨ho.1, HS.ok_mono hk ho.2⟩
def upd (s : Nat → WS) (q : Nat) (x : WS) : Nat → WS := fun j => if j = q then x else s j
theorem codeOK (c : Code) : CodeOK MS Try.prog c (ev c) :=
  evCode_sound progOK (fun f args hp nid r h _ => evF_sound progOK (lookH_ok LCP.tabL_ok) 100 19 f args hp nid r h) 100 c
noncomputable abbrev three : List Code := [qt [true, true, false], qt [true, true, true, false], qt [true, true, true, true, false]]
abbrev R5 : List (Nat × Nat) := [(0, 0), (1, 1), (2, 2), (3, 3), (4, 4)]
/-- Behind a worker's step: the same words in both memories, workers that are as is asked. -/
def Mid (n : Int) (np : Nat) (i : Int) (ps : List (List Int)) (B p4 : Int) (c c2 : Int) (K : Nat) : VX → St MObj → Prop := fun x s => x = .normal ∧ ∃ (s' : Nat → WS) (xs' : List Int) (c' c2' t' : Int), (∃ js, s.tm = pre n np i ++ junk js 70 12) ∧
  renHP R5 s.hp R5 = some (base ps B p4 xs' c' c2' t' (.abs (.grp (WG B p4 s')))) ∧ renChk R5 s.hp 1 s.nid 5 = true ∧ 5 ≤ s.nid ∧ (xs'.length : Int) = 32 + 32 * B ∧ (∀ k, k < 4 → (s' k).ok (K + 1)) ∧ c ≤ c' ∧ c' ≤ c + 1 ∧ c2 ≤ c2' ∧ c2' ≤ c2 + 1
end Go.Proofs.Ytmncbdalaimmhaa.CarvePlays
