/-
  The engine, part Y: a memory (a struct of words, two counts, a trace) as one abstract object.
-/
import Derived.Test.YtlkanbgcghjhnaaEngX
namespace Go.Proofs.Ytlkanbgcghjhnaa.Eng
open Go Go.RowKit

/-- A memory: which struct it is, its words, how many accesses and traps there were. A group: objects with names of their own behind one that is named 0. -/
inductive MObj where
  | mem (ty : TypeId) (xs : List Int) (c t : Int)
  | grp (hp : HP Unit)
def emptySys : Sys Unit := ⟨fun _ _ _ _ => False, fun _ h => h⟩
abbrev ckA : List CK := [.int .i64, .int .i64, .bool]
def rowsW (xs : List Int) : List (List Int) := xs.map fun x => [x]
/-- The trace: none, or a table. -/
def TrOK {A : Type} (tyA : TypeId) (H : Nat → Option (VObj A)) (tr : VV) (x2 : Nat) (k : Nat) : Prop :=
  (tr = .nils ∧ H x2 = none) ∨ ∃ m ls, tr = .ts x2 (.lit 0) m none ∧ H x2 = some (.tab ckA ls tyA) ∧ m.val = ls.length ∧ (0 < ls.length ∧ ls.length ≤ k)
def grpHolds (g : HP Unit) (k : Nat) (F : Nat → Prop) (w : World) : Prop :=
  ∃ (ρ : Rho) (G : Fm) (p : Pl), ρ 0 = some p ∧ p.blk = k ∧ (∀ b o, hget g b = some o → OK emptySys 0 ρ (G b) b o w) ∧ (∀ b, hget g b = none → ∀ x, ¬G b x) ∧ (∀ b c x, G b x → G c x → b = c) ∧ ∀ x, F x ↔ ∃ b, G b x
theorem grpHolds.frame {g : HP Unit} {k : Nat} {F : Nat → Prop} {w w' : World} (hk : ∀ x, F x → w'.heap[x]? = w.heap[x]?) : grpHolds g k F w → grpHolds g k F w' := by
  rintro ⟨ρ, G, p, h1, h2, h3, h4, h5, h6⟩
  exact ⟨ρ, G, p, h1, h2, fun b o ho => (h3 b o ho).frame emptySys (Rho.le_refl ρ) rfl (fun x hx => hk x ((h6 x).2 ⟨b, hx⟩)) (fun x hx => absurd hx (Nat.not_lt_zero x)), h4, h5, h6⟩
def memHolds (tyW tyA : TypeId) : MObj → Nat → (Nat → Prop) → World → Prop
  | .grp g, k, F, w => grpHolds g k F w
  | .mem ty xs c t, k, F, w => ∃ (ρ : Rho) (G : Fm) (H : Nat → Option (VObj Unit)) (a x1 x2 : Nat) (p : Pl) (n : SN) (tr : VV) (cs ts : SI), cs.val = c ∧ ts.val = t ∧
    (∀ b o, H b = some o → OK emptySys 0 ρ (G b) b o w) ∧ (∀ b, H b = none → ∀ x, ¬G b x) ∧ (∀ b c x, G b x → G c x → b = c) ∧ a ≠ x1 ∧ a ≠ x2 ∧ x1 ≠ x2 ∧
    ρ a = some p ∧ p.blk = k ∧ H a = some (.cells [.ts x1 (.lit 0) n none, .int .i64 cs, .int .i64 ts, tr] ty) ∧ H x1 = some (.tab [.int .u64] (rowsW xs) tyW) ∧ n.val = xs.length ∧ TrOK tyA H tr x2 c.toNat ∧
    (∀ x, F x ↔ G a x ∨ G x1 x ∨ G x2 x)
def memSys (tyW tyA : TypeId) : Sys MObj where
  holds := memHolds tyW tyA
  frame := by
    intro a0 k F w w' hk hm
    cases a0 with
    | grp g => exact grpHolds.frame hk hm
    | mem ty xs c t =>
    obtain ⟨ρ, G, H, a, x1, x2, p, n, tr, cs, ts, hcs, hts, h1, h2, h3, n1, n2, n3, h5, h6, h7, h8, h9, h10, h11⟩ := hm
    -- only the three names matter
    let H' : Nat → Option (VObj Unit) := fun b => if b = a ∨ b = x1 ∨ b = x2 then H b else none
    let G' : Fm := fun b => if b = a ∨ b = x1 ∨ b = x2 then G b else fun _ => False
    have hH : ∀ {b}, (b = a ∨ b = x1 ∨ b = x2) → H' b = H b ∧ G' b = G b := fun {b} h => by constructor <;> simp only [H', G', if_pos h]
    have hN : ∀ {b}, ¬(b = a ∨ b = x1 ∨ b = x2) → H' b = none ∧ G' b = fun _ => False := fun {b} h => by constructor <;> simp only [H', G', if_neg h]
    have hG : ∀ b x, G' b x → (b = a ∨ b = x1 ∨ b = x2) ∧ G b x := fun b x hx => by
      by_cases hb : b = a ∨ b = x1 ∨ b = x2
      · rw [(hH hb).2] at hx; exact ⟨hb, hx⟩
      · rw [(hN hb).2] at hx; exact hx.elim
    have hF : ∀ b x, G' b x → F x := fun b x hx => by
      obtain ⟨hb, hy⟩ := hG b x hx
      rw [h11]
      rcases hb with hb | hb | hb
      · exact .inl (hb ▸ hy)
      · exact .inr (.inl (hb ▸ hy))
      · exact .inr (.inr (hb ▸ hy))
    refine ⟨ρ, G', H', a, x1, x2, p, n, tr, cs, ts, hcs, hts, fun b o ho => ?_, fun b hb x hx => ?_, fun b c x hb hc => h3 b c x (hG b x hb).2 (hG c x hc).2, n1, n2, n3, h5, h6,
      (hH (.inl rfl)).1.trans h7, (hH (.inr (.inl rfl))).1.trans h8, h9, ?_, fun x => ?_⟩
    · by_cases hb : b = a ∨ b = x1 ∨ b = x2
      · rw [(hH hb).1] at ho
        refine (h1 b o ho).frame emptySys (Rho.le_refl ρ) (hH hb).2 (fun x hx => hk x (hF b x (by rw [(hH hb).2]; exact hx))) (fun x hx => absurd hx (Nat.not_lt_zero x))
      · rw [(hN hb).1] at ho; cases ho
    · obtain ⟨hb', hx⟩ := hG b x hx
      rw [(hH hb').1] at hb
      exact h2 b hb x hx
    · unfold TrOK
      rw [(hH (.inr (.inr rfl))).1]
      exact h10
    · rw [h11, (hH (.inl rfl)).2, (hH (.inr (.inl rfl))).2, (hH (.inr (.inr rfl))).2]

section
variable {tyW tyA : TypeId} {P : Program}
/-- An object without abstract parts. -/
def toU : VObj MObj → VObj Unit
  | .cells l ty => .cells l ty
  | .tab ks xs ty => .tab ks xs ty
  | .rotab ks xs => .rotab ks xs
  | .abs _ => .abs ()
def ofU : VObj Unit → VObj MObj
  | .cells l ty => .cells l ty
  | .tab ks xs ty => .tab ks xs ty
  | .rotab ks xs => .rotab ks xs
  | .abs _ => .cells [] 0
theorem tab_toU {B : Nat} {ρ : Rho} {F : Nat → Prop} {b : Nat} {ks : List CK} {xs : List (List Int)} {ty : TypeId} {w : World} :
    OK (memSys tyW tyA) B ρ F b (.tab ks xs ty) w ↔ OK emptySys 0 ρ F b (.tab ks xs ty) w := Iff.rfl
theorem cells_toU {B : Nat} {ρ : Rho} {F : Nat → Prop} {b : Nat} {l : List VV} {ty : TypeId} {w : World} :
    OK (memSys tyW tyA) B ρ F b (.cells l ty) w ↔ OK emptySys 0 ρ F b (.cells l ty) w := Iff.rfl

/-- What of a heap is a memory. -/
structure IsMem (tyW tyA : TypeId) (H : Nat → Option (VObj MObj)) (a x1 x2 : Nat) (ty : TypeId) (xs : List Int) (c t : Int) : Prop where
  ne1 : a ≠ x1
  ne2 : a ≠ x2
  ne3 : x1 ≠ x2
  obj : ∃ n tr cs ts, H a = some (.cells [.ts x1 (.lit 0) n none, .int .i64 cs, .int .i64 ts, tr] ty) ∧ n.val = xs.length ∧ TrOK tyA H tr x2 c.toNat ∧ cs.val = c ∧ ts.val = t
  words : H x1 = some (.tab [.int .u64] (rowsW xs) tyW)

theorem mem_fold {B : Nat} {Z : Nat → Prop} {ρ : Rho} {F : Fm} {H : Nat → Option (VObj MObj)} {w : World} {a x1 x2 : Nat} {ty : TypeId} {xs : List Int} {c t : Int}
    (h : HR (memSys tyW tyA) B Z ρ F H w) (hm : IsMem tyW tyA H a x1 x2 ty xs c t) (G : Nat → Prop) (hG : ∀ x, G x ↔ F a x ∨ F x1 x ∨ F x2 x) :
    OK (memSys tyW tyA) B ρ G a (.abs (.mem ty xs c t)) w := by
  obtain ⟨n1, n2, n3, ⟨n, tr, cs, ts, ha, hn, htr, hcs, hts⟩, hw⟩ := hm
  obtain ⟨p, arr, hp, hf, hr, hl⟩ := h.live _ _ ha
  let H' : Nat → Option (VObj Unit) := fun b => if b = a ∨ b = x1 ∨ b = x2 then (H b).map toU else none
  let G' : Fm := fun b => if b = a ∨ b = x1 ∨ b = x2 then F b else fun _ => False
  have hH : ∀ {b}, (b = a ∨ b = x1 ∨ b = x2) → H' b = (H b).map toU ∧ G' b = F b := fun {b} h => by constructor <;> simp only [H', G', if_pos h]
  have hN : ∀ {b}, ¬(b = a ∨ b = x1 ∨ b = x2) → H' b = none ∧ G' b = fun _ => False := fun {b} h => by constructor <;> simp only [H', G', if_neg h]
  have hGG : ∀ b x, G' b x → (b = a ∨ b = x1 ∨ b = x2) ∧ F b x := fun b x hx => by
    by_cases hb : b = a ∨ b = x1 ∨ b = x2
    · rw [(hH hb).2] at hx; exact ⟨hb, hx⟩
    · rw [(hN hb).2] at hx; exact hx.elim
  refine ⟨p, hp, ρ, G', H', a, x1, x2, p, n, tr, cs, ts, hcs, hts, fun b o ho => ?_, fun b hb x hx => ?_, fun b c x hb hc => h.disj b c x (hGG b x hb).2 (hGG c x hc).2, n1, n2, n3, hp, rfl,
    by rw [(hH (.inl rfl)).1, ha]; rfl, by rw [(hH (.inr (.inl rfl))).1, hw]; rfl, hn, ?_, fun x => by rw [hG, (hH (.inl rfl)).2, (hH (.inr (.inl rfl))).2, (hH (.inr (.inr rfl))).2]⟩
  · by_cases hb : b = a ∨ b = x1 ∨ b = x2
    · rw [(hH hb).1] at ho
      obtain ⟨o', ho', rfl⟩ := Option.map_eq_some_iff.1 ho
      rw [(hH hb).2]
      rcases hb with rfl | rfl | rfl
      · rw [ha] at ho'; injection ho' with ho'; subst ho'; exact cells_toU.1 (h.live _ _ ha)
      · rw [hw] at ho'; injection ho' with ho'; subst ho'; exact tab_toU.1 (h.live _ _ hw)
      · rcases htr with ⟨_, hx2⟩ | ⟨m, ls, _, hx2, _⟩
        · rw [hx2] at ho'; cases ho'
        · rw [hx2] at ho'; injection ho' with ho'; subst ho'; exact tab_toU.1 (h.live _ _ hx2)
    · rw [(hN hb).1] at ho; cases ho
  · obtain ⟨hb', hx⟩ := hGG b x hx
    rw [(hH hb').1] at hb
    exact h.dead b (Option.map_eq_none_iff.1 hb) x hx
  · unfold TrOK
    rw [(hH (.inr (.inr rfl))).1]
    rcases htr with ⟨h1, h2⟩ | ⟨m, ls, h1, h2, h3, h4⟩
    · exact .inl ⟨h1, by rw [h2]; rfl⟩
    · exact .inr ⟨m, ls, h1, by rw [h2]; rfl, h3, h4⟩

/-- The three objects of a memory. -/
def memO (ty : TypeId) (n : Nat) (c t : Int) (x1 : Nat) (tr : VV) : VObj MObj := .cells [.ts x1 (.lit 0) (.sym n) none, .int .i64 (.sym c), .int .i64 (.sym t), tr] ty
/-- Its trace: none, or a table. -/
def TrIn (tyA : TypeId) (y2 : Nat) (k : Nat) (tr : VV) (o2 : Option (VObj MObj)) : Prop :=
  (tr = .nils ∧ o2 = none) ∨ ∃ ls : List (List Int), tr = .ts y2 (.lit 0) (.sym ls.length) none ∧ o2 = some (.tab ckA ls tyA) ∧ (0 < ls.length ∧ ls.length ≤ k)
def memH (H : Nat → Option (VObj MObj)) (a y1 y2 : Nat) (ty tyW : TypeId) (xs : List Int) (c t : Int) (tr : VV) (o2 : Option (VObj MObj)) : Nat → Option (VObj MObj) := fun b =>
  if b = a then some (memO ty xs.length c t y1 tr) else if b = y1 then some (.tab [.int .u64] (rowsW xs) tyW) else if b = y2 then o2 else H b
/-- A memory at the name 'a' becomes three objects, with two new names. -/
theorem mem_unfold {B : Nat} {Z : Nat → Prop} {ρ : Rho} {F : Fm} {H : Nat → Option (VObj MObj)} {w : World} {a y1 y2 : Nat} {ty : TypeId} {xs : List Int} {c t : Int}
    (h : HR (memSys tyW tyA) B Z ρ F H w) (ha : H a = some (.abs (.mem ty xs c t))) (hz1 : Z y1) (hz2 : Z y2) (hne : y1 ≠ y2) :
    ∃ (ρ' : Rho) (F' : Fm) (tr : VV) (o2 : Option (VObj MObj)), TrIn tyA y2 c.toNat tr o2 ∧ ρ.le ρ' ∧ (∀ b, b ≠ y1 → b ≠ y2 → ρ' b = ρ b) ∧ HR (memSys tyW tyA) B (fun b => Z b ∧ b ≠ y1 ∧ b ≠ y2) ρ' F' (memH H a y1 y2 ty tyW xs c t tr o2) w ∧ (∀ b, b ≠ a → b ≠ y1 → b ≠ y2 → F' b = F b) ∧
      (∀ x, F a x ↔ F' a x ∨ F' y1 x ∨ F' y2 x) ∧ inK .i64 c ∧ inK .i64 t ∧ xs.length ≤ 9223372036854775807 ∧ ∀ x ∈ xs, inK .u64 x := by
  obtain ⟨p, hp, ρl, G, Hl, al, xl1, xl2, pl, n, tr, cs', ts', rfl, rfl, h1, h2, h3, n1, n2, n3, h5, h6, h7, h8, h9, h10, h11⟩ := h.live _ _ ha
  have r1 := h.fresh y1 hz1
  have r2 := h.fresh y2 hz2
  have a1 : a ≠ y1 := fun e => by rw [← e, hp] at r1; cases r1
  have a2 : a ≠ y2 := fun e => by rw [← e, hp] at r2; cases r2
  let σ : Nat → Option Nat := fun b => if b = a then some al else if b = y1 then some xl1 else if b = y2 then some xl2 else none
  have s0 : σ a = some al := by simp [σ]
  have s1 : σ y1 = some xl1 := by simp [σ, Ne.symm a1]
  have s2 : σ y2 = some xl2 := by simp [σ, Ne.symm a2, Ne.symm hne]
  have sn : ∀ b, b ≠ a → b ≠ y1 → b ≠ y2 → σ b = none := fun b e1 e2 e3 => by simp [σ, e1, e2, e3]
  have sc : ∀ b l, σ b = some l → (b = a ∧ l = al) ∨ (b = y1 ∧ l = xl1) ∨ (b = y2 ∧ l = xl2) := fun b l hb => by
    simp only [σ] at hb
    split at hb
    · rename_i e; injection hb with hb; exact .inl ⟨e, hb.symm⟩
    · split at hb
      · rename_i e; injection hb with hb; exact .inr (.inl ⟨e, hb.symm⟩)
      · split at hb
        · rename_i e; injection hb with hb; exact .inr (.inr ⟨e, hb.symm⟩)
        · cases hb
  have sinj : ∀ b b' l, σ b = some l → σ b' = some l → b = b' := fun b b' l hb hb' => by
    rcases sc b l hb with ⟨rfl, rfl⟩ | ⟨rfl, rfl⟩ | ⟨rfl, rfl⟩ <;> rcases sc b' _ hb' with ⟨rfl, e⟩ | ⟨rfl, e⟩ | ⟨rfl, e⟩ <;> first | rfl | exact absurd e n1 | exact absurd e n2 | exact absurd e n3 | exact absurd e.symm n1 | exact absurd e.symm n2 | exact absurd e.symm n3
  have sF : ∀ b l x, σ b = some l → G l x → F a x := fun b l x hb hx => by
    rw [h11]
    rcases sc b l hb with ⟨_, rfl⟩ | ⟨_, rfl⟩ | ⟨_, rfl⟩
    · exact .inl hx
    · exact .inr (.inl hx)
    · exact .inr (.inr hx)
  let ρ' : Rho := fun b => if b = y1 then ρl xl1 else if b = y2 then ρl xl2 else ρ b
  let F' : Fm := fun b => match σ b with | some l => G l | none => F b
  have q0 : ρ' a = some p := by simp [ρ', a1, a2, hp]
  have q1 : ρ' y1 = ρl xl1 := by simp [ρ']
  have q2 : ρ' y2 = ρl xl2 := by simp [ρ', Ne.symm hne]
  have qn : ∀ b, b ≠ y1 → b ≠ y2 → ρ' b = ρ b := fun b e1 e2 => by simp [ρ', e1, e2]
  have hle : ρ.le ρ' := fun b q hq => by
    have e1 : b ≠ y1 := fun e => by rw [e, r1] at hq; cases hq
    have e2 : b ≠ y2 := fun e => by rw [e, r2] at hq; cases hq
    rw [qn b e1 e2]
    exact hq
  have fs : ∀ {b l}, σ b = some l → F' b = G l := fun {b l} hb => by simp only [F', hb]
  have fn : ∀ {b}, σ b = none → F' b = F b := fun {b} hb => by simp only [F', hb]
  obtain ⟨pc, arr, hpc, hfc, hwc, hlc⟩ := h1 _ _ h7
  rw [h5] at hpc
  injection hpc with hpc
  subst hpc
  have hpb : pl.blk = p.blk := h6
  obtain ⟨pw, arw, hpw, h0w, hfw, hww, hsw, htw⟩ := h1 _ _ h8
  -- the cells
  obtain ⟨v1, v2, v3, v4, hcs, g1, g2, g3, g4⟩ : ∃ v1 v2 v3 v4, arr.toList = [v1, v2, v3, v4] ∧ RV ρl (.ts xl1 (.lit 0) n none) v1 ∧ RV ρl (.int .i64 cs') v2 ∧ RV ρl (.int .i64 ts') v3 ∧ RV ρl tr v4 := by
    generalize arr.toList = cs at hlc
    match cs, hlc with
    | [v1, v2, v3, v4], hh => exact ⟨v1, v2, v3, v4, rfl, hh.1, hh.2.1, hh.2.2.1, hh.2.2.2.1⟩
    | [], hh => exact hh.elim
    | [_], hh => exact hh.2.elim
    | [_, _], hh => exact hh.2.2.elim
    | [_, _, _], hh => exact hh.2.2.2.elim
    | _ :: _ :: _ :: _ :: _ :: _, hh => exact hh.2.2.2.2.elim
  have hlen : xs.length ≤ 9223372036854775807 := by
    obtain ⟨pp, z1, z2, z3, z4⟩ := g1
    rw [h9] at z2
    exact z2
  have hin : ∀ x ∈ xs, inK .u64 x := fun x hx => by
    obtain ⟨i, hi⟩ := List.getElem?_of_mem hx
    obtain ⟨n', q1', q2', _⟩ := htw.2.2.2 i [x] (by unfold rowsW; rw [List.getElem?_map, hi]; rfl) 0 (.int .u64) rfl
    simp only [List.getElem?_cons_zero, Option.some.injEq] at q1'
    subst q1'
    exact q2'
  -- both kinds of traces
  have fin : ∀ (tr' : VV) (o2 : Option (VObj MObj)), RV ρ' tr' v4 → TrIn tyA y2 cs'.val.toNat tr' o2 → (∀ o, o2 = some o → OK (memSys tyW tyA) B ρ' (G xl2) y2 o w) → (o2 = none → ∀ x, ¬G xl2 x) →
      ∃ (ρ' : Rho) (F' : Fm) (tr : VV) (o2 : Option (VObj MObj)), TrIn tyA y2 cs'.val.toNat tr o2 ∧ ρ.le ρ' ∧ (∀ b, b ≠ y1 → b ≠ y2 → ρ' b = ρ b) ∧ HR (memSys tyW tyA) B (fun b => Z b ∧ b ≠ y1 ∧ b ≠ y2) ρ' F' (memH H a y1 y2 ty tyW xs cs'.val ts'.val tr o2) w ∧ (∀ b, b ≠ a → b ≠ y1 → b ≠ y2 → F' b = F b) ∧
      (∀ x, F a x ↔ F' a x ∨ F' y1 x ∨ F' y2 x) ∧ inK .i64 cs'.val ∧ inK .i64 ts'.val ∧ xs.length ≤ 9223372036854775807 ∧ ∀ x ∈ xs, inK .u64 x := by
    intro tr' o2 k1 k2 k3 k4
    generalize hH' : memH H a y1 y2 ty tyW xs cs'.val ts'.val tr' o2 = H'
    have t0 : H' a = some (memO ty xs.length cs'.val ts'.val y1 tr') := by simp [← hH', memH]
    have t1 : H' y1 = some (.tab [.int .u64] (rowsW xs) tyW) := by simp [← hH', memH, Ne.symm a1]
    have t2 : H' y2 = o2 := by simp [← hH', memH, Ne.symm a2, Ne.symm hne]
    have tn : ∀ b, b ≠ a → b ≠ y1 → b ≠ y2 → H' b = H b := fun b e1 e2 e3 => by simp [← hH', memH, e1, e2, e3]
    refine ⟨ρ', F', tr', o2, k2, hle, qn, ?_, fun b e1 e2 e3 => fn (sn b e1 e2 e3), fun x => ?_, g2.2, g3.2, hlen, hin⟩
    rotate_left
    · rw [h11, fs s0, fs s1, fs s2]
    rw [hH']
    refine ⟨fun b o ho => ?_, fun b hb x hx => ?_, fun b x hx => ?_, fun b b' x hx hx' => ?_, fun b hb => ?_, h.base⟩
    · by_cases e0 : b = a
      · subst e0
        rw [t0] at ho
        injection ho with ho
        subst ho
        rw [fs s0]
        refine ⟨p, arr, q0, fun x => by rw [← hpb]; exact hfc x, by rw [← hpb]; exact hwc, ?_⟩
        rw [hcs]
        refine ⟨?_, g2, g3, k1, trivial⟩
        obtain ⟨pp, z1, z2, z3, z4⟩ := g1
        rw [h9] at z2 z3 z4
        exact ⟨pp, q1.trans z1, z2, z3, z4⟩
      · by_cases e1 : b = y1
        · subst e1
          rw [t1] at ho
          injection ho with ho
          subst ho
          rw [fs s1]
          exact ⟨pw, arw, q1.trans hpw, h0w, hfw, hww, hsw, htw⟩
        · by_cases e2 : b = y2
          · subst e2
            rw [t2] at ho
            rw [fs s2]
            exact k3 o ho
          · rw [tn b e0 e1 e2] at ho
            rw [fn (sn b e0 e1 e2)]
            exact (h.live b o ho).frame _ hle rfl (fun _ _ => rfl) (fun _ _ => rfl)
    · by_cases e0 : b = a
      · subst e0; rw [t0] at hb; cases hb
      · by_cases e1 : b = y1
        · subst e1; rw [t1] at hb; cases hb
        · by_cases e2 : b = y2
          · subst e2
            rw [t2] at hb
            rw [fs s2] at hx
            exact k4 hb x hx
          · rw [tn b e0 e1 e2] at hb
            rw [fn (sn b e0 e1 e2)] at hx
            exact h.dead b hb x hx
    · cases hs : σ b with
      | some l => rw [fs hs] at hx; exact h.bound a x (sF b l x hs hx)
      | none => rw [fn hs] at hx; exact h.bound b x hx
    · cases hs : σ b with
      | some l =>
        rw [fs hs] at hx
        cases hs' : σ b' with
        | some l' =>
          rw [fs hs'] at hx'
          have := h3 l l' x hx hx'
          subst this
          exact sinj b b' l hs hs'
        | none =>
          rw [fn hs'] at hx'
          have := h.disj a b' x (sF b l x hs hx) hx'
          subst this
          rw [s0] at hs'; cases hs'
      | none =>
        rw [fn hs] at hx
        cases hs' : σ b' with
        | some l' =>
          rw [fs hs'] at hx'
          have := h.disj b a x hx (sF b' l' x hs' hx')
          subst this
          rw [s0] at hs; cases hs
        | none =>
          rw [fn hs'] at hx'
          exact h.disj b b' x hx hx'
    · rw [qn b hb.2.1 hb.2.2]
      exact h.fresh b hb.1
  rcases h10 with ⟨rfl, hx2⟩ | ⟨m, ls, rfl, hx2, hm, hlc2⟩
  · exact fin .nils none g4 (.inl ⟨rfl, rfl⟩) (fun o ho => by cases ho) (fun _ => h2 _ hx2)
  · obtain ⟨pp, z1, z2, z3, z4⟩ := g4
    obtain ⟨pt, art, hpt, h0t, hft, hwt, hst, htt⟩ := h1 _ _ hx2
    rw [hm] at z2 z3 z4
    refine fin (.ts y2 (.lit 0) (.sym ls.length) none) (some (.tab ckA ls tyA)) ⟨pp, q2.trans z1, z2, z3, z4⟩ (.inr ⟨ls, rfl, rfl, hlc2⟩) (fun o ho => ?_) (fun h => by cases h)
    injection ho with ho
    subst ho
    exact ⟨pt, art, q2.trans hpt, h0t, hft, hwt, hst, htt⟩

def memIn (ty tyW : TypeId) (xs : List Int) (c t : Int) (tr : VV) (o2 : Option (VObj MObj)) : HP MObj :=
  (0, some (memO ty xs.length c t 1 tr)) :: (1, some (.tab [.int .u64] (rowsW xs) tyW)) :: (match o2 with | none => [] | some o => [(2, some o)])
theorem hget_memIn {ty : TypeId} {xs : List Int} {c t : Int} {tr : VV} {o2 : Option (VObj MObj)} {H : Nat → Option (VObj MObj)} (hH : ∀ b, b ≠ 0 → H b = none) : memH H 0 1 2 ty tyW xs c t tr o2 = hget (memIn ty tyW xs c t tr o2) := by
  funext b
  match b with
  | 0 => cases o2 <;> rfl
  | 1 => cases o2 <;> rfl
  | 2 =>
    cases o2 with
    | none => rfl
    | some o => rfl
  | b + 3 =>
    have h1 : memH H 0 1 2 ty tyW xs c t tr o2 (b + 3) = H (b + 3) := by simp [memH]
    rw [h1, hH _ (by omega)]
    cases o2 <;> rfl
/-- A method of a memory, by what it does to the three objects. -/
theorem abs_calls {f : FuncId} {ev : Intr MObj} (hev : FunOKz (memSys tyW tyA) P f ev) {ty : TypeId} {rest : List SV} {xs xs' : List Int} {c t c' t' : Int} {v : SV} (hv : plainSV v = true)
    (hrun : inK .i64 c → inK .i64 t → xs.length ≤ 9223372036854775807 → (∀ x ∈ xs, inK .u64 x) → ∀ tr o2, TrIn tyA 2 c.toNat tr o2 →
      ∃ r x1 x2, (ev (.v (.ptr 0 0) :: rest.map symWS) (memIn ty tyW xs c t tr o2) 3).run = some r ∧ (∀ ρ x, RS ρ r.val x → RS ρ v x) ∧ IsMem tyW tyA (hget r.hp) 0 x1 x2 ty xs' c' t')
    {B : Nat} {ρ : Rho} {F : Fm} {w : World} {vargs : List Value} (h : HR (memSys tyW tyA) B (fun k => 1 ≤ k) ρ F (hget [(0, some (.abs (.mem ty xs c t)))]) w) (ha : F2 (RS ρ) (.v (.ptr 0 0) :: rest) vargs) :
    Calls P f vargs.toArray w fun e w' => ∃ x F', e = .returned x ∧ RS ρ v x ∧ HR (memSys tyW tyA) B (fun k => 1 ≤ k) ρ F' (hget [(0, some (.abs (.mem ty xs' c' t')))]) w' ∧ Chg (fun b => b ∈ [0]) ρ F w ρ F' w' := by
  obtain ⟨v0, vs, rfl, ha1, ha2⟩ : ∃ v0 vs, vargs = v0 :: vs ∧ RS ρ (.v (.ptr 0 0)) v0 ∧ F2 (RS ρ) rest vs := by
    cases vargs with
    | nil => exact ha.elim
    | cons v0 vs => exact ⟨v0, vs, rfl, ha.1, ha.2⟩
  have hnil : ∀ b, b ≠ 0 → hget [(0, some (VObj.abs (MObj.mem ty xs c t)))] b = none := fun b hb => by
    match b, hb with
    | b + 1, _ => rfl
  obtain ⟨ρu, Fu, tr, o2, htr, hle, hρu, hhr, hFu, hF, hc, ht, hn, hxs⟩ := mem_unfold (a := 0) (y1 := 1) (y2 := 2) (ty := ty) (xs := xs) (c := c) (t := t) h rfl (Nat.le_refl 1) (by show 1 ≤ 2; omega) (by decide)
  obtain ⟨r, x1, x2, hr, hval, hm⟩ := hrun hc ht hn hxs tr o2 htr
  rw [hget_memIn hnil] at hhr
  have hFe : ∀ b, b ≠ 0 → F b = fun _ => False := fun b hb => by
    funext x
    exact propext ⟨fun hx => h.dead b (hnil b hb) x hx, fun hx => hx.elim⟩
  have hFu0 : ∀ b x, Fu b x → F 0 x := fun b x hx => by
    rw [hF]
    by_cases e0 : b = 0
    · exact .inl (e0 ▸ hx)
    · by_cases e1 : b = 1
      · exact .inr (.inl (e1 ▸ hx))
      · by_cases e2 : b = 2
        · exact .inr (.inr (e2 ▸ hx))
        · rw [hFu b e0 e1 e2, hFe b e0] at hx
          exact hx.elim
  refine (hev _ _ 3 r hr B ρu Fu w (v0 :: vs) (hhr.mono fun b hb => ⟨by omega, by omega, by omega⟩) ⟨RS.mono hle ha1, (F2_map fun _ _ => RS_symW).2 (ha2.mono fun _ _ => RS.mono hle)⟩).mono ?_
  rintro e w' ⟨x, ρ1, F1, rfl, hx, h1, hch⟩
  let F' : Fm := fun b => if b = 0 then (fun x => F1 0 x ∨ F1 x1 x ∨ F1 x2 x) else fun _ => False
  have f0 : F' 0 = fun x => F1 0 x ∨ F1 x1 x ∨ F1 x2 x := by simp [F']
  have fn : ∀ b, b ≠ 0 → F' b = fun _ => False := fun b hb => by simp [F', hb]
  obtain ⟨p, hp, _⟩ := h.live 0 _ rfl
  have hp1 : ρ1 0 = some p := hch.rho 0 p (hle 0 p hp)
  have hok := mem_fold h1 hm (F' 0) (fun x => by rw [f0])
  have hown : ∀ x, F' 0 x → w.heap.size ≤ x ∨ F 0 x := fun x hx => by
    have key : ∀ d, F1 d x → w.heap.size ≤ x ∨ F 0 x := fun d hd => by
      by_cases hdd : d ∈ r.dirty
      · exact (hch.own d x hdd hd).imp id fun ⟨c, _, hcx⟩ => hFu0 c x hcx
      · rw [hch.keep d hdd] at hd
        exact .inr (hFu0 d x hd)
    rw [f0] at hx
    rcases hx with hx | hx | hx <;> exact key _ hx
  have hc' : Chg (fun b => b ∈ [0]) ρ F w ρ F' w' := by
    refine ⟨Rho.le_refl ρ, fun b hb => ?_, fun b x hb hx => ?_, hch.same, fun k hk hck => hch.heap k hk fun d _ hdx => hck 0 (by simp) (hFu0 d k hdx)⟩
    · have hb : b ≠ 0 := fun e => hb (by simp [e])
      rw [fn b hb, hFe b hb]
    · have hb : b = 0 := by simpa using hb
      subst hb
      exact (hown x hx).imp id fun h => ⟨0, by simp, h⟩
  refine ⟨x, F', rfl, plainSV_any hv (hval _ _ hx), ⟨fun b o ho => ?_, fun b hb x hx => ?_, fun b x hx => ?_, fun b b' x hx hx' => ?_, h.fresh, Nat.le_trans h.base hch.same.size⟩, hc'⟩
  · match b with
    | 0 =>
      injection ho with ho
      subst ho
      obtain ⟨q, hq, hh⟩ := hok
      rw [hp1] at hq
      injection hq with hq
      subst hq
      exact ⟨p, hp, hh⟩
    | b + 1 => cases ho
  · match b with
    | 0 => cases hb
    | b + 1 => rw [fn _ (by omega)] at hx; exact hx
  · match b with
    | 0 =>
      rw [f0] at hx
      rcases hx with hx | hx | hx <;> exact h1.bound _ x hx
    | b + 1 => rw [fn _ (by omega)] at hx; exact hx.elim
  · match b, b' with
    | 0, 0 => rfl
    | 0, b' + 1 => rw [fn _ (by omega)] at hx'; exact hx'.elim
    | b + 1, _ => rw [fn _ (by omega)] at hx; exact hx.elim
/-- A memory is made. -/
theorem abs_new {f : FuncId} {ev : Intr MObj} (hev : FunOKz (memSys tyW tyA) P f ev) {ty : TypeId} {args : List SV} {xs : List Int} {c t : Int} {r : CR MObj} {a x1 x2 : Nat} {e : VV}
    (hr : (ev args [] 0).run = some r) (hval : r.val = .t [.one (.ptr a 0), .one e]) (hpl : plainVV e = true) (hm : IsMem tyW tyA (hget r.hp) a x1 x2 ty xs c t)
    {B : Nat} {ρ : Rho} {F : Fm} {w : World} {vargs : List Value} (h : HR (memSys tyW tyA) B (fun k => 0 ≤ k) ρ F (hget []) w) (ha : F2 (RS ρ) args vargs) :
    Calls P f vargs.toArray w fun en w' => ∃ x ρ' F', en = .returned x ∧ RS ρ' (.t [.one (.ptr 0 0), .one e]) x ∧ HR (memSys tyW tyA) B (Zm (fun k => 0 ≤ k) 0 1) ρ' F' (hget [(0, some (.abs (.mem ty xs c t)))]) w' ∧ Chg (fun b => b ∈ [0]) ρ F w ρ' F' w' := by
  refine (hev args [] 0 r hr B ρ F w vargs h ha).mono ?_
  rintro en w' ⟨x, ρ1, F1, rfl, hx, h1, hch⟩
  have hρ : ∀ b, ρ b = none := fun b => h.fresh b (Nat.zero_le b)
  have hFe : ∀ b, F b = fun _ => False := fun b => by
    funext x
    exact propext ⟨fun hx => h.dead b rfl x hx, fun hx => hx.elim⟩
  let ρ' : Rho := fun b => if b = 0 then ρ1 a else none
  let F' : Fm := fun b => if b = 0 then (fun x => F1 a x ∨ F1 x1 x ∨ F1 x2 x) else fun _ => False
  have r0 : ρ' 0 = ρ1 a := by simp [ρ']
  have rn : ∀ b, b ≠ 0 → ρ' b = none := fun b hb => by simp [ρ', hb]
  have f0 : F' 0 = fun x => F1 a x ∨ F1 x1 x ∨ F1 x2 x := by simp [F']
  have fn : ∀ b, b ≠ 0 → F' b = fun _ => False := fun b hb => by simp [F', hb]
  have hok := mem_fold h1 hm (F' 0) (fun x => by rw [f0])
  have hsz : ∀ d x, F1 d x → w.heap.size ≤ x := fun d x hx => by
    by_cases hd : d ∈ r.dirty
    · rcases hch.own d x hd hx with h2 | ⟨c, _, hc⟩
      · exact h2
      · rw [hFe] at hc; exact hc.elim
    · rw [hch.keep d hd, hFe] at hx; exact hx.elim
  have hc' : Chg (fun b => b ∈ [0]) ρ F w ρ' F' w' := by
    refine ⟨fun b p hp => (by rw [hρ] at hp; cases hp), fun b hb => ?_, fun b x hb hx => .inl ?_, hch.same, fun k hk hck => hch.heap k hk fun d _ hdx => by rw [hFe] at hdx; exact hdx⟩
    · have hb : b ≠ 0 := fun e => hb (by simp [e])
      rw [fn b hb, hFe b]
    · have hb : b = 0 := by simpa using hb
      subst hb
      rw [f0] at hx
      rcases hx with hx | hx | hx <;> exact hsz _ x hx
  rw [hval] at hx
  obtain ⟨vs, hvs, hx1, hx2, hx3⟩ : ∃ vs : List Value, x = .tuple vs.toArray ∧ ∃ v1 v2, vs = [v1, v2] ∧ RV ρ1 (.ptr a 0) v1 ∧ RV ρ1 e v2 := by
    obtain ⟨vs, hvs, hl⟩ := hx
    match vs, hl with
    | [v1, v2], hl => exact ⟨_, hvs, v1, v2, rfl, hl.1, hl.2.1⟩
    | [], hl => exact hl.elim
    | [_], hl => exact hl.2.elim
    | _ :: _ :: _ :: _, hl => exact hl.2.2.elim
  obtain ⟨rfl, g1, g2⟩ := hx3
  refine ⟨x, ρ', F', rfl, ⟨_, hvs, ?_, plainVV_any hpl g2, trivial⟩, ⟨fun b o ho => ?_, fun b hb x hx => ?_, fun b x hx => ?_, fun b b' x hx hx' => ?_, fun b hb => ?_, Nat.le_trans h.base hch.same.size⟩, hc'⟩
  · obtain ⟨p, hp, hv⟩ := g1
    exact ⟨p, r0.trans hp, hv⟩
  · match b with
    | 0 =>
      injection ho with ho
      subst ho
      obtain ⟨q, hq, hh⟩ := hok
      exact ⟨q, r0.trans hq, hh⟩
    | b + 1 => cases ho
  · match b with
    | 0 => cases hb
    | b + 1 => rw [fn _ (by omega)] at hx; exact hx
  · match b with
    | 0 =>
      rw [f0] at hx
      rcases hx with hx | hx | hx <;> exact h1.bound _ x hx
    | b + 1 => rw [fn _ (by omega)] at hx; exact hx.elim
  · match b, b' with
    | 0, 0 => rfl
    | 0, b' + 1 => rw [fn _ (by omega)] at hx'; exact hx'.elim
    | b + 1, _ => rw [fn _ (by omega)] at hx; exact hx.elim
  · have : b ≠ 0 := fun e => hb.2 (by omega)
    exact rn b this
/-- What a method of a memory comes to: the answer, the words, the counts. -/
structure MR where
  v : SV
  xs : List Int
  c : Int
  t : Int
def methI (T : TypeId) (g : List SV → List Int → Int → Int → Tr MR) : Intr MObj := fun args hp nid => match args, hp, nid with
  | .s (.one (.ptr 0 0)) :: rest, [(0, some (.abs (.mem ty xs c t)))], 1 => .chk (Nat.beq ty T) "memory: type" <| (g rest xs c t).bind fun q => .ok ⟨q.v, [(0, some (.abs (.mem ty q.xs q.c q.t)))], [0], 1⟩
  | _, _, _ => .no "memory: arguments"
theorem funOK_meth {f : FuncId} {T : TypeId} {g : List SV → List Int → Int → Int → Tr MR} {ev : Intr MObj} (hev : FunOKz (memSys tyW tyA) P f ev)
    (h : ∀ rest xs c t q, (g rest xs c t).run = some q → plainSV q.v = true ∧ (inK .i64 c → inK .i64 t → xs.length ≤ 9223372036854775807 → (∀ x ∈ xs, inK .u64 x) → ∀ tr o2, TrIn tyA 2 c.toNat tr o2 →
      ∃ r x1 x2, (ev (.v (.ptr 0 0) :: rest.map symWS) (memIn T tyW xs c t tr o2) 3).run = some r ∧ (∀ ρ x, RS ρ r.val x → RS ρ q.v x) ∧ IsMem tyW tyA (hget r.hp) 0 x1 x2 T q.xs q.c q.t)) :
    FunOK (memSys tyW tyA) P f (renI (methI T g)) := by
  refine funOK_ren ?_
  intro args hp nid r hrun B ρ F w vargs hhr hargs
  unfold methI at hrun
  split at hrun
  · rename_i rest ty xs c t
    rw [Tr.run_chk, Tr.run_bind] at hrun
    obtain ⟨hT, q, hq, hrun⟩ := hrun
    obtain rfl := Nat.eq_of_beq_eq_true hT
    rw [Tr.run_ok] at hrun
    subst hrun
    obtain ⟨h1, h2⟩ := h rest xs c t q hq
    refine (abs_calls hev h1 h2 hhr hargs).mono ?_
    rintro e w' ⟨x, F', rfl, g1, g2, g3⟩
    refine ⟨x, ρ, F', rfl, g1, ?_, g3⟩
    rw [Zm_self]
    exact g2
  · cases hrun
theorem tabAt_rowsW (xs : List Int) (i : Nat) : tabAt (rowsW xs) i 0 = xs.getD i 0 := by
  unfold tabAt rowsW
  have : (xs.map fun x => [x]).getD i [] = match xs[i]? with | some x => [x] | none => [] := by
    rw [List.getD_eq_getElem?_getD, List.getElem?_map]
    cases xs[i]? <;> rfl
  rw [this, List.getD_eq_getElem?_getD (l := xs)]
  cases xs[i]? <;> rfl
theorem rowsW_length (xs : List Int) : (rowsW xs).length = xs.length := by simp [rowsW]
theorem rowsW_set (xs : List Int) (i : Nat) (w : Int) (h : i < xs.length) : (rowsW xs).set i (splice ((rowsW xs).getD i []) 0 [w]) = rowsW (xs.set i w) := by
  have : (rowsW xs).getD i [] = [xs[i]] := by
    unfold rowsW
    rw [List.getD_eq_getElem?_getD, List.getElem?_map, List.getElem?_eq_getElem h]
    rfl
  rw [this]
  unfold rowsW
  rw [List.map_set]
  rfl
end
end Go.Proofs.Ytlkanbgcghjhnaa.Eng
