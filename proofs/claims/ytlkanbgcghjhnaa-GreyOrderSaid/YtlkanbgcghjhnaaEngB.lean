/-
  The engine, part B: what the virtual machine's values, objects and heaps say of the model's; how such facts live on behind a step.
-/
import Derived.Test.YtlkanbgcghjhnaaEngA
import Derived.RowKit3
import Derived.ChangeKeysEq
namespace Go.Proofs.Ytlkanbgcghjhnaa.Eng
open Go

/-! ### Two lists, pairwise -/
def F2 {α β : Type} (R : α → β → Prop) : List α → List β → Prop
  | [], [] => True
  | a :: as, b :: bs => R a b ∧ F2 R as bs
  | _, _ => False
namespace F2
variable {α β : Type} {R R' : α → β → Prop}
theorem length : ∀ {l : List α} {m : List β}, F2 R l m → l.length = m.length
  | [], [], _ => rfl
  | _ :: _, _ :: _, h => by simp [length h.2]
  | [], _ :: _, h => h.elim
  | _ :: _, [], h => h.elim
theorem mono (hr : ∀ a b, R a b → R' a b) : ∀ {l : List α} {m : List β}, F2 R l m → F2 R' l m
  | [], [], _ => trivial
  | _ :: _, _ :: _, h => ⟨hr _ _ h.1, mono hr h.2⟩
  | [], _ :: _, h => h.elim
  | _ :: _, [], h => h.elim
theorem append : ∀ {l : List α} {m : List β} {l' : List α} {m' : List β}, F2 R l m → F2 R l' m' → F2 R (l ++ l') (m ++ m')
  | [], [], _, _, _, h' => h'
  | _ :: _, _ :: _, _, _, h, h' => ⟨h.1, append h.2 h'⟩
  | [], _ :: _, _, _, h, _ => h.elim
  | _ :: _, [], _, _, h, _ => h.elim
theorem get : ∀ {l : List α} {m : List β} (_ : F2 R l m) (i : Nat) {a : α}, l[i]? = some a → ∃ b, m[i]? = some b ∧ R a b
  | _ :: _, b :: _, h, 0, a, ha => ⟨b, rfl, by simp at ha; exact ha ▸ h.1⟩
  | _ :: _, _ :: _, h, i + 1, a, ha => by simpa using get h.2 i (by simpa using ha)
  | [], [], _, i, a, ha => by simp at ha
  | [], _ :: _, h, _, _, _ => h.elim
  | _ :: _, [], h, _, _, _ => h.elim
theorem getNone {l : List α} {m : List β} (h : F2 R l m) (i : Nat) (ha : l[i]? = none) : m[i]? = none := by
  rw [List.getElem?_eq_none_iff] at *
  rw [← h.length]; exact ha
theorem drop : ∀ {l : List α} {m : List β} (_ : F2 R l m) (i : Nat), F2 R (l.drop i) (m.drop i)
  | _, _, h, 0 => h
  | _ :: _, _ :: _, h, i + 1 => drop h.2 i
  | [], [], _, _ + 1 => trivial
  | [], _ :: _, h, _ => h.elim
  | _ :: _, [], h, _ => h.elim
theorem take : ∀ {l : List α} {m : List β} (_ : F2 R l m) (i : Nat), F2 R (l.take i) (m.take i)
  | _, _, _, 0 => trivial
  | _ :: _, _ :: _, h, i + 1 => ⟨h.1, take h.2 i⟩
  | [], [], _, _ + 1 => trivial
  | [], _ :: _, h, _ => h.elim
  | _ :: _, [], h, _ => h.elim
theorem map {γ δ : Type} {S : γ → δ → Prop} (f : γ → α) (g : δ → β) (hs : ∀ c d, S c d → R (f c) (g d)) : ∀ {l : List γ} {m : List δ}, F2 S l m → F2 R (l.map f) (m.map g)
  | [], [], _ => trivial
  | _ :: _, _ :: _, h => ⟨hs _ _ h.1, map f g hs h.2⟩
  | [], _ :: _, h => h.elim
  | _ :: _, [], h => h.elim
theorem of_map {γ : Type} (f : γ → α) (g : γ → β) : ∀ {l : List γ} (_ : ∀ c ∈ l, R (f c) (g c)), F2 R (l.map f) (l.map g)
  | [], _ => trivial
  | c :: _, h => ⟨h c (by simp), of_map f g fun c hc => h c (by simp [hc])⟩
theorem replicate (n : Nat) {a : α} {b : β} (h : R a b) : F2 R (List.replicate n a) (List.replicate n b) := by
  induction n with
  | zero => trivial
  | succ n ih => exact ⟨h, ih⟩
theorem set : ∀ {l : List α} {m : List β} (_ : F2 R l m) (i : Nat) {a : α} {b : β}, R a b → F2 R (l.set i a) (m.set i b)
  | _ :: _, _ :: _, h, 0, _, _, hab => ⟨hab, h.2⟩
  | _ :: _, _ :: _, h, i + 1, _, _, hab => ⟨h.1, set h.2 i hab⟩
  | [], [], _, _, _, _, _ => trivial
  | [], _ :: _, h, _, _, _, _ => h.elim
  | _ :: _, [], h, _, _, _, _ => h.elim
theorem exists_of_forall {l : List α} (h : ∀ a ∈ l, ∃ b, R a b) : ∃ m, F2 R l m := by
  induction l with
  | nil => exact ⟨[], trivial⟩
  | cons a l ih =>
    obtain ⟨b, hb⟩ := h a (by simp)
    obtain ⟨m, hm⟩ := ih fun c hc => h c (by simp [hc])
    exact ⟨b :: m, hb, hm⟩
end F2

/-! ### Values -/
def inK (k : IntKind) (n : Int) : Prop := kmin k ≤ n ∧ n ≤ kmax k
theorem kmin_eq (k : IntKind) : kmin k = k.min := by cases k <;> rfl
theorem kmax_eq (k : IntKind) : kmax k = k.max := by cases k <;> rfl
theorem wrap_inK (k : IntKind) (n : Int) : inK k (k.wrap n) := by
  unfold inK IntKind.wrap
  cases k <;> simp only [IntKind.bits, IntKind.signed, kmin, kmax] <;> (try simp) <;> (try split) <;> omega
def CK.fits : CK → Int → Prop
  | .int k, n => inK k n
  | .bool, n => n = 0 ∨ n = 1
/-- Where an object lies: its block, where it begins there, how great a row of it is, how many rows there are room for. -/
structure Pl where
  blk : Nat
  off0 : Nat
  sz : Nat
  rows : Nat
abbrev Rho := Nat → Option Pl

def RP (ρ : Rho) (q : Nat × Nat) (v : Value) : Prop := ∃ p, ρ q.1 = some p ∧ v = .pointer (some ⟨p.blk, q.2, none⟩)
/-- A table slice's real capacity. -/
def tsCap (p : Pl) (r : SN) (cap : Option SN) : Nat := match cap with
  | some c => c.val
  | none => p.rows - r.val
/-- What a virtual value of one cell says of a value. -/
def RV (ρ : Rho) : VV → Value → Prop
  | .int k n, v => v = .int k n.val ∧ inK k n.val
  | .bool b, v => v = .bool b.val
  | .ptr b off, v => RP ρ (b, off) v
  | .nilp, v => v = .pointer none
  | .tptr b r c, v => ∃ p, ρ b = some p ∧ v = .pointer (some ⟨p.blk, p.off0 + r.val * p.sz + c, none⟩)
  | .sl b off len cap, v => ∃ p, ρ b = some p ∧ v = .slice (some ⟨p.blk, off, none⟩) len cap
  | .ts b r len cap, v => ∃ p, ρ b = some p ∧ len.val ≤ 9223372036854775807 ∧ len.val ≤ tsCap p r cap ∧ v = .slice (some ⟨p.blk, p.off0 + r.val * p.sz, none⟩) len.val (tsCap p r cap)
  | .nils, v => v = .slice none 0 0
  | .es f, v => ∃ a c, v = .slice (some a) 0 c ∧ (f = true → c = 0)
  | .an b len, v => ∃ o cap, v = .slice o len.val cap ∧ len.val ≤ 9223372036854775807 ∧ (o = none → len.val = 0 ∧ cap = 0) ∧ (0 < len.val → ∃ p, ρ b = some p ∧ o = some ⟨p.blk, p.off0, none⟩)
  | .fn f a c, v => ∃ va vc, F2 (RP ρ) a va ∧ F2 (RP ρ) c vc ∧ v = .func (.func f) va.toArray vc.toArray
  | .nilf, v => v = .nilFunc
  | .raw x, v => v = x ∧ x.oneCell' = true
def R1 (ρ : Rho) : S1 → Value → Prop
  | .one x, v => RV ρ x v
  | .agg l, v => ∃ cs : List Value, v = .agg cs.toArray ∧ F2 (RV ρ) l cs
def RS (ρ : Rho) : SV → Value → Prop
  | .s x, v => R1 ρ x v
  | .t l, v => ∃ vs : List Value, v = .tuple vs.toArray ∧ F2 (R1 ρ) l vs

def Rho.le (ρ ρ' : Rho) : Prop := ∀ b p, ρ b = some p → ρ' b = some p
theorem Rho.le_refl (ρ : Rho) : ρ.le ρ := fun _ _ h => h
theorem Rho.le_trans {a b c : Rho} (h : a.le b) (k : b.le c) : a.le c := fun x p hp => k x p (h x p hp)

theorem RP.mono {ρ ρ' : Rho} (h : ρ.le ρ') {q : Nat × Nat} {v : Value} : RP ρ q v → RP ρ' q v
  | ⟨p, hp, hv⟩ => ⟨p, h _ _ hp, hv⟩
theorem RV.mono {ρ ρ' : Rho} (h : ρ.le ρ') : ∀ {x : VV} {v : Value}, RV ρ x v → RV ρ' x v
  | .int _ _, _, hv => hv
  | .bool _, _, hv => hv
  | .ptr _ _, _, hv => RP.mono h hv
  | .nilp, _, hv => hv
  | .tptr _ _ _, _, ⟨p, hp, hv⟩ => ⟨p, h _ _ hp, hv⟩
  | .sl _ _ _ _, _, ⟨p, hp, hv⟩ => ⟨p, h _ _ hp, hv⟩
  | .ts _ _ _ _, _, ⟨p, hp, hl, hc, hv⟩ => ⟨p, h _ _ hp, hl, hc, hv⟩
  | .nils, _, hv => hv
  | .es _, _, hv => hv
  | .an _ _, _, ⟨o, cap, h1, h2, h3, h4⟩ => ⟨o, cap, h1, h2, h3, fun hl => by obtain ⟨p, hp, ho⟩ := h4 hl; exact ⟨p, h _ _ hp, ho⟩⟩
  | .fn _ _ _, _, ⟨va, vc, ha, hc, hv⟩ => ⟨va, vc, ha.mono fun _ _ => RP.mono h, hc.mono fun _ _ => RP.mono h, hv⟩
  | .nilf, _, hv => hv
  | .raw _, _, hv => hv
theorem R1.mono {ρ ρ' : Rho} (h : ρ.le ρ') : ∀ {x : S1} {v : Value}, R1 ρ x v → R1 ρ' x v
  | .one _, _, hv => RV.mono h hv
  | .agg _, _, ⟨cs, hv, hl⟩ => ⟨cs, hv, hl.mono fun _ _ => RV.mono h⟩
theorem RS.mono {ρ ρ' : Rho} (h : ρ.le ρ') : ∀ {x : SV} {v : Value}, RS ρ x v → RS ρ' x v
  | .s _, _, hv => R1.mono h hv
  | .t _, _, ⟨vs, hv, hl⟩ => ⟨vs, hv, hl.mono fun _ _ => R1.mono h⟩

theorem RV.one {ρ : Rho} : ∀ {x : VV} {v : Value}, RV ρ x v → v.oneCell' = true
  | .int _ _, _, ⟨h, _⟩ => by subst h; rfl
  | .bool _, _, h => by subst h; rfl
  | .ptr _ _, _, ⟨_, _, h⟩ => by subst h; rfl
  | .nilp, _, h => by subst h; rfl
  | .tptr _ _ _, _, ⟨_, _, h⟩ => by subst h; rfl
  | .sl _ _ _ _, _, ⟨_, _, h⟩ => by subst h; rfl
  | .ts _ _ _ _, _, ⟨_, _, _, _, h⟩ => by subst h; rfl
  | .nils, _, h => by subst h; rfl
  | .es _, _, ⟨_, _, h, _⟩ => by subst h; rfl
  | .an _ _, _, ⟨_, _, h, _⟩ => by subst h; rfl
  | .fn _ _ _, _, ⟨_, _, _, _, h⟩ => by subst h; rfl
  | .nilf, _, h => by subst h; rfl
  | .raw _, _, ⟨h, h'⟩ => by subst h; exact h'
theorem one_cells {v : Value} (h : v.oneCell' = true) : v.cells = #[v] := by
  cases v <;> first | rfl | (simp [Value.oneCell'] at h)
theorem R1.cells {ρ : Rho} : ∀ {x : S1} {v : Value}, R1 ρ x v → F2 (RV ρ) x.cells v.cells.toList
  | .one x, v, h => by
    rw [one_cells (RV.one h)]
    exact ⟨h, trivial⟩
  | .agg l, v, ⟨cs, hv, hl⟩ => by subst hv; exact hl

/-! ### Objects -/
/-- What the abstract objects are: what each says of the world, in blocks of its own. -/
structure Sys (A : Type) where
  holds : A → Nat → (Nat → Prop) → World → Prop
  frame : ∀ {a : A} {k : Nat} {F : Nat → Prop} {w w' : World}, (∀ x, F x → w'.heap[x]? = w.heap[x]?) → holds a k F w → holds a k F w'

section
variable {A : Type} (S : Sys A)

/-- The cells of a table, and how they lie. -/
def TabCells (ks : List CK) (xs : List (List Int)) (p : Pl) (arr : Array Value) : Prop :=
  p.sz = ks.length ∧ xs.length ≤ p.rows ∧ p.off0 + p.rows * p.sz ≤ arr.size ∧
  ∀ i r, xs[i]? = some r → ∀ j k, ks[j]? = some k → ∃ n, r[j]? = some n ∧ k.fits n ∧ arr[p.off0 + i * p.sz + j]? = some (k.real n)

/-- What an object says of the world: 'F' are its own blocks; what is below 'B' is nobody's to write. -/
def OK (B : Nat) (ρ : Rho) (F : Nat → Prop) (b : Nat) (o : VObj A) (w : World) : Prop :=
  match o with
  | .cells l ty => ∃ p arr, ρ b = some p ∧ (∀ x, F x ↔ x = p.blk) ∧ w.heap[p.blk]? = some (.cells arr ty (0, 0)) ∧ F2 (RV ρ) l arr.toList
  | .tab ks xs ty => ∃ p arr, ρ b = some p ∧ p.off0 = 0 ∧ (∀ x, F x ↔ x = p.blk) ∧ w.heap[p.blk]? = some (.cells arr ty (0, 0)) ∧ arr.size = p.rows * p.sz ∧ TabCells ks xs p arr
  | .rotab ks xs => ∃ p, ρ b = some p ∧ (∀ x, ¬F x) ∧ p.sz = ks.length ∧ (xs ≠ [] → ∃ arr ty fr, p.blk < B ∧ w.heap[p.blk]? = some (.cells arr ty fr) ∧ TabCells ks xs p arr)
  | .abs a => ∃ p, ρ b = some p ∧ S.holds a p.blk F w

abbrev Fm := Nat → Nat → Prop

theorem OK.frame {B : Nat} {ρ ρ' : Rho} {F F' : Nat → Prop} {b : Nat} {o : VObj A} {w w' : World} (hr : ρ.le ρ') (hF : F' = F)
    (hk : ∀ x, F x → w'.heap[x]? = w.heap[x]?) (hB : ∀ x, x < B → w'.heap[x]? = w.heap[x]?) (h : OK S B ρ F b o w) : OK S B ρ' F' b o w' := by
  subst hF
  cases o with
  | cells l ty =>
    obtain ⟨p, arr, hp, hf, hw, hl⟩ := h
    exact ⟨p, arr, hr _ _ hp, hf, by rw [hk _ ((hf _).2 rfl)]; exact hw, hl.mono fun _ _ => RV.mono hr⟩
  | tab ks xs ty =>
    obtain ⟨p, arr, hp, h0, hf, hw, hs, ht⟩ := h
    exact ⟨p, arr, hr _ _ hp, h0, hf, by rw [hk _ ((hf _).2 rfl)]; exact hw, hs, ht⟩
  | rotab ks xs =>
    obtain ⟨p, hp, hf, hs, ht⟩ := h
    refine ⟨p, hr _ _ hp, hf, hs, fun hne => ?_⟩
    obtain ⟨arr, ty, fr, hlt, hw, ht⟩ := ht hne
    exact ⟨arr, ty, fr, hlt, by rw [hB _ hlt]; exact hw, ht⟩
  | abs a =>
    obtain ⟨p, hp, hh⟩ := h
    exact ⟨p, hr _ _ hp, S.frame hk hh⟩

/-! ### Heaps -/
/-- A virtual heap (as a function) says of the world. 'Z': names that are not given yet. -/
structure HR (B : Nat) (Z : Nat → Prop) (ρ : Rho) (F : Fm) (H : Nat → Option (VObj A)) (w : World) : Prop where
  live : ∀ b o, H b = some o → OK S B ρ (F b) b o w
  dead : ∀ b, H b = none → ∀ x, ¬F b x
  bound : ∀ b x, F b x → B ≤ x ∧ x < w.heap.size
  disj : ∀ b c x, F b x → F c x → b = c
  fresh : ∀ b, Z b → ρ b = none
  base : B ≤ w.heap.size

/-- Two worlds that part in their heaps and draws alone; none of the blocks that were there is gone. -/
structure Same (w w' : World) : Prop where
  os : w'.os = w.os
  tape : w'.tape = w.tape
  output : w'.output = w.output
  size : w.heap.size ≤ w'.heap.size
theorem Same.refl (w : World) : Same w w := ⟨rfl, rfl, rfl, Nat.le_refl _⟩
theorem Same.trans {a b c : World} (h : Same a b) (k : Same b c) : Same a c := ⟨k.os.trans h.os, k.tape.trans h.tape, k.output.trans h.output, Nat.le_trans h.size k.size⟩

/-- What became of the world, where the objects 'D' alone were written or made. -/
structure Chg (D : Nat → Prop) (ρ : Rho) (F : Fm) (w : World) (ρ' : Rho) (F' : Fm) (w' : World) : Prop where
  rho : ρ.le ρ'
  keep : ∀ b, ¬D b → F' b = F b
  own : ∀ b x, D b → F' b x → w.heap.size ≤ x ∨ ∃ c, D c ∧ F c x
  same : Same w w'
  heap : ∀ k, k < w.heap.size → (∀ c, D c → ¬F c k) → w'.heap[k]? = w.heap[k]?

theorem Chg.refl (D : Nat → Prop) (ρ : Rho) (F : Fm) (w : World) : Chg D ρ F w ρ F w :=
  ⟨Rho.le_refl ρ, fun _ _ => rfl, fun b _ hd hx => .inr ⟨b, hd, hx⟩, Same.refl w, fun _ _ _ => rfl⟩
theorem Chg.mono {D D' : Nat → Prop} {ρ ρ' : Rho} {F F' : Fm} {w w' : World} (hD : ∀ b, D b → D' b) (h : Chg D ρ F w ρ' F' w') : Chg D' ρ F w ρ' F' w' where
  rho := h.rho
  keep := fun b hb => h.keep b fun hd => hb (hD b hd)
  own := fun b x hb hx => by
    by_cases hd : D b
    · exact (h.own b x hd hx).imp id fun ⟨c, hc, hcx⟩ => ⟨c, hD c hc, hcx⟩
    · rw [h.keep b hd] at hx
      exact .inr ⟨b, hb, hx⟩
  same := h.same
  heap := fun k hk hc => h.heap k hk fun c hd => hc c (hD c hd)
theorem Chg.trans {D : Nat → Prop} {ρ ρ' ρ'' : Rho} {F F' F'' : Fm} {w w' w'' : World} (h : Chg D ρ F w ρ' F' w') (k : Chg D ρ' F' w' ρ'' F'' w'') : Chg D ρ F w ρ'' F'' w'' where
  rho := Rho.le_trans h.rho k.rho
  keep := fun b hb => (k.keep b hb).trans (h.keep b hb)
  own := fun b x hb hx => by
    rcases k.own b x hb hx with h1 | ⟨c, hc, hcx⟩
    · exact .inl (Nat.le_trans h.same.size h1)
    · exact h.own c x hc hcx
  same := h.same.trans k.same
  heap := fun j hj hc => by
    rw [k.heap j (Nat.lt_of_lt_of_le hj h.same.size) fun c hd hx => ?_, h.heap j hj hc]
    rcases h.own c j hd hx with h1 | ⟨d, hd', hx'⟩
    · exact absurd hj (Nat.not_lt.2 h1)
    · exact hc d hd' hx'

/-- The names that are left. -/
def Zm (Z : Nat → Prop) (m n : Nat) : Nat → Prop := fun b => Z b ∧ ¬(m ≤ b ∧ b < n)
theorem Zm_self (Z : Nat → Prop) (n : Nat) : Zm Z n n = Z := by
  funext b
  apply propext
  constructor
  · exact fun h => h.1
  · exact fun h => ⟨h, by omega⟩
theorem Zm_trans (Z : Nat → Prop) {a b c : Nat} (h : a ≤ b) (k : b ≤ c) : Zm (Zm Z a b) b c = Zm Z a c := by
  funext x
  apply propext
  constructor
  · rintro ⟨⟨h1, h2⟩, h3⟩
    exact ⟨h1, by omega⟩
  · rintro ⟨h1, h2⟩
    exact ⟨⟨h1, by omega⟩, by omega⟩

variable {S}
theorem HR.mono {B : Nat} {Z Z' : Nat → Prop} {ρ : Rho} {F : Fm} {H : Nat → Option (VObj A)} {w : World} (hz : ∀ b, Z' b → Z b) (h : HR S B Z ρ F H w) : HR S B Z' ρ F H w :=
  ⟨h.live, h.dead, h.bound, h.disj, fun b hb => h.fresh b (hz b hb), h.base⟩

/-- How a heap lives on behind a step that wrote or made the objects D. -/
theorem HR.step {B : Nat} {Z Z' : Nat → Prop} {D : Nat → Prop} {ρ ρ' : Rho} {F F' : Fm} {H H' : Nat → Option (VObj A)} {w w' : World}
    (h : HR S B Z ρ F H w) (c : Chg D ρ F w ρ' F' w') (hH : ∀ b, ¬D b → H' b = H b)
    (live : ∀ b o, D b → H' b = some o → OK S B ρ' (F' b) b o w')
    (dead : ∀ b, D b → H' b = none → ∀ x, ¬F' b x)
    (bound : ∀ b x, D b → F' b x → x < w'.heap.size)
    (disj : ∀ b c x, D b → D c → F' b x → F' c x → b = c)
    (fresh : ∀ b, Z' b → ρ' b = none) : HR S B Z' ρ' F' H' w' := by
  have away : ∀ b x, ¬D b → F b x → x < w.heap.size ∧ ∀ d, D d → ¬F d x := fun b x hb hx =>
    ⟨(h.bound b x hx).2, fun d hd hdx => hb (by rw [h.disj b d x hx hdx]; exact hd)⟩
  have low : ∀ x, x < B → w'.heap[x]? = w.heap[x]? := fun x hx =>
    c.heap x (Nat.lt_of_lt_of_le hx h.base) fun d _ hdx => by have := (h.bound d x hdx).1; omega
  have bnd : ∀ b x, F' b x → B ≤ x ∧ x < w'.heap.size := fun b x hx => by
    by_cases hb : D b
    · refine ⟨?_, bound b x hb hx⟩
      rcases c.own b x hb hx with h1 | ⟨d, _, hdx⟩
      · exact Nat.le_trans h.base h1
      · exact (h.bound d x hdx).1
    · rw [c.keep b hb] at hx
      have := h.bound b x hx
      exact ⟨this.1, Nat.lt_of_lt_of_le this.2 c.same.size⟩
  have cross : ∀ b d x, D b → ¬D d → F' b x → F' d x → False := fun b d x hb hd hbx hdx => by
    rw [c.keep d hd] at hdx
    obtain ⟨h1, h2⟩ := away d x hd hdx
    rcases c.own b x hb hbx with h3 | ⟨e, he, hex⟩
    · omega
    · exact h2 e he hex
  refine ⟨fun b o ho => ?_, fun b hn x hx => ?_, bnd, fun b d x hb hd => ?_, fresh, Nat.le_trans h.base c.same.size⟩
  · by_cases hb : D b
    · exact live b o hb ho
    · rw [hH b hb] at ho
      exact (h.live b o ho).frame S c.rho (c.keep b hb) (fun x hx => c.heap x (away b x hb hx).1 (away b x hb hx).2) low
  · by_cases hb : D b
    · exact dead b hb hn x hx
    · rw [hH b hb] at hn
      rw [c.keep b hb] at hx
      exact h.dead b hn x hx
  · by_cases hb' : D b
    · by_cases hd' : D d
      · exact disj b d x hb' hd' hb hd
      · exact (cross b d x hb' hd' hb hd).elim
    · by_cases hd' : D d
      · exact (cross d b x hd' hb' hd hb).elim
      · rw [c.keep b hb'] at hb
        rw [c.keep d hd'] at hd
        exact h.disj b d x hb hd
end

/-! ### Lists of names -/
theorem memN_iff (n : Nat) (l : List Nat) : memN n l = true ↔ n ∈ l := by
  induction l with
  | nil => simp [memN]
  | cons m r ih =>
    unfold memN
    cases h : Nat.beq m n with
    | true => simp [Nat.eq_of_beq_eq_true h]
    | false =>
      have : m ≠ n := Nat.ne_of_beq_eq_false h
      simp [ih, Ne.symm this]
theorem mem_addN {l : List Nat} {n m : Nat} : m ∈ addN l n ↔ m ∈ l ∨ m = n := by
  unfold addN
  cases h : memN n l with
  | true =>
    rw [memN_iff] at h
    constructor
    · exact .inl
    · rintro (h1 | rfl)
      · exact h1
      · exact h
  | false => simp
theorem mem_addAll {l r : List Nat} {m : Nat} : m ∈ addAll l r ↔ m ∈ l ∨ m ∈ r := by
  induction r generalizing l with
  | nil => simp [addAll]
  | cons n r ih => rw [addAll, ih, mem_addN]; simp [or_assoc]

section
variable {A : Type}
theorem hget_hset (hp : HP A) (b c : Nat) (o : VObj A) : hget (hset hp b o) c = if c = b then some o else hget hp c := by
  induction hp with
  | nil =>
    simp only [hset, hget]
    cases h : Nat.beq b c with
    | true => rw [if_pos (Nat.eq_of_beq_eq_true h).symm]
    | false => rw [if_neg (Ne.symm (Nat.ne_of_beq_eq_false h))]
  | cons q r ih =>
    obtain ⟨k, p⟩ := q
    simp only [hset]
    cases h : Nat.beq k b with
    | true =>
      obtain rfl := Nat.eq_of_beq_eq_true h
      simp only [hget]
      cases h' : Nat.beq k c with
      | true => rw [if_pos (Nat.eq_of_beq_eq_true h').symm]
      | false => rw [if_neg (Ne.symm (Nat.ne_of_beq_eq_false h'))]
    | false =>
      have hne : k ≠ b := Nat.ne_of_beq_eq_false h
      simp only [hget]
      cases h' : Nat.beq k c with
      | true =>
        obtain rfl := Nat.eq_of_beq_eq_true h'
        rw [if_neg hne]
      | false => exact ih
theorem hget_hdel (hp : HP A) (b c : Nat) : hget (hdel hp b) c = if c = b then none else hget hp c := by
  induction hp with
  | nil => simp [hdel, hget]
  | cons q r ih =>
    obtain ⟨k, p⟩ := q
    simp only [hdel]
    cases h : Nat.beq k b with
    | true =>
      obtain rfl := Nat.eq_of_beq_eq_true h
      simp only [hget]
      cases h' : Nat.beq k c with
      | true =>
        obtain rfl := Nat.eq_of_beq_eq_true h'
        rw [if_pos rfl, ih, if_pos rfl]
      | false =>
        rw [if_neg (Ne.symm (Nat.ne_of_beq_eq_false h')), ih, if_neg (Ne.symm (Nat.ne_of_beq_eq_false h'))]
    | false =>
      have hne : k ≠ b := Nat.ne_of_beq_eq_false h
      simp only [hget]
      cases h' : Nat.beq k c with
      | true =>
        obtain rfl := Nat.eq_of_beq_eq_true h'
        rw [if_neg hne]
      | false => exact ih
theorem hget_hput (hp : HP A) (b c : Nat) (o : Option (VObj A)) : hget (hput hp b o) c = if c = b then o else hget hp c := by
  cases o with
  | some o => exact hget_hset hp b c o
  | none => exact hget_hdel hp b c
/-- A function, turned at a row of names. -/
def over (H : Nat → Option (VObj A)) : HP A → Nat → Option (VObj A)
  | [] => H
  | (b, o) :: r => over (fun c => if c = b then o else H c) r
theorem hget_hputs (asg : HP A) (hp : HP A) : hget (hputs hp asg) = over (hget hp) asg := by
  induction asg generalizing hp with
  | nil => rfl
  | cons q r ih =>
    obtain ⟨b, o⟩ := q
    simp only [hputs, over]
    rw [ih]
    congr 1
    funext c
    exact hget_hput hp b c o
theorem over_out {asg : HP A} {H : Nat → Option (VObj A)} {b : Nat} (h : b ∉ asg.map (·.1)) : over H asg b = H b := by
  induction asg generalizing H with
  | nil => rfl
  | cons q r ih =>
    obtain ⟨c, o⟩ := q
    simp only [List.map_cons, List.mem_cons, not_or] at h
    simp only [over]
    rw [ih h.2, if_neg h.1]
theorem over_in {asg : HP A} {H H' : Nat → Option (VObj A)} {b : Nat} (h : b ∈ asg.map (·.1)) : over H asg b = over H' asg b := by
  induction asg generalizing H H' with
  | nil => simp at h
  | cons q r ih =>
    obtain ⟨c, o⟩ := q
    simp only [over]
    by_cases hr : b ∈ r.map (·.1)
    · exact ih hr
    · rw [over_out hr, over_out hr]
      simp only [List.map_cons, List.mem_cons, hr, or_false] at h
      simp [h]
end
end Go.Proofs.Ytlkanbgcghjhnaa.Eng
