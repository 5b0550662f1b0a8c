/-
  The engine, part C: an operation of the virtual machine follows the model's operation.
-/
import Derived.Test.YtlkanbgcghjhnaaEngB
import Derived.Laws.Cells
import Derived.Laws.Entries
namespace Go.Proofs.Ytlkanbgcghjhnaa.Eng
open Go

/-! ### Trees -/
namespace Tr
variable {α β : Type}
theorem run_bind {t : Tr α} {f : α → Tr β} {r : β} : (t.bind f).run = some r ↔ ∃ a, t.run = some a ∧ (f a).run = some r := by
  induction t with
  | ok a => simp [bind, run]
  | ite c t e iht ihe => cases c <;> simp [bind, run, iht, ihe]
  | no s => simp [bind, run]
theorem run_chk {b : Bool} {s : String} {x : Tr α} {r : α} : (chk b s x).run = some r ↔ b = true ∧ x.run = some r := by
  cases b <;> simp [chk, run]
theorem run_opt {s : String} {o : Option α} {f : α → Tr β} {r : β} : (opt s o f).run = some r ↔ ∃ a, o = some a ∧ (f a).run = some r := by
  cases o <;> simp [opt, run]
theorem run_test {b : SB} {t e : Tr α} {r : α} : (test b t e).run = some r ↔ (b.val = true ∧ t.run = some r) ∨ (b.val = false ∧ e.run = some r) := by
  cases b with
  | lit b => cases b <;> simp [test, SB.val]
  | sym b => cases b <;> simp [test, SB.val, run]
theorem run_ok {a r : α} : (ok a).run = some r ↔ a = r := by simp [run]
theorem run_no {s : String} {r : α} : (no s : Tr α).run = some r ↔ False := by simp [run]
theorem run_ite {c : Bool} {t e : Tr α} {r : α} : (ite c t e).run = some r ↔ (c = true ∧ t.run = some r) ∨ (c = false ∧ e.run = some r) := by
  cases c <;> simp [run]
theorem all_iff {Q : α → Prop} {t : Tr α} : t.All Q ↔ ∃ a, t.run = some a ∧ Q a := by
  induction t with
  | ok a => simp [All, run]
  | ite c t e iht ihe => cases c <;> simp [All, run, iht, ihe]
  | no s => simp [All, run]
end Tr

theorem val_op2 (f : Int → Int → Int) (x y : SI) : (SI.op2 f x y).val = f x.val y.val := by cases x <;> cases y <;> rfl
theorem val_op1 (f : Int → Int) (x : SI) : (SI.op1 f x).val = f x.val := by cases x <;> rfl
theorem val_cmp (f : Int → Int → Bool) (x y : SI) : (SI.cmp f x y).val = f x.val y.val := by cases x <;> cases y <;> rfl
theorem val_not (x : SB) : x.not.val = !x.val := by cases x <;> rfl
theorem val_and (x y : SB) : (x.and y).val = (x.val && y.val) := by
  cases x with
  | lit a => cases a <;> simp [SB.and, SB.val]
  | sym a => cases y with
    | lit b => cases b <;> simp [SB.and, SB.val]
    | sym b => rfl
theorem val_eq (x y : SB) : (SB.eq x y).val = (x.val == y.val) := by cases x <;> cases y <;> rfl

/-! ### Runs -/
section
variable {P : Program} {w : World}
theorem run_andThen_ok {α β : Type} {x : Sem α} {f : α → Sem β} {a : α} {w w' : World} (h : x.run P w = .ok a w') : (x >>= f).run P w = (f a).run P w' := by
  simp [h]
theorem run_sizeOf_k {t : TypeId} (h : known P t = true) : (sizeOf t).run P w = .ok (P.cellsOf t) w := by
  unfold known at h
  obtain ⟨i, hi⟩ := Option.isSome_iff_exists.1 h
  exact run_sizeOf w hi
theorem known_of_underlying {t : TypeId} {d : TypeDesc} (h : P.underlying t = some d) : known P t = true := by
  unfold Program.underlying at h
  unfold known
  cases hi : P.info? t with
  | none => simp [hi] at h
  | some i => rfl
theorem aggK_underlying {t : TypeId} {b : Bool} (h : aggK P t = some b) : ∃ d, P.underlying t = some d := by
  unfold aggK at h
  cases hd : P.underlying t with
  | none => simp [hd] at h
  | some d => exact ⟨d, rfl⟩
theorem run_isAgg_k {t : TypeId} {b : Bool} (h : aggK P t = some b) : (isAgg t).run P w = .ok b w := by
  unfold aggK at h
  cases hd : P.underlying t with
  | none => simp [hd] at h
  | some d =>
    unfold isAgg
    rw [run_andThen_ok (run_underlying hd w)]
    simp only [hd] at h
    cases d <;> simp at h <;> subst h <;> rfl

/-- A row of cells, all of which are known, is loaded. -/
theorem run_loadVar_agg {t : TypeId} {a : Addr} {cs : List Value} (hk : aggK P t = some true) (hn : cs.length = P.cellsOf t)
    (h : ∀ j v, cs[j]? = some v → w.cell? (a.add j) = some v) : (loadVar t a).run P w = .ok (.agg cs.toArray) w := by
  obtain ⟨d, hd⟩ := aggK_underlying hk
  unfold loadVar
  rw [run_andThen_ok (run_isAgg_k hk)]
  simp only [if_true]
  rw [run_andThen_ok (run_sizeOf_k (known_of_underlying hd)), ← hn]
  have := run_loadCells_list (P := P) w a cs h
  rw [run_andThen_ok this]
  rfl
theorem run_loadVar_one {t : TypeId} {a : Addr} {v : Value} (hk : aggK P t = some false) (h : w.cell? a = some v) : (loadVar t a).run P w = .ok v w := by
  unfold loadVar
  rw [run_andThen_ok (run_isAgg_k hk)]
  simp [h]

/-- The world with one block turned. -/
def setBlk (w : World) (k : Nat) (o : Obj) : World := { w with heap := w.heap.setIfInBounds k o }
theorem setBlk_same (w : World) (k : Nat) (o : Obj) : Same w (setBlk w k o) := ⟨rfl, rfl, rfl, by simp [setBlk]⟩
theorem setBlk_get (w : World) (k x : Nat) (o : Obj) (hk : k < w.heap.size) : (setBlk w k o).heap[x]? = if x = k then some o else w.heap[x]? := by
  simp only [setBlk, Array.getElem?_setIfInBounds]
  by_cases h : k = x
  · subst h; simp [hk]
  · simp [h, Ne.symm h]
theorem setCell_blk {arr : Array Value} {ty : TypeId} {fr : Nat × Nat} {k off : Nat} {v : Value} (h : w.heap[k]? = some (.cells arr ty fr)) :
    w.setCell ⟨k, off, none⟩ v = setBlk w k (.cells (arr.setIfInBounds off v) ty fr) := by
  have hk : k < w.heap.size := by
    rcases Nat.lt_or_ge k w.heap.size with h1 | h1
    · exact h1
    · simp [Array.getElem?_eq_none h1] at h
  unfold World.setCell setBlk
  congr 1
  apply Array.ext_getElem?
  intro x
  simp only [Array.getElem?_modify, Array.getElem?_setIfInBounds]
  by_cases hx : k = x
  · subst hx
    rw [if_pos rfl, if_pos rfl, if_pos hk, h]
    rfl
  · simp [hx]

theorem splice0_length {α : Type} : ∀ (l vs : List α), (splice0 l vs).length = l.length
  | l, [] => by cases l <;> rfl
  | _ :: l, _ :: vs => by simp [splice0, splice0_length l vs]
  | [], _ :: _ => rfl
theorem splice_length {α : Type} : ∀ (l : List α) (off : Nat) (vs : List α), (splice l off vs).length = l.length
  | l, 0, vs => by cases l <;> exact splice0_length _ vs
  | x :: l, n + 1, vs => by simp [splice, splice_length l n vs]
  | [], _ + 1, _ => rfl
theorem splice0_get {α : Type} : ∀ (l vs : List α) (i : Nat), vs.length ≤ l.length → (splice0 l vs)[i]? = if i < vs.length then vs[i]? else l[i]?
  | l, [], i, _ => by cases l <;> simp [splice0]
  | x :: l, v :: vs, 0, _ => by simp [splice0]
  | x :: l, v :: vs, i + 1, h => by
    simp only [splice0, List.getElem?_cons_succ, List.length_cons] at h ⊢
    rw [splice0_get l vs i (by omega)]
    by_cases hi : i < vs.length
    · rw [if_pos hi, if_pos (by omega)]
    · rw [if_neg hi, if_neg (by omega)]
  | [], _ :: _, _, h => by simp at h
theorem splice_get {α : Type} : ∀ (l : List α) (off : Nat) (vs : List α) (i : Nat), off + vs.length ≤ l.length → (splice l off vs)[i]? = if off ≤ i ∧ i < off + vs.length then vs[i - off]? else l[i]?
  | l, 0, vs, i, h => by
    have : splice l 0 vs = splice0 l vs := by cases l <;> rfl
    rw [this, splice0_get l vs i (by omega)]
    by_cases hi : i < vs.length
    · rw [if_pos hi, if_pos ⟨by omega, by omega⟩]
      rfl
    · rw [if_neg hi, if_neg (by omega)]
  | x :: l, n + 1, vs, 0, h => by
    rw [if_neg (by omega)]
    rfl
  | x :: l, n + 1, vs, i + 1, h => by
    simp only [splice, List.getElem?_cons_succ]
    rw [splice_get l n vs i (by simp at h; omega)]
    by_cases hi : n ≤ i ∧ i < n + vs.length
    · rw [if_pos hi, if_pos (by omega)]
      congr 1
      omega
    · rw [if_neg hi, if_neg (by omega)]
  | [], n + 1, vs, i, h => by simp at h
theorem splice_nil {α : Type} : ∀ (l : List α) (off : Nat), splice l off [] = l
  | l, 0 => by cases l <;> rfl
  | x :: l, n + 1 => by simp [splice, splice_nil l n]
  | [], _ + 1 => rfl
theorem splice_cons {α : Type} : ∀ (l : List α) (off : Nat) (v : α) (vs : List α), splice l off (v :: vs) = splice (l.set off v) (off + 1) vs
  | x :: l, 0, v, vs => by simp [splice, splice0]
  | [], 0, v, vs => by simp [splice, splice0]
  | x :: l, n + 1, v, vs => by simp [splice, splice_cons l n v vs]
  | [], n + 1, v, vs => by simp [splice]
theorem F2.splice0 {α β : Type} {R : α → β → Prop} : ∀ {l : List α} {m : List β} {vs : List α} {us : List β}, F2 R l m → F2 R vs us → F2 R (Eng.splice0 l vs) (Eng.splice0 m us)
  | _ :: _, _ :: _, _ :: _, _ :: _, h, k => ⟨k.1, F2.splice0 h.2 k.2⟩
  | [], [], [], [], h, _ => h
  | _ :: _, _ :: _, [], [], h, _ => h
  | [], [], _ :: _, _ :: _, _, _ => trivial
  | [], _ :: _, _, _, h, _ => h.elim
  | _ :: _, [], _, _, h, _ => h.elim
  | _, _, [], _ :: _, _, h => h.elim
  | _, _, _ :: _, [], _, h => h.elim
theorem F2.splice {α β : Type} {R : α → β → Prop} : ∀ {l : List α} {m : List β} {vs : List α} {us : List β} (off : Nat), F2 R l m → F2 R vs us → F2 R (Eng.splice l off vs) (Eng.splice m off us)
  | [], [], _, _, 0, h, k => F2.splice0 h k
  | _ :: _, _ :: _, _, _, 0, h, k => F2.splice0 h k
  | _ :: _, _ :: _, _, _, n + 1, h, k => ⟨h.1, F2.splice n h.2 k⟩
  | [], [], _, _, _ + 1, _, _ => trivial
  | [], _ :: _, _, _, _, h, _ => h.elim
  | _ :: _, [], _, _, _, h, _ => h.elim

theorem run_storeCells {ty : TypeId} {k off : Nat} : ∀ (vs : List Value) (i : Nat) (w : World) (arr : Array Value), w.heap[k]? = some (.cells arr ty (0, 0)) →
    off + i + vs.length ≤ arr.size → (∀ v ∈ vs, v.oneCell' = true) →
    (storeCells ⟨k, off, none⟩ vs i).run P w = .ok () (if vs = [] then w else setBlk w k (.cells (splice arr.toList (off + i) vs).toArray ty (0, 0)))
  | [], i, w, arr, _, _, _ => by simp [storeCells]
  | v :: vs, i, w, arr, h, hn, hv => by
    have hk : k < w.heap.size := by
      rcases Nat.lt_or_ge k w.heap.size with h1 | h1
      · exact h1
      · simp [Array.getElem?_eq_none h1] at h
    simp only [List.length_cons] at hn
    have hadd : (Addr.add ⟨k, off, none⟩ i) = ⟨k, off + i, none⟩ := by
      unfold Addr.add
      split
      · rename_i h0; subst h0; rfl
      · rfl
    have hlt : off + i < arr.size := by omega
    have hc : w.cell? ⟨k, off + i, none⟩ = some arr[off + i] := by simp [World.cell?, h, hlt]
    have hf : w.frozen? ⟨k, off + i, none⟩ = false := by simp [World.frozen?, h]
    have hst : (store (Addr.add ⟨k, off, none⟩ i) v).run P w = .ok () (setBlk w k (.cells (arr.setIfInBounds (off + i) v) ty (0, 0))) := by
      rw [hadd, run_store P w _ v .plain (hv v (by simp)), hc]
      simp only [hf]
      rw [setCell_blk h]
      rfl
    unfold storeCells
    rw [run_andThen_ok hst]
    have hb : (setBlk w k (.cells (arr.setIfInBounds (off + i) v) ty (0, 0))).heap[k]? = some (.cells (arr.setIfInBounds (off + i) v) ty (0, 0)) := by
      rw [setBlk_get _ _ _ _ hk, if_pos rfl]
    have hsz : (setBlk w k (.cells (arr.setIfInBounds (off + i) v) ty (0, 0))).heap.size = w.heap.size := by simp [setBlk]
    rw [run_storeCells vs (i + 1) _ _ hb (by simp; omega) (fun u hu => hv u (by simp [hu]))]
    simp only [List.cons_ne_nil, if_false]
    split
    · rename_i h0
      subst h0
      rw [splice_cons, splice_nil]
      congr 3
      apply Array.ext'
      simp
    · congr 1
      unfold setBlk
      simp only [Array.setIfInBounds_setIfInBounds]
      congr 3
      rw [splice_cons]
      simp [Nat.add_assoc]
end

/-! ### What an operation comes to -/
section
variable {A : Type} (S : Sys A) {P : Program}
def Done (B : Nat) (Z : Nat → Prop) (ρ : Rho) (F : Fm) (H : Nat → Option (VObj A)) (w : World) (nid : Nat) (e : Eff A) (v : Value) (w' : World) : Prop :=
  ∃ ρ' F', RS ρ' e.val v ∧ HR S B (Zm Z nid e.nid) ρ' F' (over H e.asg) w' ∧ Chg (fun b => b ∈ e.asg.map (·.1)) ρ F w ρ' F' w'
def Lands (P : Program) (r : Result Next) (K : Value → World → Prop) : Prop :=
  match r with
  | .ok (.value v) w' => K v w'
  | .ok .skip w' => K undef w'
  | .ok (.enter f args) w' => Calls P f args w' fun e w'' => ∃ v, e = .returned v ∧ K v w''
  | _ => False

/-- What is asked of a call's evaluation. -/
def CallOK (P : Program) (call : FuncId → List SV → HP A → Nat → Tr (CR A)) : Prop :=
  ∀ f args hp nid r, (call f args hp nid).run = some r → hasBody P f = true → ∀ B Z ρ F w (vargs : List Value), HR S B Z ρ F (hget hp) w →
    (∀ b, nid ≤ b → b < r.nid → Z b) → F2 (RS ρ) args vargs →
    Calls P f vargs.toArray w fun e w' => ∃ v ρ' F', e = .returned v ∧ RS ρ' r.val v ∧ HR S B (Zm Z nid r.nid) ρ' F' (hget r.hp) w' ∧ Chg (fun b => b ∈ r.dirty) ρ F w ρ' F' w'

variable {S} {B : Nat} {Z : Nat → Prop} {ρ : Rho} {F : Fm} {H : Nat → Option (VObj A)} {w : World} {nid : Nat}

theorem done_pure {val : SV} {rd : List Nat} {v : Value} (h : HR S B Z ρ F H w) (hv : RS ρ val v) : Done S B Z ρ F H w nid ⟨val, rd, [], nid⟩ v w :=
  ⟨ρ, F, hv, by rw [Zm_self]; exact h, Chg.refl _ _ _ _⟩

/-- A new object of cells. -/
theorem done_new {val : SV} {rd : List Nat} {v : Value} {l : List VV} {cs : List Value} {ty : TypeId} (h : HR S B Z ρ F H w) (hz : Z nid) (hl : F2 (RV ρ) l cs)
    (hv : ∀ ρ' : Rho, ρ.le ρ' → ρ' nid = some ⟨w.heap.size, 0, 0, 0⟩ → RS ρ' val v) :
    Done S B Z ρ F H w nid ⟨val, rd, [(nid, some (.cells l ty))], nid + 1⟩ v (w.alloc (.cells cs.toArray ty)) := by
  have hnone : ρ nid = none := h.fresh nid hz
  let ρ' : Rho := fun b => if b = nid then some ⟨w.heap.size, 0, 0, 0⟩ else ρ b
  let F' : Fm := fun b => if b = nid then (fun x => x = w.heap.size) else F b
  have hle : ρ.le ρ' := fun b p hp => by
    have : b ≠ nid := fun e => by subst e; rw [hnone] at hp; cases hp
    simp [ρ', this, hp]
  have hnid : ρ' nid = some ⟨w.heap.size, 0, 0, 0⟩ := by simp [ρ']
  have hc : Chg (fun b => b ∈ [(nid, some (VObj.cells (A := A) l ty))].map (·.1)) ρ F w ρ' F' (w.alloc (.cells cs.toArray ty)) := by
    refine ⟨hle, fun b hb => ?_, fun b x hb hx => ?_, ⟨rfl, rfl, rfl, by simp⟩, fun k hk _ => ?_⟩
    · simp only [List.map_cons, List.map_nil, List.mem_singleton] at hb
      simp [F', hb]
    · simp only [List.map_cons, List.map_nil, List.mem_singleton] at hb
      simp only [F', hb, if_true] at hx
      exact .inl (by omega)
    · show (w.heap.push _)[k]? = _
      rw [Array.getElem?_push, if_neg (by omega)]
  refine ⟨ρ', F', hv ρ' hle hnid, ?_, hc⟩
  refine h.step hc (fun b hb => over_out hb) (fun b o hb ho => ?_) (fun b hb ho => ?_) (fun b x hb hx => ?_) (fun b c x hb hc _ _ => ?_) (fun b hb => ?_)
  · simp only [List.map_cons, List.map_nil, List.mem_singleton] at hb
    subst hb
    simp only [over, if_true, Option.some.injEq] at ho
    subst ho
    refine ⟨⟨w.heap.size, 0, 0, 0⟩, cs.toArray, hnid, fun x => by simp [F'], by show (w.heap.push _)[w.heap.size]? = _; simp, ?_⟩
    exact hl.mono fun _ _ => RV.mono hle
  · simp only [List.map_cons, List.map_nil, List.mem_singleton] at hb
    subst hb
    simp [over] at ho
  · simp only [List.map_cons, List.map_nil, List.mem_singleton] at hb
    simp only [F', hb, if_true] at hx
    subst hx
    simp
  · simp only [List.map_cons, List.map_nil, List.mem_singleton] at hb hc
    rw [hb, hc]
  · obtain ⟨h1, h2⟩ := hb
    have : b ≠ nid := by rintro rfl; exact h2 ⟨Nat.le_refl _, Nat.lt_succ_self _⟩
    simp [ρ', this, h.fresh b h1]

/-- An object of one block is turned. -/
theorem done_turn {val : SV} {rd : List Nat} {v : Value} {o o' : VObj A} {p : Pl} {b : Nat} {cs : List Value} {ty : TypeId} (h : HR S B Z ρ F H w)
    (hb : H b = some o) (hf : ∀ x, F b x ↔ x = p.blk) (hok : ∀ w', w'.heap[p.blk]? = some (.cells cs.toArray ty (0, 0)) → OK S B ρ (F b) b o' w') (hv : RS ρ val v) :
    Done S B Z ρ F H w nid ⟨val, rd, [(b, some o')], nid⟩ v (setBlk w p.blk (.cells cs.toArray ty (0, 0))) := by
  have hk : p.blk < w.heap.size := (h.bound b _ ((hf _).2 rfl)).2
  have hc : Chg (fun c => c ∈ [(b, some o')].map (·.1)) ρ F w ρ F (setBlk w p.blk (.cells cs.toArray ty (0, 0))) := by
    refine ⟨Rho.le_refl ρ, fun _ _ => rfl, fun c x hc hx => .inr ⟨c, hc, hx⟩, setBlk_same _ _ _, fun k hk' hc => ?_⟩
    rw [setBlk_get _ _ _ _ hk, if_neg]
    intro e
    exact hc b (by simp) ((hf k).2 e)
  refine ⟨ρ, F, hv, ?_, hc⟩
  rw [Zm_self]
  refine h.step hc (fun b hb => over_out hb) (fun c x hc ho => ?_) (fun c hc ho => ?_) (fun c x hc hx => ?_) (fun c d x hc hd _ _ => ?_) h.fresh
  · simp only [List.map_cons, List.map_nil, List.mem_singleton] at hc
    subst hc
    simp only [over, if_true, Option.some.injEq] at ho
    subst ho
    exact hok _ (by rw [setBlk_get _ _ _ _ hk, if_pos rfl])
  · simp only [List.map_cons, List.map_nil, List.mem_singleton] at hc
    subst hc
    simp [over] at ho
  · have := (h.bound c x hx).2
    simpa [setBlk] using this
  · simp only [List.map_cons, List.map_nil, List.mem_singleton] at hc hd
    rw [hc, hd]
/-- Cells of an object are turned. -/
theorem done_store {val : SV} {rd : List Nat} {v : Value} {l l' : List VV} {p : Pl} {b : Nat} {cs : List Value} {ty : TypeId} (h : HR S B Z ρ F H w)
    (hb : H b = some (.cells l ty)) (hp : ρ b = some p) (hl : F2 (RV ρ) l' cs) (hv : RS ρ val v) :
    Done S B Z ρ F H w nid ⟨val, rd, [(b, some (.cells l' ty))], nid⟩ v (setBlk w p.blk (.cells cs.toArray ty (0, 0))) := by
  obtain ⟨q, arr, hq, hf, hw, _⟩ := h.live b _ hb
  rw [hp] at hq
  injection hq with hq
  subst hq
  exact done_turn h hb hf (fun w' hw' => ⟨p, cs.toArray, hp, hf, hw', hl⟩) hv
end
end Go.Proofs.Ytlkanbgcghjhnaa.Eng
