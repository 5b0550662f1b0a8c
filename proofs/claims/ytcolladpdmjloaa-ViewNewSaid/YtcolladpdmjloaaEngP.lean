/-
  The engine: several of its parts in one text.
-/
import Derived.Test.YtcolladpdmjloaaEngL
import Derived.ProofKit
import Derived.Carry
import Derived.ChangeShapes
import Derived.Handed
import Derived.JoinedOf
/-
  The engine, part M: a law's arguments are read; the row of a law out of its call.
-/
namespace Go.Proofs.Ytcolladpdmjloaa.Eng
open Go

/-! ### Plain types: whole numbers and bools, cell by cell -/
section
variable {P : Program}
def shapeFs (P : Program) (f : TypeId → Option (List CK)) : Nat → List Field → Option (List CK)
  | _, [] => some []
  | off, fd :: fs => match decide (fd.offset = off), f fd.type with
    | true, some ks => match decide (ks.length = P.cellsOf fd.type), shapeFs P f (off + ks.length) fs with
      | true, some rest => some (ks ++ rest)
      | _, _ => none
    | _, _ => none
def repK (ks : List CK) : Nat → List CK
  | 0 => []
  | n + 1 => ks ++ repK ks n
def shapeK (P : Program) : Nat → TypeId → Option (List CK)
  | 0, _ => none
  | d + 1, t => match P.underlying t with
    | some (.int k) => some [.int k]
    | some .bool => some [.bool]
    | some (.struct fs) => match shapeFs P (shapeK P d) 0 fs.toList with
      | some ks => match decide (ks.length = P.cellsOf t) with
        | true => some ks
        | false => none
      | none => none
    | some (.array n e) => match shapeK P d e with
      | some ks => match decide (ks.length = P.cellsOf e), decide (n * ks.length = P.cellsOf t) with
        | true, true => some (repK ks n)
        | _, _ => none
      | none => none
    | _ => none

/-- Cells of a plain value. -/
def Cells : List CK → List Int → List Value → Prop
  | [], [], [] => True
  | k :: ks, n :: ns, c :: cs => k.fits n ∧ c = k.real n ∧ Cells ks ns cs
  | _, _, _ => False
theorem Cells.append : ∀ {ks ks' : List CK} {ns ns' : List Int} {cs cs' : List Value}, Cells ks ns cs → Cells ks' ns' cs' → Cells (ks ++ ks') (ns ++ ns') (cs ++ cs')
  | [], _, [], _, [], _, _, h' => h'
  | _ :: _, _, _ :: _, _, _ :: _, _, h, h' => ⟨h.1, h.2.1, append h.2.2 h'⟩
  | [], _, [], _, _ :: _, _, h, _ => h.elim
  | [], _, _ :: _, _, _, _, h, _ => h.elim
  | _ :: _, _, [], _, _, _, h, _ => h.elim
  | _ :: _, _, _ :: _, _, [], _, h, _ => h.elim
theorem Cells.length : ∀ {ks : List CK} {ns : List Int} {cs : List Value}, Cells ks ns cs → ns.length = ks.length ∧ cs.length = ks.length
  | [], [], [], _ => ⟨rfl, rfl⟩
  | _ :: _, _ :: _, _ :: _, h => by have := length h.2.2; simp [this]
  | [], [], _ :: _, h => h.elim
  | [], _ :: _, _, h => h.elim
  | _ :: _, [], _, h => h.elim
  | _ :: _, _ :: _, [], h => h.elim

def zipK : List CK → List Int → List VV
  | k :: ks, n :: ns => k.vv n :: zipK ks ns
  | _, _ => []
theorem Cells.rel (ρ : Rho) : ∀ {ks : List CK} {ns : List Int} {cs : List Value}, Cells ks ns cs → F2 (RV ρ) (zipK ks ns) cs
  | [], [], [], _ => trivial
  | k :: _, n :: _, _ :: _, h => ⟨by rw [h.2.1]; exact vv_real ρ k n h.1, rel ρ h.2.2⟩
  | [], [], _ :: _, h => h.elim
  | [], _ :: _, _, h => h.elim
  | _ :: _, [], _, h => h.elim
  | _ :: _, _ :: _, [], h => h.elim

section
variable {H : Type} {enc : TypeId × Value → H} {w : World} {base : Nat} {sp : Nat → Bool} {held : Bool}
theorem mapM_opt_cons {α β : Type} {f : α → Option β} {a : α} {l : List α} {r : List β} (h : (a :: l).mapM f = some r) : ∃ b bs, f a = some b ∧ l.mapM f = some bs ∧ r = b :: bs := by
  rw [List.mapM_cons] at h
  cases hf : f a with
  | none => simp [hf] at h
  | some b =>
    cases hl : l.mapM f with
    | none => simp [hf, hl] at h
    | some bs => simp [hf, hl] at h; exact ⟨b, bs, rfl, rfl, h.symm⟩

theorem range_mapM_shift {β : Type} {f : Nat → Option β} : ∀ (n k : Nat) {r : List β}, (List.range' k n).mapM f = some r → ∀ i, i < n → ∃ b, f (k + i) = some b
  | 0, _, _, _, i, hi => by omega
  | n + 1, k, r, h, i, hi => by
    rw [List.range'_succ] at h
    obtain ⟨b, bs, h1, h2, _⟩ := mapM_opt_cons h
    cases i with
    | zero => exact ⟨b, h1⟩
    | succ i =>
      obtain ⟨c, hc⟩ := range_mapM_shift n (k + 1) h2 i (by omega)
      exact ⟨c, by rw [show k + (i + 1) = k + 1 + i by omega]; exact hc⟩

/-- A plain value that can be read is made of numbers that fit. -/
theorem shape_read : ∀ (d : Nat) {fuel : Nat} {t : TypeId} {cs : List Value} {x : DataW H × List MemPlace} {ks : List CK}, DataW.trod enc P w base sp held fuel t cs = some x → shapeK P d t = some ks →
    ∃ ns, Cells ks ns cs
  | 0, _, _, _, _, _, _, h => by simp [shapeK] at h
  | _ + 1, 0, _, _, _, _, h, _ => by simp [DataW.trod] at h
  | d + 1, fuel + 1, t, cs, x, ks, h, hs => by
    unfold shapeK at hs
    split at hs
    · rename_i k hu
      injection hs with hs
      subst hs
      unfold DataW.trod at h
      rw [hu] at h
      split at h <;> first | (rename_i heq; cases heq; done) | skip
      all_goals first
        | (rename_i k' n heq
           injection heq with heq
           injection heq with heq
           subst heq
           split at h
           · rename_i hk
             obtain ⟨rfl, hwf⟩ := hk
             simp only [Lit.wf, Bool.and_eq_true, decide_eq_true_eq] at hwf
             exact ⟨[n], ⟨by rw [kmin_eq]; exact hwf.1, by rw [kmax_eq]; exact hwf.2⟩, rfl, trivial⟩
           · cases h)
        | (simp at *; done)
        | cases h
    · rename_i hu
      injection hs with hs
      subst hs
      unfold DataW.trod at h
      rw [hu] at h
      split at h <;> first | (rename_i heq; cases heq; done) | skip
      all_goals first
        | (rename_i b heq
           refine ⟨[if b then 1 else 0], ?_, ?_, trivial⟩
           · cases b <;> simp [CK.fits]
           · cases b <;> rfl)
        | (simp at *; done)
        | cases h
    · rename_i fs hu
      split at hs
      · rename_i ks0 hks
        split at hs
        · rename_i hlen
          injection hs with hs
          subst hs
          have hlen := of_decide_eq_true hlen
          have hgo : cs.length = P.cellsOf t ∧ ∃ xs, (fs.toList.mapM fun f => DataW.trod enc P w base sp held fuel f.type ((cs.drop f.offset).take (P.cellsOf f.type))) = some xs := by
            simp only [DataW.trod, hu] at h
            split at h
            · rename_i hl
              refine ⟨hl, ?_⟩
              cases hm : (fs.toList.mapM fun f => DataW.trod enc P w base sp held fuel f.type ((cs.drop f.offset).take (P.cellsOf f.type))) with
              | none => rw [hm] at h; cases h
              | some xs => exact ⟨xs, rfl⟩
            · cases h
          obtain ⟨hl, xs, hm⟩ := hgo
          have key : ∀ (fl : List Field) (off : Nat) (ks : List CK) (xs : List (DataW H × List MemPlace)), shapeFs P (shapeK P d) off fl = some ks →
              (fl.mapM fun f => DataW.trod enc P w base sp held fuel f.type ((cs.drop f.offset).take (P.cellsOf f.type))) = some xs → off + ks.length = cs.length → ∃ ns, Cells ks ns (cs.drop off) := by
            intro fl
            induction fl with
            | nil =>
              intro off ks xs hk _ hlen
              simp only [shapeFs, Option.some.injEq] at hk
              subst hk
              refine ⟨[], ?_⟩
              rw [List.drop_eq_nil_of_le (by simpa using Nat.le_of_eq hlen.symm)]
              trivial
            | cons f fl ih =>
              intro off ks xs hk hm hlen
              unfold shapeFs at hk
              split at hk
              · rename_i kf hoff hkf
                split at hk
                · rename_i rest hkl hrest
                  injection hk with hk
                  subst hk
                  obtain ⟨b, bs, h1, h2, _⟩ := mapM_opt_cons hm
                  have hoff := of_decide_eq_true hoff
                  have hkl := of_decide_eq_true hkl
                  obtain ⟨n1, c1⟩ := shape_read d h1 hkf
                  obtain ⟨n2, c2⟩ := ih (off + kf.length) rest bs hrest h2 (by simp at hlen; omega)
                  refine ⟨n1 ++ n2, ?_⟩
                  rw [hoff] at c1
                  have := c1.append c2
                  rw [← List.drop_drop, ← hkl, List.take_append_drop] at this
                  exact this
                · cases hk
              · cases hk
          have := key fs.toList 0 ks0 xs hks hm (by omega)
          simpa using this
        · cases hs
      · cases hs
    · rename_i n e hu
      split at hs
      · rename_i ks0 hks
        split at hs
        · rename_i hl1 hl2
          injection hs with hs
          subst hs
          have hl1 := of_decide_eq_true hl1
          have hl2 := of_decide_eq_true hl2
          have hgo : cs.length = P.cellsOf t ∧ ∃ xs, ((List.range n).mapM fun i => DataW.trod enc P w base sp held fuel e ((cs.drop (i * P.cellsOf e)).take (P.cellsOf e))) = some xs := by
            simp only [DataW.trod, hu] at h
            split at h
            · rename_i hl
              refine ⟨hl, ?_⟩
              cases hm : ((List.range n).mapM fun i => DataW.trod enc P w base sp held fuel e ((cs.drop (i * P.cellsOf e)).take (P.cellsOf e))) with
              | none => rw [hm] at h; cases h
              | some xs => exact ⟨xs, rfl⟩
            · cases h
          obtain ⟨hl, xs, hm⟩ := hgo
          rw [List.range_eq_range'] at hm
          have hel := range_mapM_shift n 0 hm
          have key : ∀ (m : Nat), m ≤ n → ∃ ns, Cells (repK ks0 m) ns (cs.drop ((n - m) * P.cellsOf e)) := by
            intro m
            induction m with
            | zero =>
              intro _
              refine ⟨[], ?_⟩
              rw [List.drop_eq_nil_of_le (by rw [hl, ← hl2, hl1]; simp)]
              trivial
            | succ m ih =>
              intro hm
              obtain ⟨n2, c2⟩ := ih (by omega)
              obtain ⟨b, hb⟩ := hel (n - (m + 1)) (by omega)
              rw [Nat.zero_add] at hb
              obtain ⟨n1, c1⟩ := shape_read d hb hks
              refine ⟨n1 ++ n2, ?_⟩
              have := c1.append c2
              rw [show (n - m) * P.cellsOf e = (n - (m + 1)) * P.cellsOf e + P.cellsOf e by
                rw [← Nat.succ_mul]; congr 1; omega] at this
              rw [← List.drop_drop, List.take_append_drop] at this
              exact this
          have := key n (Nat.le_refl _)
          simpa using this
        · cases hs
      · cases hs
    · cases hs
end
end
end Go.Proofs.Ytcolladpdmjloaa.Eng

/-
  The engine, part N: the row of a law out of its call.
-/
namespace Go.Proofs.Ytcolladpdmjloaa.Eng
open Go Go.RowKit

/-- What is known of an argument of a law. -/
def ArgOK (P : Program) (W : World) (t : TypeId) (v : Value) : Prop :=
  (∃ base, Value.okWide P W .any base t v) ∧ ∃ (H : Type) (enc : TypeId × Value → H) (d : DataW H) (ps : List MemPlace), DataW.Trod enc P W 0 (fun _ => true) true t v d ps ∧ ∀ x ∈ ps, x.block < W.heap.size

section
variable {P : Program} {H : Type} {enc : TypeId × Value → H}
theorem trodAll_len {w : World} {b : Nat} {sp : Nat → Bool} {hd : Bool} : ∀ {ts : List TypeId} {vs : List Value} {ds : List (DataW H)} {ps : List MemPlace}, DataW.TrodAll enc P w b sp hd ts vs ds ps → ds.length = ts.length
  | [], [], [], _, _ => rfl
  | _ :: _, _ :: _, _ :: _, _, ⟨_, _, _, h, _⟩ => by simp [trodAll_len h]
  | [], _ :: _, _, _, h => h.elim
  | [], [], _ :: _, _, h => h.elim
  | _ :: _, [], _, _, h => h.elim
  | _ :: _, _ :: _, [], _, h => h.elim

theorem args_stay {W W' : World} (laid : laidOutB P = true) (hb : Below W.heap.size W W') : ∀ {ts : List TypeId} {vs : List Value} {ds : List (DataW H)} {ps : List MemPlace},
    (ts.all fun t => P.readableRec t && decide (t < P.types.size)) = true → DataW.TrodAll enc P W 0 (fun _ => true) true ts vs ds ps →
    DataW.TrodAll enc P W' 0 (fun b => decide (b < W.heap.size)) true ts vs ds ps
  | [], [], [], _, _, h => h
  | t :: ts, v :: vs, d :: ds, ps, hr, ⟨p, q, h1, h2, h3⟩ => by
    rw [List.all_cons, Bool.and_eq_true, Bool.and_eq_true, decide_eq_true_eq] at hr
    have hlt : ∀ x ∈ p, x.block < W.heap.size := by obtain ⟨m, hm⟩ := h1; exact DataW.trod_lt m _ _ _ hm
    exact ⟨p, q, Below.trod laid hr.1.1 hr.1.2 h1 hb hlt, args_stay laid hb hr.2 h2, h3⟩
  | [], _ :: _, _, _, _, h => h.elim
  | [], [], _ :: _, _, _, h => h.elim
  | _ :: _, [], _, _, _, h => h.elim
  | _ :: _, _ :: _, [], _, _, h => h.elim

theorem args_ok {W : World} {base : Nat} : ∀ {ts : List TypeId} {vs : List Value} {ds : List (DataW H)} {ps : List MemPlace}, (∀ (j : Nat) t v, ts[j]? = some t → vs[j]? = some v → Value.okWide P W .any base t v) →
    DataW.TrodAll enc P W 0 (fun _ => true) true ts vs ds ps → F2 (ArgOK P W) ts vs
  | [], [], [], _, _, _ => trivial
  | t :: ts, v :: vs, d :: ds, ps, hv, ⟨p, q, h1, h2, _⟩ =>
    ⟨⟨⟨base, hv 0 t v rfl rfl⟩, H, enc, d, p, h1, by obtain ⟨m, hm⟩ := h1; exact DataW.trod_lt m _ _ _ hm⟩, args_ok (fun j t v h1 h2 => hv (j + 1) t v (by simpa using h1) (by simpa using h2)) h2⟩
  | [], _ :: _, _, _, _, h => h.elim
  | [], [], _ :: _, _, _, h => h.elim
  | _ :: _, [], _, _, _, h => h.elim
  | _ :: _, _ :: _, [], _, _, h => h.elim

theorem law_lifted {a : Assume} {C : Checked} {os : Os} {f : FuncId} {fn : Func} {s : ChangeSpec} {conds : List PathCond} (own : ownKnob C.prog.godebug = none) (started : os.Started) (noInit : C.prog.inits.idxOf? f = none)
    (hfn : C.prog.funcs[f]? = some fn)
    (witness : ∃ (w : World) (tape : Tape) (i : Input), w.os = os ∧ (w.forCall tape i).Shaped C.prog ∧ i.vars = [] ∧ Input.okWide C.prog (w.forCall tape i) .any w.heap.size f i ∧
      s.pre6 enc C.prog fn conds false (w.forCall tape i).memory i.args ∧ a.holds C.prog (lone (Frame.enter C.prog f i.args .normal) [] (w.forCall tape i)))
    {tb : TypeId} (hbool : C.prog.underlying tb = some .bool) (hres : fn.resultTypes = #[tb]) (hvars : s.vars = [])
    (hspec : ∀ ds : List (DataW H), ds.length = fn.params.size → (s.fn H ds).results = [.lit (.bool true)] ∧ (s.fn H ds).args = ds ∧ (s.fn H ds).vars = [])
    (laid : laidOutB C.prog = true) (hread : (fn.params.toList.all fun t => C.prog.readableRec t && decide (t < C.prog.types.size)) = true)
    (core : ∀ (W : World) (vals : List Value), F2 (ArgOK C.prog W) fn.params.toList vals → Calls C.prog f vals.toArray W fun e W' => ∃ v, e = .returned v ∧ v = .bool true ∧ Below W.heap.size W W') :
    ReturnsInHanded a C os f .any (s.pre6 enc C.prog fn conds false) (s.post enc C.prog fn false true false false) := by
  refine returnsInHanded_of_change own started noInit hfn witness ?_
  intro W base args ds gs before hval hW _ _
  have hW' := hW
  obtain ⟨p, q, hA, hV, hbef, hfz, hnd⟩ := hW
  rw [hvars] at hV
  obtain ⟨rfl, rfl⟩ := ChangeShapes.trodVars_none hV
  have hargs := args_ok (P := C.prog) (base := base) (fun j t v h1 h2 => hval j t v (by simpa using h1) (by simpa using h2)) hA
  have hc := core W args.toList hargs
  rw [Array.toArray_toList] at hc
  refine hc.mono fun e W' ⟨v, he, hv, bel⟩ => ⟨v, he, ?_⟩
  subst hv
  have hlen : ds.length = fn.params.size := by rw [trodAll_len hA]; simp
  obtain ⟨s1, s2, s3⟩ := hspec ds hlen
  refine ⟨ds, [], before, [], p, [], hW', ?_, ?_, ?_, bel.frame _, fun h => by cases h⟩
  · rw [List.append_nil, s1, hres]
    exact ChangeShapes.trodAll_mk1 ⟨1, by simp [DataW.trod, hbool, Value.cells]⟩
  · rw [List.append_nil, s2]
    exact args_stay laid bel hread hA
  · rw [List.append_nil, s3, hvars]
    rfl

/-- A plain argument is made of numbers. -/
def mkS1 (P : Program) (t : TypeId) (ks : List CK) (ns : List Int) : S1 := match aggK P t with
  | some true => .agg (zipK ks ns)
  | _ => match ks, ns with
    | k :: _, n :: _ => .one (k.vv n)
    | _, _ => .agg []
theorem arg_plain {W : World} {t : TypeId} {v : Value} {ks : List CK} (h : ArgOK P W t v) (hs : shapeK P 8 t = some ks) :
    ∃ (ns : List Int) (cs : List Value), Cells ks ns cs ∧ ∀ ρ, R1 ρ (mkS1 P t ks ns) v := by
  obtain ⟨⟨base, hv⟩, H, enc, d, ps, ⟨fuel, ht⟩, _⟩ := h
  obtain ⟨ns, hc⟩ := shape_read 8 ht hs
  refine ⟨ns, _, hc, fun ρ => ?_⟩
  unfold mkS1 aggK
  unfold Value.okWide at hv
  have hsk := hs
  unfold shapeK at hsk
  cases hu : P.underlying t with
  | none => simp [hu] at hsk
  | some dd =>
    rw [hu] at hv hsk
    cases dd
    case struct fs =>
      obtain ⟨cs, rfl, _, _⟩ := hv
      exact ⟨cs.toList, by simp, hc.rel ρ⟩
    case array n e =>
      obtain ⟨cs, rfl, _, _⟩ := hv
      exact ⟨cs.toList, by simp, hc.rel ρ⟩
    case int k =>
      simp only [Option.some.injEq] at hsk
      subst hsk
      simp only
      have hone : v.cells.toList.length = 1 := hc.length.2
      cases ns with
      | nil => have := hc.length.1; simp at this
      | cons n ns =>
        simp only
        have hv1 : v.cells.toList = [v] ∨ ∃ cs, v = .agg cs := by cases v <;> first | exact .inl rfl | exact .inr ⟨_, rfl⟩
        rcases hv1 with h1 | ⟨cs, rfl⟩
        · rw [h1] at hc
          exact (show RV ρ ((CK.int k).vv n) v from hc.2.1 ▸ vv_real ρ _ n hc.1)
        · simp [Cell.okWide, Cell.ok, hu] at hv
    case bool =>
      simp only [Option.some.injEq] at hsk
      subst hsk
      simp only
      cases ns with
      | nil => have := hc.length.1; simp at this
      | cons n ns =>
        simp only
        have hv1 : v.cells.toList = [v] ∨ ∃ cs, v = .agg cs := by cases v <;> first | exact .inl rfl | exact .inr ⟨_, rfl⟩
        rcases hv1 with h1 | ⟨cs, rfl⟩
        · rw [h1] at hc
          exact (show RV ρ (CK.bool.vv n) v from hc.2.1 ▸ vv_real ρ _ n hc.1)
        · simp [Cell.okWide, Cell.ok, hu] at hv
    all_goals simp at hsk
end
end Go.Proofs.Ytcolladpdmjloaa.Eng

/-
  The engine, part O: functions that only compute, by a function of our own.
-/
namespace Go.Proofs.Ytcolladpdmjloaa.Eng
open Go

def Tr.vmap {α β : Type} (f : α → β) : Tr α → Tr β
  | .ok a => .ok (f a)
  | .ite c t e => .ite c (t.vmap f) (e.vmap f)
  | .no s => .no s
theorem Tr.run_vmap {α β : Type} {f : α → β} {t : Tr α} {b : β} : (t.vmap f).run = some b ↔ ∃ a, t.run = some a ∧ f a = b := by
  induction t with
  | ok a => simp [vmap, run]
  | ite c t e iht ihe => cases c <;> simp [vmap, run, iht, ihe]
  | no s => simp [vmap, run]

/-- A value without a pointer. -/
def plainVV : VV → Bool
  | .int _ _ | .bool _ | .nilp | .nils | .nilf | .raw _ | .any => true
  | _ => false
def plainS1 : S1 → Bool
  | .one v => plainVV v
  | .agg l => l.all plainVV
def plainSV : SV → Bool
  | .s x => plainS1 x
  | .t l => l.all plainS1
theorem plainVV_any {ρ ρ' : Rho} {x : VV} {v : Value} (h : plainVV x = true) (hr : RV ρ x v) : RV ρ' x v := by
  cases x <;> first | exact hr | (simp [plainVV] at h)
theorem F2.all_any {α β : Type} {R R' : α → β → Prop} {p : α → Bool} (hp : ∀ a b, p a = true → R a b → R' a b) : ∀ {l : List α} {m : List β}, l.all p = true → F2 R l m → F2 R' l m
  | [], [], _, _ => trivial
  | a :: l, b :: m, h, hr => by
    rw [List.all_cons, Bool.and_eq_true] at h
    exact ⟨hp a b h.1 hr.1, all_any hp h.2 hr.2⟩
  | [], _ :: _, _, h => h.elim
  | _ :: _, [], _, h => h.elim
theorem plainS1_any {ρ ρ' : Rho} {x : S1} {v : Value} (h : plainS1 x = true) (hr : R1 ρ x v) : R1 ρ' x v := by
  cases x with
  | one x => exact plainVV_any h hr
  | agg l =>
    obtain ⟨cs, hv, hl⟩ := hr
    exact ⟨cs, hv, F2.all_any (fun _ _ => plainVV_any) h hl⟩
theorem plainSV_any {ρ ρ' : Rho} {x : SV} {v : Value} (h : plainSV x = true) (hr : RS ρ x v) : RS ρ' x v := by
  cases x with
  | s x => exact plainS1_any (x := x) h hr
  | t l =>
    obtain ⟨vs, hv, hl⟩ := hr
    exact ⟨vs, hv, F2.all_any (fun _ _ => plainS1_any) h hl⟩

section
variable {A : Type} {S : Sys A} {P : Program}
/-- The evaluation by a function of our own: nothing is written or made. -/
def pureI (A : Type) (g : List SV → Option SV) : Intr A := fun args hp nid => match args.all plainSV with
  | true => match g args with
    | some v => .ok ⟨v, hp, [], nid⟩
    | none => .no "no such arguments"
  | false => .no "arguments with pointers"

theorem funOK_pure {f : FuncId} {g : List SV → Option SV} {ev : List SV → HP A → Nat → Tr (CR A)} (hev : FunOK S P f ev)
    (h : ∀ args v vargs ρ, g args = some v → F2 (RS ρ) args vargs → plainSV v = true ∧ ∃ args' r, F2 (RS ρ) args' vargs ∧ (ev args' [] 0).run = some r ∧ ∀ ρ x, RS ρ r.val x → RS ρ v x) :
    FunOK S P f (pureI A g) := by
  intro args hp nid r hrun B Z ρ F w vargs hhr hz hargs
  unfold pureI at hrun
  split at hrun
  · rename_i hplain
    split at hrun
    · rename_i v hg
      rw [Tr.run_ok] at hrun
      subst hrun
      obtain ⟨hpv, args', r', h1, h2, h3⟩ := h args v vargs (fun _ => none) hg (F2.all_any (fun _ _ => plainSV_any) hplain hargs)
      have h0 : HR S B (fun _ => True) (fun _ => none) (fun _ _ => False) (hget ([] : HP A)) w :=
        ⟨fun b o ho => by simp [hget] at ho, fun _ _ _ h => h, fun _ _ h => h.elim, fun _ _ _ h => h.elim, fun _ _ => rfl, hhr.base⟩
      refine (hev args' [] 0 r' h2 B _ _ _ w vargs h0 (fun _ _ _ => trivial) h1).mono ?_
      rintro e w' ⟨x, ρ', F', he, hx, _, hc⟩
      have hc' : Chg (fun _ => False) ρ F w ρ F w' := ⟨Rho.le_refl ρ, fun _ _ => rfl, fun _ _ h _ => h.elim, hc.same, fun k hk _ => hc.heap k hk fun _ _ h => h⟩
      refine ⟨x, ρ, F, he, plainSV_any hpv (h3 ρ' x hx), ?_, hc'.mono fun _ h => h.elim⟩
      rw [Zm_self]
      exact hhr.step hc' (fun _ _ => rfl) (fun _ _ h => h.elim) (fun _ h => h.elim) (fun _ _ h => h.elim) (fun _ _ _ h => h.elim) hhr.fresh
    · simp [Tr.run] at hrun
  · simp [Tr.run] at hrun
/-- The same, by a tree of values that the evaluation comes to. -/
theorem funOK_tree {f : FuncId} {g : List SV → Option SV} {ev : List SV → HP A → Nat → Tr (CR A)} (hev : FunOK S P f ev)
    (h : ∀ args v vargs ρ, g args = some v → F2 (RS ρ) args vargs → plainSV v = true ∧ ∃ args' v' t, F2 (RS ρ) args' vargs ∧ (ev args' [] 0).vmap (·.val) = t ∧ t.run = some v' ∧ ∀ ρ x, RS ρ v' x → RS ρ v x) :
    FunOK S P f (pureI A g) :=
  funOK_pure hev fun args v vargs ρ hg ha => by
    obtain ⟨h1, args', v', t, h2, h3, h4, h5⟩ := h args v vargs ρ hg ha
    rw [← h3, Tr.run_vmap] at h4
    obtain ⟨r, hr, rfl⟩ := h4
    exact ⟨h1, args', r, h2, hr, h5⟩
end

/-! ### Literals stay literals -/
def SI.op3 (f : Int → Int → Int → Int) : SI → SI → SI → SI
  | .lit a, .lit b, .lit c => .lit (f a b c)
  | a, b, c => .sym (f a.val b.val c.val)
def SI.op4 (f : Int → Int → Int → Int → Int) : SI → SI → SI → SI → SI
  | .lit a, .lit b, .lit c, .lit d => .lit (f a b c d)
  | a, b, c, d => .sym (f a.val b.val c.val d.val)
def SI.op7 (f : Int → Int → Int → Int → Int → Int → Int → Int) : SI → SI → SI → SI → SI → SI → SI → SI
  | .lit a, .lit b, .lit c, .lit d, .lit e, .lit g, .lit h => .lit (f a b c d e g h)
  | a, b, c, d, e, g, h => .sym (f a.val b.val c.val d.val e.val g.val h.val)
theorem val_op3 (f) (a b c : SI) : (SI.op3 f a b c).val = f a.val b.val c.val := by cases a <;> cases b <;> cases c <;> rfl
theorem val_op4 (f) (a b c d : SI) : (SI.op4 f a b c d).val = f a.val b.val c.val d.val := by cases a <;> cases b <;> cases c <;> cases d <;> rfl
theorem val_op7 (f) (a b c d e g h : SI) : (SI.op7 f a b c d e g h).val = f a.val b.val c.val d.val e.val g.val h.val := by
  cases a <;> cases b <;> cases c <;> cases d <;> cases e <;> cases g <;> cases h <;> rfl
end Go.Proofs.Ytcolladpdmjloaa.Eng

/-
  The engine, part P: values with their numbers as signs; laws over plain arguments.
-/
namespace Go.Proofs.Ytcolladpdmjloaa.Eng
open Go Go.RowKit

def symVV : VV → VV
  | .int k s => .int k (.sym s.val)
  | .bool b => .bool (.sym b.val)
  | v => v
def symS1 : S1 → S1
  | .one v => .one (symVV v)
  | .agg l => .agg (l.map symVV)
def symSV : SV → SV
  | .s x => .s (symS1 x)
  | .t l => .t (l.map symS1)
theorem RV_sym {ρ : Rho} {x : VV} {v : Value} : RV ρ (symVV x) v ↔ RV ρ x v := by cases x <;> rfl
theorem F2_map {α β : Type} {R : α → β → Prop} {f : α → α} (hf : ∀ a b, R (f a) b ↔ R a b) : ∀ {l : List α} {m : List β}, F2 R (l.map f) m ↔ F2 R l m
  | [], [] => Iff.rfl
  | _ :: _, _ :: _ => and_congr (hf _ _) (F2_map hf)
  | [], _ :: _ => Iff.rfl
  | _ :: _, [] => Iff.rfl
theorem R1_sym {ρ : Rho} {x : S1} {v : Value} : R1 ρ (symS1 x) v ↔ R1 ρ x v := by
  cases x with
  | one x => exact RV_sym
  | agg l => exact exists_congr fun cs => and_congr Iff.rfl (F2_map fun _ _ => RV_sym)
theorem RS_sym {ρ : Rho} {x : SV} {v : Value} : RS ρ (symSV x) v ↔ RS ρ x v := by
  cases x with
  | s x => exact R1_sym
  | t l => exact exists_congr fun cs => and_congr Iff.rfl (F2_map fun _ _ => R1_sym)

section
variable {A : Type} {S : Sys A} {P : Program}
/-- A function of numbers that comes to one value. -/
theorem funOK_one {f : FuncId} {g : List SV → Option SV} {ev : List SV → HP A → Nat → Tr (CR A)} (hev : FunOK S P f ev)
    (h : ∀ args v vargs ρ, g args = some v → F2 (RS ρ) args vargs → plainSV v = true ∧ (ev (args.map symSV) [] 0).vmap (·.val) = .ok (symSV v)) :
    FunOK S P f (pureI A g) :=
  funOK_tree hev fun args v vargs ρ hg ha => by
    obtain ⟨h1, h2⟩ := h args v vargs ρ hg ha
    exact ⟨h1, args.map symSV, symSV v, _, (F2_map fun _ _ => RS_sym).2 ha, h2, rfl, fun ρ x hx => RS_sym.1 hx⟩
/-- A function of numbers that comes to a tree. -/
theorem funOK_many {f : FuncId} {g : List SV → Option SV} {ev : List SV → HP A → Nat → Tr (CR A)} (hev : FunOK S P f ev)
    (h : ∀ args v vargs ρ, g args = some v → F2 (RS ρ) args vargs → plainSV v = true ∧ ∃ t, (ev (args.map symSV) [] 0).vmap (·.val) = t ∧ ∃ v', t.run = some v' ∧ symSV v' = symSV v) :
    FunOK S P f (pureI A g) :=
  funOK_tree hev fun args v vargs ρ hg ha => by
    obtain ⟨h1, t, h2, v', h3, h4⟩ := h args v vargs ρ hg ha
    exact ⟨h1, args.map symSV, v', t, (F2_map fun _ _ => RS_sym).2 ha, h2, h3, fun ρ x hx => RS_sym.1 (h4 ▸ RS_sym.2 hx)⟩

/-! ### Laws over plain arguments -/
def Fits : List CK → List Int → Prop
  | [], [] => True
  | k :: ks, n :: ns => k.fits n ∧ Fits ks ns
  | _, _ => False
def FitsAll : List (List CK) → List (List Int) → Prop
  | [], [] => True
  | ks :: kss, ns :: nss => Fits ks ns ∧ FitsAll kss nss
  | _, _ => False
def mkArgs (P : Program) : List TypeId → List (List CK) → List (List Int) → List SV
  | t :: ts, ks :: kss, ns :: nss => .s (mkS1 P t ks ns) :: mkArgs P ts kss nss
  | _, _, _ => []
def shapesK (P : Program) : List TypeId → List (List CK) → Prop
  | [], [] => True
  | t :: ts, ks :: kss => shapeK P 8 t = some ks ∧ shapesK P ts kss
  | _, _ => False
theorem Cells.fits' : ∀ {ks : List CK} {ns : List Int} {cs : List Value}, Cells ks ns cs → Fits ks ns
  | [], [], [], _ => trivial
  | _ :: _, _ :: _, _ :: _, h => ⟨h.1, fits' h.2.2⟩
  | [], [], _ :: _, h => h.elim
  | [], _ :: _, _, h => h.elim
  | _ :: _, [], _, h => h.elim
  | _ :: _, _ :: _, [], h => h.elim
theorem args_plain {W : World} : ∀ {ts : List TypeId} {kss : List (List CK)} {vals : List Value}, shapesK P ts kss → F2 (ArgOK P W) ts vals →
    ∃ nss, FitsAll kss nss ∧ F2 (RS fun _ => none) (mkArgs P ts kss nss) vals
  | [], [], [], _, _ => ⟨[], trivial, trivial⟩
  | t :: ts, ks :: kss, v :: vals, hs, h => by
    obtain ⟨ns, cs, hc, hr⟩ := arg_plain h.1 hs.1
    obtain ⟨nss, h1, h2⟩ := args_plain hs.2 h.2
    exact ⟨ns :: nss, ⟨hc.fits', h1⟩, hr _, h2⟩
  | [], [], _ :: _, _, h => h.elim
  | [], _ :: _, _, h, _ => h.elim
  | _ :: _, [], _, h, _ => h.elim
  | _ :: _, _ :: _, [], _, h => h.elim

/-- The value of a law that holds. -/
def IsTrue : SV → Prop
  | .s (.one (.bool b)) => b.val = true
  | _ => False
theorem IsTrue.value {x : SV} {ρ : Rho} {v : Value} (h : IsTrue x) (hr : RS ρ x v) : v = .bool true := by
  unfold IsTrue at h
  split at h
  · rename_i b
    have : v = .bool b.val := hr
    rw [this, h]
  · exact h.elim
theorem Tr.all_vmap {α β : Type} {f : α → β} {t : Tr α} {Q : β → Prop} : (t.vmap f).All Q ↔ t.All fun a => Q (f a) := by
  induction t with
  | ok a => rfl
  | ite c t e iht ihe => simp [vmap, All, iht, ihe]
  | no s => rfl
/-- All leaves are true. -/
structure Holds (t : Tr SV) : Prop where
  all : t.All IsTrue
theorem Holds.of {t t' : Tr SV} (h : t = t') (h' : t'.All IsTrue) : Holds t := ⟨h ▸ h'⟩
theorem core_plain (hP : ProgOK P) {I : FuncId → Option (Intr A)} (hI : ∀ f i, I f = some i → FunOK S P f i) (rounds d : Nat) {f : FuncId} {ts : List TypeId} (kss : List (List CK)) (hs : shapesK P ts kss)
    (h : ∀ nss, FitsAll kss nss → Holds ((evF P I rounds d f (mkArgs P ts kss nss) [] 0).vmap (·.val))) (W : World) (vals : List Value) (ha : F2 (ArgOK P W) ts vals) :
    Calls P f vals.toArray W fun e W' => ∃ v, e = .returned v ∧ v = .bool true ∧ Below W.heap.size W W' := by
  obtain ⟨nss, hf, hr⟩ := args_plain hs ha
  exact calls_of_ev hP hI rounds d (by
    have := Tr.all_vmap.1 (h nss hf).all
    obtain ⟨r, hr, hq⟩ := Tr.all_iff.1 this
    exact Tr.all_iff.2 ⟨r, hr, fun ρ v hv => hq.value hv⟩) hr
end
end Go.Proofs.Ytcolladpdmjloaa.Eng
