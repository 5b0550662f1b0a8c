/-
  The engine, part N: the row of a law out of its call.
-/
import Derived.Test.YtlkanbgcghjhnaaEngM
namespace Go.Proofs.Ytlkanbgcghjhnaa.Eng
open Go Go.RowKit

/-- What is known of an argument of a law. -/
def ArgOK (P : Program) (W : World) (t : TypeId) (v : Value) : Prop :=
  (∃ base, Value.okWide P W .any base t v) ∧ ∃ (H : Type) (enc : TypeId × Value → H) (d : DataW H) (ps : List MemPlace), DataW.Trod enc P W 0 (fun _ => true) true t v d ps ∧ ∀ x ∈ ps, x.block < W.heap.size

section
variable {P : Program} {H : Type} {enc : TypeId × Value → H}
theorem trodAll_len {w : World} {b : Nat} {sp : Nat → Bool} {hd : Bool} : ∀ {ts : List TypeId} {vs : List Value} {ds : List (DataW H)} {ps : List MemPlace}, DataW.TrodAll enc P w b sp hd ts vs ds ps → ds.length = ts.length
  | [], [], [], _, _ => rfl
  | _ :: _, _ :: _, _ :: _, _, ⟨_, _, _, h, _⟩ => by simp [trodAll_len h]
  | [], _ :: _, _, _, h => h.elim
  | [], [], _ :: _, _, h => h.elim
  | _ :: _, [], _, _, h => h.elim
  | _ :: _, _ :: _, [], _, h => h.elim

theorem args_stay {W W' : World} (laid : laidOutB P = true) (hb : Below W.heap.size W W') : ∀ {ts : List TypeId} {vs : List Value} {ds : List (DataW H)} {ps : List MemPlace},
    (ts.all fun t => P.readableRec t && decide (t < P.types.size)) = true → DataW.TrodAll enc P W 0 (fun _ => true) true ts vs ds ps →
    DataW.TrodAll enc P W' 0 (fun b => decide (b < W.heap.size)) true ts vs ds ps
  | [], [], [], _, _, h => h
  | t :: ts, v :: vs, d :: ds, ps, hr, ⟨p, q, h1, h2, h3⟩ => by
    rw [List.all_cons, Bool.and_eq_true, Bool.and_eq_true, decide_eq_true_eq] at hr
    have hlt : ∀ x ∈ p, x.block < W.heap.size := by obtain ⟨m, hm⟩ := h1; exact DataW.trod_lt m _ _ _ hm
    exact ⟨p, q, Below.trod laid hr.1.1 hr.1.2 h1 hb hlt, args_stay laid hb hr.2 h2, h3⟩
  | [], _ :: _, _, _, _, h => h.elim
  | [], [], _ :: _, _, _, h => h.elim
  | _ :: _, [], _, _, _, h => h.elim
  | _ :: _, _ :: _, [], _, _, h => h.elim

theorem args_ok {W : World} {base : Nat} : ∀ {ts : List TypeId} {vs : List Value} {ds : List (DataW H)} {ps : List MemPlace}, (∀ (j : Nat) t v, ts[j]? = some t → vs[j]? = some v → Value.okWide P W .any base t v) →
    DataW.TrodAll enc P W 0 (fun _ => true) true ts vs ds ps → F2 (ArgOK P W) ts vs
  | [], [], [], _, _, _ => trivial
  | t :: ts, v :: vs, d :: ds, ps, hv, ⟨p, q, h1, h2, _⟩ =>
    ⟨⟨⟨base, hv 0 t v rfl rfl⟩, H, enc, d, p, h1, by obtain ⟨m, hm⟩ := h1; exact DataW.trod_lt m _ _ _ hm⟩, args_ok (fun j t v h1 h2 => hv (j + 1) t v (by simpa using h1) (by simpa using h2)) h2⟩
  | [], _ :: _, _, _, _, h => h.elim
  | [], [], _ :: _, _, _, h => h.elim
  | _ :: _, [], _, _, _, h => h.elim
  | _ :: _, _ :: _, [], _, _, h => h.elim

theorem law_lifted {a : Assume} {C : Checked} {os : Os} {f : FuncId} {fn : Func} {s : ChangeSpec} {conds : List PathCond} (own : ownKnob C.prog.godebug = none) (started : os.Started) (noInit : C.prog.inits.idxOf? f = none)
    (hfn : C.prog.funcs[f]? = some fn)
    (witness : ∃ (w : World) (tape : Tape) (i : Input), w.os = os ∧ (w.forCall tape i).Shaped C.prog ∧ i.vars = [] ∧ Input.okWide C.prog (w.forCall tape i) .any w.heap.size f i ∧
      s.pre6 enc C.prog fn conds false (w.forCall tape i).memory i.args ∧ a.holds C.prog (lone (Frame.enter C.prog f i.args .normal) [] (w.forCall tape i)))
    {tb : TypeId} (hbool : C.prog.underlying tb = some .bool) (hres : fn.resultTypes = #[tb]) (hvars : s.vars = [])
    (hspec : ∀ ds : List (DataW H), ds.length = fn.params.size → (s.fn H ds).results = [.lit (.bool true)] ∧ (s.fn H ds).args = ds ∧ (s.fn H ds).vars = [])
    (laid : laidOutB C.prog = true) (hread : (fn.params.toList.all fun t => C.prog.readableRec t && decide (t < C.prog.types.size)) = true)
    (core : ∀ (W : World) (vals : List Value), F2 (ArgOK C.prog W) fn.params.toList vals → Calls C.prog f vals.toArray W fun e W' => ∃ v, e = .returned v ∧ v = .bool true ∧ Below W.heap.size W W') :
    ReturnsInHanded a C os f .any (s.pre6 enc C.prog fn conds false) (s.post enc C.prog fn false true false false) := by
  refine returnsInHanded_of_change own started noInit hfn witness ?_
  intro W base args ds gs before hval hW _ _
  have hW' := hW
  obtain ⟨p, q, hA, hV, hbef, hfz, hnd⟩ := hW
  rw [hvars] at hV
  obtain ⟨rfl, rfl⟩ := ChangeShapes.trodVars_none hV
  have hargs := args_ok (P := C.prog) (base := base) (fun j t v h1 h2 => hval j t v (by simpa using h1) (by simpa using h2)) hA
  have hc := core W args.toList hargs
  rw [Array.toArray_toList] at hc
  refine hc.mono fun e W' ⟨v, he, hv, bel⟩ => ⟨v, he, ?_⟩
  subst hv
  have hlen : ds.length = fn.params.size := by rw [trodAll_len hA]; simp
  obtain ⟨s1, s2, s3⟩ := hspec ds hlen
  refine ⟨ds, [], before, [], p, [], hW', ?_, ?_, ?_, bel.frame _, fun h => by cases h⟩
  · rw [List.append_nil, s1, hres]
    exact ChangeShapes.trodAll_mk1 ⟨1, by simp [DataW.trod, hbool, Value.cells]⟩
  · rw [List.append_nil, s2]
    exact args_stay laid bel hread hA
  · rw [List.append_nil, s3, hvars]
    rfl

/-- A plain argument is made of numbers. -/
def mkS1 (P : Program) (t : TypeId) (ks : List CK) (ns : List Int) : S1 := match aggK P t with
  | some true => .agg (zipK ks ns)
  | _ => match ks, ns with
    | k :: _, n :: _ => .one (k.vv n)
    | _, _ => .agg []
theorem arg_plain {W : World} {t : TypeId} {v : Value} {ks : List CK} (h : ArgOK P W t v) (hs : shapeK P 8 t = some ks) :
    ∃ (ns : List Int) (cs : List Value), Cells ks ns cs ∧ ∀ ρ, R1 ρ (mkS1 P t ks ns) v := by
  obtain ⟨⟨base, hv⟩, H, enc, d, ps, ⟨fuel, ht⟩, _⟩ := h
  obtain ⟨ns, hc⟩ := shape_read 8 ht hs
  refine ⟨ns, _, hc, fun ρ => ?_⟩
  unfold mkS1 aggK
  unfold Value.okWide at hv
  have hsk := hs
  unfold shapeK at hsk
  cases hu : P.underlying t with
  | none => simp [hu] at hsk
  | some dd =>
    rw [hu] at hv hsk
    cases dd
    case struct fs =>
      obtain ⟨cs, rfl, _, _⟩ := hv
      exact ⟨cs.toList, by simp, hc.rel ρ⟩
    case array n e =>
      obtain ⟨cs, rfl, _, _⟩ := hv
      exact ⟨cs.toList, by simp, hc.rel ρ⟩
    case int k =>
      simp only [Option.some.injEq] at hsk
      subst hsk
      simp only
      have hone : v.cells.toList.length = 1 := hc.length.2
      cases ns with
      | nil => have := hc.length.1; simp at this
      | cons n ns =>
        simp only
        have hv1 : v.cells.toList = [v] ∨ ∃ cs, v = .agg cs := by cases v <;> first | exact .inl rfl | exact .inr ⟨_, rfl⟩
        rcases hv1 with h1 | ⟨cs, rfl⟩
        · rw [h1] at hc
          exact (show RV ρ ((CK.int k).vv n) v from hc.2.1 ▸ vv_real ρ _ n hc.1)
        · simp [Cell.okWide, Cell.ok, hu] at hv
    case bool =>
      simp only [Option.some.injEq] at hsk
      subst hsk
      simp only
      cases ns with
      | nil => have := hc.length.1; simp at this
      | cons n ns =>
        simp only
        have hv1 : v.cells.toList = [v] ∨ ∃ cs, v = .agg cs := by cases v <;> first | exact .inl rfl | exact .inr ⟨_, rfl⟩
        rcases hv1 with h1 | ⟨cs, rfl⟩
        · rw [h1] at hc
          exact (show RV ρ (CK.bool.vv n) v from hc.2.1 ▸ vv_real ρ _ n hc.1)
        · simp [Cell.okWide, Cell.ok, hu] at hv
    all_goals simp at hsk
end
end Go.Proofs.Ytlkanbgcghjhnaa.Eng
