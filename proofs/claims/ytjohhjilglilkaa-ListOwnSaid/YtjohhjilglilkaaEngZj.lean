/-
  The engine, part Zj: the row of a law whose slices are no longer than a machine's memory holds (the form's own reach): so a length and a small number may be added.
-/
import Derived.Test.YtjohhjilglilkaaEngZ
import Derived.SizedLaws
namespace Go.Proofs.Ytjohhjilglilkaa.Eng
open Go Go.RowKit
/-- What an argument is read as takes no more bytes than the form's reach. -/
def ArgSz (P : Program) (W : World) (t : TypeId) (v : Value) : Prop :=
  ∃ (H : Type) (enc : TypeId × Value → H) (d : DataW H) (ps : List MemPlace), DataW.Trod enc P W 0 (fun _ => true) true t v d ps ∧ ∀ x ∈ d.weights P t, x ≤ reachBytes
section
variable {P : Program} {H : Type} {enc : TypeId × Value → H}
theorem args_sz {W : World} {us : List TypeId} {gs : List (DataW H)} : ∀ {ts : List TypeId} {vs : List Value} {ds : List (DataW H)} {ps : List MemPlace}, (∀ x ∈ DataW.weightsEach P (ts ++ us) (ds ++ gs), x ≤ reachBytes) →
    DataW.TrodAll enc P W 0 (fun _ => true) true ts vs ds ps → F2 (ArgSz P W) ts vs
  | [], [], [], _, _, _ => trivial
  | t :: ts, v :: vs, d :: ds, ps, hw, ⟨p, q, h1, h2, _⟩ => by
    have hw : ∀ x ∈ d.weights P t ++ DataW.weightsEach P (ts ++ us) (ds ++ gs), x ≤ reachBytes := by
      rw [List.cons_append, List.cons_append] at hw
      unfold DataW.weightsEach at hw
      exact hw
    exact ⟨⟨H, enc, d, p, h1, fun x hx => hw x (List.mem_append_left _ hx)⟩, args_sz (fun x hx => hw x (List.mem_append_right _ hx)) h2⟩
  | [], _ :: _, _, _, _, h => h.elim
  | [], [], _ :: _, _, _, h => h.elim
  | _ :: _, [], _, _, _, h => h.elim
  | _ :: _, _ :: _, [], _, _, h => h.elim
theorem mapM_len' {α β : Type} {f : α → Option β} : ∀ {l : List α} {r : List β}, l.mapM f = some r → r.length = l.length
  | [], r, h => by simp at h; subst h; rfl
  | x :: l, r, h => by
    rw [List.mapM_cons] at h
    cases hx : f x with
    | none => rw [hx] at h; cases h
    | some y =>
      rw [hx] at h
      cases hl : l.mapM f with
      | none => rw [hl] at h; cases h
      | some r' =>
        rw [hl] at h
        injection h with h
        subst h
        simp [mapM_len' hl]
theorem sz_len {W : World} {t e : TypeId} {a : Addr} {len cap : Nat} (h : ArgSz P W t (.slice (some a) len cap)) (hu : P.underlying t = some (.slice e)) : len * P.bytesOf e ≤ reachBytes := by
  obtain ⟨H, enc, d, ps, ⟨fuel, ht⟩, hw⟩ := h
  cases fuel with
  | zero => simp [DataW.trod] at ht
  | succ fuel =>
    have ht : DataW.trod enc P W 0 (fun _ => true) true (fuel + 1) t [.slice (some a) len cap] = some (d, ps) := ht
    unfold DataW.trod at ht
    rw [hu] at ht
    simp only at ht
    split at ht
    · cases hm : ((List.range len).mapM fun i => (W.cells? 0 (a.add (i * P.cellsOf e)) (P.cellsOf e)).bind (DataW.trod enc P W 0 (fun _ => true) true fuel e)) with
      | none => rw [hm] at ht; cases ht
      | some xs =>
        have hl := mapM_len' hm
        rw [hm] at ht
        simp only [Option.bind_some] at ht
        cases hm2 : (if (fun _ => true) a.block = true then (List.range (cap - len)).mapM fun j => (W.cells? 0 (a.add ((len + j) * P.cellsOf e)) (P.cellsOf e)).bind (DataW.trod enc P W 0 (fun _ => true) true fuel e) else some []) with
        | none => simp only at hm2; rw [hm2] at ht; cases ht
        | some ys =>
          simp only at hm2; rw [hm2] at ht
          injection ht with ht
          injection ht with h1 h2
          subst h1
          unfold DataW.weights at hw
          rw [hu] at hw
          have := hw _ (List.mem_cons_self ..)
          rw [List.length_map, List.length_map, hl, List.length_range] at this
          exact Nat.le_trans (Nat.mul_le_mul_right _ (Nat.le_add_right _ _)) this
    · cases ht
/-- A slice that was handed in has no more elements than fit. -/
theorem an_len {W : World} {t e : TypeId} {v : Value} {ρ : Rho} {b n k : Nat} (h : ArgSz P W t v) (hu : P.underlying t = some (.slice e)) (hr : RV ρ (.an b (.sym n)) v) (hk : P.bytesOf e = k) : n * k ≤ reachBytes := by
  obtain ⟨o, cap, rfl, _, h0, _⟩ := hr
  cases o with
  | none => rw [show n = 0 from (h0 rfl).1]; omega
  | some a => rw [← hk]; exact sz_len h hu
theorem law_liftedS {a : Assume} {C : Checked} {os : Os} {f : FuncId} {fn : Func} {s : ChangeSpec} {conds : List PathCond} (own : ownKnob C.prog.godebug = none) (started : os.Started) (noInit : C.prog.inits.idxOf? f = none)
    (hfn : C.prog.funcs[f]? = some fn)
    (witness : ∃ (w : World) (tape : Tape) (i : Input), w.os = os ∧ (w.forCall tape i).Shaped C.prog ∧ i.vars = [] ∧ Input.okWide C.prog (w.forCall tape i) .any w.heap.size f i ∧
      s.pre6 enc C.prog fn conds false (w.forCall tape i).memory i.args ∧ a.holds C.prog (lone (Frame.enter C.prog f i.args .normal) [] (w.forCall tape i)))
    {tb : TypeId} (hbool : C.prog.underlying tb = some .bool) (hres : fn.resultTypes = #[tb]) (hvars : s.vars = [])
    (hspec : ∀ ds : List (DataW H), ds.length = fn.params.size → (s.fn H ds).results = [.lit (.bool true)] ∧ (s.fn H ds).args = ds ∧ (s.fn H ds).vars = [])
    (laid : laidOutB C.prog = true) (hread : (fn.params.toList.all fun t => C.prog.readableRec t && decide (t < C.prog.types.size)) = true)
    (core : ∀ (W : World) (vals : List Value), F2 (ArgOK C.prog W) fn.params.toList vals → F2 (ArgSz C.prog W) fn.params.toList vals → Calls C.prog f vals.toArray W fun e W' => ∃ v, e = .returned v ∧ v = .bool true ∧ Below W.heap.size W W') :
    ReturnsInHanded a C os f .any (s.pre6 enc C.prog fn conds false) (s.post enc C.prog fn false true false false) := by
  refine returnsInHanded_of_change_sized own started noInit hfn witness ?_
  intro W base args ds gs before hval hW _ hwt _
  have hW' := hW
  obtain ⟨p, q, hA, hV, hbef, hfz, hnd⟩ := hW
  rw [hvars] at hV
  obtain ⟨rfl, rfl⟩ := ChangeShapes.trodVars_none hV
  have hargs := args_ok (P := C.prog) (base := base) (fun j t v h1 h2 => hval j t v (by simpa using h1) (by simpa using h2)) hA
  have hsz := args_sz (P := C.prog) (fun x hx => of_decide_eq_true (List.all_eq_true.1 hwt x hx)) hA
  have hc := core W args.toList hargs hsz
  rw [Array.toArray_toList] at hc
  refine hc.mono fun e W' ⟨v, he, hv, bel⟩ => ⟨v, he, ?_⟩
  subst hv
  have hlen : ds.length = fn.params.size := by rw [trodAll_len hA]; simp
  obtain ⟨s1, s2, s3⟩ := hspec ds hlen
  refine ⟨ds, [], before, [], p, [], hW', ?_, ?_, ?_, bel.frame _, fun h => by cases h⟩
  · rw [List.append_nil, s1, hres]
    exact ChangeShapes.trodAll_mk1 ⟨1, by simp [DataW.trod, hbool, Value.cells]⟩
  · rw [List.append_nil, s2]
    exact args_stay laid bel hread hA
  · rw [List.append_nil, s3, hvars]
    rfl
end
end Go.Proofs.Ytjohhjilglilkaa.Eng
