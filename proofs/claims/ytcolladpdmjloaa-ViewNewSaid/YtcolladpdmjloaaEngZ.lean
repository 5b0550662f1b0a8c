/-
  The engine, part Z: laws whose arguments are slices of plain elements.
-/
import Derived.Test.YtcolladpdmjloaaEngY
import Derived.DataReads
import Derived.ChangeOld
namespace Go.Proofs.Ytcolladpdmjloaa.Eng
open Go Go.RowKit

section
variable {P : Program} {H : Type} {enc : TypeId × Value → H} {w : World} {base : Nat} {sp : Nat → Bool} {held : Bool}
/-- What is read of a slice: it is nil, or each of its elements is of numbers that fit. -/
theorem slice_read {fuel : Nat} {t e : TypeId} {v : Value} {x : DataW H × List MemPlace} {ks : List CK} (hu : P.underlying t = some (.slice e)) (hs : shapeK P 8 e = some ks)
    (h : DataW.trod enc P w base sp held fuel t [v] = some x) :
    v = .slice none 0 0 ∨ ∃ a len cap, v = .slice (some a) len cap ∧ len ≤ cap ∧ cap ≤ maxLen ∧ ∀ i, i < len → ∃ cs ns, w.cells? base (a.add (i * P.cellsOf e)) (P.cellsOf e) = some cs ∧ Cells ks ns cs := by
  cases fuel with
  | zero => simp [DataW.trod] at h
  | succ fuel =>
    unfold DataW.trod at h
    rw [hu] at h
    split at h
    all_goals first | (rename_i q1 q2; cases q1; done) | (rename_i q1 q2; cases q2; done) | (cases h; done) | skip
    · rename_i q1 q2
      first
        | (injection q1 with q1; exact .inl q1)
        | (injection q2 with q2; exact .inl q2)
    · rename_i e' a len cap q1 q2
      injection q2 with hv
      injection q1 with q1
      injection q1 with he
      subst hv he
      simp only at h
      split at h
      · rename_i hle
        refine .inr ⟨_, _, _, rfl, hle.2.1, hle.2.2, fun i hi => ?_⟩
        cases hm : ((List.range len).mapM fun i => (w.cells? base (a.add (i * P.cellsOf e)) (P.cellsOf e)).bind (DataW.trod enc P w base sp held fuel e)) with
        | none => rw [hm] at h; cases h
        | some xs =>
          rw [List.range_eq_range'] at hm
          obtain ⟨b, hb⟩ := range_mapM_shift len 0 hm i hi
          rw [Nat.zero_add] at hb
          cases hc : w.cells? base (a.add (i * P.cellsOf e)) (P.cellsOf e) with
          | none => rw [hc] at hb; cases hb
          | some cs =>
            rw [hc] at hb
            obtain ⟨ns, hns⟩ := shape_read 8 hb hs
            exact ⟨cs, ns, rfl, hns⟩
      · cases h
end
theorem Cells.get : ∀ {ks : List CK} {ns : List Int} {cs : List Value}, Cells ks ns cs → ∀ (j : Nat) k, ks[j]? = some k → ∃ n, ns[j]? = some n ∧ k.fits n ∧ cs[j]? = some (k.real n)
  | k0 :: ks, n0 :: ns, c0 :: cs, h, 0, k, hk => by
    simp only [List.getElem?_cons_zero, Option.some.injEq] at hk
    subst hk
    exact ⟨n0, rfl, h.1, by rw [h.2.1]; rfl⟩
  | k0 :: ks, n0 :: ns, c0 :: cs, h, j + 1, k, hk => by
    obtain ⟨n, h1, h2, h3⟩ := Cells.get h.2.2 j k (by simpa using hk)
    exact ⟨n, by simpa using h1, h2, by simpa using h3⟩
  | [], [], [], _, _, _, hk => by simp at hk
  | [], [], _ :: _, h, _, _, _ => h.elim
  | [], _ :: _, _, h, _, _, _ => h.elim
  | _ :: _, [], _, h, _, _, _ => h.elim
  | _ :: _, _ :: _, [], h, _, _, _ => h.elim

section
variable {P : Program}
/-- A slice that was handed in: its rows. -/
theorem arg_slice {W : World} {t e : TypeId} {v : Value} {ks : List CK} (h : ArgOK P W t v) (hu : P.underlying t = some (.slice e)) (hs : shapeK P 8 e = some ks) (hl : ks.length = P.cellsOf e) (h0 : 0 < ks.length) :
    ∃ (xs : List (List Int)) (p : Pl), RFits ks xs ∧ xs.length ≤ 9223372036854775807 ∧ ∀ {A : Type} (S : Sys A) (ρ : Rho) (b : Nat), ρ b = some p → RV ρ (.an b (.sym xs.length)) v ∧ OK S W.heap.size ρ (fun _ => False) b (.rotab ks xs) W := by
  obtain ⟨⟨base, hv⟩, H, enc, d, ps, ⟨fuel, ht⟩, _⟩ := h
  have hcells : v.cells.toList = [v] := by
    unfold Value.okWide at hv
    rw [hu] at hv
    simp only at hv
    unfold Cell.okWide Cell.ok at hv
    rw [hu] at hv
    cases v <;> first | rfl | (simp at hv)
  rw [hcells] at ht
  rcases slice_read hu hs ht with rfl | ⟨a, len, cap, rfl, hlc, hcm, hel⟩
  · refine ⟨[], ⟨0, 0, ks.length, 0⟩, fun i row hr => by simp at hr, by simp, fun S ρ b hb => ⟨⟨none, 0, rfl, by simp [SN.val], fun _ => ⟨rfl, rfl⟩, fun h => by simp [SN.val] at h⟩, ⟨_, hb, fun _ h => h, rfl, fun h => absurd rfl h⟩⟩⟩
  · have hlen : len ≤ 9223372036854775807 := by
      have : maxLen = 9223372036854775807 := by decide
      omega
    rcases Nat.eq_zero_or_pos len with rfl | hpos
    · refine ⟨[], ⟨0, 0, ks.length, 0⟩, fun i row hr => by simp at hr, by simp, fun S ρ b hb => ⟨⟨some a, cap, rfl, by simp [SN.val], fun h => (by cases h), fun h => by simp [SN.val] at h⟩, ⟨_, hb, fun _ h => h, rfl, fun h => absurd rfl h⟩⟩⟩
    · have hch : ∀ i : Nat, ∃ ns : List Int, i < len → ∃ cs, W.cells? 0 (a.add (i * P.cellsOf e)) (P.cellsOf e) = some cs ∧ Cells ks ns cs := fun i => by
        by_cases hi : i < len
        · obtain ⟨cs, ns, h1, h2⟩ := hel i hi
          exact ⟨ns, fun _ => ⟨cs, h1, h2⟩⟩
        · exact ⟨[], fun h => absurd h hi⟩
      let f : Nat → List Int := fun i => Classical.choose (hch i)
      have hf : ∀ i, i < len → ∃ cs, W.cells? 0 (a.add (i * P.cellsOf e)) (P.cellsOf e) = some cs ∧ Cells ks (f i) cs := fun i hi => Classical.choose_spec (hch i) hi
      have hcell : ∀ i, i < len → ∀ (j : Nat) k, ks[j]? = some k → ∃ n, (f i)[j]? = some n ∧ k.fits n ∧ W.cell? ((a.add (i * P.cellsOf e)).add j) = some (k.real n) := fun i hi j k hk => by
        obtain ⟨cs, h1, h2⟩ := hf i hi
        obtain ⟨n, g1, g2, g3⟩ := Cells.get h2 j k hk
        have hj : j < P.cellsOf e := by rw [← hl]; exact (List.getElem?_eq_some_iff.1 hk).1
        exact ⟨n, g1, g2, by rw [(World.cells?_some h1).2.2 j hj]; exact g3⟩
      have hk0 : ks[0]? = some ks[0] := List.getElem?_eq_getElem h0
      obtain ⟨n0, _, _, hc0⟩ := hcell 0 hpos 0 _ hk0
      have ha0 : ∀ x : Addr, x.add 0 = x := fun x => by simp [Addr.add]
      rw [Nat.zero_mul, ha0, ha0] at hc0
      obtain ⟨blk, off, spot⟩ := a
      have hspot : spot = none ∧ ∃ arr ty fr, W.heap[blk]? = some (.cells arr ty fr) := by
        unfold World.cell? at hc0
        simp only at hc0
        split at hc0
        · rename_i arr ty fr hw
          split at hc0
          · cases hc0
          · rename_i hs
            refine ⟨?_, arr, ty, fr, hw⟩
            cases spot with
            | none => rfl
            | some _ => simp at hs
        · cases hc0
      obtain ⟨rfl, arr, ty, fr, hw⟩ := hspot
      have hblk : blk < W.heap.size := by
        rcases Nat.lt_or_ge blk W.heap.size with h1 | h1
        · exact h1
        · rw [Array.getElem?_eq_none h1] at hw; cases hw
      have hat : ∀ i, i < len → ∀ (j : Nat) k, ks[j]? = some k → ∃ n, (f i)[j]? = some n ∧ k.fits n ∧ arr[off + i * ks.length + j]? = some (k.real n) := fun i hi j k hk => by
        obtain ⟨n, g1, g2, g3⟩ := hcell i hi j k hk
        rw [add_mk, add_mk, cell_of_blk hw, ← hl] at g3
        exact ⟨n, g1, g2, g3⟩
      have hrow : ∀ (i : Nat) row, ((List.range len).map f)[i]? = some row → i < len ∧ row = f i := fun i row hr => by
        rw [List.getElem?_map] at hr
        rcases Nat.lt_or_ge i len with hi | hi
        · rw [List.getElem?_range hi] at hr
          injection hr with hr
          exact ⟨hi, hr.symm⟩
        · rw [List.getElem?_eq_none (by simpa using hi)] at hr
          cases hr
      have hfits : RFits ks ((List.range len).map f) := fun i row hr j k hk => by
        obtain ⟨hi, rfl⟩ := hrow i row hr
        obtain ⟨n, g1, g2, _⟩ := hat i hi j k hk
        exact ⟨n, g1, g2⟩
      have hxl : ((List.range len).map f).length = len := by simp
      have hsize : off + len * ks.length ≤ arr.size := by
        obtain ⟨n, _, _, g3⟩ := hat (len - 1) (by omega) (ks.length - 1) _ (List.getElem?_eq_getElem (by omega))
        have := (Array.getElem?_eq_some_iff.1 g3).1
        have e1 : len * ks.length = (len - 1) * ks.length + ks.length := by
          rw [← Nat.succ_mul]
          congr 1
          omega
        omega
      refine ⟨(List.range len).map f, ⟨blk, off, ks.length, len⟩, hfits, by rw [hxl]; exact hlen, fun S ρ b hb => ⟨⟨some ⟨blk, off, none⟩, cap, by simp [SN.val], by simpa [SN.val] using hlen, fun h => (by cases h), fun _ => ⟨_, hb, rfl⟩⟩,
        ⟨_, hb, fun _ h => h, rfl, fun _ => ⟨arr, ty, fr, hblk, hw, rfl, by rw [hxl]; exact Nat.le_refl _, hsize, fun i row hr j k hk => ?_⟩⟩⟩⟩
      obtain ⟨hi, rfl⟩ := hrow i row hr
      exact hat i hi j k hk
end

section
variable {A : Type} {S : Sys A} {P : Program}
/-- A function that is entered with numbers and with slices that nobody writes (names below m). -/
def argCtx (A : Type) (m N : Nat) (ρ0 : Rho) (hρ : ∀ b, m ≤ b → ρ0 b = none) (w : World) : Ctx A where
  B := w.heap.size
  Z0 := fun b => m ≤ b
  nid0 := m
  top := N
  ρ0 := ρ0
  F0 := fun _ _ => False
  w0 := w
  D := fun b => m ≤ b
  own := fun b h _ => ⟨h, h⟩
  new := hρ
theorem calls_of_triA {f : FuncId} {fn : Func} {c : Code} (hf : P.funcs[f]? = some fn) (hb : fn.body = some c) (m N : Nat) (hN : m ≤ N) {args : List SV} {vargs : List Value} {w : World} {R : SV → Prop} {hp : HP A} {ρ0 : Rho} (hρ : ∀ b, m ≤ b → ρ0 b = none)
    (hlive : ∀ b o, hget hp b = some o → OK S w.heap.size ρ0 (fun _ => False) b o w)
    (h : Tri S P (argCtx A m N ρ0 hρ w) c ⟨args ++ List.replicate (fn.ntmps - args.length) .undef, hp, m, []⟩ fun x st => (x = .normal ∨ x = .ret) ∧ ∃ l, (vresults P st fn.results.toList).run = some l ∧ R (tupleOf l))
    (hargs : F2 (RS ρ0) args vargs) :
    Calls P f vargs.toArray w fun e w' => ∃ v x ρ, e = .returned v ∧ RS ρ x v ∧ R x ∧ Below w.heap.size w w' := by
  refine calls_of_wp hf hb ?_
  have hlen : args.length = vargs.length := hargs.length
  have hhr : HR S w.heap.size (fun b => m ≤ b) ρ0 (fun _ _ => False) (hget hp) w :=
    ⟨hlive, fun _ _ _ h => h, fun _ _ h => h.elim, fun _ _ _ h => h.elim, hρ, Nat.le_refl _⟩
  have hat : At S (argCtx A m N ρ0 hρ w) ⟨args ++ List.replicate (fn.ntmps - args.length) .undef, hp, m, []⟩ ⟨vargs.toArray ++ Array.replicate (fn.ntmps - vargs.toArray.size) undef, []⟩ w := by
    refine ⟨Nat.le_refl _, hN, ρ0, fun _ _ => False, ⟨rfl, fun t => ?_⟩, by rw [show (argCtx A m N ρ0 hρ w).Z0 = fun b => m ≤ b from rfl, show (argCtx A m N ρ0 hρ w).nid0 = m from rfl, Zm_self]; exact hhr, Chg.refl _ _ _ _⟩
    have h2 : F2 (RS ρ0) (args ++ List.replicate (fn.ntmps - args.length) .undef) (vargs ++ List.replicate (fn.ntmps - vargs.toArray.size) undef) := by
      rw [show vargs.toArray.size = args.length by simp [hlen]]
      exact hargs.append (F2.replicate _ (RS_undef _))
    have h3 : (vargs.toArray ++ Array.replicate (fn.ntmps - vargs.toArray.size) undef)[t]? = (vargs ++ List.replicate (fn.ntmps - vargs.toArray.size) undef)[t]? := by
      rw [← Array.getElem?_toList]
      simp
    show RT _ (args ++ List.replicate (fn.ntmps - args.length) SV.undef)[t]? (vargs.toArray ++ Array.replicate (fn.ntmps - vargs.toArray.size) undef)[t]?
    rw [h3]
    cases hg : (args ++ List.replicate (fn.ntmps - args.length) SV.undef)[t]? with
    | none => rw [h2.getNone t hg]; trivial
    | some v =>
      obtain ⟨u, hu, huv⟩ := h2.get t hg
      rw [hu]
      exact huv
  refine wp_mono (h _ _ hat) ?_
  rintro e a' w' ⟨x, st, rfl, ⟨hx, l, hl, hR⟩, h0, h1, ρ, F, ha, hr, hc⟩
  obtain ⟨vs, hvs, hrs⟩ := vresults_sound ha hr hl
  have hq := results_run hvs
  have : bodyPost P fn (fun e w' => ∃ v x ρ, e = .returned v ∧ RS ρ x v ∧ R x ∧ Below w.heap.size w w') .normal a' w' :=
    ⟨ha.defers, _, hq, _, _, ρ, rfl, tupleOf_RS hrs, hR, ⟨hc.same.os, hc.same.tape, hc.same.output, hc.same.size, fun k hk => hc.heap k hk fun _ _ h => h⟩⟩
  rcases hx with rfl | rfl <;> exact this
end
end Go.Proofs.Ytcolladpdmjloaa.Eng
