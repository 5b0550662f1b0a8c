/-
  The engine, part Zk: a struct that was handed in (its slices, its numbers).
-/
import Derived.Test.YtdongoplhnpdiaaEngZ
namespace Go.Proofs.Ytdongoplhnpdiaa.Eng
open Go Go.RowKit
section
variable {P : Program}
theorem mapM_mem {α β : Type} {f : α → Option β} : ∀ {l : List α} {ys : List β}, l.mapM f = some ys → ∀ a, a ∈ l → ∃ b, f a = some b
  | [], _, _, a, ha => by cases ha
  | x :: l, ys, h, a, ha => by
    rw [List.mapM_cons] at h
    cases hx : f x with
    | none => rw [hx] at h; cases h
    | some b =>
      rw [hx] at h
      cases hl : l.mapM f with
      | none => rw [hl] at h; cases h
      | some zs =>
        rcases List.mem_cons.1 ha with rfl | ha
        · exact ⟨b, hx⟩
        · exact mapM_mem hl a ha
section
variable {H : Type} {enc : TypeId × Value → H} {w : World} {base : Nat} {sp : Nat → Bool} {held : Bool}
theorem trod_struct {fuel : Nat} {t : TypeId} {cs : List Value} {x : DataW H × List MemPlace} {fs : Array Field} (hu : P.underlying t = some (.struct fs)) (h : DataW.trod enc P w base sp held (fuel + 1) t cs = some x) :
    cs.length = P.cellsOf t ∧ ∀ f, f ∈ fs.toList → ∃ y, DataW.trod enc P w base sp held fuel f.type ((cs.drop f.offset).take (P.cellsOf f.type)) = some y := by
  unfold DataW.trod at h
  rw [hu] at h
  simp only at h
  split at h
  · rename_i hl
    refine ⟨hl, fun f hf => ?_⟩
    rw [Option.map_eq_some_iff] at h
    obtain ⟨ys, hy, _⟩ := h
    exact mapM_mem hy f hf
  · cases h
theorem trod_array {fuel n : Nat} {t e : TypeId} {cs : List Value} {x : DataW H × List MemPlace} (hu : P.underlying t = some (.array n e)) (h : DataW.trod enc P w base sp held (fuel + 1) t cs = some x) :
    cs.length = P.cellsOf t ∧ ∀ i, i < n → ∃ y, DataW.trod enc P w base sp held fuel e ((cs.drop (i * P.cellsOf e)).take (P.cellsOf e)) = some y := by
  unfold DataW.trod at h
  rw [hu] at h
  simp only at h
  split at h
  · rename_i hl
    refine ⟨hl, fun i hi => ?_⟩
    rw [Option.map_eq_some_iff] at h
    obtain ⟨ys, hy, _⟩ := h
    exact mapM_mem hy i (List.mem_range.2 hi)
  · cases h
end
/-- A slice that was handed in, in a cell. -/
theorem cell_slice {H : Type} {enc : TypeId × Value → H} {W : World} {t e : TypeId} {v : Value} {ks : List CK} {fuel : Nat} {x : DataW H × List MemPlace} (ht : DataW.trod enc P W 0 (fun _ => true) true fuel t [v] = some x) (hu : P.underlying t = some (.slice e)) (hs : shapeK P 8 e = some ks) (hl : ks.length = P.cellsOf e) (h0 : 0 < ks.length) :
    ∃ (xs : List (List Int)) (p : Pl), RFits ks xs ∧ xs.length ≤ 9223372036854775807 ∧ ∀ {A : Type} (S : Sys A) (ρ : Rho) (b : Nat), ρ b = some p → RV ρ (.an b (.sym xs.length)) v ∧ OK S W.heap.size ρ (fun _ => False) b (.rotab ks xs) W := by
  rcases slice_read hu hs ht with rfl | ⟨a, len, cap, rfl, hlc, hcm, hel⟩
  · refine ⟨[], ⟨0, 0, ks.length, 0⟩, fun i row hr => by simp at hr, by simp, fun S ρ b hb => ⟨⟨none, 0, rfl, by simp [SN.val], fun _ => ⟨rfl, rfl⟩, fun h => by simp [SN.val] at h⟩, ⟨_, hb, fun _ h => h, rfl, fun h => absurd rfl h⟩⟩⟩
  · have hlen : len ≤ 9223372036854775807 := by
      have : maxLen = 9223372036854775807 := by decide
      omega
    rcases Nat.eq_zero_or_pos len with rfl | hpos
    · refine ⟨[], ⟨0, 0, ks.length, 0⟩, fun i row hr => by simp at hr, by simp, fun S ρ b hb => ⟨⟨some a, cap, rfl, by simp [SN.val], fun h => (by cases h), fun h => by simp [SN.val] at h⟩, ⟨_, hb, fun _ h => h, rfl, fun h => absurd rfl h⟩⟩⟩
    · have hch : ∀ i : Nat, ∃ ns : List Int, i < len → ∃ cs, W.cells? 0 (a.add (i * P.cellsOf e)) (P.cellsOf e) = some cs ∧ Cells ks ns cs := fun i => by
        by_cases hi : i < len
        · obtain ⟨cs, ns, h1, h2⟩ := hel i hi
          exact ⟨ns, fun _ => ⟨cs, h1, h2⟩⟩
        · exact ⟨[], fun h => absurd h hi⟩
      let f : Nat → List Int := fun i => Classical.choose (hch i)
      have hf : ∀ i, i < len → ∃ cs, W.cells? 0 (a.add (i * P.cellsOf e)) (P.cellsOf e) = some cs ∧ Cells ks (f i) cs := fun i hi => Classical.choose_spec (hch i) hi
      have hcell : ∀ i, i < len → ∀ (j : Nat) k, ks[j]? = some k → ∃ n, (f i)[j]? = some n ∧ k.fits n ∧ W.cell? ((a.add (i * P.cellsOf e)).add j) = some (k.real n) := fun i hi j k hk => by
        obtain ⟨cs, h1, h2⟩ := hf i hi
        obtain ⟨n, g1, g2, g3⟩ := Cells.get h2 j k hk
        have hj : j < P.cellsOf e := by rw [← hl]; exact (List.getElem?_eq_some_iff.1 hk).1
        exact ⟨n, g1, g2, by rw [(World.cells?_some h1).2.2 j hj]; exact g3⟩
      have hk0 : ks[0]? = some ks[0] := List.getElem?_eq_getElem h0
      obtain ⟨n0, _, _, hc0⟩ := hcell 0 hpos 0 _ hk0
      have ha0 : ∀ x : Addr, x.add 0 = x := fun x => by simp [Addr.add]
      rw [Nat.zero_mul, ha0, ha0] at hc0
      obtain ⟨blk, off, spot⟩ := a
      have hspot : spot = none ∧ ∃ arr ty fr, W.heap[blk]? = some (.cells arr ty fr) := by
        unfold World.cell? at hc0
        simp only at hc0
        split at hc0
        · rename_i arr ty fr hw
          split at hc0
          · cases hc0
          · rename_i hs
            refine ⟨?_, arr, ty, fr, hw⟩
            cases spot with
            | none => rfl
            | some _ => simp at hs
        · cases hc0
      obtain ⟨rfl, arr, ty, fr, hw⟩ := hspot
      have hblk : blk < W.heap.size := by
        rcases Nat.lt_or_ge blk W.heap.size with h1 | h1
        · exact h1
        · rw [Array.getElem?_eq_none h1] at hw; cases hw
      have hat : ∀ i, i < len → ∀ (j : Nat) k, ks[j]? = some k → ∃ n, (f i)[j]? = some n ∧ k.fits n ∧ arr[off + i * ks.length + j]? = some (k.real n) := fun i hi j k hk => by
        obtain ⟨n, g1, g2, g3⟩ := hcell i hi j k hk
        rw [add_mk, add_mk, cell_of_blk hw, ← hl] at g3
        exact ⟨n, g1, g2, g3⟩
      have hrow : ∀ (i : Nat) row, ((List.range len).map f)[i]? = some row → i < len ∧ row = f i := fun i row hr => by
        rw [List.getElem?_map] at hr
        rcases Nat.lt_or_ge i len with hi | hi
        · rw [List.getElem?_range hi] at hr
          injection hr with hr
          exact ⟨hi, hr.symm⟩
        · rw [List.getElem?_eq_none (by simpa using hi)] at hr
          cases hr
      have hfits : RFits ks ((List.range len).map f) := fun i row hr j k hk => by
        obtain ⟨hi, rfl⟩ := hrow i row hr
        obtain ⟨n, g1, g2, _⟩ := hat i hi j k hk
        exact ⟨n, g1, g2⟩
      have hxl : ((List.range len).map f).length = len := by simp
      have hsize : off + len * ks.length ≤ arr.size := by
        obtain ⟨n, _, _, g3⟩ := hat (len - 1) (by omega) (ks.length - 1) _ (List.getElem?_eq_getElem (by omega))
        have := (Array.getElem?_eq_some_iff.1 g3).1
        have e1 : len * ks.length = (len - 1) * ks.length + ks.length := by
          rw [← Nat.succ_mul]
          congr 1
          omega
        omega
      refine ⟨(List.range len).map f, ⟨blk, off, ks.length, len⟩, hfits, by rw [hxl]; exact hlen, fun S ρ b hb => ⟨⟨some ⟨blk, off, none⟩, cap, by simp [SN.val], by simpa [SN.val] using hlen, fun h => (by cases h), fun _ => ⟨_, hb, rfl⟩⟩,
        ⟨_, hb, fun _ h => h, rfl, fun _ => ⟨arr, ty, fr, hblk, hw, rfl, by rw [hxl]; exact Nat.le_refl _, hsize, fun i row hr j k hk => ?_⟩⟩⟩⟩
      obtain ⟨hi, rfl⟩ := hrow i row hr
      exact hat i hi j k hk
theorem arg_struct {W : World} {t : TypeId} {v : Value} {fs : Array Field} (h : ArgOK P W t v) (hu : P.underlying t = some (.struct fs)) :
    ∃ (cs : Array Value) (H : Type) (enc : TypeId × Value → H) (fuel : Nat), v = .agg cs ∧ cs.toList.length = P.cellsOf t ∧ ∀ f, f ∈ fs.toList → ∃ y, DataW.trod enc P W 0 (fun _ => true) true fuel f.type ((cs.toList.drop f.offset).take (P.cellsOf f.type)) = some y := by
  obtain ⟨⟨base, hv⟩, H, enc, d, ps, ⟨fuel, ht⟩, _⟩ := h
  obtain ⟨cs, rfl⟩ : ∃ cs, v = .agg cs := by
    unfold Value.okWide at hv
    rw [hu] at hv
    obtain ⟨cs, rfl, _, _⟩ := hv
    exact ⟨cs, rfl⟩
  cases fuel with
  | zero => simp [DataW.trod] at ht
  | succ fuel =>
    obtain ⟨h1, h2⟩ := trod_struct hu ht
    exact ⟨cs, H, enc, fuel, rfl, h1, h2⟩
end
end Go.Proofs.Ytdongoplhnpdiaa.Eng
