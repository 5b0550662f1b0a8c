/-
  GreyOrder, the plain law: the words hold a list of the objects that were shaded, the last one first; to shade one more puts it ahead, and to take one takes the first.
-/
import Derived.Test.YtlkanbgcghjhnaaEngA
import Derived.Test.YtlkanbgcghjhnaaMod
namespace Go.Proofs.Ytlkanbgcghjhnaa.GreyOrder
open Go Go.Proofs.Ytlkanbgcghjhnaa.Eng
set_option linter.unusedVariables false
set_option linter.unusedSimpArgs false
theorem gne {l : List Int} {i j : Nat} (v : Int) (h : i ≠ j) : (l.set i v).getD j 0 = l.getD j 0 := by
  simp [List.getD_eq_getElem?_getD, List.getElem?_set, h]
theorem geq {l : List Int} {i : Nat} (v : Int) (h : i < l.length) : (l.set i v).getD i 0 = v := by
  simp [List.getD_eq_getElem?_getD, List.getElem?_set, h]
/-- The list that begins at 'top'. -/
def Ch (xs : List Int) : List Int → Int → Prop
  | [], top => top = 0
  | a :: r, top => top = a ∧ ∃ l, 0 ≤ l ∧ l < 4096 ∧ xs.getD a.toNat 0 = 401 + 4096 * l ∧ Ch xs r l
def Rg (a : Int) : Prop := 96 ≤ a ∧ a < 160
theorem Ch_frame {xs xs' : List Int} : ∀ {L : List Int} {top : Int}, (∀ a ∈ L, xs'.getD a.toNat 0 = xs.getD a.toNat 0) → Ch xs L top → Ch xs' L top
  | [], _, _, h => h
  | a :: r, _, hf, ⟨h1, l, h2, h3, h4, h5⟩ => ⟨h1, l, h2, h3, (hf a (List.mem_cons_self ..)).trans h4, Ch_frame (fun b hb => hf b (List.mem_cons_of_mem _ hb)) h5⟩
structure J (xs L : List Int) : Prop where
  len : xs.length = 160
  ch : Ch xs L (mAt (xs.getD 1 0))
  nd : L.Nodup
  rg : ∀ a ∈ L, Rg a
def Un (xs L : List Int) : Prop := ∀ k : Nat, k < 16 → (96 + 4 * (k : Int)) ∉ L → xs.getD (96 + 4 * k) 0 = 17
abbrev shadeW (xs : List Int) (a : Int) : List Int :=
  let n := a.toNat
  let h := xs.getD n 0
  let x1 := xs.set n (mWord (mHState h) (mHClass h) (mHCount h) 1 1 (mHTag h) 0)
  (x1.set n (mWord (mHState h) (mHClass h) (mHCount h) 1 1 (mHTag h) (mAt (x1.getD 1 0)))).set 1 (mNext (x1.getD 1 0) a)
theorem shade {xs L : List Int} (hJ : J xs L) (hU : Un xs L) {k : Nat} (hk : k < 16) (hn : (96 + 4 * (k : Int)) ∉ L) : J (shadeW xs (96 + 4 * (k : Int))) ((96 + 4 * (k : Int)) :: L) ∧ Un (shadeW xs (96 + 4 * (k : Int))) ((96 + 4 * (k : Int)) :: L) := by
  have e : (96 + 4 * (k : Int)).toNat = 96 + 4 * k := by omega
  have h17 := hU k hk hn
  have hl := hJ.len
  have other : ∀ j : Nat, j ≠ 96 + 4 * k → j ≠ 1 → (shadeW xs (96 + 4 * (k : Int))).getD j 0 = xs.getD j 0 := fun j h1 h2 => by
    simp only [shadeW, e]
    rw [gne _ (by omega), gne _ (by omega), gne _ (by omega)]
  have w1 : (xs.set (96 + 4 * k) (mWord (mHState (xs.getD (96 + 4 * k) 0)) (mHClass (xs.getD (96 + 4 * k) 0)) (mHCount (xs.getD (96 + 4 * k) 0)) 1 1 (mHTag (xs.getD (96 + 4 * k) 0)) 0)).getD 1 0 = xs.getD 1 0 := gne _ (by omega)
  have top : (shadeW xs (96 + 4 * (k : Int))).getD 1 0 = mNext (xs.getD 1 0) (96 + 4 * (k : Int)) := by
    simp only [shadeW, e]
    rw [geq _ (by simp only [List.length_set]; omega), w1]
  have mine : (shadeW xs (96 + 4 * (k : Int))).getD (96 + 4 * k) 0 = 401 + 4096 * mAt (xs.getD 1 0) := by
    simp only [shadeW, e]
    rw [gne _ (by omega), geq _ (by simp only [List.length_set]; omega), w1, h17]
    simp only [mWord, mHState, mHClass, mHCount, mHTag, mAt]
    omega
  have hat : mAt (mNext (xs.getD 1 0) (96 + 4 * (k : Int))) = 96 + 4 * (k : Int) := by
    simp only [mAt, mNext, mTop]
    omega
  have hw : 0 ≤ mAt (xs.getD 1 0) ∧ mAt (xs.getD 1 0) < 4096 := by
    simp only [mAt]
    omega
  refine ⟨⟨by simp only [shadeW, List.length_set]; exact hl, ?_, List.nodup_cons.2 ⟨hn, hJ.nd⟩, ?_⟩, ?_⟩
  · rw [top, hat]
    refine ⟨rfl, mAt (xs.getD 1 0), hw.1, hw.2, by rw [e]; exact mine, Ch_frame (fun a ha => ?_) hJ.ch⟩
    have hr := hJ.rg a ha
    unfold Rg at hr
    refine other _ (fun h => hn ?_) (by omega)
    have : a = 96 + 4 * (k : Int) := by omega
    exact this ▸ ha
  · intro a ha
    rcases List.mem_cons.1 ha with rfl | ha
    · unfold Rg; omega
    · exact hJ.rg a ha
  · intro j hj hm
    have hj2 : j ≠ k := fun h => hm (by rw [h]; exact List.mem_cons_self ..)
    rw [other _ (by omega) (by omega)]
    exact hU j hj fun h => hm (List.mem_cons_of_mem _ h)
abbrev nextW (xs : List Int) : List Int :=
  let w := xs.getD 1 0
  let h := xs.getD (mAt w).toNat 0
  (xs.set 1 (mNext w (mHLink h))).set (mAt w).toNat (mWord (mHState h) (mHClass h) (mHCount h) (mHMark h) 0 (mHTag h) 0)
theorem first {xs L : List Int} {a : Int} (hJ : J xs (a :: L)) : mAt (xs.getD 1 0) = a ∧ Rg a ∧ mHCount (xs.getD a.toNat 0) = 1 ∧ mHState (xs.getD a.toNat 0) = 1 ∧ mHMark (xs.getD a.toNat 0) = 1 := by
  obtain ⟨h1, l, h2, h3, h4, h5⟩ := hJ.ch
  refine ⟨h1, hJ.rg a (List.mem_cons_self ..), ?_⟩
  rw [h4]
  simp only [mHCount, mHState, mHMark]
  omega
theorem marked {xs L : List Int} {top : Int} (hc : Ch xs L top) {a : Int} (ha : a ∈ L) : mHState (xs.getD a.toNat 0) = 1 ∧ mHMark (xs.getD a.toNat 0) = 1 := by
  induction L generalizing top with
  | nil => cases ha
  | cons b r ih =>
    obtain ⟨h1, l, h2, h3, h4, h5⟩ := hc
    rcases List.mem_cons.1 ha with rfl | ha
    · rw [h4]
      simp only [mHState, mHMark]
      omega
    · exact ih h5 ha
theorem next {xs L : List Int} {a : Int} (hJ : J xs (a :: L)) : J (nextW xs) L := by
  obtain ⟨h1, l, h2, h3, h4, h5⟩ := hJ.ch
  have hl := hJ.len
  have hr := hJ.rg a (List.mem_cons_self ..)
  unfold Rg at hr
  have hnd := List.nodup_cons.1 hJ.nd
  have other : ∀ j : Nat, j ≠ a.toNat → j ≠ 1 → (nextW xs).getD j 0 = xs.getD j 0 := fun j g1 g2 => by
    simp only [nextW, h1]
    rw [gne _ (by omega), gne _ (by omega)]
  have top : (nextW xs).getD 1 0 = mNext (xs.getD 1 0) l := by
    simp only [nextW, h1]
    rw [gne _ (by omega), geq _ (by omega), h4]
    congr 1
    simp only [mHLink]
    omega
  refine ⟨by simp only [nextW, List.length_set]; exact hl, ?_, hnd.2, fun b hb => hJ.rg b (List.mem_cons_of_mem _ hb)⟩
  rw [top, show mAt (mNext (xs.getD 1 0) l) = l by simp only [mAt, mNext, mTop]; omega]
  refine Ch_frame (fun b hb => ?_) h5
  have hrb := hJ.rg b (List.mem_cons_of_mem _ hb)
  unfold Rg at hrb
  refine other _ (fun h => hnd.1 ?_) (by omega)
  have : b = a := by omega
  exact this ▸ hb
end Go.Proofs.Ytlkanbgcghjhnaa.GreyOrder
