/-
  The engine, part M: a law's arguments are read; the row of a law out of its call.
-/
import Derived.Test.YtlkanbgcghjhnaaEngL
import Derived.ProofKit
import Derived.Carry
import Derived.ChangeShapes
import Derived.Handed
import Derived.JoinedOf
namespace Go.Proofs.Ytlkanbgcghjhnaa.Eng
open Go

/-! ### Plain types: whole numbers and bools, cell by cell -/
section
variable {P : Program}
def shapeFs (P : Program) (f : TypeId → Option (List CK)) : Nat → List Field → Option (List CK)
  | _, [] => some []
  | off, fd :: fs => match decide (fd.offset = off), f fd.type with
    | true, some ks => match decide (ks.length = P.cellsOf fd.type), shapeFs P f (off + ks.length) fs with
      | true, some rest => some (ks ++ rest)
      | _, _ => none
    | _, _ => none
def repK (ks : List CK) : Nat → List CK
  | 0 => []
  | n + 1 => ks ++ repK ks n
def shapeK (P : Program) : Nat → TypeId → Option (List CK)
  | 0, _ => none
  | d + 1, t => match P.underlying t with
    | some (.int k) => some [.int k]
    | some .bool => some [.bool]
    | some (.struct fs) => match shapeFs P (shapeK P d) 0 fs.toList with
      | some ks => match decide (ks.length = P.cellsOf t) with
        | true => some ks
        | false => none
      | none => none
    | some (.array n e) => match shapeK P d e with
      | some ks => match decide (ks.length = P.cellsOf e), decide (n * ks.length = P.cellsOf t) with
        | true, true => some (repK ks n)
        | _, _ => none
      | none => none
    | _ => none

/-- Cells of a plain value. -/
def Cells : List CK → List Int → List Value → Prop
  | [], [], [] => True
  | k :: ks, n :: ns, c :: cs => k.fits n ∧ c = k.real n ∧ Cells ks ns cs
  | _, _, _ => False
theorem Cells.append : ∀ {ks ks' : List CK} {ns ns' : List Int} {cs cs' : List Value}, Cells ks ns cs → Cells ks' ns' cs' → Cells (ks ++ ks') (ns ++ ns') (cs ++ cs')
  | [], _, [], _, [], _, _, h' => h'
  | _ :: _, _, _ :: _, _, _ :: _, _, h, h' => ⟨h.1, h.2.1, append h.2.2 h'⟩
  | [], _, [], _, _ :: _, _, h, _ => h.elim
  | [], _, _ :: _, _, _, _, h, _ => h.elim
  | _ :: _, _, [], _, _, _, h, _ => h.elim
  | _ :: _, _, _ :: _, _, [], _, h, _ => h.elim
theorem Cells.length : ∀ {ks : List CK} {ns : List Int} {cs : List Value}, Cells ks ns cs → ns.length = ks.length ∧ cs.length = ks.length
  | [], [], [], _ => ⟨rfl, rfl⟩
  | _ :: _, _ :: _, _ :: _, h => by have := length h.2.2; simp [this]
  | [], [], _ :: _, h => h.elim
  | [], _ :: _, _, h => h.elim
  | _ :: _, [], _, h => h.elim
  | _ :: _, _ :: _, [], h => h.elim

def zipK : List CK → List Int → List VV
  | k :: ks, n :: ns => k.vv n :: zipK ks ns
  | _, _ => []
theorem Cells.rel (ρ : Rho) : ∀ {ks : List CK} {ns : List Int} {cs : List Value}, Cells ks ns cs → F2 (RV ρ) (zipK ks ns) cs
  | [], [], [], _ => trivial
  | k :: _, n :: _, _ :: _, h => ⟨by rw [h.2.1]; exact vv_real ρ k n h.1, rel ρ h.2.2⟩
  | [], [], _ :: _, h => h.elim
  | [], _ :: _, _, h => h.elim
  | _ :: _, [], _, h => h.elim
  | _ :: _, _ :: _, [], h => h.elim

section
variable {H : Type} {enc : TypeId × Value → H} {w : World} {base : Nat} {sp : Nat → Bool} {held : Bool}
theorem mapM_opt_cons {α β : Type} {f : α → Option β} {a : α} {l : List α} {r : List β} (h : (a :: l).mapM f = some r) : ∃ b bs, f a = some b ∧ l.mapM f = some bs ∧ r = b :: bs := by
  rw [List.mapM_cons] at h
  cases hf : f a with
  | none => simp [hf] at h
  | some b =>
    cases hl : l.mapM f with
    | none => simp [hf, hl] at h
    | some bs => simp [hf, hl] at h; exact ⟨b, bs, rfl, rfl, h.symm⟩

theorem range_mapM_shift {β : Type} {f : Nat → Option β} : ∀ (n k : Nat) {r : List β}, (List.range' k n).mapM f = some r → ∀ i, i < n → ∃ b, f (k + i) = some b
  | 0, _, _, _, i, hi => by omega
  | n + 1, k, r, h, i, hi => by
    rw [List.range'_succ] at h
    obtain ⟨b, bs, h1, h2, _⟩ := mapM_opt_cons h
    cases i with
    | zero => exact ⟨b, h1⟩
    | succ i =>
      obtain ⟨c, hc⟩ := range_mapM_shift n (k + 1) h2 i (by omega)
      exact ⟨c, by rw [show k + (i + 1) = k + 1 + i by omega]; exact hc⟩

/-- A plain value that can be read is made of numbers that fit. -/
theorem shape_read : ∀ (d : Nat) {fuel : Nat} {t : TypeId} {cs : List Value} {x : DataW H × List MemPlace} {ks : List CK}, DataW.trod enc P w base sp held fuel t cs = some x → shapeK P d t = some ks →
    ∃ ns, Cells ks ns cs
  | 0, _, _, _, _, _, _, h => by simp [shapeK] at h
  | _ + 1, 0, _, _, _, _, h, _ => by simp [DataW.trod] at h
  | d + 1, fuel + 1, t, cs, x, ks, h, hs => by
    unfold shapeK at hs
    split at hs
    · rename_i k hu
      injection hs with hs
      subst hs
      unfold DataW.trod at h
      rw [hu] at h
      split at h <;> first | (rename_i heq; cases heq; done) | skip
      all_goals first
        | (rename_i k' n heq
           injection heq with heq
           injection heq with heq
           subst heq
           split at h
           · rename_i hk
             obtain ⟨rfl, hwf⟩ := hk
             simp only [Lit.wf, Bool.and_eq_true, decide_eq_true_eq] at hwf
             exact ⟨[n], ⟨by rw [kmin_eq]; exact hwf.1, by rw [kmax_eq]; exact hwf.2⟩, rfl, trivial⟩
           · cases h)
        | (simp at *; done)
        | cases h
    · rename_i hu
      injection hs with hs
      subst hs
      unfold DataW.trod at h
      rw [hu] at h
      split at h <;> first | (rename_i heq; cases heq; done) | skip
      all_goals first
        | (rename_i b heq
           refine ⟨[if b then 1 else 0], ?_, ?_, trivial⟩
           · cases b <;> simp [CK.fits]
           · cases b <;> rfl)
        | (simp at *; done)
        | cases h
    · rename_i fs hu
      split at hs
      · rename_i ks0 hks
        split at hs
        · rename_i hlen
          injection hs with hs
          subst hs
          have hlen := of_decide_eq_true hlen
          have hgo : cs.length = P.cellsOf t ∧ ∃ xs, (fs.toList.mapM fun f => DataW.trod enc P w base sp held fuel f.type ((cs.drop f.offset).take (P.cellsOf f.type))) = some xs := by
            simp only [DataW.trod, hu] at h
            split at h
            · rename_i hl
              refine ⟨hl, ?_⟩
              cases hm : (fs.toList.mapM fun f => DataW.trod enc P w base sp held fuel f.type ((cs.drop f.offset).take (P.cellsOf f.type))) with
              | none => rw [hm] at h; cases h
              | some xs => exact ⟨xs, rfl⟩
            · cases h
          obtain ⟨hl, xs, hm⟩ := hgo
          have key : ∀ (fl : List Field) (off : Nat) (ks : List CK) (xs : List (DataW H × List MemPlace)), shapeFs P (shapeK P d) off fl = some ks →
              (fl.mapM fun f => DataW.trod enc P w base sp held fuel f.type ((cs.drop f.offset).take (P.cellsOf f.type))) = some xs → off + ks.length = cs.length → ∃ ns, Cells ks ns (cs.drop off) := by
            intro fl
            induction fl with
            | nil =>
              intro off ks xs hk _ hlen
              simp only [shapeFs, Option.some.injEq] at hk
              subst hk
              refine ⟨[], ?_⟩
              rw [List.drop_eq_nil_of_le (by simpa using Nat.le_of_eq hlen.symm)]
              trivial
            | cons f fl ih =>
              intro off ks xs hk hm hlen
              unfold shapeFs at hk
              split at hk
              · rename_i kf hoff hkf
                split at hk
                · rename_i rest hkl hrest
                  injection hk with hk
                  subst hk
                  obtain ⟨b, bs, h1, h2, _⟩ := mapM_opt_cons hm
                  have hoff := of_decide_eq_true hoff
                  have hkl := of_decide_eq_true hkl
                  obtain ⟨n1, c1⟩ := shape_read d h1 hkf
                  obtain ⟨n2, c2⟩ := ih (off + kf.length) rest bs hrest h2 (by simp at hlen; omega)
                  refine ⟨n1 ++ n2, ?_⟩
                  rw [hoff] at c1
                  have := c1.append c2
                  rw [← List.drop_drop, ← hkl, List.take_append_drop] at this
                  exact this
                · cases hk
              · cases hk
          have := key fs.toList 0 ks0 xs hks hm (by omega)
          simpa using this
        · cases hs
      · cases hs
    · rename_i n e hu
      split at hs
      · rename_i ks0 hks
        split at hs
        · rename_i hl1 hl2
          injection hs with hs
          subst hs
          have hl1 := of_decide_eq_true hl1
          have hl2 := of_decide_eq_true hl2
          have hgo : cs.length = P.cellsOf t ∧ ∃ xs, ((List.range n).mapM fun i => DataW.trod enc P w base sp held fuel e ((cs.drop (i * P.cellsOf e)).take (P.cellsOf e))) = some xs := by
            simp only [DataW.trod, hu] at h
            split at h
            · rename_i hl
              refine ⟨hl, ?_⟩
              cases hm : ((List.range n).mapM fun i => DataW.trod enc P w base sp held fuel e ((cs.drop (i * P.cellsOf e)).take (P.cellsOf e))) with
              | none => rw [hm] at h; cases h
              | some xs => exact ⟨xs, rfl⟩
            · cases h
          obtain ⟨hl, xs, hm⟩ := hgo
          rw [List.range_eq_range'] at hm
          have hel := range_mapM_shift n 0 hm
          have key : ∀ (m : Nat), m ≤ n → ∃ ns, Cells (repK ks0 m) ns (cs.drop ((n - m) * P.cellsOf e)) := by
            intro m
            induction m with
            | zero =>
              intro _
              refine ⟨[], ?_⟩
              rw [List.drop_eq_nil_of_le (by rw [hl, ← hl2, hl1]; simp)]
              trivial
            | succ m ih =>
              intro hm
              obtain ⟨n2, c2⟩ := ih (by omega)
              obtain ⟨b, hb⟩ := hel (n - (m + 1)) (by omega)
              rw [Nat.zero_add] at hb
              obtain ⟨n1, c1⟩ := shape_read d hb hks
              refine ⟨n1 ++ n2, ?_⟩
              have := c1.append c2
              rw [show (n - m) * P.cellsOf e = (n - (m + 1)) * P.cellsOf e + P.cellsOf e by
                rw [← Nat.succ_mul]; congr 1; omega] at this
              rw [← List.drop_drop, List.take_append_drop] at this
              exact this
          have := key n (Nat.le_refl _)
          simpa using this
        · cases hs
      · cases hs
    · cases hs
end
end
end Go.Proofs.Ytlkanbgcghjhnaa.Eng
