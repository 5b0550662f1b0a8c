/-
  The engine, part E: the operations that only compute.
-/
import Derived.Test.YtlkanbgcghjhnaaEngD
import Derived.Laws.StructEq
namespace Go.Proofs.Ytlkanbgcghjhnaa.Eng
open Go

section
variable {A : Type} {S : Sys A} {P : Program} {B : Nat} {Z : Nat → Prop} {ρ : Rho} {F : Fm} {H : Nat → Option (VObj A)} {w : World} {nid : Nat}

theorem tmod_le_self {x : Int} (y : Int) (h : 0 ≤ x) : x.tmod y ≤ x := by
  obtain ⟨m, rfl⟩ := Int.eq_ofNat_of_zero_le h
  cases y with
  | ofNat n => exact Int.ofNat_le.2 (Nat.mod_le m n)
  | negSucc n => exact Int.ofNat_le.2 (Nat.mod_le m (n + 1))
theorem tmod_inK {k : IntKind} {x y : Int} (h : inK k x) : inK k (x.tmod y) := by
  have h1 : kmin k ≤ 0 := by cases k <;> decide
  have h2 : 0 ≤ kmax k := by cases k <;> decide
  unfold inK at *
  rcases Int.le_total 0 x with h0 | h0
  · have a := Int.tmod_nonneg y h0
    have b : x.tmod y ≤ x := by
      exact tmod_le_self y h0
    omega
  · have a : x.tmod y ≤ 0 := by
      have := Int.tmod_nonneg y (show 0 ≤ -x by omega)
      rw [Int.neg_tmod] at this
      omega
    have b : x ≤ x.tmod y := by
      have := tmod_le_self y (show 0 ≤ -x by omega)
      rw [Int.neg_tmod] at this
      omega
    omega
theorem ishr_inK {k : IntKind} {x y : Int} (h : inK k x) : inK k (ishr k x y) := by
  have h1 : kmin k ≤ 0 := by cases k <;> decide
  have h2 : 0 ≤ kmax k := by cases k <;> decide
  unfold inK ishr at *
  have hp : (0 : Int) < 2 ^ (min y.toNat k.bits) := Int.pow_pos (by decide)
  rw [Int.fdiv_eq_ediv_of_nonneg _ (Int.le_of_lt hp)]
  rcases Int.le_total 0 x with h0 | h0
  · have a := Int.ediv_nonneg h0 (Int.le_of_lt hp)
    have b := Int.ediv_le_self (2 ^ (min y.toNat k.bits)) h0
    omega
  · have a : x / 2 ^ (min y.toNat k.bits) ≤ 0 := by
      rcases Int.lt_or_le 0 (x / 2 ^ (min y.toNat k.bits)) with h3 | h3
      · have := (Int.le_ediv_iff_mul_le hp).1 (show 1 ≤ x / 2 ^ (min y.toNat k.bits) by omega)
        omega
      · exact h3
    have b : x ≤ x / 2 ^ (min y.toNat k.bits) := by
      rw [Int.le_ediv_iff_mul_le hp]
      have : x * 2 ^ (min y.toNat k.bits) ≤ x * 1 := Int.mul_le_mul_of_nonpos_left h0 (by omega)
      omega
    omega

theorem intOp_sound {op : BinOp} {k : IntKind} {x y : SI} {r : VV} (hxk : inK k x.val) (hs : isShift op = false) (hrun : (intOp op k x y).run = some r) (t : TypeId) :
    ∃ v, (binOp op t (.int k x.val) (.int k y.val)).run P w = .ok v w ∧ RV ρ r v := by
  unfold intOp at hrun
  cases op <;> simp only [Tr.run_ok, Tr.run_test, Tr.run_no, and_false, false_or] at hrun <;> first | (simp [isShift] at hs; done) | skip
  case add => subst hrun; exact ⟨_, by simp [binOp, Op.intArith]; rfl, by simp [RV, val_op2, wrap_inK]⟩
  case sub => subst hrun; exact ⟨_, by simp [binOp, Op.intArith]; rfl, by simp [RV, val_op2, wrap_inK]⟩
  case mul => subst hrun; exact ⟨_, by simp [binOp, Op.intArith]; rfl, by simp [RV, val_op2, wrap_inK]⟩
  case and => subst hrun; exact ⟨_, by simp [binOp, Op.intBits]; rfl, by simp [RV, val_op2, iand, wrap_inK]⟩
  case or => subst hrun; exact ⟨_, by simp [binOp, Op.intBits]; rfl, by simp [RV, val_op2, ior, wrap_inK]⟩
  case xor => subst hrun; exact ⟨_, by simp [binOp, Op.intBits]; rfl, by simp [RV, val_op2, ixor, wrap_inK]⟩
  case andNot => subst hrun; exact ⟨_, by simp [binOp, Op.intBits]; rfl, by simp [RV, val_op2, iandn, wrap_inK]⟩
  case quo =>
    obtain ⟨h0, rfl⟩ := hrun
    rw [val_cmp] at h0
    have h0' : y.val ≠ 0 := by simpa [SI.val] using h0
    exact ⟨_, by simp [binOp, Op.intDiv, h0']; rfl, by simp [RV, val_op2, wrap_inK]⟩
  case rem =>
    obtain ⟨h0, rfl⟩ := hrun
    rw [val_cmp] at h0
    have h0' : y.val ≠ 0 := by simpa [SI.val] using h0
    exact ⟨_, by simp [binOp, Op.intDiv, h0']; rfl, by simp [RV, val_op2, tmod_inK hxk]⟩
  case eql => subst hrun; exact ⟨_, by simp [binOp, Op.intCmp]; rfl, by simp [RV, val_cmp]⟩
  case neq => subst hrun; exact ⟨_, by simp [binOp, Op.intCmp]; rfl, by simp [RV, val_cmp]⟩
  case lss => subst hrun; exact ⟨_, by simp [binOp, Op.intCmp]; rfl, by simp [RV, val_cmp]⟩
  case leq => subst hrun; exact ⟨_, by simp [binOp, Op.intCmp]; rfl, by simp [RV, val_cmp]⟩
  case gtr => subst hrun; exact ⟨_, by simp [binOp, Op.intCmp]; rfl, by simp [RV, val_cmp]⟩
  case geq => subst hrun; exact ⟨_, by simp [binOp, Op.intCmp]; rfl, by simp [RV, val_cmp]⟩

theorem shOp_sound {op : BinOp} {k k' : IntKind} {x y : SI} {r : VV} (hxk : inK k x.val) (hrun : (shOp op k x y).run = some r) (t : TypeId) :
    ∃ v, (binOp op t (.int k x.val) (.int k' y.val)).run P w = .ok v w ∧ RV ρ r v := by
  unfold shOp at hrun
  cases op <;> simp only [Tr.run_ok, Tr.run_test, Tr.run_no, and_false, false_or] at hrun
  case shl =>
    obtain ⟨h0, rfl⟩ := hrun
    rw [val_cmp] at h0
    have h0' : ¬ y.val < 0 := of_decide_eq_false h0
    exact ⟨_, by simp only [binOp, Op.shift, if_neg h0']; rfl, by simp [RV, val_op2, ishl, wrap_inK]⟩
  case shr =>
    obtain ⟨h0, rfl⟩ := hrun
    rw [val_cmp] at h0
    have h0' : ¬ y.val < 0 := of_decide_eq_false h0
    exact ⟨_, by simp only [binOp, Op.shift, if_neg h0']; rfl, by rw [RV, val_op2]; exact ⟨rfl, ishr_inK hxk⟩⟩

theorem negIf_sound {op : BinOp} {b : SB} {r : VV} (hrun : (negIf op b).run = some r) : (op = .eql ∧ r = .bool b) ∨ (op = .neq ∧ r = .bool b.not) := by
  unfold negIf at hrun
  cases op <;> simp only [Tr.run_ok, Tr.run_no] at hrun
  · exact .inl ⟨rfl, hrun.symm⟩
  · exact .inr ⟨rfl, hrun.symm⟩

theorem negIf_eq {op : BinOp} {b : SB} {r : VV} (hrun : (negIf op b).run = some r) {t : TypeId} {u v : Value} {f : Bool → Bool}
    (h1 : (binOp .eql t u v).run P w = .ok (.bool b.val) w) (h2 : (binOp .neq t u v).run P w = .ok (.bool (!b.val)) w) (_ : f = f) : ∃ x, (binOp op t u v).run P w = .ok x w ∧ RV ρ r x := by
  rcases negIf_sound hrun with ⟨rfl, rfl⟩ | ⟨rfl, rfl⟩
  · exact ⟨_, h1, rfl⟩
  · exact ⟨_, h2, by simp [RV, val_not]⟩

/-! ### Parts of structs and arrays -/
theorem run_part {t : TypeId} {l : List VV} {off : Nat} {r : S1} {cs : List Value} (hp : partS P t l off = some r) (hl : F2 (RV ρ) l cs) :
    ∃ v, (part t cs.toArray off).run P w = .ok v w ∧ R1 ρ r v := by
  unfold partS at hp
  split at hp
  · rename_i hk
    injection hp with hp
    subst hp
    obtain ⟨d, hd⟩ := aggK_underlying hk
    refine ⟨.agg ((cs.drop off).take (P.cellsOf t)).toArray, ?_, _, rfl, (hl.drop off).take _⟩
    unfold part
    rw [run_andThen_ok (run_isAgg_k hk)]
    simp only [if_true]
    rw [run_andThen_ok (run_sizeOf_k (known_of_underlying hd))]
    show Result.ok _ w = Result.ok _ w
    congr 2
    apply Array.ext'
    simp [List.extract_eq_take_drop]
  · rename_i hk
    split at hp
    · rename_i v hv
      injection hp with hp
      subst hp
      obtain ⟨u, hu, hr⟩ := hl.get off hv
      refine ⟨u, ?_, hr⟩
      unfold part
      rw [run_andThen_ok (run_isAgg_k hk)]
      simp [hu]
    · cases hp
  · cases hp

theorem eqT_sound : ∀ (d : Nat) {t : TypeId} {x y : S1} {b : SB} {rx ry : Value}, eqT P d t x y = some b → R1 ρ x rx → R1 ρ y ry → ∀ n, d ≤ n →
    (Op.equalIn n t rx ry).run P w = .ok b.val w ∧ P.eqGuardType n t = false
  | 0, _, _, _, _, _, _, h, _, _, _, _ => by simp [eqT] at h
  | d + 1, t, x, y, b, rx, ry, h, hx, hy, 0, hn => by omega
  | d + 1, t, x, y, b, rx, ry, h, hx, hy, n + 1, hn => by
    unfold eqT at h
    split at h
    · rename_i k0 hu
      split at h
      · rename_i k a k' c
        split at h
        · rename_i hkk
          subst hkk
          injection h with h
          subst h
          obtain ⟨rfl, _⟩ := hx
          obtain ⟨rfl, _⟩ := hy
          refine ⟨?_, by simp [Program.eqGuardType, hu]⟩
          unfold Op.equalIn
          rw [run_andThen_ok (run_underlying hu w)]
          simp [val_cmp]
        · cases h
      · cases h
    · rename_i hu
      split at h
      · injection h with h
        subst h
        obtain rfl := hx
        obtain rfl := hy
        refine ⟨?_, by simp [Program.eqGuardType, hu]⟩
        unfold Op.equalIn
        rw [run_andThen_ok (run_underlying hu w)]
        simp [val_eq]
      · cases h
    · rename_i fs hu
      split at h
      · rename_i l m
        split at h
        · cases h
        · rename_i hst
          obtain ⟨cl, rfl, hl⟩ := hx
          obtain ⟨cm, rfl, hm⟩ := hy
          have hfo : P.fieldsOf t = fs := by simp [Program.fieldsOf, hu]
          have key : ∀ (fl : List Field) (b : SB), eqFs P (eqT P d) l m fl = some b →
              (Op.eqFields n cl.toArray cm.toArray fl).run P w = .ok b.val w ∧ fl.any (fun f => f.name != "_" && P.eqGuardType n f.type) = false := by
            intro fl
            induction fl with
            | nil => intro b hb; simp [eqFs] at hb; subst hb; exact ⟨rfl, rfl⟩
            | cons f fl ih =>
              intro b hb
              unfold eqFs at hb
              split at hb
              · cases hb
              · rename_i hname
                split at hb
                · rename_i a c ha hc
                  split at hb
                  · rename_i r s hr hs
                    injection hb with hb
                    subst hb
                    obtain ⟨va, hva, ra⟩ := run_part (P := P) (w := w) ha hl
                    obtain ⟨vc, hvc, rc⟩ := run_part (P := P) (w := w) hc hm
                    obtain ⟨e1, e2⟩ := eqT_sound d hr ra rc n (by omega)
                    obtain ⟨i1, i2⟩ := ih s hs
                    have hne : f.name ≠ "_" := by simpa using hname
                    refine ⟨?_, by simp [e2, i2]⟩
                    unfold Op.eqFields
                    rw [if_pos hne, run_andThen_ok hva, run_andThen_ok hvc, run_andThen_ok e1, val_and]
                    cases r.val with
                    | true => simpa using i1
                    | false => simp
                  · cases hb
                · cases hb
          obtain ⟨k1, k2⟩ := key fs.toList b h
          refine ⟨?_, ?_⟩
          · rw [run_equalIn_struct w n t cl.toArray cm.toArray (by rw [hfo]; exact hu) hst, hfo]
            exact k1
          · unfold Program.eqGuardType
            simp only [hu]
            rw [← Array.any_toList]
            exact k2
      · cases h
    · cases h

theorem run_eqGuard_not {op : BinOp} {t : TypeId} {x y : Operand} {u v : Value} (h : ¬∃ xs ys, u = .agg xs ∧ v = .agg ys) (h2 : u ≠ .nilIface) : (eqGuard op t x y u v).run P w = .ok () w := by
  unfold eqGuard
  cases op <;> (try rfl) <;> (cases u <;> (try rfl) <;> (try exact absurd rfl h2) <;> (cases v <;> (try rfl) <;> exact absurd ⟨_, _, rfl, rfl⟩ h))

theorem depth_ge (P : Program) : 8 ≤ P.depth := by unfold Program.depth Made.depth; omega
end
end Go.Proofs.Ytlkanbgcghjhnaa.Eng
