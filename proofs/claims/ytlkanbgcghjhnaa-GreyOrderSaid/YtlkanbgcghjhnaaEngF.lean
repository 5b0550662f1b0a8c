/-
  The engine, part F: every operation.
-/
import Derived.Test.YtlkanbgcghjhnaaEngE
namespace Go.Proofs.Ytlkanbgcghjhnaa.Eng
open Go

section
variable {A : Type} {S : Sys A} {P : Program} {B : Nat} {Z : Nat → Prop} {ρ : Rho} {F : Fm} {H : Nat → Option (VObj A)} {w : World} {nid : Nat}

theorem RV_not_agg {x : VV} {v : Value} (h : RV ρ x v) : (∀ l, v ≠ .agg l) ∧ ∀ l, v ≠ .tuple l := by
  have := RV.one h
  constructor <;> (rintro l rfl; simp [Value.oneCell'] at this)

theorem sameV_sound {x y : VV} {ty : TypeId} {b : SB} {u v : Value} (h : sameV x y (descK P ty) = some b) (hx : RV ρ x u) (hy : RV ρ y v) :
    (Op.equal ty u v).run P w = .ok b.val w ∧ (∀ k n, u ≠ .int k n) ∧ (∀ k n, u ≠ .float k n) ∧ (∀ k n m, u ≠ .complex k n m) ∧ (∀ s, u ≠ .string s) ∧ u ≠ .nilIface := by
  have hd : ∀ {n}, descK P ty = n → (n = 1 → P.underlying ty = some .bool) ∧ (n = 2 → ∃ e, P.underlying ty = some (.pointer e)) ∧ (n = 3 → ∃ e, P.underlying ty = some (.slice e)) ∧
      (n = 4 → ∃ a b c, P.underlying ty = some (.func a b c)) := by
    intro n hn
    unfold descK at hn
    split at hn <;> subst hn <;> simp_all
  generalize hn : descK P ty = n at h
  obtain ⟨d1, d2, d3, d4⟩ := hd hn
  unfold Op.equal Op.maxDepth
  unfold sameV at h
  split at h
  · have hu := d1 rfl
    split at h
    · injection h with h
      subst h
      obtain rfl := hx
      obtain rfl := hy
      refine ⟨?_, by simp, by simp, by simp, by simp, by simp⟩
      unfold Op.equalIn
      rw [run_andThen_ok (run_underlying hu w)]
      simp [val_eq]
    · cases h
  · obtain ⟨e, hu⟩ := d2 rfl
    split at h
    · injection h with h
      subst h
      obtain rfl := hx
      obtain rfl := hy
      refine ⟨?_, by simp, by simp, by simp, by simp, by simp⟩
      unfold Op.equalIn
      rw [run_andThen_ok (run_underlying hu w)]
      simp [SB.val]
    · injection h with h
      subst h
      obtain ⟨p, _, rfl⟩ := hx
      obtain rfl := hy
      refine ⟨?_, by simp, by simp, by simp, by simp, by simp⟩
      unfold Op.equalIn
      rw [run_andThen_ok (run_underlying hu w)]
      simp [SB.val]
    · injection h with h
      subst h
      obtain rfl := hx
      obtain ⟨p, _, rfl⟩ := hy
      refine ⟨?_, by simp, by simp, by simp, by simp, by simp⟩
      unfold Op.equalIn
      rw [run_andThen_ok (run_underlying hu w)]
      simp [SB.val]
    · cases h
  · obtain ⟨e, hu⟩ := d3 rfl
    split at h
    · injection h with h
      subst h
      obtain rfl := hx
      obtain rfl := hy
      refine ⟨?_, by simp, by simp, by simp, by simp, by simp⟩
      unfold Op.equalIn
      rw [run_andThen_ok (run_underlying hu w)]
      simp [SB.val]
    · injection h with h
      subst h
      obtain ⟨p, _, rfl⟩ := hx
      obtain rfl := hy
      refine ⟨?_, by simp, by simp, by simp, by simp, by simp⟩
      unfold Op.equalIn
      rw [run_andThen_ok (run_underlying hu w)]
      simp [SB.val]
    · injection h with h
      subst h
      obtain ⟨p, _, _, _, rfl⟩ := hx
      obtain rfl := hy
      refine ⟨?_, by simp, by simp, by simp, by simp, by simp⟩
      unfold Op.equalIn
      rw [run_andThen_ok (run_underlying hu w)]
      simp [SB.val]
    · injection h with h
      subst h
      obtain rfl := hx
      obtain ⟨p, _, rfl⟩ := hy
      refine ⟨?_, by simp, by simp, by simp, by simp, by simp⟩
      unfold Op.equalIn
      rw [run_andThen_ok (run_underlying hu w)]
      simp [SB.val]
    · injection h with h
      subst h
      obtain rfl := hx
      obtain ⟨p, _, _, _, rfl⟩ := hy
      refine ⟨?_, by simp, by simp, by simp, by simp, by simp⟩
      unfold Op.equalIn
      rw [run_andThen_ok (run_underlying hu w)]
      simp [SB.val]
    · injection h with h
      subst h
      obtain ⟨a, c, rfl, _⟩ := hx
      obtain rfl := hy
      refine ⟨?_, by simp, by simp, by simp, by simp, by simp⟩
      unfold Op.equalIn
      rw [run_andThen_ok (run_underlying hu w)]
      simp [SB.val]
    · injection h with h
      subst h
      obtain rfl := hx
      obtain ⟨a, c, rfl, _⟩ := hy
      refine ⟨?_, by simp, by simp, by simp, by simp, by simp⟩
      unfold Op.equalIn
      rw [run_andThen_ok (run_underlying hu w)]
      simp [SB.val]
    · cases h
  · obtain ⟨a, b', c, hu⟩ := d4 rfl
    split at h
    · injection h with h
      subst h
      obtain rfl := hx
      obtain rfl := hy
      refine ⟨?_, by simp, by simp, by simp, by simp, by simp⟩
      unfold Op.equalIn
      rw [run_andThen_ok (run_underlying hu w)]
      simp [SB.val]
    · injection h with h
      subst h
      obtain ⟨_, _, _, _, rfl⟩ := hx
      obtain rfl := hy
      refine ⟨?_, by simp, by simp, by simp, by simp, by simp⟩
      unfold Op.equalIn
      rw [run_andThen_ok (run_underlying hu w)]
      simp [SB.val]
    · injection h with h
      subst h
      obtain rfl := hx
      obtain ⟨_, _, _, _, rfl⟩ := hy
      refine ⟨?_, by simp, by simp, by simp, by simp, by simp⟩
      unfold Op.equalIn
      rw [run_andThen_ok (run_underlying hu w)]
      simp [SB.val]
    · cases h
  · cases h

theorem binOp_eq {ty : TypeId} {u v : Value} (h1 : ∀ k n, u ≠ .int k n) (h2 : ∀ k n, u ≠ .float k n) (h3 : ∀ k n m, u ≠ .complex k n m) (h4 : ∀ s, u ≠ .string s) :
    binOp .eql ty u v = (do pure (.bool (← Op.equal ty u v))) ∧ binOp .neq ty u v = (do pure (.bool (!(← Op.equal ty u v)))) := by
  constructor <;> (cases u <;> first | rfl | exact absurd rfl (h1 _ _) | exact absurd rfl (h2 _ _) | exact absurd rfl (h3 _ _ _) | exact absurd rfl (h4 _))

theorem vbin_sound {op : BinOp} {ty : TypeId} {x y : SV} {r : VV} {u v : Value} (ox oy : Operand) (hrun : (vbin P ty op x y).run = some r) (hx : RS ρ x u) (hy : RS ρ y v) :
    ∃ z, (do eqGuard op ty ox oy u v; binOp op ty u v : Sem Value).run P w = .ok z w ∧ RV ρ r z := by
  unfold vbin at hrun
  split at hrun
  · rename_i k a k' b
    obtain ⟨rfl, hka⟩ : u = .int k a.val ∧ inK k a.val := hx
    obtain ⟨rfl, hkb⟩ : v = .int k' b.val ∧ inK k' b.val := hy
    have hg : (eqGuard op ty ox oy (.int k a.val) (.int k' b.val)).run P w = .ok () w := run_eqGuard_not (by rintro ⟨_, _, h, _⟩; cases h) (by simp)
    split at hrun
    · obtain ⟨z, hz, hr⟩ := shOp_sound (P := P) (w := w) (ρ := ρ) (k' := k') hka hrun ty
      exact ⟨z, by rw [run_andThen_ok hg]; exact hz, hr⟩
    · rename_i hs
      rw [Tr.run_chk] at hrun
      obtain ⟨hk, hrun⟩ := hrun
      obtain rfl := of_decide_eq_true hk
      obtain ⟨z, hz, hr⟩ := intOp_sound (P := P) (w := w) (ρ := ρ) hka hs hrun ty
      exact ⟨z, by rw [run_andThen_ok hg]; exact hz, hr⟩
  · rename_i a b
    rw [Tr.run_opt] at hrun
    obtain ⟨sb, hsb, hrun⟩ := hrun
    obtain ⟨ca, rfl, _⟩ := id hx
    obtain ⟨cb, rfl, _⟩ := id hy
    have h1 := (eqT_sound (P := P) (w := w) 8 hsb hx hy 10000 (by omega)).1
    have h2 := (eqT_sound (P := P) (w := w) 8 hsb hx hy P.depth (depth_ge P)).2
    have hg : (eqGuard op ty ox oy (.agg ca.toArray) (.agg cb.toArray)).run P w = .ok () w := run_eqGuard_agg w op ty ox oy _ _ h2
    have e1 : (binOp .eql ty (.agg ca.toArray) (.agg cb.toArray)).run P w = .ok (.bool sb.val) w := by
      rw [run_eql_struct, h1]; rfl
    have e2 : (binOp .neq ty (.agg ca.toArray) (.agg cb.toArray)).run P w = .ok (.bool (!sb.val)) w := by
      rw [run_neq_struct, h1]; rfl
    obtain ⟨z, hz, hr⟩ := negIf_eq (P := P) (w := w) (ρ := ρ) (f := id) hrun e1 e2 rfl
    exact ⟨z, by rw [run_andThen_ok hg]; exact hz, hr⟩
  · rename_i x y _
    rw [Tr.run_opt] at hrun
    obtain ⟨sb, hsb, hrun⟩ := hrun
    obtain ⟨he, n1, n2, n3, n4, n5⟩ := sameV_sound (P := P) (w := w) hsb hx hy
    have hg : (eqGuard op ty ox oy u v).run P w = .ok () w := run_eqGuard_not (by rintro ⟨xs, _, h, _⟩; exact (RV_not_agg hx).1 _ h) n5
    obtain ⟨b1, b2⟩ := binOp_eq (ty := ty) (v := v) n1 n2 n3 n4
    have e1 : (binOp .eql ty u v).run P w = .ok (.bool sb.val) w := by
      rw [b1, run_andThen_ok he]; rfl
    have e2 : (binOp .neq ty u v).run P w = .ok (.bool (!sb.val)) w := by
      rw [b2, run_andThen_ok he]; rfl
    obtain ⟨z, hz, hr⟩ := negIf_eq (P := P) (w := w) (ρ := ρ) (f := id) hrun e1 e2 rfl
    exact ⟨z, by rw [run_andThen_ok hg]; exact hz, hr⟩
  · simp [Tr.run] at hrun

theorem eachIdx_sound {α : Type} {x : Int} {f : Nat → Tr α} {r : α} : ∀ {n : Nat}, (eachIdx x f n).run = some r → ∃ i : Nat, x = (i : Int) ∧ i < n ∧ (f i).run = some r
  | 0, h => by simp [eachIdx, Tr.run] at h
  | n + 1, h => by
    rw [eachIdx, Tr.run_ite] at h
    rcases h with ⟨h1, h2⟩ | ⟨_, h2⟩
    · exact ⟨n, by simpa using h1, Nat.lt_succ_self n, h2⟩
    · obtain ⟨i, h3, h4, h5⟩ := eachIdx_sound h2
      exact ⟨i, h3, Nat.lt_succ_of_lt h4, h5⟩
theorem atIdx_sound {α : Type} {x : SI} {n : Nat} {f : Nat → Tr α} {r : α} (h : (atIdx x n f).run = some r) : ∃ i : Nat, x.val = (i : Int) ∧ i < n ∧ (f i).run = some r := by
  unfold atIdx at h
  split at h
  · split at h
    · rw [Tr.run_chk] at h
      exact ⟨_, rfl, of_decide_eq_true h.1, h.2⟩
    · simp [Tr.run] at h
  · exact eachIdx_sound h

theorem mm2_val (mx : Bool) (x y : SI) : (mm2 mx x y).val = if mx then (if y.val > x.val then y.val else x.val) else (if y.val < x.val then y.val else x.val) := by
  cases mx <;> simp [mm2, val_op2]
theorem mmFold_sound {mx : Bool} {k : IntKind} : ∀ {l : List SV} {vs : List Value} {x : SI} {r : VV}, inK k x.val → (mmFold mx k x l).run = some r → F2 (RS ρ) l vs →
    ∃ v, (vs.foldlM (if mx then Builtin.max2 else Builtin.min2) (.int k x.val)).run P w = .ok v w ∧ RV ρ r v
  | [], [], x, r, hk, h, _ => by
    simp only [mmFold, Tr.run_ok] at h
    subst h
    exact ⟨_, rfl, rfl, hk⟩
  | .s (.one (.int k' y)) :: l, v :: vs, x, r, hk, h, hl => by
    obtain ⟨hv, hl⟩ := hl
    obtain ⟨rfl, hky⟩ : v = .int k' y.val ∧ inK k' y.val := hv
    unfold mmFold at h
    rw [Tr.run_chk] at h
    obtain ⟨hkk, h⟩ := h
    obtain rfl := of_decide_eq_true hkk
    have hk2 : inK k (mm2 mx x y).val := by
      rw [mm2_val]
      split <;> split <;> assumption
    obtain ⟨u, hu, hr⟩ := mmFold_sound hk2 h hl
    refine ⟨u, ?_, hr⟩
    rw [List.foldlM_cons]
    have : ((if mx then Builtin.max2 else Builtin.min2) (.int k x.val) (.int k y.val) : Sem Value).run P w = .ok (.int k (mm2 mx x y).val) w := by
      rw [mm2_val]
      cases mx <;> rfl
    rw [run_andThen_ok this]
    exact hu
  | [], _ :: _, _, _, _, _, h => h.elim
  | _ :: _, [], _, _, _, _, h => h.elim
  | .t _ :: _, _ :: _, _, _, _, h, _ => by simp [mmFold, Tr.run] at h
  | .s (.agg _) :: _, _ :: _, _, _, _, h, _ => by simp [mmFold, Tr.run] at h
  | .s (.one (.bool _)) :: _, _ :: _, _, _, _, h, _ => by simp [mmFold, Tr.run] at h
  | .s (.one (.ptr _ _)) :: _, _ :: _, _, _, _, h, _ => by simp [mmFold, Tr.run] at h
  | .s (.one .nilp) :: _, _ :: _, _, _, _, h, _ => by simp [mmFold, Tr.run] at h
  | .s (.one (.tptr _ _ _)) :: _, _ :: _, _, _, _, h, _ => by simp [mmFold, Tr.run] at h
  | .s (.one (.sl _ _ _ _)) :: _, _ :: _, _, _, _, h, _ => by simp [mmFold, Tr.run] at h
  | .s (.one (.ts _ _ _ _)) :: _, _ :: _, _, _, _, h, _ => by simp [mmFold, Tr.run] at h
  | .s (.one .nils) :: _, _ :: _, _, _, _, h, _ => by simp [mmFold, Tr.run] at h
  | .s (.one (.es _)) :: _, _ :: _, _, _, _, h, _ => by simp [mmFold, Tr.run] at h
  | .s (.one (.an _ _)) :: _, _ :: _, _, _, _, h, _ => by simp [mmFold, Tr.run] at h
  | .s (.one (.fn _ _ _)) :: _, _ :: _, _, _, _, h, _ => by simp [mmFold, Tr.run] at h
  | .s (.one .nilf) :: _, _ :: _, _, _, _, h, _ => by simp [mmFold, Tr.run] at h
  | .s (.one (.raw _)) :: _, _ :: _, _, _, _, h, _ => by simp [mmFold, Tr.run] at h

theorem vlen_sound {x : SV} {n : SI} {v : Value} (h : vlen x = some n) (hx : RS ρ x v) : ∃ a len cap, v = .slice a len cap ∧ n.val = (len : Int) ∧ inK .i64 n.val := by
  unfold vlen at h
  split at h
  · split at h
    · rename_i hle
      injection h with h; subst h
      obtain ⟨p, _, rfl⟩ := hx
      have := Nat.le_of_ble_eq_true hle
      exact ⟨_, _, _, rfl, rfl, by simp only [inK, kmin, kmax, SI.val]; omega⟩
    · cases h
  · rename_i b r len cap
    injection h with h; subst h
    obtain ⟨p, _, hle, _, rfl⟩ := hx
    refine ⟨_, _, _, rfl, by cases len <;> rfl, ?_⟩
    have : len.toSI.val = (len.val : Int) := by cases len <;> rfl
    rw [this]
    simp only [inK, kmin, kmax]
    omega
  · injection h with h; subst h
    obtain rfl := hx
    exact ⟨_, _, _, rfl, rfl, by simp [inK, kmin, kmax, SI.val]⟩
  · injection h with h; subst h
    obtain ⟨a, c, rfl, _⟩ := hx
    exact ⟨_, _, _, rfl, rfl, by simp [inK, kmin, kmax, SI.val]⟩
  · rename_i b len
    injection h with h; subst h
    obtain ⟨o, cap, rfl, hle, _⟩ := hx
    refine ⟨_, _, _, rfl, by cases len <;> rfl, ?_⟩
    have : len.toSI.val = (len.val : Int) := by cases len <;> rfl
    rw [this]
    simp only [inK, kmin, kmax]
    omega
  · cases h

theorem ptrs_sound : ∀ {l : List SV} {m : List (Nat × Nat)} {vs : List Value}, ptrsOf l = some m → F2 (RS ρ) l vs → F2 (RP ρ) m vs
  | [], m, [], h, _ => by simp [ptrsOf] at h; subst h; trivial
  | .s (.one (.ptr b off)) :: l, m, v :: vs, h, hl => by
    simp only [ptrsOf, Option.map_eq_some_iff] at h
    obtain ⟨m', hm, rfl⟩ := h
    exact ⟨hl.1, ptrs_sound hm hl.2⟩
  | [], _, _ :: _, _, h => h.elim
  | _ :: _, _, [], _, h => h.elim
  | .t _ :: _, _, _ :: _, h, _ => by simp [ptrsOf] at h
  | .s (.agg _) :: _, _, _ :: _, h, _ => by simp [ptrsOf] at h
  | .s (.one (.bool _)) :: _, _, _ :: _, h, _ => by simp [ptrsOf] at h
  | .s (.one (.int _ _)) :: _, _, _ :: _, h, _ => by simp [ptrsOf] at h
  | .s (.one .nilp) :: _, _, _ :: _, h, _ => by simp [ptrsOf] at h
  | .s (.one (.tptr _ _ _)) :: _, _, _ :: _, h, _ => by simp [ptrsOf] at h
  | .s (.one (.sl _ _ _ _)) :: _, _, _ :: _, h, _ => by simp [ptrsOf] at h
  | .s (.one (.ts _ _ _ _)) :: _, _, _ :: _, h, _ => by simp [ptrsOf] at h
  | .s (.one .nils) :: _, _, _ :: _, h, _ => by simp [ptrsOf] at h
  | .s (.one (.es _)) :: _, _, _ :: _, h, _ => by simp [ptrsOf] at h
  | .s (.one (.an _ _)) :: _, _, _ :: _, h, _ => by simp [ptrsOf] at h
  | .s (.one (.fn _ _ _)) :: _, _, _ :: _, h, _ => by simp [ptrsOf] at h
  | .s (.one .nilf) :: _, _, _ :: _, h, _ => by simp [ptrsOf] at h
  | .s (.one (.raw _)) :: _, _, _ :: _, h, _ => by simp [ptrsOf] at h

theorem intLit_sound {x : SV} {n : Nat} {v : Value} (h : intLit x = some n) (hx : RS ρ x v) : ∃ k, v = .int k (n : Int) := by
  unfold intLit at h
  split at h
  · rename_i k m
    split at h
    · injection h with h; subst h
      exact ⟨k, hx.1⟩
    · cases h
  · cases h

theorem fieldPlace_run {a : Addr} {fd : Field} (hk : known P fd.type = true) (h0 : P.cellsOf fd.type ≠ 0) : (fieldPlace a fd).run P w = .ok (a.add fd.offset) w := by
  unfold fieldPlace
  rw [run_andThen_ok (run_sizeOf_k hk), if_neg h0]
  rfl
end
end Go.Proofs.Ytlkanbgcghjhnaa.Eng
