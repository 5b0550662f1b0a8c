/-
  PlanPlaces: two loops over what the plan holds, by the logic.
-/
import Derived.Test.YtkgfidnpioakfaaRows
import Derived.Test.YtkgfidnpioakfaaEv5c
import Derived.Test.YtkgfidnpioakfaaEngV
namespace Go.Proofs.Ytkgfidnpioakfaa.PlanPlaces
open Go Go.RowKit Go.Proofs.Ytkgfidnpioakfaa.Eng
set_option linter.unusedVariables false
set_option linter.unusedSimpArgs false
set_option maxRecDepth 20000

noncomputable abbrev body : Code := Try.f21.body.get!
noncomputable abbrev ev (c : Code) : St Unit → Tr (VX × St Unit) := evCode Try.prog (evF Try.prog (lookT Unit tab5t) 100 19) 100 c
noncomputable abbrev evl (c : List Code) : St Unit → Tr (VX × St Unit) := evList (P := Try.prog) (evF Try.prog (lookT Unit tab5t) 100 19) 100 c
theorem codeOK (c : Code) : CodeOK unitS Try.prog c (ev c) :=
  evCode_sound progOK (fun f args hp nid r h _ => evF_sound progOK (lookT_ok tab5t_ok) 100 19 f args hp nid r h) 100 c
theorem hb : Try.f21.body = some body := by kernel_rfl
/-- Behind the first four statements. -/
theorem rest : (Eng.spine 4 body).2 = .seq (.seq (codeAt body [true, true, true, true, false, false]) (.block 0 (.loop (codeAt body [true, true, true, true, false, true, false, false]))))
    (.seq (.seq (codeAt body [true, true, true, true, true, false, false]) (.block 2 (.loop (codeAt body [true, true, true, true, true, false, true, false, false]))))
      (.seq (codeAt body [true, true, true, true, true, true, false]) (codeAt body [true, true, true, true, true, true, true]))) := by kernel_rfl
section
variable (a0 a1 a2 : Int)
abbrev A (a0 : Int) : Int := W (1 + iand IntKind.i64 a0 63)
abbrev pre (e : Int) (r : Bool) (x10 x11 x12 x13 x14 : SV) : List SV := [.v (ii a0), .v (ii a1), .v (ii a2), .undef, .undef, .undef, .v (.bool (.lit r)), .v (.bool (.lit true)), .v (.ptr 0 0), .v (ii e), x10, x11, x12, x13, x14]
abbrev pl (t b u h s : Int) : List VV := [ii t, ii b, ii u, ii h, ii s]
abbrev hp0 (t b u h s : Int) : HP Unit := [(0, some (.cells (pl t b u h s) 41))]
theorem start : ((evl (Eng.spine 4 body).1 ⟨[.v (ii a0), .v (ii a1), .v (ii a2)] ++ List.replicate (Try.f21.ntmps - 3) .undef, [], 0, []⟩).vmap (leaf 15)).conds [false, true, true, false] =
    [mPErr (A a0) (A a1) != 0, planLike (mPBl (A a0) (A a1)) (mPHeap (A a0) (A a1)) (mPSize (A a0) (A a1)), planLike (mPBl (A a0) (A a1)) (mPHeap (A a0) (A a1)) (mPSize (A a0) (A a1)),
      RB.mBlk (mPHeap (A a0) (A a1)) (mPSize (A a0) (A a1)) a2 != RB.mBlk (mPHeap (A a0) (A a1)) (mPSize (A a0) (A a1)) a2] := by kernel_rfl
theorem start' : ((evl (Eng.spine 4 body).1 ⟨[.v (ii a0), .v (ii a1), .v (ii a2)] ++ List.replicate (Try.f21.ntmps - 3) .undef, [], 0, []⟩).vmap (leaf 15)).path [false, true, true, false] =
    .ok ⟨.normal, pre a0 a1 a2 (mPErr (A a0) (A a1)) false .undef .undef .undef .undef .undef, 104, hp0 (mPTh (A a0) (A a1)) (mPBl (A a0) (A a1)) (mPTab (A a0) (A a1)) (mPHeap (A a0) (A a1)) (mPSize (A a0) (A a1)), 1, [0]⟩ := by kernel_rfl
variable (e t b u h s i : Int) (x10 x11 x12 x13 x14 : SV) (js : Nat → SV)
theorem init1 : ((ev (codeAt body [true, true, true, true, false, false]) ⟨pre a0 a1 a2 e false x10 x11 x12 x13 x14 ++ junk js 89 15, hp0 t b u h s, 1, [0]⟩).vmap (leaf 15)) =
    .ok ⟨.normal, pre a0 a1 a2 e false (.v (li 0)) x11 x12 x13 x14, 104, hp0 t b u h s, 1, [0]⟩ := by kernel_rfl
theorem round1 : ((ev (codeAt body [true, true, true, true, false, true, false, false]) ⟨pre a0 a1 a2 e false (.v (ii i)) x11 x12 x13 x14 ++ junk js 89 15, hp0 t b u h s, 1, [0]⟩).vmap (leaf 15)).conds [true, false] =
    [decide (i < t), W (10 + i) != W (10 + i)] := by kernel_rfl
theorem round1' : ((ev (codeAt body [true, true, true, true, false, true, false, false]) ⟨pre a0 a1 a2 e false (.v (ii i)) x11 x12 x13 x14 ++ junk js 89 15, hp0 t b u h s, 1, [0]⟩).vmap (leaf 15)).path [true, false] =
    .ok ⟨.normal, pre a0 a1 a2 e false (.v (ii (W (i + 1)))) x11 x12 x13 x14, 104, hp0 t b u h s, 1, [0]⟩ := by kernel_rfl
theorem exit1 : ((ev (codeAt body [true, true, true, true, false, true, false, false]) ⟨pre a0 a1 a2 e false (.v (ii i)) x11 x12 x13 x14 ++ junk js 89 15, hp0 t b u h s, 1, [0]⟩).vmap (leaf 15)).conds [false] =
    [decide (i < t)] := by kernel_rfl
theorem exit1' : ((ev (codeAt body [true, true, true, true, false, true, false, false]) ⟨pre a0 a1 a2 e false (.v (ii i)) x11 x12 x13 x14 ++ junk js 89 15, hp0 t b u h s, 1, [0]⟩).vmap (leaf 15)).path [false] =
    .ok ⟨.exit 0, pre a0 a1 a2 e false (.v (ii i)) x11 x12 x13 x14, 104, hp0 t b u h s, 1, [0]⟩ := by kernel_rfl
theorem init2 : ((ev (codeAt body [true, true, true, true, true, false, false]) ⟨pre a0 a1 a2 e false x10 x11 x12 x13 x14 ++ junk js 89 15, hp0 t b u h s, 1, [0]⟩).vmap (leaf 15)) =
    .ok ⟨.normal, pre a0 a1 a2 e false x10 (.v (li 0)) x12 x13 x14, 104, hp0 t b u h s, 1, [0]⟩ := by kernel_rfl
def same (h i c k : Int) : Bool := W (W (h + W (32 * i)) + W (k * mWords c)) != W (W (h + W (32 * i)) + W (k * mWords c))
theorem same_eq (c k : Int) : same h i c k = false := by simp [same]
abbrev p2 : List Bool := [true, false, false, false, false, false, false, false, false, false, false, false, false, false, false, false]
theorem round2 : ((ev (codeAt body [true, true, true, true, true, false, true, false, false]) ⟨pre a0 a1 a2 e false x10 (.v (ii i)) x12 x13 x14 ++ junk js 89 15, hp0 t b u h s, 1, [0]⟩).vmap (leaf 15)).conds p2 =
    [decide (i < b), W (u + i) != W (u + i), same h i 0 0, same h i 0 1, same h i 0 2, same h i 0 3, same h i 0 4, same h i 0 5, same h i 0 6, same h i 0 7, same h i 1 0, same h i 1 1, same h i 1 2, same h i 1 3, same h i 2 0, same h i 2 1] := by kernel_rfl
theorem round2' : ((ev (codeAt body [true, true, true, true, true, false, true, false, false]) ⟨pre a0 a1 a2 e false x10 (.v (ii i)) x12 x13 x14 ++ junk js 89 15, hp0 t b u h s, 1, [0]⟩).vmap (leaf 15)).path p2 =
    .ok ⟨.normal, pre a0 a1 a2 e false x10 (.v (ii (W (i + 1)))) (.v (li 3)) (.v (li 2)) x14, 104, hp0 t b u h s, 1, [0]⟩ := by kernel_rfl
theorem exit2 : ((ev (codeAt body [true, true, true, true, true, false, true, false, false]) ⟨pre a0 a1 a2 e false x10 (.v (ii i)) x12 x13 x14 ++ junk js 89 15, hp0 t b u h s, 1, [0]⟩).vmap (leaf 15)).conds [false] =
    [decide (i < b)] := by kernel_rfl
theorem exit2' : ((ev (codeAt body [true, true, true, true, true, false, true, false, false]) ⟨pre a0 a1 a2 e false x10 (.v (ii i)) x12 x13 x14 ++ junk js 89 15, hp0 t b u h s, 1, [0]⟩).vmap (leaf 15)).path [false] =
    .ok ⟨.exit 2, pre a0 a1 a2 e false x10 (.v (ii i)) x12 x13 x14, 104, hp0 t b u h s, 1, [0]⟩ := by kernel_rfl
def sameL (s c : Int) : Bool := W (W (3 + W (3 * s)) + c) != W (W (3 + W (3 * s)) + c)
theorem lists : ((ev (codeAt body [true, true, true, true, true, true, false]) ⟨pre a0 a1 a2 e false x10 x11 x12 x13 x14 ++ junk js 89 15, hp0 t b u h s, 1, [0]⟩).vmap (leaf 15)).conds [false, false, false, false, false, false] =
    [sameL 0 0, sameL 1 0, sameL 0 1, sameL 1 1, sameL 0 2, sameL 1 2] := by kernel_rfl
theorem lists' : ((ev (codeAt body [true, true, true, true, true, true, false]) ⟨pre a0 a1 a2 e false x10 x11 x12 x13 x14 ++ junk js 89 15, hp0 t b u h s, 1, [0]⟩).vmap (leaf 15)).path [false, false, false, false, false, false] =
    .ok ⟨.normal, pre a0 a1 a2 e false x10 x11 x12 x13 (.v (li 3)), 104, hp0 t b u h s, 1, [0]⟩ := by kernel_rfl
theorem last : ((ev (codeAt body [true, true, true, true, true, true, true]) ⟨pre a0 a1 a2 e false x10 x11 x12 x13 x14 ++ junk js 89 15, hp0 t b u h s, 1, [0]⟩).vmap (leaf 15)) =
    .ok ⟨.ret, pre a0 a1 a2 e true x10 x11 x12 x13 x14, 104, hp0 t b u h s, 1, [0]⟩ := by kernel_rfl
theorem res : vresults Try.prog (⟨pre a0 a1 a2 e true x10 x11 x12 x13 x14 ++ junk js 89 15, hp0 t b u h s, 1, [0]⟩ : St Unit) Try.f21.results.toList = .ok [.one (.bool (.lit true))] := by kernel_rfl
end
theorem eA (x : Int) : A x = 1 + x % 64 := by
  have e : iand .i64 x 63 = x % 64 := by
    rw [show (63 : Int) = 2 ^ 6 - 1 from rfl, iand_mask_i64 _ 6 (by decide)]
    rfl
  unfold A W
  rw [e]
  exact wrap_i64_of (by omega) (by omega)
theorem like {p q : Int} (h : 1 ≤ p ∧ p ≤ 64 ∧ 1 ≤ q ∧ q ≤ 64) : planLike (mPBl p q) (mPHeap p q) (mPSize p q) = true ∧ mPErr p q = 0 ∧ (1 ≤ mPTh p q ∧ mPTh p q ≤ 64) ∧ (1 ≤ mPBl p q ∧ mPBl p q ≤ 64) := by
  obtain ⟨h1, h2, h3, h4, h5, h6⟩ := plan_fits h
  rw [planLike_iff, h1, h2, h4, h5, h6]
  omega
theorem runs (w : World) (a0 a1 a2 : Int) : Tri unitS Try.prog (lawCtx Unit 1 w) body ⟨[.v (ii a0), .v (ii a1), .v (ii a2)] ++ List.replicate (Try.f21.ntmps - 3) .undef, [], 0, []⟩
    fun x st => (x = .normal ∨ x = .ret) ∧ ∃ l, (vresults Try.prog st Try.f21.results.toList).run = some l ∧ IsTrue (tupleOf l) := by
  have ea := eA a0
  have eb := eA a1
  have hA : 1 ≤ A a0 ∧ A a0 ≤ 64 ∧ 1 ≤ A a1 ∧ A a1 ≤ 64 := by
    rw [ea, eb]
    omega
  obtain ⟨hlike, h6, ht, hbl⟩ := like hA
  refine Tri.lead (m := 15) (n := 89) codeOK 4 rest (Tr.run_at (start a0 a1 a2) (by rw [hlike, h6]; simp) (start' a0 a1 a2)) rfl rfl (Nat.le_refl 1) (fun _ _ => trivial) fun js => ?_
  clear hlike h6 hA ea eb
  revert ht hbl
  generalize mPErr (A a0) (A a1) = e
  generalize mPTh (A a0) (A a1) = t
  generalize mPBl (A a0) (A a1) = b
  generalize mPTab (A a0) (A a1) = u
  generalize mPHeap (A a0) (A a1) = h
  generalize mPSize (A a0) (A a1) = s
  intro ht hbl
  refine Tri.seq (R := fun x st => x = .normal ∧ ∃ x10 js, st = ⟨pre a0 a1 a2 e false x10 .undef .undef .undef .undef ++ junk js 89 15, hp0 t b u h s, 1, [0]⟩) ?_ ?_ (fun x st hx hh => absurd hh.1 hx)
  · refine Tri.seq (Tri.leaf (m := 15) (n := 89) (codeOK _) ((congrArg Tr.run (init1 a0 a1 a2 e t b u h s _ _ _ _ _ js)).trans rfl) rfl (Nat.le_refl 1) (fun _ _ => trivial)) ?_ (fun x st hx hh => absurd hh.1 hx)
    rintro st ⟨_, js, rfl⟩
    refine Tri.block (R := fun x st => x = .exit 0 ∧ ∃ x10 js, st = ⟨pre a0 a1 a2 e false x10 .undef .undef .undef .undef ++ junk js 89 15, hp0 t b u h s, 1, [0]⟩) ?_ (fun st hh => by
      rcases hh with hh | hh
      · cases hh.1
      · exact ⟨rfl, hh.2⟩) (fun x st _ hx hh => absurd hh.1 hx)
    refine Tri.preE fun ac wd hat => ⟨⟨pre a0 a1 a2 e false (.v (ii 0)) .undef .undef .undef .undef ++ junk js 89 15, hp0 t b u h s, 1, [0]⟩, at_wk ?_ ?_ hat, ?_⟩
    · (repeat' apply And.intro) <;> first | rfl | trivial
    · (repeat' apply And.intro) <;> first | rfl | trivial
    refine Tri.loop (J := fun k st => ∃ i js, st = ⟨pre a0 a1 a2 e false (.v (ii i)) .undef .undef .undef .undef ++ junk js 89 15, hp0 t b u h s, 1, [0]⟩ ∧ 0 ≤ i ∧ i ≤ t ∧ k = (t - i).toNat) ?_ (k := (t - 0).toNat) ⟨0, js, rfl, by omega, by omega, rfl⟩
    rintro k st ⟨i, js, rfl, hi0, hi1, hk⟩
    by_cases c : i < t
    · have e4 : W (i + 1) = i + 1 := wrap_i64_of (by omega) (by omega)
      refine (Tri.leaf (m := 15) (n := 89) (codeOK _) (Tr.run_at (round1 a0 a1 a2 e t b u h s i _ _ _ _ js) (by simp [c]) (round1' a0 a1 a2 e t b u h s i _ _ _ _ js)) rfl (Nat.le_refl 1) (fun _ _ => trivial)).mono ?_
      rintro x st ⟨rfl, js', rfl⟩
      exact ⟨(t - (i + 1)).toNat, by omega, i + 1, js', by rw [e4], by omega, by omega, rfl⟩
    · refine (Tri.leaf (m := 15) (n := 89) (codeOK _) (Tr.run_at (exit1 a0 a1 a2 e t b u h s i _ _ _ _ js) (by simp [c]) (exit1' a0 a1 a2 e t b u h s i _ _ _ _ js)) rfl (Nat.le_refl 1) (fun _ _ => trivial)).mono ?_
      rintro x st ⟨rfl, js', rfl⟩
      exact ⟨rfl, _, js', rfl⟩
  rintro st ⟨_, x10, js, rfl⟩
  refine Tri.seq (R := fun x st => x = .normal ∧ ∃ x11 x12 x13 js, st = ⟨pre a0 a1 a2 e false x10 x11 x12 x13 .undef ++ junk js 89 15, hp0 t b u h s, 1, [0]⟩) ?_ ?_ (fun x st hx hh => absurd hh.1 hx)
  · refine Tri.seq (Tri.leaf (m := 15) (n := 89) (codeOK _) ((congrArg Tr.run (init2 a0 a1 a2 e t b u h s _ _ _ _ _ js)).trans rfl) rfl (Nat.le_refl 1) (fun _ _ => trivial)) ?_ (fun x st hx hh => absurd hh.1 hx)
    rintro st ⟨_, js, rfl⟩
    refine Tri.block (R := fun x st => x = .exit 2 ∧ ∃ x11 x12 x13 js, st = ⟨pre a0 a1 a2 e false x10 x11 x12 x13 .undef ++ junk js 89 15, hp0 t b u h s, 1, [0]⟩) ?_ (fun st hh => by
      rcases hh with hh | hh
      · cases hh.1
      · exact ⟨rfl, hh.2⟩) (fun x st _ hx hh => absurd hh.1 hx)
    refine Tri.preE fun ac wd hat => ⟨⟨pre a0 a1 a2 e false x10 (.v (ii 0)) .undef .undef .undef ++ junk js 89 15, hp0 t b u h s, 1, [0]⟩, at_weak (tm' := pre a0 a1 a2 e false x10 (.v (ii 0)) .undef .undef .undef ++ junk js 89 15) ?_ ?_ hat, ?_⟩
    · intro ρ n v hv
      match n, hv with
      | 11, hv =>
        cases v with
        | none => exact hv
        | some v => exact wkS_ok (ρ := ρ) (x := .v (li 0)) (y := .v (ii 0)) ⟨rfl, rfl⟩ hv
      | 0, hv => exact hv
      | 1, hv => exact hv
      | 2, hv => exact hv
      | 3, hv => exact hv
      | 4, hv => exact hv
      | 5, hv => exact hv
      | 6, hv => exact hv
      | 7, hv => exact hv
      | 8, hv => exact hv
      | 9, hv => exact hv
      | 10, hv => exact hv
      | n + 12, hv => exact hv
    · (repeat' apply And.intro) <;> first | rfl | trivial
    refine Tri.loop (J := fun k st => ∃ i x12 x13 js, st = ⟨pre a0 a1 a2 e false x10 (.v (ii i)) x12 x13 .undef ++ junk js 89 15, hp0 t b u h s, 1, [0]⟩ ∧ 0 ≤ i ∧ i ≤ b ∧ k = (b - i).toNat) ?_ (k := (b - 0).toNat) ⟨0, _, _, js, rfl, by omega, by omega, rfl⟩
    rintro k st ⟨i, x12, x13, js, rfl, hi0, hi1, hk⟩
    by_cases c : i < b
    · have e4 : W (i + 1) = i + 1 := wrap_i64_of (by omega) (by omega)
      refine (Tri.leaf (m := 15) (n := 89) (codeOK _) (Tr.run_at (round2 a0 a1 a2 e t b u h s i x10 x12 x13 _ js) (by simp [c, same_eq]) (round2' a0 a1 a2 e t b u h s i x10 x12 x13 _ js)) rfl (Nat.le_refl 1) (fun _ _ => trivial)).mono ?_
      rintro x st ⟨rfl, js', rfl⟩
      exact ⟨(b - (i + 1)).toNat, by omega, i + 1, _, _, js', by rw [e4], by omega, by omega, rfl⟩
    · refine (Tri.leaf (m := 15) (n := 89) (codeOK _) (Tr.run_at (exit2 a0 a1 a2 e t b u h s i x10 x12 x13 _ js) (by simp [c]) (exit2' a0 a1 a2 e t b u h s i x10 x12 x13 _ js)) rfl (Nat.le_refl 1) (fun _ _ => trivial)).mono ?_
      rintro x st ⟨rfl, js', rfl⟩
      exact ⟨rfl, _, _, _, js', rfl⟩
  rintro st ⟨_, x11, x12, x13, js, rfl⟩
  refine Tri.seq (Tri.leaf (m := 15) (n := 89) (codeOK _) (Tr.run_at (lists a0 a1 a2 e t b u h s x10 x11 x12 x13 _ js) (by simp [sameL]) (lists' a0 a1 a2 e t b u h s x10 x11 x12 x13 _ js)) rfl (Nat.le_refl 1) (fun _ _ => trivial)) ?_ (fun x st hx hh => absurd hh.1 hx)
  rintro st ⟨_, js, rfl⟩
  refine (Tri.leaf (m := 15) (n := 89) (codeOK _) ((congrArg Tr.run (last a0 a1 a2 e t b u h s x10 x11 x12 x13 _ js)).trans rfl) rfl (Nat.le_refl 1) (fun _ _ => trivial)).mono ?_
  rintro x st ⟨rfl, js, rfl⟩
  exact ⟨.inr rfl, _, (congrArg Tr.run (res a0 a1 a2 e t b u h s x10 x11 x12 x13 _ js)).trans rfl, rfl⟩
abbrev ts : List TypeId := [3, 3, 3]
abbrev kss : List (List CK) := [[.int .i64], [.int .i64], [.int .i64]]
theorem hts : Try.f21.params.toList = ts := by kernel_rfl
theorem args (a0 a1 a2 : Int) : mkArgs Try.prog ts kss [[a0], [a1], [a2]] = [.v (ii a0), .v (ii a1), .v (ii a2)] := by kernel_rfl
theorem shapes : shapesK Try.prog ts kss := ⟨by kernel_rfl, by kernel_rfl, by kernel_rfl, trivial⟩
theorem core (w : World) (vals : List Value) (ha : F2 (ArgOK Try.prog w) ts vals) :
    Calls Try.prog 21 vals.toArray w fun e W' => ∃ v, e = .returned v ∧ v = .bool true ∧ Below w.heap.size w W' := by
  obtain ⟨nss, hf, hr⟩ := args_plain shapes ha
  match nss, hf, hr with
  | [[a0], [a1], [a2]], hf, hr =>
    rw [args] at hr
    refine (calls_of_tri (R := IsTrue) Try.func21 hb 1 (runs w a0 a1 a2) hr).mono ?_
    rintro e w' ⟨v, x, ρ, rfl, hv, hR, hbel⟩
    exact ⟨v, rfl, hR.value hv, hbel⟩
theorem own : ownKnob Try.prog.godebug = none := by kernel_rfl
theorem lifted {H : Type} (os : Os) (started : os.Started) (enc : TypeId × Value → H) : ReturnsInHanded {} Try.checked os 21 .any (Rows.planPlacesSpec.pre6 enc Try.prog Try.f21 Rows.planPlacesRow.domain false) (Rows.planPlacesSpec.post enc Try.prog Try.f21 false true false false) :=
  law_lifted own started (by kernel_rfl) (by kernel_rfl)
    (ChangeSpec.witness6 (enc := enc) (C := Try.checked) false ⟨#[], #[.int .i64 0, .int .i64 0, .int .i64 0], []⟩ 8 (by kernel_rfl) (by kernel_rfl) (by kernel_rfl) (by kernel_rfl))
    (tb := 4) (by kernel_rfl) (by kernel_rfl) rfl
    (fun ds hd => by
      match ds, hd with
      | [_, _, _], _ => exact ⟨rfl, rfl, rfl⟩)
    (by kernel_rfl) (by kernel_rfl) (fun W vals ha => core W vals (hts ▸ ha))
theorem proved : Rows.PlanPlacesSaid :=
  OpenClaim.holds_of_wide 21 Try.f21 rfl rfl rfl rfl rfl rfl rfl ⟨rfl, rfl, rfl, rfl, rfl⟩ rfl rfl rfl rfl rfl (by kernel_rfl) Try.func21 (by kernel_rfl) (of_decide_eq_true (by kernel_rfl))
    (by unfold Func.isWrapper; first | (rw [if_pos (by decide +kernel)]; kernel_rfl) | (rw [if_neg (by decide +kernel)]; exact ⟨rfl, rfl⟩))
    (fun os started H enc _ => lifted os started enc)
end Go.Proofs.Ytkgfidnpioakfaa.PlanPlaces
