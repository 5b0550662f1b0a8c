/-
  The engine, part Zd: functions over objects by the logic; memories that are opened and closed in a state.
-/
import Derived.Test.YtlkanbgcghjhnaaEngZc
namespace Go.Proofs.Ytlkanbgcghjhnaa.Eng
open Go Go.RowKit
set_option linter.unusedVariables false

section
variable {A : Type} {S : Sys A} {P : Program}
theorem funOK_tri {f : FuncId} {fn : Func} {c : Code} {i : Intr A} (hf : P.funcs[f]? = some fn) (hb : fn.body = some c)
    (h : ∀ args hp nid r, (i args hp nid).run = some r → nid ≤ r.nid ∧ (∀ b o, nid ≤ b → hget r.hp b = some o → b ∈ r.dirty) ∧ ∃ N, r.nid ≤ N ∧ ∀ (E : Ctx A), E.nid0 = nid → E.top = N → (∀ b, nid ≤ b → E.D b) → (∀ b, b ∈ r.dirty → E.D b) →
      Tri S P E c ⟨args ++ List.replicate (fn.ntmps - args.length) .undef, hp, nid, []⟩ fun x st => (x = .normal ∨ x = .ret) ∧ (∀ b, hget st.hp b = hget r.hp b) ∧ st.nid = r.nid ∧ ∃ l, (vresults P st fn.results.toList).run = some l ∧ tupleOf l = r.val) : FunOKz S P f i := by
  intro args hp nid r hrun B ρ F w vargs hhr hargs
  obtain ⟨hle, hdr, N, hN, ht⟩ := h args hp nid r hrun
  have hz : ∀ b, nid ≤ b → ρ b = none := fun b hb => hhr.fresh b hb
  have hn : ∀ b, nid ≤ b → hget hp b = none := fun b hb => by
    cases ho : hget hp b with
    | none => rfl
    | some o => obtain ⟨q, hq⟩ := OK_rho (hhr.live b o ho); rw [hz b hb] at hq; cases hq
  have hF : ∀ b, nid ≤ b → ∀ x, ¬F b x := fun b hb x hx => hhr.dead b (hn b hb) x hx
  let E : Ctx A := { B := B, Z0 := fun k => nid ≤ k, nid0 := nid, top := N, ρ0 := ρ, F0 := F, w0 := w, D := fun b => nid ≤ b ∨ b ∈ r.dirty, own := fun b h1 h2 => ⟨.inl h1, h1⟩, new := hz }
  refine calls_of_wp hf hb ?_
  have hlen : args.length = vargs.length := hargs.length
  have hat : At S E ⟨args ++ List.replicate (fn.ntmps - args.length) .undef, hp, nid, []⟩ ⟨vargs.toArray ++ Array.replicate (fn.ntmps - vargs.toArray.size) undef, []⟩ w := by
    refine ⟨Nat.le_refl _, Nat.le_trans hle hN, ρ, F, ⟨rfl, fun t => ?_⟩, by rw [show E.Z0 = fun k => nid ≤ k from rfl, show E.nid0 = nid from rfl, Zm_self]; exact hhr, Chg.refl _ _ _ _⟩
    have h2 : F2 (RS ρ) (args ++ List.replicate (fn.ntmps - args.length) .undef) (vargs ++ List.replicate (fn.ntmps - vargs.toArray.size) undef) := by
      rw [show vargs.toArray.size = args.length by simp [hlen]]
      exact hargs.append (F2.replicate _ (RS_undef _))
    have h3 : (vargs.toArray ++ Array.replicate (fn.ntmps - vargs.toArray.size) undef)[t]? = (vargs ++ List.replicate (fn.ntmps - vargs.toArray.size) undef)[t]? := by
      rw [← Array.getElem?_toList]
      simp
    show RT _ (args ++ List.replicate (fn.ntmps - args.length) SV.undef)[t]? (vargs.toArray ++ Array.replicate (fn.ntmps - vargs.toArray.size) undef)[t]?
    rw [h3]
    cases hg : (args ++ List.replicate (fn.ntmps - args.length) SV.undef)[t]? with
    | none => rw [h2.getNone t hg]; trivial
    | some v =>
      obtain ⟨u, hu, huv⟩ := h2.get t hg
      rw [hu]
      exact huv
  refine wp_mono (ht E rfl rfl (fun b hb => .inl hb) (fun b hb => .inr hb) _ _ hat) ?_
  rintro e a' w' ⟨x, st, rfl, ⟨hx, hhp, hnid, l, hl, hR⟩, h0, h1, ρ', F', ha, hr, hc⟩
  obtain ⟨vs, hvs, hrs⟩ := vresults_sound ha hr hl
  have hq := results_run hvs
  have hhp' : hget st.hp = hget r.hp := funext hhp
  rw [hnid, hhp'] at hr
  have hc' : Chg (fun b => b ∈ r.dirty) ρ F w ρ' F' w' := by
    refine ⟨hc.rho, fun b hb => ?_, fun b x hb hx => ?_, hc.same, fun k hk hck => hc.heap k hk fun c hc hx => ?_⟩
    · by_cases hbn : nid ≤ b
      · have hrb : hget r.hp b = none := by
          cases ho : hget r.hp b with
          | none => rfl
          | some o => exact absurd (hdr b o hbn ho) hb
        funext x
        exact propext ⟨fun hx => (hr.dead b hrb x hx).elim, fun hx => (hF b hbn x hx).elim⟩
      · exact hc.keep b fun hd => hd.elim hbn hb
    · rcases hc.own b x (.inr hb) hx with h2 | ⟨c, h2, h3⟩
      · exact .inl h2
      · rcases h2 with h2 | h2
        · exact (hF c h2 x h3).elim
        · exact .inr ⟨c, h2, h3⟩
    · rcases hc with h2 | h2
      · exact hF c h2 k hx
      · exact hck c h2 hx
  have : bodyPost P fn (fun e w' => ∃ v ρ' F', e = .returned v ∧ RS ρ' r.val v ∧ HR S B (Zm (fun k => nid ≤ k) nid r.nid) ρ' F' (hget r.hp) w' ∧ Chg (fun b => b ∈ r.dirty) ρ F w ρ' F' w') .normal a' w' :=
    ⟨ha.defers, _, hq, _, ρ', F', rfl, hR ▸ tupleOf_RS hrs, hr, hc'⟩
  rcases hx with rfl | rfl <;> exact this
end

theorem beq_of_pos {n : Nat} (h : 0 < n) : Nat.beq n 0 = false := by
  cases n with
  | zero => omega
  | succ n => rfl
/-! ### Memories in a state -/
def putH (b : Nat) (o : VObj MObj) (dead : List Nat) : HP MObj → HP MObj
  | [] => []
  | (n, q) :: l => match Nat.beq n b with
    | true => (b, some o) :: putH b o dead l
    | false => match memN n dead with
      | true => putH b o dead l
      | false => (n, q) :: putH b o dead l
theorem hget_putH {b : Nat} {o : VObj MObj} {dead : List Nat} : ∀ {hp : HP MObj} (n : Nat), hget (putH b o dead hp) n = if n = b then (if n ∈ hp.map (·.1) then some o else none) else if n ∈ dead then none else hget hp n
  | [], n => by
    simp only [putH, hget, List.map_nil, List.not_mem_nil, if_false]
    split <;> (try split) <;> rfl
  | (k, q) :: l, n => by
    have ih := hget_putH (b := b) (o := o) (dead := dead) (hp := l) n
    simp only [putH]
    cases hb : Nat.beq k b with
    | true =>
      have := Nat.eq_of_beq_eq_true hb
      subst this
      by_cases e : n = k
      · subst e
        simp [hget]
      · rw [hget_ne e, ih, if_neg e, if_neg e, hget_ne e]
    | false =>
      have hkb := Nat.ne_of_beq_eq_false hb
      simp only
      by_cases e : n = b
      · subst e
        have hm : (n ∈ l.map (·.1)) = (n ∈ ((k, q) :: l).map (·.1)) := propext ⟨fun h => List.mem_cons_of_mem _ h, fun h => by
          rcases List.mem_cons.1 h with h | h
          · exact absurd h.symm hkb
          · exact h⟩
        cases memN k dead with
        | true => simp only; rw [ih, if_pos rfl]; simp only [if_true, hm]
        | false => simp only; rw [hget_ne (Ne.symm hkb), ih, if_pos rfl]; simp only [if_true, hm]
      · cases hm : memN k dead with
        | true =>
          have hm := (memN_iff _ _).1 hm
          simp only
          rw [ih, if_neg e, if_neg e]
          by_cases e2 : n ∈ dead
          · rw [if_pos e2, if_pos e2]
          · rw [if_neg e2, if_neg e2, hget_ne (fun h : n = k => e2 (by rw [h]; exact hm))]
        | false =>
          simp only
          by_cases ek : n = k
          · subst ek
            have : n ∉ dead := fun h => by rw [(memN_iff _ _).2 h] at hm; cases hm
            simp [hget, e, this]
          · rw [hget_ne ek, ih, if_neg e, if_neg e, hget_ne ek]
section
variable {tyW tyA : TypeId} {P : Program} {E : Ctx MObj}
/-- Three objects of a state are one memory. -/
theorem at_memfold {tm : List SV} {hp : HP MObj} {nid : Nat} {dirty : List Nat} {a : Act} {w : World} {b x1 x2 : Nat} {ty : TypeId} {xs : List Int} {c t : Int} (hm : IsMem tyW tyA (hget hp) b x1 x2 ty xs c t) (hb : E.D b) (h1 : E.D x1) (h2 : E.D x2)
    (h : At (memSys tyW tyA) E ⟨tm, hp, nid, dirty⟩ a w) : At (memSys tyW tyA) E ⟨tm, putH b (.abs (.mem ty xs c t)) [x1, x2] hp, nid, []⟩ a w := by
  obtain ⟨h0, ht, ρ, F, ha, hr, hch⟩ := h
  have hr : HR (memSys tyW tyA) E.B (Zm E.Z0 E.nid0 nid) ρ F (hget hp) w := hr
  let F' : Fm := fun n => if n = b then (fun x => F b x ∨ F x1 x ∨ F x2 x) else if n = x1 ∨ n = x2 then (fun _ => False) else F n
  have fb : F' b = fun x => F b x ∨ F x1 x ∨ F x2 x := by simp only [F', if_pos]
  have fx : ∀ {n}, n ≠ b → (n = x1 ∨ n = x2) → F' n = fun _ => False := fun {n} e1 e2 => by simp only [F', if_neg e1, if_pos e2]
  have fn : ∀ {n}, n ≠ b → ¬(n = x1 ∨ n = x2) → F' n = F n := fun {n} e1 e2 => by simp only [F', if_neg e1, if_neg e2]
  have hok := mem_fold hr hm (F' b) (fun x => by rw [fb])
  obtain ⟨n1, n2, n3, ⟨n, tr, cs, ts, hob, _⟩, hw⟩ := hm
  have hbin : b ∈ hp.map (·.1) := by
    obtain ⟨q, hq, e, _⟩ := hget_mem hob
    exact List.mem_map.2 ⟨q, hq, e⟩
  have hl : ∀ n, hget (putH b (.abs (.mem ty xs c t)) [x1, x2] hp) n = if n = b then some (.abs (.mem ty xs c t)) else if n = x1 ∨ n = x2 then none else hget hp n := fun n => by
    rw [hget_putH]
    by_cases e : n = b
    · rw [if_pos e, if_pos e, if_pos (e ▸ hbin)]
    · rw [if_neg e, if_neg e]
      by_cases e2 : n = x1 ∨ n = x2
      · rw [if_pos e2, if_pos (by simpa using e2)]
      · rw [if_neg e2, if_neg (by simpa using e2)]
  have src : ∀ m y, F' m y → ∃ d, F d y ∧ ((d = m ∧ ¬(m ≠ b ∧ (m = x1 ∨ m = x2))) ∨ (m = b ∧ (d = x1 ∨ d = x2))) := fun m y hy => by
    by_cases e : m = b
    · subst e
      rw [fb] at hy
      rcases hy with k | k | k
      · exact ⟨_, k, .inl ⟨rfl, fun h => h.1 rfl⟩⟩
      · exact ⟨_, k, .inr ⟨rfl, .inl rfl⟩⟩
      · exact ⟨_, k, .inr ⟨rfl, .inr rfl⟩⟩
    · by_cases e2 : m = x1 ∨ m = x2
      · rw [fx e e2] at hy; exact hy.elim
      · rw [fn e e2] at hy; exact ⟨m, hy, .inl ⟨rfl, fun h => e2 h.2⟩⟩
  refine ⟨h0, ht, ρ, F', ha, ⟨fun n o ho => ?_, fun n hn x hx => ?_, fun n x hx => ?_, fun n n' x hx hx' => ?_, hr.fresh, hr.base⟩, ?_⟩
  · have ho : hget (putH b (.abs (.mem ty xs c t)) [x1, x2] hp) n = some o := ho
    rw [hl] at ho
    by_cases e : n = b
    · rw [if_pos e] at ho
      injection ho with ho
      subst ho e
      exact hok
    · rw [if_neg e] at ho
      by_cases e2 : n = x1 ∨ n = x2
      · rw [if_pos e2] at ho; cases ho
      · rw [if_neg e2] at ho
        rw [fn e e2]
        exact hr.live n o ho
  · have hn : hget (putH b (.abs (.mem ty xs c t)) [x1, x2] hp) n = none := hn
    rw [hl] at hn
    by_cases e : n = b
    · rw [if_pos e] at hn; cases hn
    · rw [if_neg e] at hn
      by_cases e2 : n = x1 ∨ n = x2
      · rw [fx e e2] at hx; exact hx
      · rw [if_neg e2] at hn
        rw [fn e e2] at hx
        exact hr.dead n hn x hx
  · obtain ⟨d, hd, _⟩ := src n x hx
    exact hr.bound d x hd
  · obtain ⟨d, hd, k⟩ := src n x hx
    obtain ⟨d', hd', k'⟩ := src n' x hx'
    have := hr.disj d d' x hd hd'
    subst this
    rcases k with ⟨rfl, k⟩ | ⟨rfl, k⟩ <;> rcases k' with ⟨k1, k'⟩ | ⟨k1, k'⟩
    · exact k1
    · by_cases e : d = n'
      · exact e
      · rw [← k1] at k
        exact absurd ⟨e, k'⟩ k
    · by_cases e : n' = n
      · exact e.symm
      · subst k1
        exact absurd ⟨e, k⟩ k'
    · exact k1.symm
  · refine ⟨hch.rho, fun n hn => ?_, fun n x hD hx => ?_, hch.same, hch.heap⟩
    · have e : n ≠ b := fun e => hn (e ▸ hb)
      have e2 : ¬(n = x1 ∨ n = x2) := fun e2 => hn (e2.elim (fun e => e ▸ h1) fun e => e ▸ h2)
      rw [fn e e2]
      exact hch.keep n hn
    · obtain ⟨d, hd, k⟩ := src n x hx
      refine hch.own d x ?_ hd
      rcases k with ⟨rfl, _⟩ | ⟨_, rfl | rfl⟩
      · exact hD
      · exact h1
      · exact h2
/-- The heap with a memory's three objects. -/
def openH (b : Nat) (ty tyW : TypeId) (xs : List Int) (c t : Int) (nid : Nat) (tr : VV) (o2 : Option (VObj MObj)) (hp : HP MObj) : HP MObj :=
  (match o2 with | none => [] | some o => [(nid + 1, some o)]) ++ (nid, some (.tab [.int .u64] (rowsW xs) tyW)) :: hset hp b (memO ty xs.length c t nid tr)
/-- A memory of a state becomes three objects. -/
theorem at_memopen {tm : List SV} {hp : HP MObj} {nid : Nat} {dirty : List Nat} {a : Act} {w : World} {b : Nat} {ty : TypeId} {xs : List Int} {c t : Int} (hb : hget hp b = some (.abs (.mem ty xs c t))) (hD : E.D b) (htop : nid + 2 ≤ E.top)
    (h : At (memSys tyW tyA) E ⟨tm, hp, nid, dirty⟩ a w) : ∃ tr o2, TrIn tyA (nid + 1) c.toNat tr o2 ∧ (inK .i64 c ∧ inK .i64 t ∧ xs.length ≤ 9223372036854775807 ∧ ∀ x ∈ xs, inK .u64 x) ∧ At (memSys tyW tyA) E ⟨tm, openH b ty tyW xs c t nid tr o2 hp, nid + 2, []⟩ a w := by
  obtain ⟨h0, ht, ρ, F, ha, hr, hch⟩ := h
  have h0 : E.nid0 ≤ nid := h0
  have hr : HR (memSys tyW tyA) E.B (Zm E.Z0 E.nid0 nid) ρ F (hget hp) w := hr
  have hz : ∀ n, nid ≤ n → n < nid + 2 → Zm E.Z0 E.nid0 nid n := fun n h1 h2 => ⟨(E.own n (by omega) (by omega)).2, by omega⟩
  have hDn : ∀ n, nid ≤ n → n < nid + 2 → E.D n := fun n h1 h2 => (E.own n (by omega) (by omega)).1
  obtain ⟨ρ', F', tr, o2, htr, hle, hρ, hhr, hF1, hF2, g1, g2, g3, g4⟩ := mem_unfold (a := b) (y1 := nid) (y2 := nid + 1) (ty := ty) (xs := xs) (c := c) (t := t) hr hb (hz nid (Nat.le_refl _) (by omega)) (hz (nid + 1) (by omega) (by omega)) (by omega)
  have hbn : b ≠ nid ∧ b ≠ nid + 1 := by
    obtain ⟨p, hp⟩ := OK_rho (hr.live b _ hb)
    refine ⟨fun e => ?_, fun e => ?_⟩
    · subst e; rw [hr.fresh b (hz b (Nat.le_refl _) (by omega))] at hp; cases hp
    · subst e; rw [hr.fresh (nid + 1) (hz (nid + 1) (by omega) (by omega))] at hp; cases hp
  have hfree : ∀ n, nid ≤ n → n < nid + 2 → hget hp n = none ∧ ∀ x, ¬F n x := fun n h1 h2 => by
    have hn : hget hp n = none := by
      cases ho : hget hp n with
      | none => rfl
      | some o =>
        obtain ⟨p, hp⟩ := OK_rho (hr.live n o ho)
        rw [hr.fresh n (hz n h1 h2)] at hp
        cases hp
    exact ⟨hn, fun x hx => hr.dead n hn x hx⟩
  have hl : memH (hget hp) b nid (nid + 1) ty tyW xs c t tr o2 = hget (openH b ty tyW xs c t nid tr o2 hp) := by
    funext n
    have key : ∀ m, hget ((nid, some (.tab [.int .u64] (rowsW xs) tyW)) :: hset hp b (memO ty xs.length c t nid tr)) m = if m = nid then some (.tab [.int .u64] (rowsW xs) tyW) else if m = b then some (memO ty xs.length c t nid tr) else hget hp m := fun m => by
      by_cases e : m = nid
      · subst e; simp [hget]
      · rw [hget_ne e, hget_hset, if_neg e]
    unfold openH memH
    have hk1 := hfree (nid + 1) (by omega) (by omega)
    by_cases e0 : n = b
    · subst e0
      rw [if_pos rfl]
      cases o2 with
      | none => simp only [List.nil_append]; rw [key, if_neg hbn.1, if_pos rfl]
      | some o => simp only [List.cons_append, List.nil_append]; rw [hget_ne hbn.2, key, if_neg hbn.1, if_pos rfl]
    · rw [if_neg e0]
      by_cases e1 : n = nid
      · subst e1
        rw [if_pos rfl]
        cases o2 with
        | none => simp only [List.nil_append]; rw [key, if_pos rfl]
        | some o => simp only [List.cons_append, List.nil_append]; rw [hget_ne (by omega), key, if_pos rfl]
      · rw [if_neg e1]
        by_cases e2 : n = nid + 1
        · subst e2
          rw [if_pos rfl]
          cases o2 with
          | none => simp only [List.nil_append]; rw [key, if_neg e1, if_neg e0, hk1.1]
          | some o => simp only [List.cons_append, List.nil_append]; simp [hget]
        · rw [if_neg e2]
          cases o2 with
          | none => simp only [List.nil_append]; rw [key, if_neg e1, if_neg e0]
          | some o => simp only [List.cons_append, List.nil_append]; rw [hget_ne e2, key, if_neg e1, if_neg e0]
  rw [hl] at hhr
  refine ⟨tr, o2, htr, ⟨g1, g2, g3, g4⟩, Nat.le_trans h0 (Nat.le_add_right _ _), htop, ρ', F', ⟨ha.defers, fun t => RT.mono hle (ha.tmps t)⟩, hhr.mono fun n hn => ?_, ?_⟩
  · have h3 : E.Z0 n := hn.1
    have h4 : ¬(E.nid0 ≤ n ∧ n < nid + 2) := hn.2
    exact ⟨⟨h3, by omega⟩, by omega, by omega⟩
  · refine ⟨Rho.le_trans hch.rho hle, fun n hn => ?_, fun n x hDn' hx => ?_, hch.same, hch.heap⟩
    · rw [hF1 n (fun e => hn (e ▸ hD)) (fun e => hn (e ▸ hDn nid (Nat.le_refl _) (by omega))) (fun e => hn (e ▸ hDn (nid + 1) (by omega) (by omega)))]
      exact hch.keep n hn
    · by_cases e0 : n = b
      · subst e0; exact hch.own n x hD ((hF2 x).2 (.inl hx))
      · by_cases e1 : n = nid
        · subst e1; exact hch.own b x hD ((hF2 x).2 (.inr (.inl hx)))
        · by_cases e2 : n = nid + 1
          · subst e2; exact hch.own b x hD ((hF2 x).2 (.inr (.inr hx)))
          · rw [hF1 n e0 e1 e2] at hx
            exact hch.own n x hDn' hx
end
end Go.Proofs.Ytlkanbgcghjhnaa.Eng
