/-
  The engine, part J: the operations of a region, one behind the other; or in whatever order, if no two that may change places meet.
-/
import Derived.Test.YtlkanbgcghjhnaaEngI
namespace Go.Proofs.Ytlkanbgcghjhnaa.Eng
open Go

section
variable {A : Type} {S : Sys A} {P : Program} {B : Nat}

theorem getElem?_setTm {tm : List SV} {d : Option Nat} {v : SV} (hd : ∀ t, d = some t → t < tm.length) : (fun t => (setTm tm d v)[t]?) = setT (fun t => tm[t]?) d v := by
  funext t
  cases d with
  | none => simp [setTm, setT]
  | some d =>
    have := hd d rfl
    simp only [setTm, setT, lset_eq, Option.some.injEq, List.getElem?_set]
    by_cases h : d = t
    · subst h; simp [this]
    · simp [h]
theorem evOp_facts {call : FuncId → List SV → HP A → Nat → Tr (CR A)} {ops : Array Oper} {i : Nat} {o : Oper} {st : St A} {e : Eff A} (h : (evOp P call ops i o st).run = some e) :
    st.nid ≤ e.nid ∧ ∀ t, o.dst = some t → t < st.tm.length := by
  unfold evOp at h
  rw [Tr.run_chk, Bool.and_eq_true] at h
  obtain ⟨⟨_, hd⟩, h⟩ := h
  refine ⟨?_, fun t ht => by
    rw [ht] at hd
    obtain ⟨x, hx⟩ := Option.isSome_iff_exists.1 hd
    rw [nth_eq] at hx
    exact (List.getElem?_eq_some_iff.1 hx).1⟩
  split at h
  · rw [Tr.run_bind] at h
    obtain ⟨e0, _, h⟩ := h
    rw [Tr.run_chk] at h
    obtain ⟨hn, hl⟩ := h
    rw [(litVal_sound hl).2.2.1]
    simpa using hn
  · rw [Tr.run_ok] at h; subst h; exact Nat.le_refl _
  · simp [Tr.run] at h

theorem stepSt_dirty {o : Oper} {e : Eff A} {st : St A} {b : Nat} : b ∈ (stepSt o e st).dirty ↔ b ∈ st.dirty ∨ b ∈ e.asg.map (·.1) := mem_addAll

/-! ### One behind the other -/
theorem evOps_facts {call : FuncId → List SV → HP A → Nat → Tr (CR A)} {ops : Array Oper} : ∀ {os : List Oper} {i : Nat} {st st' : St A}, (evOps P call ops os i st).run = some st' →
    st.nid ≤ st'.nid ∧ ∀ b, b ∈ st.dirty → b ∈ st'.dirty
  | [], i, st, st', h => by simp only [evOps, Tr.run_ok] at h; subst h; exact ⟨Nat.le_refl _, fun _ h => h⟩
  | o :: os, i, st, st', h => by
    rw [evOps, Tr.run_bind] at h
    obtain ⟨e, he, h⟩ := h
    obtain ⟨h1, h2⟩ := evOps_facts h
    exact ⟨Nat.le_trans (evOp_facts he).1 h1, fun b hb => h2 b (stepSt_dirty.2 (.inl hb))⟩

theorem evOps_sound {call : FuncId → List SV → HP A → Nat → Tr (CR A)} (hcall : CallOK S P call)
    (hnames : ∀ (f : FuncId) fn, P.funcs[f]? = some fn → (fn.name == "runtime.NumGoroutine") = false) {ops : Array Oper} {Q : Exit → Act → World → Prop} :
    ∀ {os : List Oper} {i : Nat} {st st' : St A}, ops.toList.drop i = os → (evOps P call ops os i st).run = some st' →
      ∀ {Z : Nat → Prop} {ρ : Rho} {F : Fm} {a : Act} {w : World}, RA ρ (fun t => st.tm[t]?) a → HR S B Z ρ F (hget st.hp) w → (∀ b, st.nid ≤ b → b < st'.nid → Z b) →
      (∀ a' w' ρ' F', RA ρ' (fun t => st'.tm[t]?) a' → HR S B (Zm Z st.nid st'.nid) ρ' F' (hget st'.hp) w' → Chg (fun b => b ∈ st'.dirty) ρ F w ρ' F' w' → Q .normal a' w') →
      wpOps P ops Q (List.range' i os.length) a w
  | [], i, st, st', _, h, Z, ρ, F, a, w, ha, hr, _, hQ => by
    simp only [evOps, Tr.run_ok] at h
    subst h
    exact hQ a w ρ F ha (by rw [Zm_self]; exact hr) (Chg.refl _ _ _ _)
  | o :: os, i, st, st', hd, h, Z, ρ, F, a, w, ha, hr, hz, hQ => by
    rw [evOps, Tr.run_bind] at h
    obtain ⟨e, he, h⟩ := h
    have hi : ops[i]? = some o := by
      have : (ops.toList.drop i)[0]? = some o := by rw [hd]; rfl
      simpa using this
    have hd' : ops.toList.drop (i + 1) = os := by
      rw [← List.drop_drop, hd]; rfl
    obtain ⟨hn, hdst⟩ := evOp_facts he
    obtain ⟨hn', hdirty⟩ := evOps_facts h
    rw [List.length_cons, List.range'_succ, wpOps_cons]
    refine evOp_sound hcall hnames hi he (fun _ _ => rfl) (fun _ _ => rfl) ha hr (fun b h1 h2 => hz b h1 (Nat.lt_of_lt_of_le h2 hn')) fun a' w' ρ' F' ha' hr' hc => ?_
    refine evOps_sound hcall hnames hd' h (Z := Zm Z st.nid e.nid) (ρ := ρ') (F := F') ?_ ?_ (fun b h1 h2 => ?_) fun a'' w'' ρ'' F'' ha'' hr'' hc'' => ?_
    · rw [show (fun t => (stepSt o e st).tm[t]?) = setT (fun t => st.tm[t]?) o.dst e.val from getElem?_setTm hdst]
      exact ha'
    · rw [show hget (stepSt o e st).hp = over (hget st.hp) e.asg from hget_hputs _ _]
      exact hr'
    · have h1' : e.nid ≤ b := h1
      exact ⟨hz b (Nat.le_trans hn h1') h2, by omega⟩
    · refine hQ a'' w'' ρ'' F'' ha'' ?_ ?_
      · have : Zm (Zm Z st.nid e.nid) (stepSt o e st).nid st'.nid = Zm Z st.nid st'.nid := Zm_trans Z hn hn'
        rw [← this]
        exact hr''
      · exact (hc.mono fun b hb => hdirty b (stepSt_dirty.2 (.inr hb))).trans hc''

/-! ### Whatever order -/
theorem evOpsL_steps {call : FuncId → List SV → HP A → Nat → Tr (CR A)} {ops : Array Oper} : ∀ {os : List Oper} {i : Nat} {st st' : St A} {recs : List Rec},
    (evOpsL P call ops os i st).run = some (st', recs) →
    ∃ (σ : Nat → St A) (ef : Nat → Eff A), σ 0 = st ∧ σ os.length = st' ∧ recs.length = os.length ∧
      ∀ k o, os[k]? = some o → (evOp P call ops (i + k) o (σ k)).run = some (ef k) ∧ σ (k + 1) = stepSt o (ef k) (σ k) ∧ recs[k]? = some (recOf ops o (ef k))
  | [], i, st, st', recs, h => by
    simp only [evOpsL, Tr.run_ok] at h
    injection h with h1 h2
    subst h1 h2
    exact ⟨fun _ => st, fun _ => ⟨.undef, [], [], 0⟩, rfl, rfl, rfl, fun k o hk => by simp at hk⟩
  | o :: os, i, st, st', recs, h => by
    rw [evOpsL, Tr.run_bind] at h
    obtain ⟨e, he, h⟩ := h
    rw [Tr.run_bind] at h
    obtain ⟨⟨s, rs⟩, h, hr⟩ := h
    rw [Tr.run_ok] at hr
    injection hr with h1 h2
    subst h1 h2
    obtain ⟨σ, ef, h0, hn, hl, hall⟩ := evOpsL_steps h
    refine ⟨fun k => match k with | 0 => st | k + 1 => σ k, fun k => match k with | 0 => e | k + 1 => ef k, rfl, hn, by simp [hl], fun k o' hk => ?_⟩
    cases k with
    | zero =>
      simp only [List.getElem?_cons_zero, Option.some.injEq] at hk
      subst hk
      exact ⟨he, h0, rfl⟩
    | succ k =>
      simp only [List.getElem?_cons_succ] at hk
      obtain ⟨a1, a2, a3⟩ := hall k o' hk
      refine ⟨?_, a2, by simpa using a3⟩
      rw [show i + (k + 1) = i + 1 + k by omega]
      exact a1

/-- What stands at a place: slot t at 2t, object b at 2b + 1. -/
def lv (s : St A) (l : Nat) : Option SV × Option (VObj A) := if l % 2 = 0 then (s.tm[l / 2]?, none) else (none, hget s.hp (l / 2))
theorem lv_tmp (s : St A) (t : Nat) : lv s (2 * t) = (s.tm[t]?, none) := by
  unfold lv
  rw [if_pos (by omega)]
  congr 2
  omega
theorem lv_obj (s : St A) (b : Nat) : lv s (2 * b + 1) = (none, hget s.hp b) := by
  unfold lv
  rw [if_neg (by omega)]
  congr 2
  omega
theorem lv_out {o : Oper} {e : Eff A} {s : St A} {ops : Array Oper} {l : Nat} (hd : ∀ t, o.dst = some t → t < s.tm.length) (h : l ∉ (recOf ops o e).w) : lv (stepSt o e s) l = lv s l := by
  have h1 : ∀ t, o.dst = some t → l ≠ 2 * t := fun t ht hl => h (by simp [recOf, ht, hl])
  have h2 : ∀ b, b ∈ e.asg.map (·.1) → l ≠ 2 * b + 1 := fun b hb hl => h (by
    simp only [recOf, List.mem_append, List.mem_map]
    obtain ⟨q, hq, rfl⟩ := List.mem_map.1 hb
    exact .inr ⟨q, hq, hl.symm⟩)
  unfold lv
  split
  · rename_i he
    have := congrFun (getElem?_setTm (v := e.val) hd) (l / 2)
    rw [show (stepSt o e s).tm[l / 2]? = setT (fun t => s.tm[t]?) o.dst e.val (l / 2) from this]
    unfold setT
    rw [if_neg]
    intro hdl
    exact h1 _ hdl (by omega)
  · rename_i he
    rw [show hget (stepSt o e s).hp = over (hget s.hp) e.asg from hget_hputs _ _]
    rw [over_out]
    intro hb
    exact h2 _ hb (by omega)

/-- What stands at a place when those of L are done: what the last of them that wrote there left. -/
def VS (σ : Nat → St A) (W : Nat → List Nat) (L : Nat → Bool) : Nat → Nat → Option SV × Option (VObj A)
  | 0, l => lv (σ 0) l
  | m + 1, l => if L m = true ∧ l ∈ W m then lv (σ (m + 1)) l else VS σ W L m l
section
variable {σ : Nat → St A} {W : Nat → List Nat} {L L' : Nat → Bool} {n l : Nat}
theorem VS_congr : ∀ {m : Nat}, (∀ j, j < m → l ∈ W j → L j = L' j) → VS σ W L m l = VS σ W L' m l
  | 0, _ => rfl
  | m + 1, h => by
    unfold VS
    rw [VS_congr fun j hj hw => h j (Nat.lt_succ_of_lt hj) hw]
    by_cases hw : l ∈ W m
    · rw [h m (Nat.lt_succ_self m) hw]
    · simp [hw]
theorem VS_all (hout : ∀ k, k < n → l ∉ W k → lv (σ (k + 1)) l = lv (σ k) l) : ∀ {m : Nat}, m ≤ n → VS σ W (fun _ => true) m l = lv (σ m) l
  | 0, _ => rfl
  | m + 1, hm => by
    unfold VS
    split
    · rfl
    · rename_i h
      have hw : l ∉ W m := fun hw => h ⟨rfl, hw⟩
      rw [VS_all hout (Nat.le_of_succ_le hm), hout m hm hw]
theorem VS_cut {k : Nat} : ∀ {m : Nat}, k ≤ m → (∀ j, k ≤ j → j < m → l ∈ W j → L j = false) → VS σ W L m l = VS σ W L k l
  | 0, hk, _ => by
    obtain rfl : k = 0 := by omega
    rfl
  | m + 1, hk, h => by
    by_cases hkm : k = m + 1
    · subst hkm; rfl
    · rw [VS, if_neg]
      · exact VS_cut (by omega) fun j h1 h2 => h j h1 (Nat.lt_succ_of_lt h2)
      · rintro ⟨h1, h2⟩
        rw [h m (by omega) (Nat.lt_succ_self m) h2] at h1
        cases h1
/-- At a place whose writers among L are just those ahead of k. -/
theorem VS_at (hout : ∀ k, k < n → l ∉ W k → lv (σ (k + 1)) l = lv (σ k) l) {k : Nat} (hk : k ≤ n) (h : ∀ j, j < n → l ∈ W j → (L j = true ↔ j < k)) : VS σ W L n l = lv (σ k) l := by
  have h1 : VS σ W L n l = VS σ W (fun j => decide (j < k)) n l := VS_congr fun j hj hw => by
    have := h j hj hw
    by_cases hjk : j < k
    · rw [this.2 hjk]; simp [hjk]
    · have : L j ≠ true := fun hl => hjk (this.1 hl)
      simp [hjk, this]
  have h2 : VS σ W (fun j => decide (j < k)) n l = VS σ W (fun j => decide (j < k)) k l := VS_cut hk fun j h1 _ _ => by simp; omega
  have h3 : VS σ W (fun j => decide (j < k)) k l = VS σ W (fun _ => true) k l := VS_congr fun j hj _ => by simp [hj]
  rw [h1, h2, h3, VS_all hout hk]
end

/-! ### The look for two that meet -/
theorem meets_iff {a b : List Nat} : meets a b = true ↔ ∃ x, x ∈ a ∧ x ∈ b := by
  unfold meets
  rw [List.any_eq_true]
  constructor
  · rintro ⟨x, h1, h2⟩; exact ⟨x, h1, (memN_iff _ _).1 h2⟩
  · rintro ⟨x, h1, h2⟩; exact ⟨x, h1, (memN_iff _ _).2 h2⟩
theorem conflict_of {a b : Rec} {x : Nat} (h : (x ∈ a.w ∧ (x ∈ b.r ∨ x ∈ b.w)) ∨ (x ∈ a.r ∧ x ∈ b.w)) : conflict a b = true := by
  unfold conflict
  rcases h with ⟨h1, h2 | h2⟩ | ⟨h1, h2⟩
  · rw [meets_iff.2 ⟨x, h1, h2⟩]; simp
  · rw [meets_iff.2 ⟨x, h1, h2⟩]; simp
  · rw [meets_iff.2 ⟨x, h1, h2⟩]; simp
theorem raceOne_spec {r : Rec} {bf : Nat} : ∀ {qs : List Rec} {i : Nat}, raceOne r bf qs i = true → ∀ k q, qs[k]? = some q → conflict q r = true → bf.testBit (i + k) = true
  | [], i, _, k, q, hq, _ => by simp at hq
  | p :: qs, i, h, k, q, hq, hc => by
    unfold raceOne at h
    rw [Bool.and_eq_true] at h
    cases k with
    | zero =>
      simp only [List.getElem?_cons_zero, Option.some.injEq] at hq
      subst hq
      rw [hc] at h
      exact h.1
    | succ k =>
      have := raceOne_spec h.2 k q (by simpa using hq) hc
      rwa [show i + (k + 1) = i + 1 + k by omega]
theorem raceAll_spec {all : List Rec} : ∀ {rs : List Rec} {bs : List Nat} {i : Nat}, raceAll all rs bs i = true → ∀ k r, rs[k]? = some r →
    ∃ bf, bs[k]? = some bf ∧ ∀ j q, j < i + k → all[j]? = some q → conflict q r = true → bf.testBit j = true
  | [], _, _, _, k, r, hr => by simp at hr
  | _ :: _, [], _, h, _, _, _ => by simp [raceAll] at h
  | p :: rs, bf :: bs, i, h, k, r, hr => by
    unfold raceAll at h
    rw [Bool.and_eq_true] at h
    cases k with
    | zero =>
      simp only [List.getElem?_cons_zero, Option.some.injEq] at hr
      subst hr
      refine ⟨bf, rfl, fun j q hj hq hc => ?_⟩
      have := raceOne_spec h.1 j q (by rw [List.getElem?_take, if_pos (by omega)]; exact hq) hc
      simpa using this
    | succ k =>
      obtain ⟨bf', h1, h2⟩ := raceAll_spec h.2 k r (by simpa using hr)
      exact ⟨bf', by simpa using h1, fun j q hj => h2 j q (by omega)⟩
theorem edgesBack_spec : ∀ {os : List Oper} {i : Nat}, edgesBack os i = true → ∀ k o, os[k]? = some o → ∀ e ∈ o.after, Region.binds .any e = true → e.on < i + k
  | [], _, _, k, o, ho, _, _, _ => by simp at ho
  | p :: os, i, h, k, o, ho, e, he, hb => by
    unfold edgesBack at h
    rw [Bool.and_eq_true] at h
    cases k with
    | zero =>
      simp only [List.getElem?_cons_zero, Option.some.injEq] at ho
      subst ho
      have := List.all_eq_true.1 h.1 e (by simpa using he)
      rw [hb] at this
      simpa using this
    | succ k =>
      have := edgesBack_spec h.2 k o (by simpa using ho) e he hb
      omega

/-- A set of operations with each of which all that it waits for is there holds all that 'befores' tells. -/
theorem befores_spec {L : Nat → Bool} : ∀ {os : List Oper} {acc : List Nat},
    (∀ j bf, acc[j]? = some bf → L j = true → ∀ i, bf.testBit i = true → L i = true) →
    (∀ k o, os[k]? = some o → L (acc.length + k) = true → ∀ e ∈ o.after, Region.binds .any e = true → L e.on = true) →
    ∀ j bf, (befores os acc)[j]? = some bf → L j = true → ∀ i, bf.testBit i = true → L i = true
  | [], acc, hacc, _, j, bf, hj, hl, i, hb => hacc j bf hj hl i hb
  | o :: os, acc, hacc, hos, j, bf, hj, hl, i, hb => by
    unfold befores at hj
    refine befores_spec (os := os) ?_ ?_ j bf hj hl i hb
    · intro j bf hj hl i hb
      rw [List.getElem?_append] at hj
      split at hj
      · exact hacc j bf hj hl i hb
      · rename_i hlen
        have hj0 : j = acc.length := by
          have : j - acc.length < 1 := by
            rcases Nat.lt_or_ge (j - acc.length) 1 with h | h
            · exact h
            · rw [List.getElem?_eq_none (by simpa using h)] at hj; cases hj
          omega
        subst hj0
        simp only [Nat.sub_self, List.getElem?_cons_zero, Option.some.injEq] at hj
        have hed := hos 0 o rfl (by simpa using hl)
        subst hj
        have key : ∀ (es : List Edge) (s : Nat), (∀ e ∈ es, e ∈ o.after) → (∀ i, s.testBit i = true → L i = true) →
            ∀ i, (es.foldl (fun s e => match Region.binds .any e with | true => s ||| 2 ^ e.on ||| acc.getD e.on 0 | false => s) s).testBit i = true → L i = true := by
          intro es
          induction es with
          | nil => intro s _ hs i hi; exact hs i hi
          | cons e es ih =>
            intro s hes hs i hi
            simp only [List.foldl_cons] at hi
            refine ih _ (fun e' he' => hes e' (by simp [he'])) (fun i hi => ?_) i hi
            split at hi
            · rename_i hbind
              rw [Nat.testBit_or, Nat.testBit_or, Bool.or_eq_true, Bool.or_eq_true] at hi
              have hon := hed e (hes e (by simp)) hbind
              rcases hi with (hi | hi) | hi
              · exact hs i hi
              · rw [Nat.testBit_two_pow] at hi
                simp only [decide_eq_true_eq] at hi
                exact hi ▸ hon
              · rw [List.getD_eq_getElem?_getD] at hi
                cases hg : acc[e.on]? with
                | none => simp [hg] at hi
                | some b => rw [hg] at hi; exact hacc e.on b hg hon i hi
            · exact hs i hi
        exact key o.after.toList 0 (fun e he => by simpa using he) (fun i hi => by simp at hi) i hb
    · intro k o' ho' hl'
      refine hos (k + 1) o' (by simpa using ho') ?_
      rwa [List.length_append, List.length_singleton, Nat.add_assoc, Nat.add_comm 1 k] at hl'
end
end Go.Proofs.Ytlkanbgcghjhnaa.Eng
