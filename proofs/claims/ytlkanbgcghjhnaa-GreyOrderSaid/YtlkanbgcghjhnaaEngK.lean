/-
  The engine, part K: a region whose order is drawn.
-/
import Derived.Test.YtlkanbgcghjhnaaEngJ
namespace Go.Proofs.Ytlkanbgcghjhnaa.Eng
open Go

section
variable {A : Type} {S : Sys A} {P : Program} {B : Nat}

def cntF (f : Nat → Bool) : List Nat → Nat
  | [] => 0
  | x :: r => (match f x with | true => 0 | false => 1) + cntF f r
theorem cntF_len (f : Nat → Bool) : ∀ l : List Nat, cntF f l ≤ l.length
  | [] => Nat.le_refl _
  | x :: r => by
    have := cntF_len f r
    unfold cntF
    simp only [List.length_cons]
    split <;> omega
theorem cntF_le {f g : Nat → Bool} (h : ∀ x, f x = true → g x = true) : ∀ l : List Nat, cntF g l ≤ cntF f l
  | [] => Nat.le_refl _
  | x :: r => by
    have := cntF_le h r
    unfold cntF
    cases hf : f x with
    | true => rw [h x hf]; simpa using this
    | false => cases g x <;> simp <;> omega
theorem cntF_lt {f g : Nat → Bool} (h : ∀ x, f x = true → g x = true) {i : Nat} (hf : f i = false) (hg : g i = true) : ∀ {l : List Nat}, i ∈ l → cntF g l < cntF f l
  | [], hi => by simp at hi
  | x :: r, hi => by
    rcases List.mem_cons.1 hi with rfl | hi
    · have := cntF_le h r
      unfold cntF
      rw [hf, hg]
      simp
      omega
    · have := cntF_lt h hf hg hi
      unfold cntF
      cases hfx : f x with
      | true => rw [h x hfx]; simpa using this
      | false => cases g x <;> simp <;> omega
theorem cntF_zero {f : Nat → Bool} : ∀ {l : List Nat}, cntF f l = 0 → ∀ x ∈ l, f x = true
  | [], _, x, hx => by simp at hx
  | y :: r, h, x, hx => by
    unfold cntF at h
    have h1 : f y = true := by
      cases hf : f y with
      | true => rfl
      | false => rw [hf] at h; simp at h
    rcases List.mem_cons.1 hx with rfl | hx
    · exact h1
    · exact cntF_zero (by omega) x hx

theorem HR.drew {Z : Nat → Prop} {ρ : Rho} {F : Fm} {H : Nat → Option (VObj A)} {w : World} (h : HR S B Z ρ F H w) : HR S B Z ρ F H { w with drawn := w.drawn + 1 } :=
  ⟨fun b o ho => OK.frame S (w := w) (Rho.le_refl ρ) rfl (fun _ _ => rfl) (fun _ _ => rfl) (h.live b o ho), h.dead, h.bound, h.disj, h.fresh, h.base⟩

theorem getD_set {listed : Array Bool} {i j : Nat} (hi : i < listed.size) : (listed.setIfInBounds i true).getD j false = (decide (i = j) || listed.getD j false) := by
  rw [Array.getD_eq_getD_getElem?, Array.getD_eq_getD_getElem?, Array.getElem?_setIfInBounds]
  by_cases h : i = j
  · subst h; simp [hi]
  · simp [h]

theorem ready_ne {ops : Array Oper} {listed : Array Bool} (hs : listed.size = ops.size) (hed : ∀ k o, ops[k]? = some o → ∀ e ∈ o.after, Region.binds .any e = true → e.on < k) :
    ∀ j, j < ops.size → listed.getD j false = false → Region.ready .any ops listed ≠ [] := by
  intro j
  induction j using Nat.strongRecOn with
  | _ j ih =>
    intro hj hl
    have ho : ops[j]? = some ops[j] := by simp [hj]
    by_cases hall : ∀ e ∈ ops[j].after, Region.binds .any e = true → listed.getD e.on false = true
    · have hm : j ∈ Region.ready .any ops listed := mem_ready.2 ⟨by
        have : j < listed.size := by omega
        rw [Array.getD_eq_getD_getElem?] at hl ⊢
        simp [this] at hl ⊢
        exact hl, ops[j], ho, hall⟩
      intro h
      rw [h] at hm
      cases hm
    · simp only [Classical.not_forall] at hall
      obtain ⟨e, he, hb, hn⟩ := hall
      have hlt := hed j _ ho e he hb
      exact ih e.on hlt (by omega) (by simpa using hn)

set_option maxHeartbeats 1000000 in
theorem draw_sound {call : FuncId → List SV → HP A → Nat → Tr (CR A)} (hcall : CallOK S P call)
    (hnames : ∀ (f : FuncId) fn, P.funcs[f]? = some fn → (fn.name == "runtime.NumGoroutine") = false) (hmix : P.follows .mixedOrders = true)
    {ops : Array Oper} {Q : Exit → Act → World → Prop} {id : Nat} {st st' : St A} {recs : List Rec}
    (hrun : (evOpsL P call ops ops.toList 0 st).run = some (st', recs)) (hedge : edgesBack ops.toList 0 = true) (hrace : raceAll recs recs (befores ops.toList []) 0 = true)
    {Z : Nat → Prop} {ρ : Rho} {F : Fm} {a : Act} {w : World} (ha : RA ρ (fun t => st.tm[t]?) a) (hr : HR S B Z ρ F (hget st.hp) w) (hz : ∀ b, st.nid ≤ b → b < st'.nid → Z b)
    (hQ : ∀ a' w' ρ' F', RA ρ' (fun t => st'.tm[t]?) a' → HR S B (Zm Z st.nid st'.nid) ρ' F' (hget st'.hp) w' → Chg (fun b => b ∈ st'.dirty) ρ F w ρ' F' w' → Q .normal a' w') :
    (Code.region id ops true).wp P Q a w := by
  refine wp_region_any hmix ?_
  obtain ⟨σ, ef, h0, hn, hlen, hall⟩ := evOpsL_steps hrun
  have hsz : ops.toList.length = ops.size := Array.length_toList
  rw [hsz] at hn hlen
  have hall' : ∀ k o, ops[k]? = some o → (evOp P call ops k o (σ k)).run = some (ef k) ∧ σ (k + 1) = stepSt o (ef k) (σ k) ∧ recs[k]? = some (recOf ops o (ef k)) := fun k o ho => by
    have := hall k o (by simpa using ho)
    rwa [Nat.zero_add] at this
  have getop : ∀ k, k < ops.size → ∃ o, ops[k]? = some o := fun k hk => ⟨ops[k], by simp [hk]⟩
  let W : Nat → List Nat := fun k => match recs[k]? with | some r => r.w | none => []
  have hW : ∀ k o, ops[k]? = some o → W k = (recOf ops o (ef k)).w := fun k o ho => by simp only [W, (hall' k o ho).2.2]
  have hout : ∀ l k, k < ops.size → l ∉ W k → lv (σ (k + 1)) l = lv (σ k) l := fun l k hk hl => by
    obtain ⟨o, ho⟩ := getop k hk
    rw [hW k o ho] at hl
    obtain ⟨h1, h2, _⟩ := hall' k o ho
    rw [h2]
    exact lv_out (evOp_facts h1).2 hl
  have hmono1 : ∀ k, k < ops.size → (σ k).nid ≤ (σ (k + 1)).nid := fun k hk => by
    obtain ⟨o, ho⟩ := getop k hk
    obtain ⟨h1, h2, _⟩ := hall' k o ho
    rw [h2]
    exact (evOp_facts h1).1
  have hmono : ∀ d j, j + d ≤ ops.size → (σ j).nid ≤ (σ (j + d)).nid := by
    intro d
    induction d with
    | zero => intro j _; exact Nat.le_refl _
    | succ d ih => intro j hj; exact Nat.le_trans (ih j (by omega)) (hmono1 (j + d) (by omega))
  have hmon : ∀ j k, j ≤ k → k ≤ ops.size → (σ j).nid ≤ (σ k).nid := fun j k h1 h2 => by
    have := hmono (k - j) j (by omega)
    rwa [show j + (k - j) = k by omega] at this
  have hdirty1 : ∀ k, k < ops.size → ∀ b, b ∈ (σ k).dirty → b ∈ (σ (k + 1)).dirty := fun k hk b hb => by
    obtain ⟨o, ho⟩ := getop k hk
    rw [(hall' k o ho).2.1]
    exact stepSt_dirty.2 (.inl hb)
  have hdirty : ∀ d j, j + d ≤ ops.size → ∀ b, b ∈ (σ j).dirty → b ∈ (σ (j + d)).dirty := by
    intro d
    induction d with
    | zero => intro j _ b hb; exact hb
    | succ d ih => intro j hj b hb; exact hdirty1 (j + d) (by omega) b (ih j (by omega) b hb)
  have hedge' : ∀ k o, ops[k]? = some o → ∀ e ∈ o.after, Region.binds .any e = true → e.on < k := fun k o ho e he hb => by
    have := edgesBack_spec hedge k o (by simpa using ho) e he hb
    omega
  -- what two that meet are to one another
  have hconf : ∀ j k qj qk, j < k → recs[j]? = some qj → recs[k]? = some qk → conflict qj qk = true → ∃ bf : Nat, (befores ops.toList [])[k]? = some bf ∧ bf.testBit j = true := fun j k qj qk hjk hj hk hc => by
    obtain ⟨bf, h1, h2⟩ := raceAll_spec hrace k qk hk
    exact ⟨bf, h1, h2 j qj (by omega) hj hc⟩
  let ZL : (Nat → Bool) → Nat → Prop := fun L b => Z b ∧ ¬∃ k, k < ops.size ∧ L k = true ∧ (σ k).nid ≤ b ∧ b < (σ (k + 1)).nid
  have main : ∀ (fuel : Nat) (listed : Array Bool) (a' : Act) (w' : World), listed.size = ops.size →
      (∀ j o, ops[j]? = some o → listed.getD j false = true → ∀ e ∈ o.after, Region.binds .any e = true → listed.getD e.on false = true) →
      (∃ ρ' F', RA ρ' (fun t => (VS σ W (listed.getD · false) ops.size (2 * t)).1) a' ∧
        HR S B (ZL (listed.getD · false)) ρ' F' (fun b => (VS σ W (listed.getD · false) ops.size (2 * b + 1)).2) w' ∧ Chg (fun b => b ∈ st'.dirty) ρ F w ρ' F' w') →
      cntF (listed.getD · false) (List.range ops.size) ≤ fuel → wpAny P .any ops Q fuel listed a' w' := by
    have fin : ∀ (listed : Array Bool) (a' : Act) (w' : World), (∀ j, j < ops.size → listed.getD j false = true) →
        (∃ ρ' F', RA ρ' (fun t => (VS σ W (listed.getD · false) ops.size (2 * t)).1) a' ∧
          HR S B (ZL (listed.getD · false)) ρ' F' (fun b => (VS σ W (listed.getD · false) ops.size (2 * b + 1)).2) w' ∧ Chg (fun b => b ∈ st'.dirty) ρ F w ρ' F' w') → Q .normal a' w' := by
      rintro listed a' w' hl ⟨ρ', F', h1, h2, h3⟩
      have hv : ∀ l, VS σ W (listed.getD · false) ops.size l = lv st' l := fun l => by
        rw [VS_at (hout l) (Nat.le_refl _) (fun j hj _ => ⟨fun _ => hj, fun _ => hl j hj⟩), hn]
      refine hQ a' w' ρ' F' ?_ ?_ h3
      · have : (fun t => (VS σ W (listed.getD · false) ops.size (2 * t)).1) = fun t => st'.tm[t]? := by
          funext t
          rw [hv, lv_tmp]
        rwa [this] at h1
      · have : (fun b => (VS σ W (listed.getD · false) ops.size (2 * b + 1)).2) = hget st'.hp := by
          funext b
          rw [hv, lv_obj]
        rw [this] at h2
        refine h2.mono fun b ⟨hb1, hb2⟩ => ⟨hb1, ?_⟩
        rintro ⟨k, hk, _, h4, h5⟩
        refine hb2 ⟨?_, ?_⟩
        · have := hmon 0 k (by omega) (by omega)
          rw [h0] at this
          omega
        · have := hmon (k + 1) ops.size (by omega) (Nat.le_refl _)
          rw [hn] at this
          omega
    intro fuel
    induction fuel with
    | zero =>
      intro listed a' w' hs hcl hinv hc
      have hl : ∀ j, j < ops.size → listed.getD j false = true := fun j hj => cntF_zero (Nat.le_zero.1 hc) j (List.mem_range.2 hj)
      refine ⟨?_, fin listed a' w' hl hinv⟩
      rw [List.eq_nil_iff_forall_not_mem]
      intro j hj
      obtain ⟨h1, o, ho, _⟩ := mem_ready.1 hj
      have hjlt : j < ops.size := (Array.getElem?_eq_some_iff.1 ho).1
      have h2 := hl j hjlt
      have h3 : j < listed.size := by omega
      rw [Array.getD_eq_getD_getElem?] at h1 h2
      simp [h3] at h1 h2
      rw [h1] at h2
      cases h2
    | succ fuel ih =>
      intro listed a' w' hs hcl hinv hc
      refine ⟨fun hnil => ?_, fun i hi => ?_⟩
      · refine fin listed a' w' (fun j hj => ?_) hinv
        cases hlj : listed.getD j false with
        | true => rfl
        | false => exact absurd hnil (ready_ne hs hedge' j hj hlj)
      · obtain ⟨hi1, o, ho, hi2⟩ := mem_ready.1 hi
        have hilt : i < ops.size := (Array.getElem?_eq_some_iff.1 ho).1
        have hils : i < listed.size := by omega
        have hif : listed.getD i false = false := by
          rw [Array.getD_eq_getD_getElem?] at hi1 ⊢
          simp [hils] at hi1 ⊢
          exact hi1
        obtain ⟨hev, hst, hrec⟩ := hall' i o ho
        obtain ⟨ρ', F', h1, h2, h3⟩ := hinv
        -- the two sets of what is done
        have hset : ∀ j, (listed.setIfInBounds i true).getD j false = (decide (i = j) || listed.getD j false) := fun j => getD_set hils
        have hclosed : ∀ j o, ops[j]? = some o → (listed.setIfInBounds i true).getD j false = true → ∀ e ∈ o.after, Region.binds .any e = true → (listed.setIfInBounds i true).getD e.on false = true := by
          intro j oj hoj hlj e he hb
          rw [hset] at hlj ⊢
          rw [Bool.or_eq_true] at hlj ⊢
          rcases hlj with hlj | hlj
          · obtain rfl := of_decide_eq_true hlj
            rw [ho] at hoj
            injection hoj with hoj
            subst hoj
            exact .inr (hi2 e he hb)
          · exact .inr (hcl j oj hoj hlj e he hb)
        have bef : ∀ (L : Nat → Bool), (∀ j o, ops[j]? = some o → L j = true → ∀ e ∈ o.after, Region.binds .any e = true → L e.on = true) →
            ∀ j bf, (befores ops.toList [])[j]? = some bf → L j = true → ∀ i, bf.testBit i = true → L i = true := fun L hL =>
          befores_spec (fun j bf hj => by simp at hj) (fun k ok hok hLk => hL k ok (by simpa using hok) (by simpa using hLk))
        have hwr : ∀ l, l ∈ (recOf ops o (ef i)).r ∨ l ∈ (recOf ops o (ef i)).w → ∀ j, j < ops.size → l ∈ W j → (listed.getD j false = true ↔ j < i) := by
          intro l hl j hj hlj
          obtain ⟨oj, hoj⟩ := getop j hj
          have hrj := (hall' j oj hoj).2.2
          rw [hW j oj hoj] at hlj
          constructor
          · intro hLj
            rcases Nat.lt_trichotomy j i with h | h | h
            · exact h
            · subst h; rw [hif] at hLj; cases hLj
            · exfalso
              obtain ⟨bf, hb1, hb2⟩ := hconf i j _ _ h hrec hrj (conflict_of (x := l) (by
                rcases hl with hl | hl
                · exact .inr ⟨hl, hlj⟩
                · exact .inl ⟨hl, .inr hlj⟩))
              have := bef (listed.getD · false) hcl j bf hb1 hLj i hb2
              rw [hif] at this
              cases this
          · intro hji
            obtain ⟨bf, hb1, hb2⟩ := hconf j i _ _ hji hrj hrec (conflict_of (x := l) (.inl ⟨hlj, hl⟩))
            have := bef ((listed.setIfInBounds i true).getD · false) hclosed i bf hb1 (by rw [hset]; simp) j hb2
            rw [hset, Bool.or_eq_true] at this
            rcases this with this | this
            · have := of_decide_eq_true this
              omega
            · exact this
        have hat : ∀ l, l ∈ (recOf ops o (ef i)).r ∨ l ∈ (recOf ops o (ef i)).w → VS σ W (listed.getD · false) ops.size l = lv (σ i) l := fun l hl =>
          VS_at (hout l) (Nat.le_of_lt hilt) (hwr l hl)
        have hnew : ∀ l, VS σ W ((listed.setIfInBounds i true).getD · false) ops.size l = if l ∈ (recOf ops o (ef i)).w then lv (σ (i + 1)) l else VS σ W (listed.getD · false) ops.size l := by
          intro l
          by_cases hl : l ∈ (recOf ops o (ef i)).w
          · rw [if_pos hl]
            refine VS_at (hout l) (Nat.succ_le_of_lt hilt) fun j hj hlj => ?_
            have := hwr l (.inr hl) j hj hlj
            try simp only
            rw [hset, Bool.or_eq_true, decide_eq_true_eq, this]
            omega
          · rw [if_neg hl]
            refine VS_congr fun j hj hlj => ?_
            try simp only
            rw [hset]
            have : i ≠ j := by
              rintro rfl
              rw [hW i o ho] at hlj
              exact hl hlj
            simp [this]
        have hnid : (ef i).nid = (σ (i + 1)).nid := by rw [hst]; rfl
        refine evOp_sound hcall hnames ho hev (T := fun t => (VS σ W (listed.getD · false) ops.size (2 * t)).1) (H := fun b => (VS σ W (listed.getD · false) ops.size (2 * b + 1)).2)
          (fun t ht => ?_) (fun b hb => ?_) h1 h2 (fun b hb1 hb2 => ?_) fun a'' w'' ρ'' F'' ha'' hr'' hc'' => ?_
        · try simp only
          rw [hat, lv_tmp]
          rcases ht with ht | ht
          · exact .inl (by simp [recOf, ht])
          · exact .inr (by simp [recOf, ht])
        · try simp only
          rw [hat, lv_obj]
          rcases hb with hb | hb
          · refine .inl ?_
            simp only [recOf, List.mem_append, List.mem_map]
            exact .inr ⟨b, hb, rfl⟩
          · refine .inr ?_
            simp only [recOf, List.mem_append, List.mem_map]
            obtain ⟨q, hq, rfl⟩ := List.mem_map.1 hb
            exact .inr ⟨q, hq, rfl⟩
        · refine ⟨hz b ?_ ?_, ?_⟩
          · have := hmon 0 i (by omega) (by omega)
            rw [h0] at this
            omega
          · have := hmon (i + 1) ops.size (by omega) (Nat.le_refl _)
            rw [hn] at this
            omega
          · rintro ⟨k, hk, hLk, h4, h5⟩
            rcases Nat.lt_trichotomy k i with h | h | h
            · have := hmon (k + 1) i (by omega) (by omega)
              omega
            · subst h
              have hLk' : listed.getD k false = true := hLk
              rw [hif] at hLk'
              cases hLk'
            · have := hmon (i + 1) k (by omega) (by omega)
              omega
        · refine ih (listed.setIfInBounds i true) a'' w'' (by simpa using hs) hclosed ⟨ρ'', F'', ?_, ?_, ?_⟩ ?_
          · have : (fun t => (VS σ W ((listed.setIfInBounds i true).getD · false) ops.size (2 * t)).1) = setT (fun t => (VS σ W (listed.getD · false) ops.size (2 * t)).1) o.dst (ef i).val := by
              funext t
              rw [hnew]
              unfold setT
              by_cases hd : o.dst = some t
              · rw [if_pos hd, if_pos (by simp [recOf, hd]), lv_tmp, hst]
                have := congrFun (getElem?_setTm (v := (ef i).val) (evOp_facts hev).2) t
                simp only [setT, hd, if_true] at this
                simp only [stepSt]
                rw [hd]
                exact this
              · rw [if_neg hd, if_neg]
                simp only [recOf, List.mem_append, List.mem_map, not_or, not_exists, not_and]
                refine ⟨?_, fun q _ hq => by omega⟩
                cases hod : o.dst with
                | none => simp
                | some d =>
                  simp only [List.mem_singleton]
                  intro h
                  have h' : t = d := Nat.eq_of_mul_eq_mul_left (by decide : 0 < 2) h
                  exact hd (hod.trans (congrArg some h'.symm))
            rw [this]
            exact ha''
          · have : (fun b => (VS σ W ((listed.setIfInBounds i true).getD · false) ops.size (2 * b + 1)).2) = over (fun b => (VS σ W (listed.getD · false) ops.size (2 * b + 1)).2) (ef i).asg := by
              funext b
              rw [hnew]
              by_cases hb : b ∈ (ef i).asg.map (·.1)
              · rw [if_pos, lv_obj, hst]
                · show hget (hputs (σ i).hp (ef i).asg) b = _
                  rw [hget_hputs]
                  exact over_in hb
                · simp only [recOf, List.mem_append, List.mem_map]
                  obtain ⟨q, hq, rfl⟩ := List.mem_map.1 hb
                  exact .inr ⟨q, hq, rfl⟩
              · rw [over_out hb, if_neg]
                simp only [recOf, List.mem_append, List.mem_map, not_or, not_exists, not_and]
                refine ⟨?_, fun q hq hqb => hb (List.mem_map.2 ⟨q, hq, by omega⟩)⟩
                cases hod : o.dst with
                | none => simp
                | some d =>
                  simp only [List.mem_singleton]
                  omega
            rw [this]
            refine hr''.mono fun b ⟨hb1, hb2⟩ => ⟨⟨hb1, ?_⟩, ?_⟩
            · rintro ⟨k, hk, hLk, h4⟩
              refine hb2 ⟨k, hk, ?_, h4⟩
              have hLk' : listed.getD k false = true := hLk
              show (listed.setIfInBounds i true).getD k false = true
              rw [hset, hLk']
              simp
            · rintro ⟨h4, h5⟩
              refine hb2 ⟨i, hilt, ?_, h4, by rw [← hnid]; exact h5⟩
              try simp only
              rw [hset]
              simp
          · refine h3.trans (hc''.mono fun b hb => ?_)
            have : b ∈ (σ (i + 1)).dirty := by rw [hst]; exact stepSt_dirty.2 (.inr hb)
            have := hdirty (ops.size - (i + 1)) (i + 1) (by omega) b this
            rw [show i + 1 + (ops.size - (i + 1)) = ops.size by omega, hn] at this
            exact this
          · have : cntF ((listed.setIfInBounds i true).getD · false) (List.range ops.size) < cntF (listed.getD · false) (List.range ops.size) :=
              cntF_lt (fun x hx => by rw [hset, hx]; simp) hif (by rw [hset]; simp) (List.mem_range.2 hilt)
            omega
  have hrep : ∀ j, (Array.replicate ops.size false).getD j false = false := fun j => by
    rw [Array.getD_eq_getD_getElem?, Array.getElem?_replicate]
    split <;> rfl
  have hv0 : ∀ l, VS σ W ((Array.replicate ops.size false).getD · false) ops.size l = lv st l := fun l => by
    rw [VS_at (hout l) (Nat.zero_le _) (fun j _ _ => ⟨fun h => (by
      have h' : (Array.replicate ops.size false).getD j false = true := h
      rw [hrep] at h'
      cases h'), fun h => (by omega)⟩), h0]
  refine main ops.size _ a _ (by simp) (fun j o _ hl => by rw [hrep] at hl; cases hl) ⟨ρ, F, ?_, ?_, ?_⟩ ?_
  · have : (fun t => (VS σ W ((Array.replicate ops.size false).getD · false) ops.size (2 * t)).1) = fun t => st.tm[t]? := by
      funext t
      rw [hv0, lv_tmp]
    rw [this]
    exact ha
  · have : (fun b => (VS σ W ((Array.replicate ops.size false).getD · false) ops.size (2 * b + 1)).2) = hget st.hp := by
      funext b
      rw [hv0, lv_obj]
    rw [this]
    exact hr.drew.mono fun b hb => hb.1
  · exact ⟨Rho.le_refl ρ, fun _ _ => rfl, fun b _ hd hx => .inr ⟨b, hd, hx⟩, ⟨rfl, rfl, rfl, Nat.le_refl _⟩, fun _ _ _ => rfl⟩
  · have := cntF_len ((Array.replicate ops.size false).getD · false) (List.range ops.size)
    simpa using this
end
end Go.Proofs.Ytlkanbgcghjhnaa.Eng
