/-
  The engine, part W: rows of tables: slicing, appending, making.
-/
import Derived.Test.YtlkanbgcghjhnaaEngG
import Derived.ArgAppend
namespace Go.Proofs.Ytlkanbgcghjhnaa.Eng
open Go

/-! ### Rows as values -/
def rowV : List CK → List Int → List Value
  | [], _ => []
  | k :: ks, ns => k.real (ns.headD 0) :: rowV ks ns.tail
def flatR (ks : List CK) : List (List Int) → List Value
  | [] => []
  | r :: rs => rowV ks r ++ flatR ks rs
def RFits (ks : List CK) (rows : List (List Int)) : Prop := ∀ (i : Nat) row, rows[i]? = some row → ∀ (j : Nat) k, ks[j]? = some k → ∃ n, row[j]? = some n ∧ k.fits n
theorem rowV_length : ∀ (ks : List CK) (r : List Int), (rowV ks r).length = ks.length
  | [], _ => rfl
  | _ :: ks, r => by simp [rowV, rowV_length ks r.tail]
theorem rowV_get : ∀ (ks : List CK) (r : List Int) (j : Nat) {k : CK} {n : Int}, ks[j]? = some k → r[j]? = some n → (rowV ks r)[j]? = some (k.real n)
  | k0 :: ks, n0 :: r, 0, k, n, hk, hn => by
    simp only [List.getElem?_cons_zero, Option.some.injEq] at hk hn
    subst hk hn
    rfl
  | k0 :: ks, n0 :: r, j + 1, k, n, hk, hn => by
    simp only [rowV, List.getElem?_cons_succ, List.tail_cons] at hk hn ⊢
    exact rowV_get ks r j hk hn
  | [], _, _, _, _, hk, _ => by simp at hk
  | _ :: _, [], _, _, _, _, hn => by simp at hn
theorem flatR_length (ks : List CK) : ∀ rows, (flatR ks rows).length = rows.length * ks.length
  | [] => by simp [flatR]
  | r :: rs => by simp [flatR, rowV_length, flatR_length ks rs, Nat.add_mul, Nat.add_comm]
theorem flatR_append (ks : List CK) : ∀ a b, flatR ks (a ++ b) = flatR ks a ++ flatR ks b
  | [], _ => rfl
  | r :: rs, b => by simp [flatR, flatR_append ks rs b]
theorem flatR_get (ks : List CK) : ∀ (rows : List (List Int)) (i j : Nat) {row : List Int} {k : CK} {n : Int}, rows[i]? = some row → ks[j]? = some k → row[j]? = some n →
    (flatR ks rows)[i * ks.length + j]? = some (k.real n)
  | r :: rs, 0, j, row, k, n, hr, hk, hn => by
    simp only [List.getElem?_cons_zero, Option.some.injEq] at hr
    subst hr
    have := rowV_get ks r j hk hn
    have hj : j < ks.length := (List.getElem?_eq_some_iff.1 hk).1
    rw [flatR, Nat.zero_mul, Nat.zero_add, List.getElem?_append_left (by rw [rowV_length]; exact hj)]
    exact this
  | r :: rs, i + 1, j, row, k, n, hr, hk, hn => by
    simp only [List.getElem?_cons_succ] at hr
    have := flatR_get ks rs i j hr hk hn
    rw [flatR, List.getElem?_append_right (by rw [rowV_length, Nat.add_mul]; omega), rowV_length]
    rw [← this]
    congr 1
    rw [Nat.add_mul]
    omega
  | [], _, _, _, _, _, hr, _, _ => by simp at hr
theorem flatR_mem (ks : List CK) {rows : List (List Int)} (hf : RFits ks rows) {j : Nat} {u : Value} (hu : (flatR ks rows)[j]? = some u) :
    ∃ i c row k n, j = i * ks.length + c ∧ rows[i]? = some row ∧ ks[c]? = some k ∧ row[c]? = some n ∧ k.fits n ∧ u = k.real n := by
  have hj : j < rows.length * ks.length := by
    rw [← flatR_length]
    exact (List.getElem?_eq_some_iff.1 hu).1
  have h0 : 0 < ks.length := by
    rcases Nat.eq_zero_or_pos ks.length with h | h
    · rw [h, Nat.mul_zero] at hj; omega
    · exact h
  have hi : j / ks.length < rows.length := Nat.div_lt_of_lt_mul (by rw [Nat.mul_comm]; exact hj)
  have hc : j % ks.length < ks.length := Nat.mod_lt _ h0
  obtain ⟨n, hn, hfn⟩ := hf _ _ (List.getElem?_eq_getElem hi) _ _ (List.getElem?_eq_getElem hc)
  have hjj : j = j / ks.length * ks.length + j % ks.length := by rw [Nat.mul_comm]; exact (Nat.div_add_mod j ks.length).symm
  refine ⟨_, _, _, _, n, hjj, List.getElem?_eq_getElem hi, List.getElem?_eq_getElem hc, hn, hfn, ?_⟩
  have := flatR_get ks rows _ _ (List.getElem?_eq_getElem hi) (List.getElem?_eq_getElem hc) hn
  rw [← hjj, hu] at this
  injection this
theorem real_one (k : CK) (n : Int) : (k.real n).oneCell' = true := by cases k <;> rfl
theorem flatR_one (ks : List CK) {rows : List (List Int)} (hf : RFits ks rows) : ∀ u ∈ flatR ks rows, u.oneCell' = true := fun u hu => by
  obtain ⟨j, hj⟩ := List.getElem?_of_mem hu
  obtain ⟨_, _, _, k, n, _, _, _, _, _, rfl⟩ := flatR_mem ks hf hj
  exact real_one k n
theorem RFits.append {ks : List CK} {a b : List (List Int)} (ha : RFits ks a) (hb : RFits ks b) : RFits ks (a ++ b) := fun i row hr => by
  rw [List.getElem?_append] at hr
  split at hr
  · exact ha i row hr
  · exact hb _ row hr
theorem tabCells_of_flat {ks : List CK} {rows : List (List Int)} {p : Pl} {arr : Array Value} (hf : RFits ks rows) (hs : p.sz = ks.length) (h0 : p.off0 = 0) (hr : rows.length ≤ p.rows) (hsz : p.rows * p.sz ≤ arr.size)
    (hc : ∀ (j : Nat) u, (flatR ks rows)[j]? = some u → arr[j]? = some u) : TabCells ks rows p arr := by
  refine ⟨hs, hr, by omega, fun i row hi j k hk => ?_⟩
  obtain ⟨n, hn, hfn⟩ := hf i row hi j k hk
  refine ⟨n, hn, hfn, ?_⟩
  rw [h0, hs, Nat.zero_add]
  exact hc _ _ (flatR_get ks rows i j hi hk hn)

section
variable {A : Type} {S : Sys A} {P : Program} {B : Nat} {Z : Nat → Prop} {ρ : Rho} {F : Fm} {H : Nat → Option (VObj A)} {w : World} {nid : Nat}

theorem ckEq_eq : ∀ {a b : CK}, ckEq a b = true → a = b
  | .int _, .int _, h => by simp only [ckEq, decide_eq_true_eq] at h; rw [h]
  | .bool, .bool, _ => rfl
  | .int _, .bool, h => by cases h
  | .bool, .int _, h => by cases h
theorem cksEq_eq : ∀ {a b : List CK}, cksEq a b = true → a = b
  | [], [], _ => rfl
  | a :: as, b :: bs, h => by
    simp only [cksEq, Bool.and_eq_true] at h
    rw [ckEq_eq h.1, cksEq_eq h.2]
  | [], _ :: _, h => by cases h
  | _ :: _, [], h => by cases h
theorem ckNums_length : ∀ {ks : List CK} {vs : List VV} {ns : List Int}, ckNums ks vs = some ns → ns.length = vs.length
  | ks, [], ns, h => by
    have : ns = [] := by cases ks <;> (simp only [ckNums] at h; injection h with h; exact h.symm)
    subst this
    rfl
  | [], _ :: _, _, h => by simp [ckNums] at h
  | k :: ks, v :: vs, ns, h => by
    unfold ckNums at h
    split at h
    · injection h with h
      subst h
      simp [ckNums_length (by assumption)]
    · cases h
theorem cutRows_spec {ks : List CK} : ∀ {n : Nat} {l : List VV} {us : List Value} {rows : List (List Int)}, cutRows ks n l = some rows → F2 (RV ρ) l us → n * ks.length ≤ l.length →
    rows.length = n ∧ RFits ks rows ∧ ∀ (j : Nat) u, (flatR ks rows)[j]? = some u → us[j]? = some u
  | 0, l, us, rows, h, _, _ => by
    cases h
    exact ⟨rfl, fun i row hr => by simp at hr, fun j u hu => by simp [flatR] at hu⟩
  | n + 1, l, us, rows, h, hl, hlen => by
    unfold cutRows at h
    split at h
    · rename_i a r ha hr
      injection h with h
      subst h
      rw [Nat.add_mul, Nat.one_mul] at hlen
      obtain ⟨i1, i2, i3⟩ := cutRows_spec hr (hl.drop ks.length) (by rw [List.length_drop]; omega)
      have hta : (l.take ks.length).length = ks.length := by rw [List.length_take]; omega
      have hal := (ckNums_length ha).trans hta
      obtain ⟨e1, e2, e3⟩ := ckNums_ok ha (hl.take ks.length)
      have hfa : RFits ks (a :: r) := fun i row hi j k hk => by
        cases i with
        | zero =>
          simp only [List.getElem?_cons_zero, Option.some.injEq] at hi
          subst hi
          obtain ⟨m, q1, q2, _⟩ := e3 j k hk (by rw [hal]; exact (List.getElem?_eq_some_iff.1 hk).1)
          exact ⟨m, q1, q2⟩
        | succ i => exact i2 i row (by simpa using hi) j k hk
      refine ⟨by simp [i1], hfa, fun j u hu => ?_⟩
      rw [flatR] at hu
      rcases Nat.lt_or_ge j ks.length with hj | hj
      · rw [List.getElem?_append_left (by rw [rowV_length]; exact hj)] at hu
        obtain ⟨m, q1, q2, q3⟩ := e3 j _ (List.getElem?_eq_getElem hj) (by rw [hal]; exact hj)
        rw [rowV_get ks a j (List.getElem?_eq_getElem hj) q1] at hu
        rw [← hu]
        rw [List.getElem?_take, if_pos hj] at q3
        exact q3
      · rw [List.getElem?_append_right (by rw [rowV_length]; exact hj), rowV_length] at hu
        have := i3 _ _ hu
        rw [List.getElem?_drop] at this
        rw [← this]
        congr 1
        omega
    · cases h

/-- The rows of a slice. -/
theorem rowsOf_spec {hp : HP A} {ks : List CK} {x : SV} {m : SN} {rows : List (List Int)} {rd : List Nat} {v : Value} (hrun : (rowsOf hp ks x).run = some (m, rows, rd)) (h : HR S B Z ρ F H w)
    (hag : ∀ b, b ∈ rd → H b = hget hp b) (hx : RS ρ x v) :
    rows.length = m.val ∧ RFits ks rows ∧ m.val ≤ 9223372036854775807 ∧ ((∃ a c, v = .slice (some a) m.val c ∧ ∀ (j : Nat) u, (flatR ks rows)[j]? = some u → w.cell? (a.add j) = some u) ∨ (v = .slice none 0 0 ∧ m.val = 0)) := by
  unfold rowsOf at hrun
  split at hrun
  · rename_i b off len cap
    split at hrun
    · rename_i l ty hg
      rw [Tr.run_chk, Tr.run_opt] at hrun
      obtain ⟨hle, rs, hrs, he⟩ := hrun
      rw [Tr.run_ok] at he
      injection he with h1 h2
      injection h2 with h2 h3
      subst h1 h2 h3
      simp only [Bool.and_eq_true, decide_eq_true_eq] at hle
      obtain ⟨p, hp', rfl⟩ := hx
      obtain ⟨q, arr, hq, hf, hw, hlr⟩ := h.live _ _ ((hag b (by simp)).trans hg)
      rw [hp'] at hq
      injection hq with hq
      subst hq
      obtain ⟨i1, i2, i3⟩ := cutRows_spec hrs (hlr.drop off) (by rw [List.length_drop]; omega)
      refine ⟨i1, i2, Nat.le_of_ble_eq_true hle.2, .inl ⟨_, _, rfl, fun j u hu => ?_⟩⟩
      rw [add_mk, cell_of_blk hw]
      have := i3 j u hu
      rw [List.getElem?_drop] at this
      simpa using this
    · simp [Tr.run] at hrun
  · rename_i b r len cap
    rw [Tr.run_opt] at hrun
    obtain ⟨⟨ks', xs⟩, ht, hrun⟩ := hrun
    rw [Tr.run_chk, Tr.run_ite] at hrun
    obtain ⟨hk, ⟨hb, he⟩ | ⟨_, he⟩⟩ := hrun
    · rw [Tr.run_ok] at he
      injection he with h1 h2
      injection h2 with h2 h3
      subst h1 h2 h3
      obtain rfl := cksEq_eq hk
      have hb := of_decide_eq_true hb
      simp only at hb ⊢
      obtain ⟨p, hp', hle, hcap, rfl⟩ := hx
      obtain ⟨q, hq, hqs, hne⟩ := tab_live h (hag b (by simp)) ht
      have hrow : ∀ (i : Nat) row, xs[i]? = some row → ∃ arr ty fr, w.heap[q.blk]? = some (.cells arr ty fr) ∧ TabCells ks' xs q arr := fun i row hi => hne (by rintro rfl; simp at hi)
      rw [hp'] at hq
      injection hq with hq
      subst hq
      have hget : ∀ i row, ((xs.drop r.val).take len.val)[i]? = some row → xs[r.val + i]? = some row := fun i row hi => by
        rw [List.getElem?_take] at hi
        split at hi
        · rw [List.getElem?_drop] at hi; exact hi
        · cases hi
      have hfits : RFits ks' ((xs.drop r.val).take len.val) := fun i row hi j k hk => by
        obtain ⟨arr, ty, fr, hw, htc⟩ := hrow _ _ (hget i row hi)
        obtain ⟨n, q1, q2, _⟩ := htc.2.2.2 _ _ (hget i row hi) j k hk
        exact ⟨n, q1, q2⟩
      refine ⟨by rw [List.length_take, List.length_drop]; omega, hfits, hle, .inl ⟨_, _, rfl, fun j u hu => ?_⟩⟩
      obtain ⟨i, c, row, k, n, rfl, hi, hkc, hn, _, rfl⟩ := flatR_mem ks' hfits hu
      obtain ⟨arr, ty, fr, hw, htc⟩ := hrow _ _ (hget i row hi)
      obtain ⟨n', q1, _, q3⟩ := htc.2.2.2 _ _ (hget i row hi) c k hkc
      rw [hn] at q1
      injection q1 with q1
      subst q1
      rw [add_mk, cell_of_blk hw, ← q3, htc.1, Nat.add_mul]
      congr 1
      omega
    · cases he
  · rw [Tr.run_ok] at hrun
    injection hrun with h1 h2
    injection h2 with h2 h3
    subst h1 h2 h3
    obtain rfl := hx
    exact ⟨rfl, fun i row hr => by simp at hr, by simp [SN.val], .inr ⟨rfl, rfl⟩⟩
  · rw [Tr.run_ok] at hrun
    injection hrun with h1 h2
    injection h2 with h2 h3
    subst h1 h2 h3
    obtain ⟨a, c, rfl, _⟩ := hx
    exact ⟨rfl, fun i row hr => by simp at hr, by simp [SN.val], .inl ⟨a, c, rfl, fun j u hu => by simp [flatR] at hu⟩⟩
  · rename_i b len
    rw [Tr.run_opt] at hrun
    obtain ⟨⟨ks', xs⟩, ht, hrun⟩ := hrun
    rw [Tr.run_chk, Tr.run_ite] at hrun
    obtain ⟨hk, ⟨hb, he⟩ | ⟨_, he⟩⟩ := hrun
    · rw [Tr.run_ok] at he
      injection he with h1 h2
      injection h2 with h2 h3
      subst h1 h2 h3
      obtain rfl := cksEq_eq hk
      have hb := of_decide_eq_true hb
      simp only at hb ⊢
      obtain ⟨o, cap, rfl, hle, hn, hpos⟩ := hx
      obtain ⟨q, hq, hqs, hne⟩ := tab_live h (hag b (by simp)) ht
      have hrow : ∀ (i : Nat) row, xs[i]? = some row → ∃ arr ty fr, w.heap[q.blk]? = some (.cells arr ty fr) ∧ TabCells ks' xs q arr := fun i row hi => hne (by rintro rfl; simp at hi)
      have hget : ∀ i row, (xs.take len.val)[i]? = some row → xs[i]? = some row := fun i row hi => by
        rw [List.getElem?_take] at hi
        split at hi
        · exact hi
        · cases hi
      have hfits : RFits ks' (xs.take len.val) := fun i row hi j k hk => by
        obtain ⟨arr, ty, fr, hw, htc⟩ := hrow _ _ (hget i row hi)
        obtain ⟨n, q1, q2, _⟩ := htc.2.2.2 _ _ (hget i row hi) j k hk
        exact ⟨n, q1, q2⟩
      refine ⟨by rw [List.length_take]; omega, hfits, hle, ?_⟩
      rcases Nat.eq_zero_or_pos len.val with h0 | h0
      · have hx0 : xs.take len.val = [] := by rw [h0]; rfl
        rw [hx0, h0]
        cases o with
        | none => rw [(hn rfl).2]; exact .inr ⟨rfl, rfl⟩
        | some a => exact .inl ⟨a, cap, rfl, fun j u hu => by simp [flatR] at hu⟩
      · obtain ⟨p, hp', rfl⟩ := hpos h0
        rw [hp'] at hq
        injection hq with hq
        subst hq
        refine .inl ⟨_, _, rfl, fun j u hu => ?_⟩
        obtain ⟨i, c, row, k, n, rfl, hi, hkc, hn', _, rfl⟩ := flatR_mem ks' hfits hu
        obtain ⟨arr, ty, fr, hw, htc⟩ := hrow _ _ (hget i row hi)
        obtain ⟨n', q1, _, q3⟩ := htc.2.2.2 _ _ (hget i row hi) c k hkc
        rw [hn'] at q1
        injection q1 with q1
        subst q1
        rw [add_mk, cell_of_blk hw, ← q3, htc.1, Nat.add_assoc]
    · cases he
  · simp [Tr.run] at hrun

theorem val_sn2 (f : Nat → Nat → Nat) (x y : SN) : (SN.op2 f x y).val = f x.val y.val := by cases x <;> cases y <;> rfl
theorem val_fit (n : SN) (b : Nat) : (n.fit b).val = Nat.ble (n.val * b) 140737488355328 := by cases n <;> rfl
theorem val_zero (n : SN) : n.zero.val = Nat.beq n.val 0 := by cases n <;> rfl
theorem val_toSI (n : SN) : n.toSI.val = (n.val : Int) := by cases n <;> rfl
theorem val_toSN (n : SI) : n.toSN.val = n.val.toNat := by cases n <;> rfl

/-! ### New tables -/
/-- A new table takes the place of another one (or of none). -/
theorem done_tab {val : SV} {rd : List Nat} {v : Value} {ks : List CK} {rows : List (List Int)} {e : TypeId} {p : Pl} {arr : Array Value} {w' : World} {asg : HP A} {old : Option Nat}
    (h : HR S B Z ρ F H w) (hz : Z nid) (hasg : asg = (match old with | none => [(nid, some (.tab ks rows e))] | some b => [(b, none), (nid, some (.tab ks rows e))])) (hold : ∀ b, old = some b → b ≠ nid)
    (h0 : p.off0 = 0) (hw : w'.heap[p.blk]? = some (.cells arr e (0, 0))) (hsz : arr.size = p.rows * p.sz) (htc : TabCells ks rows p arr) (hsame : Same w w')
    (hblk : w.heap.size ≤ p.blk ∨ ∃ b, old = some b ∧ F b p.blk)
    (hheap : ∀ k, k < w.heap.size → k ≠ p.blk → w'.heap[k]? = w.heap[k]?)
    (hv : ∀ ρ' : Rho, ρ.le ρ' → ρ' nid = some p → RS ρ' val v) :
    Done S B Z ρ F H w nid ⟨val, rd, asg, nid + 1⟩ v w' := by
  have hnone : ρ nid = none := h.fresh nid hz
  let ρ' : Rho := fun b => if b = nid then some p else ρ b
  let F' : Fm := fun b => if b = nid then (fun x => x = p.blk) else if old = some b then (fun _ => False) else F b
  have hle : ρ.le ρ' := fun b q hq => by
    have : b ≠ nid := fun e => by subst e; rw [hnone] at hq; cases hq
    simp [ρ', this, hq]
  have hnid : ρ' nid = some p := by simp [ρ']
  have hD : ∀ b, b ∈ asg.map (·.1) ↔ b = nid ∨ old = some b := fun b => by
    subst hasg
    cases old with
    | none => simp
    | some c => simp only [List.map_cons, List.map_nil, List.mem_cons, List.not_mem_nil, or_false, Option.some.injEq]; exact ⟨fun h => h.elim (fun h => .inr h.symm) .inl, fun h => h.elim .inr fun h => .inl h.symm⟩
  have hn : over H asg nid = some (.tab ks rows e) := by
    subst hasg
    cases old <;> simp [over]
  have ho : ∀ b, old = some b → over H asg b = none := fun b hb => by
    subst hasg
    subst hb
    simp [over, hold b rfl]
  have hc : Chg (fun b => b ∈ asg.map (·.1)) ρ F w ρ' F' w' := by
    refine ⟨hle, fun b hb => ?_, fun b x hb hx => ?_, hsame, fun k hk hck => hheap k hk fun he => ?_⟩
    · rw [hD, not_or] at hb
      simp [F', hb.1, hb.2]
    · rw [hD] at hb
      by_cases hbn : b = nid
      · simp only [F', hbn, if_true] at hx
        subst hx
        rcases hblk with h1 | ⟨c, hc1, hc2⟩
        · exact .inl h1
        · exact .inr ⟨c, (hD c).2 (.inr hc1), hc2⟩
      · rcases hb with hb | hb
        · exact absurd hb hbn
        · simp only [F', if_neg hbn, if_pos hb] at hx
    · rcases hblk with h1 | ⟨c, hc1, hc2⟩
      · omega
      · exact hck c ((hD c).2 (.inr hc1)) (he ▸ hc2)
  refine ⟨ρ', F', hv ρ' hle hnid, ?_, hc⟩
  refine h.step hc (fun b hb => over_out hb) (fun b o hb ho' => ?_) (fun b hb ho' x hx => ?_) (fun b x hb hx => ?_) (fun b c x hb hc' hbx hcx => ?_) (fun b hb => ?_)
  · rw [hD] at hb
    by_cases hbn : b = nid
    · subst hbn
      rw [hn] at ho'
      injection ho' with ho'
      subst ho'
      exact ⟨p, arr, hnid, h0, fun x => by simp [F'], hw, hsz, htc⟩
    · rcases hb with hb | hb
      · exact absurd hb hbn
      · rw [ho b hb] at ho'; cases ho'
  · rw [hD] at hb
    by_cases hbn : b = nid
    · subst hbn
      rw [hn] at ho'
      cases ho'
    · rcases hb with hb | hb
      · exact absurd hb hbn
      · simp only [F', if_neg hbn, if_pos hb] at hx
  · rw [hD] at hb
    by_cases hbn : b = nid
    · simp only [F', hbn, if_true] at hx
      subst hx
      rcases Nat.lt_or_ge p.blk w'.heap.size with h1 | h1
      · exact h1
      · rw [Array.getElem?_eq_none h1] at hw; cases hw
    · rcases hb with hb | hb
      · exact absurd hb hbn
      · simp only [F', if_neg hbn, if_pos hb] at hx
  · have key : ∀ d, d ∈ asg.map (·.1) → F' d x → d = nid := fun d hd hdx => by
      rw [hD] at hd
      by_cases hdn : d = nid
      · exact hdn
      · rcases hd with hd | hd
        · exact hd
        · simp only [F', if_neg hdn, if_pos hd] at hdx
    rw [key b hb hbx, key c hc' hcx]
  · obtain ⟨h1, h2⟩ := hb
    have : b ≠ nid := by rintro rfl; exact h2 ⟨Nat.le_refl _, Nat.lt_succ_self _⟩
    simp [ρ', this, h.fresh b h1]

theorem colsOf_length : ∀ {l : List VV} {ks : List CK}, colsOf l = some ks → ks.length = l.length
  | [], _, h => by cases h; rfl
  | .int k _ :: r, _, h => by
    simp only [colsOf, Option.map_eq_some_iff] at h
    obtain ⟨m, hm, rfl⟩ := h
    simp [colsOf_length hm]
  | .bool _ :: r, _, h => by
    simp only [colsOf, Option.map_eq_some_iff] at h
    obtain ⟨m, hm, rfl⟩ := h
    simp [colsOf_length hm]
  | .ptr _ _ :: _, _, h => by simp [colsOf] at h
  | .nilp :: _, _, h => by simp [colsOf] at h
  | .tptr _ _ _ :: _, _, h => by simp [colsOf] at h
  | .sl _ _ _ _ :: _, _, h => by simp [colsOf] at h
  | .ts _ _ _ _ :: _, _, h => by simp [colsOf] at h
  | .nils :: _, _, h => by simp [colsOf] at h
  | .es _ :: _, _, h => by simp [colsOf] at h
  | .an _ _ :: _, _, h => by simp [colsOf] at h
  | .fn _ _ _ :: _, _, h => by simp [colsOf] at h
  | .nilf :: _, _, h => by simp [colsOf] at h
  | .raw _ :: _, _, h => by simp [colsOf] at h

/-- The value of a type's nought. -/
theorem zero_info {e : TypeId} {i : TypeInfo} {z : S1} (hi : P.info? e = some i) (hz : zeroS P e = some z) : ∃ v, i.zero = some v ∧ ∀ ρ, R1 ρ z v := by
  unfold zeroS at hz
  simp only [hi] at hz
  split at hz
  · rename_i cs hc
    simp only [Option.map_eq_some_iff] at hz
    obtain ⟨m, hm, rfl⟩ := hz
    exact ⟨_, hc, fun ρ => ⟨cs.toList, by simp, ofVals_F2 hm ρ⟩⟩
  · rename_i v hv _
    simp only [Option.map_eq_some_iff] at hz
    obtain ⟨m, hm, rfl⟩ := hz
    exact ⟨_, by assumption, fun ρ => ofVal_RV hm ρ⟩
  · cases hz

theorem setCells_blk {ty : TypeId} {k : Nat} : ∀ (vs : List Value) (off : Nat) (w : World) (arr : Array Value), w.heap[k]? = some (.cells arr ty (0, 0)) → off + vs.length ≤ arr.size →
    (w.setCells k off vs).heap[k]? = some (.cells (splice arr.toList off vs).toArray ty (0, 0)) ∧ Same w (w.setCells k off vs) ∧ ∀ x, x ≠ k → (w.setCells k off vs).heap[x]? = w.heap[x]?
  | [], off, w, arr, h, _ => by
    refine ⟨?_, Same.refl w, fun _ _ => rfl⟩
    rw [splice_nil, Array.toArray_toList]
    exact h
  | v :: vs, off, w, arr, h, hn => by
    simp only [List.length_cons] at hn
    have hk : k < w.heap.size := by
      rcases Nat.lt_or_ge k w.heap.size with h1 | h1
      · exact h1
      · simp [Array.getElem?_eq_none h1] at h
    have hb : (setBlk w k (.cells (arr.setIfInBounds off v) ty (0, 0))).heap[k]? = some (.cells (arr.setIfInBounds off v) ty (0, 0)) := by
      rw [setBlk_get _ _ _ _ hk, if_pos rfl]
    obtain ⟨i1, i2, i3⟩ := setCells_blk vs (off + 1) _ _ hb (by simp; omega)
    have hs : w.setCells k off (v :: vs) = (setBlk w k (.cells (arr.setIfInBounds off v) ty (0, 0))).setCells k (off + 1) vs := by
      rw [World.setCells, setCell_blk h]
    rw [hs]
    refine ⟨?_, (setBlk_same _ _ _).trans i2, fun x hx => ?_⟩
    · rw [i1, splice_cons]
      simp
    · rw [i3 x hx, setBlk_get _ _ _ _ hk, if_neg hx]

/-- Nothing is appended. -/
theorem run_append_zero {t ty e : TypeId} {i : TypeInfo} (ht : P.underlying t = some (.slice e)) (hi : P.info? e = some i) {base o : Option Addr} {n cap c : Nat} (hle : n ≤ cap) :
    (Builtin.append_ #[t, t] ty #[.slice base n cap, .slice o 0 c]).run P w = .ok (.slice base n cap) w := by
  have hf : (Builtin.firstCells i.size 0 (.slice o 0 c)).run P w = .ok #[] w := by
    cases o with
    | none => simp [Builtin.firstCells]
    | some a => exact run_firstCells_some (P := P) w i.size 0 a 0 c [] (by simp) (by simp)
  cases base with
  | none => simp [Builtin.append_, run_underlying ht, sizeOf, typeInfo, hi, Builtin.lenOf, hle, hf]
  | some a => simp [Builtin.append_, run_underlying ht, sizeOf, typeInfo, hi, Builtin.lenOf, hle, hf, storeCells]

/-- What is known of a slice of so many rows. -/
def SlR (w : World) (ks : List CK) (rows : List (List Int)) (n : Nat) (v : Value) : Prop :=
  rows.length = n ∧ RFits ks rows ∧ n ≤ 9223372036854775807 ∧ ((∃ a c, v = .slice (some a) n c ∧ ∀ (j : Nat) u, (flatR ks rows)[j]? = some u → w.cell? (a.add j) = some u) ∨ (v = .slice none 0 0 ∧ n = 0))

/-- Where there is no room: a new row. -/
theorem append_grow {t type el : TypeId} {i : TypeInfo} {zv : Value} {ks : List CK} {n m : SN} {rx ry : List (List Int)} {v u : Value} {rd : List Nat} {asg : HP A} {old : Option Nat}
    (h : HR S B Z ρ F H w) (hz : Z nid) (hu : P.underlying t = some (.slice el)) (hi : P.info? el = some i) (hzi : i.zero = some zv) (hzs : zv.cells.size = i.size) (hsz : ks.length = i.size) (hby : 0 < i.bytes)
    (hasg : asg = (match old with | none => [(nid, some (.tab ks (rx ++ ry) el))] | some b => [(b, none), (nid, some (.tab ks (rx ++ ry) el))])) (hold : ∀ b, old = some b → b ≠ nid)
    (hx : SlR w ks rx n.val v) (hy : SlR w ks ry m.val u) (hbytes : (n.val + m.val) * i.bytes ≤ 140737488355328) (hm : 0 < m.val) (hcap : ∀ cap a, v = .slice a n.val cap → cap < n.val + m.val) :
    Lands P ((do pure (Next.value (← Builtin.append_ #[t, t] type #[v, u])) : Sem Next).run P w) (Done S B Z ρ F H w nid ⟨.v (.ts nid (.lit 0) (SN.op2 (fun a b => a + b) n m) none), rd, asg, nid + 1⟩) := by
  obtain ⟨lx, fx, _, hxv⟩ := hx
  obtain ⟨ly, fy, _, hyv⟩ := hy
  have hsum : n.val + m.val ≤ 140737488355328 := Nat.le_trans (Nat.le_mul_of_pos_right _ hby) hbytes
  obtain ⟨b, c, rfl, hyc⟩ : ∃ a c, u = .slice (some a) m.val c ∧ ∀ (j : Nat) x, (flatR ks ry)[j]? = some x → w.cell? (a.add j) = some x := by
    rcases hyv with h1 | ⟨_, h1⟩
    · exact h1
    · omega
  have hfx := flatR_length ks rx
  have hfy := flatR_length ks ry
  rw [lx] at hfx
  rw [ly] at hfy
  have fin : ∀ (cap : Nat), cap < n.val + m.val → (Builtin.append_ #[t, t] type #[v, .slice (some b) m.val c]).run P w =
      .ok (.slice (some ⟨w.heap.size, 0, none⟩) (n.val + m.val) (grownCap w (n.val + m.val) cap el)) (w.drew.alloc (.cells ((flatR ks rx).toArray ++ (flatR ks ry).toArray ++ Builtin.zeroCells zv.cells (grownCap w (n.val + m.val) cap el - (n.val + m.val))) el)) →
      Lands P ((do pure (Next.value (← Builtin.append_ #[t, t] type #[v, .slice (some b) m.val c])) : Sem Next).run P w) (Done S B Z ρ F H w nid ⟨.v (.ts nid (.lit 0) (SN.op2 (fun a b => a + b) n m) none), rd, asg, nid + 1⟩) := by
    intro cap hlt hrun'
    have hge := grownCap_ge w (n.val + m.val) cap el
    have hasz : ((flatR ks rx).toArray ++ (flatR ks ry).toArray ++ Builtin.zeroCells zv.cells (grownCap w (n.val + m.val) cap el - (n.val + m.val))).size = grownCap w (n.val + m.val) cap el * ks.length := by
      simp only [Array.size_append, List.size_toArray, size_zeroCells, hzs, hfx, hfy]
      rw [← hsz, ← Nat.add_mul, ← Nat.add_mul]
      congr 1
      omega
    refine lands_val hrun' (done_tab (p := ⟨w.heap.size, 0, ks.length, grownCap w (n.val + m.val) cap el⟩) h hz hasg hold rfl
      (heap_alloc_new w.drew _) hasz (tabCells_of_flat (fx.append fy) rfl rfl (by simp only [List.length_append, lx, ly]; exact hge) (Nat.le_of_eq hasz.symm) fun j u' hu' => ?_)
      ⟨rfl, rfl, rfl, by show w.heap.size ≤ (w.drew.heap.push _).size; rw [Array.size_push]; exact Nat.le_succ _⟩ (.inl (Nat.le_refl _)) (fun k hk _ => heap_alloc_old w.drew _ k hk) fun ρ' hle hnid => ?_)
    · rw [flatR_append] at hu'
      have hj : j < (flatR ks rx ++ flatR ks ry).length := (List.getElem?_eq_some_iff.1 hu').1
      rw [← Array.getElem?_toList]
      simp only [Array.toList_append]
      rw [List.getElem?_append_left (by simpa using hj)]
      exact hu'
    · refine RS_one (x := .ts nid (.lit 0) (SN.op2 (fun a b => a + b) n m) none) ⟨_, hnid, ?_, ?_, ?_⟩
      · rw [val_sn2]; omega
      · rw [val_sn2]; simpa [tsCap, SN.val] using hge
      · rw [val_sn2]; simp [tsCap, SN.val]
  rcases hxv with ⟨a, cap, rfl, hxc⟩ | ⟨rfl, hn0⟩
  · have hlt := hcap cap _ rfl
    exact fin cap hlt (run_append_grow (P := P) w t type el i zv hu hi hzi a n.val cap (flatR ks rx) (by rw [hfx, hsz]) hxc b m.val c (flatR ks ry) (by rw [hfy, hsz]) hyc hlt (by omega) (growslice_fits hlt hbytes))
  · have hlt : 0 < n.val + m.val := by omega
    have hrx0 : rx = [] := List.eq_nil_of_length_eq_zero (by omega)
    subst hrx0
    rw [hn0, Nat.zero_add] at hbytes
    have := run_append_nil (P := P) w t type el i zv hu hi hzi b m.val c (flatR ks ry) (by rw [hfy, hsz]) hyc hm (by omega) (by omega)
    refine fin 0 hlt ?_
    rw [this, hn0]
    simp [flatR]

/-- Onto a table of one's own. -/
theorem append_tab {t type el : TypeId} {i : TypeInfo} {zv : Value} {ks0 : List CK} {len m : SN} {xs0 rx ry : List (List Int)} {v u : Value} {rd : List Nat} {b : Nat}
    (h : HR S B Z ρ F H w) (hz : Z nid) (hu : P.underlying t = some (.slice el)) (hi : P.info? el = some i) (hzi : i.zero = some zv) (hzs : zv.cells.size = i.size) (hsz : ks0.length = i.size) (hby : 0 < i.bytes)
    (hb : H b = some (.tab ks0 xs0 el)) (hv : RV ρ (.ts b (.lit 0) len none) v) (hx : SlR w ks0 rx len.val v) (hy : SlR w ks0 ry m.val u) (hfit : (len.val + m.val) * i.bytes ≤ 140737488355328) :
    Lands P ((do pure (Next.value (← Builtin.append_ #[t, t] type #[v, u])) : Sem Next).run P w)
      (Done S B Z ρ F H w nid ⟨.v (.ts nid (.lit 0) (SN.op2 (fun a b => a + b) len m) none), rd, [(b, none), (nid, some (.tab ks0 (rx ++ ry) el))], nid + 1⟩) := by
  obtain ⟨p, hp', _, hlc, rfl⟩ := hv
  obtain ⟨q, arr, hq, h0, hf, hw, hasz, htc⟩ := h.live _ _ hb
  rw [hp'] at hq
  injection hq with hq
  subst hq
  have hne : ∀ c, some b = some c → c ≠ nid := fun c hc hbn => by
    injection hc with hc
    subst hc
    subst hbn
    have := h.fresh b hz
    rw [hp'] at this
    cases this
  have hcap : tsCap p (.lit 0) none = p.rows := by simp [tsCap, SN.val]
  have hoff : p.off0 + (SN.lit 0).val * p.sz = 0 := by simp [SN.val, h0]
  rw [hcap, hoff] at hx ⊢
  rw [hcap] at hlc
  have hx' := hx
  have hy' := hy
  obtain ⟨lx, fx, _, hxv⟩ := hx'
  obtain ⟨ly, fy, _, hyv⟩ := hy'
  have hxc : ∀ (j : Nat) u, (flatR ks0 rx)[j]? = some u → arr[j]? = some u := by
    rcases hxv with ⟨a, c, hac, hc⟩ | ⟨hac, _⟩
    · injection hac with hac _
      injection hac with hac
      subst hac
      intro j u hu
      have := hc j u hu
      rw [add_mk, cell_of_blk hw, Nat.zero_add] at this
      exact this
    · cases hac
  have hfx := flatR_length ks0 rx
  have hfy := flatR_length ks0 ry
  rw [lx] at hfx
  rw [ly] at hfy
  have hpsz : p.sz = ks0.length := htc.1
  have hsn : ∀ ρ' : Rho, ρ' nid = some p → len.val + m.val ≤ p.rows → RS ρ' (.v (.ts nid (.lit 0) (SN.op2 (fun a b => a + b) len m) none)) (.slice (some ⟨p.blk, 0, none⟩) (len.val + m.val) p.rows) := fun ρ' hnid hle => by
    refine RS_one (x := .ts nid (.lit 0) (SN.op2 (fun a b => a + b) len m) none) ⟨p, hnid, ?_, ?_, ?_⟩
    · rw [val_sn2]
      have := Nat.le_trans (Nat.le_mul_of_pos_right _ hby) hfit
      omega
    · rw [val_sn2, hcap]; exact hle
    · rw [val_sn2, hcap, hoff]
  rcases Nat.lt_or_ge p.rows (len.val + m.val) with hlt | hge
  · exact append_grow (old := some b) h hz hu hi hzi hzs hsz hby rfl hne hx hy hfit (by omega) (fun c a hca => by injection hca with _ _ hca; rw [← hca]; exact hlt)
  · have hfits : (len.val + m.val) * ks0.length ≤ arr.size := by rw [hasz, hpsz]; exact Nat.mul_le_mul_right _ hge
    rw [Nat.add_mul] at hfits
    rcases hyv with ⟨a, c, rfl, hyc⟩ | ⟨rfl, hm0⟩
    · have hrun' := run_append_room_cells (P := P) w t type el i hu hi p.blk 0 len.val p.rows a m.val c (flatR ks0 ry) (by rw [hfy, hsz]) hyc (flatR_one ks0 fy) hge
        (fun j hj => by
          rw [hfy] at hj
          rw [cell_of_blk hw, ← hsz, Array.getElem?_eq_getElem (by omega)]
          rfl)
        (fun j hj => by simp [World.frozen?, hw])
      obtain ⟨g1, g2, g3⟩ := setCells_blk (flatR ks0 ry) (0 + len.val * i.size) w arr hw (by rw [hfy, ← hsz]; omega)
      refine lands_val hrun' (done_tab (old := some b) (p := p) h hz rfl hne h0 g1
        (by rw [List.size_toArray, splice_length, Array.length_toList]; exact hasz) ?_ g2 (.inr ⟨b, rfl, (hf _).2 rfl⟩) (fun k _ hk => g3 k hk) fun ρ' _ hnid => hsn ρ' hnid hge)
      refine tabCells_of_flat (fx.append fy) hpsz h0 (by simp only [List.length_append, lx, ly]; exact hge) (by rw [List.size_toArray, splice_length, Array.length_toList, hasz]; exact Nat.le_refl _) fun j u' hu' => ?_
      rw [flatR_append] at hu'
      rw [List.getElem?_toArray, splice_get _ _ _ _ (by rw [hfy, ← hsz, Array.length_toList (xs := arr)]; omega)]
      rw [hfy, ← hsz, Nat.zero_add]
      rcases Nat.lt_or_ge j (len.val * ks0.length) with hj | hj
      · rw [if_neg (by omega)]
        rw [List.getElem?_append_left (by rw [hfx]; exact hj)] at hu'
        rw [Array.getElem?_toList]
        exact hxc j u' hu'
      · have hj2 : j < (flatR ks0 rx ++ flatR ks0 ry).length := (List.getElem?_eq_some_iff.1 hu').1
        rw [List.length_append, hfx, hfy] at hj2
        rw [if_pos ⟨hj, by omega⟩]
        rw [List.getElem?_append_right (by rw [hfx]; exact hj), hfx] at hu'
        exact hu'
    · have hry0 : ry = [] := List.eq_nil_of_length_eq_zero (by omega)
      have hrun' := run_append_zero (P := P) (w := w) (ty := type) hu hi (base := some ⟨p.blk, 0, none⟩) (o := none) (n := len.val) (cap := p.rows) (c := 0) hlc
      refine lands_val hrun' (done_tab (old := some b) (p := p) h hz rfl hne h0 hw
        hasz ?_ (Same.refl w) (.inr ⟨b, rfl, (hf _).2 rfl⟩) (fun k _ hk => rfl) fun ρ' _ hnid => ?_)
      · subst hry0
        rw [List.append_nil]
        exact tabCells_of_flat fx hpsz h0 (by omega) (by rw [hasz]; exact Nat.le_refl _) hxc
      · have := hsn ρ' hnid hge
        rw [hm0] at this
        exact this

theorem noRoom_spec {x : SV} {v : Value} (h : noRoom x = true) (hx : RS ρ x v) : ∃ a n, v = .slice a n n := by
  unfold noRoom at h
  split at h
  · obtain rfl := Nat.eq_of_beq_eq_true h
    obtain ⟨p, _, rfl⟩ := hx
    exact ⟨_, _, rfl⟩
  · obtain rfl := hx
    exact ⟨_, _, rfl⟩
  · obtain ⟨a, c, rfl, hc⟩ := hx
    rw [hc h]
    exact ⟨_, _, rfl⟩
  · cases h

theorem vappend_sound {t : TypeId} {type : TypeId} {consts : Array Bool} {hp : HP A} {x y : SV} {v u : Value} {e : Eff A}
    (hrun : (vappend P hp t x y nid).run = some e) (h : HR S B Z ρ F H w) (hag : ∀ b, b ∈ e.rd ∨ b ∈ e.asg.map (·.1) → H b = hget hp b) (hz : ∀ b, nid ≤ b → b < e.nid → Z b)
    (hx : RS ρ x v) (hy : RS ρ y u) : nid ≤ e.nid ∧ Lands P ((builtin .append #[t, t] type consts #[v, u]).run P w) (Done S B Z ρ F H w nid e) := by
  have hbi : builtin .append #[t, t] type consts #[v, u] = (do pure (Next.value (← Builtin.append_ #[t, t] type #[v, u])) : Sem Next) := rfl
  rw [hbi]
  unfold vappend at hrun
  split at hrun
  · rename_i el hu
    split at hrun
    · rename_i i hi
      simp only [Tr.run_opt, Tr.run_chk, Tr.run_bind, Bool.and_eq_true] at hrun
      obtain ⟨z, hzz, ks, hks, ⟨⟨hsz, hpos⟩, hby⟩, ⟨m, ry, dy⟩, hry, ⟨n, rx, dx⟩, hrx, hrun⟩ := hrun
      have hsz := Nat.eq_of_beq_eq_true hsz
      have hby : 0 < i.bytes := by simpa using hby
      obtain ⟨zv, hzi, hzr⟩ := zero_info hi hzz
      have hzc := R1.cells (hzr ρ)
      have hzs : zv.cells.size = i.size := by rw [← Array.length_toList, ← hzc.length, ← colsOf_length hks, hsz]
      have key : (∀ b, b ∈ dx ++ dy → b ∈ e.rd) → SlR w ks rx n.val v ∧ SlR w ks ry m.val u := fun hsub =>
        ⟨rowsOf_spec hrx h (fun b hb => hag b (.inl (hsub b (by simp [hb])))) hx, rowsOf_spec hry h (fun b hb => hag b (.inl (hsub b (by simp [hb])))) hy⟩
      split at hrun
      · rename_i b len
        split at hrun
        · rename_i ks0 xs0 ty0 hg
          simp only [Tr.run_chk, Tr.run_test, Tr.run_no, and_false, or_false] at hrun
          obtain ⟨hte, hfit, he⟩ := hrun
          rw [Tr.run_ok] at he
          rw [val_fit, val_sn2] at hfit
          have hfit := Nat.le_of_ble_eq_true hfit
          obtain ⟨k1, k2⟩ := key (fun b hb => by rw [← he]; exact hb)
          have hb : H b = some (.tab ks0 xs0 ty0) := (hag b (.inr (by rw [← he]; simp))).trans hg
          obtain rfl := Nat.eq_of_beq_eq_true hte
          simp only [rowsOf, hg, tabOf, Tr.run_opt, Tr.run_chk, Tr.run_ite, Tr.run_no, and_false, or_false, Tr.run_ok, Option.some.injEq] at hrx
          obtain ⟨_, rfl, hkk, _, hrx⟩ := hrx
          obtain rfl := cksEq_eq hkk
          injection hrx with hn hrx
          subst hn
          subst he
          exact ⟨Nat.le_succ _, append_tab h (hz nid (Nat.le_refl _) (Nat.lt_succ_self _)) hu hi hzi hzs hsz hby hb hx k1 k2 hfit⟩
        · simp [Tr.run] at hrun
      · simp only [Tr.run_chk, Tr.run_test, Tr.run_no, and_false, or_false] at hrun
        obtain ⟨hroom, ⟨h0, he⟩ | ⟨h0, hfit, he⟩⟩ := hrun
        · rw [Tr.run_ok] at he
          subst he
          refine ⟨Nat.le_refl _, ?_⟩
          rw [val_zero] at h0
          have h0 := Nat.eq_of_beq_eq_true h0
          obtain ⟨k1, k2⟩ := key (fun b hb => hb)
          obtain ⟨a, k, rfl⟩ := noRoom_spec hroom hx
          obtain ⟨o, c, rfl⟩ : ∃ o c, u = .slice o 0 c := by
            rcases k2.2.2.2 with ⟨a, c, h1, _⟩ | ⟨h1, _⟩
            · exact ⟨_, _, by rw [h1, h0]⟩
            · exact ⟨_, _, h1⟩
          exact lands_val (run_append_zero hu hi (Nat.le_refl _)) (done_pure h hx)
        · rw [Tr.run_ok] at he
          subst he
          rw [val_zero] at h0
          rw [val_fit, val_sn2] at hfit
          have hfit := Nat.le_of_ble_eq_true hfit
          have h0 := Nat.ne_of_beq_eq_false h0
          obtain ⟨k1, k2⟩ := key (fun b hb => hb)
          obtain ⟨a, k, hv⟩ := noRoom_spec hroom hx
          exact ⟨Nat.le_succ _, append_grow (old := none) h (hz nid (Nat.le_refl _) (Nat.lt_succ_self _)) hu hi hzi hzs hsz hby rfl (fun b hb => by cases hb) k1 k2 hfit (by omega) fun cap a' hca => by
            rw [hv] at hca
            injection hca with _ h1 h2
            omega⟩
    · simp [Tr.run] at hrun
  · simp [Tr.run] at hrun

theorem wrap_i64W {n : Int} (h : 0 ≤ n) (h' : n < 9223372036854775808) : IntKind.i64.wrap n = n := by
  rw [IntKind.wrap_i64]; omega
theorem val_sle (a b : SI) : (sle a b).val = decide (a.val ≤ b.val) := val_cmp _ a b
theorem val_slt (a b : SI) : (slt a b).val = decide (a.val < b.val) := val_cmp _ a b
theorem flatR_rep {ks : List CK} {zs : List Int} : ∀ (n : Nat) (j : Nat), j < n * ks.length → (flatR ks (List.replicate n zs))[j]? = (rowV ks zs)[j % ks.length]?
  | 0, j, h => by simp at h
  | n + 1, j, h => by
    rw [List.replicate_succ, flatR]
    rw [Nat.add_mul, Nat.one_mul] at h
    rcases Nat.lt_or_ge j ks.length with hj | hj
    · rw [List.getElem?_append_left (by rw [rowV_length]; exact hj), Nat.mod_eq_of_lt hj]
    · rw [List.getElem?_append_right (by rw [rowV_length]; exact hj), rowV_length, flatR_rep n _ (by omega)]
      rw [Nat.mod_eq_sub_mod hj]

/-- A slice of so many noughts is made. -/
theorem make_sound {ty e : TypeId} {i : TypeInfo} {z : S1} {ks : List CK} {zs : List Int} {l c : SI} {k k' : IntKind} (hu : P.underlying ty = some (.slice e)) (hi : P.info? e = some i) (hz : zeroS P e = some z) (hks : colsOf z.cells = some ks)
    (hzs : ckNums ks z.cells = some zs) (hsz : z.cells.length = i.size) (hpos : 0 < i.size) (hby : 0 < i.bytes) (h0 : 0 ≤ l.val) (hlc : l.val = c.val) (hfit : l.val.toNat * i.bytes ≤ 140737488355328)
    (h : HR S B Z ρ F H w) (hZ : Z nid) :
    Lands P ((do pure (Next.value (← Instr.makeSlice ty (.int k l.val) (.int k' c.val))) : Sem Next).run P w)
      (Done S B Z ρ F H w nid ⟨.v (.ts nid (.lit 0) l.toSN none), [], [(nid, some (.tab ks (List.replicate l.toSN.val zs) e))], nid + 1⟩) := by
  obtain ⟨zv, hzi, hzr⟩ := zero_info hi hz
  have hzc := R1.cells (hzr ρ)
  have hzvs : zv.cells.size = i.size := by rw [← Array.length_toList, ← hzc.length, hsz]
  have hkl : ks.length = i.size := by rw [colsOf_length hks, hsz]
  obtain ⟨n, hn⟩ := Int.eq_ofNat_of_zero_le h0
  have hnl : l.toSN.val = n := by rw [val_toSN, hn]; rfl
  rw [hn] at hfit hlc
  simp only [Int.toNat_natCast] at hfit
  have hnb : n ≤ 140737488355328 := Nat.le_trans (Nat.le_mul_of_pos_right _ hby) hfit
  have hzl := ckNums_length hzs
  obtain ⟨e1, e2, e3⟩ := ckNums_ok hzs hzc
  have hfits : RFits ks (List.replicate n zs) := fun j row hr q k hk => by
    rw [List.getElem?_replicate] at hr
    split at hr
    · injection hr with hr
      subst hr
      obtain ⟨m, q1, q2, _⟩ := e3 q k hk (by rw [hzl, hsz, ← hkl]; exact (List.getElem?_eq_some_iff.1 hk).1)
      exact ⟨m, q1, q2⟩
    · cases hr
  have hsame : ∀ x, (w.alloc x).heap.size = w.heap.size + 1 := fun x => by show (w.heap.push x).size = _; simp
  refine lands_val (v := .slice (some ⟨w.heap.size, 0, none⟩) n n) (w' := w.alloc (.cells ((Array.range (n * i.size)).map fun j => zv.cells[j % zv.cells.size]!) e)) ?_
    (done_tab (old := none) (p := ⟨w.heap.size, 0, ks.length, n⟩) h hZ rfl (fun b hb => by cases hb) rfl (heap_alloc_new w _) (by simp only [Array.size_map, Array.size_range, hkl]) ?_ ⟨rfl, rfl, rfl, by rw [hsame]; exact Nat.le_succ _⟩ (.inl (Nat.le_refl _)) (fun k hk _ => heap_alloc_old w _ k hk) fun ρ' _ hnid => ?_)
  · have hty : (typeInfo e).run P w = .ok i w := by simp [typeInfo, hi]
    have hke : known P e = true := by unfold known; rw [hi]; rfl
    have hcs : P.cellsOf e = i.size := by unfold Program.cellsOf; rw [hi]; rfl
    unfold Instr.makeSlice
    rw [run_andThen_ok (run_underlying hu w)]
    have as1 : ∀ (k : IntKind) (n : Int), (asInt (.int k n)).run P w = .ok n w := fun _ _ => rfl
    have w1 : IntKind.i64.wrap (n : Int) = n := wrap_i64W (by omega) (by omega)
    have hbn : (i.bytes : Int) * n ≤ 2 ^ 48 := by
      have : (n : Int) * i.bytes ≤ 140737488355328 := by
        rw [← Int.natCast_mul]
        exact Int.ofNat_le.2 hfit
      rw [Int.mul_comm]
      omega
    simp only
    rw [run_andThen_ok (as1 _ _), run_andThen_ok (as1 _ _), run_andThen_ok hty]
    rw [hn, ← hlc]
    simp only [w1]
    have hno : ((decide ((n : Int) < 0) || decide ((i.bytes : Int) * n > 2 ^ 48)) || decide ((n : Int) < 0) || decide ((n : Int) > n)) = false := by
      simp only [Bool.or_eq_false_iff, decide_eq_false_iff_not]
      refine ⟨⟨⟨?_, ?_⟩, ?_⟩, ?_⟩ <;> omega
    rw [if_neg (by rw [hno]; simp)]
    try simp only [pure_bind]
    try simp only [Int.toNat_natCast]
    rw [run_andThen_ok (run_askRoom P w _), run_andThen_ok (run_sizeOf_k hke), hcs]
    have hzrun : (zeroValue e).run P w = .ok zv w := by simp [zeroValue, typeInfo, hi, hzi]
    split
    · rename_i h00
      try simp only [pure_bind]
      rcases Nat.eq_zero_or_pos n with hn0 | hn0
      · subst hn0
        have hz0 : ∀ f : Nat → Value, (Array.range (0 * i.size)).map f = #[] := fun f => by simp
        rw [hz0, hz0]
        simp [newRow, newObj, Sem.run]
      · have := Nat.mul_pos hn0 hpos
        omega
    · rw [run_andThen_ok hzrun]
      try simp only [pure_bind]
      simp [newRow, newObj, Sem.run]
  · rw [hnl]
    refine tabCells_of_flat hfits rfl rfl (by simp) (by simp only [Array.size_map, Array.size_range, hkl]; exact Nat.le_refl _) fun j u hu => ?_
    have hj : j < n * ks.length := by
      have := (List.getElem?_eq_some_iff.1 hu).1
      rw [flatR_length, List.length_replicate] at this
      exact this
    rw [flatR_rep n j hj] at hu
    have hkp : 0 < ks.length := by omega
    have hjm : j % ks.length < ks.length := Nat.mod_lt _ hkp
    obtain ⟨m, q1, q2, q3⟩ := e3 (j % ks.length) _ (List.getElem?_eq_getElem hjm) (by rw [hzl, hsz, ← hkl]; exact hjm)
    rw [rowV_get ks zs _ (List.getElem?_eq_getElem hjm) q1] at hu
    injection hu with hu
    subst hu
    rw [hkl] at hj
    simp only [Array.getElem?_map, Array.getElem?_range, hj, if_true, Option.map_some]
    rw [hzvs]
    have hlt : j % i.size < zv.cells.size := by rw [hzvs]; exact Nat.mod_lt _ hpos
    rw [getElem!_pos zv.cells _ hlt]
    rw [← q3, Array.getElem?_toList]
    simp only [hkl]
    rw [Array.getElem?_eq_getElem hlt]
  · refine RS_one (x := .ts nid (.lit 0) l.toSN none) ⟨_, hnid, ?_, ?_, ?_⟩
    · rw [hnl]; omega
    · rw [hnl]; simp [tsCap, SN.val]
    · rw [hnl]; simp [tsCap, SN.val]

theorem vbuiltin_sound {b : Builtin} {argTypes : Array TypeId} {type : TypeId} {consts : Array Bool} {args : List SV} {vargs : Array Value} {e : Eff A}
    {hp : HP A} (hrun : (vbuiltin (A := A) P b argTypes args hp nid).run = some e) (ha : F2 (RS ρ) args vargs.toList) (h : HR S B Z ρ F H w)
    (hag : ∀ b, b ∈ e.rd ∨ b ∈ e.asg.map (·.1) → H b = hget hp b) (hz : ∀ b, nid ≤ b → b < e.nid → Z b) :
    nid ≤ e.nid ∧ Lands P ((builtin b argTypes type consts vargs).run P w) (Done S B Z ρ F H w nid e) := by
  unfold vbuiltin at hrun
  split at hrun
  · rename_i x y
    split at hrun
    · rename_i t t' ht
      rw [Tr.run_chk] at hrun
      obtain ⟨hte, hrun⟩ := hrun
      obtain rfl := Nat.eq_of_beq_eq_true hte
      have hva : ∃ v u, vargs = #[v, u] ∧ RS ρ x v ∧ RS ρ y u := by
        obtain ⟨l⟩ := vargs
        match l, ha with
        | [v, u], ha => exact ⟨v, u, rfl, ha.1, ha.2.1⟩
        | [], ha => exact ha.elim
        | [_], ha => exact ha.2.elim
        | _ :: _ :: _ :: _, ha => exact ha.2.2.elim
      obtain ⟨v, u, rfl, hv, hu⟩ := hva
      have hta : argTypes = #[t, t] := by rw [← Array.toArray_toList (xs := argTypes), ht]
      subst hta
      exact vappend_sound hrun h hag hz hv hu
    · simp [Tr.run] at hrun
  · rename_i x
    split at hrun
    · rename_i t ht
      have hva : ∃ v, vargs = #[v] ∧ RS ρ x v := by
        obtain ⟨l⟩ := vargs
        match l, ha with
        | [v], ha => exact ⟨v, rfl, ha.1⟩
        | [], ha => exact ha.elim
        | _ :: _ :: _, ha => exact ha.2.elim
      obtain ⟨v, rfl, hv⟩ := hva
      split at hrun
      · rename_i el hu
        simp only [Tr.run_opt, Tr.run_ok] at hrun
        obtain ⟨n, hn, rfl⟩ := hrun
        obtain ⟨a, len, cap, rfl, hnv, hnk⟩ := vlen_sound hn hv
        refine ⟨Nat.le_refl _, lands_val (v := .int .i64 n.val) (w' := w) ?_ (done_pure h ⟨rfl, hnk⟩)⟩
        unfold Builtin.len_
        simp only [ht, List.getElem?_toArray, List.getElem?_cons_zero]
        rw [run_andThen_ok (run_underlying hu w)]
        simp [goInt, hnv]
      · rename_i n el hu
        simp only [Tr.run_chk, Tr.run_ok] at hrun
        obtain ⟨hle, rfl⟩ := hrun
        have hle := Nat.le_of_ble_eq_true hle
        refine ⟨Nat.le_refl _, lands_val (v := .int .i64 n) (w' := w) ?_ (done_pure h ⟨rfl, by simp only [inK, kmin, kmax, SI.val]; omega⟩)⟩
        unfold Builtin.len_
        simp only [ht, List.getElem?_toArray, List.getElem?_cons_zero]
        rw [run_andThen_ok (run_underlying hu w)]
        simp [goInt]
      · simp [Tr.run] at hrun
    · simp [Tr.run] at hrun
  · rename_i k x r
    simp only [Tr.run_bind, Tr.run_ok] at hrun
    obtain ⟨u, hu, rfl⟩ := hrun
    obtain ⟨l⟩ := vargs
    match l, ha with
    | v :: l, ha =>
      obtain ⟨hv, hl⟩ := ha
      obtain ⟨rfl, hkx⟩ : v = .int k x.val ∧ inK k x.val := hv
      obtain ⟨z, hz, hr⟩ := mmFold_sound (P := P) (w := w) hkx hu hl
      refine ⟨Nat.le_refl _, lands_val (v := z) (w' := w) ?_ (done_pure h hr)⟩
      exact hz
    | [], ha => exact ha.elim
  · rename_i k x r
    simp only [Tr.run_bind, Tr.run_ok] at hrun
    obtain ⟨u, hu, rfl⟩ := hrun
    obtain ⟨l⟩ := vargs
    match l, ha with
    | v :: l, ha =>
      obtain ⟨hv, hl⟩ := ha
      obtain ⟨rfl, hkx⟩ : v = .int k x.val ∧ inK k x.val := hv
      obtain ⟨z, hz, hr⟩ := mmFold_sound (P := P) (w := w) hkx hu hl
      refine ⟨Nat.le_refl _, lands_val (v := z) (w' := w) ?_ (done_pure h hr)⟩
      exact hz
    | [], ha => exact ha.elim
  · simp [Tr.run] at hrun
end
end Go.Proofs.Ytlkanbgcghjhnaa.Eng
