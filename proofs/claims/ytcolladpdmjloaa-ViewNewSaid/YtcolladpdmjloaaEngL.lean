/-
  The engine: several of its parts in one text.
-/
import Derived.Test.YtcolladpdmjloaaEngG
import Derived.ArgAppend
import Derived.Below
/-
  The engine, part W: rows of tables: slicing, appending, making.
-/
namespace Go.Proofs.Ytcolladpdmjloaa.Eng
open Go

/-! ### Rows as values -/
def rowV : List CK → List Int → List Value
  | [], _ => []
  | k :: ks, ns => k.real (ns.headD 0) :: rowV ks ns.tail
def flatR (ks : List CK) : List (List Int) → List Value
  | [] => []
  | r :: rs => rowV ks r ++ flatR ks rs
def RFits (ks : List CK) (rows : List (List Int)) : Prop := ∀ (i : Nat) row, rows[i]? = some row → ∀ (j : Nat) k, ks[j]? = some k → ∃ n, row[j]? = some n ∧ k.fits n
theorem rowV_length : ∀ (ks : List CK) (r : List Int), (rowV ks r).length = ks.length
  | [], _ => rfl
  | _ :: ks, r => by simp [rowV, rowV_length ks r.tail]
theorem rowV_get : ∀ (ks : List CK) (r : List Int) (j : Nat) {k : CK} {n : Int}, ks[j]? = some k → r[j]? = some n → (rowV ks r)[j]? = some (k.real n)
  | k0 :: ks, n0 :: r, 0, k, n, hk, hn => by
    simp only [List.getElem?_cons_zero, Option.some.injEq] at hk hn
    subst hk hn
    rfl
  | k0 :: ks, n0 :: r, j + 1, k, n, hk, hn => by
    simp only [rowV, List.getElem?_cons_succ, List.tail_cons] at hk hn ⊢
    exact rowV_get ks r j hk hn
  | [], _, _, _, _, hk, _ => by simp at hk
  | _ :: _, [], _, _, _, _, hn => by simp at hn
theorem flatR_length (ks : List CK) : ∀ rows, (flatR ks rows).length = rows.length * ks.length
  | [] => by simp [flatR]
  | r :: rs => by simp [flatR, rowV_length, flatR_length ks rs, Nat.add_mul, Nat.add_comm]
theorem flatR_append (ks : List CK) : ∀ a b, flatR ks (a ++ b) = flatR ks a ++ flatR ks b
  | [], _ => rfl
  | r :: rs, b => by simp [flatR, flatR_append ks rs b]
theorem flatR_get (ks : List CK) : ∀ (rows : List (List Int)) (i j : Nat) {row : List Int} {k : CK} {n : Int}, rows[i]? = some row → ks[j]? = some k → row[j]? = some n →
    (flatR ks rows)[i * ks.length + j]? = some (k.real n)
  | r :: rs, 0, j, row, k, n, hr, hk, hn => by
    simp only [List.getElem?_cons_zero, Option.some.injEq] at hr
    subst hr
    have := rowV_get ks r j hk hn
    have hj : j < ks.length := (List.getElem?_eq_some_iff.1 hk).1
    rw [flatR, Nat.zero_mul, Nat.zero_add, List.getElem?_append_left (by rw [rowV_length]; exact hj)]
    exact this
  | r :: rs, i + 1, j, row, k, n, hr, hk, hn => by
    simp only [List.getElem?_cons_succ] at hr
    have := flatR_get ks rs i j hr hk hn
    rw [flatR, List.getElem?_append_right (by rw [rowV_length, Nat.add_mul]; omega), rowV_length]
    rw [← this]
    congr 1
    rw [Nat.add_mul]
    omega
  | [], _, _, _, _, _, hr, _, _ => by simp at hr
theorem flatR_mem (ks : List CK) {rows : List (List Int)} (hf : RFits ks rows) {j : Nat} {u : Value} (hu : (flatR ks rows)[j]? = some u) :
    ∃ i c row k n, j = i * ks.length + c ∧ rows[i]? = some row ∧ ks[c]? = some k ∧ row[c]? = some n ∧ k.fits n ∧ u = k.real n := by
  have hj : j < rows.length * ks.length := by
    rw [← flatR_length]
    exact (List.getElem?_eq_some_iff.1 hu).1
  have h0 : 0 < ks.length := by
    rcases Nat.eq_zero_or_pos ks.length with h | h
    · rw [h, Nat.mul_zero] at hj; omega
    · exact h
  have hi : j / ks.length < rows.length := Nat.div_lt_of_lt_mul (by rw [Nat.mul_comm]; exact hj)
  have hc : j % ks.length < ks.length := Nat.mod_lt _ h0
  obtain ⟨n, hn, hfn⟩ := hf _ _ (List.getElem?_eq_getElem hi) _ _ (List.getElem?_eq_getElem hc)
  have hjj : j = j / ks.length * ks.length + j % ks.length := by rw [Nat.mul_comm]; exact (Nat.div_add_mod j ks.length).symm
  refine ⟨_, _, _, _, n, hjj, List.getElem?_eq_getElem hi, List.getElem?_eq_getElem hc, hn, hfn, ?_⟩
  have := flatR_get ks rows _ _ (List.getElem?_eq_getElem hi) (List.getElem?_eq_getElem hc) hn
  rw [← hjj, hu] at this
  injection this
theorem real_one (k : CK) (n : Int) : (k.real n).oneCell' = true := by cases k <;> rfl
theorem flatR_one (ks : List CK) {rows : List (List Int)} (hf : RFits ks rows) : ∀ u ∈ flatR ks rows, u.oneCell' = true := fun u hu => by
  obtain ⟨j, hj⟩ := List.getElem?_of_mem hu
  obtain ⟨_, _, _, k, n, _, _, _, _, _, rfl⟩ := flatR_mem ks hf hj
  exact real_one k n
theorem RFits.append {ks : List CK} {a b : List (List Int)} (ha : RFits ks a) (hb : RFits ks b) : RFits ks (a ++ b) := fun i row hr => by
  rw [List.getElem?_append] at hr
  split at hr
  · exact ha i row hr
  · exact hb _ row hr
theorem tabCells_of_flat {ks : List CK} {rows : List (List Int)} {p : Pl} {arr : Array Value} (hf : RFits ks rows) (hs : p.sz = ks.length) (h0 : p.off0 = 0) (hr : rows.length ≤ p.rows) (hsz : p.rows * p.sz ≤ arr.size)
    (hc : ∀ (j : Nat) u, (flatR ks rows)[j]? = some u → arr[j]? = some u) : TabCells ks rows p arr := by
  refine ⟨hs, hr, by omega, fun i row hi j k hk => ?_⟩
  obtain ⟨n, hn, hfn⟩ := hf i row hi j k hk
  refine ⟨n, hn, hfn, ?_⟩
  rw [h0, hs, Nat.zero_add]
  exact hc _ _ (flatR_get ks rows i j hi hk hn)

section
variable {A : Type} {S : Sys A} {P : Program} {B : Nat} {Z : Nat → Prop} {ρ : Rho} {F : Fm} {H : Nat → Option (VObj A)} {w : World} {nid : Nat}

theorem ckEq_eq : ∀ {a b : CK}, ckEq a b = true → a = b
  | .int _, .int _, h => by simp only [ckEq, decide_eq_true_eq] at h; rw [h]
  | .nils, .nils, _ => rfl
  | .bool, .bool, _ => rfl
  | .int _, .bool, h => by cases h
  | .bool, .int _, h => by cases h
  | .int _, .nils, h => by cases h
  | .nils, .int _, h => by cases h
  | .bool, .nils, h => by cases h
  | .nils, .bool, h => by cases h
theorem cksEq_eq : ∀ {a b : List CK}, cksEq a b = true → a = b
  | [], [], _ => rfl
  | a :: as, b :: bs, h => by
    simp only [cksEq, Bool.and_eq_true] at h
    rw [ckEq_eq h.1, cksEq_eq h.2]
  | [], _ :: _, h => by cases h
  | _ :: _, [], h => by cases h
theorem ckNums_length : ∀ {ks : List CK} {vs : List VV} {ns : List Int}, ckNums ks vs = some ns → ns.length = vs.length
  | ks, [], ns, h => by
    have : ns = [] := by cases ks <;> (simp only [ckNums] at h; injection h with h; exact h.symm)
    subst this
    rfl
  | [], _ :: _, _, h => by simp [ckNums] at h
  | k :: ks, v :: vs, ns, h => by
    unfold ckNums at h
    split at h
    · injection h with h
      subst h
      simp [ckNums_length (by assumption)]
    · cases h
theorem cutRows_spec {ks : List CK} : ∀ {n : Nat} {l : List VV} {us : List Value} {rows : List (List Int)}, cutRows ks n l = some rows → F2 (RV ρ) l us → n * ks.length ≤ l.length →
    rows.length = n ∧ RFits ks rows ∧ ∀ (j : Nat) u, (flatR ks rows)[j]? = some u → us[j]? = some u
  | 0, l, us, rows, h, _, _ => by
    cases h
    exact ⟨rfl, fun i row hr => by simp at hr, fun j u hu => by simp [flatR] at hu⟩
  | n + 1, l, us, rows, h, hl, hlen => by
    unfold cutRows at h
    split at h
    · rename_i a r ha hr
      injection h with h
      subst h
      rw [Nat.add_mul, Nat.one_mul] at hlen
      obtain ⟨i1, i2, i3⟩ := cutRows_spec hr (hl.drop ks.length) (by rw [List.length_drop]; omega)
      have hta : (l.take ks.length).length = ks.length := by rw [List.length_take]; omega
      have hal := (ckNums_length ha).trans hta
      obtain ⟨e1, e2, e3⟩ := ckNums_ok ha (hl.take ks.length)
      have hfa : RFits ks (a :: r) := fun i row hi j k hk => by
        cases i with
        | zero =>
          simp only [List.getElem?_cons_zero, Option.some.injEq] at hi
          subst hi
          obtain ⟨m, q1, q2, _⟩ := e3 j k hk (by rw [hal]; exact (List.getElem?_eq_some_iff.1 hk).1)
          exact ⟨m, q1, q2⟩
        | succ i => exact i2 i row (by simpa using hi) j k hk
      refine ⟨by simp [i1], hfa, fun j u hu => ?_⟩
      rw [flatR] at hu
      rcases Nat.lt_or_ge j ks.length with hj | hj
      · rw [List.getElem?_append_left (by rw [rowV_length]; exact hj)] at hu
        obtain ⟨m, q1, q2, q3⟩ := e3 j _ (List.getElem?_eq_getElem hj) (by rw [hal]; exact hj)
        rw [rowV_get ks a j (List.getElem?_eq_getElem hj) q1] at hu
        rw [← hu]
        rw [List.getElem?_take, if_pos hj] at q3
        exact q3
      · rw [List.getElem?_append_right (by rw [rowV_length]; exact hj), rowV_length] at hu
        have := i3 _ _ hu
        rw [List.getElem?_drop] at this
        rw [← this]
        congr 1
        omega
    · cases h

/-- The rows of a slice. -/
theorem rowsOf_spec {hp : HP A} {ks : List CK} {x : SV} {m : SN} {rows : List (List Int)} {rd : List Nat} {v : Value} (hrun : (rowsOf hp ks x).run = some (m, rows, rd)) (h : HR S B Z ρ F H w)
    (hag : ∀ b, b ∈ rd → H b = hget hp b) (hx : RS ρ x v) :
    rows.length = m.val ∧ RFits ks rows ∧ m.val ≤ 9223372036854775807 ∧ ((∃ a c, v = .slice (some a) m.val c ∧ ∀ (j : Nat) u, (flatR ks rows)[j]? = some u → w.cell? (a.add j) = some u) ∨ (v = .slice none 0 0 ∧ m.val = 0)) := by
  unfold rowsOf at hrun
  split at hrun
  · rename_i b off len cap
    split at hrun
    · rename_i l ty hg
      rw [Tr.run_chk, Tr.run_opt] at hrun
      obtain ⟨hle, rs, hrs, he⟩ := hrun
      rw [Tr.run_ok] at he
      injection he with h1 h2
      injection h2 with h2 h3
      subst h1 h2 h3
      simp only [Bool.and_eq_true, decide_eq_true_eq] at hle
      obtain ⟨p, hp', rfl⟩ := hx
      obtain ⟨q, arr, hq, hf, hw, hlr⟩ := h.live _ _ ((hag b (by simp)).trans hg)
      rw [hp'] at hq
      injection hq with hq
      subst hq
      obtain ⟨i1, i2, i3⟩ := cutRows_spec hrs (hlr.drop off) (by rw [List.length_drop]; omega)
      refine ⟨i1, i2, Nat.le_of_ble_eq_true hle.2, .inl ⟨_, _, rfl, fun j u hu => ?_⟩⟩
      rw [add_mk, cell_of_blk hw]
      have := i3 j u hu
      rw [List.getElem?_drop] at this
      simpa using this
    · simp [Tr.run] at hrun
  · rename_i b r len cap
    rw [Tr.run_opt] at hrun
    obtain ⟨⟨ks', xs⟩, ht, hrun⟩ := hrun
    rw [Tr.run_chk, Tr.run_ite] at hrun
    obtain ⟨hk, ⟨hb, he⟩ | ⟨_, he⟩⟩ := hrun
    · rw [Tr.run_ok] at he
      injection he with h1 h2
      injection h2 with h2 h3
      subst h1 h2 h3
      obtain rfl := cksEq_eq hk
      have hb := of_decide_eq_true hb
      simp only at hb ⊢
      obtain ⟨p, hp', hle, hcap, rfl⟩ := hx
      obtain ⟨q, hq, hqs, hne⟩ := tab_live h (hag b (by simp)) ht
      have hrow : ∀ (i : Nat) row, xs[i]? = some row → ∃ arr ty fr, w.heap[q.blk]? = some (.cells arr ty fr) ∧ TabCells ks' xs q arr := fun i row hi => hne (by rintro rfl; simp at hi)
      rw [hp'] at hq
      injection hq with hq
      subst hq
      have hget : ∀ i row, ((xs.drop r.val).take len.val)[i]? = some row → xs[r.val + i]? = some row := fun i row hi => by
        rw [List.getElem?_take] at hi
        split at hi
        · rw [List.getElem?_drop] at hi; exact hi
        · cases hi
      have hfits : RFits ks' ((xs.drop r.val).take len.val) := fun i row hi j k hk => by
        obtain ⟨arr, ty, fr, hw, htc⟩ := hrow _ _ (hget i row hi)
        obtain ⟨n, q1, q2, _⟩ := htc.2.2.2 _ _ (hget i row hi) j k hk
        exact ⟨n, q1, q2⟩
      refine ⟨by rw [List.length_take, List.length_drop]; omega, hfits, hle, .inl ⟨_, _, rfl, fun j u hu => ?_⟩⟩
      obtain ⟨i, c, row, k, n, rfl, hi, hkc, hn, _, rfl⟩ := flatR_mem ks' hfits hu
      obtain ⟨arr, ty, fr, hw, htc⟩ := hrow _ _ (hget i row hi)
      obtain ⟨n', q1, _, q3⟩ := htc.2.2.2 _ _ (hget i row hi) c k hkc
      rw [hn] at q1
      injection q1 with q1
      subst q1
      rw [add_mk, cell_of_blk hw, ← q3, htc.1, Nat.add_mul]
      congr 1
      omega
    · cases he
  · rw [Tr.run_ok] at hrun
    injection hrun with h1 h2
    injection h2 with h2 h3
    subst h1 h2 h3
    obtain rfl := hx
    exact ⟨rfl, fun i row hr => by simp at hr, by simp [SN.val], .inr ⟨rfl, rfl⟩⟩
  · rw [Tr.run_ok] at hrun
    injection hrun with h1 h2
    injection h2 with h2 h3
    subst h1 h2 h3
    obtain ⟨a, c, rfl, _⟩ := hx
    exact ⟨rfl, fun i row hr => by simp at hr, by simp [SN.val], .inl ⟨a, c, rfl, fun j u hu => by simp [flatR] at hu⟩⟩
  · rename_i b len
    rw [Tr.run_opt] at hrun
    obtain ⟨⟨ks', xs⟩, ht, hrun⟩ := hrun
    rw [Tr.run_chk, Tr.run_ite] at hrun
    obtain ⟨hk, ⟨hb, he⟩ | ⟨_, he⟩⟩ := hrun
    · rw [Tr.run_ok] at he
      injection he with h1 h2
      injection h2 with h2 h3
      subst h1 h2 h3
      obtain rfl := cksEq_eq hk
      have hb := of_decide_eq_true hb
      simp only at hb ⊢
      obtain ⟨o, cap, rfl, hle, hn, hpos⟩ := hx
      obtain ⟨q, hq, hqs, hne⟩ := tab_live h (hag b (by simp)) ht
      have hrow : ∀ (i : Nat) row, xs[i]? = some row → ∃ arr ty fr, w.heap[q.blk]? = some (.cells arr ty fr) ∧ TabCells ks' xs q arr := fun i row hi => hne (by rintro rfl; simp at hi)
      have hget : ∀ i row, (xs.take len.val)[i]? = some row → xs[i]? = some row := fun i row hi => by
        rw [List.getElem?_take] at hi
        split at hi
        · exact hi
        · cases hi
      have hfits : RFits ks' (xs.take len.val) := fun i row hi j k hk => by
        obtain ⟨arr, ty, fr, hw, htc⟩ := hrow _ _ (hget i row hi)
        obtain ⟨n, q1, q2, _⟩ := htc.2.2.2 _ _ (hget i row hi) j k hk
        exact ⟨n, q1, q2⟩
      refine ⟨by rw [List.length_take]; omega, hfits, hle, ?_⟩
      rcases Nat.eq_zero_or_pos len.val with h0 | h0
      · have hx0 : xs.take len.val = [] := by rw [h0]; rfl
        rw [hx0, h0]
        cases o with
        | none => rw [(hn rfl).2]; exact .inr ⟨rfl, rfl⟩
        | some a => exact .inl ⟨a, cap, rfl, fun j u hu => by simp [flatR] at hu⟩
      · obtain ⟨p, hp', rfl⟩ := hpos h0
        rw [hp'] at hq
        injection hq with hq
        subst hq
        refine .inl ⟨_, _, rfl, fun j u hu => ?_⟩
        obtain ⟨i, c, row, k, n, rfl, hi, hkc, hn', _, rfl⟩ := flatR_mem ks' hfits hu
        obtain ⟨arr, ty, fr, hw, htc⟩ := hrow _ _ (hget i row hi)
        obtain ⟨n', q1, _, q3⟩ := htc.2.2.2 _ _ (hget i row hi) c k hkc
        rw [hn'] at q1
        injection q1 with q1
        subst q1
        rw [add_mk, cell_of_blk hw, ← q3, htc.1, Nat.add_assoc]
    · cases he
  · simp [Tr.run] at hrun

theorem val_sn2 (f : Nat → Nat → Nat) (x y : SN) : (SN.op2 f x y).val = f x.val y.val := by cases x <;> cases y <;> rfl
theorem val_fit (n : SN) (b : Nat) : (n.fit b).val = Nat.ble (n.val * b) 140737488355328 := by cases n <;> rfl
theorem val_zero (n : SN) : n.zero.val = Nat.beq n.val 0 := by cases n <;> rfl
theorem val_toSI (n : SN) : n.toSI.val = (n.val : Int) := by cases n <;> rfl
theorem val_toSN (n : SI) : n.toSN.val = n.val.toNat := by cases n <;> rfl

/-! ### New tables -/
/-- A new table takes the place of another one (or of none). -/
theorem done_tab {val : SV} {rd : List Nat} {v : Value} {ks : List CK} {rows : List (List Int)} {e : TypeId} {p : Pl} {arr : Array Value} {w' : World} {asg : HP A} {old : Option Nat}
    (h : HR S B Z ρ F H w) (hz : Z nid) (hasg : asg = (match old with | none => [(nid, some (.tab ks rows e))] | some b => [(b, none), (nid, some (.tab ks rows e))])) (hold : ∀ b, old = some b → b ≠ nid)
    (h0 : p.off0 = 0) (hw : w'.heap[p.blk]? = some (.cells arr e (0, 0))) (hsz : arr.size = p.rows * p.sz) (htc : TabCells ks rows p arr) (hsame : Same w w')
    (hblk : w.heap.size ≤ p.blk ∨ ∃ b, old = some b ∧ F b p.blk)
    (hheap : ∀ k, k < w.heap.size → k ≠ p.blk → w'.heap[k]? = w.heap[k]?)
    (hv : ∀ ρ' : Rho, ρ.le ρ' → ρ' nid = some p → RS ρ' val v) :
    Done S B Z ρ F H w nid ⟨val, rd, asg, nid + 1⟩ v w' := by
  have hnone : ρ nid = none := h.fresh nid hz
  let ρ' : Rho := fun b => if b = nid then some p else ρ b
  let F' : Fm := fun b => if b = nid then (fun x => x = p.blk) else if old = some b then (fun _ => False) else F b
  have hle : ρ.le ρ' := fun b q hq => by
    have : b ≠ nid := fun e => by subst e; rw [hnone] at hq; cases hq
    simp [ρ', this, hq]
  have hnid : ρ' nid = some p := by simp [ρ']
  have hD : ∀ b, b ∈ asg.map (·.1) ↔ b = nid ∨ old = some b := fun b => by
    subst hasg
    cases old with
    | none => simp
    | some c => simp only [List.map_cons, List.map_nil, List.mem_cons, List.not_mem_nil, or_false, Option.some.injEq]; exact ⟨fun h => h.elim (fun h => .inr h.symm) .inl, fun h => h.elim .inr fun h => .inl h.symm⟩
  have hn : over H asg nid = some (.tab ks rows e) := by
    subst hasg
    cases old <;> simp [over]
  have ho : ∀ b, old = some b → over H asg b = none := fun b hb => by
    subst hasg
    subst hb
    simp [over, hold b rfl]
  have hc : Chg (fun b => b ∈ asg.map (·.1)) ρ F w ρ' F' w' := by
    refine ⟨hle, fun b hb => ?_, fun b x hb hx => ?_, hsame, fun k hk hck => hheap k hk fun he => ?_⟩
    · rw [hD, not_or] at hb
      simp [F', hb.1, hb.2]
    · rw [hD] at hb
      by_cases hbn : b = nid
      · simp only [F', hbn, if_true] at hx
        subst hx
        rcases hblk with h1 | ⟨c, hc1, hc2⟩
        · exact .inl h1
        · exact .inr ⟨c, (hD c).2 (.inr hc1), hc2⟩
      · rcases hb with hb | hb
        · exact absurd hb hbn
        · simp only [F', if_neg hbn, if_pos hb] at hx
    · rcases hblk with h1 | ⟨c, hc1, hc2⟩
      · omega
      · exact hck c ((hD c).2 (.inr hc1)) (he ▸ hc2)
  refine ⟨ρ', F', hv ρ' hle hnid, ?_, hc⟩
  refine h.step hc (fun b hb => over_out hb) (fun b o hb ho' => ?_) (fun b hb ho' x hx => ?_) (fun b x hb hx => ?_) (fun b c x hb hc' hbx hcx => ?_) (fun b hb => ?_)
  · rw [hD] at hb
    by_cases hbn : b = nid
    · subst hbn
      rw [hn] at ho'
      injection ho' with ho'
      subst ho'
      exact ⟨p, arr, hnid, h0, fun x => by simp [F'], hw, hsz, htc⟩
    · rcases hb with hb | hb
      · exact absurd hb hbn
      · rw [ho b hb] at ho'; cases ho'
  · rw [hD] at hb
    by_cases hbn : b = nid
    · subst hbn
      rw [hn] at ho'
      cases ho'
    · rcases hb with hb | hb
      · exact absurd hb hbn
      · simp only [F', if_neg hbn, if_pos hb] at hx
  · rw [hD] at hb
    by_cases hbn : b = nid
    · simp only [F', hbn, if_true] at hx
      subst hx
      rcases Nat.lt_or_ge p.blk w'.heap.size with h1 | h1
      · exact h1
      · rw [Array.getElem?_eq_none h1] at hw; cases hw
    · rcases hb with hb | hb
      · exact absurd hb hbn
      · simp only [F', if_neg hbn, if_pos hb] at hx
  · have key : ∀ d, d ∈ asg.map (·.1) → F' d x → d = nid := fun d hd hdx => by
      rw [hD] at hd
      by_cases hdn : d = nid
      · exact hdn
      · rcases hd with hd | hd
        · exact hd
        · simp only [F', if_neg hdn, if_pos hd] at hdx
    rw [key b hb hbx, key c hc' hcx]
  · obtain ⟨h1, h2⟩ := hb
    have : b ≠ nid := by rintro rfl; exact h2 ⟨Nat.le_refl _, Nat.lt_succ_self _⟩
    simp [ρ', this, h.fresh b h1]

theorem colsOf_length : ∀ {l : List VV} {ks : List CK}, colsOf l = some ks → ks.length = l.length
  | [], _, h => by cases h; rfl
  | .int k _ :: r, _, h => by
    simp only [colsOf, Option.map_eq_some_iff] at h
    obtain ⟨m, hm, rfl⟩ := h
    simp [colsOf_length hm]
  | .bool _ :: r, _, h => by
    simp only [colsOf, Option.map_eq_some_iff] at h
    obtain ⟨m, hm, rfl⟩ := h
    simp [colsOf_length hm]
  | .ptr _ _ :: _, _, h => by simp [colsOf] at h
  | .nilp :: _, _, h => by simp [colsOf] at h
  | .tptr _ _ _ :: _, _, h => by simp [colsOf] at h
  | .sl _ _ _ _ :: _, _, h => by simp [colsOf] at h
  | .ts _ _ _ _ :: _, _, h => by simp [colsOf] at h
  | .nils :: _, _, h => by simp [colsOf] at h
  | .es _ :: _, _, h => by simp [colsOf] at h
  | .an _ _ :: _, _, h => by simp [colsOf] at h
  | .fn _ _ _ :: _, _, h => by simp [colsOf] at h
  | .nilf :: _, _, h => by simp [colsOf] at h
  | .any :: _, _, h => by simp [colsOf] at h
  | .raw _ :: _, _, h => by simp [colsOf] at h
theorem colsM_cols {z : List VV} {l c : SV} {ks : List CK} (h : colsM z l c = some ks) : colsOf z = some ks := by
  unfold colsM at h
  split at h
  · split at h
    · cases h
    · exact h
  · exact h
theorem colsN_length : ∀ {l : List VV} {ks : List CK}, colsN l = some ks → ks.length = l.length
  | [], _, h => by cases h; rfl
  | .int k _ :: r, _, h => by
    simp only [colsN, Option.map_eq_some_iff] at h
    obtain ⟨m, hm, rfl⟩ := h
    simp [colsN_length hm]
  | .bool _ :: r, _, h => by
    simp only [colsN, Option.map_eq_some_iff] at h
    obtain ⟨m, hm, rfl⟩ := h
    simp [colsN_length hm]
  | .ptr _ _ :: _, _, h => by simp [colsN] at h
  | .nilp :: _, _, h => by simp [colsN] at h
  | .tptr _ _ _ :: _, _, h => by simp [colsN] at h
  | .sl _ _ _ _ :: _, _, h => by simp [colsN] at h
  | .ts _ _ _ _ :: _, _, h => by simp [colsN] at h
  | .nils :: r, _, h => by
    simp only [colsN, Option.map_eq_some_iff] at h
    obtain ⟨m, hm, rfl⟩ := h
    simp [colsN_length hm]
  | .es _ :: _, _, h => by simp [colsN] at h
  | .an _ _ :: _, _, h => by simp [colsN] at h
  | .fn _ _ _ :: _, _, h => by simp [colsN] at h
  | .nilf :: _, _, h => by simp [colsN] at h
  | .any :: _, _, h => by simp [colsN] at h
  | .raw _ :: _, _, h => by simp [colsN] at h

/-- The value of a type's nought. -/
theorem zero_info {e : TypeId} {i : TypeInfo} {z : S1} (hi : P.info? e = some i) (hz : zeroS P e = some z) : ∃ v, i.zero = some v ∧ ∀ ρ, R1 ρ z v := by
  unfold zeroS at hz
  simp only [hi] at hz
  split at hz
  · rename_i cs hc
    simp only [Option.map_eq_some_iff] at hz
    obtain ⟨m, hm, rfl⟩ := hz
    exact ⟨_, hc, fun ρ => ⟨cs.toList, by simp, ofVals_F2 hm ρ⟩⟩
  · rename_i v hv _
    simp only [Option.map_eq_some_iff] at hz
    obtain ⟨m, hm, rfl⟩ := hz
    exact ⟨_, by assumption, fun ρ => ofVal_RV hm ρ⟩
  · cases hz

theorem setCells_blk {ty : TypeId} {k : Nat} : ∀ (vs : List Value) (off : Nat) (w : World) (arr : Array Value), w.heap[k]? = some (.cells arr ty (0, 0)) → off + vs.length ≤ arr.size →
    (w.setCells k off vs).heap[k]? = some (.cells (splice arr.toList off vs).toArray ty (0, 0)) ∧ Same w (w.setCells k off vs) ∧ ∀ x, x ≠ k → (w.setCells k off vs).heap[x]? = w.heap[x]?
  | [], off, w, arr, h, _ => by
    refine ⟨?_, Same.refl w, fun _ _ => rfl⟩
    rw [splice_nil, Array.toArray_toList]
    exact h
  | v :: vs, off, w, arr, h, hn => by
    simp only [List.length_cons] at hn
    have hk : k < w.heap.size := by
      rcases Nat.lt_or_ge k w.heap.size with h1 | h1
      · exact h1
      · simp [Array.getElem?_eq_none h1] at h
    have hb : (setBlk w k (.cells (arr.setIfInBounds off v) ty (0, 0))).heap[k]? = some (.cells (arr.setIfInBounds off v) ty (0, 0)) := by
      rw [setBlk_get _ _ _ _ hk, if_pos rfl]
    obtain ⟨i1, i2, i3⟩ := setCells_blk vs (off + 1) _ _ hb (by simp; omega)
    have hs : w.setCells k off (v :: vs) = (setBlk w k (.cells (arr.setIfInBounds off v) ty (0, 0))).setCells k (off + 1) vs := by
      rw [World.setCells, setCell_blk h]
    rw [hs]
    refine ⟨?_, (setBlk_same _ _ _).trans i2, fun x hx => ?_⟩
    · rw [i1, splice_cons]
      simp
    · rw [i3 x hx, setBlk_get _ _ _ _ hk, if_neg hx]

/-- Nothing is appended. -/
theorem run_append_zero {t ty e : TypeId} {i : TypeInfo} (ht : P.underlying t = some (.slice e)) (hi : P.info? e = some i) {base o : Option Addr} {n cap c : Nat} (hle : n ≤ cap) :
    (Builtin.append_ #[t, t] ty #[.slice base n cap, .slice o 0 c]).run P w = .ok (.slice base n cap) w := by
  have hf : (Builtin.firstCells i.size 0 (.slice o 0 c)).run P w = .ok #[] w := by
    cases o with
    | none => simp [Builtin.firstCells]
    | some a => exact run_firstCells_some (P := P) w i.size 0 a 0 c [] (by simp) (by simp)
  cases base with
  | none => simp [Builtin.append_, run_underlying ht, sizeOf, typeInfo, hi, Builtin.lenOf, hle, hf]
  | some a => simp [Builtin.append_, run_underlying ht, sizeOf, typeInfo, hi, Builtin.lenOf, hle, hf, storeCells]

/-- What is known of a slice of so many rows. -/
def SlR (w : World) (ks : List CK) (rows : List (List Int)) (n : Nat) (v : Value) : Prop :=
  rows.length = n ∧ RFits ks rows ∧ n ≤ 9223372036854775807 ∧ ((∃ a c, v = .slice (some a) n c ∧ ∀ (j : Nat) u, (flatR ks rows)[j]? = some u → w.cell? (a.add j) = some u) ∨ (v = .slice none 0 0 ∧ n = 0))

/-- Where there is no room: a new row. -/
theorem append_grow {t type el : TypeId} {i : TypeInfo} {zv : Value} {ks : List CK} {n m : SN} {rx ry : List (List Int)} {v u : Value} {rd : List Nat} {asg : HP A} {old : Option Nat}
    (h : HR S B Z ρ F H w) (hz : Z nid) (hu : P.underlying t = some (.slice el)) (hi : P.info? el = some i) (hzi : i.zero = some zv) (hzs : zv.cells.size = i.size) (hsz : ks.length = i.size) (hby : 0 < i.bytes)
    (hasg : asg = (match old with | none => [(nid, some (.tab ks (rx ++ ry) el))] | some b => [(b, none), (nid, some (.tab ks (rx ++ ry) el))])) (hold : ∀ b, old = some b → b ≠ nid)
    (hx : SlR w ks rx n.val v) (hy : SlR w ks ry m.val u) (hbytes : (n.val + m.val) * i.bytes ≤ 140737488355328) (hm : 0 < m.val) (hcap : ∀ cap a, v = .slice a n.val cap → cap < n.val + m.val) :
    Lands P ((do pure (Next.value (← Builtin.append_ #[t, t] type #[v, u])) : Sem Next).run P w) (Done S B Z ρ F H w nid ⟨.v (.ts nid (.lit 0) (SN.op2 (fun a b => a + b) n m) none), rd, asg, nid + 1⟩) := by
  obtain ⟨lx, fx, _, hxv⟩ := hx
  obtain ⟨ly, fy, _, hyv⟩ := hy
  have hsum : n.val + m.val ≤ 140737488355328 := Nat.le_trans (Nat.le_mul_of_pos_right _ hby) hbytes
  obtain ⟨b, c, rfl, hyc⟩ : ∃ a c, u = .slice (some a) m.val c ∧ ∀ (j : Nat) x, (flatR ks ry)[j]? = some x → w.cell? (a.add j) = some x := by
    rcases hyv with h1 | ⟨_, h1⟩
    · exact h1
    · omega
  have hfx := flatR_length ks rx
  have hfy := flatR_length ks ry
  rw [lx] at hfx
  rw [ly] at hfy
  have fin : ∀ (cap : Nat), cap < n.val + m.val → (Builtin.append_ #[t, t] type #[v, .slice (some b) m.val c]).run P w =
      .ok (.slice (some ⟨w.heap.size, 0, none⟩) (n.val + m.val) (grownCap w (n.val + m.val) cap el)) (w.drew.alloc (.cells ((flatR ks rx).toArray ++ (flatR ks ry).toArray ++ Builtin.zeroCells zv.cells (grownCap w (n.val + m.val) cap el - (n.val + m.val))) el)) →
      Lands P ((do pure (Next.value (← Builtin.append_ #[t, t] type #[v, .slice (some b) m.val c])) : Sem Next).run P w) (Done S B Z ρ F H w nid ⟨.v (.ts nid (.lit 0) (SN.op2 (fun a b => a + b) n m) none), rd, asg, nid + 1⟩) := by
    intro cap hlt hrun'
    have hge := grownCap_ge w (n.val + m.val) cap el
    have hasz : ((flatR ks rx).toArray ++ (flatR ks ry).toArray ++ Builtin.zeroCells zv.cells (grownCap w (n.val + m.val) cap el - (n.val + m.val))).size = grownCap w (n.val + m.val) cap el * ks.length := by
      simp only [Array.size_append, List.size_toArray, size_zeroCells, hzs, hfx, hfy]
      rw [← hsz, ← Nat.add_mul, ← Nat.add_mul]
      congr 1
      omega
    refine lands_val hrun' (done_tab (p := ⟨w.heap.size, 0, ks.length, grownCap w (n.val + m.val) cap el⟩) h hz hasg hold rfl
      (heap_alloc_new w.drew _) hasz (tabCells_of_flat (fx.append fy) rfl rfl (by simp only [List.length_append, lx, ly]; exact hge) (Nat.le_of_eq hasz.symm) fun j u' hu' => ?_)
      ⟨rfl, rfl, rfl, by show w.heap.size ≤ (w.drew.heap.push _).size; rw [Array.size_push]; exact Nat.le_succ _⟩ (.inl (Nat.le_refl _)) (fun k hk _ => heap_alloc_old w.drew _ k hk) fun ρ' hle hnid => ?_)
    · rw [flatR_append] at hu'
      have hj : j < (flatR ks rx ++ flatR ks ry).length := (List.getElem?_eq_some_iff.1 hu').1
      rw [← Array.getElem?_toList]
      simp only [Array.toList_append]
      rw [List.getElem?_append_left (by simpa using hj)]
      exact hu'
    · refine RS_one (x := .ts nid (.lit 0) (SN.op2 (fun a b => a + b) n m) none) ⟨_, hnid, ?_, ?_, ?_⟩
      · rw [val_sn2]; omega
      · rw [val_sn2]; simpa [tsCap, SN.val] using hge
      · rw [val_sn2]; simp [tsCap, SN.val]
  rcases hxv with ⟨a, cap, rfl, hxc⟩ | ⟨rfl, hn0⟩
  · have hlt := hcap cap _ rfl
    exact fin cap hlt (run_append_grow (P := P) w t type el i zv hu hi hzi a n.val cap (flatR ks rx) (by rw [hfx, hsz]) hxc b m.val c (flatR ks ry) (by rw [hfy, hsz]) hyc hlt (by omega) (growslice_fits hlt hbytes))
  · have hlt : 0 < n.val + m.val := by omega
    have hrx0 : rx = [] := List.eq_nil_of_length_eq_zero (by omega)
    subst hrx0
    rw [hn0, Nat.zero_add] at hbytes
    have := run_append_nil (P := P) w t type el i zv hu hi hzi b m.val c (flatR ks ry) (by rw [hfy, hsz]) hyc hm (by omega) (by omega)
    refine fin 0 hlt ?_
    rw [this, hn0]
    simp [flatR]

/-- Onto a table of one's own. -/
theorem append_tab {t type el : TypeId} {i : TypeInfo} {zv : Value} {ks0 : List CK} {len m : SN} {xs0 rx ry : List (List Int)} {v u : Value} {rd : List Nat} {b : Nat}
    (h : HR S B Z ρ F H w) (hz : Z nid) (hu : P.underlying t = some (.slice el)) (hi : P.info? el = some i) (hzi : i.zero = some zv) (hzs : zv.cells.size = i.size) (hsz : ks0.length = i.size) (hby : 0 < i.bytes)
    (hb : H b = some (.tab ks0 xs0 el)) (hv : RV ρ (.ts b (.lit 0) len none) v) (hx : SlR w ks0 rx len.val v) (hy : SlR w ks0 ry m.val u) (hfit : (len.val + m.val) * i.bytes ≤ 140737488355328) :
    Lands P ((do pure (Next.value (← Builtin.append_ #[t, t] type #[v, u])) : Sem Next).run P w)
      (Done S B Z ρ F H w nid ⟨.v (.ts nid (.lit 0) (SN.op2 (fun a b => a + b) len m) none), rd, [(b, none), (nid, some (.tab ks0 (rx ++ ry) el))], nid + 1⟩) := by
  obtain ⟨p, hp', _, hlc, rfl⟩ := hv
  obtain ⟨q, arr, hq, h0, hf, hw, hasz, htc⟩ := h.live _ _ hb
  rw [hp'] at hq
  injection hq with hq
  subst hq
  have hne : ∀ c, some b = some c → c ≠ nid := fun c hc hbn => by
    injection hc with hc
    subst hc
    subst hbn
    have := h.fresh b hz
    rw [hp'] at this
    cases this
  have hcap : tsCap p (.lit 0) none = p.rows := by simp [tsCap, SN.val]
  have hoff : p.off0 + (SN.lit 0).val * p.sz = 0 := by simp [SN.val, h0]
  rw [hcap, hoff] at hx ⊢
  rw [hcap] at hlc
  have hx' := hx
  have hy' := hy
  obtain ⟨lx, fx, _, hxv⟩ := hx'
  obtain ⟨ly, fy, _, hyv⟩ := hy'
  have hxc : ∀ (j : Nat) u, (flatR ks0 rx)[j]? = some u → arr[j]? = some u := by
    rcases hxv with ⟨a, c, hac, hc⟩ | ⟨hac, _⟩
    · injection hac with hac _
      injection hac with hac
      subst hac
      intro j u hu
      have := hc j u hu
      rw [add_mk, cell_of_blk hw, Nat.zero_add] at this
      exact this
    · cases hac
  have hfx := flatR_length ks0 rx
  have hfy := flatR_length ks0 ry
  rw [lx] at hfx
  rw [ly] at hfy
  have hpsz : p.sz = ks0.length := htc.1
  have hsn : ∀ ρ' : Rho, ρ' nid = some p → len.val + m.val ≤ p.rows → RS ρ' (.v (.ts nid (.lit 0) (SN.op2 (fun a b => a + b) len m) none)) (.slice (some ⟨p.blk, 0, none⟩) (len.val + m.val) p.rows) := fun ρ' hnid hle => by
    refine RS_one (x := .ts nid (.lit 0) (SN.op2 (fun a b => a + b) len m) none) ⟨p, hnid, ?_, ?_, ?_⟩
    · rw [val_sn2]
      have := Nat.le_trans (Nat.le_mul_of_pos_right _ hby) hfit
      omega
    · rw [val_sn2, hcap]; exact hle
    · rw [val_sn2, hcap, hoff]
  rcases Nat.lt_or_ge p.rows (len.val + m.val) with hlt | hge
  · exact append_grow (old := some b) h hz hu hi hzi hzs hsz hby rfl hne hx hy hfit (by omega) (fun c a hca => by injection hca with _ _ hca; rw [← hca]; exact hlt)
  · have hfits : (len.val + m.val) * ks0.length ≤ arr.size := by rw [hasz, hpsz]; exact Nat.mul_le_mul_right _ hge
    rw [Nat.add_mul] at hfits
    rcases hyv with ⟨a, c, rfl, hyc⟩ | ⟨rfl, hm0⟩
    · have hrun' := run_append_room_cells (P := P) w t type el i hu hi p.blk 0 len.val p.rows a m.val c (flatR ks0 ry) (by rw [hfy, hsz]) hyc (flatR_one ks0 fy) hge
        (fun j hj => by
          rw [hfy] at hj
          rw [cell_of_blk hw, ← hsz, Array.getElem?_eq_getElem (by omega)]
          rfl)
        (fun j hj => by simp [World.frozen?, hw])
      obtain ⟨g1, g2, g3⟩ := setCells_blk (flatR ks0 ry) (0 + len.val * i.size) w arr hw (by rw [hfy, ← hsz]; omega)
      refine lands_val hrun' (done_tab (old := some b) (p := p) h hz rfl hne h0 g1
        (by rw [List.size_toArray, splice_length, Array.length_toList]; exact hasz) ?_ g2 (.inr ⟨b, rfl, (hf _).2 rfl⟩) (fun k _ hk => g3 k hk) fun ρ' _ hnid => hsn ρ' hnid hge)
      refine tabCells_of_flat (fx.append fy) hpsz h0 (by simp only [List.length_append, lx, ly]; exact hge) (by rw [List.size_toArray, splice_length, Array.length_toList, hasz]; exact Nat.le_refl _) fun j u' hu' => ?_
      rw [flatR_append] at hu'
      rw [List.getElem?_toArray, splice_get _ _ _ _ (by rw [hfy, ← hsz, Array.length_toList (xs := arr)]; omega)]
      rw [hfy, ← hsz, Nat.zero_add]
      rcases Nat.lt_or_ge j (len.val * ks0.length) with hj | hj
      · rw [if_neg (by omega)]
        rw [List.getElem?_append_left (by rw [hfx]; exact hj)] at hu'
        rw [Array.getElem?_toList]
        exact hxc j u' hu'
      · have hj2 : j < (flatR ks0 rx ++ flatR ks0 ry).length := (List.getElem?_eq_some_iff.1 hu').1
        rw [List.length_append, hfx, hfy] at hj2
        rw [if_pos ⟨hj, by omega⟩]
        rw [List.getElem?_append_right (by rw [hfx]; exact hj), hfx] at hu'
        exact hu'
    · have hry0 : ry = [] := List.eq_nil_of_length_eq_zero (by omega)
      have hrun' := run_append_zero (P := P) (w := w) (ty := type) hu hi (base := some ⟨p.blk, 0, none⟩) (o := none) (n := len.val) (cap := p.rows) (c := 0) hlc
      refine lands_val hrun' (done_tab (old := some b) (p := p) h hz rfl hne h0 hw
        hasz ?_ (Same.refl w) (.inr ⟨b, rfl, (hf _).2 rfl⟩) (fun k _ hk => rfl) fun ρ' _ hnid => ?_)
      · subst hry0
        rw [List.append_nil]
        exact tabCells_of_flat fx hpsz h0 (by omega) (by rw [hasz]; exact Nat.le_refl _) hxc
      · have := hsn ρ' hnid hge
        rw [hm0] at this
        exact this

theorem noRoom_spec {x : SV} {v : Value} (h : noRoom x = true) (hx : RS ρ x v) : ∃ a n, v = .slice a n n := by
  unfold noRoom at h
  split at h
  · obtain rfl := Nat.eq_of_beq_eq_true h
    obtain ⟨p, _, rfl⟩ := hx
    exact ⟨_, _, rfl⟩
  · obtain rfl := hx
    exact ⟨_, _, rfl⟩
  · obtain ⟨a, c, rfl, hc⟩ := hx
    rw [hc h]
    exact ⟨_, _, rfl⟩
  · cases h

theorem vappend_sound {t : TypeId} {type : TypeId} {consts : Array Bool} {hp : HP A} {x y : SV} {v u : Value} {e : Eff A}
    (hrun : (vappend P hp t x y nid).run = some e) (h : HR S B Z ρ F H w) (hag : ∀ b, b ∈ e.rd ∨ b ∈ e.asg.map (·.1) → H b = hget hp b) (hz : ∀ b, nid ≤ b → b < e.nid → Z b)
    (hx : RS ρ x v) (hy : RS ρ y u) : nid ≤ e.nid ∧ Lands P ((builtin .append #[t, t] type consts #[v, u]).run P w) (Done S B Z ρ F H w nid e) := by
  have hbi : builtin .append #[t, t] type consts #[v, u] = (do pure (Next.value (← Builtin.append_ #[t, t] type #[v, u])) : Sem Next) := rfl
  rw [hbi]
  unfold vappend at hrun
  split at hrun
  · rename_i el hu
    split at hrun
    · rename_i i hi
      simp only [Tr.run_opt, Tr.run_chk, Tr.run_bind, Bool.and_eq_true] at hrun
      obtain ⟨z, hzz, ks, hks, ⟨⟨hsz, hpos⟩, hby⟩, ⟨m, ry, dy⟩, hry, ⟨n, rx, dx⟩, hrx, hrun⟩ := hrun
      have hsz := Nat.eq_of_beq_eq_true hsz
      have hby : 0 < i.bytes := by simpa using hby
      obtain ⟨zv, hzi, hzr⟩ := zero_info hi hzz
      have hzc := R1.cells (hzr ρ)
      have hzs : zv.cells.size = i.size := by rw [← Array.length_toList, ← hzc.length, ← colsN_length hks, hsz]
      have key : (∀ b, b ∈ dx ++ dy → b ∈ e.rd) → SlR w ks rx n.val v ∧ SlR w ks ry m.val u := fun hsub =>
        ⟨rowsOf_spec hrx h (fun b hb => hag b (.inl (hsub b (by simp [hb])))) hx, rowsOf_spec hry h (fun b hb => hag b (.inl (hsub b (by simp [hb])))) hy⟩
      split at hrun
      · rename_i b len
        split at hrun
        · rename_i ks0 xs0 ty0 hg
          simp only [Tr.run_chk, Tr.run_test, Tr.run_no, and_false, or_false] at hrun
          obtain ⟨hte, hfit, he⟩ := hrun
          rw [Tr.run_ok] at he
          rw [val_fit, val_sn2] at hfit
          have hfit := Nat.le_of_ble_eq_true hfit
          obtain ⟨k1, k2⟩ := key (fun b hb => by rw [← he]; exact hb)
          have hb : H b = some (.tab ks0 xs0 ty0) := (hag b (.inr (by rw [← he]; simp))).trans hg
          obtain rfl := Nat.eq_of_beq_eq_true hte
          simp only [rowsOf, hg, tabOf, Tr.run_opt, Tr.run_chk, Tr.run_ite, Tr.run_no, and_false, or_false, Tr.run_ok, Option.some.injEq] at hrx
          obtain ⟨_, rfl, hkk, _, hrx⟩ := hrx
          obtain rfl := cksEq_eq hkk
          injection hrx with hn hrx
          subst hn
          subst he
          exact ⟨Nat.le_succ _, append_tab h (hz nid (Nat.le_refl _) (Nat.lt_succ_self _)) hu hi hzi hzs hsz hby hb hx k1 k2 hfit⟩
        · simp [Tr.run] at hrun
      · simp only [Tr.run_chk, Tr.run_test, Tr.run_no, and_false, or_false] at hrun
        obtain ⟨hroom, ⟨h0, he⟩ | ⟨h0, hfit, he⟩⟩ := hrun
        · rw [Tr.run_ok] at he
          subst he
          refine ⟨Nat.le_refl _, ?_⟩
          rw [val_zero] at h0
          have h0 := Nat.eq_of_beq_eq_true h0
          obtain ⟨k1, k2⟩ := key (fun b hb => hb)
          obtain ⟨a, k, rfl⟩ := noRoom_spec hroom hx
          obtain ⟨o, c, rfl⟩ : ∃ o c, u = .slice o 0 c := by
            rcases k2.2.2.2 with ⟨a, c, h1, _⟩ | ⟨h1, _⟩
            · exact ⟨_, _, by rw [h1, h0]⟩
            · exact ⟨_, _, h1⟩
          exact lands_val (run_append_zero hu hi (Nat.le_refl _)) (done_pure h hx)
        · rw [Tr.run_ok] at he
          subst he
          rw [val_zero] at h0
          rw [val_fit, val_sn2] at hfit
          have hfit := Nat.le_of_ble_eq_true hfit
          have h0 := Nat.ne_of_beq_eq_false h0
          obtain ⟨k1, k2⟩ := key (fun b hb => hb)
          obtain ⟨a, k, hv⟩ := noRoom_spec hroom hx
          exact ⟨Nat.le_succ _, append_grow (old := none) h (hz nid (Nat.le_refl _) (Nat.lt_succ_self _)) hu hi hzi hzs hsz hby rfl (fun b hb => by cases hb) k1 k2 hfit (by omega) fun cap a' hca => by
            rw [hv] at hca
            injection hca with _ h1 h2
            omega⟩
    · simp [Tr.run] at hrun
  · simp [Tr.run] at hrun

theorem wrap_i64W {n : Int} (h : 0 ≤ n) (h' : n < 9223372036854775808) : IntKind.i64.wrap n = n := by
  rw [IntKind.wrap_i64]; omega
theorem val_sle (a b : SI) : (sle a b).val = decide (a.val ≤ b.val) := val_cmp _ a b
theorem val_slt (a b : SI) : (slt a b).val = decide (a.val < b.val) := val_cmp _ a b
theorem flatR_rep {ks : List CK} {zs : List Int} : ∀ (n : Nat) (j : Nat), j < n * ks.length → (flatR ks (List.replicate n zs))[j]? = (rowV ks zs)[j % ks.length]?
  | 0, j, h => by simp at h
  | n + 1, j, h => by
    rw [List.replicate_succ, flatR]
    rw [Nat.add_mul, Nat.one_mul] at h
    rcases Nat.lt_or_ge j ks.length with hj | hj
    · rw [List.getElem?_append_left (by rw [rowV_length]; exact hj), Nat.mod_eq_of_lt hj]
    · rw [List.getElem?_append_right (by rw [rowV_length]; exact hj), rowV_length, flatR_rep n _ (by omega)]
      rw [Nat.mod_eq_sub_mod hj]

/-- A slice of so many noughts is made. -/
theorem make_sound {ty e : TypeId} {i : TypeInfo} {z : S1} {ks : List CK} {zs : List Int} {l c : SI} {k k' : IntKind} (hu : P.underlying ty = some (.slice e)) (hi : P.info? e = some i) (hz : zeroS P e = some z) (hks : colsOf z.cells = some ks)
    (hzs : ckNums ks z.cells = some zs) (hsz : z.cells.length = i.size) (hpos : 0 < i.size) (hby : 0 < i.bytes) (h0 : 0 ≤ l.val) (hlc : l.val = c.val) (hfit : l.val.toNat * i.bytes ≤ 140737488355328)
    (h : HR S B Z ρ F H w) (hZ : Z nid) :
    Lands P ((do pure (Next.value (← Instr.makeSlice ty (.int k l.val) (.int k' c.val))) : Sem Next).run P w)
      (Done S B Z ρ F H w nid ⟨.v (.ts nid (.lit 0) l.toSN none), [], [(nid, some (.tab ks (List.replicate l.toSN.val zs) e))], nid + 1⟩) := by
  obtain ⟨zv, hzi, hzr⟩ := zero_info hi hz
  have hzc := R1.cells (hzr ρ)
  have hzvs : zv.cells.size = i.size := by rw [← Array.length_toList, ← hzc.length, hsz]
  have hkl : ks.length = i.size := by rw [colsOf_length hks, hsz]
  obtain ⟨n, hn⟩ := Int.eq_ofNat_of_zero_le h0
  have hnl : l.toSN.val = n := by rw [val_toSN, hn]; rfl
  rw [hn] at hfit hlc
  simp only [Int.toNat_natCast] at hfit
  have hnb : n ≤ 140737488355328 := Nat.le_trans (Nat.le_mul_of_pos_right _ hby) hfit
  have hzl := ckNums_length hzs
  obtain ⟨e1, e2, e3⟩ := ckNums_ok hzs hzc
  have hfits : RFits ks (List.replicate n zs) := fun j row hr q k hk => by
    rw [List.getElem?_replicate] at hr
    split at hr
    · injection hr with hr
      subst hr
      obtain ⟨m, q1, q2, _⟩ := e3 q k hk (by rw [hzl, hsz, ← hkl]; exact (List.getElem?_eq_some_iff.1 hk).1)
      exact ⟨m, q1, q2⟩
    · cases hr
  have hsame : ∀ x, (w.alloc x).heap.size = w.heap.size + 1 := fun x => by show (w.heap.push x).size = _; simp
  refine lands_val (v := .slice (some ⟨w.heap.size, 0, none⟩) n n) (w' := w.alloc (.cells ((Array.range (n * i.size)).map fun j => zv.cells[j % zv.cells.size]!) e)) ?_
    (done_tab (old := none) (p := ⟨w.heap.size, 0, ks.length, n⟩) h hZ rfl (fun b hb => by cases hb) rfl (heap_alloc_new w _) (by simp only [Array.size_map, Array.size_range, hkl]) ?_ ⟨rfl, rfl, rfl, by rw [hsame]; exact Nat.le_succ _⟩ (.inl (Nat.le_refl _)) (fun k hk _ => heap_alloc_old w _ k hk) fun ρ' _ hnid => ?_)
  · have hty : (typeInfo e).run P w = .ok i w := by simp [typeInfo, hi]
    have hke : known P e = true := by unfold known; rw [hi]; rfl
    have hcs : P.cellsOf e = i.size := by unfold Program.cellsOf; rw [hi]; rfl
    unfold Instr.makeSlice
    rw [run_andThen_ok (run_underlying hu w)]
    have as1 : ∀ (k : IntKind) (n : Int), (asInt (.int k n)).run P w = .ok n w := fun _ _ => rfl
    have w1 : IntKind.i64.wrap (n : Int) = n := wrap_i64W (by omega) (by omega)
    have hbn : (i.bytes : Int) * n ≤ 2 ^ 48 := by
      have : (n : Int) * i.bytes ≤ 140737488355328 := by
        rw [← Int.natCast_mul]
        exact Int.ofNat_le.2 hfit
      rw [Int.mul_comm]
      omega
    simp only
    rw [run_andThen_ok (as1 _ _), run_andThen_ok (as1 _ _), run_andThen_ok hty]
    rw [hn, ← hlc]
    simp only [w1]
    have hno : ((decide ((n : Int) < 0) || decide ((i.bytes : Int) * n > 2 ^ 48)) || decide ((n : Int) < 0) || decide ((n : Int) > n)) = false := by
      simp only [Bool.or_eq_false_iff, decide_eq_false_iff_not]
      refine ⟨⟨⟨?_, ?_⟩, ?_⟩, ?_⟩ <;> omega
    rw [if_neg (by rw [hno]; simp)]
    try simp only [pure_bind]
    try simp only [Int.toNat_natCast]
    rw [run_andThen_ok (run_askRoom P w _), run_andThen_ok (run_sizeOf_k hke), hcs]
    have hzrun : (zeroValue e).run P w = .ok zv w := by simp [zeroValue, typeInfo, hi, hzi]
    split
    · rename_i h00
      try simp only [pure_bind]
      rcases Nat.eq_zero_or_pos n with hn0 | hn0
      · subst hn0
        have hz0 : ∀ f : Nat → Value, (Array.range (0 * i.size)).map f = #[] := fun f => by simp
        rw [hz0, hz0]
        simp [newRow, newObj, Sem.run]
      · have := Nat.mul_pos hn0 hpos
        omega
    · rw [run_andThen_ok hzrun]
      try simp only [pure_bind]
      simp [newRow, newObj, Sem.run]
  · rw [hnl]
    refine tabCells_of_flat hfits rfl rfl (by simp) (by simp only [Array.size_map, Array.size_range, hkl]; exact Nat.le_refl _) fun j u hu => ?_
    have hj : j < n * ks.length := by
      have := (List.getElem?_eq_some_iff.1 hu).1
      rw [flatR_length, List.length_replicate] at this
      exact this
    rw [flatR_rep n j hj] at hu
    have hkp : 0 < ks.length := by omega
    have hjm : j % ks.length < ks.length := Nat.mod_lt _ hkp
    obtain ⟨m, q1, q2, q3⟩ := e3 (j % ks.length) _ (List.getElem?_eq_getElem hjm) (by rw [hzl, hsz, ← hkl]; exact hjm)
    rw [rowV_get ks zs _ (List.getElem?_eq_getElem hjm) q1] at hu
    injection hu with hu
    subst hu
    rw [hkl] at hj
    simp only [Array.getElem?_map, Array.getElem?_range, hj, if_true, Option.map_some]
    rw [hzvs]
    have hlt : j % i.size < zv.cells.size := by rw [hzvs]; exact Nat.mod_lt _ hpos
    rw [getElem!_pos zv.cells _ hlt]
    rw [← q3, Array.getElem?_toList]
    simp only [hkl]
    rw [Array.getElem?_eq_getElem hlt]
  · refine RS_one (x := .ts nid (.lit 0) l.toSN none) ⟨_, hnid, ?_, ?_, ?_⟩
    · rw [hnl]; omega
    · rw [hnl]; simp [tsCap, SN.val]
    · rw [hnl]; simp [tsCap, SN.val]

theorem vbuiltin_sound {b : Builtin} {argTypes : Array TypeId} {type : TypeId} {consts : Array Bool} {args : List SV} {vargs : Array Value} {e : Eff A}
    {hp : HP A} (hrun : (vbuiltin (A := A) P b argTypes args hp nid).run = some e) (ha : F2 (RS ρ) args vargs.toList) (h : HR S B Z ρ F H w)
    (hag : ∀ b, b ∈ e.rd ∨ b ∈ e.asg.map (·.1) → H b = hget hp b) (hz : ∀ b, nid ≤ b → b < e.nid → Z b) :
    nid ≤ e.nid ∧ Lands P ((builtin b argTypes type consts vargs).run P w) (Done S B Z ρ F H w nid e) := by
  unfold vbuiltin at hrun
  split at hrun
  · rename_i x y
    split at hrun
    · rename_i t t' ht
      rw [Tr.run_chk] at hrun
      obtain ⟨hte, hrun⟩ := hrun
      obtain rfl := Nat.eq_of_beq_eq_true hte
      have hva : ∃ v u, vargs = #[v, u] ∧ RS ρ x v ∧ RS ρ y u := by
        obtain ⟨l⟩ := vargs
        match l, ha with
        | [v, u], ha => exact ⟨v, u, rfl, ha.1, ha.2.1⟩
        | [], ha => exact ha.elim
        | [_], ha => exact ha.2.elim
        | _ :: _ :: _ :: _, ha => exact ha.2.2.elim
      obtain ⟨v, u, rfl, hv, hu⟩ := hva
      have hta : argTypes = #[t, t] := by rw [← Array.toArray_toList (xs := argTypes), ht]
      subst hta
      exact vappend_sound hrun h hag hz hv hu
    · simp [Tr.run] at hrun
  · rename_i x
    split at hrun
    · rename_i t ht
      have hva : ∃ v, vargs = #[v] ∧ RS ρ x v := by
        obtain ⟨l⟩ := vargs
        match l, ha with
        | [v], ha => exact ⟨v, rfl, ha.1⟩
        | [], ha => exact ha.elim
        | _ :: _ :: _, ha => exact ha.2.elim
      obtain ⟨v, rfl, hv⟩ := hva
      split at hrun
      · rename_i el hu
        simp only [Tr.run_opt, Tr.run_ok] at hrun
        obtain ⟨n, hn, rfl⟩ := hrun
        obtain ⟨a, len, cap, rfl, hnv, hnk⟩ := vlen_sound hn hv
        refine ⟨Nat.le_refl _, lands_val (v := .int .i64 n.val) (w' := w) ?_ (done_pure h ⟨rfl, hnk⟩)⟩
        unfold Builtin.len_
        simp only [ht, List.getElem?_toArray, List.getElem?_cons_zero]
        rw [run_andThen_ok (run_underlying hu w)]
        simp [goInt, hnv]
      · rename_i n el hu
        simp only [Tr.run_chk, Tr.run_ok] at hrun
        obtain ⟨hle, rfl⟩ := hrun
        have hle := Nat.le_of_ble_eq_true hle
        refine ⟨Nat.le_refl _, lands_val (v := .int .i64 n) (w' := w) ?_ (done_pure h ⟨rfl, by simp only [inK, kmin, kmax, SI.val]; omega⟩)⟩
        unfold Builtin.len_
        simp only [ht, List.getElem?_toArray, List.getElem?_cons_zero]
        rw [run_andThen_ok (run_underlying hu w)]
        simp [goInt]
      · simp [Tr.run] at hrun
    · simp [Tr.run] at hrun
  · rename_i k x r
    simp only [Tr.run_bind, Tr.run_ok] at hrun
    obtain ⟨u, hu, rfl⟩ := hrun
    obtain ⟨l⟩ := vargs
    match l, ha with
    | v :: l, ha =>
      obtain ⟨hv, hl⟩ := ha
      obtain ⟨rfl, hkx⟩ : v = .int k x.val ∧ inK k x.val := hv
      obtain ⟨z, hz, hr⟩ := mmFold_sound (P := P) (w := w) hkx hu hl
      refine ⟨Nat.le_refl _, lands_val (v := z) (w' := w) ?_ (done_pure h hr)⟩
      exact hz
    | [], ha => exact ha.elim
  · rename_i k x r
    simp only [Tr.run_bind, Tr.run_ok] at hrun
    obtain ⟨u, hu, rfl⟩ := hrun
    obtain ⟨l⟩ := vargs
    match l, ha with
    | v :: l, ha =>
      obtain ⟨hv, hl⟩ := ha
      obtain ⟨rfl, hkx⟩ : v = .int k x.val ∧ inK k x.val := hv
      obtain ⟨z, hz, hr⟩ := mmFold_sound (P := P) (w := w) hkx hu hl
      refine ⟨Nat.le_refl _, lands_val (v := z) (w' := w) ?_ (done_pure h hr)⟩
      exact hz
    | [], ha => exact ha.elim
  · simp [Tr.run] at hrun
end
end Go.Proofs.Ytcolladpdmjloaa.Eng

/-
  The engine, part H: the law of all operations.
-/
namespace Go.Proofs.Ytcolladpdmjloaa.Eng
open Go

section
variable {A : Type} {S : Sys A} {P : Program} {B : Nat} {Z : Nat → Prop} {ρ : Rho} {F : Fm} {H : Nat → Option (VObj A)} {w : World} {nid : Nat}

def ORel (ρ : Rho) : Option SV → Option Value → Prop
  | none, none => True
  | some a, some b => RS ρ a b
  | _, _ => False
theorem wrap_i64 {n : Int} (h : -9223372036854775808 ≤ n) (h' : n < 9223372036854775808) : IntKind.i64.wrap n = n := by
  show (if (true && decide (n % (2 ^ 64 : Int) ≥ (2 ^ 63 : Int))) = true then n % (2 ^ 64 : Int) - (2 ^ 64 : Int) else n % (2 ^ 64 : Int)) = n
  have h64 : (2 ^ 64 : Int) = 18446744073709551616 := by decide
  have h63 : (2 ^ 63 : Int) = 9223372036854775808 := by decide
  rw [h64, h63]
  split
  · rename_i hc
    simp only [Bool.true_and, decide_eq_true_eq] at hc
    omega
  · rename_i hc
    simp only [Bool.true_and, decide_eq_true_eq] at hc
    omega
theorem bound_run {k : IntKind} {x y : Nat} {c : BoundsCode} (h : x ≤ y) : (Instr.sliceBound (.int k (x : Int)) y c).run P w = .ok x w := by
  unfold Instr.sliceBound asIntOf
  simp only [pure_bind]
  rw [if_pos (by constructor <;> omega)]
  simp
theorem vslice_sound {ty : TypeId} {x : SV} {lo hi : Option SV} {r : VV} {rd : List Nat} {u : Value} {ul uh : Option Value} (hrun : (vslice P ty x lo hi).run = some (r, rd)) (hx : RS ρ x u)
    (hlo : ORel ρ lo ul) (hhi : ORel ρ hi uh) :
    rd = [] ∧ ∃ v, (Instr.sliceAt ty u ul uh none).run P w = .ok v w ∧ RV ρ r v := by
  unfold vslice at hrun
  split at hrun
  · rename_i b off len cap
    obtain ⟨p, hp, rfl⟩ := hx
    split at hrun
    · rename_i e hu
      simp only [Tr.run_chk, Tr.run_opt, Tr.run_ok, Bool.and_eq_true, decide_eq_true_eq] at hrun
      obtain ⟨hk, h, hh, l, hl, ⟨hb1, hb2⟩, he⟩ := hrun
      injection he with h1 h2
      subst h1 h2
      refine ⟨rfl, .slice (some ⟨p.blk, (if cap = l then off else off + l * P.cellsOf e), none⟩) (h - l) (cap - l), ?_, p, hp, rfl⟩
      have hH : (uh = none ∧ h = len) ∨ ∃ k, uh = some (.int k (h : Int)) := by
        cases hi with
        | none =>
          cases uh with
          | none => injection hh with hh; exact .inl ⟨rfl, hh.symm⟩
          | some _ => exact hhi.elim
        | some a =>
          cases uh with
          | none => exact hhi.elim
          | some v =>
            obtain ⟨k, rfl⟩ := intLit_sound (ρ := ρ) hh hhi
            exact .inr ⟨k, rfl⟩
      have hL : (ul = none ∧ l = 0) ∨ ∃ k, ul = some (.int k (l : Int)) := by
        cases lo with
        | none =>
          cases ul with
          | none => injection hl with hl; exact .inl ⟨rfl, hl.symm⟩
          | some _ => exact hlo.elim
        | some a =>
          cases ul with
          | none => exact hlo.elim
          | some v =>
            obtain ⟨k, rfl⟩ := intLit_sound (ρ := ρ) hl hlo
            exact .inr ⟨k, rfl⟩
      unfold Instr.sliceAt
      rw [run_andThen_ok (run_underlying hu w)]
      simp only
      unfold Instr.slice
      rw [run_andThen_ok (run_underlying hu w)]
      simp only
      have hB : (Instr.sliceBounds true len cap ul uh none).run P w = .ok (l, h, cap) w := by
        unfold Instr.sliceBounds
        simp only [pure_bind, if_true, Option.isSome_none, Bool.false_eq_true, if_false]
        rcases hH with ⟨rfl, rfl⟩ | ⟨k, rfl⟩ <;> rcases hL with ⟨rfl, rfl⟩ | ⟨k', rfl⟩ <;> simp only
        · rfl
        · rw [run_andThen_ok (bound_run hb2)]; rfl
        · rw [run_andThen_ok (bound_run hb1)]; rfl
        · rw [run_andThen_ok (bound_run hb1), run_andThen_ok (bound_run hb2)]; rfl
      rw [run_andThen_ok hB]
      simp only
      rw [run_andThen_ok (run_sizeOf_k hk)]
      simp only [Option.map_some, add_mk]
      by_cases hcl : cap = l
      · simp [hcl]
      · simp [hcl]
    · simp [Tr.run] at hrun
  · rename_i b off
    obtain ⟨p, hp, rfl⟩ := hx
    split at hrun
    · rename_i n e hu
      simp only [Tr.run_chk, Tr.run_opt, Tr.run_ok, Bool.and_eq_true, decide_eq_true_eq] at hrun
      obtain ⟨hk, h, hh, l, hl, ⟨hb1, hb2⟩, he⟩ := hrun
      injection he with h1 h2
      subst h1 h2
      refine ⟨rfl, .slice (some ⟨p.blk, (if n = l then off else off + l * P.cellsOf e), none⟩) (h - l) (n - l), ?_, p, hp, rfl⟩
      have hH : (uh = none ∧ h = n) ∨ ∃ k, uh = some (.int k (h : Int)) := by
        cases hi with
        | none =>
          cases uh with
          | none => injection hh with hh; exact .inl ⟨rfl, hh.symm⟩
          | some _ => exact hhi.elim
        | some a =>
          cases uh with
          | none => exact hhi.elim
          | some v =>
            obtain ⟨k, rfl⟩ := intLit_sound (ρ := ρ) hh hhi
            exact .inr ⟨k, rfl⟩
      have hL : (ul = none ∧ l = 0) ∨ ∃ k, ul = some (.int k (l : Int)) := by
        cases lo with
        | none =>
          cases ul with
          | none => injection hl with hl; exact .inl ⟨rfl, hl.symm⟩
          | some _ => exact hlo.elim
        | some a =>
          cases ul with
          | none => exact hlo.elim
          | some v =>
            obtain ⟨k, rfl⟩ := intLit_sound (ρ := ρ) hl hlo
            exact .inr ⟨k, rfl⟩
      unfold Instr.sliceAt
      rw [run_andThen_ok (run_underlying hu w)]
      simp only
      have hA : (Instr.sureAddr (.pointer (some ⟨p.blk, off, none⟩))).run P w = .ok ⟨p.blk, off, none⟩ w := rfl
      rw [run_andThen_ok hA]
      have hB : (Instr.sliceBounds false n n ul uh none).run P w = .ok (l, h, n) w := by
        unfold Instr.sliceBounds
        simp only [pure_bind, if_true, Option.isSome_none, Bool.false_eq_true, if_false]
        rcases hH with ⟨rfl, rfl⟩ | ⟨k, rfl⟩ <;> rcases hL with ⟨rfl, rfl⟩ | ⟨k', rfl⟩ <;> simp only
        · rfl
        · rw [run_andThen_ok (bound_run hb2)]; rfl
        · rw [run_andThen_ok (bound_run hb1)]; rfl
        · rw [run_andThen_ok (bound_run hb1), run_andThen_ok (bound_run hb2)]; rfl
      rw [run_andThen_ok hB]
      simp only
      rw [run_andThen_ok (run_sizeOf_k hk)]
      simp only [Option.map_some, add_mk]
      by_cases hcl : n = l
      · simp [hcl]
      · simp [hcl]
    · simp [Tr.run] at hrun
  · simp [Tr.run] at hrun

theorem vslice3_sound {ty : TypeId} {x : SV} {lo hi : Option SV} {mx : SV} {r : VV} {rd : List Nat} {u um : Value} {ul uh : Option Value} (hrun : (vslice3 P ty x lo hi (some mx)).run = some (r, rd)) (hx : RS ρ x u)
    (hlo : ORel ρ lo ul) (hhi : ORel ρ hi uh) (hmx : RS ρ mx um) :
    rd = [] ∧ ∃ v, (Instr.sliceAt ty u ul uh (some um)).run P w = .ok v w ∧ RV ρ r v := by
  unfold vslice3 at hrun
  split at hrun
  · rename_i b off len cap
    obtain ⟨p, hp, rfl⟩ := hx
    split at hrun
    · rename_i e hu
      simp only [Tr.run_chk, Tr.run_opt, Tr.run_ok, Bool.and_eq_true, decide_eq_true_eq] at hrun
      obtain ⟨hk, m, hm, h, hh, l, hl, ⟨⟨hb0, hb1⟩, hb2⟩, he⟩ := hrun
      injection he with h1 h2
      subst h1 h2
      refine ⟨rfl, .slice (some ⟨p.blk, (if m = l then off else off + l * P.cellsOf e), none⟩) (h - l) (m - l), ?_, p, hp, rfl⟩
      obtain ⟨km, rfl⟩ := intLit_sound (ρ := ρ) hm hmx
      have hH : ∃ k, uh = some (.int k (h : Int)) := by
        cases hi with
        | none => cases hh
        | some a =>
          cases uh with
          | none => exact hhi.elim
          | some v =>
            obtain ⟨k, rfl⟩ := intLit_sound (ρ := ρ) hh hhi
            exact ⟨k, rfl⟩
      have hL : (ul = none ∧ l = 0) ∨ ∃ k, ul = some (.int k (l : Int)) := by
        cases lo with
        | none =>
          cases ul with
          | none => injection hl with hl; exact .inl ⟨rfl, hl.symm⟩
          | some _ => exact hlo.elim
        | some a =>
          cases ul with
          | none => exact hlo.elim
          | some v =>
            obtain ⟨k, rfl⟩ := intLit_sound (ρ := ρ) hl hlo
            exact .inr ⟨k, rfl⟩
      obtain ⟨kh, rfl⟩ := hH
      unfold Instr.sliceAt
      rw [run_andThen_ok (run_underlying hu w)]
      simp only
      unfold Instr.slice
      rw [run_andThen_ok (run_underlying hu w)]
      simp only
      have hB : (Instr.sliceBounds true len cap ul (some (.int kh h)) (some (.int km m))).run P w = .ok (l, h, m) w := by
        unfold Instr.sliceBounds
        simp only [if_true, Option.isSome_some]
        rw [run_andThen_ok (bound_run hb0), run_andThen_ok (bound_run hb1)]
        rcases hL with ⟨rfl, rfl⟩ | ⟨k', rfl⟩ <;> simp only
        · rfl
        · rw [run_andThen_ok (bound_run hb2)]; rfl
      rw [run_andThen_ok hB]
      simp only
      rw [run_andThen_ok (run_sizeOf_k hk)]
      simp only [Option.map_some, add_mk]
      by_cases hcl : m = l
      · simp [hcl]
      · simp [hcl]
    · simp [Tr.run] at hrun
  · simp [Tr.run] at hrun

theorem sbound_spec {d n : SI} {o : Option SV} {u : Option Value} (h : sbound d o = some n) (ho : ORel ρ o u) : (o = none ∧ u = none ∧ n = d) ∨ (o.isSome = true ∧ n.val ≤ 9223372036854775807 ∧ ∃ k, u = some (.int k n.val)) := by
  unfold sbound at h
  split at h
  · injection h with h
    cases u with
    | none => exact .inl ⟨rfl, rfl, h.symm⟩
    | some _ => exact ho.elim
  · injection h with h
    cases u with
    | none => exact ho.elim
    | some v =>
      obtain ⟨hv, hk⟩ := ho
      rw [h] at hk
      exact .inr ⟨rfl, hk.2, _, by rw [hv, h]⟩
  · cases h

theorem vsliceT_sound {hp : HP A} {ty : TypeId} {b : Nat} {r len : SN} {cap : Option SN} {lo hi mx : Option SV} {res : VV} {rd : List Nat} {u : Value} {ul uh um : Option Value}
    (hrun : (vsliceT P hp ty b r len cap lo hi mx).run = some (res, rd)) (h : HR S B Z ρ F H w) (hag : ∀ b, b ∈ rd → H b = hget hp b) (hx : RV ρ (.ts b r len cap) u)
    (hlo : ORel ρ lo ul) (hhi : ORel ρ hi uh) (hmx : ORel ρ mx um) : ∃ v, (Instr.sliceAt ty u ul uh um).run P w = .ok v w ∧ RV ρ res v := by
  unfold vsliceT at hrun
  split at hrun
  · rename_i e hu
    simp only [Tr.run_opt, Tr.run_chk, Tr.run_test, Tr.run_no, and_false, or_false, Bool.and_eq_true, val_sle, val_slt, decide_eq_true_eq] at hrun
    obtain ⟨⟨ks, xs⟩, ht, ⟨⟨hk, hks⟩, hmh⟩, sh, hsh, sl, hsl, sc, hsc, t1, t2, t3, t4, hrun⟩ := hrun
    have hbrd : b ∈ rd := by
      rcases hrun with ⟨_, he⟩ | ⟨_, he⟩ <;> (rw [Tr.run_ok] at he; injection he with _ he; rw [← he]; simp)
    obtain ⟨p, hp', hle, hcap, rfl⟩ := hx
    obtain ⟨q, hq, hqs, _⟩ := tab_live h (hag b hbrd) ht
    rw [hp'] at hq
    injection hq with hq
    subst hq
    have hsz : p.sz = P.cellsOf e := by rw [hqs, hks]
    obtain ⟨L, hL⟩ := Int.eq_ofNat_of_zero_le t1
    obtain ⟨Hh, hHh⟩ := Int.eq_ofNat_of_zero_le (Int.le_trans t1 t2)
    obtain ⟨C, hC⟩ := Int.eq_ofNat_of_zero_le (Int.le_trans (Int.le_trans t1 t2) t3)
    rw [hL, hHh] at t2
    rw [hHh, hC] at t3
    rw [hC] at t4
    have vl : sl.toSN.val = L := by rw [val_toSN, hL]; rfl
    have vh : sh.toSN.val = Hh := by rw [val_toSN, hHh]; rfl
    have vc : sc.toSN.val = C := by rw [val_toSN, hC]; rfl
    -- the bound in the model
    obtain ⟨M, hM1, hM2, hM3, hM4⟩ : ∃ M : Nat, C ≤ M ∧ (mx = none → M = tsCap p r cap) ∧ (mx.isSome = true → M = C) ∧ M ≤ tsCap p r cap := by
      have hCc : C ≤ tsCap p r cap := by
        cases cap with
        | some c => simp only [val_toSI, tsCap] at t4 ⊢; omega
        | none => simp only [val_toSI] at t4; omega
      cases mx with
      | none => exact ⟨tsCap p r cap, hCc, fun _ => rfl, fun h => by simp at h, Nat.le_refl _⟩
      | some m => exact ⟨C, Nat.le_refl _, fun h => by simp at h, fun _ => rfl, hCc⟩
    have hB : (Instr.sliceBounds true len.val (tsCap p r cap) ul uh um).run P w = .ok (L, Hh, M) w := by
      rcases sbound_spec hsc hmx with ⟨rfl, rfl, hcd⟩ | ⟨hms, _, km, rfl⟩
      · have hMM := hM2 rfl
        unfold Instr.sliceBounds
        simp only [pure_bind, if_true, Option.isSome_none, Bool.false_eq_true, if_false]
        rw [← hMM]
        rcases sbound_spec hsh hhi with ⟨_, rfl, hhd⟩ | ⟨_, _, kh, rfl⟩
        · have hHl : Hh = len.val := by
            rw [hhd, val_toSI] at hHh
            omega
          rcases sbound_spec hsl hlo with ⟨_, rfl, hld⟩ | ⟨_, _, kl, rfl⟩ <;> simp only
          · have : L = 0 := by rw [hld] at hL; simp only [SI.val] at hL; omega
            rw [this, ← hHl]; rfl
          · rw [hL, ← hHl]
            rw [run_andThen_ok (bound_run (by omega))]; rfl
        · rw [hHh]
          rcases sbound_spec hsl hlo with ⟨_, rfl, hld⟩ | ⟨_, _, kl, rfl⟩ <;> simp only
          · have : L = 0 := by rw [hld] at hL; simp only [SI.val] at hL; omega
            rw [run_andThen_ok (bound_run (by omega)), this]; rfl
          · rw [hL]
            rw [run_andThen_ok (bound_run (by omega)), run_andThen_ok (bound_run (by omega))]; rfl
      · have hMM := hM3 hms
        have hhs : hi.isSome = true := by
          cases mx with
          | none => simp at hms
          | some _ => simpa using hmh
        rcases sbound_spec hsh hhi with ⟨rfl, _, _⟩ | ⟨_, _, kh, rfl⟩
        · simp at hhs
        · unfold Instr.sliceBounds
          simp only [if_true, Option.isSome_some]
          rw [hC, hHh, ← hMM]
          rw [run_andThen_ok (bound_run hM4), run_andThen_ok (bound_run (by omega))]
          rcases sbound_spec hsl hlo with ⟨_, rfl, hld⟩ | ⟨_, _, kl, rfl⟩ <;> simp only
          · have : L = 0 := by rw [hld] at hL; simp only [SI.val] at hL; omega
            rw [this]; rfl
          · rw [hL]
            rw [run_andThen_ok (bound_run (by omega))]; rfl
    have hmain : (Instr.sliceAt ty (.slice (some ⟨p.blk, p.off0 + r.val * p.sz, none⟩) len.val (tsCap p r cap)) ul uh um).run P w =
        .ok (.slice (some (if M = L then ⟨p.blk, p.off0 + r.val * p.sz, none⟩ else ⟨p.blk, p.off0 + r.val * p.sz + L * P.cellsOf e, none⟩)) (Hh - L) (M - L)) w := by
      unfold Instr.sliceAt
      rw [run_andThen_ok (run_underlying hu w)]
      simp only
      unfold Instr.slice
      rw [run_andThen_ok (run_underlying hu w)]
      simp only
      rw [run_andThen_ok hB]
      simp only
      rw [run_andThen_ok (run_sizeOf_k hk)]
      simp only [Option.map_some, add_mk]
      by_cases hcl : M = L
      · simp [hcl]
      · simp [hcl]
    refine ⟨_, hmain, ?_⟩
    rcases hrun with ⟨hlt, he⟩ | ⟨hge, he⟩
    · rw [Tr.run_ok] at he
      injection he with he _
      subst he
      rw [hL, hC] at hlt
      have hlt' : L < C := by omega
      rw [if_neg (by omega)]
      have hcap' : tsCap p (SN.op2 (fun a b => a + b) r sl.toSN) (slCap mx cap (SN.op2 (fun a b => a - b) sc.toSN sl.toSN)) = M - L := by
        cases mx with
        | some m =>
          have := hM3 rfl
          simp only [slCap, tsCap, val_sn2, vl, vc]
          omega
        | none =>
          have hm2 := hM2 rfl
          cases cap with
          | some c =>
            rcases sbound_spec hsc hmx with ⟨_, _, hcd⟩ | ⟨hms, _⟩
            · simp only [slCap, tsCap, val_sn2, vl, vc] at hm2 ⊢
              rw [hcd, val_toSI] at hC
              omega
            · simp at hms
          | none =>
            simp only [slCap, tsCap, val_sn2, vl] at hm2 ⊢
            omega
      refine ⟨p, hp', ?_, ?_, ?_⟩
      · rw [val_sn2, vl, vh]
        have hH2 : Hh ≤ 9223372036854775807 := by
          rcases sbound_spec hsh hhi with ⟨_, _, hhd⟩ | ⟨_, hb, _⟩
          · rw [hhd, val_toSI] at hHh
            omega
          · omega
        omega
      · rw [hcap', val_sn2, vl, vh]
        omega
      · rw [hcap', val_sn2, val_sn2, vl, vh, hsz, Nat.add_mul, Nat.add_assoc]
    · rw [Tr.run_ok] at he
      injection he with he _
      subst he
      have hge := of_decide_eq_false hge
      rw [hL, hC] at hge
      have e1 : Hh - L = 0 := by omega
      rw [e1]
      refine ⟨_, _, rfl, fun hf => ?_⟩
      cases mx with
      | some m =>
        have := hM3 rfl
        omega
      | none =>
        have hm2 := hM2 rfl
        cases cap with
        | some c =>
          rcases sbound_spec hsc hmx with ⟨_, _, hcd⟩ | ⟨hms, _⟩
          · simp only [tsCap] at hm2
            rw [hcd, val_toSI] at hC
            omega
          · simp at hms
        | none => cases hf
  · simp [Tr.run] at hrun

theorem vsliceA_sound {hp : HP A} {ty : TypeId} {x : SV} {lo hi mx : Option SV} {r : VV} {rd : List Nat} {u : Value} {ul uh um : Option Value}
    (hrun : (vsliceA P hp ty x lo hi mx).run = some (r, rd)) (h : HR S B Z ρ F H w) (hag : ∀ b, b ∈ rd → H b = hget hp b) (hx : RS ρ x u)
    (hlo : ORel ρ lo ul) (hhi : ORel ρ hi uh) (hmx : ORel ρ mx um) : ∃ v, (Instr.sliceAt ty u ul uh um).run P w = .ok v w ∧ RV ρ r v := by
  unfold vsliceA at hrun
  split at hrun
  · exact vsliceT_sound hrun h hag hx hlo hhi hmx
  · cases mx with
    | none =>
      cases um with
      | some _ => exact hmx.elim
      | none => exact (vslice_sound hrun hx hlo hhi).2
    | some m =>
      cases um with
      | none => exact hmx.elim
      | some v => exact (vslice3_sound hrun hx hlo hhi hmx).2

set_option maxHeartbeats 1000000 in
theorem vop_sound {call : FuncId → List SV → HP A → Nat → Tr (CR A)} (hcall : CallOK S P call)
    (hnames : ∀ (f : FuncId) fn, P.funcs[f]? = some fn → (fn.name == "runtime.NumGoroutine") = false)
    {ev : Operand → SV} {rv : Operand → Value} {hp : HP A} {o : Oper} {e : Eff A}
    (hrun : (vop P call nid ev hp o).run = some e) (hops : ∀ x ∈ o.op.operands.toList, RS ρ (ev x) (rv x)) (h : HR S B Z ρ F H w)
    (hag : ∀ b, b ∈ e.rd ∨ b ∈ e.asg.map (·.1) → H b = hget hp b) (hz : ∀ b, nid ≤ b → b < e.nid → Z b) :
    nid ≤ e.nid ∧ Lands P ((execOp rv o).run P w) (Done S B Z ρ F H w nid e) := by
  obtain ⟨dst, op, type, pos, after, guard⟩ := o
  have hpure : ∀ {v : SV} {u : Value} {s : Sem Value}, (Tr.ok ⟨v, [], [], nid⟩ : Tr (Eff A)).run = some e → s.run P w = .ok u w → RS ρ v u →
      nid ≤ e.nid ∧ Lands P ((do pure (Next.value (← s)) : Sem Next).run P w) (Done S B Z ρ F H w nid e) := fun {v u s} he hs hv => by
    rw [Tr.run_ok] at he
    subst he
    exact ⟨Nat.le_refl _, lands_val hs (done_pure h hv)⟩
  cases op
  case move x =>
    simp only [vop, Tr.run_ok] at hrun
    subst hrun
    exact ⟨Nat.le_refl _, lands_pure (done_pure h (hops x (by simp [Op.operands])))⟩
  case assign x =>
    simp only [vop, Tr.run_ok] at hrun
    subst hrun
    exact ⟨Nat.le_refl _, lands_pure (done_pure h (hops x (by simp [Op.operands])))⟩
  case pick c a b =>
    have hc := hops c (by simp [Op.operands])
    have ha := hops a (by simp [Op.operands])
    have hb := hops b (by simp [Op.operands])
    simp only [vop] at hrun
    split at hrun
    · rename_i c' hce
      rw [hce] at hc
      obtain hc : rv c = .bool c'.val := hc
      rw [Tr.run_bind] at hrun
      obtain ⟨v, hv, hrun⟩ := hrun
      rw [Tr.run_ok] at hrun
      subst hrun
      refine ⟨Nat.le_refl _, ?_⟩
      have hex : (execOp rv ⟨dst, .pick c a b, type, pos, after, guard⟩).run P w = .ok (.value (if c'.val then rv a else rv b)) w := by
        simp [execOp, hc, asBool]
      rw [hex]
      refine done_pure h ?_
      unfold pickV at hv
      split at hv
      · rw [Tr.run_ok] at hv; subst hv; simpa [SB.val] using ha
      · rw [Tr.run_ok] at hv; subst hv; simpa [SB.val] using hb
      · rename_i c0
        split at hv
        · rename_i x y hxa hyb
          rw [Tr.run_ok] at hv
          subst hv
          rw [hxa] at ha
          rw [hyb] at hb
          obtain ha : rv a = .bool x.val := ha
          obtain hb : rv b = .bool y.val := hb
          rw [ha, hb]
          cases c0 <;> rfl
        · rw [Tr.run_ite, Tr.run_ok, Tr.run_ok] at hv
          rcases hv with ⟨h1, rfl⟩ | ⟨h1, rfl⟩
          · subst h1; simpa [SB.val] using ha
          · subst h1; simpa [SB.val] using hb
    · simp [Tr.run] at hrun
  case makeMap ty r =>
    cases r with
    | none =>
      simp only [vop, Tr.run_ok] at hrun
      subst hrun
      exact ⟨Nat.le_refl _, map_sound h⟩
    | some r => simp [vop, Tr.run] at hrun
  case alloc ty =>
    simp only [vop, Tr.run_opt, Tr.run_ok] at hrun
    obtain ⟨z, hz', rfl⟩ := hrun
    exact ⟨Nat.le_succ _, alloc_sound hz' h (hz nid (Nat.le_refl _) (Nat.lt_succ_self _))⟩
  case box ty x =>
    have hx := hops x (by simp [Op.operands])
    simp only [vop] at hrun
    split at hrun
    · rename_i z hze
      rw [hze] at hx
      rw [Tr.run_ok] at hrun
      subst hrun
      exact ⟨Nat.le_succ _, box_sound hx h (hz nid (Nat.le_refl _) (Nat.lt_succ_self _))⟩
    · simp [Tr.run] at hrun
  case build ty parts =>
    have hp' : ∀ p ∈ parts.toList, RS ρ (ev p.2) (rv p.2) := fun p hp => hops p.2 (by simp [Op.operands]; exact ⟨p.1, by simpa using hp⟩)
    simp only [vop] at hrun
    split at hrun
    · rename_i z hz'
      split at hrun
      · rename_i fs hu
        rw [Tr.run_chk, Tr.run_bind] at hrun
        obtain ⟨hk, l, hl, hrun⟩ := hrun
        obtain ⟨v, hv, hr⟩ := build_sound (P := P) (w := w) hz' hu hk hl hp'
        exact hpure hrun hv hr
      · rename_i n el hu
        rw [Tr.run_chk, Tr.run_bind] at hrun
        obtain ⟨hk, l, hl, hrun⟩ := hrun
        obtain ⟨v, hv, hr⟩ := buildArr_sound (P := P) (w := w) hz' hu hk hl hp'
        exact hpure hrun hv hr
      · simp [Tr.run] at hrun
    · simp [Tr.run] at hrun
  case buildSlice ty len parts =>
    have hp' : ∀ p ∈ parts.toList, RS ρ (ev p.2) (rv p.2) := fun p hp => hops p.2 (by simp [Op.operands]; exact ⟨p.1, by simpa using hp⟩)
    simp only [vop] at hrun
    split at hrun
    · rename_i el hu
      split at hrun
      · rename_i z hz'
        simp only [Tr.run_chk, Tr.run_bind, Tr.run_ok, Bool.and_eq_true, decide_eq_true_eq] at hrun
        obtain ⟨⟨⟨⟨hk, h1⟩, h2⟩, h3⟩, l, hl, rfl⟩ := hrun
        exact ⟨Nat.le_succ _, buildSlice_sound hu hz' hk h1 h2 h3 hl hp' h (hz nid (Nat.le_refl _) (Nat.lt_succ_self _))⟩
      · simp [Tr.run] at hrun
    · simp [Tr.run] at hrun
  case load ty x =>
    have hx := hops x (by simp [Op.operands])
    simp only [vop] at hrun
    split at hrun
    · rename_i x' hxe
      rw [hxe] at hx
      rw [Tr.run_bind] at hrun
      obtain ⟨⟨v, b⟩, hl, hrun⟩ := hrun
      rw [Tr.run_ok] at hrun
      subst hrun
      obtain ⟨u, hu, hr⟩ := vload_sound hl h (hag b (.inl (by simp))) hx
      exact ⟨Nat.le_refl _, lands_val hu (done_pure h hr)⟩
    · simp [Tr.run] at hrun
  case store ty x y =>
    have hx := hops x (by simp [Op.operands])
    have hy := hops y (by simp [Op.operands])
    simp only [vop] at hrun
    split at hrun
    · rename_i x' y' hxe hye
      rw [hxe] at hx
      rw [hye] at hy
      simp only [Tr.run_chk, Tr.run_bind, Tr.run_ok, Bool.and_eq_true, decide_eq_true_eq] at hrun
      obtain ⟨⟨hk, hn⟩, ⟨b, o'⟩, hs, rfl⟩ := hrun
      exact ⟨Nat.le_refl _, store_sound hk hn hs h (hag b (.inl (by simp))) hx hy⟩
    · simp [Tr.run] at hrun
  case nilCheck x =>
    have hx := hops x (by simp [Op.operands])
    simp only [vop] at hrun
    split at hrun
    · rename_i b off hxe
      rw [hxe] at hx
      rw [Tr.run_ok] at hrun
      subst hrun
      obtain ⟨p, hp', hv⟩ := id hx
      refine ⟨Nat.le_refl _, ?_⟩
      simp only [execOp, hv]
      exact done_pure h (by rw [← hv]; exact hx)
    · rename_i b r c hxe
      rw [hxe] at hx
      rw [Tr.run_ok] at hrun
      subst hrun
      obtain ⟨p, hp', hv⟩ := id hx
      refine ⟨Nat.le_refl _, ?_⟩
      simp only [execOp, hv]
      exact done_pure h (by rw [← hv]; exact hx)
    · rename_i f a c hxe
      rw [hxe] at hx
      rw [Tr.run_ok] at hrun
      subst hrun
      obtain ⟨va, vc, _, _, hv⟩ := id hx
      refine ⟨Nat.le_refl _, ?_⟩
      simp only [execOp, hv]
      exact done_pure h (by rw [← hv]; exact hx)
    · simp [Tr.run] at hrun
  case binOp op ty x y yt =>
    have hx := hops x (by simp [Op.operands])
    have hy := hops y (by simp [Op.operands])
    simp only [vop, Tr.run_bind] at hrun
    obtain ⟨v, hv, hrun⟩ := hrun
    obtain ⟨z, hz', hr⟩ := vbin_sound (P := P) (w := w) x y hv hx hy
    exact hpure hrun hz' hr
  case unOp op xt x =>
    have hx := hops x (by simp [Op.operands])
    simp only [vop] at hrun
    split at hrun
    · rename_i b hxe
      rw [hxe] at hx
      obtain hx : rv x = .bool b.val := hx
      exact hpure (u := .bool (!b.val)) hrun (by rw [hx]; rfl) (by simp [RS, R1, RV, val_not])
    · rename_i k n hxe
      rw [hxe] at hx
      obtain ⟨hx, _⟩ : rv x = .int k n.val ∧ inK k n.val := hx
      exact hpure (u := .int k (k.wrap (0 - n.val))) hrun (by rw [hx]; rfl) (by simp only [RS, R1, RV, val_op1]; exact ⟨trivial, wrap_inK _ _⟩)
    · rename_i k n hxe
      rw [hxe] at hx
      obtain ⟨hx, _⟩ : rv x = .int k n.val ∧ inK k n.val := hx
      exact hpure (u := .int k (ixor k (if k.signed then -1 else k.max) n.val)) hrun (by rw [hx]; rfl) (by simp only [RS, R1, RV, val_op1]; exact ⟨trivial, wrap_inK _ _⟩)
    · simp [Tr.run] at hrun
  case convert src dst x =>
    have hx := hops x (by simp [Op.operands])
    simp only [vop] at hrun
    split at hrun
    · rename_i d k k' n hs hd hxe
      rw [hxe] at hx
      obtain ⟨hx, _⟩ : rv x = .int k' n.val ∧ inK k' n.val := hx
      refine hpure (u := .int k (k.wrap n.val)) hrun ?_ (by simp only [RS, R1, RV, val_op1]; exact ⟨trivial, wrap_inK _ _⟩)
      rw [hx]
      unfold convert
      rw [run_andThen_ok (run_underlying hs w), run_andThen_ok (run_underlying hd w)]
      rfl
    · simp [Tr.run] at hrun
  case makeFunc fn first caps =>
    simp only [vop] at hrun
    split at hrun
    · rename_i f
      simp only [Tr.run_opt] at hrun
      obtain ⟨a, ha, b, hb, hrun⟩ := hrun
      have h1 := ptrs_sound ha (args_RS first fun x hx => hops x (by simp [Op.operands]; exact .inl (by simpa using hx)))
      have h2 := ptrs_sound hb (args_RS caps fun x hx => hops x (by simp [Op.operands]; exact .inr (by simpa using hx)))
      exact hpure (u := .func (.func f) (first.map rv) (caps.map rv)) hrun rfl ⟨_, _, h1, h2, by simp only [Array.toArray_toList]⟩
    · simp [Tr.run] at hrun
  case makeSlice ty len cap =>
    have hl := hops len (by simp [Op.operands])
    have hc := hops cap (by simp [Op.operands])
    simp only [vop] at hrun
    split at hrun
    · rename_i el hu
      rw [Tr.run_opt] at hrun
      obtain ⟨z, hz', hrun⟩ := hrun
      split at hrun
      · rename_i ks hks
        have hks := colsM_cols hks
        split at hrun
        · rename_i kl l kc c i zs hle hce hi hzs
          rw [hle] at hl
          rw [hce] at hc
          obtain ⟨hl, _⟩ : rv len = .int kl l.val ∧ inK kl l.val := hl
          obtain ⟨hc, _⟩ : rv cap = .int kc c.val ∧ inK kc c.val := hc
          simp only [Tr.run_chk, Tr.run_test, Tr.run_no, and_false, or_false, Bool.and_eq_true, val_sle, val_cmp, val_fit, val_toSN, Tr.run_ok, decide_eq_true_eq] at hrun
          obtain ⟨⟨⟨h1, h2⟩, h3⟩, t1, t2, t3, rfl⟩ := hrun
          refine ⟨Nat.le_succ _, ?_⟩
          have hex : execOp rv ⟨dst, .makeSlice ty len cap, type, pos, after, guard⟩ = (do pure (Next.value (← Instr.makeSlice ty (.int kl l.val) (.int kc c.val))) : Sem Next) := by
            simp only [execOp, hl, hc]
          rw [hex]
          have := make_sound (k := kl) (k' := kc) hu hi hz' hks hzs (Nat.eq_of_beq_eq_true h1) (by simpa using h2) (by simpa using h3) t1 (by simpa using t2) (Nat.le_of_ble_eq_true t3) h (hz nid (Nat.le_refl _) (Nat.lt_succ_self _))
          rw [val_toSN] at this
          exact this
        · simp [Tr.run] at hrun
      · split at hrun
        · rename_i l c hle hce
          simp only [Tr.run_chk, Tr.run_ok, Bool.and_eq_true, decide_eq_true_eq] at hrun
          obtain ⟨⟨⟨⟨h1, h2⟩, h3⟩, h4⟩, rfl⟩ := hrun
          obtain ⟨k, hlv⟩ := intLit_sound hle hl
          obtain ⟨k', hcv⟩ := intLit_sound hce hc
          obtain ⟨zv, hzr, hzv⟩ := zeroS_spec hz'
          have hzc := R1.cells (hzv ρ)
          have hrep := repeatL_get hzc h3 c
          refine ⟨Nat.le_succ _, lands_val (v := .slice (some ⟨w.heap.size, 0, none⟩) l c) (w' := w.alloc (.cells _ el)) ?_
            (done_new h (hz nid (Nat.le_refl _) (Nat.lt_succ_self _)) hrep fun ρ' _ hn => ⟨_, hn, rfl⟩)⟩
          have hke : known P el = true := by
            unfold known
            unfold zeroS at hz'
            cases hi : P.info? el with
            | none => simp [hi] at hz'
            | some i => rfl
          obtain ⟨ti, hti⟩ := Option.isSome_iff_exists.1 hke
          have hby : ti.bytes = P.bytesOf el := by simp [Program.bytesOf, hti]
          have hzs : zv.cells.size = P.cellsOf el := by rw [← Array.length_toList, ← hzc.length, h3]
          have w1 : IntKind.i64.wrap (l : Int) = l := wrap_i64 (by omega) (by omega)
          have w2 : IntKind.i64.wrap (c : Int) = c := wrap_i64 (by omega) (by omega)
          have hbn : (ti.bytes : Int) * c ≤ 2 ^ 48 := by
            have : ti.bytes * c ≤ 4096 * 4096 := Nat.mul_le_mul (by omega) h2
            omega
          unfold Instr.makeSlice
          rw [run_andThen_ok (run_underlying hu w)]
          simp only [hlv, hcv]
          have as1 : ∀ (k : IntKind) (n : Int), (asInt (.int k n)).run P w = .ok n w := fun _ _ => rfl
          rw [run_andThen_ok (as1 _ _), run_andThen_ok (as1 _ _), run_andThen_ok (run_typeInfo w hti)]
          simp only [w1, w2]
          have hno : ((decide ((c : Int) < 0) || decide ((ti.bytes : Int) * c > 2 ^ 48)) || decide ((l : Int) < 0) || decide ((l : Int) > c)) = false := by
            simp only [Bool.or_eq_false_iff, decide_eq_false_iff_not]
            refine ⟨⟨⟨?_, ?_⟩, ?_⟩, ?_⟩ <;> omega
          rw [if_neg (by rw [hno]; simp)]
          try simp only [pure_bind]
          try simp only [Int.toNat_natCast]
          rw [run_andThen_ok (run_askRoom P w _), run_andThen_ok (run_sizeOf_k hke)]
          have hcells : (Array.range (c * P.cellsOf el)).map (fun x => zv.cells[x % zv.cells.size]!) = ((List.range (c * P.cellsOf el)).map fun i => zv.cells[i % P.cellsOf el]!).toArray := by
            apply Array.ext'
            rw [Array.toList_map, Array.toList_range, hzs]
          split
          · rename_i h00
            have : (Array.range (c * P.cellsOf el)).map (fun x => (#[] : Array Value)[x % (#[] : Array Value).size]!) = ((List.range (c * P.cellsOf el)).map fun i => zv.cells[i % P.cellsOf el]!).toArray := by
              rw [h00]; simp
            try simp only [pure_bind]
            rw [this]
            simp [newRow, newObj, Sem.run]
          · rw [run_andThen_ok (hzr w)]
            try simp only [pure_bind]
            rw [hcells]
            simp [newRow, newObj, Sem.run]
        · simp [Tr.run] at hrun
    · simp [Tr.run] at hrun
  case slice ty x lo hi mx =>
    have hx := hops x (by simp [Op.operands])
    simp only [vop, Tr.run_bind] at hrun
    obtain ⟨⟨r, rd⟩, hs, hrun⟩ := hrun
    rw [Tr.run_ok] at hrun
    subst hrun
    obtain ⟨v, hv, hr⟩ := vsliceA_sound (P := P) (w := w) (ul := lo.map rv) (uh := hi.map rv) (um := mx.map rv) hs h (fun b hb => hag b (.inl hb)) hx
      (by cases lo with
        | none => trivial
        | some a => exact hops a (by simp [Op.operands]))
      (by cases hi with
        | none => trivial
        | some a => exact hops a (by simp [Op.operands]))
      (by cases mx with
        | none => trivial
        | some a => exact hops a (by simp [Op.operands]))
    exact ⟨Nat.le_refl _, lands_val hv (done_pure h hr)⟩
  case fieldAddr ty x f =>
    have hx := hops x (by simp [Op.operands])
    simp only [vop] at hrun
    split at hrun
    · rename_i fs hu
      simp only [Tr.run_opt, Tr.run_chk, Bool.and_eq_true, decide_eq_true_eq] at hrun
      obtain ⟨fd, hf, ⟨hk, h0⟩, hrun⟩ := hrun
      have hgo : ∀ a : Addr, rv x = .pointer (some a) → (Instr.fieldAt ty (rv x) f).run P w = .ok (.pointer (some (a.add fd.offset))) w := fun a ha => by
        unfold Instr.fieldAt
        rw [run_andThen_ok (run_underlying hu w)]
        simp only [hf]
        rw [ha]
        unfold Instr.sureAddr
        simp only [pure_bind]
        rw [run_andThen_ok (fieldPlace_run hk h0)]
        rfl
      split at hrun
      · rename_i b off hxe
        rw [hxe] at hx
        obtain ⟨p, hp', hv⟩ := hx
        exact hpure hrun (hgo _ hv) ⟨p, hp', by rw [add_mk]⟩
      · rename_i b r c hxe
        rw [hxe] at hx
        obtain ⟨p, hp', hv⟩ := hx
        exact hpure hrun (hgo _ hv) ⟨p, hp', by rw [add_mk, Nat.add_assoc]⟩
      · simp [Tr.run] at hrun
    · simp [Tr.run] at hrun
  case field ty x f =>
    have hx := hops x (by simp [Op.operands])
    simp only [vop] at hrun
    split at hrun
    · rename_i fs l hu hxe
      rw [hxe] at hx
      simp only [Tr.run_opt] at hrun
      obtain ⟨fd, hf, r, hr, hrun⟩ := hrun
      obtain ⟨cs, hv, hl⟩ := hx
      obtain ⟨v, hv', hr'⟩ := run_part (P := P) (w := w) hr hl
      refine hpure hrun ?_ hr'
      unfold Instr.field
      rw [run_andThen_ok (run_underlying hu w)]
      simp only [hf, hv]
      exact hv'
    · simp [Tr.run] at hrun
  case indexAddr ty x i =>
    have hx := hops x (by simp [Op.operands])
    have hi := hops i (by simp [Op.operands])
    simp only [vop] at hrun
    split at hrun
    · rename_i k ix hie
      rw [hie] at hi
      obtain ⟨hi, _⟩ : rv i = .int k ix.val ∧ inK k ix.val := hi
      split at hrun
      · rename_i n el b off hu hxe
        rw [hxe] at hx
        rw [Tr.run_chk] at hrun
        obtain ⟨hk, hrun⟩ := hrun
        obtain ⟨j, hj, hlt, hrun⟩ := atIdx_sound hrun
        obtain ⟨p, hp', hv⟩ := hx
        refine hpure (u := .pointer (some ⟨p.blk, off + j * P.cellsOf el, none⟩)) hrun ?_ ⟨p, hp', rfl⟩
        unfold Instr.indexAt
        rw [hi, hv]
        have as1 : (asIntOf (.int k ix.val)).run P w = .ok (k, ix.val) w := rfl
        rw [run_andThen_ok as1]
        simp only
        rw [run_andThen_ok (run_underlying hu w)]
        simp only [Instr.sureAddr, pure_bind]
        rw [run_andThen_ok (run_underlying hu w)]
        simp only [hj]
        rw [if_pos (by constructor <;> omega)]
        rw [run_andThen_ok (run_sizeOf_k hk)]
        simp [add_mk]
      · rename_i el b off len cap hu hxe
        rw [hxe] at hx
        rw [Tr.run_chk] at hrun
        obtain ⟨hk, hrun⟩ := hrun
        obtain ⟨j, hj, hlt, hrun⟩ := atIdx_sound hrun
        obtain ⟨p, hp', hv⟩ := hx
        refine hpure (u := .pointer (some ⟨p.blk, off + j * P.cellsOf el, none⟩)) hrun ?_ ⟨p, hp', rfl⟩
        unfold Instr.indexAt
        rw [hi, hv]
        have as1 : (asIntOf (.int k ix.val)).run P w = .ok (k, ix.val) w := rfl
        rw [run_andThen_ok as1]
        simp only
        rw [run_andThen_ok (run_underlying hu w)]
        simp only [pure_bind]
        rw [run_andThen_ok (run_underlying hu w)]
        simp only [hj]
        rw [if_pos (by constructor <;> omega)]
        rw [run_andThen_ok (run_sizeOf_k hk)]
        simp [add_mk]
      · rename_i el b r len cap hu hxe
        rw [hxe] at hx
        rw [Tr.run_opt] at hrun
        obtain ⟨⟨ks, xs⟩, ht, hrun⟩ := hrun
        rw [Tr.run_chk, Tr.run_ite] at hrun
        obtain ⟨hk, ⟨hb, he⟩ | ⟨_, he⟩⟩ := hrun
        · rw [Tr.run_ok] at he
          subst he
          simp only [Bool.and_eq_true, decide_eq_true_eq] at hk hb
          obtain ⟨p, hp', hle, hcap, hv⟩ := hx
          obtain ⟨q, hq, hqs, _⟩ := tab_live h (hag b (.inl (by simp))) ht
          rw [hp'] at hq
          injection hq with hq
          subst hq
          obtain ⟨j, hj⟩ := Int.eq_ofNat_of_zero_le hb.1
          have hjs : ix.toSN.val = j := by
            cases ix with
            | lit a => simp only [SI.val] at hj; subst hj; rfl
            | sym a => simp only [SI.val] at hj; subst hj; rfl
          have hsz : p.sz = P.cellsOf el := by rw [hqs, hk.2]
          have hval : (SN.op2 (fun a b => a + b) r ix.toSN).val = r.val + j := by
            rw [← hjs]
            cases r <;> cases ix.toSN <;> rfl
          refine ⟨Nat.le_refl _, lands_val (v := .pointer (some ⟨p.blk, p.off0 + r.val * p.sz + j * P.cellsOf el, none⟩)) ?_ (done_pure h (RS_one (x := .tptr b (SN.op2 (fun a b => a + b) r ix.toSN) 0) ⟨p, hp', ?_⟩))⟩
          · unfold Instr.indexAt
            rw [hi, hv]
            have as1 : (asIntOf (.int k ix.val)).run P w = .ok (k, ix.val) w := rfl
            rw [run_andThen_ok as1]
            simp only
            rw [run_andThen_ok (run_underlying hu w)]
            simp only [pure_bind]
            rw [run_andThen_ok (run_underlying hu w)]
            simp only [hj]
            rw [if_pos (by constructor <;> omega)]
            rw [run_andThen_ok (run_sizeOf_k hk.1)]
            simp [add_mk]
          · rw [hval, hsz, Nat.add_mul]
            congr 3
            omega
        · cases he
      · rename_i el b len hu hxe
        rw [hxe] at hx
        rw [Tr.run_opt] at hrun
        obtain ⟨⟨ks, xs⟩, ht, hrun⟩ := hrun
        rw [Tr.run_chk, Tr.run_ite] at hrun
        obtain ⟨hk, ⟨hb, he⟩ | ⟨_, he⟩⟩ := hrun
        · rw [Tr.run_ok] at he
          subst he
          simp only [Bool.and_eq_true, decide_eq_true_eq] at hk hb
          obtain ⟨o, cap, hv, hle, hn, hpos⟩ := hx
          obtain ⟨p, hp', rfl⟩ := hpos (by omega)
          obtain ⟨q, hq, hqs, _⟩ := tab_live h (hag b (.inl (by simp))) ht
          rw [hp'] at hq
          injection hq with hq
          subst hq
          obtain ⟨j, hj⟩ := Int.eq_ofNat_of_zero_le hb.1
          have hjs : ix.toSN.val = j := by
            cases ix with
            | lit a => simp only [SI.val] at hj; subst hj; rfl
            | sym a => simp only [SI.val] at hj; subst hj; rfl
          have hsz : p.sz = P.cellsOf el := by rw [hqs, hk.2]
          refine ⟨Nat.le_refl _, lands_val (v := .pointer (some ⟨p.blk, p.off0 + j * P.cellsOf el, none⟩)) ?_ (done_pure h (RS_one (x := .tptr b ix.toSN 0) ⟨p, hp', ?_⟩))⟩
          · unfold Instr.indexAt
            rw [hi, hv]
            have as1 : (asIntOf (.int k ix.val)).run P w = .ok (k, ix.val) w := rfl
            rw [run_andThen_ok as1]
            simp only
            rw [run_andThen_ok (run_underlying hu w)]
            simp only [pure_bind]
            rw [run_andThen_ok (run_underlying hu w)]
            simp only [hj]
            rw [if_pos (by constructor <;> omega)]
            rw [run_andThen_ok (run_sizeOf_k hk.1)]
            simp [add_mk]
          · rw [hjs, hsz]
            rfl
        · cases he
      · simp [Tr.run] at hrun
    · simp [Tr.run] at hrun
  case index ty x i =>
    have hx := hops x (by simp [Op.operands])
    have hi := hops i (by simp [Op.operands])
    simp only [vop] at hrun
    split at hrun
    · rename_i k ix hie
      rw [hie] at hi
      obtain ⟨hi, _⟩ : rv i = .int k ix.val ∧ inK k ix.val := hi
      split at hrun
      · rename_i n el l hu hxe
        rw [hxe] at hx
        obtain ⟨j, hj, hlt, hrun⟩ := atIdx_sound hrun
        rw [Tr.run_opt] at hrun
        obtain ⟨r, hr, hrun⟩ := hrun
        obtain ⟨cs, hv, hl⟩ := hx
        obtain ⟨v, hv', hr'⟩ := run_part (P := P) (w := w) hr hl
        refine hpure hrun ?_ hr'
        unfold Instr.index
        rw [hi, hv]
        have as1 : (asIntOf (.int k ix.val)).run P w = .ok (k, ix.val) w := rfl
        rw [run_andThen_ok as1]
        simp only
        rw [run_andThen_ok (run_underlying hu w)]
        simp only [hj]
        rw [if_pos (by constructor <;> omega)]
        have hke : known P el = true := by
          unfold partS at hr
          cases hk : aggK P el with
          | none => simp [hk] at hr
          | some bb => obtain ⟨d, hd⟩ := aggK_underlying hk; exact known_of_underlying hd
        rw [run_andThen_ok (run_sizeOf_k hke)]
        simpa using hv'
      · simp [Tr.run] at hrun
    · simp [Tr.run] at hrun
  case extract x i =>
    have hx := hops x (by simp [Op.operands])
    simp only [vop] at hrun
    split at hrun
    · rename_i l hxe
      rw [hxe] at hx
      rw [Tr.run_opt] at hrun
      obtain ⟨r, hr, hrun⟩ := hrun
      obtain ⟨vs, hv, hl⟩ := hx
      obtain ⟨u, hu, hr'⟩ := hl.get i hr
      refine hpure (u := u) hrun ?_ hr'
      unfold Instr.extract
      simp [hv, hu]
    · simp [Tr.run] at hrun
  case call c =>
    obtain ⟨callee, args, argTypes⟩ := c
    have ha : F2 (RS ρ) (args.toList.map ev) (args.map rv).toList := args_RS args fun x hx => hops x (by
      simp only [Op.operands, Call.operands, Array.toList_append, List.mem_append]
      exact .inr hx)
    simp only [vop] at hrun
    cases callee with
    | value f =>
      have hf := hops f (by simp [Op.operands, Call.operands])
      simp only at hrun
      split at hrun
      · rename_i fid first caps hfe
        rw [hfe] at hf
        obtain ⟨va, vc, h1, h2, hv⟩ := hf
        have hall : F2 (RS ρ) (callArgs first (args.toList.map ev) caps) (va ++ (args.map rv).toList ++ vc) :=
          ((ptrs_RS h1).append ha).append (ptrs_RS h2)
        obtain ⟨g1, g2, g3⟩ := vcall_sound hcall hrun h hag hz hall
        refine ⟨g1, ?_⟩
        have hex : (execOp rv ⟨dst, .call ⟨.value f, args, argTypes⟩, type, pos, after, guard⟩).run P w = .ok (.enter fid (va ++ (args.map rv).toList ++ vc).toArray) w := by
          simp only [execOp, resolve, hv, Deferred.ofValue, pure_bind, invoke]
          rw [show (va.toArray ++ args.map rv ++ vc.toArray) = (va ++ (args.map rv).toList ++ vc).toArray by apply Array.ext'; simp]
          exact callFunc_run hnames g2
        rw [hex]
        exact g3
      · simp [Tr.run] at hrun
    | builtin b =>
      simp only at hrun
      have hex : execOp rv ⟨dst, .call ⟨.builtin b, args, argTypes⟩, type, pos, after, guard⟩ = builtin b argTypes type (args.map fun | .const _ => true | _ => false) (args.map rv) := by
        simp only [execOp, resolve, pure_bind, invoke]
        rfl
      rw [hex]
      exact vbuiltin_sound hrun ha h hag hz
    | invoke _ _ => simp [Tr.run] at hrun
  all_goals simp [vop, Tr.run] at hrun
end
end Go.Proofs.Ytcolladpdmjloaa.Eng

/-
  The engine, part I: an operation in its place; operations in the text's order; operations in whatever order.
-/
namespace Go.Proofs.Ytcolladpdmjloaa.Eng
open Go

section
variable {A : Type} {S : Sys A} {P : Program} {B : Nat}

/-! ### Frames -/
def RT (ρ : Rho) : Option SV → Option Value → Prop
  | some v, some x => RS ρ v x
  | none, none => True
  | _, _ => False
structure RA (ρ : Rho) (T : Nat → Option SV) (a : Act) : Prop where
  defers : a.defers = []
  tmps : ∀ t, RT ρ (T t) a.tmps[t]?
def setT (T : Nat → Option SV) (d : Option Nat) (v : SV) : Nat → Option SV := fun t => if d = some t then some v else T t

theorem RT.mono {ρ ρ' : Rho} (h : ρ.le ρ') : ∀ {x : Option SV} {y : Option Value}, RT ρ x y → RT ρ' x y
  | some _, some _, hr => RS.mono h hr
  | none, none, _ => trivial
  | some _, none, hr => hr.elim
  | none, some _, hr => hr.elim
theorem RA.put {ρ ρ' : Rho} {T : Nat → Option SV} {a : Act} {d : Option Nat} {v : SV} {x : Value} (h : RA ρ T a) (hr : ρ.le ρ') (hd : ∀ t, d = some t → (T t).isSome = true) (hv : RS ρ' v x) :
    RA ρ' (setT T d v) (a.put d x) := by
  cases d with
  | none => exact ⟨h.defers, fun t => by simpa [setT, Act.put] using (h.tmps t).mono hr⟩
  | some d =>
    refine ⟨h.defers, fun t => ?_⟩
    have h1 := h.tmps d
    have h2 := hd d rfl
    have hlt : d < a.tmps.size := by
      rcases Nat.lt_or_ge d a.tmps.size with h3 | h3
      · exact h3
      · rw [Array.getElem?_eq_none h3] at h1
        cases hT : T d with
        | none => simp [hT] at h2
        | some _ => rw [hT] at h1; exact h1.elim
    simp only [setT, Act.put, Option.some.injEq]
    rw [Array.getElem?_setIfInBounds]
    by_cases hdt : d = t
    · subst hdt
      simp only [if_true]
      rw [if_pos hlt]
      exact hv
    · rw [if_neg hdt, if_neg hdt]
      exact (h.tmps t).mono hr
theorem RA.eval_tmp {ρ : Rho} {T : Nat → Option SV} {a : Act} (h : RA ρ T a) (t : Nat) : RS ρ ((T t).getD .undef) (a.tmps.getD t undef) := by
  have := h.tmps t
  rw [Array.getD_eq_getD_getElem?]
  cases hT : T t with
  | none =>
    rw [hT] at this
    cases ha : a.tmps[t]? with
    | none => exact RS_undef ρ
    | some _ => rw [ha] at this; exact this.elim
  | some v =>
    rw [hT] at this
    cases ha : a.tmps[t]? with
    | none => rw [ha] at this; exact this.elim
    | some _ => rw [ha] at this; exact this

theorem evalT_sound {ρ : Rho} {T : Nat → Option SV} {a : Act} {tm : List SV} (h : RA ρ T a) {x : Operand} (hx : okOperand x = true) (ht : ∀ t, x = .tmp t → T t = tm[t]?) :
    RS ρ (evalT tm x) (a.eval x) := by
  cases x with
  | tmp t =>
    have := h.eval_tmp t
    rw [ht t rfl] at this
    unfold evalT Act.eval
    simp only [nth_eq]
    cases hm : tm[t]? with
    | none => simpa [hm] using this
    | some v => simpa [hm] using this
  | const v =>
    unfold evalT Act.eval
    unfold okOperand at hx
    cases hv : ofVal v with
    | none => simp [hv] at hx
    | some y =>
      simp only [hv]
      exact ofVal_RV hv ρ
  | global g => simp [okOperand] at hx
  | func f => exact ⟨[], [], trivial, trivial, rfl⟩

theorem lands_upon {o : Oper} {a : Act} {K : Act → World → Prop} {Q : Exit → Act → World → Prop} {r : Result Next} {J : Value → World → Prop} (hl : Lands P r J)
    (hK : ∀ v w', J v w' → K (a.put o.dst v) w') : o.upon P a K Q r := by
  unfold Lands at hl
  split at hl
  · exact hK _ _ hl
  · exact hK _ _ hl
  · refine Calls.mono hl fun e w'' ⟨v, he, hk⟩ => ?_
    subst he
    exact hK _ _ hk
  · exact hl.elim

theorem litVal_sound {ops : Array Oper} {i : Nat} {e e' : Eff A} (h : (litVal ops i e).run = some e') :
    e'.rd = e.rd ∧ e'.asg = e.asg ∧ e'.nid = e.nid ∧ ∀ ρ v, RS ρ e.val v → RS ρ e'.val v := by
  unfold litVal at h
  split at h
  · rename_i c hc
    split at h
    · rw [Tr.run_ite, Tr.run_ok, Tr.run_ok] at h
      rcases h with ⟨h1, rfl⟩ | ⟨h1, rfl⟩
      · refine ⟨rfl, rfl, rfl, fun ρ v hv => ?_⟩
        rw [hc] at hv
        subst h1
        exact hv
      · refine ⟨rfl, rfl, rfl, fun ρ v hv => ?_⟩
        rw [hc] at hv
        subst h1
        exact hv
    · rw [Tr.run_ok] at h; subst h; exact ⟨rfl, rfl, rfl, fun _ _ h => h⟩
  · rw [Tr.run_ok] at h; subst h; exact ⟨rfl, rfl, rfl, fun _ _ h => h⟩

theorem evOp_sound {call : FuncId → List SV → HP A → Nat → Tr (CR A)} (hcall : CallOK S P call)
    (hnames : ∀ (f : FuncId) fn, P.funcs[f]? = some fn → (fn.name == "runtime.NumGoroutine") = false)
    {ops : Array Oper} {i : Nat} {o : Oper} {st : St A} {e : Eff A} (hi : ops[i]? = some o) (hrun : (evOp P call ops i o st).run = some e)
    {T : Nat → Option SV} {H : Nat → Option (VObj A)} (hT : ∀ t, 2 * t ∈ opReads ops o ∨ o.dst = some t → T t = st.tm[t]?)
    (hH : ∀ b, b ∈ e.rd ∨ b ∈ e.asg.map (·.1) → H b = hget st.hp b) {Z : Nat → Prop} {ρ : Rho} {F : Fm} {a : Act} {w : World}
    (ha : RA ρ T a) (h : HR S B Z ρ F H w) (hz : ∀ b, st.nid ≤ b → b < e.nid → Z b) {Q : Exit → Act → World → Prop} {K : Act → World → Prop}
    (hK : ∀ a' w' ρ' F', RA ρ' (setT T o.dst e.val) a' → HR S B (Zm Z st.nid e.nid) ρ' F' (over H e.asg) w' → Chg (fun b => b ∈ e.asg.map (·.1)) ρ F w ρ' F' w' → K a' w') :
    wpOp P ops Q i K a w := by
  unfold evOp at hrun
  rw [Tr.run_chk, Bool.and_eq_true] at hrun
  obtain ⟨⟨hop, hd⟩, hrun⟩ := hrun
  have hdst : ∀ t, o.dst = some t → (T t).isSome = true := fun t ht => by
    rw [hT t (.inr ht)]
    rw [ht] at hd
    rw [← nth_eq]
    exact hd
  have hguard : ∀ j want t, o.guard = some (j, want) → ((ops[j]?).bind (·.dst)) = some t → T t = st.tm[t]? := fun j want t hg ht => by
    refine hT t (.inl ?_)
    simp [opReads, guardDst, hg, ht]
  unfold wpOp
  simp only [hi]
  split at hrun
  · rename_i hw
    have hwant : Region.wanted o (yielded ops a.tmps) = true := by
      unfold vwanted at hw
      have hnth : (nth st.tm) = fun t => st.tm[t]? := funext (nth_eq st.tm)
      rw [hnth] at hw
      unfold Region.wanted
      cases hg : o.guard with
      | none => rfl
      | some jw =>
        obtain ⟨j, want⟩ := jw
        simp only [hg] at hw
        unfold yielded
        cases hjd : (ops[j]?).bind (·.dst) with
        | none => simp [hjd] at hw
        | some t =>
          simp only [hjd, Option.bind_some] at hw ⊢
          rw [← hguard j want t hg hjd] at hw
          have := ha.tmps t
          split at hw
          · rename_i b hb
            rw [hb] at this
            cases hat : a.tmps[t]? with
            | none => rw [hat] at this; exact this.elim
            | some x =>
              rw [hat] at this
              obtain rfl : x = .bool b := this
              simp at hw
              simp [hw]
          · cases hw
          · cases hw
          · cases hw
    rw [Tr.run_bind] at hrun
    obtain ⟨e0, he0, hrun⟩ := hrun
    rw [Tr.run_chk] at hrun
    obtain ⟨hn, hl⟩ := hrun
    obtain ⟨l1, l2, l3, l4⟩ := litVal_sound hl
    rw [if_pos hwant]
    refine .inl ?_
    have hops : ∀ x ∈ o.op.operands.toList, RS ρ (evalT st.tm x) (a.eval x) := fun x hx => by
      refine evalT_sound ha (List.all_eq_true.1 hop x hx) fun t ht => hT t (.inl ?_)
      subst ht
      simp only [opReads, List.mem_append, List.mem_filterMap]
      exact .inl ⟨.tmp t, hx, rfl⟩
    obtain ⟨_, hlands⟩ := vop_sound hcall hnames he0 hops h (fun b hb => hH b (by rw [l1, l2]; exact hb)) (fun b h1 h2 => hz b h1 (by rw [l3]; exact h2))
    refine lands_upon hlands fun v w' hdone => ?_
    obtain ⟨ρ', F', hv, hhr, hc⟩ := hdone
    refine hK _ w' ρ' F' (ha.put hc.rho hdst (l4 _ _ hv)) ?_ ?_
    · rw [l2, l3]; exact hhr
    · rw [l2]; exact hc
  · rename_i hw
    rw [Tr.run_ok] at hrun
    subst hrun
    have hwant : Region.wanted o (yielded ops a.tmps) = false := by
      unfold vwanted at hw
      have hnth : (nth st.tm) = fun t => st.tm[t]? := funext (nth_eq st.tm)
      rw [hnth] at hw
      unfold Region.wanted
      cases hg : o.guard with
      | none => simp [hg] at hw
      | some jw =>
        obtain ⟨j, want⟩ := jw
        simp only [hg] at hw
        unfold yielded
        cases hjd : (ops[j]?).bind (·.dst) with
        | none => simp [hjd]
        | some t =>
          simp only [hjd, Option.bind_some] at hw ⊢
          rw [← hguard j want t hg hjd] at hw
          have := ha.tmps t
          split at hw
          · rename_i b hb
            rw [hb] at this
            cases hat : a.tmps[t]? with
            | none => rw [hat] at this; exact this.elim
            | some x =>
              rw [hat] at this
              obtain rfl : x = .bool b := this
              simp at hw
              simpa using hw
          · cases hw
          · cases hw
          · rename_i hb1 hb2 hb3
            cases hat : a.tmps[t]? with
            | none => rfl
            | some x =>
              cases x with
              | bool b =>
                rw [hat] at this
                cases hTt : T t with
                | none => rw [hTt] at this; exact this.elim
                | some sv =>
                  rw [hTt] at this hb1 hb2 hb3
                  exfalso
                  cases sv with
                  | t l => obtain ⟨vs, hvs, _⟩ := this; cases hvs
                  | s x1 =>
                    cases x1 with
                    | agg l => obtain ⟨vs, hvs, _⟩ := this; cases hvs
                    | one v1 =>
                      cases v1 <;> first
                        | (rename_i sb; cases sb with
                           | lit b' => exact hb1 b' rfl
                           | sym b' => exact hb2 b' rfl)
                        | (exact hb3 _ rfl)
                        | (obtain ⟨hx, _⟩ := this; cases hx; done)
                        | (obtain ⟨_, hx⟩ := this; cases hx; done)
                        | (obtain ⟨_, _, hx⟩ := this; cases hx; done)
                        | (obtain ⟨_, _, hx, _⟩ := this; cases hx; done)
                        | (obtain ⟨_, _, _, hx⟩ := this; cases hx; done)
                        | (obtain ⟨_, _, _, _, hx⟩ := this; cases hx; done)
                        | (cases this; done)
              | _ => rfl
    rw [if_neg (by rw [hwant]; simp)]
    refine hK _ w ρ F (ha.put (Rho.le_refl ρ) hdst (RS_undef ρ)) ?_ (Chg.refl _ _ _ _)
    rw [Zm_self]
    exact h
  · simp [Tr.run] at hrun
end
end Go.Proofs.Ytcolladpdmjloaa.Eng

/-
  The engine, part J: the operations of a region, one behind the other; or in whatever order, if no two that may change places meet.
-/
namespace Go.Proofs.Ytcolladpdmjloaa.Eng
open Go

section
variable {A : Type} {S : Sys A} {P : Program} {B : Nat}

theorem getElem?_setTm {tm : List SV} {d : Option Nat} {v : SV} (hd : ∀ t, d = some t → t < tm.length) : (fun t => (setTm tm d v)[t]?) = setT (fun t => tm[t]?) d v := by
  funext t
  cases d with
  | none => simp [setTm, setT]
  | some d =>
    have := hd d rfl
    simp only [setTm, setT, lset_eq, Option.some.injEq, List.getElem?_set]
    by_cases h : d = t
    · subst h; simp [this]
    · simp [h]
theorem evOp_facts {call : FuncId → List SV → HP A → Nat → Tr (CR A)} {ops : Array Oper} {i : Nat} {o : Oper} {st : St A} {e : Eff A} (h : (evOp P call ops i o st).run = some e) :
    st.nid ≤ e.nid ∧ ∀ t, o.dst = some t → t < st.tm.length := by
  unfold evOp at h
  rw [Tr.run_chk, Bool.and_eq_true] at h
  obtain ⟨⟨_, hd⟩, h⟩ := h
  refine ⟨?_, fun t ht => by
    rw [ht] at hd
    obtain ⟨x, hx⟩ := Option.isSome_iff_exists.1 hd
    rw [nth_eq] at hx
    exact (List.getElem?_eq_some_iff.1 hx).1⟩
  split at h
  · rw [Tr.run_bind] at h
    obtain ⟨e0, _, h⟩ := h
    rw [Tr.run_chk] at h
    obtain ⟨hn, hl⟩ := h
    rw [(litVal_sound hl).2.2.1]
    simpa using hn
  · rw [Tr.run_ok] at h; subst h; exact Nat.le_refl _
  · simp [Tr.run] at h

theorem stepSt_dirty {o : Oper} {e : Eff A} {st : St A} {b : Nat} : b ∈ (stepSt o e st).dirty ↔ b ∈ st.dirty ∨ b ∈ e.asg.map (·.1) := mem_addAll

/-! ### One behind the other -/
theorem evOps_facts {call : FuncId → List SV → HP A → Nat → Tr (CR A)} {ops : Array Oper} : ∀ {os : List Oper} {i : Nat} {st st' : St A}, (evOps P call ops os i st).run = some st' →
    st.nid ≤ st'.nid ∧ ∀ b, b ∈ st.dirty → b ∈ st'.dirty
  | [], i, st, st', h => by simp only [evOps, Tr.run_ok] at h; subst h; exact ⟨Nat.le_refl _, fun _ h => h⟩
  | o :: os, i, st, st', h => by
    rw [evOps, Tr.run_bind] at h
    obtain ⟨e, he, h⟩ := h
    obtain ⟨h1, h2⟩ := evOps_facts h
    exact ⟨Nat.le_trans (evOp_facts he).1 h1, fun b hb => h2 b (stepSt_dirty.2 (.inl hb))⟩

theorem evOps_sound {call : FuncId → List SV → HP A → Nat → Tr (CR A)} (hcall : CallOK S P call)
    (hnames : ∀ (f : FuncId) fn, P.funcs[f]? = some fn → (fn.name == "runtime.NumGoroutine") = false) {ops : Array Oper} {Q : Exit → Act → World → Prop} :
    ∀ {os : List Oper} {i : Nat} {st st' : St A}, ops.toList.drop i = os → (evOps P call ops os i st).run = some st' →
      ∀ {Z : Nat → Prop} {ρ : Rho} {F : Fm} {a : Act} {w : World}, RA ρ (fun t => st.tm[t]?) a → HR S B Z ρ F (hget st.hp) w → (∀ b, st.nid ≤ b → b < st'.nid → Z b) →
      (∀ a' w' ρ' F', RA ρ' (fun t => st'.tm[t]?) a' → HR S B (Zm Z st.nid st'.nid) ρ' F' (hget st'.hp) w' → Chg (fun b => b ∈ st'.dirty) ρ F w ρ' F' w' → Q .normal a' w') →
      wpOps P ops Q (List.range' i os.length) a w
  | [], i, st, st', _, h, Z, ρ, F, a, w, ha, hr, _, hQ => by
    simp only [evOps, Tr.run_ok] at h
    subst h
    exact hQ a w ρ F ha (by rw [Zm_self]; exact hr) (Chg.refl _ _ _ _)
  | o :: os, i, st, st', hd, h, Z, ρ, F, a, w, ha, hr, hz, hQ => by
    rw [evOps, Tr.run_bind] at h
    obtain ⟨e, he, h⟩ := h
    have hi : ops[i]? = some o := by
      have : (ops.toList.drop i)[0]? = some o := by rw [hd]; rfl
      simpa using this
    have hd' : ops.toList.drop (i + 1) = os := by
      rw [← List.drop_drop, hd]; rfl
    obtain ⟨hn, hdst⟩ := evOp_facts he
    obtain ⟨hn', hdirty⟩ := evOps_facts h
    rw [List.length_cons, List.range'_succ, wpOps_cons]
    refine evOp_sound hcall hnames hi he (fun _ _ => rfl) (fun _ _ => rfl) ha hr (fun b h1 h2 => hz b h1 (Nat.lt_of_lt_of_le h2 hn')) fun a' w' ρ' F' ha' hr' hc => ?_
    refine evOps_sound hcall hnames hd' h (Z := Zm Z st.nid e.nid) (ρ := ρ') (F := F') ?_ ?_ (fun b h1 h2 => ?_) fun a'' w'' ρ'' F'' ha'' hr'' hc'' => ?_
    · rw [show (fun t => (stepSt o e st).tm[t]?) = setT (fun t => st.tm[t]?) o.dst e.val from getElem?_setTm hdst]
      exact ha'
    · rw [show hget (stepSt o e st).hp = over (hget st.hp) e.asg from hget_hputs _ _]
      exact hr'
    · have h1' : e.nid ≤ b := h1
      exact ⟨hz b (Nat.le_trans hn h1') h2, by omega⟩
    · refine hQ a'' w'' ρ'' F'' ha'' ?_ ?_
      · have : Zm (Zm Z st.nid e.nid) (stepSt o e st).nid st'.nid = Zm Z st.nid st'.nid := Zm_trans Z hn hn'
        rw [← this]
        exact hr''
      · exact (hc.mono fun b hb => hdirty b (stepSt_dirty.2 (.inr hb))).trans hc''

/-! ### Whatever order -/
theorem evOpsL_steps {call : FuncId → List SV → HP A → Nat → Tr (CR A)} {ops : Array Oper} : ∀ {os : List Oper} {i : Nat} {st st' : St A} {recs : List Rec},
    (evOpsL P call ops os i st).run = some (st', recs) →
    ∃ (σ : Nat → St A) (ef : Nat → Eff A), σ 0 = st ∧ σ os.length = st' ∧ recs.length = os.length ∧
      ∀ k o, os[k]? = some o → (evOp P call ops (i + k) o (σ k)).run = some (ef k) ∧ σ (k + 1) = stepSt o (ef k) (σ k) ∧ recs[k]? = some (recOf ops o (ef k))
  | [], i, st, st', recs, h => by
    simp only [evOpsL, Tr.run_ok] at h
    injection h with h1 h2
    subst h1 h2
    exact ⟨fun _ => st, fun _ => ⟨.undef, [], [], 0⟩, rfl, rfl, rfl, fun k o hk => by simp at hk⟩
  | o :: os, i, st, st', recs, h => by
    rw [evOpsL, Tr.run_bind] at h
    obtain ⟨e, he, h⟩ := h
    rw [Tr.run_bind] at h
    obtain ⟨⟨s, rs⟩, h, hr⟩ := h
    rw [Tr.run_ok] at hr
    injection hr with h1 h2
    subst h1 h2
    obtain ⟨σ, ef, h0, hn, hl, hall⟩ := evOpsL_steps h
    refine ⟨fun k => match k with | 0 => st | k + 1 => σ k, fun k => match k with | 0 => e | k + 1 => ef k, rfl, hn, by simp [hl], fun k o' hk => ?_⟩
    cases k with
    | zero =>
      simp only [List.getElem?_cons_zero, Option.some.injEq] at hk
      subst hk
      exact ⟨he, h0, rfl⟩
    | succ k =>
      simp only [List.getElem?_cons_succ] at hk
      obtain ⟨a1, a2, a3⟩ := hall k o' hk
      refine ⟨?_, a2, by simpa using a3⟩
      rw [show i + (k + 1) = i + 1 + k by omega]
      exact a1

/-- What stands at a place: slot t at 2t, object b at 2b + 1. -/
def lv (s : St A) (l : Nat) : Option SV × Option (VObj A) := if l % 2 = 0 then (s.tm[l / 2]?, none) else (none, hget s.hp (l / 2))
theorem lv_tmp (s : St A) (t : Nat) : lv s (2 * t) = (s.tm[t]?, none) := by
  unfold lv
  rw [if_pos (by omega)]
  congr 2
  omega
theorem lv_obj (s : St A) (b : Nat) : lv s (2 * b + 1) = (none, hget s.hp b) := by
  unfold lv
  rw [if_neg (by omega)]
  congr 2
  omega
theorem lv_out {o : Oper} {e : Eff A} {s : St A} {ops : Array Oper} {l : Nat} (hd : ∀ t, o.dst = some t → t < s.tm.length) (h : l ∉ (recOf ops o e).w) : lv (stepSt o e s) l = lv s l := by
  have h1 : ∀ t, o.dst = some t → l ≠ 2 * t := fun t ht hl => h (by simp [recOf, ht, hl])
  have h2 : ∀ b, b ∈ e.asg.map (·.1) → l ≠ 2 * b + 1 := fun b hb hl => h (by
    simp only [recOf, List.mem_append, List.mem_map]
    obtain ⟨q, hq, rfl⟩ := List.mem_map.1 hb
    exact .inr ⟨q, hq, hl.symm⟩)
  unfold lv
  split
  · rename_i he
    have := congrFun (getElem?_setTm (v := e.val) hd) (l / 2)
    rw [show (stepSt o e s).tm[l / 2]? = setT (fun t => s.tm[t]?) o.dst e.val (l / 2) from this]
    unfold setT
    rw [if_neg]
    intro hdl
    exact h1 _ hdl (by omega)
  · rename_i he
    rw [show hget (stepSt o e s).hp = over (hget s.hp) e.asg from hget_hputs _ _]
    rw [over_out]
    intro hb
    exact h2 _ hb (by omega)

/-- What stands at a place when those of L are done: what the last of them that wrote there left. -/
def VS (σ : Nat → St A) (W : Nat → List Nat) (L : Nat → Bool) : Nat → Nat → Option SV × Option (VObj A)
  | 0, l => lv (σ 0) l
  | m + 1, l => if L m = true ∧ l ∈ W m then lv (σ (m + 1)) l else VS σ W L m l
section
variable {σ : Nat → St A} {W : Nat → List Nat} {L L' : Nat → Bool} {n l : Nat}
theorem VS_congr : ∀ {m : Nat}, (∀ j, j < m → l ∈ W j → L j = L' j) → VS σ W L m l = VS σ W L' m l
  | 0, _ => rfl
  | m + 1, h => by
    unfold VS
    rw [VS_congr fun j hj hw => h j (Nat.lt_succ_of_lt hj) hw]
    by_cases hw : l ∈ W m
    · rw [h m (Nat.lt_succ_self m) hw]
    · simp [hw]
theorem VS_all (hout : ∀ k, k < n → l ∉ W k → lv (σ (k + 1)) l = lv (σ k) l) : ∀ {m : Nat}, m ≤ n → VS σ W (fun _ => true) m l = lv (σ m) l
  | 0, _ => rfl
  | m + 1, hm => by
    unfold VS
    split
    · rfl
    · rename_i h
      have hw : l ∉ W m := fun hw => h ⟨rfl, hw⟩
      rw [VS_all hout (Nat.le_of_succ_le hm), hout m hm hw]
theorem VS_cut {k : Nat} : ∀ {m : Nat}, k ≤ m → (∀ j, k ≤ j → j < m → l ∈ W j → L j = false) → VS σ W L m l = VS σ W L k l
  | 0, hk, _ => by
    obtain rfl : k = 0 := by omega
    rfl
  | m + 1, hk, h => by
    by_cases hkm : k = m + 1
    · subst hkm; rfl
    · rw [VS, if_neg]
      · exact VS_cut (by omega) fun j h1 h2 => h j h1 (Nat.lt_succ_of_lt h2)
      · rintro ⟨h1, h2⟩
        rw [h m (by omega) (Nat.lt_succ_self m) h2] at h1
        cases h1
/-- At a place whose writers among L are just those ahead of k. -/
theorem VS_at (hout : ∀ k, k < n → l ∉ W k → lv (σ (k + 1)) l = lv (σ k) l) {k : Nat} (hk : k ≤ n) (h : ∀ j, j < n → l ∈ W j → (L j = true ↔ j < k)) : VS σ W L n l = lv (σ k) l := by
  have h1 : VS σ W L n l = VS σ W (fun j => decide (j < k)) n l := VS_congr fun j hj hw => by
    have := h j hj hw
    by_cases hjk : j < k
    · rw [this.2 hjk]; simp [hjk]
    · have : L j ≠ true := fun hl => hjk (this.1 hl)
      simp [hjk, this]
  have h2 : VS σ W (fun j => decide (j < k)) n l = VS σ W (fun j => decide (j < k)) k l := VS_cut hk fun j h1 _ _ => by simp; omega
  have h3 : VS σ W (fun j => decide (j < k)) k l = VS σ W (fun _ => true) k l := VS_congr fun j hj _ => by simp [hj]
  rw [h1, h2, h3, VS_all hout hk]
end

/-! ### The look for two that meet -/
theorem meets_iff {a b : List Nat} : meets a b = true ↔ ∃ x, x ∈ a ∧ x ∈ b := by
  unfold meets
  rw [List.any_eq_true]
  constructor
  · rintro ⟨x, h1, h2⟩; exact ⟨x, h1, (memN_iff _ _).1 h2⟩
  · rintro ⟨x, h1, h2⟩; exact ⟨x, h1, (memN_iff _ _).2 h2⟩
theorem conflict_of {a b : Rec} {x : Nat} (h : (x ∈ a.w ∧ (x ∈ b.r ∨ x ∈ b.w)) ∨ (x ∈ a.r ∧ x ∈ b.w)) : conflict a b = true := by
  unfold conflict
  rcases h with ⟨h1, h2 | h2⟩ | ⟨h1, h2⟩
  · rw [meets_iff.2 ⟨x, h1, h2⟩]; simp
  · rw [meets_iff.2 ⟨x, h1, h2⟩]; simp
  · rw [meets_iff.2 ⟨x, h1, h2⟩]; simp
theorem raceOne_spec {r : Rec} {bf : Nat} : ∀ {qs : List Rec} {i : Nat}, raceOne r bf qs i = true → ∀ k q, qs[k]? = some q → conflict q r = true → bf.testBit (i + k) = true
  | [], i, _, k, q, hq, _ => by simp at hq
  | p :: qs, i, h, k, q, hq, hc => by
    unfold raceOne at h
    rw [Bool.and_eq_true] at h
    cases k with
    | zero =>
      simp only [List.getElem?_cons_zero, Option.some.injEq] at hq
      subst hq
      rw [hc] at h
      exact h.1
    | succ k =>
      have := raceOne_spec h.2 k q (by simpa using hq) hc
      rwa [show i + (k + 1) = i + 1 + k by omega]
theorem raceAll_spec {all : List Rec} : ∀ {rs : List Rec} {bs : List Nat} {i : Nat}, raceAll all rs bs i = true → ∀ k r, rs[k]? = some r →
    ∃ bf, bs[k]? = some bf ∧ ∀ j q, j < i + k → all[j]? = some q → conflict q r = true → bf.testBit j = true
  | [], _, _, _, k, r, hr => by simp at hr
  | _ :: _, [], _, h, _, _, _ => by simp [raceAll] at h
  | p :: rs, bf :: bs, i, h, k, r, hr => by
    unfold raceAll at h
    rw [Bool.and_eq_true] at h
    cases k with
    | zero =>
      simp only [List.getElem?_cons_zero, Option.some.injEq] at hr
      subst hr
      refine ⟨bf, rfl, fun j q hj hq hc => ?_⟩
      have := raceOne_spec h.1 j q (by rw [List.getElem?_take, if_pos (by omega)]; exact hq) hc
      simpa using this
    | succ k =>
      obtain ⟨bf', h1, h2⟩ := raceAll_spec h.2 k r (by simpa using hr)
      exact ⟨bf', by simpa using h1, fun j q hj => h2 j q (by omega)⟩
theorem edgesBack_spec : ∀ {os : List Oper} {i : Nat}, edgesBack os i = true → ∀ k o, os[k]? = some o → ∀ e ∈ o.after, Region.binds .any e = true → e.on < i + k
  | [], _, _, k, o, ho, _, _, _ => by simp at ho
  | p :: os, i, h, k, o, ho, e, he, hb => by
    unfold edgesBack at h
    rw [Bool.and_eq_true] at h
    cases k with
    | zero =>
      simp only [List.getElem?_cons_zero, Option.some.injEq] at ho
      subst ho
      have := List.all_eq_true.1 h.1 e (by simpa using he)
      rw [hb] at this
      simpa using this
    | succ k =>
      have := edgesBack_spec h.2 k o (by simpa using ho) e he hb
      omega

/-- A set of operations with each of which all that it waits for is there holds all that 'befores' tells. -/
theorem befores_spec {L : Nat → Bool} : ∀ {os : List Oper} {acc : List Nat},
    (∀ j bf, acc[j]? = some bf → L j = true → ∀ i, bf.testBit i = true → L i = true) →
    (∀ k o, os[k]? = some o → L (acc.length + k) = true → ∀ e ∈ o.after, Region.binds .any e = true → L e.on = true) →
    ∀ j bf, (befores os acc)[j]? = some bf → L j = true → ∀ i, bf.testBit i = true → L i = true
  | [], acc, hacc, _, j, bf, hj, hl, i, hb => hacc j bf hj hl i hb
  | o :: os, acc, hacc, hos, j, bf, hj, hl, i, hb => by
    unfold befores at hj
    refine befores_spec (os := os) ?_ ?_ j bf hj hl i hb
    · intro j bf hj hl i hb
      rw [List.getElem?_append] at hj
      split at hj
      · exact hacc j bf hj hl i hb
      · rename_i hlen
        have hj0 : j = acc.length := by
          have : j - acc.length < 1 := by
            rcases Nat.lt_or_ge (j - acc.length) 1 with h | h
            · exact h
            · rw [List.getElem?_eq_none (by simpa using h)] at hj; cases hj
          omega
        subst hj0
        simp only [Nat.sub_self, List.getElem?_cons_zero, Option.some.injEq] at hj
        have hed := hos 0 o rfl (by simpa using hl)
        subst hj
        have key : ∀ (es : List Edge) (s : Nat), (∀ e ∈ es, e ∈ o.after) → (∀ i, s.testBit i = true → L i = true) →
            ∀ i, (es.foldl (fun s e => match Region.binds .any e with | true => s ||| 2 ^ e.on ||| acc.getD e.on 0 | false => s) s).testBit i = true → L i = true := by
          intro es
          induction es with
          | nil => intro s _ hs i hi; exact hs i hi
          | cons e es ih =>
            intro s hes hs i hi
            simp only [List.foldl_cons] at hi
            refine ih _ (fun e' he' => hes e' (by simp [he'])) (fun i hi => ?_) i hi
            split at hi
            · rename_i hbind
              rw [Nat.testBit_or, Nat.testBit_or, Bool.or_eq_true, Bool.or_eq_true] at hi
              have hon := hed e (hes e (by simp)) hbind
              rcases hi with (hi | hi) | hi
              · exact hs i hi
              · rw [Nat.testBit_two_pow] at hi
                simp only [decide_eq_true_eq] at hi
                exact hi ▸ hon
              · rw [List.getD_eq_getElem?_getD] at hi
                cases hg : acc[e.on]? with
                | none => simp [hg] at hi
                | some b => rw [hg] at hi; exact hacc e.on b hg hon i hi
            · exact hs i hi
        exact key o.after.toList 0 (fun e he => by simpa using he) (fun i hi => by simp at hi) i hb
    · intro k o' ho' hl'
      refine hos (k + 1) o' (by simpa using ho') ?_
      rwa [List.length_append, List.length_singleton, Nat.add_assoc, Nat.add_comm 1 k] at hl'
end
end Go.Proofs.Ytcolladpdmjloaa.Eng

/-
  The engine, part K: a region whose order is drawn.
-/
namespace Go.Proofs.Ytcolladpdmjloaa.Eng
open Go

section
variable {A : Type} {S : Sys A} {P : Program} {B : Nat}

def cntF (f : Nat → Bool) : List Nat → Nat
  | [] => 0
  | x :: r => (match f x with | true => 0 | false => 1) + cntF f r
theorem cntF_len (f : Nat → Bool) : ∀ l : List Nat, cntF f l ≤ l.length
  | [] => Nat.le_refl _
  | x :: r => by
    have := cntF_len f r
    unfold cntF
    simp only [List.length_cons]
    split <;> omega
theorem cntF_le {f g : Nat → Bool} (h : ∀ x, f x = true → g x = true) : ∀ l : List Nat, cntF g l ≤ cntF f l
  | [] => Nat.le_refl _
  | x :: r => by
    have := cntF_le h r
    unfold cntF
    cases hf : f x with
    | true => rw [h x hf]; simpa using this
    | false => cases g x <;> simp <;> omega
theorem cntF_lt {f g : Nat → Bool} (h : ∀ x, f x = true → g x = true) {i : Nat} (hf : f i = false) (hg : g i = true) : ∀ {l : List Nat}, i ∈ l → cntF g l < cntF f l
  | [], hi => by simp at hi
  | x :: r, hi => by
    rcases List.mem_cons.1 hi with rfl | hi
    · have := cntF_le h r
      unfold cntF
      rw [hf, hg]
      simp
      omega
    · have := cntF_lt h hf hg hi
      unfold cntF
      cases hfx : f x with
      | true => rw [h x hfx]; simpa using this
      | false => cases g x <;> simp <;> omega
theorem cntF_zero {f : Nat → Bool} : ∀ {l : List Nat}, cntF f l = 0 → ∀ x ∈ l, f x = true
  | [], _, x, hx => by simp at hx
  | y :: r, h, x, hx => by
    unfold cntF at h
    have h1 : f y = true := by
      cases hf : f y with
      | true => rfl
      | false => rw [hf] at h; simp at h
    rcases List.mem_cons.1 hx with rfl | hx
    · exact h1
    · exact cntF_zero (by omega) x hx

theorem HR.drew {Z : Nat → Prop} {ρ : Rho} {F : Fm} {H : Nat → Option (VObj A)} {w : World} (h : HR S B Z ρ F H w) : HR S B Z ρ F H { w with drawn := w.drawn + 1 } :=
  ⟨fun b o ho => OK.frame S (w := w) (Rho.le_refl ρ) rfl (fun _ _ => rfl) (fun _ _ => rfl) (h.live b o ho), h.dead, h.bound, h.disj, h.fresh, h.base⟩

theorem getD_set {listed : Array Bool} {i j : Nat} (hi : i < listed.size) : (listed.setIfInBounds i true).getD j false = (decide (i = j) || listed.getD j false) := by
  rw [Array.getD_eq_getD_getElem?, Array.getD_eq_getD_getElem?, Array.getElem?_setIfInBounds]
  by_cases h : i = j
  · subst h; simp [hi]
  · simp [h]

theorem ready_ne {ops : Array Oper} {listed : Array Bool} (hs : listed.size = ops.size) (hed : ∀ k o, ops[k]? = some o → ∀ e ∈ o.after, Region.binds .any e = true → e.on < k) :
    ∀ j, j < ops.size → listed.getD j false = false → Region.ready .any ops listed ≠ [] := by
  intro j
  induction j using Nat.strongRecOn with
  | _ j ih =>
    intro hj hl
    have ho : ops[j]? = some ops[j] := by simp [hj]
    by_cases hall : ∀ e ∈ ops[j].after, Region.binds .any e = true → listed.getD e.on false = true
    · have hm : j ∈ Region.ready .any ops listed := mem_ready.2 ⟨by
        have : j < listed.size := by omega
        rw [Array.getD_eq_getD_getElem?] at hl ⊢
        simp [this] at hl ⊢
        exact hl, ops[j], ho, hall⟩
      intro h
      rw [h] at hm
      cases hm
    · simp only [Classical.not_forall] at hall
      obtain ⟨e, he, hb, hn⟩ := hall
      have hlt := hed j _ ho e he hb
      exact ih e.on hlt (by omega) (by simpa using hn)

set_option maxHeartbeats 1000000 in
theorem draw_sound {call : FuncId → List SV → HP A → Nat → Tr (CR A)} (hcall : CallOK S P call)
    (hnames : ∀ (f : FuncId) fn, P.funcs[f]? = some fn → (fn.name == "runtime.NumGoroutine") = false) (hmix : P.follows .mixedOrders = true)
    {ops : Array Oper} {Q : Exit → Act → World → Prop} {id : Nat} {st st' : St A} {recs : List Rec}
    (hrun : (evOpsL P call ops ops.toList 0 st).run = some (st', recs)) (hedge : edgesBack ops.toList 0 = true) (hrace : raceAll recs recs (befores ops.toList []) 0 = true)
    {Z : Nat → Prop} {ρ : Rho} {F : Fm} {a : Act} {w : World} (ha : RA ρ (fun t => st.tm[t]?) a) (hr : HR S B Z ρ F (hget st.hp) w) (hz : ∀ b, st.nid ≤ b → b < st'.nid → Z b)
    (hQ : ∀ a' w' ρ' F', RA ρ' (fun t => st'.tm[t]?) a' → HR S B (Zm Z st.nid st'.nid) ρ' F' (hget st'.hp) w' → Chg (fun b => b ∈ st'.dirty) ρ F w ρ' F' w' → Q .normal a' w') :
    (Code.region id ops true).wp P Q a w := by
  refine wp_region_any hmix ?_
  obtain ⟨σ, ef, h0, hn, hlen, hall⟩ := evOpsL_steps hrun
  have hsz : ops.toList.length = ops.size := Array.length_toList
  rw [hsz] at hn hlen
  have hall' : ∀ k o, ops[k]? = some o → (evOp P call ops k o (σ k)).run = some (ef k) ∧ σ (k + 1) = stepSt o (ef k) (σ k) ∧ recs[k]? = some (recOf ops o (ef k)) := fun k o ho => by
    have := hall k o (by simpa using ho)
    rwa [Nat.zero_add] at this
  have getop : ∀ k, k < ops.size → ∃ o, ops[k]? = some o := fun k hk => ⟨ops[k], by simp [hk]⟩
  let W : Nat → List Nat := fun k => match recs[k]? with | some r => r.w | none => []
  have hW : ∀ k o, ops[k]? = some o → W k = (recOf ops o (ef k)).w := fun k o ho => by simp only [W, (hall' k o ho).2.2]
  have hout : ∀ l k, k < ops.size → l ∉ W k → lv (σ (k + 1)) l = lv (σ k) l := fun l k hk hl => by
    obtain ⟨o, ho⟩ := getop k hk
    rw [hW k o ho] at hl
    obtain ⟨h1, h2, _⟩ := hall' k o ho
    rw [h2]
    exact lv_out (evOp_facts h1).2 hl
  have hmono1 : ∀ k, k < ops.size → (σ k).nid ≤ (σ (k + 1)).nid := fun k hk => by
    obtain ⟨o, ho⟩ := getop k hk
    obtain ⟨h1, h2, _⟩ := hall' k o ho
    rw [h2]
    exact (evOp_facts h1).1
  have hmono : ∀ d j, j + d ≤ ops.size → (σ j).nid ≤ (σ (j + d)).nid := by
    intro d
    induction d with
    | zero => intro j _; exact Nat.le_refl _
    | succ d ih => intro j hj; exact Nat.le_trans (ih j (by omega)) (hmono1 (j + d) (by omega))
  have hmon : ∀ j k, j ≤ k → k ≤ ops.size → (σ j).nid ≤ (σ k).nid := fun j k h1 h2 => by
    have := hmono (k - j) j (by omega)
    rwa [show j + (k - j) = k by omega] at this
  have hdirty1 : ∀ k, k < ops.size → ∀ b, b ∈ (σ k).dirty → b ∈ (σ (k + 1)).dirty := fun k hk b hb => by
    obtain ⟨o, ho⟩ := getop k hk
    rw [(hall' k o ho).2.1]
    exact stepSt_dirty.2 (.inl hb)
  have hdirty : ∀ d j, j + d ≤ ops.size → ∀ b, b ∈ (σ j).dirty → b ∈ (σ (j + d)).dirty := by
    intro d
    induction d with
    | zero => intro j _ b hb; exact hb
    | succ d ih => intro j hj b hb; exact hdirty1 (j + d) (by omega) b (ih j (by omega) b hb)
  have hedge' : ∀ k o, ops[k]? = some o → ∀ e ∈ o.after, Region.binds .any e = true → e.on < k := fun k o ho e he hb => by
    have := edgesBack_spec hedge k o (by simpa using ho) e he hb
    omega
  -- what two that meet are to one another
  have hconf : ∀ j k qj qk, j < k → recs[j]? = some qj → recs[k]? = some qk → conflict qj qk = true → ∃ bf : Nat, (befores ops.toList [])[k]? = some bf ∧ bf.testBit j = true := fun j k qj qk hjk hj hk hc => by
    obtain ⟨bf, h1, h2⟩ := raceAll_spec hrace k qk hk
    exact ⟨bf, h1, h2 j qj (by omega) hj hc⟩
  let ZL : (Nat → Bool) → Nat → Prop := fun L b => Z b ∧ ¬∃ k, k < ops.size ∧ L k = true ∧ (σ k).nid ≤ b ∧ b < (σ (k + 1)).nid
  have main : ∀ (fuel : Nat) (listed : Array Bool) (a' : Act) (w' : World), listed.size = ops.size →
      (∀ j o, ops[j]? = some o → listed.getD j false = true → ∀ e ∈ o.after, Region.binds .any e = true → listed.getD e.on false = true) →
      (∃ ρ' F', RA ρ' (fun t => (VS σ W (listed.getD · false) ops.size (2 * t)).1) a' ∧
        HR S B (ZL (listed.getD · false)) ρ' F' (fun b => (VS σ W (listed.getD · false) ops.size (2 * b + 1)).2) w' ∧ Chg (fun b => b ∈ st'.dirty) ρ F w ρ' F' w') →
      cntF (listed.getD · false) (List.range ops.size) ≤ fuel → wpAny P .any ops Q fuel listed a' w' := by
    have fin : ∀ (listed : Array Bool) (a' : Act) (w' : World), (∀ j, j < ops.size → listed.getD j false = true) →
        (∃ ρ' F', RA ρ' (fun t => (VS σ W (listed.getD · false) ops.size (2 * t)).1) a' ∧
          HR S B (ZL (listed.getD · false)) ρ' F' (fun b => (VS σ W (listed.getD · false) ops.size (2 * b + 1)).2) w' ∧ Chg (fun b => b ∈ st'.dirty) ρ F w ρ' F' w') → Q .normal a' w' := by
      rintro listed a' w' hl ⟨ρ', F', h1, h2, h3⟩
      have hv : ∀ l, VS σ W (listed.getD · false) ops.size l = lv st' l := fun l => by
        rw [VS_at (hout l) (Nat.le_refl _) (fun j hj _ => ⟨fun _ => hj, fun _ => hl j hj⟩), hn]
      refine hQ a' w' ρ' F' ?_ ?_ h3
      · have : (fun t => (VS σ W (listed.getD · false) ops.size (2 * t)).1) = fun t => st'.tm[t]? := by
          funext t
          rw [hv, lv_tmp]
        rwa [this] at h1
      · have : (fun b => (VS σ W (listed.getD · false) ops.size (2 * b + 1)).2) = hget st'.hp := by
          funext b
          rw [hv, lv_obj]
        rw [this] at h2
        refine h2.mono fun b ⟨hb1, hb2⟩ => ⟨hb1, ?_⟩
        rintro ⟨k, hk, _, h4, h5⟩
        refine hb2 ⟨?_, ?_⟩
        · have := hmon 0 k (by omega) (by omega)
          rw [h0] at this
          omega
        · have := hmon (k + 1) ops.size (by omega) (Nat.le_refl _)
          rw [hn] at this
          omega
    intro fuel
    induction fuel with
    | zero =>
      intro listed a' w' hs hcl hinv hc
      have hl : ∀ j, j < ops.size → listed.getD j false = true := fun j hj => cntF_zero (Nat.le_zero.1 hc) j (List.mem_range.2 hj)
      refine ⟨?_, fin listed a' w' hl hinv⟩
      rw [List.eq_nil_iff_forall_not_mem]
      intro j hj
      obtain ⟨h1, o, ho, _⟩ := mem_ready.1 hj
      have hjlt : j < ops.size := (Array.getElem?_eq_some_iff.1 ho).1
      have h2 := hl j hjlt
      have h3 : j < listed.size := by omega
      rw [Array.getD_eq_getD_getElem?] at h1 h2
      simp [h3] at h1 h2
      rw [h1] at h2
      cases h2
    | succ fuel ih =>
      intro listed a' w' hs hcl hinv hc
      refine ⟨fun hnil => ?_, fun i hi => ?_⟩
      · refine fin listed a' w' (fun j hj => ?_) hinv
        cases hlj : listed.getD j false with
        | true => rfl
        | false => exact absurd hnil (ready_ne hs hedge' j hj hlj)
      · obtain ⟨hi1, o, ho, hi2⟩ := mem_ready.1 hi
        have hilt : i < ops.size := (Array.getElem?_eq_some_iff.1 ho).1
        have hils : i < listed.size := by omega
        have hif : listed.getD i false = false := by
          rw [Array.getD_eq_getD_getElem?] at hi1 ⊢
          simp [hils] at hi1 ⊢
          exact hi1
        obtain ⟨hev, hst, hrec⟩ := hall' i o ho
        obtain ⟨ρ', F', h1, h2, h3⟩ := hinv
        -- the two sets of what is done
        have hset : ∀ j, (listed.setIfInBounds i true).getD j false = (decide (i = j) || listed.getD j false) := fun j => getD_set hils
        have hclosed : ∀ j o, ops[j]? = some o → (listed.setIfInBounds i true).getD j false = true → ∀ e ∈ o.after, Region.binds .any e = true → (listed.setIfInBounds i true).getD e.on false = true := by
          intro j oj hoj hlj e he hb
          rw [hset] at hlj ⊢
          rw [Bool.or_eq_true] at hlj ⊢
          rcases hlj with hlj | hlj
          · obtain rfl := of_decide_eq_true hlj
            rw [ho] at hoj
            injection hoj with hoj
            subst hoj
            exact .inr (hi2 e he hb)
          · exact .inr (hcl j oj hoj hlj e he hb)
        have bef : ∀ (L : Nat → Bool), (∀ j o, ops[j]? = some o → L j = true → ∀ e ∈ o.after, Region.binds .any e = true → L e.on = true) →
            ∀ j bf, (befores ops.toList [])[j]? = some bf → L j = true → ∀ i, bf.testBit i = true → L i = true := fun L hL =>
          befores_spec (fun j bf hj => by simp at hj) (fun k ok hok hLk => hL k ok (by simpa using hok) (by simpa using hLk))
        have hwr : ∀ l, l ∈ (recOf ops o (ef i)).r ∨ l ∈ (recOf ops o (ef i)).w → ∀ j, j < ops.size → l ∈ W j → (listed.getD j false = true ↔ j < i) := by
          intro l hl j hj hlj
          obtain ⟨oj, hoj⟩ := getop j hj
          have hrj := (hall' j oj hoj).2.2
          rw [hW j oj hoj] at hlj
          constructor
          · intro hLj
            rcases Nat.lt_trichotomy j i with h | h | h
            · exact h
            · subst h; rw [hif] at hLj; cases hLj
            · exfalso
              obtain ⟨bf, hb1, hb2⟩ := hconf i j _ _ h hrec hrj (conflict_of (x := l) (by
                rcases hl with hl | hl
                · exact .inr ⟨hl, hlj⟩
                · exact .inl ⟨hl, .inr hlj⟩))
              have := bef (listed.getD · false) hcl j bf hb1 hLj i hb2
              rw [hif] at this
              cases this
          · intro hji
            obtain ⟨bf, hb1, hb2⟩ := hconf j i _ _ hji hrj hrec (conflict_of (x := l) (.inl ⟨hlj, hl⟩))
            have := bef ((listed.setIfInBounds i true).getD · false) hclosed i bf hb1 (by rw [hset]; simp) j hb2
            rw [hset, Bool.or_eq_true] at this
            rcases this with this | this
            · have := of_decide_eq_true this
              omega
            · exact this
        have hat : ∀ l, l ∈ (recOf ops o (ef i)).r ∨ l ∈ (recOf ops o (ef i)).w → VS σ W (listed.getD · false) ops.size l = lv (σ i) l := fun l hl =>
          VS_at (hout l) (Nat.le_of_lt hilt) (hwr l hl)
        have hnew : ∀ l, VS σ W ((listed.setIfInBounds i true).getD · false) ops.size l = if l ∈ (recOf ops o (ef i)).w then lv (σ (i + 1)) l else VS σ W (listed.getD · false) ops.size l := by
          intro l
          by_cases hl : l ∈ (recOf ops o (ef i)).w
          · rw [if_pos hl]
            refine VS_at (hout l) (Nat.succ_le_of_lt hilt) fun j hj hlj => ?_
            have := hwr l (.inr hl) j hj hlj
            try simp only
            rw [hset, Bool.or_eq_true, decide_eq_true_eq, this]
            omega
          · rw [if_neg hl]
            refine VS_congr fun j hj hlj => ?_
            try simp only
            rw [hset]
            have : i ≠ j := by
              rintro rfl
              rw [hW i o ho] at hlj
              exact hl hlj
            simp [this]
        have hnid : (ef i).nid = (σ (i + 1)).nid := by rw [hst]; rfl
        refine evOp_sound hcall hnames ho hev (T := fun t => (VS σ W (listed.getD · false) ops.size (2 * t)).1) (H := fun b => (VS σ W (listed.getD · false) ops.size (2 * b + 1)).2)
          (fun t ht => ?_) (fun b hb => ?_) h1 h2 (fun b hb1 hb2 => ?_) fun a'' w'' ρ'' F'' ha'' hr'' hc'' => ?_
        · try simp only
          rw [hat, lv_tmp]
          rcases ht with ht | ht
          · exact .inl (by simp [recOf, ht])
          · exact .inr (by simp [recOf, ht])
        · try simp only
          rw [hat, lv_obj]
          rcases hb with hb | hb
          · refine .inl ?_
            simp only [recOf, List.mem_append, List.mem_map]
            exact .inr ⟨b, hb, rfl⟩
          · refine .inr ?_
            simp only [recOf, List.mem_append, List.mem_map]
            obtain ⟨q, hq, rfl⟩ := List.mem_map.1 hb
            exact .inr ⟨q, hq, rfl⟩
        · refine ⟨hz b ?_ ?_, ?_⟩
          · have := hmon 0 i (by omega) (by omega)
            rw [h0] at this
            omega
          · have := hmon (i + 1) ops.size (by omega) (Nat.le_refl _)
            rw [hn] at this
            omega
          · rintro ⟨k, hk, hLk, h4, h5⟩
            rcases Nat.lt_trichotomy k i with h | h | h
            · have := hmon (k + 1) i (by omega) (by omega)
              omega
            · subst h
              have hLk' : listed.getD k false = true := hLk
              rw [hif] at hLk'
              cases hLk'
            · have := hmon (i + 1) k (by omega) (by omega)
              omega
        · refine ih (listed.setIfInBounds i true) a'' w'' (by simpa using hs) hclosed ⟨ρ'', F'', ?_, ?_, ?_⟩ ?_
          · have : (fun t => (VS σ W ((listed.setIfInBounds i true).getD · false) ops.size (2 * t)).1) = setT (fun t => (VS σ W (listed.getD · false) ops.size (2 * t)).1) o.dst (ef i).val := by
              funext t
              rw [hnew]
              unfold setT
              by_cases hd : o.dst = some t
              · rw [if_pos hd, if_pos (by simp [recOf, hd]), lv_tmp, hst]
                have := congrFun (getElem?_setTm (v := (ef i).val) (evOp_facts hev).2) t
                simp only [setT, hd, if_true] at this
                simp only [stepSt]
                rw [hd]
                exact this
              · rw [if_neg hd, if_neg]
                simp only [recOf, List.mem_append, List.mem_map, not_or, not_exists, not_and]
                refine ⟨?_, fun q _ hq => by omega⟩
                cases hod : o.dst with
                | none => simp
                | some d =>
                  simp only [List.mem_singleton]
                  intro h
                  have h' : t = d := Nat.eq_of_mul_eq_mul_left (by decide : 0 < 2) h
                  exact hd (hod.trans (congrArg some h'.symm))
            rw [this]
            exact ha''
          · have : (fun b => (VS σ W ((listed.setIfInBounds i true).getD · false) ops.size (2 * b + 1)).2) = over (fun b => (VS σ W (listed.getD · false) ops.size (2 * b + 1)).2) (ef i).asg := by
              funext b
              rw [hnew]
              by_cases hb : b ∈ (ef i).asg.map (·.1)
              · rw [if_pos, lv_obj, hst]
                · show hget (hputs (σ i).hp (ef i).asg) b = _
                  rw [hget_hputs]
                  exact over_in hb
                · simp only [recOf, List.mem_append, List.mem_map]
                  obtain ⟨q, hq, rfl⟩ := List.mem_map.1 hb
                  exact .inr ⟨q, hq, rfl⟩
              · rw [over_out hb, if_neg]
                simp only [recOf, List.mem_append, List.mem_map, not_or, not_exists, not_and]
                refine ⟨?_, fun q hq hqb => hb (List.mem_map.2 ⟨q, hq, by omega⟩)⟩
                cases hod : o.dst with
                | none => simp
                | some d =>
                  simp only [List.mem_singleton]
                  omega
            rw [this]
            refine hr''.mono fun b ⟨hb1, hb2⟩ => ⟨⟨hb1, ?_⟩, ?_⟩
            · rintro ⟨k, hk, hLk, h4⟩
              refine hb2 ⟨k, hk, ?_, h4⟩
              have hLk' : listed.getD k false = true := hLk
              show (listed.setIfInBounds i true).getD k false = true
              rw [hset, hLk']
              simp
            · rintro ⟨h4, h5⟩
              refine hb2 ⟨i, hilt, ?_, h4, by rw [← hnid]; exact h5⟩
              try simp only
              rw [hset]
              simp
          · refine h3.trans (hc''.mono fun b hb => ?_)
            have : b ∈ (σ (i + 1)).dirty := by rw [hst]; exact stepSt_dirty.2 (.inr hb)
            have := hdirty (ops.size - (i + 1)) (i + 1) (by omega) b this
            rw [show i + 1 + (ops.size - (i + 1)) = ops.size by omega, hn] at this
            exact this
          · have : cntF ((listed.setIfInBounds i true).getD · false) (List.range ops.size) < cntF (listed.getD · false) (List.range ops.size) :=
              cntF_lt (fun x hx => by rw [hset, hx]; simp) hif (by rw [hset]; simp) (List.mem_range.2 hilt)
            omega
  have hrep : ∀ j, (Array.replicate ops.size false).getD j false = false := fun j => by
    rw [Array.getD_eq_getD_getElem?, Array.getElem?_replicate]
    split <;> rfl
  have hv0 : ∀ l, VS σ W ((Array.replicate ops.size false).getD · false) ops.size l = lv st l := fun l => by
    rw [VS_at (hout l) (Nat.zero_le _) (fun j _ _ => ⟨fun h => (by
      have h' : (Array.replicate ops.size false).getD j false = true := h
      rw [hrep] at h'
      cases h'), fun h => (by omega)⟩), h0]
  refine main ops.size _ a _ (by simp) (fun j o _ hl => by rw [hrep] at hl; cases hl) ⟨ρ, F, ?_, ?_, ?_⟩ ?_
  · have : (fun t => (VS σ W ((Array.replicate ops.size false).getD · false) ops.size (2 * t)).1) = fun t => st.tm[t]? := by
      funext t
      rw [hv0, lv_tmp]
    rw [this]
    exact ha
  · have : (fun b => (VS σ W ((Array.replicate ops.size false).getD · false) ops.size (2 * b + 1)).2) = hget st.hp := by
      funext b
      rw [hv0, lv_obj]
    rw [this]
    exact hr.drew.mono fun b hb => hb.1
  · exact ⟨Rho.le_refl ρ, fun _ _ => rfl, fun b _ hd hx => .inr ⟨b, hd, hx⟩, ⟨rfl, rfl, rfl, Nat.le_refl _⟩, fun _ _ _ => rfl⟩
  · have := cntF_len ((Array.replicate ops.size false).getD · false) (List.range ops.size)
    simpa using this
end
end Go.Proofs.Ytcolladpdmjloaa.Eng

/-
  The engine, part L: code, functions, and what is had of it.
-/
namespace Go.Proofs.Ytcolladpdmjloaa.Eng
open Go

section
variable {A : Type} {S : Sys A} {P : Program} {B : Nat}

def VX.real : VX → Exit
  | .normal => .normal
  | .exit id => .exit id
  | .ret => .ret

/-- What is asked of a program. -/
structure ProgOK (P : Program) : Prop where
  names : ∀ (f : FuncId) fn, P.funcs[f]? = some fn → (fn.name == "runtime.NumGoroutine") = false
  mixed : P.follows .mixedOrders = true

/-- From one state of the virtual machine to another: a piece of code leads there. -/
def Leads (S : Sys A) (B : Nat) (st st' : St A) (Z : Nat → Prop) (ρ : Rho) (F : Fm) (w : World) (K : Act → World → Prop) : Prop :=
  ∀ a' w' ρ' F', RA ρ' (fun t => st'.tm[t]?) a' → HR S B (Zm Z st.nid st'.nid) ρ' F' (hget st'.hp) w' → Chg (fun b => b ∈ st'.dirty) ρ F w ρ' F' w' → K a' w'

structure Later (st st' : St A) : Prop where
  nid : st.nid ≤ st'.nid
  dirty : ∀ b, b ∈ st.dirty → b ∈ st'.dirty
theorem Later.refl (st : St A) : Later st st := ⟨Nat.le_refl _, fun _ h => h⟩
theorem Later.trans {a b c : St A} (h : Later a b) (k : Later b c) : Later a c := ⟨Nat.le_trans h.nid k.nid, fun x hx => k.dirty x (h.dirty x hx)⟩

theorem Leads.next {st s st' : St A} {Z : Nat → Prop} {ρ ρ' : Rho} {F F' : Fm} {w w' : World} {K : Act → World → Prop} (h1 : Later st s) (h2 : Later s st')
    (hc : Chg (fun b => b ∈ s.dirty) ρ F w ρ' F' w') (h : Leads S B st st' Z ρ F w K) : Leads S B s st' (Zm Z st.nid s.nid) ρ' F' w' K :=
  fun a'' w'' ρ'' F'' ha hr hcc => h a'' w'' ρ'' F'' ha (by rw [← Zm_trans Z h1.nid h2.nid]; exact hr) ((hc.mono h2.dirty).trans hcc)

/-- What a piece of code does, by its evaluation. -/
def CodeOK (S : Sys A) (P : Program) (c : Code) (ev : St A → Tr (VX × St A)) : Prop :=
  ∀ st x st', (ev st).run = some (x, st') → Later st st' ∧
    ∀ B Z ρ F a w, RA ρ (fun t => st.tm[t]?) a → HR S B Z ρ F (hget st.hp) w → (∀ b, st.nid ≤ b → b < st'.nid → Z b) →
      ∀ Q, Leads S B st st' Z ρ F w (Q x.real) → c.wp P Q a w

theorem iter_later {f : St A → Tr (VX × St A)} (hf : ∀ st x st', (f st).run = some (x, st') → Later st st') : ∀ {n : Nat} {st : St A} {x : VX} {st' : St A}, (iter f n st).run = some (x, st') → Later st st'
  | 0, _, _, _, h => by simp [iter, Tr.run] at h
  | n + 1, st, x, st', h => by
    rw [iter, Tr.run_bind] at h
    obtain ⟨⟨y, s⟩, h1, h⟩ := h
    cases y with
    | normal => exact (hf _ _ _ h1).trans (iter_later hf h)
    | exit id => simp only [Tr.run_ok] at h; injection h with h2 h3; subst h2 h3; exact hf _ _ _ h1
    | ret => simp only [Tr.run_ok] at h; injection h with h2 h3; subst h2 h3; exact hf _ _ _ h1

/-- A loop whose rounds are evaluated one by one. -/
theorem loop_sound {c : Code} {ev : St A → Tr (VX × St A)} (hc : CodeOK S P c ev) : ∀ {n : Nat} {st : St A} {x : VX} {st' : St A}, (iter ev n st).run = some (x, st') →
    ∀ B Z ρ F a w, RA ρ (fun t => st.tm[t]?) a → HR S B Z ρ F (hget st.hp) w → (∀ b, st.nid ≤ b → b < st'.nid → Z b) →
      ∀ Q, Leads S B st st' Z ρ F w (Q x.real) → (Code.loop c).wp P Q a w := by
  -- rounds are counted down by a ghost: how many are left
  intro n st x st' h B Z ρ F a w ha hr hz Q hl
  let I : Nat → Act → World → Prop := fun m a' w' => ∃ (s : St A) (Z' : Nat → Prop) (ρ' : Rho) (F' : Fm), (iter ev m s).run = some (x, st') ∧ RA ρ' (fun t => s.tm[t]?) a' ∧ HR S B Z' ρ' F' (hget s.hp) w' ∧
    (∀ b, s.nid ≤ b → b < st'.nid → Z' b) ∧ Leads S B s st' Z' ρ' F' w' (Q x.real)
  have hstep : ∀ m a' w', I (m + 1) a' w' → c.wp P (Exit.then (fun a'' w'' => I m a'' w'') Q) a' w' := by
    rintro m a' w' ⟨s, Z', ρ', F', h1, h2, h3, h4, h5⟩
    rw [iter, Tr.run_bind] at h1
    obtain ⟨⟨y, s'⟩, hev, h1⟩ := h1
    obtain ⟨hlt, hwp⟩ := hc _ _ _ hev
    cases y with
    | normal =>
      have hlt' := iter_later (fun st x st' h => (hc st x st' h).1) h1
      refine hwp B Z' ρ' F' a' w' h2 h3 (fun b hb1 hb2 => h4 b hb1 (Nat.lt_of_lt_of_le hb2 hlt'.nid)) _ fun a'' w'' ρ'' F'' ha'' hr'' hc'' => ?_
      exact ⟨s', Zm Z' s.nid s'.nid, ρ'', F'', h1, ha'', hr'', fun b hb1 hb2 => ⟨h4 b (Nat.le_trans hlt.nid hb1) hb2, by omega⟩, h5.next hlt hlt' hc''⟩
    | exit id =>
      simp only [Tr.run_ok] at h1
      injection h1 with e1 e2
      subst e1 e2
      exact hwp B Z' ρ' F' a' w' h2 h3 h4 _ h5
    | ret =>
      simp only [Tr.run_ok] at h1
      injection h1 with e1 e2
      subst e1 e2
      exact hwp B Z' ρ' F' a' w' h2 h3 h4 _ h5
  have hzero : ∀ a' w', ¬I 0 a' w' := by
    rintro a' w' ⟨s, _, _, _, h1, _⟩
    simp [iter, Tr.run] at h1
  -- the least number of rounds is the measure
  have hex : ∀ a' w', (∃ m, I m a' w') → ∃ m, I m a' w' ∧ ∀ k, k < m → ¬I k a' w' := by
    rintro a' w' ⟨m, hm⟩
    induction m using Nat.strongRecOn with
    | _ m ih =>
      by_cases hk : ∃ k, k < m ∧ I k a' w'
      · obtain ⟨k, hk1, hk2⟩ := hk
        exact ih k hk1 hk2
      · exact ⟨m, hm, fun k hk1 hk2 => hk ⟨k, hk1, hk2⟩⟩
  let μ : Act → World → Nat := fun a' w' => open Classical in if h : ∃ m, I m a' w' then Classical.choose (hex a' w' h) else 0
  have hμ : ∀ a' w' m, I m a' w' → I (μ a' w') a' w' ∧ μ a' w' ≤ m := fun a' w' m hm => by
    have hh : ∃ m, I m a' w' := ⟨m, hm⟩
    have hs := Classical.choose_spec (hex a' w' hh)
    have he : μ a' w' = Classical.choose (hex a' w' hh) := by simp only [μ]; rw [dif_pos hh]
    rw [he]
    refine ⟨hs.1, ?_⟩
    rcases Nat.lt_or_ge m (Classical.choose (hex a' w' hh)) with hlt | hge
    · exact absurd hm (hs.2 m hlt)
    · exact hge
  refine wp_loop (fun a' w' => ∃ m, I m a' w') μ ⟨n, st, Z, ρ, F, h, ha, hr, hz, hl⟩ ?_
  rintro a' w' ⟨m, hm⟩
  obtain ⟨h1, _⟩ := hμ a' w' m hm
  cases hk : μ a' w' with
  | zero => rw [hk] at h1; exact absurd h1 (hzero a' w')
  | succ k =>
    rw [hk] at h1
    refine wp_mono (hstep k a' w' h1) fun e a'' w'' he => ?_
    cases e with
    | normal =>
      refine ⟨⟨k, he⟩, ?_⟩
      have := (hμ a'' w'' k he).2
      omega
    | _ => exact he

theorem evCode_sound (hP : ProgOK P) {call : FuncId → List SV → HP A → Nat → Tr (CR A)} (hcall : CallOK S P call) (rounds : Nat) : ∀ c : Code, CodeOK S P c (evCode P call rounds c)
  | .skip => fun st x st' h => by
    simp only [evCode, Tr.run_ok] at h
    injection h with h1 h2
    subst h1 h2
    exact ⟨Later.refl _, fun B Z ρ F a w ha hr _ Q hl => wp_skip (hl a w ρ F ha (by rw [Zm_self]; exact hr) (Chg.refl _ _ _ _))⟩
  | .label _ => fun st x st' h => by
    simp only [evCode, Tr.run_ok] at h
    injection h with h1 h2
    subst h1 h2
    exact ⟨Later.refl _, fun B Z ρ F a w ha hr _ Q hl => wp_label (hl a w ρ F ha (by rw [Zm_self]; exact hr) (Chg.refl _ _ _ _))⟩
  | .exit id => fun st x st' h => by
    simp only [evCode, Tr.run_ok] at h
    injection h with h1 h2
    subst h1 h2
    exact ⟨Later.refl _, fun B Z ρ F a w ha hr _ Q hl => wp_exit (hl a w ρ F ha (by rw [Zm_self]; exact hr) (Chg.refl _ _ _ _))⟩
  | .ret => fun st x st' h => by
    simp only [evCode, Tr.run_ok] at h
    injection h with h1 h2
    subst h1 h2
    exact ⟨Later.refl _, fun B Z ρ F a w ha hr _ Q hl => wp_ret (hl a w ρ F ha (by rw [Zm_self]; exact hr) (Chg.refl _ _ _ _))⟩
  | .region id ops draw => fun st x st' h => by
    cases draw with
    | false =>
      simp only [evCode, Tr.run_bind, Tr.run_ok] at h
      obtain ⟨s, hs, h⟩ := h
      injection h with h1 h2
      subst h1 h2
      obtain ⟨f1, f2⟩ := evOps_facts hs
      refine ⟨⟨f1, f2⟩, fun B Z ρ F a w ha hr hz Q hl => wp_region ?_⟩
      have := evOps_sound (S := S) (B := B) hcall hP.names (Q := Q) (i := 0) (by simp) hs ha hr hz hl
      rw [List.range_eq_range']
      simpa using this
    | true =>
      simp only [evCode, Tr.run_bind, Tr.run_chk, Tr.run_ok, Bool.and_eq_true] at h
      obtain ⟨⟨s, recs⟩, hs, ⟨he, hra⟩, h⟩ := h
      injection h with h1 h2
      subst h1 h2
      refine ⟨?_, fun B Z ρ F a w ha hr hz Q hl => draw_sound hcall hP.names hP.mixed hs he hra ha hr hz hl⟩
      obtain ⟨σ, ef, h0, hn, _, hall⟩ := evOpsL_steps hs
      have : ∀ d, d ≤ ops.toList.length → Later st (σ d) := by
        intro d
        induction d with
        | zero => intro _; rw [h0]; exact Later.refl _
        | succ d ih =>
          intro hd
          have hlt : d < ops.toList.length := by omega
          obtain ⟨g1, g2, _⟩ := hall d _ (List.getElem?_eq_getElem hlt)
          refine (ih (by omega)).trans ?_
          rw [g2]
          exact ⟨(evOp_facts g1).1, fun b hb => stepSt_dirty.2 (.inl hb)⟩
      have := this _ (Nat.le_refl _)
      rwa [hn] at this
  | .seq a b => fun st x st' h => by
    rw [evCode, Tr.run_bind] at h
    obtain ⟨⟨y, s⟩, h1, h⟩ := h
    obtain ⟨l1, w1⟩ := evCode_sound hP hcall rounds a st y s h1
    cases y with
    | normal =>
      obtain ⟨l2, w2⟩ := evCode_sound hP hcall rounds b s x st' h
      refine ⟨l1.trans l2, fun B Z ρ F ac w ha hr hz Q hl => wp_seq ?_⟩
      refine w1 B Z ρ F ac w ha hr (fun b hb1 hb2 => hz b hb1 (Nat.lt_of_lt_of_le hb2 l2.nid)) _ fun a' w' ρ' F' ha' hr' hc' => ?_
      exact w2 B _ ρ' F' a' w' ha' hr' (fun b hb1 hb2 => ⟨hz b (Nat.le_trans l1.nid hb1) hb2, by omega⟩) Q (hl.next l1 l2 hc')
    | exit id =>
      simp only [Tr.run_ok] at h
      injection h with e1 e2
      subst e1 e2
      exact ⟨l1, fun B Z ρ F ac w ha hr hz Q hl => wp_seq (w1 B Z ρ F ac w ha hr hz _ hl)⟩
    | ret =>
      simp only [Tr.run_ok] at h
      injection h with e1 e2
      subst e1 e2
      exact ⟨l1, fun B Z ρ F ac w ha hr hz Q hl => wp_seq (w1 B Z ρ F ac w ha hr hz _ hl)⟩
  | .cond c a b => fun st x st' h => by
    rw [evCode] at h
    split at h
    · rename_i sb hsb
      have hev : ∀ {ρ : Rho} {ac : Act}, RA ρ (fun t => st.tm[t]?) ac → ac.eval c = .bool sb.val := fun {ρ ac} ha => by
        cases c with
        | tmp t =>
          have := ha.eval_tmp t
          simp only [evalT, nth_eq] at hsb
          cases ht : st.tm[t]? with
          | none => simp [ht, SV.undef] at hsb
          | some v =>
            simp only [ht] at hsb
            subst hsb
            rw [ht] at this
            exact this
        | const v =>
          simp only [evalT, nth_eq] at hsb
          cases hv : ofVal v with
          | none => simp [hv, SV.undef] at hsb
          | some y =>
            simp only [hv] at hsb
            injection hsb with hsb
            injection hsb with hsb
            subst hsb
            exact ofVal_RV hv ρ
        | global g => simp [evalT, SV.undef] at hsb
        | func f => simp [evalT] at hsb
      rw [Tr.run_test] at h
      rcases h with ⟨h1, h⟩ | ⟨h1, h⟩
      · obtain ⟨l1, w1⟩ := evCode_sound hP hcall rounds a st x st' h
        exact ⟨l1, fun B Z ρ F ac w ha hr hz Q hl => wp_cond_true (by rw [hev ha, h1]) (w1 B Z ρ F ac w ha hr hz Q hl)⟩
      · obtain ⟨l1, w1⟩ := evCode_sound hP hcall rounds b st x st' h
        exact ⟨l1, fun B Z ρ F ac w ha hr hz Q hl => wp_cond_false (by rw [hev ha, h1]) (w1 B Z ρ F ac w ha hr hz Q hl)⟩
    · simp [Tr.run] at h
  | .block id c => fun st x st' h => by
    rw [evCode, Tr.run_bind] at h
    obtain ⟨⟨y, s⟩, h1, h⟩ := h
    obtain ⟨l1, w1⟩ := evCode_sound hP hcall rounds c st y s h1
    cases y with
    | normal =>
      simp only [Tr.run_ok] at h
      injection h with e1 e2
      subst e1 e2
      exact ⟨l1, fun B Z ρ F ac w ha hr hz Q hl => wp_block (w1 B Z ρ F ac w ha hr hz _ hl)⟩
    | ret =>
      simp only [Tr.run_ok] at h
      injection h with e1 e2
      subst e1 e2
      exact ⟨l1, fun B Z ρ F ac w ha hr hz Q hl => wp_block (w1 B Z ρ F ac w ha hr hz _ hl)⟩
    | exit k =>
      simp only at h
      cases hk : Nat.beq k id with
      | true =>
        obtain rfl := Nat.eq_of_beq_eq_true hk
        simp only [hk, Tr.run_ok] at h
        injection h with e1 e2
        subst e1 e2
        refine ⟨l1, fun B Z ρ F ac w ha hr hz Q hl => wp_block (w1 B Z ρ F ac w ha hr hz _ fun a' w' ρ' F' ha' hr' hc' => ?_)⟩
        show (if k = k then Q .normal a' w' else Q (.exit k) a' w')
        rw [if_pos rfl]
        exact hl a' w' ρ' F' ha' hr' hc'
      | false =>
        have hne : k ≠ id := Nat.ne_of_beq_eq_false hk
        simp only [hk, Tr.run_ok] at h
        injection h with e1 e2
        subst e1 e2
        refine ⟨l1, fun B Z ρ F ac w ha hr hz Q hl => wp_block (w1 B Z ρ F ac w ha hr hz _ fun a' w' ρ' F' ha' hr' hc' => ?_)⟩
        show (if k = id then Q .normal a' w' else Q (.exit k) a' w')
        rw [if_neg hne]
        exact hl a' w' ρ' F' ha' hr' hc'
  | .loop c => fun st x st' h => by
    rw [evCode] at h
    have hc := evCode_sound hP hcall rounds c
    exact ⟨iter_later (fun st x st' h => (hc st x st' h).1) h, loop_sound hc h⟩
  | .scope c => fun st x st' h => by
    rw [evCode] at h
    obtain ⟨l1, w1⟩ := evCode_sound hP hcall rounds c st x st' h
    refine ⟨l1, fun B Z ρ F ac w ha hr hz Q hl => wp_scope_straight (w1 B Z ρ F ac w ha hr hz _ fun a' w' ρ' F' ha' hr' hc' => ?_)⟩
    have := hl a' w' ρ' F' ha' hr' hc'
    cases x <;> exact this
  | .rangeFunc _ _ _ _ => fun st x st' h => by simp [evCode, Tr.run] at h
  | .goto _ => fun st x st' h => by simp [evCode, Tr.run] at h
  | .refuse _ => fun st x st' h => by simp [evCode, Tr.run] at h

/-! ### Functions -/
theorem vresult_sound {Z : Nat → Prop} {ρ : Rho} {F : Fm} {st : St A} {a : Act} {w : World} (ha : RA ρ (fun t => st.tm[t]?) a) (hr : HR S B Z ρ F (hget st.hp) w) {rv : ResultVar} {x : S1}
    (h : (vresult P st rv).run = some x) :
    ∃ v, ((match rv with | .tmp t => pure (a.tmps.getD t undef) | .cell q t => do loadVar t (← asAddr (a.tmps.getD q undef)) : Sem Value)).run P w = .ok v w ∧ R1 ρ x v := by
  cases rv with
  | tmp t =>
    simp only [vresult, nth_eq] at h
    split at h
    · rename_i y hy
      rw [Tr.run_ok] at h
      subst h
      have := ha.eval_tmp t
      simp only [hy] at this
      exact ⟨_, rfl, this⟩
    · simp [Tr.run] at h
  | cell q t =>
    simp only [vresult, nth_eq] at h
    split at h
    · rename_i y hy
      rw [Tr.run_bind] at h
      obtain ⟨⟨r, b⟩, hl, h⟩ := h
      rw [Tr.run_ok] at h
      subst h
      have := ha.eval_tmp q
      simp only [hy] at this
      obtain ⟨v, hv, hrv⟩ := vload_sound hl hr rfl (show RV ρ y _ from this)
      refine ⟨v, ?_, hrv⟩
      have hp : ∃ ad, a.tmps.getD q undef = .pointer (some ad) := by
        unfold vload at hl
        split at hl
        · obtain ⟨p, _, hp⟩ := this
          exact ⟨_, hp⟩
        · obtain ⟨p, _, hp⟩ := this
          exact ⟨_, hp⟩
        · simp [Tr.run] at hl
      obtain ⟨ad, had⟩ := hp
      simp only [had] at hv ⊢
      exact hv
    · simp [Tr.run] at h
theorem vresults_sound {Z : Nat → Prop} {ρ : Rho} {F : Fm} {st : St A} {a : Act} {w : World} (ha : RA ρ (fun t => st.tm[t]?) a) (hr : HR S B Z ρ F (hget st.hp) w) : ∀ {l : List ResultVar} {xs : List S1},
    (vresults P st l).run = some xs → ∃ vs : List Value, (l.mapM fun rv => (match rv with | .tmp t => pure (a.tmps.getD t undef) | .cell q t => do loadVar t (← asAddr (a.tmps.getD q undef)) : Sem Value)).run P w = .ok vs w ∧ F2 (R1 ρ) xs vs
  | [], xs, h => by simp only [vresults, Tr.run_ok] at h; subst h; exact ⟨[], rfl, trivial⟩
  | r :: l, xs, h => by
    simp only [vresults, Tr.run_bind, Tr.run_ok] at h
    obtain ⟨x, hx, ys, hy, rfl⟩ := h
    obtain ⟨v, hv, hrv⟩ := vresult_sound ha hr hx
    obtain ⟨vs, hvs, hrs⟩ := vresults_sound ha hr hy
    refine ⟨v :: vs, ?_, hrv, hrs⟩
    rw [List.mapM_cons, run_andThen_ok hv, run_andThen_ok hvs]
    rfl

def tupleVal : List Value → Value
  | [v] => v
  | vs => .tuple vs.toArray
theorem results_run {fn : Func} {tmps : Array Value} {w : World} {vs : List Value}
    (h : (fn.results.toList.mapM fun rv => (match rv with | .tmp t => pure (tmps.getD t undef) | .cell q t => do loadVar t (← asAddr (tmps.getD q undef)) : Sem Value)).run P w = .ok vs w) :
    (results fn tmps).run P w = .ok (tupleVal vs) w := by
  unfold results
  rw [Array.mapM_eq_mapM_toList, map_eq_pure_bind, bind_assoc]
  refine (run_andThen_ok (a := vs) (w' := w) h).trans ?_
  simp only [pure_bind]
  match vs with
  | [] => rfl
  | [v] => rfl
  | _ :: _ :: _ => simp [tupleVal]

theorem tupleOf_RS {ρ : Rho} : ∀ {xs : List S1} {vs : List Value}, F2 (R1 ρ) xs vs → RS ρ (tupleOf xs) (tupleVal vs)
  | [], [], _ => ⟨[], rfl, trivial⟩
  | [_], [_], h => h.1
  | _ :: _ :: _, v :: u :: vs, h => ⟨v :: u :: vs, rfl, h⟩
  | [], _ :: _, h => h.elim
  | _ :: _, [], h => h.elim
  | [_], _ :: _ :: _, h => h.2.elim
  | _ :: _ :: _, [_], h => h.2.elim

/-- What is asked of one function's evaluation. -/
def FunOK (S : Sys A) (P : Program) (f : FuncId) (ev : List SV → HP A → Nat → Tr (CR A)) : Prop :=
  ∀ args hp nid r, (ev args hp nid).run = some r → ∀ B Z ρ F w (vargs : List Value), HR S B Z ρ F (hget hp) w → (∀ b, nid ≤ b → b < r.nid → Z b) → F2 (RS ρ) args vargs →
    Calls P f vargs.toArray w fun e w' => ∃ v ρ' F', e = .returned v ∧ RS ρ' r.val v ∧ HR S B (Zm Z nid r.nid) ρ' F' (hget r.hp) w' ∧ Chg (fun b => b ∈ r.dirty) ρ F w ρ' F' w'

theorem evBody_sound (hP : ProgOK P) {call : FuncId → List SV → HP A → Nat → Tr (CR A)} (hcall : CallOK S P call) (rounds : Nat) {f : FuncId} {fn : Func} (hf : P.funcs[f]? = some fn) :
    FunOK S P f (evBody P call rounds fn) := by
  intro args hp nid r hrun B Z ρ F w vargs hr hz hargs
  unfold evBody at hrun
  split at hrun
  · simp [Tr.run] at hrun
  · rename_i c hc
    rw [Tr.run_bind] at hrun
    obtain ⟨⟨x, st'⟩, hev, hrun⟩ := hrun
    obtain ⟨l1, w1⟩ := evCode_sound hP hcall rounds c _ _ _ hev
    have hx : x ≠ .exit 0 ∧ (x = .normal ∨ x = .ret) := by
      cases x with
      | normal => exact ⟨by simp, .inl rfl⟩
      | ret => exact ⟨by simp, .inr rfl⟩
      | exit id => simp [Tr.run] at hrun
    have hres : ((vresults P st' fn.results.toList).bind fun l => .ok (⟨tupleOf l, st'.hp, st'.dirty, st'.nid⟩ : CR A)).run = some r := by
      rcases hx.2 with rfl | rfl <;> exact hrun
    rw [Tr.run_bind] at hres
    obtain ⟨xs, hxs, hres⟩ := hres
    rw [Tr.run_ok] at hres
    subst hres
    refine calls_of_wp hf hc ?_
    have hlen : args.length = vargs.length := hargs.length
    refine w1 B Z ρ F _ w ⟨rfl, fun t => ?_⟩ hr hz _ fun a' w' ρ' F' ha' hr' hc' => ?_
    · have h2 : F2 (RS ρ) (args ++ List.replicate (fn.ntmps - args.length) .undef) (vargs ++ List.replicate (fn.ntmps - vargs.toArray.size) undef) := by
        rw [show vargs.toArray.size = args.length by simp [hlen]]
        exact hargs.append (F2.replicate _ (RS_undef ρ))
      have h3 : (vargs.toArray ++ Array.replicate (fn.ntmps - vargs.toArray.size) undef)[t]? = (vargs ++ List.replicate (fn.ntmps - vargs.toArray.size) undef)[t]? := by
        rw [← Array.getElem?_toList]
        simp
      show RT ρ (args ++ List.replicate (fn.ntmps - args.length) SV.undef)[t]? (vargs.toArray ++ Array.replicate (fn.ntmps - vargs.toArray.size) undef)[t]?
      rw [h3]
      cases hg : (args ++ List.replicate (fn.ntmps - args.length) SV.undef)[t]? with
      | none => rw [h2.getNone t hg]; trivial
      | some v =>
        obtain ⟨u, hu, huv⟩ := h2.get t hg
        rw [hu]
        exact huv
    · obtain ⟨vs, hvs, hrs⟩ := vresults_sound ha' hr' hxs
      have hq := results_run hvs
      have : bodyPost P fn (fun e w' => ∃ v ρ' F', e = .returned v ∧ RS ρ' (tupleOf xs) v ∧ HR S B (Zm Z nid st'.nid) ρ' F' (hget st'.hp) w' ∧ Chg (fun b => b ∈ st'.dirty) ρ F w ρ' F' w') .normal a' w' :=
        ⟨ha'.defers, _, hq, _, ρ', F', rfl, tupleOf_RS hrs, hr', hc'⟩
      rcases hx.2 with rfl | rfl <;> exact this

theorem evF_sound (hP : ProgOK P) {I : FuncId → Option (Intr A)} (hI : ∀ f i, I f = some i → FunOK S P f i) (rounds : Nat) : ∀ d f, FunOK S P f (evF P I rounds d f)
  | 0, f => fun args hp nid r h => by simp [evF, Tr.run] at h
  | d + 1, f => fun args hp nid r h => by
    have ih : CallOK S P (evF P I rounds d) := fun g args hp nid r h _ => evF_sound hP hI rounds d g args hp nid r h
    rw [evF] at h
    split at h
    · rename_i i hi
      exact hI f i hi args hp nid r h
    · split at h
      · rename_i fn hfn
        exact evBody_sound hP ih rounds hfn args hp nid r h
      · simp [Tr.run] at h

/-- A function that is evaluated over no memory of its own: what it returns, and that nothing that was there has turned. -/
theorem calls_of_ev (hP : ProgOK P) {I : FuncId → Option (Intr A)} (hI : ∀ f i, I f = some i → FunOK S P f i) (rounds d : Nat) {f : FuncId} {args : List SV} {vargs : List Value} {w : World} {R : Value → Prop}
    (h : (evF P I rounds d f args [] 0).All fun r => ∀ ρ v, RS ρ r.val v → R v) (hargs : F2 (RS fun _ => none) args vargs) :
    Calls P f vargs.toArray w fun e w' => ∃ v, e = .returned v ∧ R v ∧ RowKit.Below w.heap.size w w' := by
  obtain ⟨r, hr, hR⟩ := Tr.all_iff.1 h
  have hhr : HR S w.heap.size (fun _ => True) (fun _ => none) (fun _ _ => False) (hget ([] : HP A)) w :=
    ⟨fun b o ho => by simp [hget] at ho, fun _ _ _ h => h, fun _ _ h => h.elim, fun _ _ _ h => h.elim, fun _ _ => rfl, Nat.le_refl _⟩
  refine (evF_sound hP hI rounds d f args [] 0 r hr w.heap.size _ _ _ w vargs hhr (fun _ _ _ => trivial) hargs).mono ?_
  rintro e w' ⟨v, ρ', F', he, hv, _, hc⟩
  exact ⟨v, he, hR ρ' v hv, ⟨hc.same.os, hc.same.tape, hc.same.output, hc.same.size, fun k hk => hc.heap k hk fun _ _ h => h⟩⟩
end
end Go.Proofs.Ytcolladpdmjloaa.Eng
