/-
  The engine, part D: each operation but the call.
-/
import Derived.Test.YtlkanbgcghjhnaaEngC
namespace Go.Proofs.Ytlkanbgcghjhnaa.Eng
open Go

section
variable {A : Type} {S : Sys A} {P : Program} {B : Nat} {Z : Nat → Prop} {ρ : Rho} {F : Fm} {H : Nat → Option (VObj A)} {w : World} {nid : Nat}

theorem lands_val {s : Sem Value} {v : Value} {w' : World} {K : Value → World → Prop} (h : s.run P w = .ok v w') (hk : K v w') :
    Lands P ((do pure (Next.value (← s)) : Sem Next).run P w) K := by
  rw [run_andThen_ok h]
  exact hk
theorem lands_pure {v : Value} {K : Value → World → Prop} (hk : K v w) : Lands P ((pure (Next.value v) : Sem Next).run P w) K := hk
theorem lands_unit {s : Sem Unit} {w' : World} {K : Value → World → Prop} (h : s.run P w = .ok () w') (hk : K undef w') :
    Lands P ((do s; pure Next.skip : Sem Next).run P w) K := by
  rw [run_andThen_ok h]
  exact hk

theorem RS_undef (ρ : Rho) : RS ρ .undef undef := ⟨[], rfl, trivial⟩

/-! ### Values of types -/
theorem ofVal_RV {v : Value} {x : VV} (h : ofVal v = some x) (ρ : Rho) : RV ρ x v := by
  unfold ofVal at h
  split at h
  · split at h
    · rename_i hk
      injection h with h
      subst h
      simp only [Bool.and_eq_true, decide_eq_true_eq] at hk
      exact ⟨rfl, hk⟩
    · cases h
  all_goals first
    | (injection h with h; subst h; first | rfl | exact ⟨rfl, rfl⟩)
    | cases h
theorem ofVals_F2 : ∀ {l : List Value} {m : List VV}, ofVals l = some m → ∀ ρ, F2 (RV ρ) m l
  | [], m, h, ρ => by simp [ofVals] at h; subst h; trivial
  | v :: r, m, h, ρ => by
    unfold ofVals at h
    split at h
    · rename_i x l hx hl
      injection h with h
      subst h
      exact ⟨ofVal_RV hx ρ, ofVals_F2 hl ρ⟩
    · cases h
theorem zeroS_spec {t : TypeId} {z : S1} (h : zeroS P t = some z) : ∃ v, (∀ w, (zeroValue t).run P w = .ok v w) ∧ ∀ ρ, R1 ρ z v := by
  unfold zeroS at h
  cases hi : P.info? t with
  | none => simp [hi] at h
  | some i =>
    simp only [hi] at h
    have hr : ∀ v, i.zero = some v → ∀ w, (zeroValue t).run P w = .ok v w := fun v hv w => by
      unfold zeroValue
      rw [run_andThen_ok (run_typeInfo w hi)]
      simp only [hv]
      rfl
    split at h
    · rename_i cs hz
      simp only [Option.map_eq_some_iff] at h
      obtain ⟨m, hm, rfl⟩ := h
      exact ⟨_, hr _ hz, fun ρ => ⟨cs.toList, by simp, ofVals_F2 hm ρ⟩⟩
    · rename_i v hv _
      simp only [Option.map_eq_some_iff] at h
      obtain ⟨m, hm, rfl⟩ := h
      exact ⟨_, hr _ (by assumption), fun ρ => ofVal_RV hm ρ⟩
    · cases h

theorem RS_one {ρ : Rho} {x : VV} {v : Value} (h : RV ρ x v) : RS ρ (.v x) v := h
theorem SV_v_def (x : VV) : SV.v x = SV.s (.one x) := rfl

theorem run_newVar {t : TypeId} {v : Value} : (newVar t v).run P w = .ok ⟨w.heap.size, 0, none⟩ (w.alloc (.cells v.cells t)) := by
  simp [newVar, newRow, newObj, Sem.run]

theorem alloc_sound {ty : TypeId} {z : S1} (hz : zeroS P ty = some z) (h : HR S B Z ρ F H w) (hZ : Z nid) :
    Lands P ((do pure (Next.value (← Instr.alloc ty true (.tuple #[]))) : Sem Next).run P w) (Done S B Z ρ F H w nid ⟨.v (.ptr nid 0), [], [(nid, some (.cells z.cells ty))], nid + 1⟩) := by
  obtain ⟨v, hv, hr⟩ := zeroS_spec hz
  refine lands_val (v := .pointer (some ⟨w.heap.size, 0, none⟩)) (w' := w.alloc (.cells v.cells.toList.toArray ty)) ?_ ?_
  · unfold Instr.alloc
    rw [run_andThen_ok (hv w)]
    simp only
    rw [run_andThen_ok run_newVar]
    simp
  · exact done_new h hZ (R1.cells (hr ρ)) fun ρ' _ hn => ⟨_, hn, rfl⟩
theorem box_sound {ty : TypeId} {z : S1} {v : Value} (hv : R1 ρ z v) (h : HR S B Z ρ F H w) (hZ : Z nid) :
    Lands P ((do pure (Next.value (← Instr.box ty v)) : Sem Next).run P w) (Done S B Z ρ F H w nid ⟨.v (.ptr nid 0), [], [(nid, some (.cells z.cells ty))], nid + 1⟩) := by
  refine lands_val (v := .pointer (some ⟨w.heap.size, 0, none⟩)) (w' := w.alloc (.cells v.cells.toList.toArray ty)) ?_ ?_
  · unfold Instr.box
    rw [run_andThen_ok run_newVar]
    simp
  · exact done_new h hZ (R1.cells hv) fun ρ' _ hn => ⟨_, hn, rfl⟩

/-! ### Loads and stores -/
theorem cell_of_blk {w : World} {k off : Nat} {arr : Array Value} {ty : TypeId} {fr : Nat × Nat} (h : w.heap[k]? = some (.cells arr ty fr)) : w.cell? ⟨k, off, none⟩ = arr[off]? := by
  simp [World.cell?, h]
theorem add_mk (k off j : Nat) : (Addr.add ⟨k, off, none⟩ j) = ⟨k, off + j, none⟩ := by
  unfold Addr.add
  split
  · rename_i h0; subst h0; rfl
  · rfl

theorem vv_real (ρ : Rho) (k : CK) (n : Int) (h : k.fits n) : RV ρ (k.vv n) (k.real n) := by
  cases k with
  | int k => exact ⟨rfl, h⟩
  | bool => rfl
/-- A table that is there. -/
theorem tab_live {b : Nat} {o : Option (VObj A)} {ks : List CK} {xs : List (List Int)} (h : HR S B Z ρ F H w) (ho : H b = o) (ht : tabOf o = some (ks, xs)) :
    ∃ p, ρ b = some p ∧ p.sz = ks.length ∧ (xs ≠ [] → ∃ arr ty fr, w.heap[p.blk]? = some (.cells arr ty fr) ∧ TabCells ks xs p arr) := by
  unfold tabOf at ht
  split at ht
  · injection ht with ht
    injection ht with h1 h2
    subst h1 h2
    obtain ⟨p, arr, h1, _, _, h2, _, h3⟩ := h.live _ _ ho
    exact ⟨p, h1, h3.1, fun _ => ⟨arr, _, _, h2, h3⟩⟩
  · injection ht with ht
    injection ht with h1 h2
    subst h1 h2
    obtain ⟨p, h1, _, h2, h3⟩ := h.live _ _ ho
    exact ⟨p, h1, h2, fun hne => by
      obtain ⟨arr, ty, fr, _, g1, g2⟩ := h3 hne
      exact ⟨arr, ty, fr, g1, g2⟩⟩
  · cases ht
theorem tab_live1 {b : Nat} {o : Option (VObj A)} {ks : List CK} {xs : List (List Int)} {r : Nat} (h : HR S B Z ρ F H w) (ho : H b = o) (ht : tabOf o = some (ks, xs)) (hr : r < xs.length) :
    ∃ p arr ty fr, ρ b = some p ∧ w.heap[p.blk]? = some (.cells arr ty fr) ∧ TabCells ks xs p arr := by
  obtain ⟨p, h1, _, h2⟩ := tab_live h ho ht
  obtain ⟨arr, ty, fr, g1, g2⟩ := h2 (by rintro rfl; simp at hr)
  exact ⟨p, arr, ty, fr, h1, g1, g2⟩
theorem tab_at {ks : List CK} {xs : List (List Int)} {p : Pl} {arr : Array Value} {r c : Nat} {k : CK} (ht : TabCells ks xs p arr) (hr : r < xs.length) (hk : ks[c]? = some k) :
    k.fits (tabAt xs r c) ∧ arr[p.off0 + r * p.sz + c]? = some (k.real (tabAt xs r c)) := by
  obtain ⟨n, h1, h2, h3⟩ := ht.2.2.2 r _ (List.getElem?_eq_getElem hr) c k hk
  have : tabAt xs r c = n := by
    unfold tabAt
    rw [List.getD_eq_getElem?_getD, List.getD_eq_getElem?_getD, List.getElem?_eq_getElem hr, Option.getD_some, h1, Option.getD_some]
  rw [this]
  exact ⟨h2, h3⟩
theorem tab_cells {ks : List CK} {xs : List (List Int)} {p : Pl} {arr : Array Value} {r : Nat} (ht : TabCells ks xs p arr) (hr : r < xs.length) : ∀ (n c : Nat), c + n ≤ ks.length →
    ∃ cs : List Value, F2 (RV ρ) (tabCells ks xs r c n) cs ∧ cs.length = n ∧ ∀ (j : Nat) (u : Value), cs[j]? = some u → arr[p.off0 + r * p.sz + c + j]? = some u
  | 0, c, _ => ⟨[], trivial, rfl, fun j u hu => by simp at hu⟩
  | n + 1, c, h => by
    have hk : ks[c]? = some ks[c] := List.getElem?_eq_getElem (by omega)
    obtain ⟨cs, h1, h2, h3⟩ := tab_cells ht hr n (c + 1) (by omega)
    obtain ⟨h4, h5⟩ := tab_at ht hr hk
    refine ⟨ks[c].real (tabAt xs r c) :: cs, ?_, by simp [h2], fun j u hu => ?_⟩
    · rw [tabCells, hk]
      exact ⟨vv_real ρ _ _ h4, h1⟩
    · cases j with
      | zero =>
        simp only [List.getElem?_cons_zero, Option.some.injEq] at hu
        rw [Nat.add_zero, h5, hu]
      | succ j =>
        have := h3 j u (by simpa using hu)
        rw [← this]
        congr 1
        omega

theorem vload_sound {hp : HP A} {ty : TypeId} {x : VV} {rx : Value} {v : S1} {b : Nat} (hrun : (vload P hp ty x).run = some (v, b)) (h : HR S B Z ρ F H w)
    (hag : H b = hget hp b) (hx : RV ρ x rx) : ∃ rv, (Instr.loadAt ty rx).run P w = .ok rv w ∧ R1 ρ v rv := by
  unfold vload at hrun
  split at hrun
  · rename_i b' off
    obtain ⟨p, hp', rfl⟩ := hx
    have hl : ∀ rv, (loadVar ty ⟨p.blk, off, none⟩).run P w = .ok rv w → (Instr.loadAt ty (.pointer (some ⟨p.blk, off, none⟩))).run P w = .ok rv w := fun rv hr => by
      unfold Instr.loadAt Instr.sureAddr
      simp only [pure_bind]
      exact hr
    split at hrun
    · rename_i l t hg
      split at hrun
      · rename_i hk
        rw [Tr.run_chk, Tr.run_ok] at hrun
        obtain ⟨hlen, he⟩ := hrun
        injection he with h1 h2
        subst h1 h2
        obtain ⟨q, arr, hq, hf, hw, hlr⟩ := h.live _ _ (hag.trans hg)
        rw [hp'] at hq
        injection hq with hq
        subst hq
        simp only [decide_eq_true_eq] at hlen
        have hcs := (hlr.drop off).take (P.cellsOf ty)
        refine ⟨_, hl _ (run_loadVar_agg (cs := (arr.toList.drop off).take (P.cellsOf ty)) hk ?_ fun j u hu => ?_), _, rfl, hcs⟩
        · rw [← hcs.length]
          simp
          omega
        · rw [add_mk, cell_of_blk hw]
          rw [List.getElem?_take] at hu
          split at hu
          · rw [List.getElem?_drop] at hu
            simpa using hu
          · cases hu
      · rename_i hk
        rw [Tr.run_opt] at hrun
        obtain ⟨u, hu, he⟩ := hrun
        rw [Tr.run_ok] at he
        injection he with h1 h2
        subst h1 h2
        obtain ⟨q, arr, hq, hf, hw, hlr⟩ := h.live _ _ (hag.trans hg)
        rw [hp'] at hq
        injection hq with hq
        subst hq
        obtain ⟨ru, hru, hr⟩ := hlr.get off hu
        exact ⟨ru, hl _ (run_loadVar_one hk (by rw [cell_of_blk hw]; simpa using hru)), hr⟩
      · simp [Tr.run] at hrun
    · simp [Tr.run] at hrun
  · rename_i b' r c
    obtain ⟨p, hp', rfl⟩ := hx
    rw [Tr.run_opt] at hrun
    obtain ⟨⟨ks, xs⟩, ht, hrun⟩ := hrun
    simp only at hrun
    split at hrun
    · rename_i hk
      rw [Tr.run_chk, Tr.run_ite] at hrun
      obtain ⟨hlen, ⟨hr, he⟩ | ⟨_, he⟩⟩ := hrun
      · rw [Tr.run_ok] at he
        injection he with h1 h2
        subst h1 h2
        have hlen := of_decide_eq_true hlen
        have hr := of_decide_eq_true hr
        obtain ⟨q, arr, ty', fr, hq, hw, htc⟩ := tab_live1 h hag ht hr
        rw [hp'] at hq
        injection hq with hq
        subst hq
        obtain ⟨cs, h1, h2, h3⟩ := tab_cells (ρ := ρ) htc hr (P.cellsOf ty) c hlen
        refine ⟨.agg cs.toArray, ?_, cs, rfl, h1⟩
        unfold Instr.loadAt Instr.sureAddr
        simp only [pure_bind]
        exact run_loadVar_agg (cs := cs) hk h2 fun j u hu => by rw [add_mk, cell_of_blk hw]; exact h3 j u hu
      · cases he
    · rename_i hk
      rw [Tr.run_opt] at hrun
      obtain ⟨k, hkk, hrun⟩ := hrun
      rw [Tr.run_ite] at hrun
      obtain ⟨hr, he⟩ | ⟨_, he⟩ := hrun
      · rw [Tr.run_ok] at he
        injection he with h1 h2
        subst h1 h2
        have hr := of_decide_eq_true hr
        obtain ⟨q, arr, ty', fr, hq, hw, htc⟩ := tab_live1 h hag ht hr
        rw [hp'] at hq
        injection hq with hq
        subst hq
        obtain ⟨h4, h5⟩ := tab_at htc hr hkk
        refine ⟨k.real (tabAt xs r.val c), ?_, vv_real ρ _ _ h4⟩
        unfold Instr.loadAt Instr.sureAddr
        simp only [pure_bind]
        exact run_loadVar_one hk (by rw [cell_of_blk hw]; exact h5)
      · cases he
    · simp [Tr.run] at hrun
  · simp [Tr.run] at hrun

/-- Numbers laid into columns. -/
theorem ckNums_ok : ∀ {ks : List CK} {vs : List VV} {ns : List Int} {us : List Value}, ckNums ks vs = some ns → F2 (RV ρ) vs us →
    ns.length = vs.length ∧ vs.length ≤ ks.length ∧ ∀ (j : Nat) (k : CK), ks[j]? = some k → j < ns.length → ∃ n, ns[j]? = some n ∧ k.fits n ∧ us[j]? = some (k.real n)
  | ks, [], ns, us, h, _ => by
    have : ns = [] := by cases ks <;> (simp only [ckNums] at h; injection h with h; exact h.symm)
    subst this
    exact ⟨rfl, Nat.zero_le _, fun j k _ hj => by simp at hj⟩
  | k :: ks, v :: vs, ns, u :: us, h, hu => by
    unfold ckNums at h
    split at h
    · rename_i n l h1 h2
      injection h with h
      subst h
      obtain ⟨h3, h4, h5⟩ := ckNums_ok h2 hu.2
      refine ⟨by simp [h3], by simp; omega, fun j k' hk hj => ?_⟩
      cases j with
      | zero =>
        simp only [List.getElem?_cons_zero, Option.some.injEq] at hk
        subst hk
        have hu1 := hu.1
        refine ⟨n, rfl, ?_⟩
        unfold CK.num at h1
        split at h1
        · rename_i k1 k2 s
          split at h1
          · rename_i he
            subst he
            injection h1 with h1
            subst h1
            exact ⟨hu1.2, congrArg some hu1.1⟩
          · cases h1
        · rename_i b
          injection h1 with h1
          subst h1
          have hu1 : u = .bool b.val := hu1
          subst hu1
          cases b.val
          · exact ⟨by simp [CK.fits], rfl⟩
          · exact ⟨by simp [CK.fits], rfl⟩
        · cases h1
      | succ j => exact h5 j k' (by simpa using hk) (by simpa using hj)
    · cases h
  | [], _ :: _, _, _, h, _ => by simp [ckNums] at h
  | _ :: _, _ :: _, _, [], _, hu => hu.elim
theorem tab_store {ks : List CK} {xs : List (List Int)} {p : Pl} {arr : Array Value} {r c : Nat} {vs : List VV} {ns : List Int} {us : List Value} (ht : TabCells ks xs p arr) (hr : r < xs.length) (hns : ckNums (ks.drop c) vs = some ns) (hu : F2 (RV ρ) vs us)
    (hc : c ≤ ks.length) : TabCells ks (xs.set r (splice (xs.getD r []) c ns)) p (splice arr.toList (p.off0 + r * p.sz + c) us).toArray ∧ p.off0 + r * p.sz + c + us.length ≤ arr.size := by
  obtain ⟨h1, h2, h3, h4⟩ := ht
  obtain ⟨e1, e2, e3⟩ := ckNums_ok hns hu
  have e4 : us.length = ns.length := by rw [e1, hu.length]
  rw [List.length_drop] at e2
  have hrow : (r + 1) * p.sz ≤ p.rows * p.sz := Nat.mul_le_mul_right _ (by omega)
  rw [Nat.add_mul, Nat.one_mul] at hrow
  have hfit : p.off0 + r * p.sz + c + us.length ≤ arr.size := by omega
  refine ⟨⟨h1, by rw [List.length_set]; exact h2, by simpa [splice_length] using h3, fun i row hi j k hk => ?_⟩, hfit⟩
  have hj : j < ks.length := by
    rcases Nat.lt_or_ge j ks.length with h | h
    · exact h
    · rw [List.getElem?_eq_none h] at hk; cases hk
  have hget : ∀ q, (splice arr.toList (p.off0 + r * p.sz + c) us).toArray[q]? = if p.off0 + r * p.sz + c ≤ q ∧ q < p.off0 + r * p.sz + c + us.length then us[q - (p.off0 + r * p.sz + c)]? else arr[q]? := fun q => by
    rw [List.getElem?_toArray, splice_get _ _ _ _ (by rw [Array.length_toList]; exact hfit)]
    simp
  by_cases hir : i = r
  · subst hir
    rw [List.getElem?_set_self hr] at hi
    injection hi with hi
    subst hi
    have hold : xs[i]? = some (xs.getD i []) := by
      rw [List.getD_eq_getElem?_getD, List.getElem?_eq_getElem hr]
      rfl
    obtain ⟨n0, o1, o2, o3⟩ := h4 i _ hold j k hk
    have hlen : ks.length ≤ (xs.getD i []).length := by
      rcases Nat.lt_or_ge (xs.getD i []).length ks.length with hlt | hge
      · have hk2 : ks[(xs.getD i []).length]? = some ks[(xs.getD i []).length] := List.getElem?_eq_getElem hlt
        obtain ⟨n2, q1, _⟩ := h4 i _ hold _ _ hk2
        rw [List.getElem?_eq_none (Nat.le_refl _)] at q1
        cases q1
      · exact hge
    rw [splice_get _ _ _ _ (by omega), hget]
    by_cases hin : c ≤ j ∧ j < c + ns.length
    · rw [if_pos hin, if_pos (by omega)]
      have hk3 : (ks.drop c)[j - c]? = some k := by rw [List.getElem?_drop, show c + (j - c) = j by omega]; exact hk
      obtain ⟨n, q1, q2, q3⟩ := e3 (j - c) k hk3 (by omega)
      refine ⟨n, q1, q2, ?_⟩
      rw [← q3]
      congr 1
      omega
    · rw [if_neg hin, if_neg (by omega)]
      exact ⟨n0, o1, o2, o3⟩
  · rw [List.getElem?_set_ne (Ne.symm hir)] at hi
    obtain ⟨n, q1, q2, q3⟩ := h4 i row hi j k hk
    refine ⟨n, q1, q2, ?_⟩
    rw [hget, if_neg ?_]
    · exact q3
    · rintro ⟨g1, g2⟩
      rcases Nat.lt_or_ge i r with hlt | hge
      · have : (i + 1) * p.sz ≤ r * p.sz := Nat.mul_le_mul_right _ hlt
        rw [Nat.add_mul, Nat.one_mul] at this
        omega
      · have : (r + 1) * p.sz ≤ i * p.sz := Nat.mul_le_mul_right _ (by omega)
        rw [Nat.add_mul, Nat.one_mul] at this
        omega

theorem F2_one : ∀ {l : List VV} {m : List Value} (_ : F2 (RV ρ) l m) (i : Nat) (u : Value), m[i]? = some u → u.oneCell' = true
  | [], [], _, i, u, hu => by simp at hu
  | _ :: _, _ :: _, hm, 0, u, hu => by simp at hu; subst hu; exact RV.one hm.1
  | _ :: _, _ :: _, hm, i + 1, u, hu => F2_one hm.2 i u (by simpa using hu)
  | [], _ :: _, hm, _, _, _ => hm.elim
  | _ :: _, [], hm, _, _, _ => hm.elim
theorem store_run {ty t : TypeId} {ry : Value} {k off : Nat} {arr : Array Value} (hk : known P ty = true) (hn : ry.cells.toList.length = P.cellsOf ty) (hw : w.heap[k]? = some (.cells arr t (0, 0)))
    (hfit : off + ry.cells.toList.length ≤ arr.size) (hone : ∀ u ∈ ry.cells.toList, u.oneCell' = true) :
    (Instr.storeAt ty (.pointer (some ⟨k, off, none⟩)) ry).run P w = .ok () (setBlk w k (.cells (splice arr.toList off ry.cells.toList).toArray t (0, 0))) := by
  have hst := run_storeCells (P := P) (ty := t) (k := k) (off := off) ry.cells.toList 0 w arr hw (by omega) hone
  have hlt : k < w.heap.size := by
    rcases Nat.lt_or_ge k w.heap.size with h1 | h1
    · exact h1
    · rw [Array.getElem?_eq_none h1] at hw; cases hw
  unfold Instr.storeAt Instr.sureAddr
  simp only [pure_bind]
  unfold storeVar
  rw [run_andThen_ok (run_sizeOf_k hk)]
  rw [if_neg (by rw [← Array.length_toList, hn]; simp)]
  rw [hst]
  split
  · rename_i h0
    rw [h0, splice_nil]
    congr 1
    unfold setBlk
    rw [Array.toArray_toList]
    cases w
    simp only at hw hlt ⊢
    congr 1
    apply Array.ext_getElem?
    intro x
    rw [Array.getElem?_setIfInBounds]
    split
    · rename_i hx
      subst hx
      rw [hw]
    · rfl
  · simp
theorem store_sound {hp : HP A} {ty : TypeId} {x : VV} {y : S1} {rx ry : Value} {b : Nat} {o : VObj A} (hk : known P ty = true) (hn : y.cells.length = P.cellsOf ty)
    (hrun : (vstore hp x y.cells).run = some (b, o)) (h : HR S B Z ρ F H w) (hag : H b = hget hp b) (hx : RV ρ x rx) (hy : R1 ρ y ry) :
    Lands P ((do Instr.storeAt ty rx ry; pure Next.skip : Sem Next).run P w) (Done S B Z ρ F H w nid ⟨.undef, [b], [(b, some o)], nid⟩) := by
  have hcs := R1.cells hy
  have hlenC : ry.cells.toList.length = y.cells.length := hcs.length.symm
  have hone : ∀ u ∈ ry.cells.toList, u.oneCell' = true := fun u hu => by
    obtain ⟨i, hi⟩ := List.getElem?_of_mem hu
    exact F2_one hcs i u hi
  unfold vstore at hrun
  split at hrun
  · rename_i b' off
    obtain ⟨p, hp', rfl⟩ := hx
    split at hrun
    · rename_i l t hg
      rw [Tr.run_chk, Tr.run_ok] at hrun
      obtain ⟨hlen, he⟩ := hrun
      injection he with h1 h2
      subst h1 h2
      obtain ⟨q, arr, hq, hf, hw, hlr⟩ := h.live _ _ (hag.trans hg)
      rw [hp'] at hq
      injection hq with hq
      subst hq
      simp only [decide_eq_true_eq] at hlen
      have hlenA : arr.toList.length = l.length := hlr.length.symm
      have hall := store_run (P := P) (ty := ty) (off := off) hk (hlenC.trans hn) hw (by rw [← Array.length_toList, hlenA]; omega) hone
      exact lands_unit hall (done_store h (hag.trans hg) hp' (hlr.splice off hcs) (RS_undef ρ))
    · simp [Tr.run] at hrun
  · rename_i b' r c
    obtain ⟨p, hp', rfl⟩ := hx
    split at hrun
    · rename_i ks xs t hg
      rw [Tr.run_chk, Tr.run_opt] at hrun
      obtain ⟨hlc, ns, hns, hrun⟩ := hrun
      rw [Tr.run_ite] at hrun
      obtain ⟨hr, he⟩ | ⟨_, he⟩ := hrun
      · rw [Tr.run_ok] at he
        injection he with h1 h2
        subst h1 h2
        have hr := of_decide_eq_true hr
        have hlc := of_decide_eq_true hlc
        obtain ⟨q, arr, hq, h0, hf, hw, hsz, htc⟩ := h.live _ _ (hag.trans hg)
        rw [hp'] at hq
        injection hq with hq
        subst hq
        obtain ⟨t1, t2⟩ := tab_store htc hr hns hcs hlc
        have hall := store_run (P := P) (ty := ty) (off := p.off0 + r.val * p.sz + c) hk (hlenC.trans hn) hw t2 hone
        exact lands_unit hall (done_turn h (hag.trans hg) hf (fun w' hw' => ⟨p, _, hp', h0, hf, hw', by simpa [splice_length] using hsz, t1⟩) (RS_undef ρ))
      · cases he
    · simp [Tr.run] at hrun
  · simp [Tr.run] at hrun

/-! ### Building -/
theorem fill_one (cells : List Value) (off : Nat) (vs : List Value) :
    vs.toArray.zipIdx.foldl (fun cs (c, j) => cs.setIfInBounds (off + j) c) cells.toArray = (splice cells off vs).toArray := by
  suffices h : ∀ (vs : List Value) (i : Nat) (cells : List Value), (vs.zipIdx i).foldl (fun (cs : Array Value) (q : Value × Nat) => cs.setIfInBounds (off + q.2) q.1) cells.toArray = (splice cells (off + i) vs).toArray by
    have := h vs 0 cells
    simp only [Nat.add_zero] at this
    rw [← this, ← Array.foldl_toList]
    simp
  intro vs
  induction vs with
  | nil => intro i cells; simp [splice_nil]
  | cons v vs ih =>
    intro i cells
    simp only [List.zipIdx_cons, List.foldl_cons]
    rw [show (cells.toArray.setIfInBounds (off + i) v) = (cells.set (off + i) v).toArray by simp]
    rw [ih (i + 1), splice_cons]
    rfl

theorem vfill_sound {place : Nat → Option (Nat × Nat)} : ∀ {parts : List (Nat × SV)} {rparts : List (Nat × Value)} {cells : List VV} {rcells : List Value} {l : List VV},
    (vfill place cells parts).run = some l → F2 (RV ρ) cells rcells → F2 (fun (a : Nat × SV) (b : Nat × Value) => a.1 = b.1 ∧ RS ρ a.2 b.2) parts rparts →
    ∃ out : List Value, Instr.fill place rcells.toArray rparts = some out.toArray ∧ F2 (RV ρ) l out
  | [], [], cells, rcells, l, hrun, hc, _ => by
    simp only [vfill, Tr.run_ok] at hrun
    subst hrun
    exact ⟨rcells, rfl, hc⟩
  | (i, x) :: rest, (j, y) :: rrest, cells, rcells, l, hrun, hc, hp => by
    obtain ⟨⟨hij, hxy⟩, hrest⟩ := hp
    simp only at hij
    subst hij
    simp only [vfill, Tr.run_opt] at hrun
    obtain ⟨⟨off, size⟩, hpl, hrun⟩ := hrun
    cases x with
    | t _ => simp [Tr.run] at hrun
    | s x =>
      simp only [Tr.run_chk, Bool.and_eq_true, decide_eq_true_eq] at hrun
      obtain ⟨⟨hs, hb⟩, hrun⟩ := hrun
      have hxc := R1.cells hxy
      have hl1 : y.cells.size = x.cells.length := by rw [← Array.length_toList]; exact hxc.length.symm
      have hl2 : rcells.length = cells.length := hc.length.symm
      obtain ⟨out, ho, hr⟩ := vfill_sound hrun (hc.splice off hxc) hrest
      refine ⟨out, ?_, hr⟩
      unfold Instr.fill
      simp only [hpl]
      rw [if_neg (by simp [hl1, hl2, hs]; omega)]
      have := fill_one rcells off y.cells.toList
      rw [Array.toArray_toList] at this
      rw [this]
      exact ho
  | [], _ :: _, _, _, _, _, _, h => h.elim
  | _ :: _, [], _, _, _, _, _, h => h.elim

theorem parts_rel {ev : Operand → SV} {rv : Operand → Value} (parts : Array (Nat × Operand)) (h : ∀ p ∈ parts.toList, RS ρ (ev p.2) (rv p.2)) :
    F2 (fun (a : Nat × SV) (b : Nat × Value) => a.1 = b.1 ∧ RS ρ a.2 b.2) (parts.toList.map fun p => (p.1, ev p.2)) (parts.map fun p => (p.1, rv p.2)).toList := by
  rw [Array.toList_map]
  exact F2.of_map _ _ fun p hp => ⟨rfl, h p hp⟩

theorem run_mapM_known {γ δ : Type} {f : γ → Sem δ} {g : γ → δ} (hf : ∀ c, (f c).run P w = .ok (g c) w) : ∀ (l : List γ), (l.mapM f).run P w = .ok (l.map g) w
  | [] => rfl
  | c :: l => by
    rw [List.mapM_cons, run_andThen_ok (hf c), run_andThen_ok (run_mapM_known hf l)]
    rfl
theorem run_mapM_mem {γ δ : Type} {f : γ → Sem δ} {g : γ → δ} : ∀ (l : List γ) (_ : ∀ c ∈ l, (f c).run P w = .ok (g c) w), (l.mapM f).run P w = .ok (l.map g) w
  | [], _ => rfl
  | c :: l, hf => by
    rw [List.mapM_cons, run_andThen_ok (hf c (by simp)), run_andThen_ok (run_mapM_mem l fun d hd => hf d (by simp [hd]))]
    rfl
theorem run_mapM_arr {γ δ : Type} {f : γ → Sem δ} {g : γ → δ} (l : Array γ) (h : ∀ c ∈ l.toList, (f c).run P w = .ok (g c) w) : (l.mapM f).run P w = .ok (l.map g) w := by
  rw [Array.mapM_eq_mapM_toList]
  rw [map_eq_pure_bind, run_andThen_ok (run_mapM_mem l.toList h)]
  show Result.ok _ w = Result.ok _ w
  congr 1
  apply Array.ext'
  simp

theorem build_sound {ty : TypeId} {z l : List VV} {fs : Array Field} {parts : Array (Nat × Operand)} {ev : Operand → SV} {rv : Operand → Value}
    (hz : zeroS P ty = some (.agg z)) (hu : P.underlying ty = some (.struct fs)) (hk : (fs.toList.all fun f => known P f.type) = true)
    (hrun : (vfill (structPlaces P fs) z (parts.toList.map fun p => (p.1, ev p.2))).run = some l) (hp : ∀ p ∈ parts.toList, RS ρ (ev p.2) (rv p.2)) :
    ∃ v, (Instr.build ty (parts.map fun (i, x) => (i, rv x))).run P w = .ok v w ∧ R1 ρ (.agg l) v := by
  obtain ⟨zv, hzr, hzv⟩ := zeroS_spec hz
  obtain ⟨cs, hcs, hcl⟩ := hzv ρ
  subst hcs
  obtain ⟨out, ho, hr⟩ := vfill_sound hrun hcl (parts_rel parts hp)
  refine ⟨.agg out.toArray, ?_, out, rfl, hr⟩
  unfold Instr.build
  rw [run_andThen_ok (hzr w)]
  dsimp only
  rw [run_andThen_ok (run_underlying hu w)]
  simp only
  have hm : (fs.mapM fun (f : Field) => (do pure (f.offset, ← sizeOf f.type) : Sem (Nat × Nat))).run P w = .ok (fs.map fun (f : Field) => (f.offset, P.cellsOf f.type)) w := by
    refine run_mapM_arr fs fun f hf => ?_
    rw [List.all_eq_true] at hk
    rw [run_andThen_ok (run_sizeOf_k (hk f hf))]
    rfl
  rw [run_andThen_ok hm]
  have hpl : (fun (x : Nat) => (fs.map fun (f : Field) => (f.offset, P.cellsOf f.type))[x]?) = structPlaces P fs := by
    funext i
    unfold structPlaces
    rw [Array.getElem?_map]
    cases fs[i]? <;> rfl
  simp only [Value.cells]
  rw [hpl, ho]
  rfl
theorem buildArr_sound {ty e : TypeId} {n : Nat} {z l : List VV} {parts : Array (Nat × Operand)} {ev : Operand → SV} {rv : Operand → Value}
    (hz : zeroS P ty = some (.agg z)) (hu : P.underlying ty = some (.array n e)) (hk : known P e = true)
    (hrun : (vfill (fun i => some (i * P.cellsOf e, P.cellsOf e)) z (parts.toList.map fun p => (p.1, ev p.2))).run = some l) (hp : ∀ p ∈ parts.toList, RS ρ (ev p.2) (rv p.2)) :
    ∃ v, (Instr.build ty (parts.map fun (i, x) => (i, rv x))).run P w = .ok v w ∧ R1 ρ (.agg l) v := by
  obtain ⟨zv, hzr, hzv⟩ := zeroS_spec hz
  obtain ⟨cs, hcs, hcl⟩ := hzv ρ
  subst hcs
  obtain ⟨out, ho, hr⟩ := vfill_sound hrun hcl (parts_rel parts hp)
  refine ⟨.agg out.toArray, ?_, out, rfl, hr⟩
  unfold Instr.build
  rw [run_andThen_ok (hzr w)]
  dsimp only
  rw [run_andThen_ok (run_underlying hu w)]
  simp only
  rw [run_andThen_ok (run_sizeOf_k hk)]
  simp only [Value.cells]
  rw [ho]
  rfl

theorem repeatL_get {z : List VV} {zv : Array Value} {e : Nat} (h : F2 (RV ρ) z zv.toList) (hl : z.length = e) : ∀ n, F2 (RV ρ) (repeatL z n) ((List.range (n * e)).map fun i => zv[i % e]!) := by
  intro n
  have hzs : zv.size = e := by rw [← Array.length_toList, ← h.length, hl]
  induction n with
  | zero => simp [repeatL, F2]
  | succ n ih =>
    unfold repeatL
    have hsplit : (List.range ((n + 1) * e)).map (fun i => zv[i % e]!) = zv.toList ++ (List.range (n * e)).map fun i => zv[i % e]! := by
      rw [Nat.succ_mul, Nat.add_comm, List.range_add]
      rw [List.map_append]
      congr 1
      · apply List.ext_getElem?
        intro i
        rw [List.getElem?_map]
        by_cases hi : i < e
        · rw [List.getElem?_range hi]
          simp only [Option.map_some, Nat.mod_eq_of_lt hi]
          have hi' : i < zv.size := by omega
          simp [hi']
        · rw [List.getElem?_eq_none (by simp; omega)]
          simp
          omega
      · rw [List.map_map]
        apply List.map_congr_left
        intro i _
        simp
    rw [hsplit]
    exact h.append ih
theorem buildSlice_sound {ty e : TypeId} {len : Nat} {z : S1} {l : List VV} {parts : Array (Nat × Operand)} {ev : Operand → SV} {rv : Operand → Value}
    (hu : P.underlying ty = some (.slice e)) (hz : zeroS P e = some z) (hk : known P e = true) (hl : z.cells.length = P.cellsOf e) (hs : len * P.cellsOf e ≤ 2 ^ 24) (h0 : 0 < P.cellsOf e)
    (hrun : (vfill (fun i => some (i * P.cellsOf e, P.cellsOf e)) (repeatL z.cells len) (parts.toList.map fun p => (p.1, ev p.2))).run = some l) (hp : ∀ p ∈ parts.toList, RS ρ (ev p.2) (rv p.2))
    (h : HR S B Z ρ F H w) (hZ : Z nid) :
    Lands P ((do pure (Next.value (← Instr.buildSlice ty len (parts.map fun (i, x) => (i, rv x)))) : Sem Next).run P w) (Done S B Z ρ F H w nid ⟨.v (.sl nid 0 len len), [], [(nid, some (.cells l e))], nid + 1⟩) := by
  obtain ⟨zv, hzr, hzv⟩ := zeroS_spec hz
  have hzc := R1.cells (hzv ρ)
  have hzs : zv.cells.size = P.cellsOf e := by rw [← Array.length_toList, ← hzc.length, hl]
  obtain ⟨out, ho, hr⟩ := vfill_sound hrun (repeatL_get hzc hl len) (parts_rel parts hp)
  refine lands_val (v := .slice (some ⟨w.heap.size, 0, none⟩) len len) (w' := w.alloc (.cells out.toArray e)) ?_ (done_new h hZ hr fun ρ' _ hn => ⟨_, hn, rfl⟩)
  unfold Instr.buildSlice
  rw [run_andThen_ok (run_underlying hu w)]
  simp only
  rw [run_andThen_ok (run_sizeOf_k hk)]
  rw [if_neg (by omega)]
  have hcells : (Array.range (len * P.cellsOf e)).map (fun x => zv.cells[x % zv.cells.size]!) = ((List.range (len * P.cellsOf e)).map fun i => zv.cells[i % P.cellsOf e]!).toArray := by
    apply Array.ext'
    rw [Array.toList_map, Array.toList_range, hzs]
  split
  · rename_i h00
    have : (Array.range (len * P.cellsOf e)).map (fun x => (#[] : Array Value)[x % (#[] : Array Value).size]!) = ((List.range (len * P.cellsOf e)).map fun i => zv.cells[i % P.cellsOf e]!).toArray := by
      rw [h00]; simp
    simp only [pure_bind]
    rw [this, ho]
    simp [newRow, newObj, Sem.run]
  · rw [run_andThen_ok (hzr w)]
    simp only [pure_bind]
    rw [hcells, ho]
    simp [newRow, newObj, Sem.run]
end
end Go.Proofs.Ytlkanbgcghjhnaa.Eng
