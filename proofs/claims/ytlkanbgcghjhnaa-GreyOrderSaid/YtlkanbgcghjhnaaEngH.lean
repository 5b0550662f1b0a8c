/-
  The engine, part H: the law of all operations.
-/
import Derived.Test.YtlkanbgcghjhnaaEngW
namespace Go.Proofs.Ytlkanbgcghjhnaa.Eng
open Go

section
variable {A : Type} {S : Sys A} {P : Program} {B : Nat} {Z : Nat → Prop} {ρ : Rho} {F : Fm} {H : Nat → Option (VObj A)} {w : World} {nid : Nat}

def ORel (ρ : Rho) : Option SV → Option Value → Prop
  | none, none => True
  | some a, some b => RS ρ a b
  | _, _ => False
theorem wrap_i64 {n : Int} (h : -9223372036854775808 ≤ n) (h' : n < 9223372036854775808) : IntKind.i64.wrap n = n := by
  show (if (true && decide (n % (2 ^ 64 : Int) ≥ (2 ^ 63 : Int))) = true then n % (2 ^ 64 : Int) - (2 ^ 64 : Int) else n % (2 ^ 64 : Int)) = n
  have h64 : (2 ^ 64 : Int) = 18446744073709551616 := by decide
  have h63 : (2 ^ 63 : Int) = 9223372036854775808 := by decide
  rw [h64, h63]
  split
  · rename_i hc
    simp only [Bool.true_and, decide_eq_true_eq] at hc
    omega
  · rename_i hc
    simp only [Bool.true_and, decide_eq_true_eq] at hc
    omega
theorem bound_run {k : IntKind} {x y : Nat} {c : BoundsCode} (h : x ≤ y) : (Instr.sliceBound (.int k (x : Int)) y c).run P w = .ok x w := by
  unfold Instr.sliceBound asIntOf
  simp only [pure_bind]
  rw [if_pos (by constructor <;> omega)]
  simp
theorem vslice_sound {ty : TypeId} {x : SV} {lo hi : Option SV} {r : VV} {rd : List Nat} {u : Value} {ul uh : Option Value} (hrun : (vslice P ty x lo hi).run = some (r, rd)) (hx : RS ρ x u)
    (hlo : ORel ρ lo ul) (hhi : ORel ρ hi uh) :
    rd = [] ∧ ∃ v, (Instr.sliceAt ty u ul uh none).run P w = .ok v w ∧ RV ρ r v := by
  unfold vslice at hrun
  split at hrun
  · rename_i b off len cap
    obtain ⟨p, hp, rfl⟩ := hx
    split at hrun
    · rename_i e hu
      simp only [Tr.run_chk, Tr.run_opt, Tr.run_ok, Bool.and_eq_true, decide_eq_true_eq] at hrun
      obtain ⟨hk, h, hh, l, hl, ⟨hb1, hb2⟩, he⟩ := hrun
      injection he with h1 h2
      subst h1 h2
      refine ⟨rfl, .slice (some ⟨p.blk, (if cap = l then off else off + l * P.cellsOf e), none⟩) (h - l) (cap - l), ?_, p, hp, rfl⟩
      have hH : (uh = none ∧ h = len) ∨ ∃ k, uh = some (.int k (h : Int)) := by
        cases hi with
        | none =>
          cases uh with
          | none => injection hh with hh; exact .inl ⟨rfl, hh.symm⟩
          | some _ => exact hhi.elim
        | some a =>
          cases uh with
          | none => exact hhi.elim
          | some v =>
            obtain ⟨k, rfl⟩ := intLit_sound (ρ := ρ) hh hhi
            exact .inr ⟨k, rfl⟩
      have hL : (ul = none ∧ l = 0) ∨ ∃ k, ul = some (.int k (l : Int)) := by
        cases lo with
        | none =>
          cases ul with
          | none => injection hl with hl; exact .inl ⟨rfl, hl.symm⟩
          | some _ => exact hlo.elim
        | some a =>
          cases ul with
          | none => exact hlo.elim
          | some v =>
            obtain ⟨k, rfl⟩ := intLit_sound (ρ := ρ) hl hlo
            exact .inr ⟨k, rfl⟩
      unfold Instr.sliceAt
      rw [run_andThen_ok (run_underlying hu w)]
      simp only
      unfold Instr.slice
      rw [run_andThen_ok (run_underlying hu w)]
      simp only
      have hB : (Instr.sliceBounds true len cap ul uh none).run P w = .ok (l, h, cap) w := by
        unfold Instr.sliceBounds
        simp only [pure_bind, if_true, Option.isSome_none, Bool.false_eq_true, if_false]
        rcases hH with ⟨rfl, rfl⟩ | ⟨k, rfl⟩ <;> rcases hL with ⟨rfl, rfl⟩ | ⟨k', rfl⟩ <;> simp only
        · rfl
        · rw [run_andThen_ok (bound_run hb2)]; rfl
        · rw [run_andThen_ok (bound_run hb1)]; rfl
        · rw [run_andThen_ok (bound_run hb1), run_andThen_ok (bound_run hb2)]; rfl
      rw [run_andThen_ok hB]
      simp only
      rw [run_andThen_ok (run_sizeOf_k hk)]
      simp only [Option.map_some, add_mk]
      by_cases hcl : cap = l
      · simp [hcl]
      · simp [hcl]
    · simp [Tr.run] at hrun
  · simp [Tr.run] at hrun

theorem vslice3_sound {ty : TypeId} {x : SV} {lo hi : Option SV} {mx : SV} {r : VV} {rd : List Nat} {u um : Value} {ul uh : Option Value} (hrun : (vslice3 P ty x lo hi (some mx)).run = some (r, rd)) (hx : RS ρ x u)
    (hlo : ORel ρ lo ul) (hhi : ORel ρ hi uh) (hmx : RS ρ mx um) :
    rd = [] ∧ ∃ v, (Instr.sliceAt ty u ul uh (some um)).run P w = .ok v w ∧ RV ρ r v := by
  unfold vslice3 at hrun
  split at hrun
  · rename_i b off len cap
    obtain ⟨p, hp, rfl⟩ := hx
    split at hrun
    · rename_i e hu
      simp only [Tr.run_chk, Tr.run_opt, Tr.run_ok, Bool.and_eq_true, decide_eq_true_eq] at hrun
      obtain ⟨hk, m, hm, h, hh, l, hl, ⟨⟨hb0, hb1⟩, hb2⟩, he⟩ := hrun
      injection he with h1 h2
      subst h1 h2
      refine ⟨rfl, .slice (some ⟨p.blk, (if m = l then off else off + l * P.cellsOf e), none⟩) (h - l) (m - l), ?_, p, hp, rfl⟩
      obtain ⟨km, rfl⟩ := intLit_sound (ρ := ρ) hm hmx
      have hH : ∃ k, uh = some (.int k (h : Int)) := by
        cases hi with
        | none => cases hh
        | some a =>
          cases uh with
          | none => exact hhi.elim
          | some v =>
            obtain ⟨k, rfl⟩ := intLit_sound (ρ := ρ) hh hhi
            exact ⟨k, rfl⟩
      have hL : (ul = none ∧ l = 0) ∨ ∃ k, ul = some (.int k (l : Int)) := by
        cases lo with
        | none =>
          cases ul with
          | none => injection hl with hl; exact .inl ⟨rfl, hl.symm⟩
          | some _ => exact hlo.elim
        | some a =>
          cases ul with
          | none => exact hlo.elim
          | some v =>
            obtain ⟨k, rfl⟩ := intLit_sound (ρ := ρ) hl hlo
            exact .inr ⟨k, rfl⟩
      obtain ⟨kh, rfl⟩ := hH
      unfold Instr.sliceAt
      rw [run_andThen_ok (run_underlying hu w)]
      simp only
      unfold Instr.slice
      rw [run_andThen_ok (run_underlying hu w)]
      simp only
      have hB : (Instr.sliceBounds true len cap ul (some (.int kh h)) (some (.int km m))).run P w = .ok (l, h, m) w := by
        unfold Instr.sliceBounds
        simp only [if_true, Option.isSome_some]
        rw [run_andThen_ok (bound_run hb0), run_andThen_ok (bound_run hb1)]
        rcases hL with ⟨rfl, rfl⟩ | ⟨k', rfl⟩ <;> simp only
        · rfl
        · rw [run_andThen_ok (bound_run hb2)]; rfl
      rw [run_andThen_ok hB]
      simp only
      rw [run_andThen_ok (run_sizeOf_k hk)]
      simp only [Option.map_some, add_mk]
      by_cases hcl : m = l
      · simp [hcl]
      · simp [hcl]
    · simp [Tr.run] at hrun
  · simp [Tr.run] at hrun

theorem sbound_spec {d n : SI} {o : Option SV} {u : Option Value} (h : sbound d o = some n) (ho : ORel ρ o u) : (o = none ∧ u = none ∧ n = d) ∨ (o.isSome = true ∧ n.val ≤ 9223372036854775807 ∧ ∃ k, u = some (.int k n.val)) := by
  unfold sbound at h
  split at h
  · injection h with h
    cases u with
    | none => exact .inl ⟨rfl, rfl, h.symm⟩
    | some _ => exact ho.elim
  · injection h with h
    cases u with
    | none => exact ho.elim
    | some v =>
      obtain ⟨hv, hk⟩ := ho
      rw [h] at hk
      exact .inr ⟨rfl, hk.2, _, by rw [hv, h]⟩
  · cases h

theorem vsliceT_sound {hp : HP A} {ty : TypeId} {b : Nat} {r len : SN} {cap : Option SN} {lo hi mx : Option SV} {res : VV} {rd : List Nat} {u : Value} {ul uh um : Option Value}
    (hrun : (vsliceT P hp ty b r len cap lo hi mx).run = some (res, rd)) (h : HR S B Z ρ F H w) (hag : ∀ b, b ∈ rd → H b = hget hp b) (hx : RV ρ (.ts b r len cap) u)
    (hlo : ORel ρ lo ul) (hhi : ORel ρ hi uh) (hmx : ORel ρ mx um) : ∃ v, (Instr.sliceAt ty u ul uh um).run P w = .ok v w ∧ RV ρ res v := by
  unfold vsliceT at hrun
  split at hrun
  · rename_i e hu
    simp only [Tr.run_opt, Tr.run_chk, Tr.run_test, Tr.run_no, and_false, or_false, Bool.and_eq_true, val_sle, val_slt, decide_eq_true_eq] at hrun
    obtain ⟨⟨ks, xs⟩, ht, ⟨⟨hk, hks⟩, hmh⟩, sh, hsh, sl, hsl, sc, hsc, t1, t2, t3, t4, hrun⟩ := hrun
    have hbrd : b ∈ rd := by
      rcases hrun with ⟨_, he⟩ | ⟨_, he⟩ <;> (rw [Tr.run_ok] at he; injection he with _ he; rw [← he]; simp)
    obtain ⟨p, hp', hle, hcap, rfl⟩ := hx
    obtain ⟨q, hq, hqs, _⟩ := tab_live h (hag b hbrd) ht
    rw [hp'] at hq
    injection hq with hq
    subst hq
    have hsz : p.sz = P.cellsOf e := by rw [hqs, hks]
    obtain ⟨L, hL⟩ := Int.eq_ofNat_of_zero_le t1
    obtain ⟨Hh, hHh⟩ := Int.eq_ofNat_of_zero_le (Int.le_trans t1 t2)
    obtain ⟨C, hC⟩ := Int.eq_ofNat_of_zero_le (Int.le_trans (Int.le_trans t1 t2) t3)
    rw [hL, hHh] at t2
    rw [hHh, hC] at t3
    rw [hC] at t4
    have vl : sl.toSN.val = L := by rw [val_toSN, hL]; rfl
    have vh : sh.toSN.val = Hh := by rw [val_toSN, hHh]; rfl
    have vc : sc.toSN.val = C := by rw [val_toSN, hC]; rfl
    -- the bound in the model
    obtain ⟨M, hM1, hM2, hM3, hM4⟩ : ∃ M : Nat, C ≤ M ∧ (mx = none → M = tsCap p r cap) ∧ (mx.isSome = true → M = C) ∧ M ≤ tsCap p r cap := by
      have hCc : C ≤ tsCap p r cap := by
        cases cap with
        | some c => simp only [val_toSI, tsCap] at t4 ⊢; omega
        | none => simp only [val_toSI] at t4; omega
      cases mx with
      | none => exact ⟨tsCap p r cap, hCc, fun _ => rfl, fun h => by simp at h, Nat.le_refl _⟩
      | some m => exact ⟨C, Nat.le_refl _, fun h => by simp at h, fun _ => rfl, hCc⟩
    have hB : (Instr.sliceBounds true len.val (tsCap p r cap) ul uh um).run P w = .ok (L, Hh, M) w := by
      rcases sbound_spec hsc hmx with ⟨rfl, rfl, hcd⟩ | ⟨hms, _, km, rfl⟩
      · have hMM := hM2 rfl
        unfold Instr.sliceBounds
        simp only [pure_bind, if_true, Option.isSome_none, Bool.false_eq_true, if_false]
        rw [← hMM]
        rcases sbound_spec hsh hhi with ⟨_, rfl, hhd⟩ | ⟨_, _, kh, rfl⟩
        · have hHl : Hh = len.val := by
            rw [hhd, val_toSI] at hHh
            omega
          rcases sbound_spec hsl hlo with ⟨_, rfl, hld⟩ | ⟨_, _, kl, rfl⟩ <;> simp only
          · have : L = 0 := by rw [hld] at hL; simp only [SI.val] at hL; omega
            rw [this, ← hHl]; rfl
          · rw [hL, ← hHl]
            rw [run_andThen_ok (bound_run (by omega))]; rfl
        · rw [hHh]
          rcases sbound_spec hsl hlo with ⟨_, rfl, hld⟩ | ⟨_, _, kl, rfl⟩ <;> simp only
          · have : L = 0 := by rw [hld] at hL; simp only [SI.val] at hL; omega
            rw [run_andThen_ok (bound_run (by omega)), this]; rfl
          · rw [hL]
            rw [run_andThen_ok (bound_run (by omega)), run_andThen_ok (bound_run (by omega))]; rfl
      · have hMM := hM3 hms
        have hhs : hi.isSome = true := by
          cases mx with
          | none => simp at hms
          | some _ => simpa using hmh
        rcases sbound_spec hsh hhi with ⟨rfl, _, _⟩ | ⟨_, _, kh, rfl⟩
        · simp at hhs
        · unfold Instr.sliceBounds
          simp only [if_true, Option.isSome_some]
          rw [hC, hHh, ← hMM]
          rw [run_andThen_ok (bound_run hM4), run_andThen_ok (bound_run (by omega))]
          rcases sbound_spec hsl hlo with ⟨_, rfl, hld⟩ | ⟨_, _, kl, rfl⟩ <;> simp only
          · have : L = 0 := by rw [hld] at hL; simp only [SI.val] at hL; omega
            rw [this]; rfl
          · rw [hL]
            rw [run_andThen_ok (bound_run (by omega))]; rfl
    have hmain : (Instr.sliceAt ty (.slice (some ⟨p.blk, p.off0 + r.val * p.sz, none⟩) len.val (tsCap p r cap)) ul uh um).run P w =
        .ok (.slice (some (if M = L then ⟨p.blk, p.off0 + r.val * p.sz, none⟩ else ⟨p.blk, p.off0 + r.val * p.sz + L * P.cellsOf e, none⟩)) (Hh - L) (M - L)) w := by
      unfold Instr.sliceAt
      rw [run_andThen_ok (run_underlying hu w)]
      simp only
      unfold Instr.slice
      rw [run_andThen_ok (run_underlying hu w)]
      simp only
      rw [run_andThen_ok hB]
      simp only
      rw [run_andThen_ok (run_sizeOf_k hk)]
      simp only [Option.map_some, add_mk]
      by_cases hcl : M = L
      · simp [hcl]
      · simp [hcl]
    refine ⟨_, hmain, ?_⟩
    rcases hrun with ⟨hlt, he⟩ | ⟨hge, he⟩
    · rw [Tr.run_ok] at he
      injection he with he _
      subst he
      rw [hL, hC] at hlt
      have hlt' : L < C := by omega
      rw [if_neg (by omega)]
      have hcap' : tsCap p (SN.op2 (fun a b => a + b) r sl.toSN) (slCap mx cap (SN.op2 (fun a b => a - b) sc.toSN sl.toSN)) = M - L := by
        cases mx with
        | some m =>
          have := hM3 rfl
          simp only [slCap, tsCap, val_sn2, vl, vc]
          omega
        | none =>
          have hm2 := hM2 rfl
          cases cap with
          | some c =>
            rcases sbound_spec hsc hmx with ⟨_, _, hcd⟩ | ⟨hms, _⟩
            · simp only [slCap, tsCap, val_sn2, vl, vc] at hm2 ⊢
              rw [hcd, val_toSI] at hC
              omega
            · simp at hms
          | none =>
            simp only [slCap, tsCap, val_sn2, vl] at hm2 ⊢
            omega
      refine ⟨p, hp', ?_, ?_, ?_⟩
      · rw [val_sn2, vl, vh]
        have hH2 : Hh ≤ 9223372036854775807 := by
          rcases sbound_spec hsh hhi with ⟨_, _, hhd⟩ | ⟨_, hb, _⟩
          · rw [hhd, val_toSI] at hHh
            omega
          · omega
        omega
      · rw [hcap', val_sn2, vl, vh]
        omega
      · rw [hcap', val_sn2, val_sn2, vl, vh, hsz, Nat.add_mul, Nat.add_assoc]
    · rw [Tr.run_ok] at he
      injection he with he _
      subst he
      have hge := of_decide_eq_false hge
      rw [hL, hC] at hge
      have e1 : Hh - L = 0 := by omega
      rw [e1]
      refine ⟨_, _, rfl, fun hf => ?_⟩
      cases mx with
      | some m =>
        have := hM3 rfl
        omega
      | none =>
        have hm2 := hM2 rfl
        cases cap with
        | some c =>
          rcases sbound_spec hsc hmx with ⟨_, _, hcd⟩ | ⟨hms, _⟩
          · simp only [tsCap] at hm2
            rw [hcd, val_toSI] at hC
            omega
          · simp at hms
        | none => cases hf
  · simp [Tr.run] at hrun

theorem vsliceA_sound {hp : HP A} {ty : TypeId} {x : SV} {lo hi mx : Option SV} {r : VV} {rd : List Nat} {u : Value} {ul uh um : Option Value}
    (hrun : (vsliceA P hp ty x lo hi mx).run = some (r, rd)) (h : HR S B Z ρ F H w) (hag : ∀ b, b ∈ rd → H b = hget hp b) (hx : RS ρ x u)
    (hlo : ORel ρ lo ul) (hhi : ORel ρ hi uh) (hmx : ORel ρ mx um) : ∃ v, (Instr.sliceAt ty u ul uh um).run P w = .ok v w ∧ RV ρ r v := by
  unfold vsliceA at hrun
  split at hrun
  · exact vsliceT_sound hrun h hag hx hlo hhi hmx
  · cases mx with
    | none =>
      cases um with
      | some _ => exact hmx.elim
      | none => exact (vslice_sound hrun hx hlo hhi).2
    | some m =>
      cases um with
      | none => exact hmx.elim
      | some v => exact (vslice3_sound hrun hx hlo hhi hmx).2

set_option maxHeartbeats 1000000 in
theorem vop_sound {call : FuncId → List SV → HP A → Nat → Tr (CR A)} (hcall : CallOK S P call)
    (hnames : ∀ (f : FuncId) fn, P.funcs[f]? = some fn → (fn.name == "runtime.NumGoroutine") = false)
    {ev : Operand → SV} {rv : Operand → Value} {hp : HP A} {o : Oper} {e : Eff A}
    (hrun : (vop P call nid ev hp o).run = some e) (hops : ∀ x ∈ o.op.operands.toList, RS ρ (ev x) (rv x)) (h : HR S B Z ρ F H w)
    (hag : ∀ b, b ∈ e.rd ∨ b ∈ e.asg.map (·.1) → H b = hget hp b) (hz : ∀ b, nid ≤ b → b < e.nid → Z b) :
    nid ≤ e.nid ∧ Lands P ((execOp rv o).run P w) (Done S B Z ρ F H w nid e) := by
  obtain ⟨dst, op, type, pos, after, guard⟩ := o
  have hpure : ∀ {v : SV} {u : Value} {s : Sem Value}, (Tr.ok ⟨v, [], [], nid⟩ : Tr (Eff A)).run = some e → s.run P w = .ok u w → RS ρ v u →
      nid ≤ e.nid ∧ Lands P ((do pure (Next.value (← s)) : Sem Next).run P w) (Done S B Z ρ F H w nid e) := fun {v u s} he hs hv => by
    rw [Tr.run_ok] at he
    subst he
    exact ⟨Nat.le_refl _, lands_val hs (done_pure h hv)⟩
  cases op
  case move x =>
    simp only [vop, Tr.run_ok] at hrun
    subst hrun
    exact ⟨Nat.le_refl _, lands_pure (done_pure h (hops x (by simp [Op.operands])))⟩
  case assign x =>
    simp only [vop, Tr.run_ok] at hrun
    subst hrun
    exact ⟨Nat.le_refl _, lands_pure (done_pure h (hops x (by simp [Op.operands])))⟩
  case pick c a b =>
    have hc := hops c (by simp [Op.operands])
    have ha := hops a (by simp [Op.operands])
    have hb := hops b (by simp [Op.operands])
    simp only [vop] at hrun
    split at hrun
    · rename_i c' hce
      rw [hce] at hc
      obtain hc : rv c = .bool c'.val := hc
      rw [Tr.run_bind] at hrun
      obtain ⟨v, hv, hrun⟩ := hrun
      rw [Tr.run_ok] at hrun
      subst hrun
      refine ⟨Nat.le_refl _, ?_⟩
      have hex : (execOp rv ⟨dst, .pick c a b, type, pos, after, guard⟩).run P w = .ok (.value (if c'.val then rv a else rv b)) w := by
        simp [execOp, hc, asBool]
      rw [hex]
      refine done_pure h ?_
      unfold pickV at hv
      split at hv
      · rw [Tr.run_ok] at hv; subst hv; simpa [SB.val] using ha
      · rw [Tr.run_ok] at hv; subst hv; simpa [SB.val] using hb
      · rename_i c0
        split at hv
        · rename_i x y hxa hyb
          rw [Tr.run_ok] at hv
          subst hv
          rw [hxa] at ha
          rw [hyb] at hb
          obtain ha : rv a = .bool x.val := ha
          obtain hb : rv b = .bool y.val := hb
          rw [ha, hb]
          cases c0 <;> rfl
        · rw [Tr.run_ite, Tr.run_ok, Tr.run_ok] at hv
          rcases hv with ⟨h1, rfl⟩ | ⟨h1, rfl⟩
          · subst h1; simpa [SB.val] using ha
          · subst h1; simpa [SB.val] using hb
    · simp [Tr.run] at hrun
  case alloc ty =>
    simp only [vop, Tr.run_opt, Tr.run_ok] at hrun
    obtain ⟨z, hz', rfl⟩ := hrun
    exact ⟨Nat.le_succ _, alloc_sound hz' h (hz nid (Nat.le_refl _) (Nat.lt_succ_self _))⟩
  case box ty x =>
    have hx := hops x (by simp [Op.operands])
    simp only [vop] at hrun
    split at hrun
    · rename_i z hze
      rw [hze] at hx
      rw [Tr.run_ok] at hrun
      subst hrun
      exact ⟨Nat.le_succ _, box_sound hx h (hz nid (Nat.le_refl _) (Nat.lt_succ_self _))⟩
    · simp [Tr.run] at hrun
  case build ty parts =>
    have hp' : ∀ p ∈ parts.toList, RS ρ (ev p.2) (rv p.2) := fun p hp => hops p.2 (by simp [Op.operands]; exact ⟨p.1, by simpa using hp⟩)
    simp only [vop] at hrun
    split at hrun
    · rename_i z hz'
      split at hrun
      · rename_i fs hu
        rw [Tr.run_chk, Tr.run_bind] at hrun
        obtain ⟨hk, l, hl, hrun⟩ := hrun
        obtain ⟨v, hv, hr⟩ := build_sound (P := P) (w := w) hz' hu hk hl hp'
        exact hpure hrun hv hr
      · rename_i n el hu
        rw [Tr.run_chk, Tr.run_bind] at hrun
        obtain ⟨hk, l, hl, hrun⟩ := hrun
        obtain ⟨v, hv, hr⟩ := buildArr_sound (P := P) (w := w) hz' hu hk hl hp'
        exact hpure hrun hv hr
      · simp [Tr.run] at hrun
    · simp [Tr.run] at hrun
  case buildSlice ty len parts =>
    have hp' : ∀ p ∈ parts.toList, RS ρ (ev p.2) (rv p.2) := fun p hp => hops p.2 (by simp [Op.operands]; exact ⟨p.1, by simpa using hp⟩)
    simp only [vop] at hrun
    split at hrun
    · rename_i el hu
      split at hrun
      · rename_i z hz'
        simp only [Tr.run_chk, Tr.run_bind, Tr.run_ok, Bool.and_eq_true, decide_eq_true_eq] at hrun
        obtain ⟨⟨⟨⟨hk, h1⟩, h2⟩, h3⟩, l, hl, rfl⟩ := hrun
        exact ⟨Nat.le_succ _, buildSlice_sound hu hz' hk h1 h2 h3 hl hp' h (hz nid (Nat.le_refl _) (Nat.lt_succ_self _))⟩
      · simp [Tr.run] at hrun
    · simp [Tr.run] at hrun
  case load ty x =>
    have hx := hops x (by simp [Op.operands])
    simp only [vop] at hrun
    split at hrun
    · rename_i x' hxe
      rw [hxe] at hx
      rw [Tr.run_bind] at hrun
      obtain ⟨⟨v, b⟩, hl, hrun⟩ := hrun
      rw [Tr.run_ok] at hrun
      subst hrun
      obtain ⟨u, hu, hr⟩ := vload_sound hl h (hag b (.inl (by simp))) hx
      exact ⟨Nat.le_refl _, lands_val hu (done_pure h hr)⟩
    · simp [Tr.run] at hrun
  case store ty x y =>
    have hx := hops x (by simp [Op.operands])
    have hy := hops y (by simp [Op.operands])
    simp only [vop] at hrun
    split at hrun
    · rename_i x' y' hxe hye
      rw [hxe] at hx
      rw [hye] at hy
      simp only [Tr.run_chk, Tr.run_bind, Tr.run_ok, Bool.and_eq_true, decide_eq_true_eq] at hrun
      obtain ⟨⟨hk, hn⟩, ⟨b, o'⟩, hs, rfl⟩ := hrun
      exact ⟨Nat.le_refl _, store_sound hk hn hs h (hag b (.inl (by simp))) hx hy⟩
    · simp [Tr.run] at hrun
  case nilCheck x =>
    have hx := hops x (by simp [Op.operands])
    simp only [vop] at hrun
    split at hrun
    · rename_i b off hxe
      rw [hxe] at hx
      rw [Tr.run_ok] at hrun
      subst hrun
      obtain ⟨p, hp', hv⟩ := id hx
      refine ⟨Nat.le_refl _, ?_⟩
      simp only [execOp, hv]
      exact done_pure h (by rw [← hv]; exact hx)
    · rename_i b r c hxe
      rw [hxe] at hx
      rw [Tr.run_ok] at hrun
      subst hrun
      obtain ⟨p, hp', hv⟩ := id hx
      refine ⟨Nat.le_refl _, ?_⟩
      simp only [execOp, hv]
      exact done_pure h (by rw [← hv]; exact hx)
    · rename_i f a c hxe
      rw [hxe] at hx
      rw [Tr.run_ok] at hrun
      subst hrun
      obtain ⟨va, vc, _, _, hv⟩ := id hx
      refine ⟨Nat.le_refl _, ?_⟩
      simp only [execOp, hv]
      exact done_pure h (by rw [← hv]; exact hx)
    · simp [Tr.run] at hrun
  case binOp op ty x y yt =>
    have hx := hops x (by simp [Op.operands])
    have hy := hops y (by simp [Op.operands])
    simp only [vop, Tr.run_bind] at hrun
    obtain ⟨v, hv, hrun⟩ := hrun
    obtain ⟨z, hz', hr⟩ := vbin_sound (P := P) (w := w) x y hv hx hy
    exact hpure hrun hz' hr
  case unOp op xt x =>
    have hx := hops x (by simp [Op.operands])
    simp only [vop] at hrun
    split at hrun
    · rename_i b hxe
      rw [hxe] at hx
      obtain hx : rv x = .bool b.val := hx
      exact hpure (u := .bool (!b.val)) hrun (by rw [hx]; rfl) (by simp [RS, R1, RV, val_not])
    · rename_i k n hxe
      rw [hxe] at hx
      obtain ⟨hx, _⟩ : rv x = .int k n.val ∧ inK k n.val := hx
      exact hpure (u := .int k (k.wrap (0 - n.val))) hrun (by rw [hx]; rfl) (by simp only [RS, R1, RV, val_op1]; exact ⟨trivial, wrap_inK _ _⟩)
    · rename_i k n hxe
      rw [hxe] at hx
      obtain ⟨hx, _⟩ : rv x = .int k n.val ∧ inK k n.val := hx
      exact hpure (u := .int k (ixor k (if k.signed then -1 else k.max) n.val)) hrun (by rw [hx]; rfl) (by simp only [RS, R1, RV, val_op1]; exact ⟨trivial, wrap_inK _ _⟩)
    · simp [Tr.run] at hrun
  case convert src dst x =>
    have hx := hops x (by simp [Op.operands])
    simp only [vop] at hrun
    split at hrun
    · rename_i d k k' n hs hd hxe
      rw [hxe] at hx
      obtain ⟨hx, _⟩ : rv x = .int k' n.val ∧ inK k' n.val := hx
      refine hpure (u := .int k (k.wrap n.val)) hrun ?_ (by simp only [RS, R1, RV, val_op1]; exact ⟨trivial, wrap_inK _ _⟩)
      rw [hx]
      unfold convert
      rw [run_andThen_ok (run_underlying hs w), run_andThen_ok (run_underlying hd w)]
      rfl
    · simp [Tr.run] at hrun
  case makeFunc fn first caps =>
    simp only [vop] at hrun
    split at hrun
    · rename_i f
      simp only [Tr.run_opt] at hrun
      obtain ⟨a, ha, b, hb, hrun⟩ := hrun
      have h1 := ptrs_sound ha (args_RS first fun x hx => hops x (by simp [Op.operands]; exact .inl (by simpa using hx)))
      have h2 := ptrs_sound hb (args_RS caps fun x hx => hops x (by simp [Op.operands]; exact .inr (by simpa using hx)))
      exact hpure (u := .func (.func f) (first.map rv) (caps.map rv)) hrun rfl ⟨_, _, h1, h2, by simp only [Array.toArray_toList]⟩
    · simp [Tr.run] at hrun
  case makeSlice ty len cap =>
    have hl := hops len (by simp [Op.operands])
    have hc := hops cap (by simp [Op.operands])
    simp only [vop] at hrun
    split at hrun
    · rename_i el hu
      rw [Tr.run_opt] at hrun
      obtain ⟨z, hz', hrun⟩ := hrun
      split at hrun
      · rename_i ks hks
        split at hrun
        · rename_i kl l kc c i zs hle hce hi hzs
          rw [hle] at hl
          rw [hce] at hc
          obtain ⟨hl, _⟩ : rv len = .int kl l.val ∧ inK kl l.val := hl
          obtain ⟨hc, _⟩ : rv cap = .int kc c.val ∧ inK kc c.val := hc
          simp only [Tr.run_chk, Tr.run_test, Tr.run_no, and_false, or_false, Bool.and_eq_true, val_sle, val_cmp, val_fit, val_toSN, Tr.run_ok, decide_eq_true_eq] at hrun
          obtain ⟨⟨⟨h1, h2⟩, h3⟩, t1, t2, t3, rfl⟩ := hrun
          refine ⟨Nat.le_succ _, ?_⟩
          have hex : execOp rv ⟨dst, .makeSlice ty len cap, type, pos, after, guard⟩ = (do pure (Next.value (← Instr.makeSlice ty (.int kl l.val) (.int kc c.val))) : Sem Next) := by
            simp only [execOp, hl, hc]
          rw [hex]
          have := make_sound (k := kl) (k' := kc) hu hi hz' hks hzs (Nat.eq_of_beq_eq_true h1) (by simpa using h2) (by simpa using h3) t1 (by simpa using t2) (Nat.le_of_ble_eq_true t3) h (hz nid (Nat.le_refl _) (Nat.lt_succ_self _))
          rw [val_toSN] at this
          exact this
        · simp [Tr.run] at hrun
      · split at hrun
        · rename_i l c hle hce
          simp only [Tr.run_chk, Tr.run_ok, Bool.and_eq_true, decide_eq_true_eq] at hrun
          obtain ⟨⟨⟨⟨h1, h2⟩, h3⟩, h4⟩, rfl⟩ := hrun
          obtain ⟨k, hlv⟩ := intLit_sound hle hl
          obtain ⟨k', hcv⟩ := intLit_sound hce hc
          obtain ⟨zv, hzr, hzv⟩ := zeroS_spec hz'
          have hzc := R1.cells (hzv ρ)
          have hrep := repeatL_get hzc h3 c
          refine ⟨Nat.le_succ _, lands_val (v := .slice (some ⟨w.heap.size, 0, none⟩) l c) (w' := w.alloc (.cells _ el)) ?_
            (done_new h (hz nid (Nat.le_refl _) (Nat.lt_succ_self _)) hrep fun ρ' _ hn => ⟨_, hn, rfl⟩)⟩
          have hke : known P el = true := by
            unfold known
            unfold zeroS at hz'
            cases hi : P.info? el with
            | none => simp [hi] at hz'
            | some i => rfl
          obtain ⟨ti, hti⟩ := Option.isSome_iff_exists.1 hke
          have hby : ti.bytes = P.bytesOf el := by simp [Program.bytesOf, hti]
          have hzs : zv.cells.size = P.cellsOf el := by rw [← Array.length_toList, ← hzc.length, h3]
          have w1 : IntKind.i64.wrap (l : Int) = l := wrap_i64 (by omega) (by omega)
          have w2 : IntKind.i64.wrap (c : Int) = c := wrap_i64 (by omega) (by omega)
          have hbn : (ti.bytes : Int) * c ≤ 2 ^ 48 := by
            have : ti.bytes * c ≤ 4096 * 4096 := Nat.mul_le_mul (by omega) h2
            omega
          unfold Instr.makeSlice
          rw [run_andThen_ok (run_underlying hu w)]
          simp only [hlv, hcv]
          have as1 : ∀ (k : IntKind) (n : Int), (asInt (.int k n)).run P w = .ok n w := fun _ _ => rfl
          rw [run_andThen_ok (as1 _ _), run_andThen_ok (as1 _ _), run_andThen_ok (run_typeInfo w hti)]
          simp only [w1, w2]
          have hno : ((decide ((c : Int) < 0) || decide ((ti.bytes : Int) * c > 2 ^ 48)) || decide ((l : Int) < 0) || decide ((l : Int) > c)) = false := by
            simp only [Bool.or_eq_false_iff, decide_eq_false_iff_not]
            refine ⟨⟨⟨?_, ?_⟩, ?_⟩, ?_⟩ <;> omega
          rw [if_neg (by rw [hno]; simp)]
          try simp only [pure_bind]
          try simp only [Int.toNat_natCast]
          rw [run_andThen_ok (run_askRoom P w _), run_andThen_ok (run_sizeOf_k hke)]
          have hcells : (Array.range (c * P.cellsOf el)).map (fun x => zv.cells[x % zv.cells.size]!) = ((List.range (c * P.cellsOf el)).map fun i => zv.cells[i % P.cellsOf el]!).toArray := by
            apply Array.ext'
            rw [Array.toList_map, Array.toList_range, hzs]
          split
          · rename_i h00
            have : (Array.range (c * P.cellsOf el)).map (fun x => (#[] : Array Value)[x % (#[] : Array Value).size]!) = ((List.range (c * P.cellsOf el)).map fun i => zv.cells[i % P.cellsOf el]!).toArray := by
              rw [h00]; simp
            try simp only [pure_bind]
            rw [this]
            simp [newRow, newObj, Sem.run]
          · rw [run_andThen_ok (hzr w)]
            try simp only [pure_bind]
            rw [hcells]
            simp [newRow, newObj, Sem.run]
        · simp [Tr.run] at hrun
    · simp [Tr.run] at hrun
  case slice ty x lo hi mx =>
    have hx := hops x (by simp [Op.operands])
    simp only [vop, Tr.run_bind] at hrun
    obtain ⟨⟨r, rd⟩, hs, hrun⟩ := hrun
    rw [Tr.run_ok] at hrun
    subst hrun
    obtain ⟨v, hv, hr⟩ := vsliceA_sound (P := P) (w := w) (ul := lo.map rv) (uh := hi.map rv) (um := mx.map rv) hs h (fun b hb => hag b (.inl hb)) hx
      (by cases lo with
        | none => trivial
        | some a => exact hops a (by simp [Op.operands]))
      (by cases hi with
        | none => trivial
        | some a => exact hops a (by simp [Op.operands]))
      (by cases mx with
        | none => trivial
        | some a => exact hops a (by simp [Op.operands]))
    exact ⟨Nat.le_refl _, lands_val hv (done_pure h hr)⟩
  case fieldAddr ty x f =>
    have hx := hops x (by simp [Op.operands])
    simp only [vop] at hrun
    split at hrun
    · rename_i fs hu
      simp only [Tr.run_opt, Tr.run_chk, Bool.and_eq_true, decide_eq_true_eq] at hrun
      obtain ⟨fd, hf, ⟨hk, h0⟩, hrun⟩ := hrun
      have hgo : ∀ a : Addr, rv x = .pointer (some a) → (Instr.fieldAt ty (rv x) f).run P w = .ok (.pointer (some (a.add fd.offset))) w := fun a ha => by
        unfold Instr.fieldAt
        rw [run_andThen_ok (run_underlying hu w)]
        simp only [hf]
        rw [ha]
        unfold Instr.sureAddr
        simp only [pure_bind]
        rw [run_andThen_ok (fieldPlace_run hk h0)]
        rfl
      split at hrun
      · rename_i b off hxe
        rw [hxe] at hx
        obtain ⟨p, hp', hv⟩ := hx
        exact hpure hrun (hgo _ hv) ⟨p, hp', by rw [add_mk]⟩
      · rename_i b r c hxe
        rw [hxe] at hx
        obtain ⟨p, hp', hv⟩ := hx
        exact hpure hrun (hgo _ hv) ⟨p, hp', by rw [add_mk, Nat.add_assoc]⟩
      · simp [Tr.run] at hrun
    · simp [Tr.run] at hrun
  case field ty x f =>
    have hx := hops x (by simp [Op.operands])
    simp only [vop] at hrun
    split at hrun
    · rename_i fs l hu hxe
      rw [hxe] at hx
      simp only [Tr.run_opt] at hrun
      obtain ⟨fd, hf, r, hr, hrun⟩ := hrun
      obtain ⟨cs, hv, hl⟩ := hx
      obtain ⟨v, hv', hr'⟩ := run_part (P := P) (w := w) hr hl
      refine hpure hrun ?_ hr'
      unfold Instr.field
      rw [run_andThen_ok (run_underlying hu w)]
      simp only [hf, hv]
      exact hv'
    · simp [Tr.run] at hrun
  case indexAddr ty x i =>
    have hx := hops x (by simp [Op.operands])
    have hi := hops i (by simp [Op.operands])
    simp only [vop] at hrun
    split at hrun
    · rename_i k ix hie
      rw [hie] at hi
      obtain ⟨hi, _⟩ : rv i = .int k ix.val ∧ inK k ix.val := hi
      split at hrun
      · rename_i n el b off hu hxe
        rw [hxe] at hx
        rw [Tr.run_chk] at hrun
        obtain ⟨hk, hrun⟩ := hrun
        obtain ⟨j, hj, hlt, hrun⟩ := atIdx_sound hrun
        obtain ⟨p, hp', hv⟩ := hx
        refine hpure (u := .pointer (some ⟨p.blk, off + j * P.cellsOf el, none⟩)) hrun ?_ ⟨p, hp', rfl⟩
        unfold Instr.indexAt
        rw [hi, hv]
        have as1 : (asIntOf (.int k ix.val)).run P w = .ok (k, ix.val) w := rfl
        rw [run_andThen_ok as1]
        simp only
        rw [run_andThen_ok (run_underlying hu w)]
        simp only [Instr.sureAddr, pure_bind]
        rw [run_andThen_ok (run_underlying hu w)]
        simp only [hj]
        rw [if_pos (by constructor <;> omega)]
        rw [run_andThen_ok (run_sizeOf_k hk)]
        simp [add_mk]
      · rename_i el b off len cap hu hxe
        rw [hxe] at hx
        rw [Tr.run_chk] at hrun
        obtain ⟨hk, hrun⟩ := hrun
        obtain ⟨j, hj, hlt, hrun⟩ := atIdx_sound hrun
        obtain ⟨p, hp', hv⟩ := hx
        refine hpure (u := .pointer (some ⟨p.blk, off + j * P.cellsOf el, none⟩)) hrun ?_ ⟨p, hp', rfl⟩
        unfold Instr.indexAt
        rw [hi, hv]
        have as1 : (asIntOf (.int k ix.val)).run P w = .ok (k, ix.val) w := rfl
        rw [run_andThen_ok as1]
        simp only
        rw [run_andThen_ok (run_underlying hu w)]
        simp only [pure_bind]
        rw [run_andThen_ok (run_underlying hu w)]
        simp only [hj]
        rw [if_pos (by constructor <;> omega)]
        rw [run_andThen_ok (run_sizeOf_k hk)]
        simp [add_mk]
      · rename_i el b r len cap hu hxe
        rw [hxe] at hx
        rw [Tr.run_opt] at hrun
        obtain ⟨⟨ks, xs⟩, ht, hrun⟩ := hrun
        rw [Tr.run_chk, Tr.run_ite] at hrun
        obtain ⟨hk, ⟨hb, he⟩ | ⟨_, he⟩⟩ := hrun
        · rw [Tr.run_ok] at he
          subst he
          simp only [Bool.and_eq_true, decide_eq_true_eq] at hk hb
          obtain ⟨p, hp', hle, hcap, hv⟩ := hx
          obtain ⟨q, hq, hqs, _⟩ := tab_live h (hag b (.inl (by simp))) ht
          rw [hp'] at hq
          injection hq with hq
          subst hq
          obtain ⟨j, hj⟩ := Int.eq_ofNat_of_zero_le hb.1
          have hjs : ix.toSN.val = j := by
            cases ix with
            | lit a => simp only [SI.val] at hj; subst hj; rfl
            | sym a => simp only [SI.val] at hj; subst hj; rfl
          have hsz : p.sz = P.cellsOf el := by rw [hqs, hk.2]
          have hval : (SN.op2 (fun a b => a + b) r ix.toSN).val = r.val + j := by
            rw [← hjs]
            cases r <;> cases ix.toSN <;> rfl
          refine ⟨Nat.le_refl _, lands_val (v := .pointer (some ⟨p.blk, p.off0 + r.val * p.sz + j * P.cellsOf el, none⟩)) ?_ (done_pure h (RS_one (x := .tptr b (SN.op2 (fun a b => a + b) r ix.toSN) 0) ⟨p, hp', ?_⟩))⟩
          · unfold Instr.indexAt
            rw [hi, hv]
            have as1 : (asIntOf (.int k ix.val)).run P w = .ok (k, ix.val) w := rfl
            rw [run_andThen_ok as1]
            simp only
            rw [run_andThen_ok (run_underlying hu w)]
            simp only [pure_bind]
            rw [run_andThen_ok (run_underlying hu w)]
            simp only [hj]
            rw [if_pos (by constructor <;> omega)]
            rw [run_andThen_ok (run_sizeOf_k hk.1)]
            simp [add_mk]
          · rw [hval, hsz, Nat.add_mul]
            congr 3
            omega
        · cases he
      · rename_i el b len hu hxe
        rw [hxe] at hx
        rw [Tr.run_opt] at hrun
        obtain ⟨⟨ks, xs⟩, ht, hrun⟩ := hrun
        rw [Tr.run_chk, Tr.run_ite] at hrun
        obtain ⟨hk, ⟨hb, he⟩ | ⟨_, he⟩⟩ := hrun
        · rw [Tr.run_ok] at he
          subst he
          simp only [Bool.and_eq_true, decide_eq_true_eq] at hk hb
          obtain ⟨o, cap, hv, hle, hn, hpos⟩ := hx
          obtain ⟨p, hp', rfl⟩ := hpos (by omega)
          obtain ⟨q, hq, hqs, _⟩ := tab_live h (hag b (.inl (by simp))) ht
          rw [hp'] at hq
          injection hq with hq
          subst hq
          obtain ⟨j, hj⟩ := Int.eq_ofNat_of_zero_le hb.1
          have hjs : ix.toSN.val = j := by
            cases ix with
            | lit a => simp only [SI.val] at hj; subst hj; rfl
            | sym a => simp only [SI.val] at hj; subst hj; rfl
          have hsz : p.sz = P.cellsOf el := by rw [hqs, hk.2]
          refine ⟨Nat.le_refl _, lands_val (v := .pointer (some ⟨p.blk, p.off0 + j * P.cellsOf el, none⟩)) ?_ (done_pure h (RS_one (x := .tptr b ix.toSN 0) ⟨p, hp', ?_⟩))⟩
          · unfold Instr.indexAt
            rw [hi, hv]
            have as1 : (asIntOf (.int k ix.val)).run P w = .ok (k, ix.val) w := rfl
            rw [run_andThen_ok as1]
            simp only
            rw [run_andThen_ok (run_underlying hu w)]
            simp only [pure_bind]
            rw [run_andThen_ok (run_underlying hu w)]
            simp only [hj]
            rw [if_pos (by constructor <;> omega)]
            rw [run_andThen_ok (run_sizeOf_k hk.1)]
            simp [add_mk]
          · rw [hjs, hsz]
            rfl
        · cases he
      · simp [Tr.run] at hrun
    · simp [Tr.run] at hrun
  case index ty x i =>
    have hx := hops x (by simp [Op.operands])
    have hi := hops i (by simp [Op.operands])
    simp only [vop] at hrun
    split at hrun
    · rename_i k ix hie
      rw [hie] at hi
      obtain ⟨hi, _⟩ : rv i = .int k ix.val ∧ inK k ix.val := hi
      split at hrun
      · rename_i n el l hu hxe
        rw [hxe] at hx
        obtain ⟨j, hj, hlt, hrun⟩ := atIdx_sound hrun
        rw [Tr.run_opt] at hrun
        obtain ⟨r, hr, hrun⟩ := hrun
        obtain ⟨cs, hv, hl⟩ := hx
        obtain ⟨v, hv', hr'⟩ := run_part (P := P) (w := w) hr hl
        refine hpure hrun ?_ hr'
        unfold Instr.index
        rw [hi, hv]
        have as1 : (asIntOf (.int k ix.val)).run P w = .ok (k, ix.val) w := rfl
        rw [run_andThen_ok as1]
        simp only
        rw [run_andThen_ok (run_underlying hu w)]
        simp only [hj]
        rw [if_pos (by constructor <;> omega)]
        have hke : known P el = true := by
          unfold partS at hr
          cases hk : aggK P el with
          | none => simp [hk] at hr
          | some bb => obtain ⟨d, hd⟩ := aggK_underlying hk; exact known_of_underlying hd
        rw [run_andThen_ok (run_sizeOf_k hke)]
        simpa using hv'
      · simp [Tr.run] at hrun
    · simp [Tr.run] at hrun
  case extract x i =>
    have hx := hops x (by simp [Op.operands])
    simp only [vop] at hrun
    split at hrun
    · rename_i l hxe
      rw [hxe] at hx
      rw [Tr.run_opt] at hrun
      obtain ⟨r, hr, hrun⟩ := hrun
      obtain ⟨vs, hv, hl⟩ := hx
      obtain ⟨u, hu, hr'⟩ := hl.get i hr
      refine hpure (u := u) hrun ?_ hr'
      unfold Instr.extract
      simp [hv, hu]
    · simp [Tr.run] at hrun
  case call c =>
    obtain ⟨callee, args, argTypes⟩ := c
    have ha : F2 (RS ρ) (args.toList.map ev) (args.map rv).toList := args_RS args fun x hx => hops x (by
      simp only [Op.operands, Call.operands, Array.toList_append, List.mem_append]
      exact .inr hx)
    simp only [vop] at hrun
    cases callee with
    | value f =>
      have hf := hops f (by simp [Op.operands, Call.operands])
      simp only at hrun
      split at hrun
      · rename_i fid first caps hfe
        rw [hfe] at hf
        obtain ⟨va, vc, h1, h2, hv⟩ := hf
        have hall : F2 (RS ρ) (callArgs first (args.toList.map ev) caps) (va ++ (args.map rv).toList ++ vc) :=
          ((ptrs_RS h1).append ha).append (ptrs_RS h2)
        obtain ⟨g1, g2, g3⟩ := vcall_sound hcall hrun h hag hz hall
        refine ⟨g1, ?_⟩
        have hex : (execOp rv ⟨dst, .call ⟨.value f, args, argTypes⟩, type, pos, after, guard⟩).run P w = .ok (.enter fid (va ++ (args.map rv).toList ++ vc).toArray) w := by
          simp only [execOp, resolve, hv, Deferred.ofValue, pure_bind, invoke]
          rw [show (va.toArray ++ args.map rv ++ vc.toArray) = (va ++ (args.map rv).toList ++ vc).toArray by apply Array.ext'; simp]
          exact callFunc_run hnames g2
        rw [hex]
        exact g3
      · simp [Tr.run] at hrun
    | builtin b =>
      simp only at hrun
      have hex : execOp rv ⟨dst, .call ⟨.builtin b, args, argTypes⟩, type, pos, after, guard⟩ = builtin b argTypes type (args.map fun | .const _ => true | _ => false) (args.map rv) := by
        simp only [execOp, resolve, pure_bind, invoke]
        rfl
      rw [hex]
      exact vbuiltin_sound hrun ha h hag hz
    | invoke _ _ => simp [Tr.run] at hrun
  all_goals simp [vop, Tr.run] at hrun
end
end Go.Proofs.Ytlkanbgcghjhnaa.Eng
