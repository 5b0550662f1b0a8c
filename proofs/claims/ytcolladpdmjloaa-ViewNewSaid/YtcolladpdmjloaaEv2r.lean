/-
  The layers 2 and 3 (head, stamp): what each function computes. Printed by gen2r.py. (DROP: what speaks of functions that the seat has not is left out.)
-/
import Derived.Test.YtcolladpdmjloaaEv0
import Derived.Test.YtcolladpdmjloaaMod
namespace Go.Proofs.Ytcolladpdmjloaa.Eng
open Go

noncomputable abbrev evp (A : Type) (f : FuncId) (args : List SV) : Tr SV := (evF Try.prog (I0 A) 100 20 f args [] 0).vmap (·.val)
abbrev pw (x : Int) (n : Nat) : Int := ior .u64 0 (ishl .u64 (iand .u64 (IntKind.u64.wrap x) (2 ^ n - 1)) (0 : Nat))
abbrev po (w x : Int) (n k : Nat) : Int := ior .u64 w (ishl .u64 (iand .u64 (IntKind.u64.wrap x) (2 ^ n - 1)) k)
abbrev pa (w x : Int) (n k : Nat) : Int := IntKind.u64.wrap (w + ishl .u64 ((IntKind.u64.wrap x).tmod (ishl .u64 1 n)) k)
abbrev pt (x : Int) (n : Nat) : Int := (IntKind.u64.wrap x).tmod (ishl .u64 1 n)
abbrev pr (w : Int) (n : Nat) : Int := IntKind.i64.wrap (iand .u64 w (2 ^ n - 1))
abbrev sr (w : Int) (n : Nat) : Int := ishr .u64 w n
abbrev pm (w : Int) (k n : Nat) : Int := IntKind.i64.wrap ((ishr .u64 w k).tmod (ishl .u64 1 n))
theorem pt_eq {x : Int} (n : Nat) (h : n < 64) : pt x n = x % 2 ^ n := by
  have := lay_add (w := 0) (x := x) n 0 (by omega) h (by omega) (by decide)
  have hn : (0 : Int) < 2 ^ n := Int.pow_pos (by decide)
  have hnlt : (2 : Int) ^ n < 18446744073709551616 := by
    have : (2 : Nat) ^ n < 2 ^ 64 := Nat.pow_lt_pow_right (by decide) h
    have := Int.ofNat_lt.2 this
    simpa using this
  have hdvd : (2 : Int) ^ n ∣ 18446744073709551616 := by
    have : (2 : Nat) ^ n ∣ 2 ^ 64 := Nat.pow_dvd_pow 2 (by omega)
    have := Int.natCast_dvd_natCast.2 this
    simpa using this
  have hone : ishl .u64 1 n = 2 ^ n := by
    rw [ishl_u64 _ n (by omega), Int.one_mul]
    exact Int.emod_eq_of_lt (Int.le_of_lt hn) hnlt
  unfold pt
  rw [hone, wrap_u64, Int.tmod_eq_emod_of_nonneg (Int.emod_nonneg x (by decide)), Int.emod_emod_of_dvd _ hdvd]
theorem po_eq {w x : Int} (n k : Nat) (h : n + k ≤ 64) (hw : 0 ≤ w) (hw' : w < 2 ^ k) : po w x n k = w + (x % 2 ^ n) * 2 ^ k := lay_or n k h hw hw'
theorem pa_eq {w x : Int} (n k : Nat) (h : n + k ≤ 64) (hn64 : n < 64) (hw : 0 ≤ w) (hw' : w < 2 ^ k) : pa w x n k = w + (x % 2 ^ n) * 2 ^ k := lay_add n k h hn64 hw hw'
theorem pr_eq {w : Int} (n : Nat) (hn : n < 63) : pr w n = w % 2 ^ n := part_and0 n hn
theorem sr_eq (w : Int) (n : Nat) (hn : n ≤ 64) : sr w n = w / 2 ^ n := ishr_u64 w n hn
theorem pm_eq {w : Int} (hw : 0 ≤ w) (k n : Nat) (hk : k ≤ 64) (hn : n < 63) : pm w k n = w / 2 ^ k % 2 ^ n := part_mod hw k n hk hn
set_option linter.unusedSimpArgs false
set_option linter.unusedVariables false
section
variable {A : Type} {S : Sys A}

theorem raw_Top (a v : Int) : (po (po 0 a 12 0) v 40 12) = mTop a v := by
  rw [po_eq 12 0 (by decide) (by omega) (by omega)]
  rw [po_eq 40 12 (by decide) (by omega) (by omega)]
  unfold mTop
  omega
def gTop : List SV → Option SV
  | [.s (.agg [.int .i64 a, .int .i64 v])] => some (.v (.int .u64 (SI.op2 mTop a v)))
  | _ => none
theorem raw_RTop (a v : Int) : (pa (pa 0 a 12 0) v 40 12) = mTop a v := by
  rw [pa_eq 12 0 (by decide) (by decide) (by omega) (by omega)]
  rw [pa_eq 40 12 (by decide) (by decide) (by omega) (by omega)]
  unfold mTop
  omega
theorem ev_RTop (a v : Int) : evp A 16 [.s (.agg [ii a, ii v])] = .ok (.v (uu (mTop a v))) := by
  have h : evp A 16 [.s (.agg [ii a, ii v])] = .ok (.v (uu (pa (pa 0 a 12 0) v 40 12))) := by kernel_rfl
  exact h.trans (by rw [raw_RTop])
def gRTop : List SV → Option SV
  | [.s (.agg [.int .i64 a, .int .i64 v])] => some (.v (.int .u64 (SI.op2 mTop a v)))
  | _ => none
theorem ok_RTop : FunOK S Try.prog 16 (pureI A gRTop) := funOK_one (ok0 _) fun args v vargs ρ hg ha => by
  unfold gRTop at hg
  split at hg
  · injection hg with hg
    subst hg
    exact ⟨rfl, (ev_RTop _ _).trans (by simp only [symSV, symS1, symVV, val_op2, val_op4, val_op7])⟩
  · cases hg
theorem raw_Phase (n m k l : Int) : (po (po (po (po 0 n 40 0) m 4 40) k 1 44) l 1 45) = mPhase n m k l := by
  rw [po_eq 40 0 (by decide) (by omega) (by omega)]
  rw [po_eq 4 40 (by decide) (by omega) (by omega)]
  rw [po_eq 1 44 (by decide) (by omega) (by omega)]
  rw [po_eq 1 45 (by decide) (by omega) (by omega)]
  unfold mPhase
  omega
def gPhase : List SV → Option SV
  | [.s (.agg [.int .i64 n, .int .i64 m, .int .i64 k, .int .i64 l])] => some (.v (.int .u64 (SI.op4 mPhase n m k l)))
  | _ => none
theorem raw_RPhase (n m k l : Int) : (pa (pa (pa (pa 0 n 40 0) m 4 40) k 1 44) l 1 45) = mPhase n m k l := by
  rw [pa_eq 40 0 (by decide) (by decide) (by omega) (by omega)]
  rw [pa_eq 4 40 (by decide) (by decide) (by omega) (by omega)]
  rw [pa_eq 1 44 (by decide) (by decide) (by omega) (by omega)]
  rw [pa_eq 1 45 (by decide) (by decide) (by omega) (by omega)]
  unfold mPhase
  omega
def gRPhase : List SV → Option SV
  | [.s (.agg [.int .i64 n, .int .i64 m, .int .i64 k, .int .i64 l])] => some (.v (.int .u64 (SI.op4 mPhase n m k l)))
  | _ => none
theorem raw_Block (s c t n : Int) : (po (po (po (po 0 s 2 0) c 2 2) t 1 4) n 7 5) = mBlock s c t n := by
  rw [po_eq 2 0 (by decide) (by omega) (by omega)]
  rw [po_eq 2 2 (by decide) (by omega) (by omega)]
  rw [po_eq 1 4 (by decide) (by omega) (by omega)]
  rw [po_eq 7 5 (by decide) (by omega) (by omega)]
  unfold mBlock
  omega
def gBlock : List SV → Option SV
  | [.s (.agg [.int .i64 s, .int .i64 c, .int .i64 t, .int .i64 n])] => some (.v (.int .u64 (SI.op4 mBlock s c t n)))
  | _ => none
theorem raw_RBlock (s c t n : Int) : (pa (pa (pa (pa 0 s 2 0) c 2 2) t 1 4) n 7 5) = mBlock s c t n := by
  rw [pa_eq 2 0 (by decide) (by decide) (by omega) (by omega)]
  rw [pa_eq 2 2 (by decide) (by decide) (by omega) (by omega)]
  rw [pa_eq 1 4 (by decide) (by decide) (by omega) (by omega)]
  rw [pa_eq 7 5 (by decide) (by decide) (by omega) (by omega)]
  unfold mBlock
  omega
theorem ev_RBlock (s c t n : Int) : evp A 14 [.s (.agg [ii s, ii c, ii t, ii n])] = .ok (.v (uu (mBlock s c t n))) := by
  have h : evp A 14 [.s (.agg [ii s, ii c, ii t, ii n])] = .ok (.v (uu (pa (pa (pa (pa 0 s 2 0) c 2 2) t 1 4) n 7 5))) := by kernel_rfl
  exact h.trans (by rw [raw_RBlock])
def gRBlock : List SV → Option SV
  | [.s (.agg [.int .i64 s, .int .i64 c, .int .i64 t, .int .i64 n])] => some (.v (.int .u64 (SI.op4 mBlock s c t n)))
  | _ => none
theorem ok_RBlock : FunOK S Try.prog 14 (pureI A gRBlock) := funOK_one (ok0 _) fun args v vargs ρ hg ha => by
  unfold gRBlock at hg
  split at hg
  · injection hg with hg
    subst hg
    exact ⟨rfl, (ev_RBlock _ _ _ _).trans (by simp only [symSV, symS1, symVV, val_op2, val_op4, val_op7])⟩
  · cases hg
theorem raw_Word (s c n m g t l : Int) : (po (po (po (po (po (po (po 0 s 2 0) c 2 2) n 3 4) m 1 7) g 1 8) t 3 9) l 12 12) = mWord s c n m g t l := by
  rw [po_eq 2 0 (by decide) (by omega) (by omega)]
  rw [po_eq 2 2 (by decide) (by omega) (by omega)]
  rw [po_eq 3 4 (by decide) (by omega) (by omega)]
  rw [po_eq 1 7 (by decide) (by omega) (by omega)]
  rw [po_eq 1 8 (by decide) (by omega) (by omega)]
  rw [po_eq 3 9 (by decide) (by omega) (by omega)]
  rw [po_eq 12 12 (by decide) (by omega) (by omega)]
  unfold mWord
  omega
def gWord : List SV → Option SV
  | [.s (.agg [.int .i64 s, .int .i64 c, .int .i64 n, .int .i64 m, .int .i64 g, .int .i64 t, .int .i64 l])] => some (.v (.int .u64 (SI.op7 mWord s c n m g t l)))
  | _ => none
theorem raw_RWord (s c n m g t l : Int) : (pa (pa (pa (pa (pa (pa (pt s 2) c 2 2) n 3 4) m 1 7) g 1 8) t 3 9) l 12 12) = mWord s c n m g t l := by
  rw [pt_eq 2 (by decide)]
  rw [pa_eq 2 2 (by decide) (by decide) (by omega) (by omega)]
  rw [pa_eq 3 4 (by decide) (by decide) (by omega) (by omega)]
  rw [pa_eq 1 7 (by decide) (by decide) (by omega) (by omega)]
  rw [pa_eq 1 8 (by decide) (by decide) (by omega) (by omega)]
  rw [pa_eq 3 9 (by decide) (by decide) (by omega) (by omega)]
  rw [pa_eq 12 12 (by decide) (by decide) (by omega) (by omega)]
  unfold mWord
  omega
def gRWord : List SV → Option SV
  | [.s (.agg [.int .i64 s, .int .i64 c, .int .i64 n, .int .i64 m, .int .i64 g, .int .i64 t, .int .i64 l])] => some (.v (.int .u64 (SI.op7 mWord s c n m g t l)))
  | _ => none
theorem raw_OfTop0 (w : Int) : pr w 12 = mAt w := by
  rw [pr_eq 12 (by decide)]
  unfold mAt
  omega
theorem raw_OfTop1 (w : Int) : pr (sr w 12) 40 = mVer w := by
  rw [pr_eq 40 (by decide), sr_eq _ 12 (by decide)]
  unfold mVer
  omega
theorem ev_OfTop (w : Int) : evp A 19 [.v (uu w)] = .ok (.s (.agg [ii (mAt w), ii (mVer w)])) := by
  have h : evp A 19 [.v (uu w)] = .ok (.s (.agg [ii (pr w 12), ii (pr (sr w 12) 40)])) := by kernel_rfl
  exact h.trans (by rw [raw_OfTop0 w, raw_OfTop1 w])
def gOfTop : List SV → Option SV
  | [.s (.one (.int .u64 w))] => some (.s (.agg [.int .i64 (SI.op1 mAt w), .int .i64 (SI.op1 mVer w)]))
  | _ => none
theorem ok_OfTop : FunOK S Try.prog 19 (pureI A gOfTop) := funOK_one (ok0 _) fun args v vargs ρ hg ha => by
  unfold gOfTop at hg
  split at hg
  · rename_i w
    injection hg with hg
    subst hg
    exact ⟨rfl, (ev_OfTop _).trans (by simp only [symSV, symS1, symVV, List.map, val_op1])⟩
  · cases hg
theorem raw_ROfTop0 (w : Int) (hw : 0 ≤ w) : pm w 0 12 = mAt w := by
  rw [pm_eq hw 0 12 (by decide) (by decide)]
  unfold mAt
  omega
theorem raw_ROfTop1 (w : Int) (hw : 0 ≤ w) : pm w 12 40 = mVer w := by
  rw [pm_eq hw 12 40 (by decide) (by decide)]
  unfold mVer
  omega
def gROfTop : List SV → Option SV
  | [.s (.one (.int .u64 w))] => some (.s (.agg [.int .i64 (SI.op1 mAt w), .int .i64 (SI.op1 mVer w)]))
  | _ => none
theorem raw_OfPhase0 (w : Int) : pr w 40 = mNo w := by
  rw [pr_eq 40 (by decide)]
  unfold mNo
  omega
theorem raw_OfPhase1 (w : Int) : pr (sr w 40) 4 = mMode w := by
  rw [pr_eq 4 (by decide), sr_eq _ 40 (by decide)]
  unfold mMode
  omega
theorem raw_OfPhase2 (w : Int) : pr (sr (sr w 40) 4) 1 = mMark w := by
  rw [pr_eq 1 (by decide), sr_eq _ 4 (by decide), sr_eq _ 40 (by decide)]
  unfold mMark
  omega
theorem raw_OfPhase3 (w : Int) : pr (sr (sr (sr w 40) 4) 1) 1 = mList w := by
  rw [pr_eq 1 (by decide), sr_eq _ 1 (by decide), sr_eq _ 4 (by decide), sr_eq _ 40 (by decide)]
  unfold mList
  omega
def gOfPhase : List SV → Option SV
  | [.s (.one (.int .u64 w))] => some (.s (.agg [.int .i64 (SI.op1 mNo w), .int .i64 (SI.op1 mMode w), .int .i64 (SI.op1 mMark w), .int .i64 (SI.op1 mList w)]))
  | _ => none
theorem raw_ROfPhase0 (w : Int) (hw : 0 ≤ w) : pm w 0 40 = mNo w := by
  rw [pm_eq hw 0 40 (by decide) (by decide)]
  unfold mNo
  omega
theorem raw_ROfPhase1 (w : Int) (hw : 0 ≤ w) : pm w 40 4 = mMode w := by
  rw [pm_eq hw 40 4 (by decide) (by decide)]
  unfold mMode
  omega
theorem raw_ROfPhase2 (w : Int) (hw : 0 ≤ w) : pm w 44 1 = mMark w := by
  rw [pm_eq hw 44 1 (by decide) (by decide)]
  unfold mMark
  omega
theorem raw_ROfPhase3 (w : Int) (hw : 0 ≤ w) : pm w 45 1 = mList w := by
  rw [pm_eq hw 45 1 (by decide) (by decide)]
  unfold mList
  omega
def gROfPhase : List SV → Option SV
  | [.s (.one (.int .u64 w))] => some (.s (.agg [.int .i64 (SI.op1 mNo w), .int .i64 (SI.op1 mMode w), .int .i64 (SI.op1 mMark w), .int .i64 (SI.op1 mList w)]))
  | _ => none
theorem raw_OfBlock0 (w : Int) : pr w 2 = mBState w := by
  rw [pr_eq 2 (by decide)]
  unfold mBState
  omega
theorem raw_OfBlock1 (w : Int) : pr (sr w 2) 2 = mBClass w := by
  rw [pr_eq 2 (by decide), sr_eq _ 2 (by decide)]
  unfold mBClass
  omega
theorem raw_OfBlock2 (w : Int) : pr (sr (sr w 2) 2) 1 = mBStamp w := by
  rw [pr_eq 1 (by decide), sr_eq _ 2 (by decide), sr_eq _ 2 (by decide)]
  unfold mBStamp
  omega
theorem raw_OfBlock3 (w : Int) : pr (sr (sr (sr w 2) 2) 1) 7 = mBNext w := by
  rw [pr_eq 7 (by decide), sr_eq _ 1 (by decide), sr_eq _ 2 (by decide), sr_eq _ 2 (by decide)]
  unfold mBNext
  omega
theorem ev_OfBlock (w : Int) : evp A 27 [.v (uu w)] = .ok (.s (.agg [ii (mBState w), ii (mBClass w), ii (mBStamp w), ii (mBNext w)])) := by
  have h : evp A 27 [.v (uu w)] = .ok (.s (.agg [ii (pr w 2), ii (pr (sr w 2) 2), ii (pr (sr (sr w 2) 2) 1), ii (pr (sr (sr (sr w 2) 2) 1) 7)])) := by kernel_rfl
  exact h.trans (by rw [raw_OfBlock0 w, raw_OfBlock1 w, raw_OfBlock2 w, raw_OfBlock3 w])
def gOfBlock : List SV → Option SV
  | [.s (.one (.int .u64 w))] => some (.s (.agg [.int .i64 (SI.op1 mBState w), .int .i64 (SI.op1 mBClass w), .int .i64 (SI.op1 mBStamp w), .int .i64 (SI.op1 mBNext w)]))
  | _ => none
theorem ok_OfBlock : FunOK S Try.prog 27 (pureI A gOfBlock) := funOK_one (ok0 _) fun args v vargs ρ hg ha => by
  unfold gOfBlock at hg
  split at hg
  · rename_i w
    injection hg with hg
    subst hg
    exact ⟨rfl, (ev_OfBlock _).trans (by simp only [symSV, symS1, symVV, List.map, val_op1])⟩
  · cases hg
theorem raw_ROfBlock0 (w : Int) (hw : 0 ≤ w) : pm w 0 2 = mBState w := by
  rw [pm_eq hw 0 2 (by decide) (by decide)]
  unfold mBState
  omega
theorem raw_ROfBlock1 (w : Int) (hw : 0 ≤ w) : pm w 2 2 = mBClass w := by
  rw [pm_eq hw 2 2 (by decide) (by decide)]
  unfold mBClass
  omega
theorem raw_ROfBlock2 (w : Int) (hw : 0 ≤ w) : pm w 4 1 = mBStamp w := by
  rw [pm_eq hw 4 1 (by decide) (by decide)]
  unfold mBStamp
  omega
theorem raw_ROfBlock3 (w : Int) (hw : 0 ≤ w) : pm w 5 7 = mBNext w := by
  rw [pm_eq hw 5 7 (by decide) (by decide)]
  unfold mBNext
  omega
def gROfBlock : List SV → Option SV
  | [.s (.one (.int .u64 w))] => some (.s (.agg [.int .i64 (SI.op1 mBState w), .int .i64 (SI.op1 mBClass w), .int .i64 (SI.op1 mBStamp w), .int .i64 (SI.op1 mBNext w)]))
  | _ => none
theorem raw_Of0 (w : Int) : pr w 2 = mHState w := by
  rw [pr_eq 2 (by decide)]
  unfold mHState
  omega
theorem raw_Of1 (w : Int) : pr (sr w 2) 2 = mHClass w := by
  rw [pr_eq 2 (by decide), sr_eq _ 2 (by decide)]
  unfold mHClass
  omega
theorem raw_Of2 (w : Int) : pr (sr (sr w 2) 2) 3 = mHCount w := by
  rw [pr_eq 3 (by decide), sr_eq _ 2 (by decide), sr_eq _ 2 (by decide)]
  unfold mHCount
  omega
theorem raw_Of3 (w : Int) : pr (sr (sr (sr w 2) 2) 3) 1 = mHMark w := by
  rw [pr_eq 1 (by decide), sr_eq _ 3 (by decide), sr_eq _ 2 (by decide), sr_eq _ 2 (by decide)]
  unfold mHMark
  omega
theorem raw_Of4 (w : Int) : pr (sr (sr (sr (sr w 2) 2) 3) 1) 1 = mHGrey w := by
  rw [pr_eq 1 (by decide), sr_eq _ 1 (by decide), sr_eq _ 3 (by decide), sr_eq _ 2 (by decide), sr_eq _ 2 (by decide)]
  unfold mHGrey
  omega
theorem raw_Of5 (w : Int) : pr (sr (sr (sr (sr (sr w 2) 2) 3) 1) 1) 3 = mHTag w := by
  rw [pr_eq 3 (by decide), sr_eq _ 1 (by decide), sr_eq _ 1 (by decide), sr_eq _ 3 (by decide), sr_eq _ 2 (by decide), sr_eq _ 2 (by decide)]
  unfold mHTag
  omega
theorem raw_Of6 (w : Int) : pr (sr (sr (sr (sr (sr (sr w 2) 2) 3) 1) 1) 3) 12 = mHLink w := by
  rw [pr_eq 12 (by decide), sr_eq _ 3 (by decide), sr_eq _ 1 (by decide), sr_eq _ 1 (by decide), sr_eq _ 3 (by decide), sr_eq _ 2 (by decide), sr_eq _ 2 (by decide)]
  unfold mHLink
  omega
theorem ev_Of (w : Int) : evp A 33 [.v (uu w)] = .ok (.s (.agg [ii (mHState w), ii (mHClass w), ii (mHCount w), ii (mHMark w), ii (mHGrey w), ii (mHTag w), ii (mHLink w)])) := by
  have h : evp A 33 [.v (uu w)] = .ok (.s (.agg [ii (pr w 2), ii (pr (sr w 2) 2), ii (pr (sr (sr w 2) 2) 3), ii (pr (sr (sr (sr w 2) 2) 3) 1), ii (pr (sr (sr (sr (sr w 2) 2) 3) 1) 1), ii (pr (sr (sr (sr (sr (sr w 2) 2) 3) 1) 1) 3), ii (pr (sr (sr (sr (sr (sr (sr w 2) 2) 3) 1) 1) 3) 12)])) := by kernel_rfl
  exact h.trans (by rw [raw_Of0 w, raw_Of1 w, raw_Of2 w, raw_Of3 w, raw_Of4 w, raw_Of5 w, raw_Of6 w])
def gOf : List SV → Option SV
  | [.s (.one (.int .u64 w))] => some (.s (.agg [.int .i64 (SI.op1 mHState w), .int .i64 (SI.op1 mHClass w), .int .i64 (SI.op1 mHCount w), .int .i64 (SI.op1 mHMark w), .int .i64 (SI.op1 mHGrey w), .int .i64 (SI.op1 mHTag w), .int .i64 (SI.op1 mHLink w)]))
  | _ => none
theorem ok_Of : FunOK S Try.prog 33 (pureI A gOf) := funOK_one (ok0 _) fun args v vargs ρ hg ha => by
  unfold gOf at hg
  split at hg
  · rename_i w
    injection hg with hg
    subst hg
    exact ⟨rfl, (ev_Of _).trans (by simp only [symSV, symS1, symVV, List.map, val_op1])⟩
  · cases hg
theorem raw_ROf0 (w : Int) (hw : 0 ≤ w) : pm w 0 2 = mHState w := by
  rw [pm_eq hw 0 2 (by decide) (by decide)]
  unfold mHState
  omega
theorem raw_ROf1 (w : Int) (hw : 0 ≤ w) : pm w 2 2 = mHClass w := by
  rw [pm_eq hw 2 2 (by decide) (by decide)]
  unfold mHClass
  omega
theorem raw_ROf2 (w : Int) (hw : 0 ≤ w) : pm w 4 3 = mHCount w := by
  rw [pm_eq hw 4 3 (by decide) (by decide)]
  unfold mHCount
  omega
theorem raw_ROf3 (w : Int) (hw : 0 ≤ w) : pm w 7 1 = mHMark w := by
  rw [pm_eq hw 7 1 (by decide) (by decide)]
  unfold mHMark
  omega
theorem raw_ROf4 (w : Int) (hw : 0 ≤ w) : pm w 8 1 = mHGrey w := by
  rw [pm_eq hw 8 1 (by decide) (by decide)]
  unfold mHGrey
  omega
theorem raw_ROf5 (w : Int) (hw : 0 ≤ w) : pm w 9 3 = mHTag w := by
  rw [pm_eq hw 9 3 (by decide) (by decide)]
  unfold mHTag
  omega
theorem raw_ROf6 (w : Int) (hw : 0 ≤ w) : pm w 12 12 = mHLink w := by
  rw [pm_eq hw 12 12 (by decide) (by decide)]
  unfold mHLink
  omega
def gROf : List SV → Option SV
  | [.s (.one (.int .u64 w))] => some (.s (.agg [.int .i64 (SI.op1 mHState w), .int .i64 (SI.op1 mHClass w), .int .i64 (SI.op1 mHCount w), .int .i64 (SI.op1 mHMark w), .int .i64 (SI.op1 mHGrey w), .int .i64 (SI.op1 mHTag w), .int .i64 (SI.op1 mHLink w)]))
  | _ => none
theorem raw_Next (w a : Int) : (po (po 0 a 12 0) (IntKind.i64.wrap (pr (sr w 12) 40 + 1)) 40 12) = mNext w a := by
  rw [raw_OfTop1 w, raw_Top]
  have h : IntKind.i64.wrap (mVer w + 1) = mVer w + 1 := wrap_i64_of (by unfold mVer; omega) (by unfold mVer; omega)
  rw [h, mNext]
def gNext : List SV → Option SV
  | [.s (.one (.int .u64 w)), .s (.one (.int .i64 a))] => some (.v (.int .u64 (SI.op2 mNext w a)))
  | _ => none
theorem raw_RNext (w a : Int) (hw : 0 ≤ w) : (pa (pa 0 a 12 0) (IntKind.i64.wrap (pm w 12 40 + 1)) 40 12) = mNext w a := by
  rw [raw_ROfTop1 w hw, raw_RTop]
  have h : IntKind.i64.wrap (mVer w + 1) = mVer w + 1 := wrap_i64_of (by unfold mVer; omega) (by unfold mVer; omega)
  rw [h, mNext]
def gRNext : List SV → Option SV
  | [.s (.one (.int .u64 w)), .s (.one (.int .i64 a))] => some (.v (.int .u64 (SI.op2 mNext w a)))
  | _ => none
theorem ev_Moved (w a : Int) : evp A 47 [.v (uu w), .v (ii a)] = .ite (mHState w == 1) (.ite (mHTag w == 2) (.ok (.v (ii (mHLink w)))) (.ok (.v (ii a)))) (.ok (.v (ii a))) := by
  have h : evp A 47 [.v (uu w), .v (ii a)] = .ite (pr w 2 == 1) (.ite (pr (sr (sr (sr (sr (sr w 2) 2) 3) 1) 1) 3 == 2) (.ok (.v (ii (pr (sr (sr (sr (sr (sr (sr w 2) 2) 3) 1) 1) 3) 12)))) (.ok (.v (ii a)))) (.ok (.v (ii a))) := by kernel_rfl
  exact h.trans (by rw [raw_Of0 w, raw_Of5 w, raw_Of6 w])
def gMoved : List SV → Option SV
  | [.s (.one (.int .u64 w)), .s (.one (.int .i64 a))] => some (.v (.int .i64 (SI.op2 mMoved w a)))
  | _ => none
theorem ok_Moved : FunOK S Try.prog 47 (pureI A gMoved) := funOK_many (ok0 _) fun args v vargs ρ hg ha => by
  unfold gMoved at hg
  split at hg
  · rename_i w a
    injection hg with hg
    subst hg
    refine ⟨rfl, _, ev_Moved _ _, .v (ii (mMoved w.val a.val)), ?_, (show SV.v (ii (mMoved w.val a.val)) = SV.v (ii (SI.op2 mMoved w a).val) by rw [val_op2])⟩
    unfold mMoved
    cases h1 : (mHState w.val == 1) <;> cases h2 : (mHTag w.val == 2) <;> simp only [beq_iff_eq, beq_eq_false_iff_ne] at h1 h2 <;> simp [Tr.run, h1, h2]
  · cases hg
def gRMoved : List SV → Option SV
  | [.s (.one (.int .u64 w)), .s (.one (.int .i64 a))] => some (.v (.int .i64 (SI.op2 mMoved w a)))
  | _ => none
def mGood (s c n m g t l : Int) : Bool := decide (s ≥ 0) && (decide (s < 4) && (decide (c ≥ 0) && (decide (c < 4) && (decide (n ≥ 0) && (decide (n < 8) && (decide (m ≥ 0) && (decide (m < 2) && (decide (g ≥ 0) && (decide (g < 2) && (decide (t ≥ 0) && (decide (t < 8) && (decide (l ≥ 0) && decide (l < 4096)))))))))))))
theorem and_tree {c b : Bool} {t : Tr SV} (h : ∃ v', t.run = some v' ∧ symSV v' = .v (.bool (.sym b))) : ∃ v', (Tr.ite c t (.ok (.v (.bool (.lit false))))).run = some v' ∧ symSV v' = .v (.bool (.sym (c && b))) := by
  cases c with
  | true => exact h
  | false => exact ⟨_, rfl, rfl⟩
/-! ### All of them -/
def lookI (A : Type) : List (Nat × (List SV → Option SV)) → FuncId → Option (Intr A)
  | [], _ => none
  | p :: l, f => match Nat.beq p.1 f with
    | true => some (pureI A p.2)
    | false => lookI A l f
def gTrue : List SV → Option SV
  | [] => some (.v (.bool (.lit true)))
  | _ => none
theorem lookI_ok {l : List (Nat × (List SV → Option SV))} (h : ∀ p ∈ l, FunOK S Try.prog p.1 (pureI A p.2)) : ∀ f i, lookI A l f = some i → FunOK S Try.prog f i := by
  induction l with
  | nil => intro f i h; cases h
  | cons p l ih =>
    intro f i hi
    unfold lookI at hi
    split at hi
    · rename_i hb
      injection hi with hi
      subst hi
      have := Nat.eq_of_beq_eq_true hb
      subst this
      exact h p (List.mem_cons_self ..)
    · exact ih (fun p hp => h p (List.mem_cons_of_mem _ hp)) f i hi
def tab2 : List (Nat × (List SV → Option SV)) := (16, gRTop) :: (14, gRBlock) :: (19, gOfTop) :: (27, gOfBlock) :: (33, gOf) :: (47, gMoved) :: []
theorem tab2_ok : ∀ p ∈ tab2, FunOK S Try.prog p.1 (pureI A p.2) := by
  unfold tab2
  simp only [List.forall_mem_cons]
  exact ⟨ok_RTop, ok_RBlock, ok_OfTop, ok_OfBlock, ok_Of, ok_Moved, by simp⟩
end
end Go.Proofs.Ytcolladpdmjloaa.Eng
