/-
  The plan: what its small functions compute.
-/
import Derived.Test.YtcolladpdmjloaaMod2
namespace Go.Proofs.Ytcolladpdmjloaa.Eng
open Go

theorem iand_mask_i64 (x : Int) (n : Nat) (hn : n < 63) : iand .i64 x (2 ^ n - 1) = x % 2 ^ n := by
  have h := iand_mask x n (by omega)
  have hp : (0 : Int) < 2 ^ n := Int.pow_pos (by decide)
  have h1 := Int.emod_nonneg x (Int.ne_of_gt hp)
  have h2 := Int.emod_lt_of_pos x hp
  have h3 : (2 : Int) ^ n ≤ 4611686018427387904 := by
    have : (2 : Nat) ^ n ≤ 2 ^ 62 := Nat.pow_le_pow_right (by decide) (by omega)
    have := Int.ofNat_le.2 this
    simpa using this
  unfold iand at h ⊢
  rw [wrap_u64] at h
  have e : ((BitVec.ofInt 64 x &&& BitVec.ofInt 64 (2 ^ n - 1)).toNat : Int) = x % 2 ^ n := by
    have hlt := (BitVec.ofInt 64 x &&& BitVec.ofInt 64 (2 ^ n - 1)).isLt
    have h4 : ((BitVec.ofInt 64 x &&& BitVec.ofInt 64 (2 ^ n - 1)).toNat : Int) < 18446744073709551616 := by omega
    rw [← h]
    exact (Int.emod_eq_of_lt (by omega) h4).symm
  show IntKind.i64.wrap ((BitVec.ofInt 64 x &&& BitVec.ofInt 64 (2 ^ n - 1)).toNat : Int) = _
  rw [e]
  exact wrap_i64_of (by omega) (by omega)

def planOK (a b : Int) : Bool := decide (1 ≤ a) && decide (a ≤ 64) && decide (1 ≤ b) && decide (b ≤ 64)
def mPTh (a b : Int) : Int := match planOK a b with | true => a | false => 0
def mPBl (a b : Int) : Int := match planOK a b with | true => b | false => 0
def mPTab (a b : Int) : Int := match planOK a b with | true => 10 + a | false => 0
def mPHeap (a b : Int) : Int := match planOK a b with | true => (41 + a + b) / 32 * 32 | false => 0
def mPSize (a b : Int) : Int := match planOK a b with | true => (41 + a + b) / 32 * 32 + 32 * b | false => 0
def mPErr (a b : Int) : Int := match planOK a b with | true => 0 | false => 1
def mWords (c : Int) : Int := if c = 0 then 4 else if c = 1 then 8 else if c = 2 then 16 else 0
def mCells (c : Int) : Int := if c = 0 then 8 else if c = 1 then 4 else if c = 2 then 2 else 0
def mClass (n : Int) : Int := if n < 0 then -1 else if n ≤ 3 then 0 else if n ≤ 7 then 1 else -1
theorem planOK_iff (a b : Int) : planOK a b = true ↔ 1 ≤ a ∧ a ≤ 64 ∧ 1 ≤ b ∧ b ≤ 64 := by
  unfold planOK
  simp only [Bool.and_eq_true, decide_eq_true_eq, and_assoc]
/-- What a plan is that fits. -/
theorem plan_fits {a b : Int} (h : 1 ≤ a ∧ a ≤ 64 ∧ 1 ≤ b ∧ b ≤ 64) :
    mPTh a b = a ∧ mPBl a b = b ∧ mPTab a b = 10 + a ∧ mPHeap a b = (41 + a + b) / 32 * 32 ∧ mPSize a b = (41 + a + b) / 32 * 32 + 32 * b ∧ mPErr a b = 0 := by
  have := (planOK_iff a b).2 h
  unfold mPTh mPBl mPTab mPHeap mPSize mPErr
  rw [this]
  exact ⟨rfl, rfl, rfl, rfl, rfl, rfl⟩
theorem plan_not {a b : Int} (h : ¬ (1 ≤ a ∧ a ≤ 64 ∧ 1 ≤ b ∧ b ≤ 64)) :
    mPTh a b = 0 ∧ mPBl a b = 0 ∧ mPTab a b = 0 ∧ mPHeap a b = 0 ∧ mPSize a b = 0 ∧ mPErr a b = 1 := by
  have : planOK a b = false := by
    cases hp : planOK a b with
    | false => rfl
    | true => exact absurd ((planOK_iff a b).1 hp) h
  unfold mPTh mPBl mPTab mPHeap mPSize mPErr
  rw [this]
  exact ⟨rfl, rfl, rfl, rfl, rfl, rfl⟩
end Go.Proofs.Ytcolladpdmjloaa.Eng
