/-
  What the small functions of the layers 2, 3 and 5 compute, as sums of remainders.
-/
import Derived.Test.YtcolladpdmjloaaBits
namespace Go.Proofs.Ytcolladpdmjloaa.Eng
open Go

def mTop (a v : Int) : Int := a % 4096 + (v % 1099511627776) * 4096
def mAt (w : Int) : Int := w % 4096
def mVer (w : Int) : Int := w / 4096 % 1099511627776
def mNext (w a : Int) : Int := mTop a (mVer w + 1)
def mPhase (n m k l : Int) : Int := n % 1099511627776 + (m % 16) * 1099511627776 + (k % 2) * 17592186044416 + (l % 2) * 35184372088832
def mNo (w : Int) : Int := w % 1099511627776
def mMode (w : Int) : Int := w / 1099511627776 % 16
def mMark (w : Int) : Int := w / 17592186044416 % 2
def mList (w : Int) : Int := w / 35184372088832 % 2
def mBlock (s c t n : Int) : Int := s % 4 + (c % 4) * 4 + (t % 2) * 16 + (n % 128) * 32
def mBState (w : Int) : Int := w % 4
def mBClass (w : Int) : Int := w / 4 % 4
def mBStamp (w : Int) : Int := w / 16 % 2
def mBNext (w : Int) : Int := w / 32 % 128
def mWord (s c n m g t l : Int) : Int := s % 4 + (c % 4) * 4 + (n % 8) * 16 + (m % 2) * 128 + (g % 2) * 256 + (t % 8) * 512 + (l % 4096) * 4096
def mHState (w : Int) : Int := w % 4
def mHClass (w : Int) : Int := w / 4 % 4
def mHCount (w : Int) : Int := w / 16 % 8
def mHMark (w : Int) : Int := w / 128 % 2
def mHGrey (w : Int) : Int := w / 256 % 2
def mHTag (w : Int) : Int := w / 512 % 8
def mHLink (w : Int) : Int := w / 4096 % 4096
def mMoved (w a : Int) : Int := if mHState w = 1 ∧ mHTag w = 2 then mHLink w else a

/-! ### Laying a number into a word -/
/-- What stamp and head do: x's lowest bits, shifted, or-ed. -/
theorem lay_or {w x : Int} (n k : Nat) (h : n + k ≤ 64) (hw : 0 ≤ w) (hw' : w < 2 ^ k) :
    ior .u64 w (ishl .u64 (iand .u64 (IntKind.u64.wrap x) (2 ^ n - 1)) k) = w + (x % 2 ^ n) * 2 ^ k := by
  rw [iand_mask _ n (by omega), wrap_u64, ishl_u64 _ k (by omega)]
  have hp : (2 : Int) ^ n * 2 ^ k ≤ 18446744073709551616 := by
    have : (2 : Nat) ^ (n + k) ≤ 2 ^ 64 := Nat.pow_le_pow_right (by decide) h
    rw [Nat.pow_add] at this
    have := Int.ofNat_le.2 this
    simpa using this
  have hdvd : (2 : Int) ^ n ∣ 18446744073709551616 := by
    have : (2 : Nat) ^ n ∣ 2 ^ 64 := Nat.pow_dvd_pow 2 (by omega)
    have := Int.natCast_dvd_natCast.2 this
    simpa using this
  rw [Int.emod_emod_of_dvd _ hdvd]
  have hn : (0 : Int) < 2 ^ n := Int.pow_pos (by decide)
  have hk : (0 : Int) < 2 ^ k := Int.pow_pos (by decide)
  have h1 := Int.emod_nonneg x (Int.ne_of_gt hn)
  have h2 := Int.emod_lt_of_pos x hn
  have h3 : 0 ≤ x % 2 ^ n * 2 ^ k := Int.mul_nonneg h1 (Int.le_of_lt hk)
  have h4 : x % 2 ^ n * 2 ^ k + 2 ^ k ≤ 2 ^ n * 2 ^ k := by
    have : (x % 2 ^ n + 1) * 2 ^ k ≤ 2 ^ n * 2 ^ k := Int.mul_le_mul_of_nonneg_right (by omega) (Int.le_of_lt hk)
    rw [Int.add_mul, Int.one_mul] at this
    exact this
  rw [Int.emod_eq_of_lt h3 (by omega)]
  exact ior_add k hw hw' h1 (by omega)
/-- What the references do: the same by a sum. -/
theorem lay_add {w x : Int} (n k : Nat) (h : n + k ≤ 64) (hn64 : n < 64) (hw : 0 ≤ w) (hw' : w < 2 ^ k) :
    IntKind.u64.wrap (w + ishl .u64 ((IntKind.u64.wrap x).tmod (ishl .u64 1 n)) k) = w + (x % 2 ^ n) * 2 ^ k := by
  have hp : (2 : Int) ^ n * 2 ^ k ≤ 18446744073709551616 := by
    have : (2 : Nat) ^ (n + k) ≤ 2 ^ 64 := Nat.pow_le_pow_right (by decide) h
    rw [Nat.pow_add] at this
    have := Int.ofNat_le.2 this
    simpa using this
  have hn : (0 : Int) < 2 ^ n := Int.pow_pos (by decide)
  have hk : (0 : Int) < 2 ^ k := Int.pow_pos (by decide)
  have hnlt : (2 : Int) ^ n < 18446744073709551616 := by
    have : (2 : Nat) ^ n < 2 ^ 64 := Nat.pow_lt_pow_right (by decide) hn64
    have := Int.ofNat_lt.2 this
    simpa using this
  have hone : ishl .u64 1 n = 2 ^ n := by
    rw [ishl_u64 _ n (by omega), Int.one_mul]
    exact Int.emod_eq_of_lt (Int.le_of_lt hn) hnlt
  have hdvd : (2 : Int) ^ n ∣ 18446744073709551616 := by
    have : (2 : Nat) ^ n ∣ 2 ^ 64 := Nat.pow_dvd_pow 2 (by omega)
    have := Int.natCast_dvd_natCast.2 this
    simpa using this
  have hx0 : 0 ≤ x % 18446744073709551616 := Int.emod_nonneg x (by decide)
  rw [hone, wrap_u64, wrap_u64, Int.tmod_eq_emod_of_nonneg hx0, Int.emod_emod_of_dvd _ hdvd, ishl_u64 _ k (by omega)]
  have h1 := Int.emod_nonneg x (Int.ne_of_gt hn)
  have h2 := Int.emod_lt_of_pos x hn
  have h3 : 0 ≤ x % 2 ^ n * 2 ^ k := Int.mul_nonneg h1 (Int.le_of_lt hk)
  have h4 : x % 2 ^ n * 2 ^ k + 2 ^ k ≤ 2 ^ n * 2 ^ k := by
    have : (x % 2 ^ n + 1) * 2 ^ k ≤ 2 ^ n * 2 ^ k := Int.mul_le_mul_of_nonneg_right (by omega) (Int.le_of_lt hk)
    rw [Int.add_mul, Int.one_mul] at this
    exact this
  rw [Int.emod_eq_of_lt h3 (by omega)]
  exact Int.emod_eq_of_lt (by omega) (by omega)
/-- A part of a word, read. -/
theorem part_and {w : Int} (k n : Nat) (hk : k ≤ 64) (hn : n < 63) : IntKind.i64.wrap (iand .u64 (ishr .u64 w k) (2 ^ n - 1)) = w / 2 ^ k % 2 ^ n := by
  rw [iand_mask _ n (by omega), ishr_u64 _ k hk]
  have hp : (0 : Int) < 2 ^ n := Int.pow_pos (by decide)
  have h1 := Int.emod_nonneg (w / 2 ^ k) (Int.ne_of_gt hp)
  have h2 := Int.emod_lt_of_pos (w / 2 ^ k) hp
  have h3 : (2 : Int) ^ n ≤ 4611686018427387904 := by
    have : (2 : Nat) ^ n ≤ 2 ^ 62 := Nat.pow_le_pow_right (by decide) (by omega)
    have := Int.ofNat_le.2 this
    simpa using this
  exact wrap_i64_of (by omega) (by omega)
theorem part_and0 {w : Int} (n : Nat) (hn : n < 63) : IntKind.i64.wrap (iand .u64 w (2 ^ n - 1)) = w % 2 ^ n := by
  have := part_and (w := w) 0 n (by decide) hn
  rw [ishr_u64 _ 0 (by decide)] at this
  simpa using this
theorem part_mod {w : Int} (hw : 0 ≤ w) (k n : Nat) (hk : k ≤ 64) (hn : n < 63) : IntKind.i64.wrap ((ishr .u64 w k).tmod (ishl .u64 1 n)) = w / 2 ^ k % 2 ^ n := by
  have hn0 : (0 : Int) < 2 ^ n := Int.pow_pos (by decide)
  have hle : (2 : Int) ^ n ≤ 4611686018427387904 := by
    have : (2 : Nat) ^ n ≤ 2 ^ 62 := Nat.pow_le_pow_right (by decide) (by omega)
    have := Int.ofNat_le.2 this
    simpa using this
  have hone : ishl .u64 1 n = 2 ^ n := by
    rw [ishl_u64 _ n (by omega), Int.one_mul]
    exact Int.emod_eq_of_lt (Int.le_of_lt hn0) (by omega)
  have hk0 : (0 : Int) < 2 ^ k := Int.pow_pos (by decide)
  have h0 : 0 ≤ w / 2 ^ k := Int.ediv_nonneg hw (Int.le_of_lt hk0)
  rw [hone, ishr_u64 _ k hk, Int.tmod_eq_emod_of_nonneg h0]
  have h1 := Int.emod_nonneg (w / 2 ^ k) (Int.ne_of_gt hn0)
  have h2 := Int.emod_lt_of_pos (w / 2 ^ k) hn0
  exact wrap_i64_of (by omega) (by omega)
end Go.Proofs.Ytcolladpdmjloaa.Eng
