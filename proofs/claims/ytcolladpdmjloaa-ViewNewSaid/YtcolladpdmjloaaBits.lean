/-
  Plain laws on whole numbers: what masks, shifts and ors of words come to, as '+', '*', '/' and '%'.
-/
import Derived.Test.YtcolladpdmjloaaEngG
namespace Go.Proofs.Ytcolladpdmjloaa.Eng
open Go

theorem wrap_u64 (x : Int) : IntKind.u64.wrap x = x % 18446744073709551616 := by
  unfold IntKind.wrap
  simp [IntKind.signed, IntKind.bits]
theorem wrap_i64' (n : Int) : IntKind.i64.wrap n = if n % 18446744073709551616 ≥ 9223372036854775808 then n % 18446744073709551616 - 18446744073709551616 else n % 18446744073709551616 := by
  show (if (true && decide (n % (2 ^ 64 : Int) ≥ (2 ^ 63 : Int))) = true then n % (2 ^ 64 : Int) - (2 ^ 64 : Int) else n % (2 ^ 64 : Int)) = _
  have h64 : (2 ^ 64 : Int) = 18446744073709551616 := by decide
  have h63 : (2 ^ 63 : Int) = 9223372036854775808 := by decide
  rw [h64, h63]
  simp
theorem wrap_i64_of {n : Int} (h : -9223372036854775808 ≤ n) (h' : n < 9223372036854775808) : IntKind.i64.wrap n = n := by
  rw [wrap_i64']
  split <;> omega

theorem toNat_ofInt64 (x : Int) : ((BitVec.ofInt 64 x).toNat : Int) = x % 18446744073709551616 := by
  rw [BitVec.toNat_ofInt]
  have : (x % ((2 ^ 64 : Nat) : Int)) = x % 18446744073709551616 := by
    congr 1
  rw [this]
  omega

theorem iand_mask (x : Int) (n : Nat) (hn : n ≤ 64) : iand .u64 x (2 ^ n - 1) = x % 2 ^ n := by
  unfold iand
  rw [wrap_u64]
  show ((BitVec.ofInt 64 x &&& BitVec.ofInt 64 (2 ^ n - 1)).toNat : Int) % _ = _
  rw [BitVec.toNat_and]
  have h2 : (BitVec.ofInt 64 (2 ^ n - 1)).toNat = 2 ^ n - 1 := by
    have hle : (2 : Nat) ^ n ≤ 2 ^ 64 := Nat.pow_le_pow_right (by decide) hn
    have hpos : 0 < (2 : Nat) ^ n := Nat.pow_pos (by decide)
    have e : ((2 : Int) ^ n - 1) = ((2 ^ n - 1 : Nat) : Int) := by
      rw [Int.natCast_sub hpos]; simp
    rw [e, BitVec.ofInt_natCast, BitVec.toNat_ofNat]
    exact Nat.mod_eq_of_lt (by omega)
  rw [h2, Nat.and_two_pow_sub_one_eq_mod]
  have h3 := toNat_ofInt64 x
  have hdvd : (2 : Nat) ^ n ∣ 2 ^ 64 := Nat.pow_dvd_pow 2 hn
  have e1 : (((BitVec.ofInt 64 x).toNat % 2 ^ n : Nat) : Int) = (x % 18446744073709551616) % 2 ^ n := by
    rw [Int.natCast_emod, h3]; simp
  rw [e1]
  have e2 : (x % 18446744073709551616) % 2 ^ n = x % 2 ^ n := by
    apply Int.emod_emod_of_dvd
    have := Int.natCast_dvd_natCast.2 hdvd
    simpa using this
  rw [e2]
  have hpos : (0 : Int) < 2 ^ n := Int.pow_pos (by decide)
  have hlt := Int.emod_lt_of_pos x hpos
  have hge := Int.emod_nonneg x (Int.ne_of_gt hpos)
  have hle : (2 : Int) ^ n ≤ 18446744073709551616 := by
    have : ((2 ^ n : Nat) : Int) ≤ ((2 ^ 64 : Nat) : Int) := Int.ofNat_le.2 (Nat.pow_le_pow_right (by decide) hn)
    simpa using this
  exact Int.emod_eq_of_lt hge (by omega)

theorem ishl_u64 (x : Int) (n : Nat) (hn : n ≤ 64) : ishl .u64 x n = (x * 2 ^ n) % 18446744073709551616 := by
  unfold ishl
  rw [wrap_u64]
  congr 3
  show min ((n : Int)).toNat 64 = n
  simp [hn]
theorem ishr_u64 (x : Int) (n : Nat) (hn : n ≤ 64) : ishr .u64 x n = x / 2 ^ n := by
  unfold ishr
  have : min ((n : Int)).toNat (IntKind.bits .u64) = n := by
    show min ((n : Int)).toNat 64 = n
    simp [hn]
  rw [this, Int.fdiv_eq_ediv_of_nonneg]
  exact Int.le_of_lt (Int.pow_pos (by decide))

/-- An or of numbers whose bits lie apart is their sum. -/
theorem ior_add {a c : Int} (n : Nat) (ha : 0 ≤ a) (ha' : a < 2 ^ n) (hc : 0 ≤ c) (hs : a + c * 2 ^ n < 18446744073709551616) : ior .u64 a (c * 2 ^ n) = a + c * 2 ^ n := by
  unfold ior
  rw [wrap_u64]
  show ((BitVec.ofInt 64 a ||| BitVec.ofInt 64 (c * 2 ^ n)).toNat : Int) % _ = _
  rw [BitVec.toNat_or]
  obtain ⟨a, rfl⟩ := Int.eq_ofNat_of_zero_le ha
  obtain ⟨c, rfl⟩ := Int.eq_ofNat_of_zero_le hc
  have e : ((c : Int) * 2 ^ n) = ((c * 2 ^ n : Nat) : Int) := by simp
  rw [e] at hs ⊢
  have hlt : a < 2 ^ n := by
    have : (a : Int) < ((2 ^ n : Nat) : Int) := by simpa using ha'
    omega
  have hs' : a + c * 2 ^ n < 18446744073709551616 := by omega
  rw [BitVec.ofInt_natCast, BitVec.ofInt_natCast, BitVec.toNat_ofNat, BitVec.toNat_ofNat]
  rw [Nat.mod_eq_of_lt (show a < 2 ^ 64 by omega), Nat.mod_eq_of_lt (show c * 2 ^ n < 2 ^ 64 by omega)]
  have : a ||| c * 2 ^ n = a + c * 2 ^ n := by
    rw [Nat.or_comm, Nat.mul_comm, ← Nat.two_pow_add_eq_or_of_lt hlt, Nat.add_comm]
  rw [this]
  omega
theorem ior_zero {c : Int} (hc : 0 ≤ c) (hs : c < 18446744073709551616) : ior .u64 0 c = c := by
  have := ior_add (a := 0) (c := c) 0 (by omega) (by decide) hc (by simpa using hs)
  simpa using this
end Go.Proofs.Ytcolladpdmjloaa.Eng
