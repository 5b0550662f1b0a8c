/-
  Reading back what was laid; words apart.
-/
import Derived.Test.YtcolladpdmjloaaMod
namespace Go.Proofs.Ytcolladpdmjloaa.Eng
open Go

theorem at_top (a v : Int) : mAt (mTop a v) = a % 4096 := by unfold mAt mTop; omega
theorem ver_top (a v : Int) : mVer (mTop a v) = v % 1099511627776 := by unfold mVer mTop; omega
theorem no_phase (n m k l : Int) : mNo (mPhase n m k l) = n % 1099511627776 := by unfold mNo mPhase; omega
theorem mode_phase (n m k l : Int) : mMode (mPhase n m k l) = m % 16 := by unfold mMode mPhase; omega
theorem mark_phase (n m k l : Int) : mMark (mPhase n m k l) = k % 2 := by unfold mMark mPhase; omega
theorem list_phase (n m k l : Int) : mList (mPhase n m k l) = l % 2 := by unfold mList mPhase; omega
theorem state_block (s c t n : Int) : mBState (mBlock s c t n) = s % 4 := by unfold mBState mBlock; omega
theorem class_block (s c t n : Int) : mBClass (mBlock s c t n) = c % 4 := by unfold mBClass mBlock; omega
theorem stamp_block (s c t n : Int) : mBStamp (mBlock s c t n) = t % 2 := by unfold mBStamp mBlock; omega
theorem next_block (s c t n : Int) : mBNext (mBlock s c t n) = n % 128 := by unfold mBNext mBlock; omega
theorem state_word (s c n m g t l : Int) : mHState (mWord s c n m g t l) = s % 4 := by unfold mHState mWord; omega
theorem class_word (s c n m g t l : Int) : mHClass (mWord s c n m g t l) = c % 4 := by unfold mHClass mWord; omega
theorem count_word (s c n m g t l : Int) : mHCount (mWord s c n m g t l) = n % 8 := by unfold mHCount mWord; omega
theorem mark_word (s c n m g t l : Int) : mHMark (mWord s c n m g t l) = m % 2 := by unfold mHMark mWord; omega
theorem grey_word (s c n m g t l : Int) : mHGrey (mWord s c n m g t l) = g % 2 := by unfold mHGrey mWord; omega
theorem tag_word (s c n m g t l : Int) : mHTag (mWord s c n m g t l) = t % 8 := by unfold mHTag mWord; omega
theorem link_word (s c n m g t l : Int) : mHLink (mWord s c n m g t l) = l % 4096 := by unfold mHLink mWord; omega
theorem top_inj {a v b u : Int} (h : mTop a v = mTop b u) : a % 4096 = b % 4096 ∧ v % 1099511627776 = u % 1099511627776 := by
  have h1 := congrArg mAt h; have h2 := congrArg mVer h
  rw [at_top, at_top] at h1; rw [ver_top, ver_top] at h2
  exact ⟨h1, h2⟩
theorem phase_inj {n m k l n' m' k' l' : Int} (h : mPhase n m k l = mPhase n' m' k' l') : n % 1099511627776 = n' % 1099511627776 ∧ m % 16 = m' % 16 ∧ k % 2 = k' % 2 ∧ l % 2 = l' % 2 := by
  have h1 := congrArg mNo h; have h2 := congrArg mMode h; have h3 := congrArg mMark h; have h4 := congrArg mList h
  rw [no_phase, no_phase] at h1; rw [mode_phase, mode_phase] at h2; rw [mark_phase, mark_phase] at h3; rw [list_phase, list_phase] at h4
  exact ⟨h1, h2, h3, h4⟩
theorem word_inj {s c n m g t l s' c' n' m' g' t' l' : Int} (h : mWord s c n m g t l = mWord s' c' n' m' g' t' l') :
    s % 4 = s' % 4 ∧ c % 4 = c' % 4 ∧ n % 8 = n' % 8 ∧ m % 2 = m' % 2 ∧ g % 2 = g' % 2 ∧ t % 8 = t' % 8 ∧ l % 4096 = l' % 4096 := by
  have h1 := congrArg mHState h; have h2 := congrArg mHClass h; have h3 := congrArg mHCount h; have h4 := congrArg mHMark h; have h5 := congrArg mHGrey h; have h6 := congrArg mHTag h; have h7 := congrArg mHLink h
  rw [state_word, state_word] at h1; rw [class_word, class_word] at h2; rw [count_word, count_word] at h3; rw [mark_word, mark_word] at h4
  rw [grey_word, grey_word] at h5; rw [tag_word, tag_word] at h6; rw [link_word, link_word] at h7
  exact ⟨h1, h2, h3, h4, h5, h6, h7⟩
theorem top_iff (x y : Int) : (mTop (mAt x) (mVer x) = mTop (mAt y) (mVer y)) ↔ (mAt x = mAt y ∧ mVer x = mVer y) := by
  refine ⟨fun h => ?_, fun h => by rw [h.1, h.2]⟩
  have := top_inj h
  unfold mAt mVer at *
  omega
theorem phase_iff (x y : Int) : (mPhase (mNo x) (mMode x) (mMark x) (mList x) = mPhase (mNo y) (mMode y) (mMark y) (mList y)) ↔ (mNo x = mNo y ∧ mMode x = mMode y ∧ mMark x = mMark y ∧ mList x = mList y) := by
  refine ⟨fun h => ?_, fun h => by rw [h.1, h.2.1, h.2.2.1, h.2.2.2]⟩
  have := phase_inj h
  unfold mNo mMode mMark mList at *
  omega
theorem same_of {p q : Bool} (h : p = true ↔ q = true) : (p == q) = true := by
  cases p <;> cases q <;> simp_all
theorem word_range (s c n m g t l : Int) : 0 ≤ mWord s c n m g t l ∧ mWord s c n m g t l < 16777216 := by unfold mWord; omega

theorem ixor_nat {x y : Int} (hx : 0 ≤ x) (hx' : x < 18446744073709551616) (hy : 0 ≤ y) (hy' : y < 18446744073709551616) : ixor .u64 x y = ((x.toNat ^^^ y.toNat : Nat) : Int) := by
  unfold ixor
  rw [wrap_u64]
  show ((BitVec.ofInt 64 x ^^^ BitVec.ofInt 64 y).toNat : Int) % _ = _
  rw [BitVec.toNat_xor]
  obtain ⟨a, rfl⟩ := Int.eq_ofNat_of_zero_le hx
  obtain ⟨b, rfl⟩ := Int.eq_ofNat_of_zero_le hy
  rw [BitVec.ofInt_natCast, BitVec.ofInt_natCast, BitVec.toNat_ofNat, BitVec.toNat_ofNat, Nat.mod_eq_of_lt (show a < 2 ^ 64 by omega), Nat.mod_eq_of_lt (show b < 2 ^ 64 by omega)]
  have := Nat.xor_lt_two_pow (n := 64) (show a < 2 ^ 64 by omega) (show b < 2 ^ 64 by omega)
  simp only [Int.toNat_natCast]
  omega
theorem xor_parts (x y k : Nat) : (x ^^^ y) % 2 ^ k = (x % 2 ^ k) ^^^ (y % 2 ^ k) ∧ (x ^^^ y) / 2 ^ k = (x / 2 ^ k) ^^^ (y / 2 ^ k) := by
  refine ⟨Nat.xor_mod_two_pow, ?_⟩
  rw [← Nat.shiftRight_eq_div_pow, ← Nat.shiftRight_eq_div_pow, ← Nat.shiftRight_eq_div_pow, Nat.shiftRight_xor_distrib]
/-- Words that agree below k: so is their difference empty there. -/
theorem xor_low {x y : Int} (k : Nat) (hx : 0 ≤ x) (hx' : x < 18446744073709551616) (hy : 0 ≤ y) (hy' : y < 18446744073709551616) (h : x % 2 ^ k = y % 2 ^ k) : ixor .u64 x y % 2 ^ k = 0 := by
  rw [ixor_nat hx hx' hy hy']
  obtain ⟨a, rfl⟩ := Int.eq_ofNat_of_zero_le hx
  obtain ⟨b, rfl⟩ := Int.eq_ofNat_of_zero_le hy
  simp only [Int.toNat_natCast]
  have h' : a % 2 ^ k = b % 2 ^ k := by
    have : ((a % 2 ^ k : Nat) : Int) = ((b % 2 ^ k : Nat) : Int) := by simpa using h
    exact Int.ofNat_inj.1 this
  have := (xor_parts a b k).1
  rw [h', Nat.xor_self] at this
  have := congrArg (fun n : Nat => (n : Int)) this
  simpa using this
theorem xor_high {x y : Int} (k : Nat) (hx : 0 ≤ x) (hx' : x < 18446744073709551616) (hy : 0 ≤ y) (hy' : y < 18446744073709551616) (h : x / 2 ^ k = y / 2 ^ k) : 0 ≤ ixor .u64 x y ∧ ixor .u64 x y < 2 ^ k := by
  rw [ixor_nat hx hx' hy hy']
  obtain ⟨a, rfl⟩ := Int.eq_ofNat_of_zero_le hx
  obtain ⟨b, rfl⟩ := Int.eq_ofNat_of_zero_le hy
  simp only [Int.toNat_natCast]
  have h' : a / 2 ^ k = b / 2 ^ k := by
    have : ((a / 2 ^ k : Nat) : Int) = ((b / 2 ^ k : Nat) : Int) := by simpa using h
    exact Int.ofNat_inj.1 this
  have h2 := (xor_parts a b k).2
  rw [h', Nat.xor_self] at h2
  have hp : 0 < 2 ^ k := Nat.pow_pos (by decide)
  have : a ^^^ b < 2 ^ k := by
    have := Nat.div_add_mod (a ^^^ b) (2 ^ k)
    have := Nat.mod_lt (a ^^^ b) hp
    rw [h2] at *
    omega
  refine ⟨by omega, ?_⟩
  have := Int.ofNat_lt.2 this
  simpa using this
end Go.Proofs.Ytcolladpdmjloaa.Eng
