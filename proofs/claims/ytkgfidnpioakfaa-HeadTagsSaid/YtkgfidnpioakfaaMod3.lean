/-
  Words that differ in one part.
-/
import Derived.Test.YtkgfidnpioakfaaMod2
namespace Go.Proofs.Ytkgfidnpioakfaa.Eng
open Go

theorem iandn128 {y : Int} (h : y % 128 = 0) (h0 : 0 ≤ y) (h1 : y < 256) : iandn .u64 y 128 = 0 := by
  have : y = 0 ∨ y = 128 := by omega
  rcases this with rfl | rfl <;> decide +kernel
theorem iandn256 {z : Int} (h : z % 256 = 0) (h0 : 0 ≤ z) (h1 : z < 512) : iandn .u64 z 256 = 0 := by
  have : z = 0 ∨ z = 256 := by omega
  rcases this with rfl | rfl <;> decide +kernel
theorem xor_tags (s c n m g t l t' l' : Int) : ixor .u64 (mWord s c n m g t' l') (mWord s c n m g t l) % 512 = 0 ∧ 0 ≤ ixor .u64 (mWord s c n m g t' l') (mWord s c n m g t l) ∧ ixor .u64 (mWord s c n m g t' l') (mWord s c n m g t l) < 16777216 := by
  have w0 := word_range s c n m g t l
  have w1 := word_range s c n m g t' l'
  have h1 := xor_low (x := mWord s c n m g t' l') (y := mWord s c n m g t l) 9 w1.1 (by omega) w0.1 (by omega) (by unfold mWord; omega)
  have h2 := xor_high (x := mWord s c n m g t' l') (y := mWord s c n m g t l) 24 w1.1 (by omega) w0.1 (by omega) (by omega)
  exact ⟨h1, h2⟩
theorem xor_mark (s c n m g t l m' : Int) : iandn .u64 (ixor .u64 (mWord s c n m' g t l) (mWord s c n m g t l)) 128 = 0 := by
  have w0 := word_range s c n m g t l
  have w1 := word_range s c n m' g t l
  have h1 := xor_low (x := mWord s c n m' g t l) (y := mWord s c n m g t l) 7 w1.1 (by omega) w0.1 (by omega) (by unfold mWord; omega)
  have h2 := xor_high (x := mWord s c n m' g t l) (y := mWord s c n m g t l) 8 w1.1 (by omega) w0.1 (by omega) (by unfold mWord; omega)
  exact iandn128 h1 h2.1 h2.2
theorem xor_grey (s c n m g t l g' : Int) : iandn .u64 (ixor .u64 (mWord s c n m g' t l) (mWord s c n m g t l)) 256 = 0 := by
  have w0 := word_range s c n m g t l
  have w1 := word_range s c n m g' t l
  have h1 := xor_low (x := mWord s c n m g' t l) (y := mWord s c n m g t l) 8 w1.1 (by omega) w0.1 (by omega) (by unfold mWord; omega)
  have h2 := xor_high (x := mWord s c n m g' t l) (y := mWord s c n m g t l) 9 w1.1 (by omega) w0.1 (by omega) (by unfold mWord; omega)
  exact iandn256 h1 h2.1 h2.2
end Go.Proofs.Ytkgfidnpioakfaa.Eng
