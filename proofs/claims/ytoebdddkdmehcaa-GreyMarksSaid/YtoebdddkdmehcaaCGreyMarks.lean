/-
  GreyMarks: any header, either mark: path by path.
-/
import Derived.Test.YtoebdddkdmehcaaEvL11
import Derived.Test.YtoebdddkdmehcaaMod2
namespace Go.Proofs.Ytoebdddkdmehcaa.GreyMarks
open Go Go.RowKit Go.Proofs.Ytoebdddkdmehcaa.Eng
set_option linter.unusedVariables false
set_option linter.unusedSimpArgs false
set_option maxRecDepth 100000

noncomputable abbrev t (a0 b0 c0 d0 e0 f0 g0 a1 : Int) : Tr SV := (evF Try.prog (lookH MObj L11.tabL) 100 20 3 [.s (.agg [ii a0, ii b0, ii c0, ii d0, ii e0, ii f0, ii g0]), .v (ii a1)] [] 0).vmap (·.val)
abbrev same (w v : Int) : Bool := mHState w == mHState v && (mHClass w == mHClass v && (mHCount w == mHCount v && (mHMark w == mHMark v && (mHGrey w == mHGrey v && (mHTag w == mHTag v && mHLink w == mHLink v)))))
abbrev W2 (w k : Int) : Int := mWord (mHState w) (mHClass w) (mHCount w) k 1 (mHTag w) 0
abbrev W3 (w : Int) : Int := mWord (mHState w) (mHClass w) (mHCount w) (mHMark w) 0 (mHTag w) 0
abbrev done (w v k : Int) : Bool := mHState w == mHState v && (mHClass w == mHClass v && (mHCount w == mHCount v && (mHMark w == k && (mHGrey w == 0 && (mHTag w == mHTag v && mHLink w == 0)))))
theorem same_self (w : Int) : same w w = true := by simp [same]
theorem done_ok (w k : Int) (hk : k = 0 ∨ k = 1) : done (W3 (W2 w k)) w k = true := by
  simp only [done, W3, W2, state_word, class_word, count_word, mark_word, grey_word, tag_word, link_word, Bool.and_eq_true, beq_iff_eq]
  unfold mHState mHClass mHCount mHTag
  omega
theorem count_ok (w k : Int) : mHCount (W2 w k) = mHCount w := by
  simp only [W2, count_word]
  unfold mHCount
  omega
section
variable (a0 b0 c0 d0 e0 f0 g0 a1 : Int)
abbrev w : Int := mWord a0 b0 c0 d0 e0 f0 g0

theorem k0 : ((t a0 b0 c0 d0 e0 f0 g0 a1).skip 3).conds [true] = [(kM a1 2 == 0)] := by kernel_rfl
theorem a01 : ((((t a0 b0 c0 d0 e0 f0 g0 a1).skip 3).path [true]).skip 2).conds [true] = [mHState (w a0 b0 c0 d0 e0 f0 g0) != 1] := by kernel_rfl
theorem a02 : ((((((t a0 b0 c0 d0 e0 f0 g0 a1).skip 3).path [true]).skip 2).path [true]).skip 5).conds [true] = [mHState (w a0 b0 c0 d0 e0 f0 g0) != 1] := by kernel_rfl
theorem a03 : (((((((t a0 b0 c0 d0 e0 f0 g0 a1).skip 3).path [true]).skip 2).path [true]).skip 5).path [true]) = .ok (.v (.bool (.sym (same (w a0 b0 c0 d0 e0 f0 g0) (w a0 b0 c0 d0 e0 f0 g0))))) := by kernel_rfl
theorem b01 : ((((t a0 b0 c0 d0 e0 f0 g0 a1).skip 3).path [true]).skip 2).conds [false, true] = [mHState (w a0 b0 c0 d0 e0 f0 g0) != 1, mHMark (w a0 b0 c0 d0 e0 f0 g0) == 0] := by kernel_rfl
theorem b02 : ((((((t a0 b0 c0 d0 e0 f0 g0 a1).skip 3).path [true]).skip 2).path [false, true]).skip 5).conds [false, true] = [mHState (w a0 b0 c0 d0 e0 f0 g0) != 1, mHMark (w a0 b0 c0 d0 e0 f0 g0) == 0] := by kernel_rfl
theorem b03 : (((((((t a0 b0 c0 d0 e0 f0 g0 a1).skip 3).path [true]).skip 2).path [false, true]).skip 5).path [false, true]) = .ok (.v (.bool (.sym (same (w a0 b0 c0 d0 e0 f0 g0) (w a0 b0 c0 d0 e0 f0 g0))))) := by kernel_rfl
theorem d01 : ((((t a0 b0 c0 d0 e0 f0 g0 a1).skip 3).path [true]).skip 2).conds [false, false] = [mHState (w a0 b0 c0 d0 e0 f0 g0) != 1, mHMark (w a0 b0 c0 d0 e0 f0 g0) == 0] := by kernel_rfl
theorem d02 : ((((((t a0 b0 c0 d0 e0 f0 g0 a1).skip 3).path [true]).skip 2).path [false, false]).skip 2).conds [true] = [(w a0 b0 c0 d0 e0 f0 g0) == (w a0 b0 c0 d0 e0 f0 g0)] := by kernel_rfl
theorem d03 : ((((((((t a0 b0 c0 d0 e0 f0 g0 a1).skip 3).path [true]).skip 2).path [false, false]).skip 2).path [true]).skip 19).conds [false, false] = [mHState (w a0 b0 c0 d0 e0 f0 g0) != 1, mHMark (w a0 b0 c0 d0 e0 f0 g0) == 0] := by kernel_rfl
theorem d04 : ((((((((((t a0 b0 c0 d0 e0 f0 g0 a1).skip 3).path [true]).skip 2).path [false, false]).skip 2).path [true]).skip 19).path [false, false]).skip 1).conds [true] = [mHCount (W2 (w a0 b0 c0 d0 e0 f0 g0) 0) == mHCount (w a0 b0 c0 d0 e0 f0 g0)] := by kernel_rfl
theorem d05 : (((((((((((t a0 b0 c0 d0 e0 f0 g0 a1).skip 3).path [true]).skip 2).path [false, false]).skip 2).path [true]).skip 19).path [false, false]).skip 1).path [true]) = .ok (.v (.bool (.sym (done (W3 (W2 (w a0 b0 c0 d0 e0 f0 g0) 0)) (w a0 b0 c0 d0 e0 f0 g0) 0)))) := by kernel_rfl
theorem k1 : ((t a0 b0 c0 d0 e0 f0 g0 a1).skip 3).conds [false, true] = [(kM a1 2 == 0), (kM a1 2 == 1)] := by kernel_rfl
theorem a11 : ((((t a0 b0 c0 d0 e0 f0 g0 a1).skip 3).path [false, true]).skip 2).conds [true] = [mHState (w a0 b0 c0 d0 e0 f0 g0) != 1] := by kernel_rfl
theorem a12 : ((((((t a0 b0 c0 d0 e0 f0 g0 a1).skip 3).path [false, true]).skip 2).path [true]).skip 5).conds [true] = [mHState (w a0 b0 c0 d0 e0 f0 g0) != 1] := by kernel_rfl
theorem a13 : (((((((t a0 b0 c0 d0 e0 f0 g0 a1).skip 3).path [false, true]).skip 2).path [true]).skip 5).path [true]) = .ok (.v (.bool (.sym (same (w a0 b0 c0 d0 e0 f0 g0) (w a0 b0 c0 d0 e0 f0 g0))))) := by kernel_rfl
theorem b11 : ((((t a0 b0 c0 d0 e0 f0 g0 a1).skip 3).path [false, true]).skip 2).conds [false, true] = [mHState (w a0 b0 c0 d0 e0 f0 g0) != 1, mHMark (w a0 b0 c0 d0 e0 f0 g0) == 1] := by kernel_rfl
theorem b12 : ((((((t a0 b0 c0 d0 e0 f0 g0 a1).skip 3).path [false, true]).skip 2).path [false, true]).skip 5).conds [false, true] = [mHState (w a0 b0 c0 d0 e0 f0 g0) != 1, mHMark (w a0 b0 c0 d0 e0 f0 g0) == 1] := by kernel_rfl
theorem b13 : (((((((t a0 b0 c0 d0 e0 f0 g0 a1).skip 3).path [false, true]).skip 2).path [false, true]).skip 5).path [false, true]) = .ok (.v (.bool (.sym (same (w a0 b0 c0 d0 e0 f0 g0) (w a0 b0 c0 d0 e0 f0 g0))))) := by kernel_rfl
theorem d11 : ((((t a0 b0 c0 d0 e0 f0 g0 a1).skip 3).path [false, true]).skip 2).conds [false, false] = [mHState (w a0 b0 c0 d0 e0 f0 g0) != 1, mHMark (w a0 b0 c0 d0 e0 f0 g0) == 1] := by kernel_rfl
theorem d12 : ((((((t a0 b0 c0 d0 e0 f0 g0 a1).skip 3).path [false, true]).skip 2).path [false, false]).skip 2).conds [true] = [(w a0 b0 c0 d0 e0 f0 g0) == (w a0 b0 c0 d0 e0 f0 g0)] := by kernel_rfl
theorem d13 : ((((((((t a0 b0 c0 d0 e0 f0 g0 a1).skip 3).path [false, true]).skip 2).path [false, false]).skip 2).path [true]).skip 19).conds [false, false] = [mHState (w a0 b0 c0 d0 e0 f0 g0) != 1, mHMark (w a0 b0 c0 d0 e0 f0 g0) == 1] := by kernel_rfl
theorem d14 : ((((((((((t a0 b0 c0 d0 e0 f0 g0 a1).skip 3).path [false, true]).skip 2).path [false, false]).skip 2).path [true]).skip 19).path [false, false]).skip 1).conds [true] = [mHCount (W2 (w a0 b0 c0 d0 e0 f0 g0) 1) == mHCount (w a0 b0 c0 d0 e0 f0 g0)] := by kernel_rfl
theorem d15 : (((((((((((t a0 b0 c0 d0 e0 f0 g0 a1).skip 3).path [false, true]).skip 2).path [false, false]).skip 2).path [true]).skip 19).path [false, false]).skip 1).path [true]) = .ok (.v (.bool (.sym (done (W3 (W2 (w a0 b0 c0 d0 e0 f0 g0) 1)) (w a0 b0 c0 d0 e0 f0 g0) 1)))) := by kernel_rfl
end
theorem law (a0 b0 c0 d0 e0 f0 g0 a1 : Int) (h : CK.fits (.int .i64) a1) : Holds (t a0 b0 c0 d0 e0 f0 g0 a1) := by
  have hk := kM_range (c := a1) (n := 2) (by decide) h
  have hw : mHMark (w a0 b0 c0 d0 e0 f0 g0) = 0 ∨ mHMark (w a0 b0 c0 d0 e0 f0 g0) = 1 := by unfold mHMark; omega
  have e : kM a1 2 = 0 ∨ kM a1 2 = 1 := by omega
  rcases e with e | e
  · refine Holds.then (Tr.run_skip 3 _) (Holds.at (k0 a0 b0 c0 d0 e0 f0 g0 a1) (by simp [e]) (Holds.then (Tr.run_skip 2 _) ?_))
    by_cases c1 : mHState (w a0 b0 c0 d0 e0 f0 g0) = 1
    · by_cases c2 : mHMark (w a0 b0 c0 d0 e0 f0 g0) = 0
      · exact Holds.at (b01 a0 b0 c0 d0 e0 f0 g0 a1) (by simp [c1, c2]) (Holds.then (Tr.run_skip 5 _) (Holds.at (b02 a0 b0 c0 d0 e0 f0 g0 a1) (by simp [c1, c2]) (Holds.of (b03 a0 b0 c0 d0 e0 f0 g0 a1) (same_self _))))
      · exact Holds.at (d01 a0 b0 c0 d0 e0 f0 g0 a1) (by simp [c1, c2]) (Holds.then (Tr.run_skip 2 _) (Holds.at (d02 a0 b0 c0 d0 e0 f0 g0 a1) (by simp) (Holds.then (Tr.run_skip 19 _) (Holds.at (d03 a0 b0 c0 d0 e0 f0 g0 a1) (by simp [c1, c2]) (Holds.then (Tr.run_skip 1 _) (Holds.at (d04 a0 b0 c0 d0 e0 f0 g0 a1) (by simp [count_ok]) (Holds.of (d05 a0 b0 c0 d0 e0 f0 g0 a1) (done_ok _ _ (by omega)))))))))
    · exact Holds.at (a01 a0 b0 c0 d0 e0 f0 g0 a1) (by simp [c1]) (Holds.then (Tr.run_skip 5 _) (Holds.at (a02 a0 b0 c0 d0 e0 f0 g0 a1) (by simp [c1]) (Holds.of (a03 a0 b0 c0 d0 e0 f0 g0 a1) (same_self _))))
  · refine Holds.then (Tr.run_skip 3 _) (Holds.at (k1 a0 b0 c0 d0 e0 f0 g0 a1) (by simp [e]) (Holds.then (Tr.run_skip 2 _) ?_))
    by_cases c1 : mHState (w a0 b0 c0 d0 e0 f0 g0) = 1
    · by_cases c2 : mHMark (w a0 b0 c0 d0 e0 f0 g0) = 1
      · exact Holds.at (b11 a0 b0 c0 d0 e0 f0 g0 a1) (by simp [c1, c2]) (Holds.then (Tr.run_skip 5 _) (Holds.at (b12 a0 b0 c0 d0 e0 f0 g0 a1) (by simp [c1, c2]) (Holds.of (b13 a0 b0 c0 d0 e0 f0 g0 a1) (same_self _))))
      · exact Holds.at (d11 a0 b0 c0 d0 e0 f0 g0 a1) (by simp [c1, c2]) (Holds.then (Tr.run_skip 2 _) (Holds.at (d12 a0 b0 c0 d0 e0 f0 g0 a1) (by simp) (Holds.then (Tr.run_skip 19 _) (Holds.at (d13 a0 b0 c0 d0 e0 f0 g0 a1) (by simp [c1, c2]) (Holds.then (Tr.run_skip 1 _) (Holds.at (d14 a0 b0 c0 d0 e0 f0 g0 a1) (by simp [count_ok]) (Holds.of (d15 a0 b0 c0 d0 e0 f0 g0 a1) (done_ok _ _ (by omega)))))))))
    · exact Holds.at (a11 a0 b0 c0 d0 e0 f0 g0 a1) (by simp [c1]) (Holds.then (Tr.run_skip 5 _) (Holds.at (a12 a0 b0 c0 d0 e0 f0 g0 a1) (by simp [c1]) (Holds.of (a13 a0 b0 c0 d0 e0 f0 g0 a1) (same_self _))))
end Go.Proofs.Ytoebdddkdmehcaa.GreyMarks
