/-
  CarveCells: printed by genfin.py: the row of the law.
-/
import Derived.Test.YtmhfaaccoojbjaaRows
import Derived.Test.YtmhfaaccoojbjaaCCarveCells0
import Derived.Test.YtmhfaaccoojbjaaCCarveCells1
import Derived.Test.YtmhfaaccoojbjaaCCarveCells2
import Derived.Test.YtmhfaaccoojbjaaCCarveCells3
import Derived.Test.YtmhfaaccoojbjaaCCarveCells4
import Derived.Test.YtmhfaaccoojbjaaCCarveCells5
import Derived.Test.YtmhfaaccoojbjaaCCarveCells6
import Derived.Test.YtmhfaaccoojbjaaCCarveCells7
namespace Go.Proofs.Ytmhfaaccoojbjaa.CarveCells
open Go Go.RowKit Go.Proofs.Ytmhfaaccoojbjaa.Eng
set_option linter.unusedVariables false
set_option linter.unusedSimpArgs false
set_option maxRecDepth 100000
noncomputable abbrev t (a0 a1 a2 : Int) : Tr SV := (evF Try.prog (lookH MObj LC9.tabL) 100 20 3 [.v (ii a0), .v (ii a1), .v (ii a2)] [] 0).vmap (·.val)
theorem law (a0 a1 a2 : Int) (ha0 : CK.fits (.int .i64) a0) (ha1 : CK.fits (.int .i64) a1) (ha2 : CK.fits (.int .i64) a2) : Holds (t a0 a1 a2) := by
  have k0 := kM_range (c := a0) (n := 8) (by decide) ha0
  have e0 : kM a0 8 = 0 ∨ kM a0 8 = 1 ∨ kM a0 8 = 2 ∨ kM a0 8 = 3 ∨ kM a0 8 = 4 ∨ kM a0 8 = 5 ∨ kM a0 8 = 6 ∨ kM a0 8 = 7 := by omega
  have k1 := kM_range (c := a1) (n := 3) (by decide) ha1
  have e1 : kM a1 3 = 0 ∨ kM a1 3 = 1 ∨ kM a1 3 = 2 := by omega
  have k2 := kM_range (c := a2) (n := 2) (by decide) ha2
  have e2 : kM a2 2 = 0 ∨ kM a2 2 = 1 := by omega
  rcases e0 with h0 | h0 | h0 | h0 | h0 | h0 | h0 | h0
  ·
    rcases e1 with h1 | h1 | h1
    ·
      rcases e2 with h2 | h2
      ·
        exact (Holds.at (K0.c0_0_0_0 a0 a1 a2) (by simp [h0]) (Holds.at (K0.c0_0_0_1 a0 a1 a2) (by simp [h1]) (Holds.at (K0.c0_0_0_2 a0 a1 a2) (by simp [h2]) (Holds.ofT (K0.r0_0_0 a0 a1 a2)))))
      ·
        exact (Holds.at (K0.c0_0_1_0 a0 a1 a2) (by simp [h0]) (Holds.at (K0.c0_0_1_1 a0 a1 a2) (by simp [h1]) (Holds.at (K0.c0_0_1_2 a0 a1 a2) (by simp [h2]) (Holds.ofT (K0.r0_0_1 a0 a1 a2)))))
    ·
      rcases e2 with h2 | h2
      ·
        exact (Holds.at (K0.c0_1_0_0 a0 a1 a2) (by simp [h0]) (Holds.at (K0.c0_1_0_1 a0 a1 a2) (by simp [h1]) (Holds.at (K0.c0_1_0_2 a0 a1 a2) (by simp [h2]) (Holds.ofT (K0.r0_1_0 a0 a1 a2)))))
      ·
        exact (Holds.at (K0.c0_1_1_0 a0 a1 a2) (by simp [h0]) (Holds.at (K0.c0_1_1_1 a0 a1 a2) (by simp [h1]) (Holds.at (K0.c0_1_1_2 a0 a1 a2) (by simp [h2]) (Holds.ofT (K0.r0_1_1 a0 a1 a2)))))
    ·
      rcases e2 with h2 | h2
      ·
        exact (Holds.at (K0.c0_2_0_0 a0 a1 a2) (by simp [h0]) (Holds.at (K0.c0_2_0_1 a0 a1 a2) (by simp [h1]) (Holds.at (K0.c0_2_0_2 a0 a1 a2) (by simp [h2]) (Holds.ofT (K0.r0_2_0 a0 a1 a2)))))
      ·
        exact (Holds.at (K0.c0_2_1_0 a0 a1 a2) (by simp [h0]) (Holds.at (K0.c0_2_1_1 a0 a1 a2) (by simp [h1]) (Holds.at (K0.c0_2_1_2 a0 a1 a2) (by simp [h2]) (Holds.ofT (K0.r0_2_1 a0 a1 a2)))))
  ·
    rcases e1 with h1 | h1 | h1
    ·
      rcases e2 with h2 | h2
      ·
        exact (Holds.at (K1.c1_0_0_0 a0 a1 a2) (by simp [h0]) (Holds.at (K1.c1_0_0_1 a0 a1 a2) (by simp [h1]) (Holds.at (K1.c1_0_0_2 a0 a1 a2) (by simp [h2]) (Holds.ofT (K1.r1_0_0 a0 a1 a2)))))
      ·
        exact (Holds.at (K1.c1_0_1_0 a0 a1 a2) (by simp [h0]) (Holds.at (K1.c1_0_1_1 a0 a1 a2) (by simp [h1]) (Holds.at (K1.c1_0_1_2 a0 a1 a2) (by simp [h2]) (Holds.ofT (K1.r1_0_1 a0 a1 a2)))))
    ·
      rcases e2 with h2 | h2
      ·
        exact (Holds.at (K1.c1_1_0_0 a0 a1 a2) (by simp [h0]) (Holds.at (K1.c1_1_0_1 a0 a1 a2) (by simp [h1]) (Holds.at (K1.c1_1_0_2 a0 a1 a2) (by simp [h2]) (Holds.ofT (K1.r1_1_0 a0 a1 a2)))))
      ·
        exact (Holds.at (K1.c1_1_1_0 a0 a1 a2) (by simp [h0]) (Holds.at (K1.c1_1_1_1 a0 a1 a2) (by simp [h1]) (Holds.at (K1.c1_1_1_2 a0 a1 a2) (by simp [h2]) (Holds.ofT (K1.r1_1_1 a0 a1 a2)))))
    ·
      rcases e2 with h2 | h2
      ·
        exact (Holds.at (K1.c1_2_0_0 a0 a1 a2) (by simp [h0]) (Holds.at (K1.c1_2_0_1 a0 a1 a2) (by simp [h1]) (Holds.at (K1.c1_2_0_2 a0 a1 a2) (by simp [h2]) (Holds.ofT (K1.r1_2_0 a0 a1 a2)))))
      ·
        exact (Holds.at (K1.c1_2_1_0 a0 a1 a2) (by simp [h0]) (Holds.at (K1.c1_2_1_1 a0 a1 a2) (by simp [h1]) (Holds.at (K1.c1_2_1_2 a0 a1 a2) (by simp [h2]) (Holds.ofT (K1.r1_2_1 a0 a1 a2)))))
  ·
    rcases e1 with h1 | h1 | h1
    ·
      rcases e2 with h2 | h2
      ·
        exact (Holds.at (K2.c2_0_0_0 a0 a1 a2) (by simp [h0]) (Holds.at (K2.c2_0_0_1 a0 a1 a2) (by simp [h1]) (Holds.at (K2.c2_0_0_2 a0 a1 a2) (by simp [h2]) (Holds.ofT (K2.r2_0_0 a0 a1 a2)))))
      ·
        exact (Holds.at (K2.c2_0_1_0 a0 a1 a2) (by simp [h0]) (Holds.at (K2.c2_0_1_1 a0 a1 a2) (by simp [h1]) (Holds.at (K2.c2_0_1_2 a0 a1 a2) (by simp [h2]) (Holds.ofT (K2.r2_0_1 a0 a1 a2)))))
    ·
      rcases e2 with h2 | h2
      ·
        exact (Holds.at (K2.c2_1_0_0 a0 a1 a2) (by simp [h0]) (Holds.at (K2.c2_1_0_1 a0 a1 a2) (by simp [h1]) (Holds.at (K2.c2_1_0_2 a0 a1 a2) (by simp [h2]) (Holds.ofT (K2.r2_1_0 a0 a1 a2)))))
      ·
        exact (Holds.at (K2.c2_1_1_0 a0 a1 a2) (by simp [h0]) (Holds.at (K2.c2_1_1_1 a0 a1 a2) (by simp [h1]) (Holds.at (K2.c2_1_1_2 a0 a1 a2) (by simp [h2]) (Holds.ofT (K2.r2_1_1 a0 a1 a2)))))
    ·
      rcases e2 with h2 | h2
      ·
        exact (Holds.at (K2.c2_2_0_0 a0 a1 a2) (by simp [h0]) (Holds.at (K2.c2_2_0_1 a0 a1 a2) (by simp [h1]) (Holds.at (K2.c2_2_0_2 a0 a1 a2) (by simp [h2]) (Holds.ofT (K2.r2_2_0 a0 a1 a2)))))
      ·
        exact (Holds.at (K2.c2_2_1_0 a0 a1 a2) (by simp [h0]) (Holds.at (K2.c2_2_1_1 a0 a1 a2) (by simp [h1]) (Holds.at (K2.c2_2_1_2 a0 a1 a2) (by simp [h2]) (Holds.ofT (K2.r2_2_1 a0 a1 a2)))))
  ·
    rcases e1 with h1 | h1 | h1
    ·
      rcases e2 with h2 | h2
      ·
        exact (Holds.at (K3.c3_0_0_0 a0 a1 a2) (by simp [h0]) (Holds.at (K3.c3_0_0_1 a0 a1 a2) (by simp [h1]) (Holds.at (K3.c3_0_0_2 a0 a1 a2) (by simp [h2]) (Holds.ofT (K3.r3_0_0 a0 a1 a2)))))
      ·
        exact (Holds.at (K3.c3_0_1_0 a0 a1 a2) (by simp [h0]) (Holds.at (K3.c3_0_1_1 a0 a1 a2) (by simp [h1]) (Holds.at (K3.c3_0_1_2 a0 a1 a2) (by simp [h2]) (Holds.ofT (K3.r3_0_1 a0 a1 a2)))))
    ·
      rcases e2 with h2 | h2
      ·
        exact (Holds.at (K3.c3_1_0_0 a0 a1 a2) (by simp [h0]) (Holds.at (K3.c3_1_0_1 a0 a1 a2) (by simp [h1]) (Holds.at (K3.c3_1_0_2 a0 a1 a2) (by simp [h2]) (Holds.ofT (K3.r3_1_0 a0 a1 a2)))))
      ·
        exact (Holds.at (K3.c3_1_1_0 a0 a1 a2) (by simp [h0]) (Holds.at (K3.c3_1_1_1 a0 a1 a2) (by simp [h1]) (Holds.at (K3.c3_1_1_2 a0 a1 a2) (by simp [h2]) (Holds.ofT (K3.r3_1_1 a0 a1 a2)))))
    ·
      rcases e2 with h2 | h2
      ·
        exact (Holds.at (K3.c3_2_0_0 a0 a1 a2) (by simp [h0]) (Holds.at (K3.c3_2_0_1 a0 a1 a2) (by simp [h1]) (Holds.at (K3.c3_2_0_2 a0 a1 a2) (by simp [h2]) (Holds.ofT (K3.r3_2_0 a0 a1 a2)))))
      ·
        exact (Holds.at (K3.c3_2_1_0 a0 a1 a2) (by simp [h0]) (Holds.at (K3.c3_2_1_1 a0 a1 a2) (by simp [h1]) (Holds.at (K3.c3_2_1_2 a0 a1 a2) (by simp [h2]) (Holds.ofT (K3.r3_2_1 a0 a1 a2)))))
  ·
    rcases e1 with h1 | h1 | h1
    ·
      rcases e2 with h2 | h2
      ·
        exact (Holds.at (K4.c4_0_0_0 a0 a1 a2) (by simp [h0]) (Holds.at (K4.c4_0_0_1 a0 a1 a2) (by simp [h1]) (Holds.at (K4.c4_0_0_2 a0 a1 a2) (by simp [h2]) (Holds.ofT (K4.r4_0_0 a0 a1 a2)))))
      ·
        exact (Holds.at (K4.c4_0_1_0 a0 a1 a2) (by simp [h0]) (Holds.at (K4.c4_0_1_1 a0 a1 a2) (by simp [h1]) (Holds.at (K4.c4_0_1_2 a0 a1 a2) (by simp [h2]) (Holds.ofT (K4.r4_0_1 a0 a1 a2)))))
    ·
      rcases e2 with h2 | h2
      ·
        exact (Holds.at (K4.c4_1_0_0 a0 a1 a2) (by simp [h0]) (Holds.at (K4.c4_1_0_1 a0 a1 a2) (by simp [h1]) (Holds.at (K4.c4_1_0_2 a0 a1 a2) (by simp [h2]) (Holds.ofT (K4.r4_1_0 a0 a1 a2)))))
      ·
        exact (Holds.at (K4.c4_1_1_0 a0 a1 a2) (by simp [h0]) (Holds.at (K4.c4_1_1_1 a0 a1 a2) (by simp [h1]) (Holds.at (K4.c4_1_1_2 a0 a1 a2) (by simp [h2]) (Holds.ofT (K4.r4_1_1 a0 a1 a2)))))
    ·
      rcases e2 with h2 | h2
      ·
        exact (Holds.at (K4.c4_2_0_0 a0 a1 a2) (by simp [h0]) (Holds.at (K4.c4_2_0_1 a0 a1 a2) (by simp [h1]) (Holds.at (K4.c4_2_0_2 a0 a1 a2) (by simp [h2]) (Holds.ofT (K4.r4_2_0 a0 a1 a2)))))
      ·
        exact (Holds.at (K4.c4_2_1_0 a0 a1 a2) (by simp [h0]) (Holds.at (K4.c4_2_1_1 a0 a1 a2) (by simp [h1]) (Holds.at (K4.c4_2_1_2 a0 a1 a2) (by simp [h2]) (Holds.ofT (K4.r4_2_1 a0 a1 a2)))))
  ·
    rcases e1 with h1 | h1 | h1
    ·
      rcases e2 with h2 | h2
      ·
        exact (Holds.at (K5.c5_0_0_0 a0 a1 a2) (by simp [h0]) (Holds.at (K5.c5_0_0_1 a0 a1 a2) (by simp [h1]) (Holds.at (K5.c5_0_0_2 a0 a1 a2) (by simp [h2]) (Holds.ofT (K5.r5_0_0 a0 a1 a2)))))
      ·
        exact (Holds.at (K5.c5_0_1_0 a0 a1 a2) (by simp [h0]) (Holds.at (K5.c5_0_1_1 a0 a1 a2) (by simp [h1]) (Holds.at (K5.c5_0_1_2 a0 a1 a2) (by simp [h2]) (Holds.ofT (K5.r5_0_1 a0 a1 a2)))))
    ·
      rcases e2 with h2 | h2
      ·
        exact (Holds.at (K5.c5_1_0_0 a0 a1 a2) (by simp [h0]) (Holds.at (K5.c5_1_0_1 a0 a1 a2) (by simp [h1]) (Holds.at (K5.c5_1_0_2 a0 a1 a2) (by simp [h2]) (Holds.ofT (K5.r5_1_0 a0 a1 a2)))))
      ·
        exact (Holds.at (K5.c5_1_1_0 a0 a1 a2) (by simp [h0]) (Holds.at (K5.c5_1_1_1 a0 a1 a2) (by simp [h1]) (Holds.at (K5.c5_1_1_2 a0 a1 a2) (by simp [h2]) (Holds.ofT (K5.r5_1_1 a0 a1 a2)))))
    ·
      rcases e2 with h2 | h2
      ·
        exact (Holds.at (K5.c5_2_0_0 a0 a1 a2) (by simp [h0]) (Holds.at (K5.c5_2_0_1 a0 a1 a2) (by simp [h1]) (Holds.at (K5.c5_2_0_2 a0 a1 a2) (by simp [h2]) (Holds.ofT (K5.r5_2_0 a0 a1 a2)))))
      ·
        exact (Holds.at (K5.c5_2_1_0 a0 a1 a2) (by simp [h0]) (Holds.at (K5.c5_2_1_1 a0 a1 a2) (by simp [h1]) (Holds.at (K5.c5_2_1_2 a0 a1 a2) (by simp [h2]) (Holds.ofT (K5.r5_2_1 a0 a1 a2)))))
  ·
    rcases e1 with h1 | h1 | h1
    ·
      rcases e2 with h2 | h2
      ·
        exact (Holds.at (K6.c6_0_0_0 a0 a1 a2) (by simp [h0]) (Holds.at (K6.c6_0_0_1 a0 a1 a2) (by simp [h1]) (Holds.at (K6.c6_0_0_2 a0 a1 a2) (by simp [h2]) (Holds.ofT (K6.r6_0_0 a0 a1 a2)))))
      ·
        exact (Holds.at (K6.c6_0_1_0 a0 a1 a2) (by simp [h0]) (Holds.at (K6.c6_0_1_1 a0 a1 a2) (by simp [h1]) (Holds.at (K6.c6_0_1_2 a0 a1 a2) (by simp [h2]) (Holds.ofT (K6.r6_0_1 a0 a1 a2)))))
    ·
      rcases e2 with h2 | h2
      ·
        exact (Holds.at (K6.c6_1_0_0 a0 a1 a2) (by simp [h0]) (Holds.at (K6.c6_1_0_1 a0 a1 a2) (by simp [h1]) (Holds.at (K6.c6_1_0_2 a0 a1 a2) (by simp [h2]) (Holds.ofT (K6.r6_1_0 a0 a1 a2)))))
      ·
        exact (Holds.at (K6.c6_1_1_0 a0 a1 a2) (by simp [h0]) (Holds.at (K6.c6_1_1_1 a0 a1 a2) (by simp [h1]) (Holds.at (K6.c6_1_1_2 a0 a1 a2) (by simp [h2]) (Holds.ofT (K6.r6_1_1 a0 a1 a2)))))
    ·
      rcases e2 with h2 | h2
      ·
        exact (Holds.at (K6.c6_2_0_0 a0 a1 a2) (by simp [h0]) (Holds.at (K6.c6_2_0_1 a0 a1 a2) (by simp [h1]) (Holds.at (K6.c6_2_0_2 a0 a1 a2) (by simp [h2]) (Holds.ofT (K6.r6_2_0 a0 a1 a2)))))
      ·
        exact (Holds.at (K6.c6_2_1_0 a0 a1 a2) (by simp [h0]) (Holds.at (K6.c6_2_1_1 a0 a1 a2) (by simp [h1]) (Holds.at (K6.c6_2_1_2 a0 a1 a2) (by simp [h2]) (Holds.ofT (K6.r6_2_1 a0 a1 a2)))))
  ·
    rcases e1 with h1 | h1 | h1
    ·
      rcases e2 with h2 | h2
      ·
        exact (Holds.at (K7.c7_0_0_0 a0 a1 a2) (by simp [h0]) (Holds.at (K7.c7_0_0_1 a0 a1 a2) (by simp [h1]) (Holds.at (K7.c7_0_0_2 a0 a1 a2) (by simp [h2]) (Holds.ofT (K7.r7_0_0 a0 a1 a2)))))
      ·
        exact (Holds.at (K7.c7_0_1_0 a0 a1 a2) (by simp [h0]) (Holds.at (K7.c7_0_1_1 a0 a1 a2) (by simp [h1]) (Holds.at (K7.c7_0_1_2 a0 a1 a2) (by simp [h2]) (Holds.ofT (K7.r7_0_1 a0 a1 a2)))))
    ·
      rcases e2 with h2 | h2
      ·
        exact (Holds.at (K7.c7_1_0_0 a0 a1 a2) (by simp [h0]) (Holds.at (K7.c7_1_0_1 a0 a1 a2) (by simp [h1]) (Holds.at (K7.c7_1_0_2 a0 a1 a2) (by simp [h2]) (Holds.ofT (K7.r7_1_0 a0 a1 a2)))))
      ·
        exact (Holds.at (K7.c7_1_1_0 a0 a1 a2) (by simp [h0]) (Holds.at (K7.c7_1_1_1 a0 a1 a2) (by simp [h1]) (Holds.at (K7.c7_1_1_2 a0 a1 a2) (by simp [h2]) (Holds.ofT (K7.r7_1_1 a0 a1 a2)))))
    ·
      rcases e2 with h2 | h2
      ·
        exact (Holds.at (K7.c7_2_0_0 a0 a1 a2) (by simp [h0]) (Holds.at (K7.c7_2_0_1 a0 a1 a2) (by simp [h1]) (Holds.at (K7.c7_2_0_2 a0 a1 a2) (by simp [h2]) (Holds.ofT (K7.r7_2_0 a0 a1 a2)))))
      ·
        exact (Holds.at (K7.c7_2_1_0 a0 a1 a2) (by simp [h0]) (Holds.at (K7.c7_2_1_1 a0 a1 a2) (by simp [h1]) (Holds.at (K7.c7_2_1_2 a0 a1 a2) (by simp [h2]) (Holds.ofT (K7.r7_2_1 a0 a1 a2)))))
abbrev ts : List TypeId := [3, 3, 3]
theorem hts : Try.f3.params.toList = ts := by kernel_rfl
theorem args (a0 a1 a2 : Int) : mkArgs Try.prog ts [[.int .i64], [.int .i64], [.int .i64]] [[a0], [a1], [a2]] = [.v (ii a0), .v (ii a1), .v (ii a2)] := by kernel_rfl
theorem shapes : shapesK Try.prog ts [[.int .i64], [.int .i64], [.int .i64]] := ⟨by kernel_rfl, by kernel_rfl, by kernel_rfl, trivial⟩
theorem core (w : World) (vals : List Value) (ha : F2 (ArgOK Try.prog w) ts vals) :
    Calls Try.prog 3 vals.toArray w fun e W' => ∃ v, e = .returned v ∧ v = .bool true ∧ Below w.heap.size w W' :=
  core_plain (S := MS) progOK (lookH_ok LC9.tabL_ok) 100 20 [[.int .i64], [.int .i64], [.int .i64]] shapes
    (fun nss hf => by
      match nss, hf with
      | [[a0], [a1], [a2]], hf =>
        exact (args a0 a1 a2).symm ▸ law a0 a1 a2 hf.1.1 hf.2.1.1 hf.2.2.1.1) w vals ha
theorem own : ownKnob Try.prog.godebug = none := by kernel_rfl
theorem lifted {H : Type} (os : Os) (started : os.Started) (enc : TypeId × Value → H) : ReturnsInHanded {} Try.checked os 3 .any (Rows.carveCellsSpec.pre6 enc Try.prog Try.f3 Rows.carveCellsRow.domain false) (Rows.carveCellsSpec.post enc Try.prog Try.f3 false true false false) :=
  law_lifted own started (by kernel_rfl) (by kernel_rfl)
    (ChangeSpec.witness6 (enc := enc) (C := Try.checked) false ⟨#[], #[.int .i64 0, .int .i64 0, .int .i64 0], []⟩ 8 (by kernel_rfl) (by kernel_rfl) (by kernel_rfl) (by kernel_rfl))
    (tb := 4) (by kernel_rfl) (by kernel_rfl) rfl
    (fun ds hd => by
      match ds, hd with
      | [_, _, _], _ => exact ⟨rfl, rfl, rfl⟩)
    (by kernel_rfl) (by kernel_rfl) (fun W vals ha => core W vals (hts ▸ ha))
theorem proved : Rows.CarveCellsSaid :=
  OpenClaim.holds_of_wide 3 Try.f3 rfl rfl rfl rfl rfl rfl rfl ⟨rfl, rfl, rfl, rfl, rfl⟩ rfl rfl rfl rfl rfl (by kernel_rfl) Try.func3 (by kernel_rfl) (of_decide_eq_true (by kernel_rfl))
    (by unfold Func.isWrapper; first | (rw [if_pos (by decide +kernel)]; kernel_rfl) | (rw [if_neg (by decide +kernel)]; exact ⟨rfl, rfl⟩))
    (fun os started H enc _ => lifted os started enc)
end Go.Proofs.Ytmhfaaccoojbjaa.CarveCells
