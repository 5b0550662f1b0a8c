/-
  CarveBack: printed by genfin.py: the row of the law.
-/
import Derived.Test.YtmhfaaccoojbjaaRows
import Derived.Test.YtmhfaaccoojbjaaCCarveBack0
import Derived.Test.YtmhfaaccoojbjaaCCarveBack1
import Derived.Test.YtmhfaaccoojbjaaCCarveBack2
import Derived.Test.YtmhfaaccoojbjaaCCarveBack3
import Derived.Test.YtmhfaaccoojbjaaCCarveBack4
import Derived.Test.YtmhfaaccoojbjaaCCarveBack5
import Derived.Test.YtmhfaaccoojbjaaCCarveBack6
import Derived.Test.YtmhfaaccoojbjaaCCarveBack7
import Derived.Test.YtmhfaaccoojbjaaCCarveBack8
import Derived.Test.YtmhfaaccoojbjaaCCarveBack9
import Derived.Test.YtmhfaaccoojbjaaCCarveBack10
import Derived.Test.YtmhfaaccoojbjaaCCarveBack11
import Derived.Test.YtmhfaaccoojbjaaCCarveBack12
import Derived.Test.YtmhfaaccoojbjaaCCarveBack13
import Derived.Test.YtmhfaaccoojbjaaCCarveBack14
import Derived.Test.YtmhfaaccoojbjaaCCarveBack15
import Derived.Test.YtmhfaaccoojbjaaCCarveBack16
import Derived.Test.YtmhfaaccoojbjaaCCarveBack17
import Derived.Test.YtmhfaaccoojbjaaCCarveBack18
import Derived.Test.YtmhfaaccoojbjaaCCarveBack19
import Derived.Test.YtmhfaaccoojbjaaCCarveBack20
import Derived.Test.YtmhfaaccoojbjaaCCarveBack21
import Derived.Test.YtmhfaaccoojbjaaCCarveBack22
import Derived.Test.YtmhfaaccoojbjaaCCarveBack23
import Derived.Test.YtmhfaaccoojbjaaCCarveBack24
namespace Go.Proofs.Ytmhfaaccoojbjaa.CarveBack
open Go Go.RowKit Go.Proofs.Ytmhfaaccoojbjaa.Eng
set_option linter.unusedVariables false
set_option linter.unusedSimpArgs false
set_option maxRecDepth 100000
noncomputable abbrev t (a0 a1 a2 : Int) : Tr SV := (evF Try.prog (lookH MObj Go.Proofs.Ytmhfaaccoojbjaa.Taken.tabL) 100 20 4 [.v (ii a0), .v (ii a1), .v (ii a2)] [] 0).vmap (·.val)
theorem law (a0 a1 a2 : Int) (ha0 : CK.fits (.int .i64) a0) (ha1 : CK.fits (.int .i64) a1) (ha2 : CK.fits (.int .i64) a2) : Holds (t a0 a1 a2) := by
  have k0 := kM_range (c := a0) (n := 8) (by decide) ha0
  have e0 : kM a0 8 = 0 ∨ kM a0 8 = 1 ∨ kM a0 8 = 2 ∨ kM a0 8 = 3 ∨ kM a0 8 = 4 ∨ kM a0 8 = 5 ∨ kM a0 8 = 6 ∨ kM a0 8 = 7 := by omega
  rcases e0 with h0 | h0 | h0 | h0 | h0 | h0 | h0 | h0
  ·
    have k1 := kM_range (c := a1) (n := 3) (by decide) ha1
    have e1 : kM a1 3 = 0 ∨ kM a1 3 = 1 ∨ kM a1 3 = 2 := by omega
    rcases e1 with h1 | h1 | h1
    ·
      have k2 := kM_range (c := a2) (n := 2) (by decide) ha2
      have e2 : kM a2 2 = 0 ∨ kM a2 2 = 1 := by omega
      rcases e2 with h2 | h2
      ·
        exact (Holds.at (K1.c0_0_0_0 a0 a1 a2) (by simp [h0]) (Holds.at (K1.c0_0_0_1 a0 a1 a2) (by simp [h1]) (Holds.then (Tr.run_skip 9 _) (Holds.at (K1.c0_0_0_2 a0 a1 a2) (by simp [h2]) (Holds.ofT (K1.r0_0_0 a0 a1 a2))))))
      ·
        exact (Holds.at (K24.c0_0_1_0 a0 a1 a2) (by simp [h0]) (Holds.at (K24.c0_0_1_1 a0 a1 a2) (by simp [h1]) (Holds.then (Tr.run_skip 9 _) (Holds.at (K24.c0_0_1_2 a0 a1 a2) (by simp [h2]) (Holds.ofT (K24.r0_0_1 a0 a1 a2))))))
    ·
      have k2 := kM_range (c := a2) (n := 2) (by decide) ha2
      have e2 : kM a2 2 = 0 ∨ kM a2 2 = 1 := by omega
      rcases e2 with h2 | h2
      ·
        exact (Holds.at (K9.c0_1_0_0 a0 a1 a2) (by simp [h0]) (Holds.at (K9.c0_1_0_1 a0 a1 a2) (by simp [h1]) (Holds.then (Tr.run_skip 10 _) (Holds.at (K9.c0_1_0_2 a0 a1 a2) (by simp [h2]) (Holds.ofT (K9.r0_1_0 a0 a1 a2))))))
      ·
        exact (Holds.at (K24.c0_1_1_0 a0 a1 a2) (by simp [h0]) (Holds.at (K24.c0_1_1_1 a0 a1 a2) (by simp [h1]) (Holds.then (Tr.run_skip 10 _) (Holds.at (K24.c0_1_1_2 a0 a1 a2) (by simp [h2]) (Holds.ofT (K24.r0_1_1 a0 a1 a2))))))
    ·
      have k2 := kM_range (c := a2) (n := 2) (by decide) ha2
      have e2 : kM a2 2 = 0 ∨ kM a2 2 = 1 := by omega
      rcases e2 with h2 | h2
      ·
        exact (Holds.at (K10.c0_2_0_0 a0 a1 a2) (by simp [h0]) (Holds.at (K10.c0_2_0_1 a0 a1 a2) (by simp [h1]) (Holds.then (Tr.run_skip 11 _) (Holds.at (K10.c0_2_0_2 a0 a1 a2) (by simp [h2]) (Holds.ofT (K10.r0_2_0 a0 a1 a2))))))
      ·
        exact (Holds.at (K24.c0_2_1_0 a0 a1 a2) (by simp [h0]) (Holds.at (K24.c0_2_1_1 a0 a1 a2) (by simp [h1]) (Holds.then (Tr.run_skip 11 _) (Holds.at (K24.c0_2_1_2 a0 a1 a2) (by simp [h2]) (Holds.ofT (K24.r0_2_1 a0 a1 a2))))))
  ·
    have k1 := kM_range (c := a1) (n := 3) (by decide) ha1
    have e1 : kM a1 3 = 0 ∨ kM a1 3 = 1 ∨ kM a1 3 = 2 := by omega
    rcases e1 with h1 | h1 | h1
    ·
      have k2 := kM_range (c := a2) (n := 3) (by decide) ha2
      have e2 : kM a2 3 = 0 ∨ kM a2 3 = 1 ∨ kM a2 3 = 2 := by omega
      rcases e2 with h2 | h2 | h2
      ·
        exact (Holds.at (K24.c1_0_0_0 a0 a1 a2) (by simp [h0]) (Holds.at (K24.c1_0_0_1 a0 a1 a2) (by simp [h1]) (Holds.then (Tr.run_skip 14 _) (Holds.at (K24.c1_0_0_2 a0 a1 a2) (by simp [h2]) (Holds.ofT (K24.r1_0_0 a0 a1 a2))))))
      ·
        exact (Holds.at (K16.c1_0_1_0 a0 a1 a2) (by simp [h0]) (Holds.at (K16.c1_0_1_1 a0 a1 a2) (by simp [h1]) (Holds.then (Tr.run_skip 14 _) (Holds.at (K16.c1_0_1_2 a0 a1 a2) (by simp [h2]) (Holds.ofT (K16.r1_0_1 a0 a1 a2))))))
      ·
        exact (Holds.at (K2.c1_0_2_0 a0 a1 a2) (by simp [h0]) (Holds.at (K2.c1_0_2_1 a0 a1 a2) (by simp [h1]) (Holds.then (Tr.run_skip 14 _) (Holds.at (K2.c1_0_2_2 a0 a1 a2) (by simp [h2]) (Holds.ofT (K2.r1_0_2 a0 a1 a2))))))
    ·
      have k2 := kM_range (c := a2) (n := 3) (by decide) ha2
      have e2 : kM a2 3 = 0 ∨ kM a2 3 = 1 ∨ kM a2 3 = 2 := by omega
      rcases e2 with h2 | h2 | h2
      ·
        exact (Holds.at (K24.c1_1_0_0 a0 a1 a2) (by simp [h0]) (Holds.at (K24.c1_1_0_1 a0 a1 a2) (by simp [h1]) (Holds.then (Tr.run_skip 16 _) (Holds.at (K24.c1_1_0_2 a0 a1 a2) (by simp [h2]) (Holds.ofT (K24.r1_1_0 a0 a1 a2))))))
      ·
        exact (Holds.at (K17.c1_1_1_0 a0 a1 a2) (by simp [h0]) (Holds.at (K17.c1_1_1_1 a0 a1 a2) (by simp [h1]) (Holds.then (Tr.run_skip 16 _) (Holds.at (K17.c1_1_1_2 a0 a1 a2) (by simp [h2]) (Holds.ofT (K17.r1_1_1 a0 a1 a2))))))
      ·
        exact (Holds.at (K3.c1_1_2_0 a0 a1 a2) (by simp [h0]) (Holds.at (K3.c1_1_2_1 a0 a1 a2) (by simp [h1]) (Holds.then (Tr.run_skip 16 _) (Holds.at (K3.c1_1_2_2 a0 a1 a2) (by simp [h2]) (Holds.ofT (K3.r1_1_2 a0 a1 a2))))))
    ·
      have k2 := kM_range (c := a2) (n := 3) (by decide) ha2
      have e2 : kM a2 3 = 0 ∨ kM a2 3 = 1 ∨ kM a2 3 = 2 := by omega
      rcases e2 with h2 | h2 | h2
      ·
        exact (Holds.at (K24.c1_2_0_0 a0 a1 a2) (by simp [h0]) (Holds.at (K24.c1_2_0_1 a0 a1 a2) (by simp [h1]) (Holds.then (Tr.run_skip 18 _) (Holds.at (K24.c1_2_0_2 a0 a1 a2) (by simp [h2]) (Holds.ofT (K24.r1_2_0 a0 a1 a2))))))
      ·
        exact (Holds.at (K18.c1_2_1_0 a0 a1 a2) (by simp [h0]) (Holds.at (K18.c1_2_1_1 a0 a1 a2) (by simp [h1]) (Holds.then (Tr.run_skip 18 _) (Holds.at (K18.c1_2_1_2 a0 a1 a2) (by simp [h2]) (Holds.ofT (K18.r1_2_1 a0 a1 a2))))))
      ·
        exact (Holds.at (K11.c1_2_2_0 a0 a1 a2) (by simp [h0]) (Holds.at (K11.c1_2_2_1 a0 a1 a2) (by simp [h1]) (Holds.then (Tr.run_skip 18 _) (Holds.at (K11.c1_2_2_2 a0 a1 a2) (by simp [h2]) (Holds.ofT (K11.r1_2_2 a0 a1 a2))))))
  ·
    have k1 := kM_range (c := a1) (n := 3) (by decide) ha1
    have e1 : kM a1 3 = 0 ∨ kM a1 3 = 1 ∨ kM a1 3 = 2 := by omega
    rcases e1 with h1 | h1 | h1
    ·
      have k2 := kM_range (c := a2) (n := 4) (by decide) ha2
      have e2 : kM a2 4 = 0 ∨ kM a2 4 = 1 ∨ kM a2 4 = 2 ∨ kM a2 4 = 3 := by omega
      rcases e2 with h2 | h2 | h2 | h2
      ·
        exact (Holds.at (K20.c2_0_0_0 a0 a1 a2) (by simp [h0]) (Holds.at (K20.c2_0_0_1 a0 a1 a2) (by simp [h1]) (Holds.then (Tr.run_skip 19 _) (Holds.at (K20.c2_0_0_2 a0 a1 a2) (by simp [h2]) (Holds.ofT (K20.r2_0_0 a0 a1 a2))))))
      ·
        exact (Holds.at (K23.c2_0_1_0 a0 a1 a2) (by simp [h0]) (Holds.at (K23.c2_0_1_1 a0 a1 a2) (by simp [h1]) (Holds.then (Tr.run_skip 19 _) (Holds.at (K23.c2_0_1_2 a0 a1 a2) (by simp [h2]) (Holds.ofT (K23.r2_0_1 a0 a1 a2))))))
      ·
        exact (Holds.at (K12.c2_0_2_0 a0 a1 a2) (by simp [h0]) (Holds.at (K12.c2_0_2_1 a0 a1 a2) (by simp [h1]) (Holds.then (Tr.run_skip 19 _) (Holds.at (K12.c2_0_2_2 a0 a1 a2) (by simp [h2]) (Holds.ofT (K12.r2_0_2 a0 a1 a2))))))
      ·
        exact (Holds.at (K20.c2_0_3_0 a0 a1 a2) (by simp [h0]) (Holds.at (K20.c2_0_3_1 a0 a1 a2) (by simp [h1]) (Holds.then (Tr.run_skip 19 _) (Holds.at (K20.c2_0_3_2 a0 a1 a2) (by simp [h2]) (Holds.ofT (K20.r2_0_3 a0 a1 a2))))))
    ·
      have k2 := kM_range (c := a2) (n := 4) (by decide) ha2
      have e2 : kM a2 4 = 0 ∨ kM a2 4 = 1 ∨ kM a2 4 = 2 ∨ kM a2 4 = 3 := by omega
      rcases e2 with h2 | h2 | h2 | h2
      ·
        exact (Holds.at (K22.c2_1_0_0 a0 a1 a2) (by simp [h0]) (Holds.at (K22.c2_1_0_1 a0 a1 a2) (by simp [h1]) (Holds.then (Tr.run_skip 22 _) (Holds.at (K22.c2_1_0_2 a0 a1 a2) (by simp [h2]) (Holds.ofT (K22.r2_1_0 a0 a1 a2))))))
      ·
        exact (Holds.at (K23.c2_1_1_0 a0 a1 a2) (by simp [h0]) (Holds.at (K23.c2_1_1_1 a0 a1 a2) (by simp [h1]) (Holds.then (Tr.run_skip 22 _) (Holds.at (K23.c2_1_1_2 a0 a1 a2) (by simp [h2]) (Holds.ofT (K23.r2_1_1 a0 a1 a2))))))
      ·
        exact (Holds.at (K22.c2_1_2_0 a0 a1 a2) (by simp [h0]) (Holds.at (K22.c2_1_2_1 a0 a1 a2) (by simp [h1]) (Holds.then (Tr.run_skip 22 _) (Holds.at (K22.c2_1_2_2 a0 a1 a2) (by simp [h2]) (Holds.ofT (K22.r2_1_2 a0 a1 a2))))))
      ·
        exact (Holds.at (K20.c2_1_3_0 a0 a1 a2) (by simp [h0]) (Holds.at (K20.c2_1_3_1 a0 a1 a2) (by simp [h1]) (Holds.then (Tr.run_skip 22 _) (Holds.at (K20.c2_1_3_2 a0 a1 a2) (by simp [h2]) (Holds.ofT (K20.r2_1_3 a0 a1 a2))))))
    ·
      have k2 := kM_range (c := a2) (n := 4) (by decide) ha2
      have e2 : kM a2 4 = 0 ∨ kM a2 4 = 1 ∨ kM a2 4 = 2 ∨ kM a2 4 = 3 := by omega
      rcases e2 with h2 | h2 | h2 | h2
      ·
        exact (Holds.at (K24.c2_2_0_0 a0 a1 a2) (by simp [h0]) (Holds.at (K24.c2_2_0_1 a0 a1 a2) (by simp [h1]) (Holds.then (Tr.run_skip 25 _) (Holds.at (K24.c2_2_0_2 a0 a1 a2) (by simp [h2]) (Holds.ofT (K24.r2_2_0 a0 a1 a2))))))
      ·
        exact (Holds.at (K23.c2_2_1_0 a0 a1 a2) (by simp [h0]) (Holds.at (K23.c2_2_1_1 a0 a1 a2) (by simp [h1]) (Holds.then (Tr.run_skip 25 _) (Holds.at (K23.c2_2_1_2 a0 a1 a2) (by simp [h2]) (Holds.ofT (K23.r2_2_1 a0 a1 a2))))))
      ·
        exact (Holds.at (K22.c2_2_2_0 a0 a1 a2) (by simp [h0]) (Holds.at (K22.c2_2_2_1 a0 a1 a2) (by simp [h1]) (Holds.then (Tr.run_skip 25 _) (Holds.at (K22.c2_2_2_2 a0 a1 a2) (by simp [h2]) (Holds.ofT (K22.r2_2_2 a0 a1 a2))))))
      ·
        exact (Holds.at (K20.c2_2_3_0 a0 a1 a2) (by simp [h0]) (Holds.at (K20.c2_2_3_1 a0 a1 a2) (by simp [h1]) (Holds.then (Tr.run_skip 25 _) (Holds.at (K20.c2_2_3_2 a0 a1 a2) (by simp [h2]) (Holds.ofT (K20.r2_2_3 a0 a1 a2))))))
  ·
    have k1 := kM_range (c := a1) (n := 3) (by decide) ha1
    have e1 : kM a1 3 = 0 ∨ kM a1 3 = 1 ∨ kM a1 3 = 2 := by omega
    rcases e1 with h1 | h1 | h1
    ·
      have k2 := kM_range (c := a2) (n := 5) (by decide) ha2
      have e2 : kM a2 5 = 0 ∨ kM a2 5 = 1 ∨ kM a2 5 = 2 ∨ kM a2 5 = 3 ∨ kM a2 5 = 4 := by omega
      rcases e2 with h2 | h2 | h2 | h2 | h2
      ·
        exact (Holds.at (K23.c3_0_0_0 a0 a1 a2) (by simp [h0]) (Holds.at (K23.c3_0_0_1 a0 a1 a2) (by simp [h1]) (Holds.then (Tr.run_skip 24 _) (Holds.at (K23.c3_0_0_2 a0 a1 a2) (by simp [h2]) (Holds.ofT (K23.r3_0_0 a0 a1 a2))))))
      ·
        exact (Holds.at (K22.c3_0_1_0 a0 a1 a2) (by simp [h0]) (Holds.at (K22.c3_0_1_1 a0 a1 a2) (by simp [h1]) (Holds.then (Tr.run_skip 24 _) (Holds.at (K22.c3_0_1_2 a0 a1 a2) (by simp [h2]) (Holds.ofT (K22.r3_0_1 a0 a1 a2))))))
      ·
        exact (Holds.at (K21.c3_0_2_0 a0 a1 a2) (by simp [h0]) (Holds.at (K21.c3_0_2_1 a0 a1 a2) (by simp [h1]) (Holds.then (Tr.run_skip 24 _) (Holds.at (K21.c3_0_2_2 a0 a1 a2) (by simp [h2]) (Holds.ofT (K21.r3_0_2 a0 a1 a2))))))
      ·
        exact (Holds.at (K4.c3_0_3_0 a0 a1 a2) (by simp [h0]) (Holds.at (K4.c3_0_3_1 a0 a1 a2) (by simp [h1]) (Holds.then (Tr.run_skip 24 _) (Holds.at (K4.c3_0_3_2 a0 a1 a2) (by simp [h2]) (Holds.ofT (K4.r3_0_3 a0 a1 a2))))))
      ·
        exact (Holds.at (K16.c3_0_4_0 a0 a1 a2) (by simp [h0]) (Holds.at (K16.c3_0_4_1 a0 a1 a2) (by simp [h1]) (Holds.then (Tr.run_skip 24 _) (Holds.at (K16.c3_0_4_2 a0 a1 a2) (by simp [h2]) (Holds.ofT (K16.r3_0_4 a0 a1 a2))))))
    ·
      have k2 := kM_range (c := a2) (n := 5) (by decide) ha2
      have e2 : kM a2 5 = 0 ∨ kM a2 5 = 1 ∨ kM a2 5 = 2 ∨ kM a2 5 = 3 ∨ kM a2 5 = 4 := by omega
      rcases e2 with h2 | h2 | h2 | h2 | h2
      ·
        exact (Holds.at (K23.c3_1_0_0 a0 a1 a2) (by simp [h0]) (Holds.at (K23.c3_1_0_1 a0 a1 a2) (by simp [h1]) (Holds.then (Tr.run_skip 28 _) (Holds.at (K23.c3_1_0_2 a0 a1 a2) (by simp [h2]) (Holds.ofT (K23.r3_1_0 a0 a1 a2))))))
      ·
        exact (Holds.at (K22.c3_1_1_0 a0 a1 a2) (by simp [h0]) (Holds.at (K22.c3_1_1_1 a0 a1 a2) (by simp [h1]) (Holds.then (Tr.run_skip 28 _) (Holds.at (K22.c3_1_1_2 a0 a1 a2) (by simp [h2]) (Holds.ofT (K22.r3_1_1 a0 a1 a2))))))
      ·
        exact (Holds.at (K21.c3_1_2_0 a0 a1 a2) (by simp [h0]) (Holds.at (K21.c3_1_2_1 a0 a1 a2) (by simp [h1]) (Holds.then (Tr.run_skip 28 _) (Holds.at (K21.c3_1_2_2 a0 a1 a2) (by simp [h2]) (Holds.ofT (K21.r3_1_2 a0 a1 a2))))))
      ·
        exact (Holds.at (K5.c3_1_3_0 a0 a1 a2) (by simp [h0]) (Holds.at (K5.c3_1_3_1 a0 a1 a2) (by simp [h1]) (Holds.then (Tr.run_skip 28 _) (Holds.at (K5.c3_1_3_2 a0 a1 a2) (by simp [h2]) (Holds.ofT (K5.r3_1_3 a0 a1 a2))))))
      ·
        exact (Holds.at (K16.c3_1_4_0 a0 a1 a2) (by simp [h0]) (Holds.at (K16.c3_1_4_1 a0 a1 a2) (by simp [h1]) (Holds.then (Tr.run_skip 28 _) (Holds.at (K16.c3_1_4_2 a0 a1 a2) (by simp [h2]) (Holds.ofT (K16.r3_1_4 a0 a1 a2))))))
    ·
      have k2 := kM_range (c := a2) (n := 5) (by decide) ha2
      have e2 : kM a2 5 = 0 ∨ kM a2 5 = 1 ∨ kM a2 5 = 2 ∨ kM a2 5 = 3 ∨ kM a2 5 = 4 := by omega
      rcases e2 with h2 | h2 | h2 | h2 | h2
      ·
        exact (Holds.at (K23.c3_2_0_0 a0 a1 a2) (by simp [h0]) (Holds.at (K23.c3_2_0_1 a0 a1 a2) (by simp [h1]) (Holds.then (Tr.run_skip 32 _) (Holds.at (K23.c3_2_0_2 a0 a1 a2) (by simp [h2]) (Holds.ofT (K23.r3_2_0 a0 a1 a2))))))
      ·
        exact (Holds.at (K22.c3_2_1_0 a0 a1 a2) (by simp [h0]) (Holds.at (K22.c3_2_1_1 a0 a1 a2) (by simp [h1]) (Holds.then (Tr.run_skip 32 _) (Holds.at (K22.c3_2_1_2 a0 a1 a2) (by simp [h2]) (Holds.ofT (K22.r3_2_1 a0 a1 a2))))))
      ·
        exact (Holds.at (K21.c3_2_2_0 a0 a1 a2) (by simp [h0]) (Holds.at (K21.c3_2_2_1 a0 a1 a2) (by simp [h1]) (Holds.then (Tr.run_skip 32 _) (Holds.at (K21.c3_2_2_2 a0 a1 a2) (by simp [h2]) (Holds.ofT (K21.r3_2_2 a0 a1 a2))))))
      ·
        exact (Holds.at (K13.c3_2_3_0 a0 a1 a2) (by simp [h0]) (Holds.at (K13.c3_2_3_1 a0 a1 a2) (by simp [h1]) (Holds.then (Tr.run_skip 32 _) (Holds.at (K13.c3_2_3_2 a0 a1 a2) (by simp [h2]) (Holds.ofT (K13.r3_2_3 a0 a1 a2))))))
      ·
        exact (Holds.at (K16.c3_2_4_0 a0 a1 a2) (by simp [h0]) (Holds.at (K16.c3_2_4_1 a0 a1 a2) (by simp [h1]) (Holds.then (Tr.run_skip 32 _) (Holds.at (K16.c3_2_4_2 a0 a1 a2) (by simp [h2]) (Holds.ofT (K16.r3_2_4 a0 a1 a2))))))
  ·
    have k1 := kM_range (c := a1) (n := 3) (by decide) ha1
    have e1 : kM a1 3 = 0 ∨ kM a1 3 = 1 ∨ kM a1 3 = 2 := by omega
    rcases e1 with h1 | h1 | h1
    ·
      have k2 := kM_range (c := a2) (n := 6) (by decide) ha2
      have e2 : kM a2 6 = 0 ∨ kM a2 6 = 1 ∨ kM a2 6 = 2 ∨ kM a2 6 = 3 ∨ kM a2 6 = 4 ∨ kM a2 6 = 5 := by omega
      rcases e2 with h2 | h2 | h2 | h2 | h2 | h2
      ·
        exact (Holds.at (K23.c4_0_0_0 a0 a1 a2) (by simp [h0]) (Holds.at (K23.c4_0_0_1 a0 a1 a2) (by simp [h1]) (Holds.then (Tr.run_skip 29 _) (Holds.at (K23.c4_0_0_2 a0 a1 a2) (by simp [h2]) (Holds.ofT (K23.r4_0_0 a0 a1 a2))))))
      ·
        exact (Holds.at (K21.c4_0_1_0 a0 a1 a2) (by simp [h0]) (Holds.at (K21.c4_0_1_1 a0 a1 a2) (by simp [h1]) (Holds.then (Tr.run_skip 29 _) (Holds.at (K21.c4_0_1_2 a0 a1 a2) (by simp [h2]) (Holds.ofT (K21.r4_0_1 a0 a1 a2))))))
      ·
        exact (Holds.at (K19.c4_0_2_0 a0 a1 a2) (by simp [h0]) (Holds.at (K19.c4_0_2_1 a0 a1 a2) (by simp [h1]) (Holds.then (Tr.run_skip 29 _) (Holds.at (K19.c4_0_2_2 a0 a1 a2) (by simp [h2]) (Holds.ofT (K19.r4_0_2 a0 a1 a2))))))
      ·
        exact (Holds.at (K16.c4_0_3_0 a0 a1 a2) (by simp [h0]) (Holds.at (K16.c4_0_3_1 a0 a1 a2) (by simp [h1]) (Holds.then (Tr.run_skip 29 _) (Holds.at (K16.c4_0_3_2 a0 a1 a2) (by simp [h2]) (Holds.ofT (K16.r4_0_3 a0 a1 a2))))))
      ·
        exact (Holds.at (K13.c4_0_4_0 a0 a1 a2) (by simp [h0]) (Holds.at (K13.c4_0_4_1 a0 a1 a2) (by simp [h1]) (Holds.then (Tr.run_skip 29 _) (Holds.at (K13.c4_0_4_2 a0 a1 a2) (by simp [h2]) (Holds.ofT (K13.r4_0_4 a0 a1 a2))))))
      ·
        exact (Holds.at (K6.c4_0_5_0 a0 a1 a2) (by simp [h0]) (Holds.at (K6.c4_0_5_1 a0 a1 a2) (by simp [h1]) (Holds.then (Tr.run_skip 29 _) (Holds.at (K6.c4_0_5_2 a0 a1 a2) (by simp [h2]) (Holds.ofT (K6.r4_0_5 a0 a1 a2))))))
    ·
      have k2 := kM_range (c := a2) (n := 6) (by decide) ha2
      have e2 : kM a2 6 = 0 ∨ kM a2 6 = 1 ∨ kM a2 6 = 2 ∨ kM a2 6 = 3 ∨ kM a2 6 = 4 ∨ kM a2 6 = 5 := by omega
      rcases e2 with h2 | h2 | h2 | h2 | h2 | h2
      ·
        exact (Holds.at (K23.c4_1_0_0 a0 a1 a2) (by simp [h0]) (Holds.at (K23.c4_1_0_1 a0 a1 a2) (by simp [h1]) (Holds.then (Tr.run_skip 34 _) (Holds.at (K23.c4_1_0_2 a0 a1 a2) (by simp [h2]) (Holds.ofT (K23.r4_1_0 a0 a1 a2))))))
      ·
        exact (Holds.at (K21.c4_1_1_0 a0 a1 a2) (by simp [h0]) (Holds.at (K21.c4_1_1_1 a0 a1 a2) (by simp [h1]) (Holds.then (Tr.run_skip 34 _) (Holds.at (K21.c4_1_1_2 a0 a1 a2) (by simp [h2]) (Holds.ofT (K21.r4_1_1 a0 a1 a2))))))
      ·
        exact (Holds.at (K19.c4_1_2_0 a0 a1 a2) (by simp [h0]) (Holds.at (K19.c4_1_2_1 a0 a1 a2) (by simp [h1]) (Holds.then (Tr.run_skip 34 _) (Holds.at (K19.c4_1_2_2 a0 a1 a2) (by simp [h2]) (Holds.ofT (K19.r4_1_2 a0 a1 a2))))))
      ·
        exact (Holds.at (K16.c4_1_3_0 a0 a1 a2) (by simp [h0]) (Holds.at (K16.c4_1_3_1 a0 a1 a2) (by simp [h1]) (Holds.then (Tr.run_skip 34 _) (Holds.at (K16.c4_1_3_2 a0 a1 a2) (by simp [h2]) (Holds.ofT (K16.r4_1_3 a0 a1 a2))))))
      ·
        exact (Holds.at (K13.c4_1_4_0 a0 a1 a2) (by simp [h0]) (Holds.at (K13.c4_1_4_1 a0 a1 a2) (by simp [h1]) (Holds.then (Tr.run_skip 34 _) (Holds.at (K13.c4_1_4_2 a0 a1 a2) (by simp [h2]) (Holds.ofT (K13.r4_1_4 a0 a1 a2))))))
      ·
        exact (Holds.at (K7.c4_1_5_0 a0 a1 a2) (by simp [h0]) (Holds.at (K7.c4_1_5_1 a0 a1 a2) (by simp [h1]) (Holds.then (Tr.run_skip 34 _) (Holds.at (K7.c4_1_5_2 a0 a1 a2) (by simp [h2]) (Holds.ofT (K7.r4_1_5 a0 a1 a2))))))
    ·
      have k2 := kM_range (c := a2) (n := 6) (by decide) ha2
      have e2 : kM a2 6 = 0 ∨ kM a2 6 = 1 ∨ kM a2 6 = 2 ∨ kM a2 6 = 3 ∨ kM a2 6 = 4 ∨ kM a2 6 = 5 := by omega
      rcases e2 with h2 | h2 | h2 | h2 | h2 | h2
      ·
        exact (Holds.at (K23.c4_2_0_0 a0 a1 a2) (by simp [h0]) (Holds.at (K23.c4_2_0_1 a0 a1 a2) (by simp [h1]) (Holds.then (Tr.run_skip 39 _) (Holds.at (K23.c4_2_0_2 a0 a1 a2) (by simp [h2]) (Holds.ofT (K23.r4_2_0 a0 a1 a2))))))
      ·
        exact (Holds.at (K21.c4_2_1_0 a0 a1 a2) (by simp [h0]) (Holds.at (K21.c4_2_1_1 a0 a1 a2) (by simp [h1]) (Holds.then (Tr.run_skip 39 _) (Holds.at (K21.c4_2_1_2 a0 a1 a2) (by simp [h2]) (Holds.ofT (K21.r4_2_1 a0 a1 a2))))))
      ·
        exact (Holds.at (K19.c4_2_2_0 a0 a1 a2) (by simp [h0]) (Holds.at (K19.c4_2_2_1 a0 a1 a2) (by simp [h1]) (Holds.then (Tr.run_skip 39 _) (Holds.at (K19.c4_2_2_2 a0 a1 a2) (by simp [h2]) (Holds.ofT (K19.r4_2_2 a0 a1 a2))))))
      ·
        exact (Holds.at (K17.c4_2_3_0 a0 a1 a2) (by simp [h0]) (Holds.at (K17.c4_2_3_1 a0 a1 a2) (by simp [h1]) (Holds.then (Tr.run_skip 39 _) (Holds.at (K17.c4_2_3_2 a0 a1 a2) (by simp [h2]) (Holds.ofT (K17.r4_2_3 a0 a1 a2))))))
      ·
        exact (Holds.at (K14.c4_2_4_0 a0 a1 a2) (by simp [h0]) (Holds.at (K14.c4_2_4_1 a0 a1 a2) (by simp [h1]) (Holds.then (Tr.run_skip 39 _) (Holds.at (K14.c4_2_4_2 a0 a1 a2) (by simp [h2]) (Holds.ofT (K14.r4_2_4 a0 a1 a2))))))
      ·
        exact (Holds.at (K8.c4_2_5_0 a0 a1 a2) (by simp [h0]) (Holds.at (K8.c4_2_5_1 a0 a1 a2) (by simp [h1]) (Holds.then (Tr.run_skip 39 _) (Holds.at (K8.c4_2_5_2 a0 a1 a2) (by simp [h2]) (Holds.ofT (K8.r4_2_5 a0 a1 a2))))))
  ·
    have k1 := kM_range (c := a1) (n := 3) (by decide) ha1
    have e1 : kM a1 3 = 0 ∨ kM a1 3 = 1 ∨ kM a1 3 = 2 := by omega
    rcases e1 with h1 | h1 | h1
    ·
      have k2 := kM_range (c := a2) (n := 7) (by decide) ha2
      have e2 : kM a2 7 = 0 ∨ kM a2 7 = 1 ∨ kM a2 7 = 2 ∨ kM a2 7 = 3 ∨ kM a2 7 = 4 ∨ kM a2 7 = 5 ∨ kM a2 7 = 6 := by omega
      rcases e2 with h2 | h2 | h2 | h2 | h2 | h2 | h2
      ·
        exact (Holds.at (K21.c5_0_0_0 a0 a1 a2) (by simp [h0]) (Holds.at (K21.c5_0_0_1 a0 a1 a2) (by simp [h1]) (Holds.then (Tr.run_skip 34 _) (Holds.at (K21.c5_0_0_2 a0 a1 a2) (by simp [h2]) (Holds.ofT (K21.r5_0_0 a0 a1 a2))))))
      ·
        exact (Holds.at (K19.c5_0_1_0 a0 a1 a2) (by simp [h0]) (Holds.at (K19.c5_0_1_1 a0 a1 a2) (by simp [h1]) (Holds.then (Tr.run_skip 34 _) (Holds.at (K19.c5_0_1_2 a0 a1 a2) (by simp [h2]) (Holds.ofT (K19.r5_0_1 a0 a1 a2))))))
      ·
        exact (Holds.at (K17.c5_0_2_0 a0 a1 a2) (by simp [h0]) (Holds.at (K17.c5_0_2_1 a0 a1 a2) (by simp [h1]) (Holds.then (Tr.run_skip 34 _) (Holds.at (K17.c5_0_2_2 a0 a1 a2) (by simp [h2]) (Holds.ofT (K17.r5_0_2 a0 a1 a2))))))
      ·
        exact (Holds.at (K14.c5_0_3_0 a0 a1 a2) (by simp [h0]) (Holds.at (K14.c5_0_3_1 a0 a1 a2) (by simp [h1]) (Holds.then (Tr.run_skip 34 _) (Holds.at (K14.c5_0_3_2 a0 a1 a2) (by simp [h2]) (Holds.ofT (K14.r5_0_3 a0 a1 a2))))))
      ·
        exact (Holds.at (K11.c5_0_4_0 a0 a1 a2) (by simp [h0]) (Holds.at (K11.c5_0_4_1 a0 a1 a2) (by simp [h1]) (Holds.then (Tr.run_skip 34 _) (Holds.at (K11.c5_0_4_2 a0 a1 a2) (by simp [h2]) (Holds.ofT (K11.r5_0_4 a0 a1 a2))))))
      ·
        exact (Holds.at (K9.c5_0_5_0 a0 a1 a2) (by simp [h0]) (Holds.at (K9.c5_0_5_1 a0 a1 a2) (by simp [h1]) (Holds.then (Tr.run_skip 34 _) (Holds.at (K9.c5_0_5_2 a0 a1 a2) (by simp [h2]) (Holds.ofT (K9.r5_0_5 a0 a1 a2))))))
      ·
        exact (Holds.at (K6.c5_0_6_0 a0 a1 a2) (by simp [h0]) (Holds.at (K6.c5_0_6_1 a0 a1 a2) (by simp [h1]) (Holds.then (Tr.run_skip 34 _) (Holds.at (K6.c5_0_6_2 a0 a1 a2) (by simp [h2]) (Holds.ofT (K6.r5_0_6 a0 a1 a2))))))
    ·
      have k2 := kM_range (c := a2) (n := 7) (by decide) ha2
      have e2 : kM a2 7 = 0 ∨ kM a2 7 = 1 ∨ kM a2 7 = 2 ∨ kM a2 7 = 3 ∨ kM a2 7 = 4 ∨ kM a2 7 = 5 ∨ kM a2 7 = 6 := by omega
      rcases e2 with h2 | h2 | h2 | h2 | h2 | h2 | h2
      ·
        exact (Holds.at (K22.c5_1_0_0 a0 a1 a2) (by simp [h0]) (Holds.at (K22.c5_1_0_1 a0 a1 a2) (by simp [h1]) (Holds.then (Tr.run_skip 40 _) (Holds.at (K22.c5_1_0_2 a0 a1 a2) (by simp [h2]) (Holds.ofT (K22.r5_1_0 a0 a1 a2))))))
      ·
        exact (Holds.at (K19.c5_1_1_0 a0 a1 a2) (by simp [h0]) (Holds.at (K19.c5_1_1_1 a0 a1 a2) (by simp [h1]) (Holds.then (Tr.run_skip 40 _) (Holds.at (K19.c5_1_1_2 a0 a1 a2) (by simp [h2]) (Holds.ofT (K19.r5_1_1 a0 a1 a2))))))
      ·
        exact (Holds.at (K17.c5_1_2_0 a0 a1 a2) (by simp [h0]) (Holds.at (K17.c5_1_2_1 a0 a1 a2) (by simp [h1]) (Holds.then (Tr.run_skip 40 _) (Holds.at (K17.c5_1_2_2 a0 a1 a2) (by simp [h2]) (Holds.ofT (K17.r5_1_2 a0 a1 a2))))))
      ·
        exact (Holds.at (K14.c5_1_3_0 a0 a1 a2) (by simp [h0]) (Holds.at (K14.c5_1_3_1 a0 a1 a2) (by simp [h1]) (Holds.then (Tr.run_skip 40 _) (Holds.at (K14.c5_1_3_2 a0 a1 a2) (by simp [h2]) (Holds.ofT (K14.r5_1_3 a0 a1 a2))))))
      ·
        exact (Holds.at (K11.c5_1_4_0 a0 a1 a2) (by simp [h0]) (Holds.at (K11.c5_1_4_1 a0 a1 a2) (by simp [h1]) (Holds.then (Tr.run_skip 40 _) (Holds.at (K11.c5_1_4_2 a0 a1 a2) (by simp [h2]) (Holds.ofT (K11.r5_1_4 a0 a1 a2))))))
      ·
        exact (Holds.at (K9.c5_1_5_0 a0 a1 a2) (by simp [h0]) (Holds.at (K9.c5_1_5_1 a0 a1 a2) (by simp [h1]) (Holds.then (Tr.run_skip 40 _) (Holds.at (K9.c5_1_5_2 a0 a1 a2) (by simp [h2]) (Holds.ofT (K9.r5_1_5 a0 a1 a2))))))
      ·
        exact (Holds.at (K6.c5_1_6_0 a0 a1 a2) (by simp [h0]) (Holds.at (K6.c5_1_6_1 a0 a1 a2) (by simp [h1]) (Holds.then (Tr.run_skip 40 _) (Holds.at (K6.c5_1_6_2 a0 a1 a2) (by simp [h2]) (Holds.ofT (K6.r5_1_6 a0 a1 a2))))))
    ·
      have k2 := kM_range (c := a2) (n := 7) (by decide) ha2
      have e2 : kM a2 7 = 0 ∨ kM a2 7 = 1 ∨ kM a2 7 = 2 ∨ kM a2 7 = 3 ∨ kM a2 7 = 4 ∨ kM a2 7 = 5 ∨ kM a2 7 = 6 := by omega
      rcases e2 with h2 | h2 | h2 | h2 | h2 | h2 | h2
      ·
        exact (Holds.at (K22.c5_2_0_0 a0 a1 a2) (by simp [h0]) (Holds.at (K22.c5_2_0_1 a0 a1 a2) (by simp [h1]) (Holds.then (Tr.run_skip 46 _) (Holds.at (K22.c5_2_0_2 a0 a1 a2) (by simp [h2]) (Holds.ofT (K22.r5_2_0 a0 a1 a2))))))
      ·
        exact (Holds.at (K19.c5_2_1_0 a0 a1 a2) (by simp [h0]) (Holds.at (K19.c5_2_1_1 a0 a1 a2) (by simp [h1]) (Holds.then (Tr.run_skip 46 _) (Holds.at (K19.c5_2_1_2 a0 a1 a2) (by simp [h2]) (Holds.ofT (K19.r5_2_1 a0 a1 a2))))))
      ·
        exact (Holds.at (K17.c5_2_2_0 a0 a1 a2) (by simp [h0]) (Holds.at (K17.c5_2_2_1 a0 a1 a2) (by simp [h1]) (Holds.then (Tr.run_skip 46 _) (Holds.at (K17.c5_2_2_2 a0 a1 a2) (by simp [h2]) (Holds.ofT (K17.r5_2_2 a0 a1 a2))))))
      ·
        exact (Holds.at (K14.c5_2_3_0 a0 a1 a2) (by simp [h0]) (Holds.at (K14.c5_2_3_1 a0 a1 a2) (by simp [h1]) (Holds.then (Tr.run_skip 46 _) (Holds.at (K14.c5_2_3_2 a0 a1 a2) (by simp [h2]) (Holds.ofT (K14.r5_2_3 a0 a1 a2))))))
      ·
        exact (Holds.at (K11.c5_2_4_0 a0 a1 a2) (by simp [h0]) (Holds.at (K11.c5_2_4_1 a0 a1 a2) (by simp [h1]) (Holds.then (Tr.run_skip 46 _) (Holds.at (K11.c5_2_4_2 a0 a1 a2) (by simp [h2]) (Holds.ofT (K11.r5_2_4 a0 a1 a2))))))
      ·
        exact (Holds.at (K9.c5_2_5_0 a0 a1 a2) (by simp [h0]) (Holds.at (K9.c5_2_5_1 a0 a1 a2) (by simp [h1]) (Holds.then (Tr.run_skip 46 _) (Holds.at (K9.c5_2_5_2 a0 a1 a2) (by simp [h2]) (Holds.ofT (K9.r5_2_5 a0 a1 a2))))))
      ·
        exact (Holds.at (K6.c5_2_6_0 a0 a1 a2) (by simp [h0]) (Holds.at (K6.c5_2_6_1 a0 a1 a2) (by simp [h1]) (Holds.then (Tr.run_skip 46 _) (Holds.at (K6.c5_2_6_2 a0 a1 a2) (by simp [h2]) (Holds.ofT (K6.r5_2_6 a0 a1 a2))))))
  ·
    have k1 := kM_range (c := a1) (n := 3) (by decide) ha1
    have e1 : kM a1 3 = 0 ∨ kM a1 3 = 1 ∨ kM a1 3 = 2 := by omega
    rcases e1 with h1 | h1 | h1
    ·
      have k2 := kM_range (c := a2) (n := 8) (by decide) ha2
      have e2 : kM a2 8 = 0 ∨ kM a2 8 = 1 ∨ kM a2 8 = 2 ∨ kM a2 8 = 3 ∨ kM a2 8 = 4 ∨ kM a2 8 = 5 ∨ kM a2 8 = 6 ∨ kM a2 8 = 7 := by omega
      rcases e2 with h2 | h2 | h2 | h2 | h2 | h2 | h2 | h2
      ·
        exact (Holds.at (K20.c6_0_0_0 a0 a1 a2) (by simp [h0]) (Holds.at (K20.c6_0_0_1 a0 a1 a2) (by simp [h1]) (Holds.then (Tr.run_skip 39 _) (Holds.at (K20.c6_0_0_2 a0 a1 a2) (by simp [h2]) (Holds.ofT (K20.r6_0_0 a0 a1 a2))))))
      ·
        exact (Holds.at (K17.c6_0_1_0 a0 a1 a2) (by simp [h0]) (Holds.at (K17.c6_0_1_1 a0 a1 a2) (by simp [h1]) (Holds.then (Tr.run_skip 39 _) (Holds.at (K17.c6_0_1_2 a0 a1 a2) (by simp [h2]) (Holds.ofT (K17.r6_0_1 a0 a1 a2))))))
      ·
        exact (Holds.at (K14.c6_0_2_0 a0 a1 a2) (by simp [h0]) (Holds.at (K14.c6_0_2_1 a0 a1 a2) (by simp [h1]) (Holds.then (Tr.run_skip 39 _) (Holds.at (K14.c6_0_2_2 a0 a1 a2) (by simp [h2]) (Holds.ofT (K14.r6_0_2 a0 a1 a2))))))
      ·
        exact (Holds.at (K12.c6_0_3_0 a0 a1 a2) (by simp [h0]) (Holds.at (K12.c6_0_3_1 a0 a1 a2) (by simp [h1]) (Holds.then (Tr.run_skip 39 _) (Holds.at (K12.c6_0_3_2 a0 a1 a2) (by simp [h2]) (Holds.ofT (K12.r6_0_3 a0 a1 a2))))))
      ·
        exact (Holds.at (K9.c6_0_4_0 a0 a1 a2) (by simp [h0]) (Holds.at (K9.c6_0_4_1 a0 a1 a2) (by simp [h1]) (Holds.then (Tr.run_skip 39 _) (Holds.at (K9.c6_0_4_2 a0 a1 a2) (by simp [h2]) (Holds.ofT (K9.r6_0_4 a0 a1 a2))))))
      ·
        exact (Holds.at (K7.c6_0_5_0 a0 a1 a2) (by simp [h0]) (Holds.at (K7.c6_0_5_1 a0 a1 a2) (by simp [h1]) (Holds.then (Tr.run_skip 39 _) (Holds.at (K7.c6_0_5_2 a0 a1 a2) (by simp [h2]) (Holds.ofT (K7.r6_0_5 a0 a1 a2))))))
      ·
        exact (Holds.at (K4.c6_0_6_0 a0 a1 a2) (by simp [h0]) (Holds.at (K4.c6_0_6_1 a0 a1 a2) (by simp [h1]) (Holds.then (Tr.run_skip 39 _) (Holds.at (K4.c6_0_6_2 a0 a1 a2) (by simp [h2]) (Holds.ofT (K4.r6_0_6 a0 a1 a2))))))
      ·
        exact (Holds.at (K2.c6_0_7_0 a0 a1 a2) (by simp [h0]) (Holds.at (K2.c6_0_7_1 a0 a1 a2) (by simp [h1]) (Holds.then (Tr.run_skip 39 _) (Holds.at (K2.c6_0_7_2 a0 a1 a2) (by simp [h2]) (Holds.ofT (K2.r6_0_7 a0 a1 a2))))))
    ·
      have k2 := kM_range (c := a2) (n := 8) (by decide) ha2
      have e2 : kM a2 8 = 0 ∨ kM a2 8 = 1 ∨ kM a2 8 = 2 ∨ kM a2 8 = 3 ∨ kM a2 8 = 4 ∨ kM a2 8 = 5 ∨ kM a2 8 = 6 ∨ kM a2 8 = 7 := by omega
      rcases e2 with h2 | h2 | h2 | h2 | h2 | h2 | h2 | h2
      ·
        exact (Holds.at (K20.c6_1_0_0 a0 a1 a2) (by simp [h0]) (Holds.at (K20.c6_1_0_1 a0 a1 a2) (by simp [h1]) (Holds.then (Tr.run_skip 46 _) (Holds.at (K20.c6_1_0_2 a0 a1 a2) (by simp [h2]) (Holds.ofT (K20.r6_1_0 a0 a1 a2))))))
      ·
        exact (Holds.at (K18.c6_1_1_0 a0 a1 a2) (by simp [h0]) (Holds.at (K18.c6_1_1_1 a0 a1 a2) (by simp [h1]) (Holds.then (Tr.run_skip 46 _) (Holds.at (K18.c6_1_1_2 a0 a1 a2) (by simp [h2]) (Holds.ofT (K18.r6_1_1 a0 a1 a2))))))
      ·
        exact (Holds.at (K15.c6_1_2_0 a0 a1 a2) (by simp [h0]) (Holds.at (K15.c6_1_2_1 a0 a1 a2) (by simp [h1]) (Holds.then (Tr.run_skip 46 _) (Holds.at (K15.c6_1_2_2 a0 a1 a2) (by simp [h2]) (Holds.ofT (K15.r6_1_2 a0 a1 a2))))))
      ·
        exact (Holds.at (K12.c6_1_3_0 a0 a1 a2) (by simp [h0]) (Holds.at (K12.c6_1_3_1 a0 a1 a2) (by simp [h1]) (Holds.then (Tr.run_skip 46 _) (Holds.at (K12.c6_1_3_2 a0 a1 a2) (by simp [h2]) (Holds.ofT (K12.r6_1_3 a0 a1 a2))))))
      ·
        exact (Holds.at (K10.c6_1_4_0 a0 a1 a2) (by simp [h0]) (Holds.at (K10.c6_1_4_1 a0 a1 a2) (by simp [h1]) (Holds.then (Tr.run_skip 46 _) (Holds.at (K10.c6_1_4_2 a0 a1 a2) (by simp [h2]) (Holds.ofT (K10.r6_1_4 a0 a1 a2))))))
      ·
        exact (Holds.at (K7.c6_1_5_0 a0 a1 a2) (by simp [h0]) (Holds.at (K7.c6_1_5_1 a0 a1 a2) (by simp [h1]) (Holds.then (Tr.run_skip 46 _) (Holds.at (K7.c6_1_5_2 a0 a1 a2) (by simp [h2]) (Holds.ofT (K7.r6_1_5 a0 a1 a2))))))
      ·
        exact (Holds.at (K4.c6_1_6_0 a0 a1 a2) (by simp [h0]) (Holds.at (K4.c6_1_6_1 a0 a1 a2) (by simp [h1]) (Holds.then (Tr.run_skip 46 _) (Holds.at (K4.c6_1_6_2 a0 a1 a2) (by simp [h2]) (Holds.ofT (K4.r6_1_6 a0 a1 a2))))))
      ·
        exact (Holds.at (K2.c6_1_7_0 a0 a1 a2) (by simp [h0]) (Holds.at (K2.c6_1_7_1 a0 a1 a2) (by simp [h1]) (Holds.then (Tr.run_skip 46 _) (Holds.at (K2.c6_1_7_2 a0 a1 a2) (by simp [h2]) (Holds.ofT (K2.r6_1_7 a0 a1 a2))))))
    ·
      have k2 := kM_range (c := a2) (n := 8) (by decide) ha2
      have e2 : kM a2 8 = 0 ∨ kM a2 8 = 1 ∨ kM a2 8 = 2 ∨ kM a2 8 = 3 ∨ kM a2 8 = 4 ∨ kM a2 8 = 5 ∨ kM a2 8 = 6 ∨ kM a2 8 = 7 := by omega
      rcases e2 with h2 | h2 | h2 | h2 | h2 | h2 | h2 | h2
      ·
        exact (Holds.at (K20.c6_2_0_0 a0 a1 a2) (by simp [h0]) (Holds.at (K20.c6_2_0_1 a0 a1 a2) (by simp [h1]) (Holds.then (Tr.run_skip 53 _) (Holds.at (K20.c6_2_0_2 a0 a1 a2) (by simp [h2]) (Holds.ofT (K20.r6_2_0 a0 a1 a2))))))
      ·
        exact (Holds.at (K18.c6_2_1_0 a0 a1 a2) (by simp [h0]) (Holds.at (K18.c6_2_1_1 a0 a1 a2) (by simp [h1]) (Holds.then (Tr.run_skip 53 _) (Holds.at (K18.c6_2_1_2 a0 a1 a2) (by simp [h2]) (Holds.ofT (K18.r6_2_1 a0 a1 a2))))))
      ·
        exact (Holds.at (K15.c6_2_2_0 a0 a1 a2) (by simp [h0]) (Holds.at (K15.c6_2_2_1 a0 a1 a2) (by simp [h1]) (Holds.then (Tr.run_skip 53 _) (Holds.at (K15.c6_2_2_2 a0 a1 a2) (by simp [h2]) (Holds.ofT (K15.r6_2_2 a0 a1 a2))))))
      ·
        exact (Holds.at (K12.c6_2_3_0 a0 a1 a2) (by simp [h0]) (Holds.at (K12.c6_2_3_1 a0 a1 a2) (by simp [h1]) (Holds.then (Tr.run_skip 53 _) (Holds.at (K12.c6_2_3_2 a0 a1 a2) (by simp [h2]) (Holds.ofT (K12.r6_2_3 a0 a1 a2))))))
      ·
        exact (Holds.at (K10.c6_2_4_0 a0 a1 a2) (by simp [h0]) (Holds.at (K10.c6_2_4_1 a0 a1 a2) (by simp [h1]) (Holds.then (Tr.run_skip 53 _) (Holds.at (K10.c6_2_4_2 a0 a1 a2) (by simp [h2]) (Holds.ofT (K10.r6_2_4 a0 a1 a2))))))
      ·
        exact (Holds.at (K7.c6_2_5_0 a0 a1 a2) (by simp [h0]) (Holds.at (K7.c6_2_5_1 a0 a1 a2) (by simp [h1]) (Holds.then (Tr.run_skip 53 _) (Holds.at (K7.c6_2_5_2 a0 a1 a2) (by simp [h2]) (Holds.ofT (K7.r6_2_5 a0 a1 a2))))))
      ·
        exact (Holds.at (K4.c6_2_6_0 a0 a1 a2) (by simp [h0]) (Holds.at (K4.c6_2_6_1 a0 a1 a2) (by simp [h1]) (Holds.then (Tr.run_skip 53 _) (Holds.at (K4.c6_2_6_2 a0 a1 a2) (by simp [h2]) (Holds.ofT (K4.r6_2_6 a0 a1 a2))))))
      ·
        exact (Holds.at (K2.c6_2_7_0 a0 a1 a2) (by simp [h0]) (Holds.at (K2.c6_2_7_1 a0 a1 a2) (by simp [h1]) (Holds.then (Tr.run_skip 53 _) (Holds.at (K2.c6_2_7_2 a0 a1 a2) (by simp [h2]) (Holds.ofT (K2.r6_2_7 a0 a1 a2))))))
  ·
    have k1 := kM_range (c := a1) (n := 3) (by decide) ha1
    have e1 : kM a1 3 = 0 ∨ kM a1 3 = 1 ∨ kM a1 3 = 2 := by omega
    rcases e1 with h1 | h1 | h1
    ·
      have k2 := kM_range (c := a2) (n := 9) (by decide) ha2
      have e2 : kM a2 9 = 0 ∨ kM a2 9 = 1 ∨ kM a2 9 = 2 ∨ kM a2 9 = 3 ∨ kM a2 9 = 4 ∨ kM a2 9 = 5 ∨ kM a2 9 = 6 ∨ kM a2 9 = 7 ∨ kM a2 9 = 8 := by omega
      rcases e2 with h2 | h2 | h2 | h2 | h2 | h2 | h2 | h2 | h2
      ·
        exact (Holds.at (K18.c7_0_0_0 a0 a1 a2) (by simp [h0]) (Holds.at (K18.c7_0_0_1 a0 a1 a2) (by simp [h1]) (Holds.then (Tr.run_skip 44 _) (Holds.at (K18.c7_0_0_2 a0 a1 a2) (by simp [h2]) (Holds.ofT (K18.r7_0_0 a0 a1 a2))))))
      ·
        exact (Holds.at (K15.c7_0_1_0 a0 a1 a2) (by simp [h0]) (Holds.at (K15.c7_0_1_1 a0 a1 a2) (by simp [h1]) (Holds.then (Tr.run_skip 44 _) (Holds.at (K15.c7_0_1_2 a0 a1 a2) (by simp [h2]) (Holds.ofT (K15.r7_0_1 a0 a1 a2))))))
      ·
        exact (Holds.at (K12.c7_0_2_0 a0 a1 a2) (by simp [h0]) (Holds.at (K12.c7_0_2_1 a0 a1 a2) (by simp [h1]) (Holds.then (Tr.run_skip 44 _) (Holds.at (K12.c7_0_2_2 a0 a1 a2) (by simp [h2]) (Holds.ofT (K12.r7_0_2 a0 a1 a2))))))
      ·
        exact (Holds.at (K10.c7_0_3_0 a0 a1 a2) (by simp [h0]) (Holds.at (K10.c7_0_3_1 a0 a1 a2) (by simp [h1]) (Holds.then (Tr.run_skip 44 _) (Holds.at (K10.c7_0_3_2 a0 a1 a2) (by simp [h2]) (Holds.ofT (K10.r7_0_3 a0 a1 a2))))))
      ·
        exact (Holds.at (K8.c7_0_4_0 a0 a1 a2) (by simp [h0]) (Holds.at (K8.c7_0_4_1 a0 a1 a2) (by simp [h1]) (Holds.then (Tr.run_skip 44 _) (Holds.at (K8.c7_0_4_2 a0 a1 a2) (by simp [h2]) (Holds.ofT (K8.r7_0_4 a0 a1 a2))))))
      ·
        exact (Holds.at (K5.c7_0_5_0 a0 a1 a2) (by simp [h0]) (Holds.at (K5.c7_0_5_1 a0 a1 a2) (by simp [h1]) (Holds.then (Tr.run_skip 44 _) (Holds.at (K5.c7_0_5_2 a0 a1 a2) (by simp [h2]) (Holds.ofT (K5.r7_0_5 a0 a1 a2))))))
      ·
        exact (Holds.at (K3.c7_0_6_0 a0 a1 a2) (by simp [h0]) (Holds.at (K3.c7_0_6_1 a0 a1 a2) (by simp [h1]) (Holds.then (Tr.run_skip 44 _) (Holds.at (K3.c7_0_6_2 a0 a1 a2) (by simp [h2]) (Holds.ofT (K3.r7_0_6 a0 a1 a2))))))
      ·
        exact (Holds.at (K1.c7_0_7_0 a0 a1 a2) (by simp [h0]) (Holds.at (K1.c7_0_7_1 a0 a1 a2) (by simp [h1]) (Holds.then (Tr.run_skip 44 _) (Holds.at (K1.c7_0_7_2 a0 a1 a2) (by simp [h2]) (Holds.ofT (K1.r7_0_7 a0 a1 a2))))))
      ·
        exact (Holds.at (K0.c7_0_8_0 a0 a1 a2) (by simp [h0]) (Holds.at (K0.c7_0_8_1 a0 a1 a2) (by simp [h1]) (Holds.then (Tr.run_skip 44 _) (Holds.at (K0.c7_0_8_2 a0 a1 a2) (by simp [h2]) (Holds.ofT (K0.r7_0_8 a0 a1 a2))))))
    ·
      have k2 := kM_range (c := a2) (n := 9) (by decide) ha2
      have e2 : kM a2 9 = 0 ∨ kM a2 9 = 1 ∨ kM a2 9 = 2 ∨ kM a2 9 = 3 ∨ kM a2 9 = 4 ∨ kM a2 9 = 5 ∨ kM a2 9 = 6 ∨ kM a2 9 = 7 ∨ kM a2 9 = 8 := by omega
      rcases e2 with h2 | h2 | h2 | h2 | h2 | h2 | h2 | h2 | h2
      ·
        exact (Holds.at (K18.c7_1_0_0 a0 a1 a2) (by simp [h0]) (Holds.at (K18.c7_1_0_1 a0 a1 a2) (by simp [h1]) (Holds.then (Tr.run_skip 52 _) (Holds.at (K18.c7_1_0_2 a0 a1 a2) (by simp [h2]) (Holds.ofT (K18.r7_1_0 a0 a1 a2))))))
      ·
        exact (Holds.at (K15.c7_1_1_0 a0 a1 a2) (by simp [h0]) (Holds.at (K15.c7_1_1_1 a0 a1 a2) (by simp [h1]) (Holds.then (Tr.run_skip 52 _) (Holds.at (K15.c7_1_1_2 a0 a1 a2) (by simp [h2]) (Holds.ofT (K15.r7_1_1 a0 a1 a2))))))
      ·
        exact (Holds.at (K13.c7_1_2_0 a0 a1 a2) (by simp [h0]) (Holds.at (K13.c7_1_2_1 a0 a1 a2) (by simp [h1]) (Holds.then (Tr.run_skip 52 _) (Holds.at (K13.c7_1_2_2 a0 a1 a2) (by simp [h2]) (Holds.ofT (K13.r7_1_2 a0 a1 a2))))))
      ·
        exact (Holds.at (K10.c7_1_3_0 a0 a1 a2) (by simp [h0]) (Holds.at (K10.c7_1_3_1 a0 a1 a2) (by simp [h1]) (Holds.then (Tr.run_skip 52 _) (Holds.at (K10.c7_1_3_2 a0 a1 a2) (by simp [h2]) (Holds.ofT (K10.r7_1_3 a0 a1 a2))))))
      ·
        exact (Holds.at (K8.c7_1_4_0 a0 a1 a2) (by simp [h0]) (Holds.at (K8.c7_1_4_1 a0 a1 a2) (by simp [h1]) (Holds.then (Tr.run_skip 52 _) (Holds.at (K8.c7_1_4_2 a0 a1 a2) (by simp [h2]) (Holds.ofT (K8.r7_1_4 a0 a1 a2))))))
      ·
        exact (Holds.at (K5.c7_1_5_0 a0 a1 a2) (by simp [h0]) (Holds.at (K5.c7_1_5_1 a0 a1 a2) (by simp [h1]) (Holds.then (Tr.run_skip 52 _) (Holds.at (K5.c7_1_5_2 a0 a1 a2) (by simp [h2]) (Holds.ofT (K5.r7_1_5 a0 a1 a2))))))
      ·
        exact (Holds.at (K3.c7_1_6_0 a0 a1 a2) (by simp [h0]) (Holds.at (K3.c7_1_6_1 a0 a1 a2) (by simp [h1]) (Holds.then (Tr.run_skip 52 _) (Holds.at (K3.c7_1_6_2 a0 a1 a2) (by simp [h2]) (Holds.ofT (K3.r7_1_6 a0 a1 a2))))))
      ·
        exact (Holds.at (K1.c7_1_7_0 a0 a1 a2) (by simp [h0]) (Holds.at (K1.c7_1_7_1 a0 a1 a2) (by simp [h1]) (Holds.then (Tr.run_skip 52 _) (Holds.at (K1.c7_1_7_2 a0 a1 a2) (by simp [h2]) (Holds.ofT (K1.r7_1_7 a0 a1 a2))))))
      ·
        exact (Holds.at (K0.c7_1_8_0 a0 a1 a2) (by simp [h0]) (Holds.at (K0.c7_1_8_1 a0 a1 a2) (by simp [h1]) (Holds.then (Tr.run_skip 52 _) (Holds.at (K0.c7_1_8_2 a0 a1 a2) (by simp [h2]) (Holds.ofT (K0.r7_1_8 a0 a1 a2))))))
    ·
      have k2 := kM_range (c := a2) (n := 9) (by decide) ha2
      have e2 : kM a2 9 = 0 ∨ kM a2 9 = 1 ∨ kM a2 9 = 2 ∨ kM a2 9 = 3 ∨ kM a2 9 = 4 ∨ kM a2 9 = 5 ∨ kM a2 9 = 6 ∨ kM a2 9 = 7 ∨ kM a2 9 = 8 := by omega
      rcases e2 with h2 | h2 | h2 | h2 | h2 | h2 | h2 | h2 | h2
      ·
        exact (Holds.at (K18.c7_2_0_0 a0 a1 a2) (by simp [h0]) (Holds.at (K18.c7_2_0_1 a0 a1 a2) (by simp [h1]) (Holds.then (Tr.run_skip 60 _) (Holds.at (K18.c7_2_0_2 a0 a1 a2) (by simp [h2]) (Holds.ofT (K18.r7_2_0 a0 a1 a2))))))
      ·
        exact (Holds.at (K15.c7_2_1_0 a0 a1 a2) (by simp [h0]) (Holds.at (K15.c7_2_1_1 a0 a1 a2) (by simp [h1]) (Holds.then (Tr.run_skip 60 _) (Holds.at (K15.c7_2_1_2 a0 a1 a2) (by simp [h2]) (Holds.ofT (K15.r7_2_1 a0 a1 a2))))))
      ·
        exact (Holds.at (K13.c7_2_2_0 a0 a1 a2) (by simp [h0]) (Holds.at (K13.c7_2_2_1 a0 a1 a2) (by simp [h1]) (Holds.then (Tr.run_skip 60 _) (Holds.at (K13.c7_2_2_2 a0 a1 a2) (by simp [h2]) (Holds.ofT (K13.r7_2_2 a0 a1 a2))))))
      ·
        exact (Holds.at (K11.c7_2_3_0 a0 a1 a2) (by simp [h0]) (Holds.at (K11.c7_2_3_1 a0 a1 a2) (by simp [h1]) (Holds.then (Tr.run_skip 60 _) (Holds.at (K11.c7_2_3_2 a0 a1 a2) (by simp [h2]) (Holds.ofT (K11.r7_2_3 a0 a1 a2))))))
      ·
        exact (Holds.at (K8.c7_2_4_0 a0 a1 a2) (by simp [h0]) (Holds.at (K8.c7_2_4_1 a0 a1 a2) (by simp [h1]) (Holds.then (Tr.run_skip 60 _) (Holds.at (K8.c7_2_4_2 a0 a1 a2) (by simp [h2]) (Holds.ofT (K8.r7_2_4 a0 a1 a2))))))
      ·
        exact (Holds.at (K5.c7_2_5_0 a0 a1 a2) (by simp [h0]) (Holds.at (K5.c7_2_5_1 a0 a1 a2) (by simp [h1]) (Holds.then (Tr.run_skip 60 _) (Holds.at (K5.c7_2_5_2 a0 a1 a2) (by simp [h2]) (Holds.ofT (K5.r7_2_5 a0 a1 a2))))))
      ·
        exact (Holds.at (K3.c7_2_6_0 a0 a1 a2) (by simp [h0]) (Holds.at (K3.c7_2_6_1 a0 a1 a2) (by simp [h1]) (Holds.then (Tr.run_skip 60 _) (Holds.at (K3.c7_2_6_2 a0 a1 a2) (by simp [h2]) (Holds.ofT (K3.r7_2_6 a0 a1 a2))))))
      ·
        exact (Holds.at (K1.c7_2_7_0 a0 a1 a2) (by simp [h0]) (Holds.at (K1.c7_2_7_1 a0 a1 a2) (by simp [h1]) (Holds.then (Tr.run_skip 60 _) (Holds.at (K1.c7_2_7_2 a0 a1 a2) (by simp [h2]) (Holds.ofT (K1.r7_2_7 a0 a1 a2))))))
      ·
        exact (Holds.at (K0.c7_2_8_0 a0 a1 a2) (by simp [h0]) (Holds.at (K0.c7_2_8_1 a0 a1 a2) (by simp [h1]) (Holds.then (Tr.run_skip 60 _) (Holds.at (K0.c7_2_8_2 a0 a1 a2) (by simp [h2]) (Holds.ofT (K0.r7_2_8 a0 a1 a2))))))
abbrev ts : List TypeId := [3, 3, 3]
theorem hts : Try.f4.params.toList = ts := by kernel_rfl
theorem args (a0 a1 a2 : Int) : mkArgs Try.prog ts [[.int .i64], [.int .i64], [.int .i64]] [[a0], [a1], [a2]] = [.v (ii a0), .v (ii a1), .v (ii a2)] := by kernel_rfl
theorem shapes : shapesK Try.prog ts [[.int .i64], [.int .i64], [.int .i64]] := ⟨by kernel_rfl, by kernel_rfl, by kernel_rfl, trivial⟩
theorem core (w : World) (vals : List Value) (ha : F2 (ArgOK Try.prog w) ts vals) :
    Calls Try.prog 4 vals.toArray w fun e W' => ∃ v, e = .returned v ∧ v = .bool true ∧ Below w.heap.size w W' :=
  core_plain (S := MS) progOK (lookH_ok Go.Proofs.Ytmhfaaccoojbjaa.Taken.tabL_ok) 100 20 [[.int .i64], [.int .i64], [.int .i64]] shapes
    (fun nss hf => by
      match nss, hf with
      | [[a0], [a1], [a2]], hf =>
        exact (args a0 a1 a2).symm ▸ law a0 a1 a2 hf.1.1 hf.2.1.1 hf.2.2.1.1) w vals ha
theorem own : ownKnob Try.prog.godebug = none := by kernel_rfl
theorem lifted {H : Type} (os : Os) (started : os.Started) (enc : TypeId × Value → H) : ReturnsInHanded {} Try.checked os 4 .any (Rows.carveBackSpec.pre6 enc Try.prog Try.f4 Rows.carveBackRow.domain false) (Rows.carveBackSpec.post enc Try.prog Try.f4 false true false false) :=
  law_lifted own started (by kernel_rfl) (by kernel_rfl)
    (ChangeSpec.witness6 (enc := enc) (C := Try.checked) false ⟨#[], #[.int .i64 0, .int .i64 0, .int .i64 0], []⟩ 8 (by kernel_rfl) (by kernel_rfl) (by kernel_rfl) (by kernel_rfl))
    (tb := 4) (by kernel_rfl) (by kernel_rfl) rfl
    (fun ds hd => by
      match ds, hd with
      | [_, _, _], _ => exact ⟨rfl, rfl, rfl⟩)
    (by kernel_rfl) (by kernel_rfl) (fun W vals ha => core W vals (hts ▸ ha))
theorem proved : Rows.CarveBackSaid :=
  OpenClaim.holds_of_wide 4 Try.f4 rfl rfl rfl rfl rfl rfl rfl ⟨rfl, rfl, rfl, rfl, rfl⟩ rfl rfl rfl rfl rfl (by kernel_rfl) Try.func4 (by kernel_rfl) (of_decide_eq_true (by kernel_rfl))
    (by unfold Func.isWrapper; first | (rw [if_pos (by decide +kernel)]; kernel_rfl) | (rw [if_neg (by decide +kernel)]; exact ⟨rfl, rfl⟩))
    (fun os started H enc _ => lifted os started enc)
end Go.Proofs.Ytmhfaaccoojbjaa.CarveBack
