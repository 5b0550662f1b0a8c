/-
  ListPlays: Pops and Pushes of four workers do what the document says, step by step: both memories hold the same words, and each worker is at the same step in both.
-/
import Derived.Test.YtnlfphlmlklofaaRows
import Derived.Test.YtnlfphlmlklofaaWListPlays0
import Derived.Test.YtnlfphlmlklofaaWListPlays1
import Derived.Test.YtnlfphlmlklofaaWListPlays2
import Derived.Test.YtnlfphlmlklofaaWListPlays3
import Derived.Test.YtnlfphlmlklofaaTListPlaysR
import Derived.Test.YtnlfphlmlklofaaTListPlaysA
namespace Go.Proofs.Ytnlfphlmlklofaa.ListPlays
open Go Go.RowKit Go.Proofs.Ytnlfphlmlklofaa.Eng
set_option linter.unusedVariables false
set_option linter.unusedSimpArgs false
set_option linter.unusedSectionVars false
set_option maxRecDepth 20000
set_option maxHeartbeats 1000000
section
variable {n0 i c c2 t : Int} {np : Nat} {ps : List (List Int)} {ws : List Int} {js : Nat → SV} {E : Ctx MObj} (hE : E.nid0 = 1) (hT : E.top = 40) (hD : ∀ b, 1 ≤ b → E.D b) (hw : ws.length = 160) (hc : 0 ≤ c ∧ c ≤ 1000000) (hc2 : 0 ≤ c2 ∧ c2 ≤ 1000000)
include hE hT hD hw hc hc2
theorem step0 (K : Nat) (s0 s1 s2 s3 : WS) (hk : ok4 K s0 s1 s2 s3) (hK6 : K ≤ 1000000) : TriX MS (listX Try.prog four) E ⟨pre n0 np false i ++ [.v (.int .i64 (.lit 0))] ++ junk js 58 11, base ps ws c c2 t (.abs (.grp (WG s0 s1 s2 s3))), 4, []⟩ (Mid n0 np i ps ws c c2 K) := by
  have ho : okO K s1 s2 s3 := ⟨hk.2.1, hk.2.2.1, hk.2.2.2⟩
  have hm : s0.ok K := hk.1
  clear hk
  cases s0 with
  | idle h vp vq =>
    exact w0ip hE hT hD hw hc hc2 K vp vq h s1 s2 s3 hm ho hK6
  | pop j w l h vq =>
    refine TriX.preWk (pre' := pre n0 np false i ++ [.v (.int .i64 (.sym 0))]) (hp' := base ps ws c c2 t (.abs (.grp (WG _ _ _ _)))) (by (repeat' apply And.intro) <;> first | rfl | trivial) (by (repeat' apply And.intro) <;> first | rfl | trivial) ?_
    obtain ⟨rfl | rfl | rfl, hm⟩ := hm
    · exact w0p1 hE hT hD hw hc hc2 K w l vq 0 h s1 s2 s3 rfl hm ho hK6
    · exact w0p2 hE hT hD hw hc hc2 K w l vq 0 h s1 s2 s3 rfl hm ho hK6
    · cases h with
      | nil => exact w0p3n hE hT hD hw hc hc2 K w l vq 0 s1 s2 s3 rfl ho hK6
      | es => exact w0p3e hE hT hD hw hc hc2 K w l vq 0 s1 s2 s3 rfl ho hK6
      | tab rows => exact w0p3t hE hT hD hw hc hc2 K w l vq rows 0 s1 s2 s3 rfl ⟨hm.1, Nat.le_trans hm.2 hK6⟩ hm.2 ho hK6
  | push j a w h vp =>
    refine TriX.preWk (pre' := pre n0 np false i ++ [.v (.int .i64 (.sym 0))]) (hp' := base ps ws c c2 t (.abs (.grp (WG _ _ _ _)))) (by (repeat' apply And.intro) <;> first | rfl | trivial) (by (repeat' apply And.intro) <;> first | rfl | trivial) ?_
    obtain ⟨rfl | rfl | rfl, hm⟩ := hm
    · exact w0u1 hE hT hD hw hc hc2 K a w vp 0 h s1 s2 s3 rfl hm ho hK6
    · exact w0u2 hE hT hD hw hc hc2 K a w vp 0 h s1 s2 s3 rfl hm ho hK6
    · exact w0u3 hE hT hD hw hc hc2 K a w vp 0 h s1 s2 s3 rfl hm ho hK6
theorem step1 (K : Nat) (s0 s1 s2 s3 : WS) (hk : ok4 K s0 s1 s2 s3) (hK6 : K ≤ 1000000) : TriX MS (listX Try.prog four) E ⟨pre n0 np false i ++ [.v (.int .i64 (.lit 1))] ++ junk js 58 11, base ps ws c c2 t (.abs (.grp (WG s0 s1 s2 s3))), 4, []⟩ (Mid n0 np i ps ws c c2 K) := by
  have ho : okO K s0 s2 s3 := ⟨hk.1, hk.2.2.1, hk.2.2.2⟩
  have hm : s1.ok K := hk.2.1
  clear hk
  cases s1 with
  | idle h vp vq =>
    exact w1ip hE hT hD hw hc hc2 K vp vq h s0 s2 s3 hm ho hK6
  | pop j w l h vq =>
    refine TriX.preWk (pre' := pre n0 np false i ++ [.v (.int .i64 (.sym 1))]) (hp' := base ps ws c c2 t (.abs (.grp (WG _ _ _ _)))) (by (repeat' apply And.intro) <;> first | rfl | trivial) (by (repeat' apply And.intro) <;> first | rfl | trivial) ?_
    obtain ⟨rfl | rfl | rfl, hm⟩ := hm
    · exact w1p1 hE hT hD hw hc hc2 K w l vq 1 h s0 s2 s3 rfl hm ho hK6
    · exact w1p2 hE hT hD hw hc hc2 K w l vq 1 h s0 s2 s3 rfl hm ho hK6
    · cases h with
      | nil => exact w1p3n hE hT hD hw hc hc2 K w l vq 1 s0 s2 s3 rfl ho hK6
      | es => exact w1p3e hE hT hD hw hc hc2 K w l vq 1 s0 s2 s3 rfl ho hK6
      | tab rows => exact w1p3t hE hT hD hw hc hc2 K w l vq rows 1 s0 s2 s3 rfl ⟨hm.1, Nat.le_trans hm.2 hK6⟩ hm.2 ho hK6
  | push j a w h vp =>
    refine TriX.preWk (pre' := pre n0 np false i ++ [.v (.int .i64 (.sym 1))]) (hp' := base ps ws c c2 t (.abs (.grp (WG _ _ _ _)))) (by (repeat' apply And.intro) <;> first | rfl | trivial) (by (repeat' apply And.intro) <;> first | rfl | trivial) ?_
    obtain ⟨rfl | rfl | rfl, hm⟩ := hm
    · exact w1u1 hE hT hD hw hc hc2 K a w vp 1 h s0 s2 s3 rfl hm ho hK6
    · exact w1u2 hE hT hD hw hc hc2 K a w vp 1 h s0 s2 s3 rfl hm ho hK6
    · exact w1u3 hE hT hD hw hc hc2 K a w vp 1 h s0 s2 s3 rfl hm ho hK6
theorem step2 (K : Nat) (s0 s1 s2 s3 : WS) (hk : ok4 K s0 s1 s2 s3) (hK6 : K ≤ 1000000) : TriX MS (listX Try.prog four) E ⟨pre n0 np false i ++ [.v (.int .i64 (.lit 2))] ++ junk js 58 11, base ps ws c c2 t (.abs (.grp (WG s0 s1 s2 s3))), 4, []⟩ (Mid n0 np i ps ws c c2 K) := by
  have ho : okO K s0 s1 s3 := ⟨hk.1, hk.2.1, hk.2.2.2⟩
  have hm : s2.ok K := hk.2.2.1
  clear hk
  cases s2 with
  | idle h vp vq =>
    exact w2ip hE hT hD hw hc hc2 K vp vq h s0 s1 s3 hm ho hK6
  | pop j w l h vq =>
    refine TriX.preWk (pre' := pre n0 np false i ++ [.v (.int .i64 (.sym 2))]) (hp' := base ps ws c c2 t (.abs (.grp (WG _ _ _ _)))) (by (repeat' apply And.intro) <;> first | rfl | trivial) (by (repeat' apply And.intro) <;> first | rfl | trivial) ?_
    obtain ⟨rfl | rfl | rfl, hm⟩ := hm
    · exact w2p1 hE hT hD hw hc hc2 K w l vq 2 h s0 s1 s3 rfl hm ho hK6
    · exact w2p2 hE hT hD hw hc hc2 K w l vq 2 h s0 s1 s3 rfl hm ho hK6
    · cases h with
      | nil => exact w2p3n hE hT hD hw hc hc2 K w l vq 2 s0 s1 s3 rfl ho hK6
      | es => exact w2p3e hE hT hD hw hc hc2 K w l vq 2 s0 s1 s3 rfl ho hK6
      | tab rows => exact w2p3t hE hT hD hw hc hc2 K w l vq rows 2 s0 s1 s3 rfl ⟨hm.1, Nat.le_trans hm.2 hK6⟩ hm.2 ho hK6
  | push j a w h vp =>
    refine TriX.preWk (pre' := pre n0 np false i ++ [.v (.int .i64 (.sym 2))]) (hp' := base ps ws c c2 t (.abs (.grp (WG _ _ _ _)))) (by (repeat' apply And.intro) <;> first | rfl | trivial) (by (repeat' apply And.intro) <;> first | rfl | trivial) ?_
    obtain ⟨rfl | rfl | rfl, hm⟩ := hm
    · exact w2u1 hE hT hD hw hc hc2 K a w vp 2 h s0 s1 s3 rfl hm ho hK6
    · exact w2u2 hE hT hD hw hc hc2 K a w vp 2 h s0 s1 s3 rfl hm ho hK6
    · exact w2u3 hE hT hD hw hc hc2 K a w vp 2 h s0 s1 s3 rfl hm ho hK6
theorem step3 (K : Nat) (s0 s1 s2 s3 : WS) (hk : ok4 K s0 s1 s2 s3) (hK6 : K ≤ 1000000) : TriX MS (listX Try.prog four) E ⟨pre n0 np false i ++ [.v (.int .i64 (.lit 3))] ++ junk js 58 11, base ps ws c c2 t (.abs (.grp (WG s0 s1 s2 s3))), 4, []⟩ (Mid n0 np i ps ws c c2 K) := by
  have ho : okO K s0 s1 s2 := ⟨hk.1, hk.2.1, hk.2.2.1⟩
  have hm : s3.ok K := hk.2.2.2
  clear hk
  cases s3 with
  | idle h vp vq =>
    exact w3ip hE hT hD hw hc hc2 K vp vq h s0 s1 s2 hm ho hK6
  | pop j w l h vq =>
    refine TriX.preWk (pre' := pre n0 np false i ++ [.v (.int .i64 (.sym 3))]) (hp' := base ps ws c c2 t (.abs (.grp (WG _ _ _ _)))) (by (repeat' apply And.intro) <;> first | rfl | trivial) (by (repeat' apply And.intro) <;> first | rfl | trivial) ?_
    obtain ⟨rfl | rfl | rfl, hm⟩ := hm
    · exact w3p1 hE hT hD hw hc hc2 K w l vq 3 h s0 s1 s2 rfl hm ho hK6
    · exact w3p2 hE hT hD hw hc hc2 K w l vq 3 h s0 s1 s2 rfl hm ho hK6
    · cases h with
      | nil => exact w3p3n hE hT hD hw hc hc2 K w l vq 3 s0 s1 s2 rfl ho hK6
      | es => exact w3p3e hE hT hD hw hc hc2 K w l vq 3 s0 s1 s2 rfl ho hK6
      | tab rows => exact w3p3t hE hT hD hw hc hc2 K w l vq rows 3 s0 s1 s2 rfl ⟨hm.1, Nat.le_trans hm.2 hK6⟩ hm.2 ho hK6
  | push j a w h vp =>
    refine TriX.preWk (pre' := pre n0 np false i ++ [.v (.int .i64 (.sym 3))]) (hp' := base ps ws c c2 t (.abs (.grp (WG _ _ _ _)))) (by (repeat' apply And.intro) <;> first | rfl | trivial) (by (repeat' apply And.intro) <;> first | rfl | trivial) ?_
    obtain ⟨rfl | rfl | rfl, hm⟩ := hm
    · exact w3u1 hE hT hD hw hc hc2 K a w vp 3 h s0 s1 s2 rfl hm ho hK6
    · exact w3u2 hE hT hD hw hc hc2 K a w vp 3 h s0 s1 s2 rfl hm ho hK6
    · exact w3u3 hE hT hD hw hc hc2 K a w vp 3 h s0 s1 s2 rfl hm ho hK6
theorem step4 (K : Nat) (s0 s1 s2 s3 : WS) (hk : ok4 K s0 s1 s2 s3) (hK6 : K ≤ 1000000) : TriX MS (listX Try.prog four) E ⟨pre n0 np false i ++ [.v (.int .i64 (.lit 4))] ++ junk js 58 11, base ps ws c c2 t (.abs (.grp (WG s0 s1 s2 s3))), 4, []⟩ (Mid n0 np i ps ws c c2 K) := by
  have ho : okO K s1 s2 s3 := ⟨hk.2.1, hk.2.2.1, hk.2.2.2⟩
  have hm : s0.ok K := hk.1
  clear hk
  cases s0 with
  | idle h vp vq =>
    cases h with
    | nil => exact w0in hE hT hD hw hc hc2 K vp vq s1 s2 s3 ho hK6
    | es => exact w0ie hE hT hD hw hc hc2 K vp vq s1 s2 s3 ho hK6
    | tab rows => exact w0it hE hT hD hw hc hc2 K vp vq rows s1 s2 s3 ⟨hm.1, Nat.le_trans hm.2 hK6⟩ hm.2 ho hK6
  | pop j w l h vq =>
    refine TriX.preWk (pre' := pre n0 np false i ++ [.v (.int .i64 (.sym 4))]) (hp' := base ps ws c c2 t (.abs (.grp (WG _ _ _ _)))) (by (repeat' apply And.intro) <;> first | rfl | trivial) (by (repeat' apply And.intro) <;> first | rfl | trivial) ?_
    obtain ⟨rfl | rfl | rfl, hm⟩ := hm
    · exact w0p1 hE hT hD hw hc hc2 K w l vq 4 h s1 s2 s3 rfl hm ho hK6
    · exact w0p2 hE hT hD hw hc hc2 K w l vq 4 h s1 s2 s3 rfl hm ho hK6
    · cases h with
      | nil => exact w0p3n hE hT hD hw hc hc2 K w l vq 4 s1 s2 s3 rfl ho hK6
      | es => exact w0p3e hE hT hD hw hc hc2 K w l vq 4 s1 s2 s3 rfl ho hK6
      | tab rows => exact w0p3t hE hT hD hw hc hc2 K w l vq rows 4 s1 s2 s3 rfl ⟨hm.1, Nat.le_trans hm.2 hK6⟩ hm.2 ho hK6
  | push j a w h vp =>
    refine TriX.preWk (pre' := pre n0 np false i ++ [.v (.int .i64 (.sym 4))]) (hp' := base ps ws c c2 t (.abs (.grp (WG _ _ _ _)))) (by (repeat' apply And.intro) <;> first | rfl | trivial) (by (repeat' apply And.intro) <;> first | rfl | trivial) ?_
    obtain ⟨rfl | rfl | rfl, hm⟩ := hm
    · exact w0u1 hE hT hD hw hc hc2 K a w vp 4 h s1 s2 s3 rfl hm ho hK6
    · exact w0u2 hE hT hD hw hc hc2 K a w vp 4 h s1 s2 s3 rfl hm ho hK6
    · exact w0u3 hE hT hD hw hc hc2 K a w vp 4 h s1 s2 s3 rfl hm ho hK6
theorem step5 (K : Nat) (s0 s1 s2 s3 : WS) (hk : ok4 K s0 s1 s2 s3) (hK6 : K ≤ 1000000) : TriX MS (listX Try.prog four) E ⟨pre n0 np false i ++ [.v (.int .i64 (.lit 5))] ++ junk js 58 11, base ps ws c c2 t (.abs (.grp (WG s0 s1 s2 s3))), 4, []⟩ (Mid n0 np i ps ws c c2 K) := by
  have ho : okO K s0 s2 s3 := ⟨hk.1, hk.2.2.1, hk.2.2.2⟩
  have hm : s1.ok K := hk.2.1
  clear hk
  cases s1 with
  | idle h vp vq =>
    cases h with
    | nil => exact w1in hE hT hD hw hc hc2 K vp vq s0 s2 s3 ho hK6
    | es => exact w1ie hE hT hD hw hc hc2 K vp vq s0 s2 s3 ho hK6
    | tab rows => exact w1it hE hT hD hw hc hc2 K vp vq rows s0 s2 s3 ⟨hm.1, Nat.le_trans hm.2 hK6⟩ hm.2 ho hK6
  | pop j w l h vq =>
    refine TriX.preWk (pre' := pre n0 np false i ++ [.v (.int .i64 (.sym 5))]) (hp' := base ps ws c c2 t (.abs (.grp (WG _ _ _ _)))) (by (repeat' apply And.intro) <;> first | rfl | trivial) (by (repeat' apply And.intro) <;> first | rfl | trivial) ?_
    obtain ⟨rfl | rfl | rfl, hm⟩ := hm
    · exact w1p1 hE hT hD hw hc hc2 K w l vq 5 h s0 s2 s3 rfl hm ho hK6
    · exact w1p2 hE hT hD hw hc hc2 K w l vq 5 h s0 s2 s3 rfl hm ho hK6
    · cases h with
      | nil => exact w1p3n hE hT hD hw hc hc2 K w l vq 5 s0 s2 s3 rfl ho hK6
      | es => exact w1p3e hE hT hD hw hc hc2 K w l vq 5 s0 s2 s3 rfl ho hK6
      | tab rows => exact w1p3t hE hT hD hw hc hc2 K w l vq rows 5 s0 s2 s3 rfl ⟨hm.1, Nat.le_trans hm.2 hK6⟩ hm.2 ho hK6
  | push j a w h vp =>
    refine TriX.preWk (pre' := pre n0 np false i ++ [.v (.int .i64 (.sym 5))]) (hp' := base ps ws c c2 t (.abs (.grp (WG _ _ _ _)))) (by (repeat' apply And.intro) <;> first | rfl | trivial) (by (repeat' apply And.intro) <;> first | rfl | trivial) ?_
    obtain ⟨rfl | rfl | rfl, hm⟩ := hm
    · exact w1u1 hE hT hD hw hc hc2 K a w vp 5 h s0 s2 s3 rfl hm ho hK6
    · exact w1u2 hE hT hD hw hc hc2 K a w vp 5 h s0 s2 s3 rfl hm ho hK6
    · exact w1u3 hE hT hD hw hc hc2 K a w vp 5 h s0 s2 s3 rfl hm ho hK6
theorem step6 (K : Nat) (s0 s1 s2 s3 : WS) (hk : ok4 K s0 s1 s2 s3) (hK6 : K ≤ 1000000) : TriX MS (listX Try.prog four) E ⟨pre n0 np false i ++ [.v (.int .i64 (.lit 6))] ++ junk js 58 11, base ps ws c c2 t (.abs (.grp (WG s0 s1 s2 s3))), 4, []⟩ (Mid n0 np i ps ws c c2 K) := by
  have ho : okO K s0 s1 s3 := ⟨hk.1, hk.2.1, hk.2.2.2⟩
  have hm : s2.ok K := hk.2.2.1
  clear hk
  cases s2 with
  | idle h vp vq =>
    cases h with
    | nil => exact w2in hE hT hD hw hc hc2 K vp vq s0 s1 s3 ho hK6
    | es => exact w2ie hE hT hD hw hc hc2 K vp vq s0 s1 s3 ho hK6
    | tab rows => exact w2it hE hT hD hw hc hc2 K vp vq rows s0 s1 s3 ⟨hm.1, Nat.le_trans hm.2 hK6⟩ hm.2 ho hK6
  | pop j w l h vq =>
    refine TriX.preWk (pre' := pre n0 np false i ++ [.v (.int .i64 (.sym 6))]) (hp' := base ps ws c c2 t (.abs (.grp (WG _ _ _ _)))) (by (repeat' apply And.intro) <;> first | rfl | trivial) (by (repeat' apply And.intro) <;> first | rfl | trivial) ?_
    obtain ⟨rfl | rfl | rfl, hm⟩ := hm
    · exact w2p1 hE hT hD hw hc hc2 K w l vq 6 h s0 s1 s3 rfl hm ho hK6
    · exact w2p2 hE hT hD hw hc hc2 K w l vq 6 h s0 s1 s3 rfl hm ho hK6
    · cases h with
      | nil => exact w2p3n hE hT hD hw hc hc2 K w l vq 6 s0 s1 s3 rfl ho hK6
      | es => exact w2p3e hE hT hD hw hc hc2 K w l vq 6 s0 s1 s3 rfl ho hK6
      | tab rows => exact w2p3t hE hT hD hw hc hc2 K w l vq rows 6 s0 s1 s3 rfl ⟨hm.1, Nat.le_trans hm.2 hK6⟩ hm.2 ho hK6
  | push j a w h vp =>
    refine TriX.preWk (pre' := pre n0 np false i ++ [.v (.int .i64 (.sym 6))]) (hp' := base ps ws c c2 t (.abs (.grp (WG _ _ _ _)))) (by (repeat' apply And.intro) <;> first | rfl | trivial) (by (repeat' apply And.intro) <;> first | rfl | trivial) ?_
    obtain ⟨rfl | rfl | rfl, hm⟩ := hm
    · exact w2u1 hE hT hD hw hc hc2 K a w vp 6 h s0 s1 s3 rfl hm ho hK6
    · exact w2u2 hE hT hD hw hc hc2 K a w vp 6 h s0 s1 s3 rfl hm ho hK6
    · exact w2u3 hE hT hD hw hc hc2 K a w vp 6 h s0 s1 s3 rfl hm ho hK6
theorem step7 (K : Nat) (s0 s1 s2 s3 : WS) (hk : ok4 K s0 s1 s2 s3) (hK6 : K ≤ 1000000) : TriX MS (listX Try.prog four) E ⟨pre n0 np false i ++ [.v (.int .i64 (.lit 7))] ++ junk js 58 11, base ps ws c c2 t (.abs (.grp (WG s0 s1 s2 s3))), 4, []⟩ (Mid n0 np i ps ws c c2 K) := by
  have ho : okO K s0 s1 s2 := ⟨hk.1, hk.2.1, hk.2.2.1⟩
  have hm : s3.ok K := hk.2.2.2
  clear hk
  cases s3 with
  | idle h vp vq =>
    cases h with
    | nil => exact w3in hE hT hD hw hc hc2 K vp vq s0 s1 s2 ho hK6
    | es => exact w3ie hE hT hD hw hc hc2 K vp vq s0 s1 s2 ho hK6
    | tab rows => exact w3it hE hT hD hw hc hc2 K vp vq rows s0 s1 s2 ⟨hm.1, Nat.le_trans hm.2 hK6⟩ hm.2 ho hK6
  | pop j w l h vq =>
    refine TriX.preWk (pre' := pre n0 np false i ++ [.v (.int .i64 (.sym 7))]) (hp' := base ps ws c c2 t (.abs (.grp (WG _ _ _ _)))) (by (repeat' apply And.intro) <;> first | rfl | trivial) (by (repeat' apply And.intro) <;> first | rfl | trivial) ?_
    obtain ⟨rfl | rfl | rfl, hm⟩ := hm
    · exact w3p1 hE hT hD hw hc hc2 K w l vq 7 h s0 s1 s2 rfl hm ho hK6
    · exact w3p2 hE hT hD hw hc hc2 K w l vq 7 h s0 s1 s2 rfl hm ho hK6
    · cases h with
      | nil => exact w3p3n hE hT hD hw hc hc2 K w l vq 7 s0 s1 s2 rfl ho hK6
      | es => exact w3p3e hE hT hD hw hc hc2 K w l vq 7 s0 s1 s2 rfl ho hK6
      | tab rows => exact w3p3t hE hT hD hw hc hc2 K w l vq rows 7 s0 s1 s2 rfl ⟨hm.1, Nat.le_trans hm.2 hK6⟩ hm.2 ho hK6
  | push j a w h vp =>
    refine TriX.preWk (pre' := pre n0 np false i ++ [.v (.int .i64 (.sym 7))]) (hp' := base ps ws c c2 t (.abs (.grp (WG _ _ _ _)))) (by (repeat' apply And.intro) <;> first | rfl | trivial) (by (repeat' apply And.intro) <;> first | rfl | trivial) ?_
    obtain ⟨rfl | rfl | rfl, hm⟩ := hm
    · exact w3u1 hE hT hD hw hc hc2 K a w vp 7 h s0 s1 s2 rfl hm ho hK6
    · exact w3u2 hE hT hD hw hc hc2 K a w vp 7 h s0 s1 s2 rfl hm ho hK6
    · exact w3u3 hE hT hD hw hc hc2 K a w vp 7 h s0 s1 s2 rfl hm ho hK6
theorem stepF {kk : Int} (hkk : 0 ≤ kk ∧ kk < 8) (K : Nat) (s0 s1 s2 s3 : WS) (hk : ok4 K s0 s1 s2 s3) (hK6 : K ≤ 1000000) : TriX MS (listX Try.prog four) E ⟨pre n0 np false i ++ [.v (.int .i64 (.lit kk))] ++ junk js 58 11, base ps ws c c2 t (.abs (.grp (WG s0 s1 s2 s3))), 4, []⟩
    fun x s => x = .normal ∧ ∃ a b d f ws' c' c2' t' js, s = ⟨pre n0 np false i ++ junk js 59 10, base ps ws' c' c2' t' (.abs (.grp (WG a b d f))), 4, []⟩ ∧ ws'.length = 160 ∧ ok4 (K + 1) a b d f ∧ c ≤ c' ∧ c' ≤ c + 1 ∧ c2 ≤ c2' ∧ c2' ≤ c2 + 1 := by
  have key : TriX MS (listX Try.prog four) E ⟨pre n0 np false i ++ [.v (.int .i64 (.lit kk))] ++ junk js 58 11, base ps ws c c2 t (.abs (.grp (WG s0 s1 s2 s3))), 4, []⟩ (Mid n0 np i ps ws c c2 K) := by
    rcases (show kk = 0 ∨ kk = 1 ∨ kk = 2 ∨ kk = 3 ∨ kk = 4 ∨ kk = 5 ∨ kk = 6 ∨ kk = 7 by omega) with rfl | rfl | rfl | rfl | rfl | rfl | rfl | rfl
    · exact step0 hE hT hD hw hc hc2 K s0 s1 s2 s3 hk hK6
    · exact step1 hE hT hD hw hc hc2 K s0 s1 s2 s3 hk hK6
    · exact step2 hE hT hD hw hc hc2 K s0 s1 s2 s3 hk hK6
    · exact step3 hE hT hD hw hc hc2 K s0 s1 s2 s3 hk hK6
    · exact step4 hE hT hD hw hc hc2 K s0 s1 s2 s3 hk hK6
    · exact step5 hE hT hD hw hc hc2 K s0 s1 s2 s3 hk hK6
    · exact step6 hE hT hD hw hc hc2 K s0 s1 s2 s3 hk hK6
    · exact step7 hE hT hD hw hc hc2 K s0 s1 s2 s3 hk hK6
  refine TriX.postE (mono_list _) key ?_
  rintro x ⟨tm, hp, nid, d⟩ ac w ⟨rfl, a, b, d', f, ws', c', c2', t', ⟨js', h0⟩, h1, h2, h3, h4, h5, h6, h7, h8, h9⟩ hat
  have h0 : tm = pre n0 np false i ++ junk js' 59 10 := h0
  subst h0
  have h2 : renChk R4 hp E.nid0 nid 4 = true := by rw [hE]; exact h2
  obtain ⟨js2, h10⟩ := at_rename (dirty' := []) (m := 10) (n := 59) (pre := pre n0 np false i) (pre' := pre n0 np false i) R4 rfl (by simp [length_junk]) rfl h1 h2 (by omega) (by omega) hat
  exact ⟨_, h10, rfl, a, b, d', f, ws', c', c2', t', js2, rfl, h4, h5, h6, h7, h8, h9⟩
end
noncomputable abbrev St0 (n0 : Int) (np : Nat) (i : Int) (ps : List (List Int)) (ws : List Int) (c c2 t : Int) (a b d f : WS) (js : Nat → SV) : St MObj := ⟨pre n0 np false i ++ junk js 59 10, base ps ws c c2 t (.abs (.grp (WG a b d f))), 4, []⟩
noncomputable abbrev lbody : Code := .seq (at' [false]) (.seq (.block 1 (.seq (at' [true, false, false, false]) (seqs four (at' [true, false, false, true, true, true, true, true])))) (at' [true, true]))
theorem res (n0 : Int) (np : Nat) (ps : List (List Int)) (g : HP Unit) (r : Bool) (i c c2 t : Int) (ws : List Int) (js : Nat → SV) : vresults Try.prog (⟨pre n0 np r i ++ junk js 59 10, base ps ws c c2 t (.abs (.grp g)), 4, []⟩ : St MObj) Try.f9.results.toList = .ok [.one (.bool (.lit r))] := by kernel_rfl
theorem hb : Try.f9.body = some body := by kernel_rfl
theorem restE : (Eng.spine 6 body).2 = .seq (.seq (codeAt body [true, true, true, true, true, true, false, false]) (.block 0 (.loop lbody))) (codeAt body [true, true, true, true, true, true, true]) := by kernel_rfl
section
variable (n0 : Int) (np : Nat) (ps : List (List Int)) (hn : np = ps.length) (hf : RFits [.int .i64] ps) (E : Ctx MObj) (hE : E.nid0 = 1) (hT : E.top = 40) (hD : ∀ b, 1 ≤ b → E.D b)
include hn hf hE hT hD
theorem round {i c c2 t : Int} {ws : List Int} {a b d f : WS} {js : Nat → SV} (hi : 0 ≤ i ∧ i ≤ 200) (hw : ws.length = 160) (hc : 0 ≤ c ∧ c ≤ 1000 + i) (hc2 : 0 ≤ c2 ∧ c2 ≤ 1000 + i) (hk : ok4 i.toNat a b d f) :
    Tri MS Try.prog E lbody (St0 n0 np i ps ws c c2 t a b d f js) fun x s => ∃ i' ws' c' c2' t' a' b' d' f' js', s = St0 n0 np i' ps ws' c' c2' t' a' b' d' f' js' ∧ ws'.length = 160 ∧ (0 ≤ c' ∧ c' ≤ 2000) ∧
      ((x = .normal ∧ i' = i + 1 ∧ i' ≤ 200 ∧ (0 ≤ c' ∧ c' ≤ 1000 + i') ∧ (0 ≤ c2' ∧ c2' ≤ 1000 + i') ∧ ok4 i'.toNat a' b' d' f') ∨ x = .exit 0) := by
  have hd : ∀ (l : List Nat), l.all (Nat.ble 1) = true → ∀ b, b ∈ l → E.D b := fun l hl b hb => hD b (Nat.le_of_ble_eq_true (List.all_eq_true.1 hl b hb))
  have ht : ∀ {k : Nat}, Nat.ble k 40 = true → k ≤ E.top := fun h => by rw [hT]; exact Nat.le_of_ble_eq_true h
  refine Tri.seq (R := fun x s => ∃ js, s = St0 n0 np i ps ws c c2 t a b d f js ∧ ((x = .normal ∧ i < np ∧ i < 200) ∨ x = .exit 0)) ?_ ?_ ?_
  · refine Tri.allR (m := 10) (n := 59) (codeOK _) (rA n0 i c c2 t np ps ws _ js (Nat.zero_le _)) (Tr.all_ite (fun h1 => Tr.all_ite (fun h2 => Tr.all_ok ⟨rfl, ht rfl, hd _ rfl, fun js => ⟨js, rfl, .inl ⟨rfl, of_decide_eq_true h1, of_decide_eq_true h2⟩⟩⟩) fun _ => Tr.all_ok ⟨rfl, ht rfl, hd _ rfl, fun js => ⟨js, rfl, .inr rfl⟩⟩) fun _ => Tr.all_ok ⟨rfl, ht rfl, hd _ rfl, fun js => ⟨js, rfl, .inr rfl⟩⟩)
  · rintro s ⟨js, rfl, h | h⟩
    rotate_left
    · cases h
    obtain ⟨_, hin, hi200⟩ := h
    have hix : i.toNat < ps.length := by omega
    have k0 := kM_range (c := tabAt ps i.toNat 0) (n := 8) (by decide) (tab_fits hf hix (j := 0) rfl)
    refine Tri.seq (R := fun x s => x = .normal ∧ ∃ ws' c' c2' t' a' b' d' f' js', s = St0 n0 np i ps ws' c' c2' t' a' b' d' f' js' ∧ ws'.length = 160 ∧ (0 ≤ c' ∧ c' ≤ c + 1) ∧ (0 ≤ c2' ∧ c2' ≤ c2 + 1) ∧ ok4 (i.toNat + 1) a' b' d' f') ?_ ?_ (fun x s hx hh => absurd hh.1 hx)
    · refine Tri.block (R := fun x s => x = .normal ∧ ∃ ws' c' c2' t' a' b' d' f' js', s = St0 n0 np i ps ws' c' c2' t' a' b' d' f' js' ∧ ws'.length = 160 ∧ (0 ≤ c' ∧ c' ≤ c + 1) ∧ (0 ≤ c2' ∧ c2' ≤ c2 + 1) ∧ ok4 (i.toNat + 1) a' b' d' f') ?_ (fun s hh => by
        rcases hh with hh | hh
        · exact hh
        · cases hh.1) (fun x s hx _ hh => absurd hh.1 hx)
      refine Tri.seq (R := fun x s => x = .normal ∧ ∃ kk js, (0 ≤ kk ∧ kk < 8) ∧ s = ⟨pre n0 np false i ++ [.v (.int .i64 (.lit kk))] ++ junk js 58 11, base ps ws c c2 t (.abs (.grp (WG a b d f))), 4, []⟩) ?_ ?_ (fun x s hx hh => absurd hh.1 hx)
      · refine Tri.allR (m := 11) (n := 58) (codeOK _) (rB n0 i c c2 t np ps ws _ js hi.1 hin hn k0) ?_
        repeat' (first | exact Tr.all_ok ⟨rfl, ht rfl, hd _ rfl, fun js => ⟨rfl, _, js, by decide, rfl⟩⟩ | refine Tr.all_ite (fun _ => ?_) (fun _ => ?_))
      · rintro s ⟨_, kk, js, hkk, rfl⟩
        refine TriX.rest (stepF hE hT hD hw (by omega) (by omega) hkk i.toNat a b d f hk (by omega)) ?_ (fun x s hx hh => absurd hh.1 hx)
        rintro s ⟨_, a', b', d', f', ws', c', c2', t', js', rfl, h4, h5, h6, h7, h8, h9⟩
        exact Tri.allR (m := 10) (n := 59) (codeOK _) (rS n0 i c' c2' t' np ps ws' _ js' h4 (by omega)) (Tr.all_ite (fun _ => Tr.all_ok ⟨rfl, ht rfl, hd _ rfl, fun js => ⟨rfl, ws', c', c2', t', a', b', d', f', js, rfl, h4, by omega, by omega, h5⟩⟩) fun _ => Tr.all_ok ⟨rfl, ht rfl, hd _ rfl, fun js => ⟨rfl, ws', c', c2', t', a', b', d', f', js, rfl, h4, by omega, by omega, h5⟩⟩)
    · rintro s ⟨_, ws', c', c2', t', a', b', d', f', js', rfl, h4, h5, h6, h7⟩
      have e4 : W (i + 1) = i + 1 := wrap_i64_of (by omega) (by omega)
      refine Tri.allR (m := 10) (n := 59) (codeOK _) (rE n0 i c' c2' t' np ps ws' _ js' (Nat.zero_le _)) (Tr.all_ok ⟨rfl, ht rfl, hd _ rfl, fun js => ⟨W (i + 1), ws', c', c2', t', a', b', d', f', js, rfl, h4, by omega, .inl ⟨rfl, e4, by omega, by omega, by omega, ?_⟩⟩⟩)
      rw [e4, show (i + 1).toNat = i.toNat + 1 by omega]
      exact h7
  · rintro x s hx ⟨js, rfl, h | h⟩
    · exact absurd h.1 hx
    · exact ⟨i, ws, c, c2, t, a, b, d, f, js, rfl, hw, by omega, .inr h⟩
abbrev Fin : VX → St MObj → Prop := fun x st => (x = .normal ∨ x = .ret) ∧ ∃ l, (vresults Try.prog st Try.f9.results.toList).run = some l ∧ IsTrue (tupleOf l)
theorem fromStart (W0 : List Int) (c t : Int) (hw : W0.length = 160) (hc : 0 ≤ c ∧ c ≤ 1000) (js : Nat → SV) : Tri MS Try.prog E (Eng.spine 6 body).2
    ⟨[.v (ii n0), .v (.an 0 (.sym np)), .t [], .t [], .v (.bool (.lit false)), .v (.bool (.lit true)), .v (.ptr 1 0), .v (.ptr 2 0), .v (.ptr 3 0), .t []] ++ junk js 59 10, base ps W0 c c t (.cells [.nilp, .nilp, .nilp, .nilp, .nils, .nilp, .nilp, .nilp, .nilp, .nils, .nilp, .nilp, .nilp, .nilp, .nils, .nilp, .nilp, .nilp, .nilp, .nils] 75), 4, []⟩ Fin := by
  have hd : ∀ (l : List Nat), l.all (Nat.ble 1) = true → ∀ b, b ∈ l → E.D b := fun l hl b hb => hD b (Nat.le_of_ble_eq_true (List.all_eq_true.1 hl b hb))
  have ht : ∀ {k : Nat}, Nat.ble k 40 = true → k ≤ E.top := fun h => by rw [hT]; exact Nat.le_of_ble_eq_true h
  rw [restE]
  refine Tri.preE fun ac w hat => ?_
  obtain ⟨us, h1⟩ := at_forget 3 [false, false, true, true, false, false, false, true, true, false, false, false, true, true, false, false, false, true, true, false] rfl rfl hat
  have h2 := at_grpfold (b := 3) (g := WG (.idle .nil (us 2) (us 3)) (.idle .nil (us 7) (us 8)) (.idle .nil (us 12) (us 13)) (.idle .nil (us 17) (us 18))) rfl rfl (fun n => rfl) h1
  refine ⟨_, h2, ?_⟩
  refine Tri.seq (R := fun x s => x = .normal ∧ ∃ i ws c c2 t a b d f js, s = St0 n0 np i ps ws c c2 t a b d f js ∧ ws.length = 160 ∧ (0 ≤ c ∧ c ≤ 2000)) ?_ ?_ (fun x s hx hh => absurd hh.1 hx)
  · refine Tri.seq (R := fun x s => x = .normal ∧ ∃ js, s = ⟨(init_l0 n0 c c t np ps W0 (WG (.idle .nil (us 2) (us 3)) (.idle .nil (us 7) (us 8)) (.idle .nil (us 12) (us 13)) (.idle .nil (us 17) (us 18)))).pre ++ junk js 59 10, base ps W0 c c t (.abs (.grp (WG (.idle .nil (us 2) (us 3)) (.idle .nil (us 7) (us 8)) (.idle .nil (us 12) (us 13)) (.idle .nil (us 17) (us 18))))), 4, []⟩)
      (Tri.allR (m := 10) (n := 59) (codeOK _) (init n0 c c t np ps W0 _ (.t []) js (Nat.zero_le _)) (Tr.all_ok ⟨rfl, ht rfl, hd _ rfl, fun js => ⟨rfl, js, rfl⟩⟩)) ?_ (fun x s hx hh => absurd hh.1 hx)
    rintro s ⟨_, js, rfl⟩
    refine Tri.preWk (pre' := pre n0 np false 0) (hp' := base ps W0 c c t (.abs (.grp (WG (.idle .nil (us 2) (us 3)) (.idle .nil (us 7) (us 8)) (.idle .nil (us 12) (us 13)) (.idle .nil (us 17) (us 18)))))) (by (repeat' apply And.intro) <;> first | rfl | trivial) (by (repeat' apply And.intro) <;> first | rfl | trivial) ?_
    refine Tri.block (R := fun x s => x = .exit 0 ∧ ∃ i ws c c2 t a b d f js, s = St0 n0 np i ps ws c c2 t a b d f js ∧ ws.length = 160 ∧ (0 ≤ c ∧ c ≤ 2000)) ?_ (fun s hh => by
      rcases hh with hh | hh
      · cases hh.1
      · exact ⟨rfl, hh.2⟩) (fun x s _ hx hh => absurd hh.1 hx)
    refine Tri.loop (J := fun k s => ∃ i ws c c2 t a b d f js, s = St0 n0 np i ps ws c c2 t a b d f js ∧ ws.length = 160 ∧ (0 ≤ i ∧ i ≤ 200) ∧ (0 ≤ c ∧ c ≤ 1000 + i) ∧ (0 ≤ c2 ∧ c2 ≤ 1000 + i) ∧ ok4 i.toNat a b d f ∧ k = (200 - i).toNat) ?_ (k := (200 - 0 : Int).toNat) ⟨0, W0, c, c, t, _, _, _, _, js, rfl, hw, by omega, by omega, by omega, ⟨trivial, trivial, trivial, trivial⟩, rfl⟩
    rintro k s ⟨i, ws, c, c2, t, a, b, d, f, js, rfl, hw, hi, hc, hc2, hk, hkk⟩
    refine (round n0 np ps hn hf E hE hT hD hi hw hc hc2 hk).mono ?_
    rintro x s ⟨i', ws', c', c2', t', a', b', d', f', js', rfl, g1, g2, ⟨rfl, g3, g4, g5, g6, g7⟩ | rfl⟩
    · exact ⟨(200 - i').toNat, by omega, i', ws', c', c2', t', a', b', d', f', js', rfl, g1, by omega, g5, g6, g7, rfl⟩
    · exact ⟨rfl, i', ws', c', c2', t', a', b', d', f', js', rfl, g1, g2⟩
  · rintro s ⟨_, i, ws, c, c2, t, a, b, d, f, js, rfl, hw, hc⟩
    exact Tri.allR (m := 10) (n := 59) (codeOK _) (fin n0 i c c2 t np ps ws _ js hw (by omega)) (Tr.all_ok ⟨rfl, ht rfl, hd _ rfl, fun js => ⟨.inr rfl, _, (congrArg Tr.run (res n0 np ps _ true i c c2 t ws js)).trans rfl, rfl⟩⟩)
theorem runs (hk : 0 ≤ kM n0 13 ∧ kM n0 13 < 13) : Tri MS Try.prog E body ⟨[.v (ii n0), .v (.an 0 (.sym np))] ++ List.replicate (nt - 2) .undef, [(0, some (.rotab [.int .i64] ps))], 1, []⟩ Fin := by
  have hd : ∀ (l : List Nat), l.all (Nat.ble 1) = true → ∀ b, b ∈ l → E.D b := fun l hl b hb => hD b (Nat.le_of_ble_eq_true (List.all_eq_true.1 hl b hb))
  have ht : ∀ {k : Nat}, Nat.ble k 40 = true → k ≤ E.top := fun h => by rw [hT]; exact Nat.le_of_ble_eq_true h
  have key : ∀ {pre : List SV} {hp : HP MObj} {nid : Nat} (r : List (Nat × Nat)) (W0 : List Int) (c t : Int) (js : Nat → SV), pre.length = 10 → renSVs r pre = some [.v (ii n0), .v (.an 0 (.sym np)), .t [], .t [], .v (.bool (.lit false)), .v (.bool (.lit true)), .v (.ptr 1 0), .v (.ptr 2 0), .v (.ptr 3 0), .t []] →
      renHP r hp r = some (base ps W0 c c t (.cells [.nilp, .nilp, .nilp, .nilp, .nils, .nilp, .nilp, .nilp, .nilp, .nils, .nilp, .nilp, .nilp, .nilp, .nils, .nilp, .nilp, .nilp, .nilp, .nils] 75)) → renChk r hp 1 nid 4 = true → W0.length = 160 → (0 ≤ c ∧ c ≤ 1000) →
      Tri MS Try.prog E (Eng.spine 6 body).2 ⟨pre ++ junk js 59 10, hp, nid, []⟩ Fin := fun {pre hp nid} r W0 c t js h0 h1 h2 h3 h4 h5 =>
    Tri.ren (m := 10) (n := 59) (pre := pre) r (by rw [← h0]; exact take_junk _ _) (by rw [len_junk, h0]) h1 h2 (by rw [hE]; exact h3) (by omega) (by omega) fun js => fromStart n0 np ps hn hf E hE hT hD W0 c t h4 h5 js
  refine Tri.listR (m := 10) (n := 59) (l := (Eng.spine 6 body).1) (c' := (Eng.spine 6 body).2) codeOK 6 rfl rfl (start n0 np ps hk) ?_
  refine Tr.all_ite (fun _ => ?_) (fun _ => ?_)
  · exact Tr.all_ok ⟨rfl, rfl, ht rfl, hd _ rfl, fun js => key [(0, 0), (1, 1), (2, 2), (3, 3)] _ _ _ js rfl rfl rfl rfl rfl (by decide)⟩
  refine Tr.all_ite (fun _ => ?_) (fun _ => ?_)
  · exact Tr.all_ok ⟨rfl, rfl, ht rfl, hd _ rfl, fun js => key [(0, 0), (1, 1), (3, 2), (5, 3)] _ _ _ js rfl rfl rfl rfl rfl (by decide)⟩
  refine Tr.all_ite (fun _ => ?_) (fun _ => ?_)
  · exact Tr.all_ok ⟨rfl, rfl, ht rfl, hd _ rfl, fun js => key [(0, 0), (1, 1), (4, 2), (7, 3)] _ _ _ js rfl rfl rfl rfl rfl (by decide)⟩
  refine Tr.all_ite (fun _ => ?_) (fun _ => ?_)
  · exact Tr.all_ok ⟨rfl, rfl, ht rfl, hd _ rfl, fun js => key [(0, 0), (1, 1), (5, 2), (9, 3)] _ _ _ js rfl rfl rfl rfl rfl (by decide)⟩
  refine Tr.all_ite (fun _ => ?_) (fun _ => ?_)
  · exact Tr.all_ok ⟨rfl, rfl, ht rfl, hd _ rfl, fun js => key [(0, 0), (1, 1), (6, 2), (11, 3)] _ _ _ js rfl rfl rfl rfl rfl (by decide)⟩
  refine Tr.all_ite (fun _ => ?_) (fun _ => ?_)
  · exact Tr.all_ok ⟨rfl, rfl, ht rfl, hd _ rfl, fun js => key [(0, 0), (1, 1), (7, 2), (13, 3)] _ _ _ js rfl rfl rfl rfl rfl (by decide)⟩
  refine Tr.all_ite (fun _ => ?_) (fun _ => ?_)
  · exact Tr.all_ok ⟨rfl, rfl, ht rfl, hd _ rfl, fun js => key [(0, 0), (1, 1), (8, 2), (15, 3)] _ _ _ js rfl rfl rfl rfl rfl (by decide)⟩
  refine Tr.all_ite (fun _ => ?_) (fun _ => ?_)
  · exact Tr.all_ok ⟨rfl, rfl, ht rfl, hd _ rfl, fun js => key [(0, 0), (1, 1), (9, 2), (17, 3)] _ _ _ js rfl rfl rfl rfl rfl (by decide)⟩
  refine Tr.all_ite (fun _ => ?_) (fun _ => ?_)
  · exact Tr.all_ok ⟨rfl, rfl, ht rfl, hd _ rfl, fun js => key [(0, 0), (1, 1), (10, 2), (19, 3)] _ _ _ js rfl rfl rfl rfl rfl (by decide)⟩
  refine Tr.all_ite (fun _ => ?_) (fun _ => ?_)
  · exact Tr.all_ok ⟨rfl, rfl, ht rfl, hd _ rfl, fun js => key [(0, 0), (1, 1), (11, 2), (21, 3)] _ _ _ js rfl rfl rfl rfl rfl (by decide)⟩
  refine Tr.all_ite (fun _ => ?_) (fun _ => ?_)
  · exact Tr.all_ok ⟨rfl, rfl, ht rfl, hd _ rfl, fun js => key [(0, 0), (1, 1), (12, 2), (23, 3)] _ _ _ js rfl rfl rfl rfl rfl (by decide)⟩
  refine Tr.all_ite (fun _ => ?_) (fun _ => ?_)
  · exact Tr.all_ok ⟨rfl, rfl, ht rfl, hd _ rfl, fun js => key [(0, 0), (1, 1), (13, 2), (25, 3)] _ _ _ js rfl rfl rfl rfl rfl (by decide)⟩
  exact Tr.all_ok ⟨rfl, rfl, ht rfl, hd _ rfl, fun js => key [(0, 0), (1, 1), (14, 2), (27, 3)] _ _ _ js rfl rfl rfl rfl rfl (by decide)⟩
end
abbrev ts : List TypeId := [3, 62]
theorem hts : Try.f9.params.toList = ts := by kernel_rfl
theorem arg0 (n : Int) : (SV.s (mkS1 Try.prog 3 [.int .i64] [n])) = .v (ii n) := by kernel_rfl
theorem core (w : World) (vals : List Value) (ha : F2 (ArgOK Try.prog w) ts vals) :
    Calls Try.prog 9 vals.toArray w fun e W' => ∃ v, e = .returned v ∧ v = .bool true ∧ Below w.heap.size w W' := by
  obtain ⟨u, v, rfl⟩ : ∃ u v, vals = [u, v] := by
    match vals, ha with
    | [u, v], _ => exact ⟨u, v, rfl⟩
    | [], ha => exact ha.elim
    | [_], ha => exact ha.2.elim
    | _ :: _ :: _ :: _, ha => exact ha.2.2.elim
  obtain ⟨ns, cs, hcs, hr⟩ := arg_plain (ks := [.int .i64]) ha.1 (by kernel_rfl)
  obtain ⟨n0, rfl, hfit⟩ : ∃ n0, ns = [n0] ∧ CK.fits (.int .i64) n0 := by
    have := hcs.fits'
    match ns, this with
    | [n0], h => exact ⟨n0, rfl, h.1⟩
    | [], h => exact h.elim
    | _ :: _ :: _, h => exact h.2.elim
  obtain ⟨xs, p, hf, hlen, hall⟩ := arg_slice (e := 3) (ks := [.int .i64]) ha.2.1 (by kernel_rfl) (by kernel_rfl) (by kernel_rfl) (by decide)
  let ρ0 : Rho := fun b => match b with | 0 => some p | _ + 1 => none
  have hρ : ∀ b, 1 ≤ b → ρ0 b = none := fun b hb => by
    match b, hb with
    | b + 1, _ => rfl
  have hr0 : RS ρ0 (.s (mkS1 Try.prog 3 [.int .i64] [n0])) u := hr ρ0
  rw [arg0] at hr0
  refine (calls_of_triA (S := MS) (vargs := [u, v]) (R := IsTrue) Try.func9 hb 1 40 (by omega) hρ (hp := [(0, some (.rotab [.int .i64] xs))]) (fun b o ho => ?_) (runs n0 xs.length xs rfl hf _ rfl rfl (fun b hb => hb) (kM_range (by decide) hfit)) ⟨hr0, (hall MS ρ0 0 rfl).1, trivial⟩).mono ?_
  · match b, ho with
    | 0, ho =>
      injection ho with ho
      subst ho
      exact (hall MS ρ0 0 rfl).2
    | b + 1, ho => cases ho
  · rintro e w' ⟨v, x, ρ, rfl, hv, hR, hbel⟩
    exact ⟨v, rfl, hR.value hv, hbel⟩
theorem own : ownKnob Try.prog.godebug = none := by kernel_rfl
theorem lifted {H : Type} (os : Os) (started : os.Started) (enc : TypeId × Value → H) : ReturnsInHanded {} Try.checked os 9 .any (Rows.listPlaysSpec.pre6 enc Try.prog Try.f9 Rows.listPlaysRow.domain false) (Rows.listPlaysSpec.post enc Try.prog Try.f9 false true false false) :=
  law_lifted own started (by kernel_rfl) (by kernel_rfl)
    (ChangeSpec.witness6 (enc := enc) (C := Try.checked) false ⟨#[], #[.int .i64 0, .slice none 0 0], []⟩ 8 (by kernel_rfl) (by kernel_rfl) (by kernel_rfl) (by kernel_rfl))
    (tb := 4) (by kernel_rfl) (by kernel_rfl) rfl
    (fun ds hd => by
      match ds, hd with
      | [_, _], _ => exact ⟨rfl, rfl, rfl⟩)
    (by kernel_rfl) (by kernel_rfl) (fun W vals ha => core W vals (hts ▸ ha))
theorem proved : Rows.ListPlaysSaid :=
  OpenClaim.holds_of_wide 9 Try.f9 rfl rfl rfl rfl rfl rfl rfl ⟨rfl, rfl, rfl, rfl, rfl⟩ rfl rfl rfl rfl rfl (by kernel_rfl) Try.func9 (by kernel_rfl) (of_decide_eq_true (by kernel_rfl))
    (by unfold Func.isWrapper; first | (rw [if_pos (by decide +kernel)]; kernel_rfl) | (rw [if_neg (by decide +kernel)]; exact ⟨rfl, rfl⟩))
    (fun os started H enc _ => lifted os started enc)
end Go.Proofs.Ytnlfphlmlklofaa.ListPlays
