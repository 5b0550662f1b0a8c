/-
  CarveOnce: a taker's objects, and that they keep their names.
-/
import Derived.Test.YtmegnipdeanghaaTCarveOnce1a
import Derived.Test.YtmegnipdeanghaaTCarveOnce1b
import Derived.Test.YtmegnipdeanghaaTCarveOnce1c
import Derived.Test.YtmegnipdeanghaaTCarveOnce2
import Derived.Test.YtmegnipdeanghaaDCarveOnce
import Derived.Test.YtmegnipdeanghaaEngZe
import Derived.Test.YtmegnipdeanghaaEngZh
namespace Go.Proofs.Ytmegnipdeanghaa.CarveOnce
open Go Go.RowKit Go.Proofs.Ytmegnipdeanghaa.Eng
set_option linter.unusedVariables false
set_option linter.unusedSimpArgs false
set_option linter.unusedSectionVars false
set_option maxRecDepth 20000
theorem codeOK (c : Code) : CodeOK MS Try.prog c (ev c) :=
  evCode_sound progOK (fun f args hp nid r h _ => evF_sound progOK (lookH_ok LCO.tabL_ok) 100 19 f args hp nid r h) 100 c
/-- What the heap has is what counts. -/
theorem Tri.preHp {E : Ctx MObj} {c : Code} {tm : List SV} {hp hp' : HP MObj} {nid : Nat} {d : List Nat} {Q : VX → St MObj → Prop} (h : ∀ b, hget hp b = hget hp' b) (ht : Tri MS Try.prog E c ⟨tm, hp', nid, d⟩ Q) : Tri MS Try.prog E c ⟨tm, hp, nid, d⟩ Q :=
  Tri.preE fun a w hat => ⟨_, by
    obtain ⟨h0, h1, ρ, F, ha, hr, hch⟩ := hat
    exact ⟨h0, h1, ρ, F, ha, by rw [show hget hp' = hget hp from (funext h).symm]; exact hr, hch⟩, ht⟩
def vT (k : Nat) : TK → VV
  | .nil => .nilp
  | _ => .ptr (8 + 2 * k) 0
abbrev fnT (f : Nat) (k : Nat) : VV := .fn f [(8 + 2 * k, 0)] []
def pf : Nat → Nat
  | 0 => 62
  | 1 => 65
  | _ => 66
def oT (B p4 : Int) (k : Nat) : TK → Option (VObj MObj)
  | .nil => none
  | .load w b e kk => some (tk (fnT 20 k) B p4 k w b e kk .nilp 0)
  | .look w b e kk => some (tk (fnT 30 k) B p4 k w b e kk .nilp 0)
  | .swap w b e kk => some (tk (fnT 38 k) B p4 k w b e kk .nilp 0)
  | .use w b e kk => some (tk (fnT 45 k) B p4 k w b e kk .nilp 0)
  | .link w b e kk => some (tk (fnT 50 k) B p4 k w b e kk .nilp 0)
  | .lay _ w b e kk _ _ _ => some (tk (fnT 58 k) B p4 k w b e kk (.ptr (9 + 2 * k) 0) 0)
def oP (k : Nat) : TK → Option (VObj MObj)
  | .lay j _ _ _ _ fi la pw => some (pu (.fn (pf j) [] []) (3 + k) fi la k pw)
  | _ => none
theorem oT_keep {B p4 : Int} {k : Nat} {s : TK} {r : List (Nat × Nat)} (h1 : rlook r (8 + 2 * k) = some (8 + 2 * k)) (h2 : rlook r (9 + 2 * k) = some (9 + 2 * k)) {x : VObj MObj} (hx : oT B p4 k s = some x) : renObj r x = some x := by
  cases s <;> simp only [oT] at hx <;> cases hx <;> simp [renObj, renVVs, renVV, renVV.renPs, h1, h2]
theorem oP_keep {k : Nat} {s : TK} {r : List (Nat × Nat)} {x : VObj MObj} (hx : oP k s = some x) : renObj r x = some x := by
  cases s <;> simp only [oP] at hx <;> cases hx <;> simp [renObj, renVVs, renVV, renVV.renPs]
theorem vT_keep {k : Nat} {s : TK} {r : List (Nat × Nat)} (h1 : rlook r (8 + 2 * k) = some (8 + 2 * k)) : renVV r (vT k s) = some (vT k s) := by
  cases s <;> simp [vT, renVV, h1]
abbrev six (B p4 : Int) (s0 s1 s2 : TK) : HP MObj := [(8, oT B p4 0 s0), (9, oP 0 s0), (10, oT B p4 1 s1), (11, oP 1 s1), (12, oT B p4 2 s2), (13, oP 2 s2)]
/-- The law's state ahead of a round. -/
noncomputable abbrev S (n : Int) (np : Nat) (f i : Int) (ps rows : List (List Int)) (B p4 : Int) (N : Nat) (xs : List Int) (c t0 t1 t2 t3 t4 t5 t6 t7 : Int) (s0 s1 s2 : TK) (n0 n1 n2 : Bool) (js : Nat → SV) : St MObj :=
  ⟨pre n np f i ++ junk js 110 15, base ps rows B p4 N xs c t0 t1 t2 t3 t4 t5 t6 t7 (vT 0 s0) (vT 1 s1) (vT 2 s2) n0 n1 n2 ++ six B p4 s0 s1 s2, 14, []⟩
end Go.Proofs.Ytmegnipdeanghaa.CarveOnce
