/-
  ListOwn: a worker's step, whatever it is at.
-/
import Derived.Test.YtjohhjilglilkaaWListOwn2
namespace Go.Proofs.Ytjohhjilglilkaa.ListOwn
open Go Go.RowKit Go.Proofs.Ytjohhjilglilkaa.Eng
set_option linter.unusedVariables false
set_option linter.unusedSimpArgs false
set_option linter.unusedSectionVars false
set_option maxRecDepth 20000
set_option maxHeartbeats 1000000
/-- A step in the plain law's words, and the shapes behind. -/
def KA (xs : List Int) (t : Int) (X : WS) (b1 : Bool) : WS → List Int → Int → Prop := fun Y ys t' => (b1 = false → X.z = .idle → Y = X ∧ ys = xs) ∧ t' = t ∧ ListOwnP.PStep xs X.h.own X.z.abs Y.h.own Y.z.abs ys ∧ Y.z.ok ∧ Y.h.ok ∧ ys.length = 160
theorem mid_mono {n : Int} {np : Nat} {mn i : Int} {ps : List (List Int)} {c : Int} {s : Nat → WS} {q : Nat} {K K' : WS → List Int → Int → Prop} (h : ∀ Y ys t', K Y ys t' → K' Y ys t') {x : VX} {st : St MObj} (hm : Mid n np mn i ps c s q K x st) : Mid n np mn i ps c s q K' x st := by
  obtain ⟨h1, Y, xs', c', t', h2, h3, h4, h5, h6, h7⟩ := hm
  exact ⟨h1, Y, xs', c', t', h2, h3, h4, h5, h _ _ _ h6, h7⟩
theorem at_tm {S : Eng.Sys MObj} {E : Ctx MObj} {p p' l : List SV} {hp : HP MObj} {nid : Nat} {d : List Nat} {a : Act} {w : World} (h : wkSs p p') (hat : At S E ⟨p ++ l, hp, nid, d⟩ a w) : At S E ⟨p' ++ l, hp, nid, d⟩ a w :=
  weak_tm (tm_weak h) a w hat
section
variable {n mn i c t : Int} {np : Nat} {ps : List (List Int)} {xs : List Int} {q : Nat} (hq : q < 4) (hx : xs.length = 160) (hc : 0 ≤ c ∧ c ≤ 100000) (E : Ctx MObj) (hE : E.nid0 = 1) (hT : E.top = 60) (hD : ∀ b, 1 ≤ b → E.D b)
include hq hx hc hE hT hD
theorem stepX (s : Nat → WS) (X : WS) (b1 b2 : Bool) (hb : b1 = false → b2 = false) (hz : X.z.ok) (hh : X.h.ok) (hlen : X.h.own.length ≤ 12)
    (hp1 : ∀ w, X.z.abs = .pop1 w → 96 ≤ mAt w ∧ mAt w < 160) (hp2 : ∀ w h, X.z.abs = .pop2 w h → 96 ≤ mAt w ∧ mAt w < 160) (hu : ∀ a ∈ X.z.abs.cell, 96 ≤ a ∧ a < 160) (js : Nat → SV) :
    Tri MS Try.prog E (qt [true, true, true, true]) ⟨pre n np mn i ++ [.v (lt q), .v (.bool (.lit b1)), .v (.bool (.lit b2))] ++ junk js 250 15, bas ps xs c t (upd s q X), 5, []⟩ (Mid n np mn i ps c s q (KA xs t X b1)) := by
  obtain ⟨h, z⟩ := X
  have ks : (b1 = false → z ≠ .idle) → ∀ {x st}, Mid n np mn i ps c s q (KS xs t ⟨h, z⟩) x st → Mid n np mn i ps c s q (KA xs t ⟨h, z⟩ b1) x st := fun hn {x st} hm => mid_mono (fun Y ys t' ⟨k1, k2, k3, k4, k5⟩ => ⟨fun e1 e2 => absurd e2 (hn e1), k1, k2, k3, by rw [k4]; exact hh, k5⟩) hm
  have kh : (b1 = false → z ≠ .idle) → ∀ {x st}, Mid n np mn i ps c s q (KH xs t ⟨h, z⟩) x st → Mid n np mn i ps c s q (KA xs t ⟨h, z⟩ b1) x st := fun hn {x st} hm => mid_mono (fun Y ys t' k => ⟨fun e1 e2 => absurd e2 (hn e1), k⟩) hm
  have sym : ∀ {Q : VX → St MObj → Prop}, Tri MS Try.prog E (qt [true, true, true, true]) ⟨pre n np mn i ++ [.v (lt q), .v (.bool (.sym b1)), .v (.bool (.sym b2))] ++ junk js 250 15, bas ps xs c t (upd s q ⟨h, z⟩), 5, []⟩ Q → Tri MS Try.prog E (qt [true, true, true, true]) ⟨pre n np mn i ++ [.v (lt q), .v (.bool (.lit b1)), .v (.bool (.lit b2))] ++ junk js 250 15, bas ps xs c t (upd s q ⟨h, z⟩), 5, []⟩ Q := fun hh => Tri.preE fun aa ww hat => ⟨_, at_tm (p' := pre n np mn i ++ [.v (lt q), .v (.bool (.sym b1)), .v (.bool (.sym b2))]) (by (repeat' apply And.intro) <;> first | rfl | trivial) hat, hh⟩
  have rows_ok : ∀ {rows : List (List Int)}, h = .tab rows → 0 < rows.length ∧ rows.length ≤ 1000 := fun {rows} e => by
    subst e
    have h1 : 0 < rows.length := hh
    have h2 : (HS.own (.tab rows)).length ≤ 12 := hlen
    simp [HS.own] at h2
    omega
  cases z with
  | idle =>
    cases b1 with
    | false =>
      obtain rfl := hb rfl
      exact (show Tri MS Try.prog E _ _ _ from w_iN hq hx hc E hE hT hD h s js).mono fun x st hm => mid_mono (fun Y ys t' ⟨k1, k2, k3⟩ => by
        subst k1 k2 k3
        exact ⟨fun _ _ => ⟨rfl, rfl⟩, rfl, .stay, trivial, hh, hx⟩) hm
    | true =>
      cases b2 with
      | true => exact (show Tri MS Try.prog E _ _ _ from w_iP hq hx hc E hE hT hD h s js).mono fun x st => ks (fun e => by cases e)
      | false =>
        cases h with
        | nil => exact (show Tri MS Try.prog E _ _ _ from w_iUn hq hx hc E hE hT hD s js).mono fun x st => kh (fun e => by cases e)
        | es => exact (show Tri MS Try.prog E _ _ _ from w_iUe hq hx hc E hE hT hD s js).mono fun x st => kh (fun e => by cases e)
        | tab rows => exact (show Tri MS Try.prog E _ _ _ from w_iUt hq hx hc E hE hT hD rows s (rows_ok rfl) js).mono fun x st => kh (fun e => by cases e)
  | pop j w hw se =>
    refine sym ?_
    rcases (show j = 0 ∨ j = 1 ∨ j = 2 by have : j ≤ 2 := hz; omega) with rfl | rfl | rfl
    · exact (show Tri MS Try.prog E _ _ _ from w_p0 hq hx hc E hE hT hD w hw se b1 b2 h s js).mono fun x st => ks (fun _ e => by cases e)
    · have h1 := hp1 w rfl
      exact (show Tri MS Try.prog E _ _ _ from w_p1 hq hx hc E hE hT hD w hw se b1 b2 h s (inb_iff.2 (by omega)) js).mono fun x st => ks (fun _ e => by cases e)
    · have h1 := hp2 w hw rfl
      have h2 : (mAt w != 0) = true := by simp; omega
      cases h with
      | nil => exact (show Tri MS Try.prog E _ _ _ from w_p2n hq hx hc E hE hT hD w hw se b1 b2 s h2 js).mono fun x st => kh (fun _ e => by cases e)
      | es => exact (show Tri MS Try.prog E _ _ _ from w_p2e hq hx hc E hE hT hD w hw se b1 b2 s h2 js).mono fun x st => kh (fun _ e => by cases e)
      | tab rows => exact (show Tri MS Try.prog E _ _ _ from w_p2t hq hx hc E hE hT hD w hw se rows b1 b2 s h2 (rows_ok rfl) js).mono fun x st => kh (fun _ e => by cases e)
  | push j a w =>
    refine sym ?_
    have ha : inb a xs.length = true := by
      have h1 : 96 ≤ a ∧ a < 160 := hu a (by
        rcases (show j = 0 ∨ j = 1 ∨ j = 2 by have : j ≤ 2 := hz; omega) with rfl | rfl | rfl <;> exact List.mem_singleton.2 rfl)
      exact inb_iff.2 (by omega)
    rcases (show j = 0 ∨ j = 1 ∨ j = 2 by have : j ≤ 2 := hz; omega) with rfl | rfl | rfl
    · exact (show Tri MS Try.prog E _ _ _ from w_u0 hq hx hc E hE hT hD a w b1 b2 h s ha js).mono fun x st => ks (fun _ e => by cases e)
    · exact (show Tri MS Try.prog E _ _ _ from w_u1 hq hx hc E hE hT hD a w b1 b2 h s ha js).mono fun x st => ks (fun _ e => by cases e)
    · exact (show Tri MS Try.prog E _ _ _ from w_u2 hq hx hc E hE hT hD a w b1 b2 h s ha js).mono fun x st => ks (fun _ e => by cases e)
end
end Go.Proofs.Ytjohhjilglilkaa.ListOwn
