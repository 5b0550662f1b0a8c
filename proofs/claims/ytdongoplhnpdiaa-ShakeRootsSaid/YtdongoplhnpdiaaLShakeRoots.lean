/-
  ShakeRoots: a Poll of ModeFix tells of each root where its object is, and changes nothing else; and one of ModeRoots shades each. Of any tags, any roots, either mode.
-/
import Derived.Test.YtdongoplhnpdiaaRows
import Derived.Test.YtdongoplhnpdiaaLShakeRoots2
namespace Go.Proofs.Ytdongoplhnpdiaa.ShakeRoots
open Go Go.RowKit Go.Proofs.Ytdongoplhnpdiaa.Eng
set_option linter.unusedVariables false
set_option linter.unusedSimpArgs false
set_option linter.unusedSectionVars false
set_option maxRecDepth 20000
abbrev ks : List CK := [.int .i64]
abbrev rBeg : List (Nat × Nat) := [(0, 0), (1, 1), (2, 2), (3, 3), (4, 4), (5, 5), (8, 6), (10, 7), (14, 8)]
section
variable (n0 n1 : Nat) (ts ls : List (List Int)) (h0 : n0 = ts.length) (h1 : n1 = ls.length) (hf0 : Laid.fitB ts = true) (hf1 : Laid.fitB ls = true) (E : Ctx MObj) (hE : E.nid0 = 2) (hT : E.top = 30) (hD : ∀ b, 2 ≤ b → E.D b)
include h0 h1 hf0 hf1 hE hT hD
theorem runsF : Tri MS Try.prog E body ⟨[.v (.an 0 (.sym n0)), .v (.an 1 (.sym n1)), .v (.bool (.sym true))] ++ List.replicate (nt - 3) .undef, [(0, some (.rotab ks ts)), (1, some (.rotab ks ls))], 2, []⟩ Q := by
  have hd : ∀ (l : List Nat), l.all (Nat.ble 2) = true → ∀ b, b ∈ l → E.D b := fun l hl b hb => hD b (Nat.le_of_ble_eq_true (List.all_eq_true.1 hl b hb))
  have ht : ∀ {k : Nat}, Nat.ble k 30 = true → k ≤ E.top := fun h => by rw [hT]; exact Nat.le_of_ble_eq_true h
  have hk : Known (Some16.rN ls) (rA ls) (wsE ts) := known hf1
  have hN := hk.hN
  refine Tri.listR (m := 18) (n := 127) (l := (Eng.spine 12 body).1) codeOK 12 rfl restE (startF n0 n1 ts ls h0 hf0 h1 hf1) (Tr.all_ok ⟨rfl, rfl, ht rfl, hd _ rfl, fun js => ?_⟩)
  refine Tri.preE fun aa ww hat => ?_
  obtain ⟨js, hat⟩ := at_rename (dirty' := []) (m := 18) (n := 127) rBeg (nid' := 10) rfl (by simp [length_junk]) rfl rfl (by rw [hE]; rfl) (by rw [hE]; decide) (by rw [hT]; decide) hat
  have hat := at_wk2 (dirty' := []) (hp' := base ts ls (xsE 26388279066629 ts) (wsE ts) 18 17 8 (Some16.rN ls) (rA ls 0) (rA ls 1) (rA ls 2) (rA ls 3) (rA ls 4) (rA ls 5) (rA ls 6) (rA ls 7) ++ [(8, some (oF (Some16.rN ls) (rA ls) .look))]) (by repeat' (first | exact trivial | refine ⟨.inl rfl, ?_⟩ | refine ⟨.inr ⟨_, _, _, rfl, rfl, (by (repeat' apply And.intro) <;> first | rfl | trivial)⟩, ?_⟩)) hat
  refine ⟨_, hat, ?_⟩
  refine Tri.seq (R := fun x s => x = .normal ∧ DF n0 n1 (Some16.rN ls) ts ls (wsE ts) (rA ls) 17 s) ?_ ?_ (fun x s hx hh => absurd hh.1 hx)
  · refine Tri.seq (R := fun x s => x = .normal ∧ JF n0 n1 (Some16.rN ls) ts ls (wsE ts) (rA ls) 17 0 s) ?_ ?_ (fun x s hx hh => absurd hh.1 hx)
    · refine Tri.postE (Q := fun x s => x = .normal ∧ ∀ aa ww, At MS E s aa ww → ∃ s', At MS E s' aa ww ∧ JF n0 n1 (Some16.rN ls) ts ls (wsE ts) (rA ls) 17 0 s') (Tri.allR (m := 18) (n := 127) (codeOK _) (init1 n0 n1 true 18 17 (Some16.rN ls) (rA ls 0) (rA ls 1) (rA ls 2) (rA ls 3) (rA ls 4) (rA ls 5) (rA ls 6) (rA ls 7) ts ls (xsE 26388279066629 ts) (wsE ts) js (some (oF (Some16.rN ls) (rA ls) .look)) 8 (.t []) rfl (by decide) hN) (Tr.all_ok ⟨rfl, ht rfl, hd _ rfl, fun js => ⟨rfl, fun aa ww hat => ⟨SF n0 n1 0 ts ls (xsE 26388279066629 ts) (wsE ts) 18 17 (Some16.rN ls) (rA ls) (rA ls) .look js, at_tm (p' := pre n0 n1 true false 0) (by (repeat' apply And.intro) <;> first | rfl | trivial) hat, ?_⟩⟩⟩)) ?_
      · refine ⟨xsE 26388279066629 ts, rA ls, .look, 18, js, ⟨rfl, xs_ws 26388279066629 ts, fun _ => ?_, (fun _ j _ _ => rfl), (fun r e => by cases e), (fun r e => by rcases e with e | e <;> cases e)⟩, by decide, by decide, by decide, by decide, rfl⟩
        show mNo 26388279066629 = 5 ∧ mMode 26388279066629 = 8 ∧ mMark 26388279066629 = 1 ∧ mList 26388279066629 = 0
        decide
      rintro x s aa ww ⟨rfl, hh⟩ hat
      obtain ⟨s', h1, h2⟩ := hh aa ww hat
      exact ⟨s', h1, rfl, h2⟩
    · rintro s ⟨_, hJ⟩
      exact loopF E hE hT hD hk hJ
  · rintro s ⟨_, i, xs, L, s, c, js, hv, hs, hc0, hc1, rfl⟩
    cases s with
    | over r => exact afterF E hE hT hD hk (hv.dn r (.inr rfl)) hv.len ⟨hc0, hc1⟩ js
    | look => cases hs
    | fix r => cases hs
    | tell r => cases hs
theorem runsS : Tri MS Try.prog E body ⟨[.v (.an 0 (.sym n0)), .v (.an 1 (.sym n1)), .v (.bool (.sym false))] ++ List.replicate (nt - 3) .undef, [(0, some (.rotab ks ts)), (1, some (.rotab ks ls))], 2, []⟩ Q := by
  have hd : ∀ (l : List Nat), l.all (Nat.ble 2) = true → ∀ b, b ∈ l → E.D b := fun l hl b hb => hD b (Nat.le_of_ble_eq_true (List.all_eq_true.1 hl b hb))
  have ht : ∀ {k : Nat}, Nat.ble k 30 = true → k ≤ E.top := fun h => by rw [hT]; exact Nat.le_of_ble_eq_true h
  have hk : Known (Some16.rN ls) (rA ls) (wsE ts) := known hf1
  have hN := hk.hN
  refine Tri.listR (m := 18) (n := 127) (l := (Eng.spine 12 body).1) codeOK 12 rfl restE (startS n0 n1 ts ls h0 hf0 h1 hf1) (Tr.all_ok ⟨rfl, rfl, ht rfl, hd _ rfl, fun js => ?_⟩)
  refine Tri.preE fun aa ww hat => ?_
  obtain ⟨js, hat⟩ := at_rename (dirty' := []) (m := 18) (n := 127) rBeg (nid' := 10) rfl (by simp [length_junk]) rfl rfl (by rw [hE]; rfl) (by rw [hE]; decide) (by rw [hT]; decide) hat
  have hat := at_wk2 (dirty' := []) (hp' := base ts ls (xsE 19791209299973 ts) (wsE ts) 18 17 2 (Some16.rN ls) (rA ls 0) (rA ls 1) (rA ls 2) (rA ls 3) (rA ls 4) (rA ls 5) (rA ls 6) (rA ls 7) ++ [(8, some (oR (Some16.rN ls) (rA ls) .look))]) (by repeat' (first | exact trivial | refine ⟨.inl rfl, ?_⟩ | refine ⟨.inr ⟨_, _, _, rfl, rfl, (by (repeat' apply And.intro) <;> first | rfl | trivial)⟩, ?_⟩)) hat
  refine ⟨_, hat, ?_⟩
  refine Tri.seq (R := fun x s => x = .normal ∧ DR n0 n1 (Some16.rN ls) ts ls (wsE ts) (rA ls) 17 s) ?_ ?_ (fun x s hx hh => absurd hh.1 hx)
  · refine Tri.seq (R := fun x s => x = .normal ∧ JR n0 n1 (Some16.rN ls) ts ls (wsE ts) (rA ls) 17 0 s) ?_ ?_ (fun x s hx hh => absurd hh.1 hx)
    · refine Tri.postE (Q := fun x s => x = .normal ∧ ∀ aa ww, At MS E s aa ww → ∃ s', At MS E s' aa ww ∧ JR n0 n1 (Some16.rN ls) ts ls (wsE ts) (rA ls) 17 0 s') (Tri.allR (m := 18) (n := 127) (codeOK _) (init1 n0 n1 false 18 17 (Some16.rN ls) (rA ls 0) (rA ls 1) (rA ls 2) (rA ls 3) (rA ls 4) (rA ls 5) (rA ls 6) (rA ls 7) ts ls (xsE 19791209299973 ts) (wsE ts) js (some (oR (Some16.rN ls) (rA ls) .look)) 2 (.t []) rfl (by decide) hN) (Tr.all_ok ⟨rfl, ht rfl, hd _ rfl, fun js => ⟨rfl, fun aa ww hat => ⟨SR n0 n1 0 ts ls (xsE 19791209299973 ts) (wsE ts) 18 17 (Some16.rN ls) (rA ls) .look js, at_tm (p' := pre n0 n1 false false 0) (by (repeat' apply And.intro) <;> first | rfl | trivial) hat, ?_⟩⟩⟩)) ?_
      · refine ⟨xsE 19791209299973 ts, .look, 18, js, ⟨rfl, fun k hk => by rw [xs_at 19791209299973 ts k hk]; exact hdr_state ts k, fun _ => ?_, (fun r k w h0 h1 h2 h3 h4 h5 h6 e => by cases e), (fun e => by cases e)⟩, by decide, by decide, by decide, by decide, rfl⟩
        show mNo 19791209299973 = 5 ∧ mMode 19791209299973 = 2 ∧ mMark 19791209299973 = 1 ∧ mList 19791209299973 = 0
        decide
      rintro x s aa ww ⟨rfl, hh⟩ hat
      obtain ⟨s', h1, h2⟩ := hh aa ww hat
      exact ⟨s', h1, rfl, h2⟩
    · rintro s ⟨_, hJ⟩
      exact loopR E hE hT hD hk hJ
  · rintro s ⟨_, i, xs, s, c, js, hv, hs, hc0, hc1, rfl⟩
    cases s with
    | over r => exact afterN E hE hT hD hk (hv.dn rfl) hv.len ⟨hc0, hc1⟩ js
    | overP r a w h0 h1 h2 h3 h4 h5 h6 => exact afterP E hE hT hD hk (hv.dn rfl) hv.len ⟨hc0, hc1⟩ js
    | look => cases hs
    | sh r k w h0 h1 h2 h3 h4 h5 h6 => cases hs
    | tell r => cases hs
    | tellP r a w h0 h1 h2 h3 h4 h5 h6 => cases hs
theorem runs (fx : Bool) : Tri MS Try.prog E body ⟨[.v (.an 0 (.sym n0)), .v (.an 1 (.sym n1)), .v (.bool (.sym fx))] ++ List.replicate (nt - 3) .undef, [(0, some (.rotab ks ts)), (1, some (.rotab ks ls))], 2, []⟩ Q := by
  cases fx with
  | true => exact runsF n0 n1 ts ls h0 h1 hf0 hf1 E hE hT hD
  | false => exact runsS n0 n1 ts ls h0 h1 hf0 hf1 E hE hT hD
end
abbrev tys : List TypeId := [22, 22, 4]
theorem hts : Try.f3.params.toList = tys := by kernel_rfl
theorem arg0 (n : Int) : (SV.s (mkS1 Try.prog 4 [.bool] [n])) = .v (.bool (.sym (n != 0))) := by kernel_rfl
theorem core (w : World) (vals : List Value) (ha : F2 (ArgOK Try.prog w) tys vals) :
    Calls Try.prog 3 vals.toArray w fun e W' => ∃ v, e = .returned v ∧ v = .bool true ∧ Below w.heap.size w W' := by
  obtain ⟨u, v, b, rfl⟩ : ∃ u v b, vals = [u, v, b] := by
    match vals, ha with
    | [u, v, b], _ => exact ⟨u, v, b, rfl⟩
    | [], ha => exact ha.elim
    | [_], ha => exact ha.2.elim
    | [_, _], ha => exact ha.2.2.elim
    | _ :: _ :: _ :: _ :: _, ha => exact ha.2.2.2.elim
  obtain ⟨xs, p, hf, hlen, hall⟩ := arg_slice (e := 3) (ks := ks) ha.1 (by kernel_rfl) (by kernel_rfl) (by kernel_rfl) (by decide)
  obtain ⟨ys, q, hg, hlen2, hall2⟩ := arg_slice (e := 3) (ks := ks) ha.2.1 (by kernel_rfl) (by kernel_rfl) (by kernel_rfl) (by decide)
  obtain ⟨ns, cs, hcs, hr⟩ := arg_plain (ks := [.bool]) ha.2.2.1 (by kernel_rfl)
  obtain ⟨m, rfl⟩ : ∃ m, ns = [m] := by
    have := hcs.fits'
    match ns, this with
    | [m], h => exact ⟨m, rfl⟩
    | [], h => exact h.elim
    | _ :: _ :: _, h => exact h.2.elim
  let ρ0 : Rho := fun b => match b with | 0 => some p | 1 => some q | _ + 2 => none
  have hρ : ∀ b, 2 ≤ b → ρ0 b = none := fun b hb => by
    match b, hb with
    | 0, hb => exact absurd hb (by decide)
    | 1, hb => exact absurd hb (by decide)
    | b + 2, _ => rfl
  have hr0 : RS ρ0 (.s (mkS1 Try.prog 4 [.bool] [m])) b := hr ρ0
  rw [arg0] at hr0
  refine (calls_of_triA (S := MS) (vargs := [u, v, b]) (R := IsTrue) Try.func3 hb 2 30 (by omega) hρ (hp := [(0, some (.rotab ks xs)), (1, some (.rotab ks ys))]) (fun b o ho => ?_) (runs xs.length ys.length xs ys rfl rfl (Laid.fitB_of hf) (Laid.fitB_of hg) _ rfl rfl (fun b hb => hb) (m != 0)) ⟨(hall MS ρ0 0 rfl).1, (hall2 MS ρ0 1 rfl).1, hr0, trivial⟩).mono ?_
  · match b, ho with
    | 0, ho =>
      injection ho with ho
      subst ho
      exact (hall MS ρ0 0 rfl).2
    | 1, ho =>
      injection ho with ho
      subst ho
      exact (hall2 MS ρ0 1 rfl).2
    | b + 2, ho => cases ho
  · rintro e w' ⟨v, x, ρ, rfl, hv, hR, hbel⟩
    exact ⟨v, rfl, hR.value hv, hbel⟩
theorem own' : ownKnob Try.prog.godebug = none := by kernel_rfl
theorem lifted {H : Type} (os : Os) (started : os.Started) (enc : TypeId × Value → H) : ReturnsInHanded {} Try.checked os 3 .any (Rows.shakeRootsSpec.pre6 enc Try.prog Try.f3 Rows.shakeRootsRow.domain false) (Rows.shakeRootsSpec.post enc Try.prog Try.f3 false true false false) :=
  law_lifted own' started (by kernel_rfl) (by kernel_rfl)
    (ChangeSpec.witness6 (enc := enc) (C := Try.checked) false ⟨#[], #[.slice none 0 0, .slice none 0 0, .bool false], []⟩ 8 (by kernel_rfl) (by kernel_rfl) (by kernel_rfl) (by kernel_rfl))
    (tb := 4) (by kernel_rfl) (by kernel_rfl) rfl
    (fun ds hd => by
      match ds, hd with
      | [_, _, _], _ => exact ⟨rfl, rfl, rfl⟩)
    (by kernel_rfl) (by kernel_rfl) (fun W vals ha => core W vals (hts ▸ ha))
theorem proved : Rows.ShakeRootsSaid :=
  OpenClaim.holds_of_wide 3 Try.f3 rfl rfl rfl rfl rfl rfl rfl ⟨rfl, rfl, rfl, rfl, rfl⟩ rfl rfl rfl rfl rfl (by kernel_rfl) Try.func3 (by kernel_rfl) (of_decide_eq_true (by kernel_rfl))
    (by unfold Func.isWrapper; first | (rw [if_pos (by decide +kernel)]; kernel_rfl) | (rw [if_neg (by decide +kernel)]; exact ⟨rfl, rfl⟩))
    (fun os started H enc _ => lifted os started enc)
end Go.Proofs.Ytdongoplhnpdiaa.ShakeRoots
