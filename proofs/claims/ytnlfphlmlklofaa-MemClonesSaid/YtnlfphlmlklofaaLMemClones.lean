/-
  MemClones: a clone goes its own way: what is done to one of both is not seen in the other one; the calls ahead and the calls of the clone are functions of the words and counts alone.
-/
import Derived.Test.YtnlfphlmlklofaaRows
import Derived.Test.YtnlfphlmlklofaaTMemClones
namespace Go.Proofs.Ytnlfphlmlklofaa.MemClones
open Go Go.RowKit Go.Proofs.Ytnlfphlmlklofaa.Eng
set_option linter.unusedVariables false
set_option linter.unusedSimpArgs false
set_option maxRecDepth 20000
theorem tabL_ok : ∀ p ∈ tabL, FunOK MS Try.prog p.1 p.2 := tab_cons Some.ok (tab_cons Clone.ok Some.tabS_ok)
theorem codeOK (c : Code) : CodeOK MS Try.prog c (ev c) :=
  evCode_sound progOK (fun f args hp nid r h _ => evF_sound progOK (lookH_ok tabL_ok) 100 19 f args hp nid r h) 100 c
theorem hb : Try.f5.body = some body := by kernel_rfl
theorem restE : (Eng.spine 5 body).2 = codeAt body [true, true, true, true, true] := by kernel_rfl
theorem res (nl ml : Nat) (x2 x3 x5 x6 : SV) (hp : HP MObj) (nid : Nat) (r : Bool) (js : Nat → SV) : vresults Try.prog (⟨[.v (.an 0 (.sym nl)), .v (.an 1 (.sym ml)), x2, x3, .v (.bool (.sym r)), x5, x6] ++ junk js 88 7, hp, nid, []⟩ : St MObj) Try.f5.results.toList = .ok [.one (.bool (.sym r))] := by kernel_rfl
theorem runs (nl ml : Nat) (ls ms : List (List Int)) (hl : nl = ls.length) (hm : ml = ms.length) (hf : RFits ks ls) (hg : RFits ks ms) (E : Ctx MObj) (hE : E.nid0 = 2) (hT : E.top = 10) (hD : ∀ b, 2 ≤ b → E.D b) :
    Tri MS Try.prog E body ⟨[.v (.an 0 (.sym nl)), .v (.an 1 (.sym ml))] ++ List.replicate (nt - 2) .undef, [(0, some (.rotab ks ls)), (1, some (.rotab ks ms))], 2, []⟩
      fun x st => (x = .normal ∨ x = .ret) ∧ ∃ l, (vresults Try.prog st Try.f5.results.toList).run = some l ∧ IsTrue (tupleOf l) := by
  have hd : ∀ (l : List Nat), l.all (Nat.ble 2) = true → ∀ b, b ∈ l → E.D b := fun l hl b hb => hD b (Nat.le_of_ble_eq_true (List.all_eq_true.1 hl b hb))
  have ht : ∀ {k : Nat}, Nat.ble k 10 = true → k ≤ E.top := fun h => by rw [hT]; exact Nat.le_of_ble_eq_true h
  refine Tri.listR (m := 7) (n := 88) (l := (Eng.spine 5 body).1) codeOK 5 rfl restE (p1 nl ml ls ms hl (Some.fitB_of hf)) (Tr.all_ok ⟨rfl, rfl, ht rfl, hd _ rfl, fun js => ?_⟩)
  obtain ⟨g1, g2, g3⟩ := Some.iter_len ls ⟨[0, 0, 0, 0, 0, 0, 0, 0], 0, 0⟩ (min ls.length 40)
  have e : Some.sF ls [0, 0, 0, 0, 0, 0, 0, 0] 0 0 = Some.iter ls (min ls.length 40) ⟨[0, 0, 0, 0, 0, 0, 0, 0], 0, 0⟩ := rfl
  generalize hs : Some.iter ls (min ls.length 40) ⟨[0, 0, 0, 0, 0, 0, 0, 0], 0, 0⟩ = s at g1 g2 g3 e
  obtain ⟨xs, c, t⟩ := s
  have g1 : xs.length = 8 := g1
  have g2 : (0 : Int) ≤ c := g2
  have g3 : c ≤ 0 + ((min ls.length 40 : Nat) : Int) := g3
  have hc2 : c ≤ 40 := by omega
  refine (?_ : Tri MS Try.prog E _ ⟨(p1_l0 nl ml ls ms).pre ++ junk js 88 7, [(0, some (.rotab ks ls)), (1, some (.rotab ks ms)), (2, some (.abs (.mem 81 (Some.sF ls [0, 0, 0, 0, 0, 0, 0, 0] 0 0).xs (Some.sF ls [0, 0, 0, 0, 0, 0, 0, 0] 0 0).c (Some.sF ls [0, 0, 0, 0, 0, 0, 0, 0] 0 0).t)))], 3, []⟩ _)
  rw [e]
  refine Tri.allR (m := 7) (n := 88) (codeOK _) (p2 nl ml ls ms xs c t (.t []) (.t []) (.v (.bool (.lit true))) js hm (Some.fitB_of hg) g1 g2 hc2 (wrap_i64_of (by omega) (by omega))) (Tr.all_ok ⟨rfl, ht rfl, hd _ rfl, fun js => ⟨.inr rfl, _, (congrArg Tr.run (res nl ml _ _ _ _ _ _ _ js)).trans rfl, ?_⟩⟩)
  have ew : W (c + 1 + 1 + 1 + 1 + 1 + 1 + 1 + 1 + 8) = c + 1 + 1 + 1 + 1 + 1 + 1 + 1 + 1 + 8 := wrap_i64_of (by omega) (by omega)
  show (_ == _) = true
  rw [ew, beq_iff_eq]
  omega
abbrev ts : List TypeId := [22, 22]
theorem hts : Try.f5.params.toList = ts := by kernel_rfl
theorem core (w : World) (vals : List Value) (ha : F2 (ArgOK Try.prog w) ts vals) :
    Calls Try.prog 5 vals.toArray w fun e W' => ∃ v, e = .returned v ∧ v = .bool true ∧ Below w.heap.size w W' := by
  obtain ⟨u, v, rfl⟩ : ∃ u v, vals = [u, v] := by
    match vals, ha with
    | [u, v], _ => exact ⟨u, v, rfl⟩
    | [], ha => exact ha.elim
    | [_], ha => exact ha.2.elim
    | _ :: _ :: _ :: _, ha => exact ha.2.2.elim
  obtain ⟨xs, p, hf, hlen, hall⟩ := arg_slice (e := 31) (ks := ks) ha.1 (by kernel_rfl) (by kernel_rfl) (by kernel_rfl) (by decide)
  obtain ⟨ys, q, hg, hlen2, hall2⟩ := arg_slice (e := 31) (ks := ks) ha.2.1 (by kernel_rfl) (by kernel_rfl) (by kernel_rfl) (by decide)
  let ρ0 : Rho := fun b => match b with | 0 => some p | 1 => some q | _ + 2 => none
  have hρ : ∀ b, 2 ≤ b → ρ0 b = none := fun b hb => by
    match b, hb with
    | 0, hb => exact absurd hb (by decide)
    | 1, hb => exact absurd hb (by decide)
    | b + 2, _ => rfl
  refine (calls_of_triA (S := MS) (vargs := [u, v]) (R := IsTrue) Try.func5 hb 2 10 (by omega) hρ (hp := [(0, some (.rotab ks xs)), (1, some (.rotab ks ys))]) (fun b o ho => ?_) (runs xs.length ys.length xs ys rfl rfl hf hg _ rfl rfl (fun b hb => hb)) ⟨(hall MS ρ0 0 rfl).1, (hall2 MS ρ0 1 rfl).1, trivial⟩).mono ?_
  · match b, ho with
    | 0, ho =>
      injection ho with ho
      subst ho
      exact (hall MS ρ0 0 rfl).2
    | 1, ho =>
      injection ho with ho
      subst ho
      exact (hall2 MS ρ0 1 rfl).2
    | b + 2, ho => cases ho
  · rintro e w' ⟨v, x, ρ, rfl, hv, hR, hbel⟩
    exact ⟨v, rfl, hR.value hv, hbel⟩
theorem own : ownKnob Try.prog.godebug = none := by kernel_rfl
theorem lifted {H : Type} (os : Os) (started : os.Started) (enc : TypeId × Value → H) : ReturnsInHanded {} Try.checked os 5 .any (Rows.memClonesSpec.pre6 enc Try.prog Try.f5 Rows.memClonesRow.domain false) (Rows.memClonesSpec.post enc Try.prog Try.f5 false true false false) :=
  law_lifted own started (by kernel_rfl) (by kernel_rfl)
    (ChangeSpec.witness6 (enc := enc) (C := Try.checked) false ⟨#[], #[.slice none 0 0, .slice none 0 0], []⟩ 8 (by kernel_rfl) (by kernel_rfl) (by kernel_rfl) (by kernel_rfl))
    (tb := 4) (by kernel_rfl) (by kernel_rfl) rfl
    (fun ds hd => by
      match ds, hd with
      | [_, _], _ => exact ⟨rfl, rfl, rfl⟩)
    (by kernel_rfl) (by kernel_rfl) (fun W vals ha => core W vals (hts ▸ ha))
theorem proved : Rows.MemClonesSaid :=
  OpenClaim.holds_of_wide 5 Try.f5 rfl rfl rfl rfl rfl rfl rfl ⟨rfl, rfl, rfl, rfl, rfl⟩ rfl rfl rfl rfl rfl (by kernel_rfl) Try.func5 (by kernel_rfl) (of_decide_eq_true (by kernel_rfl))
    (by unfold Func.isWrapper; first | (rw [if_pos (by decide +kernel)]; kernel_rfl) | (rw [if_neg (by decide +kernel)]; exact ⟨rfl, rfl⟩))
    (fun os started H enc _ => lifted os started enc)
end Go.Proofs.Ytnlfphlmlklofaa.MemClones
