/-
  ListOwn: no cell is told by two Pops, but if it was pushed in between, and nothing is lost; whatever the number of cells is, and whatever is picked. The row.
  Conditions: none but the row's own (its arguments are an int and a slice of ints).
-/
import Derived.Test.YtjohhjilglilkaaRows
import Derived.Test.YtjohhjilglilkaaLListOwn7
import Derived.Test.YtjohhjilglilkaaEngZj
namespace Go.Proofs.Ytjohhjilglilkaa.ListOwn
open Go Go.RowKit Go.Proofs.Ytjohhjilglilkaa.Eng ListOwnP
set_option linter.unusedVariables false
set_option linter.unusedSimpArgs false
set_option linter.unusedSectionVars false
set_option maxRecDepth 20000
set_option maxHeartbeats 2000000
theorem idle_of {s : Nat → WS} {q : Nat} (h : (s q).z.abs = .idle) : (s q).z = .idle := by
  cases hz : (s q).z with
  | idle => rfl
  | pop j w k se => rw [hz] at h; match j, h with | 0, h => cases h | 1, h => cases h | j + 2, h => cases h
  | push j a w => rw [hz] at h; match j, h with | 0, h => cases h | 1, h => cases h | j + 2, h => cases h
theorem gP0 {s : Nat → WS} (h : ∀ q, q < 4 → (s q).z = .idle) (n : Nat) : hget (GP s) n = hget [(0, some (VObj.cells [.nilp, .nilp, .nilp, .nilp] 28))] n := by
  unfold GP GG CL fP fPb cP
  rw [h 0 (by decide), h 1 (by decide), h 2 (by decide), h 3 (by decide)]
  rfl
theorem gU0 {s : Nat → WS} (h : ∀ q, q < 4 → (s q).z = .idle) (n : Nat) : hget (GU s) n = hget [(0, some (VObj.cells [.nilp, .nilp, .nilp, .nilp] 30))] n := by
  unfold GU GG CL fU fUb cU
  rw [h 0 (by decide), h 1 (by decide), h 2 (by decide), h 3 (by decide)]
  rfl
section
variable (n : Int) (np : Nat) (ps : List (List Int)) (E : Ctx MObj) (hE : E.nid0 = 1) (hT : E.top = 60) (hD : ∀ b, 1 ≤ b → E.D b)
include hE hT hD
theorem restT {N : Nat} (hN12 : N ≤ 12) {st : St MObj} (ho : Over n np ps N .normal st) : Tri MS Try.prog E restC st Qt := by
  have hd : ∀ (l : List Nat), l.all (Nat.ble 1) = true → ∀ b, b ∈ l → E.D b := fun l hl b hb => hD b (Nat.le_of_ble_eq_true (List.all_eq_true.1 hl b hb))
  have ht : ∀ {k : Nat}, Nat.ble k 60 = true → k ≤ E.top := fun h => by rw [hT]; exact Nat.le_of_ble_eq_true h
  obtain ⟨_, xs, c, s, V, L, i, js, G, hi, hc, hV, rfl⟩ := ho
  have hx := G.inv.len
  have hz : ∀ q, q < 4 → (s q).z = .idle := fun q hq => idle_of (hi q hq)
  have hzz : allOf L (own' s) (zz s) = allOf L (own' s) zI := by
    unfold allOf
    simp only [zz, hz 0 (by decide), hz 1 (by decide), hz 2 (by decide), hz 3 (by decide)]
    rfl
  have I : Inv N xs V L (own' s) zI := ⟨G.inv.hn, hx, G.inv.ver, G.inv.low, G.inv.ch, hzz ▸ G.inv.perm, fun q hq => trivial⟩
  have hacc : acc (own' s) 4 = flat (own' s) := rfl
  have hlen := I.lenI
  have hmem : ∀ q, q < 4 → ∀ a ∈ (s q).h.own, ∃ j : Nat, j < 12 ∧ a = 96 + 4 * (j : Int) := fun q hq a ha => cell_lit I.hn (I.memI (by
    refine List.mem_append.2 (.inr ?_)
    unfold flat
    rcases q4 hq with rfl | rfl | rfl | rfl <;> simp [own', ha]))
  refine Tri.preE fun aa ww hat => ?_
  obtain ⟨d, hN, hat⟩ := at_plain (pre := pre n np N i) (m := 12) (n := 253) rfl hat
  have hat := at_grpopen0 (b := 2) (L := [.nilp, .nilp, .nilp, .nilp]) rfl rfl (gP0 hz) hat
  have hat := at_grpopen0 (b := 3) (L := [.nilp, .nilp, .nilp, .nilp]) rfl rfl (gU0 hz) hat
  refine ⟨_, hat, ?_⟩
  rw [restE2]
  refine Tri.listR (m := 21) (n := 244) (l := [codeAt body [true, true, true, true, true, true, true, true, true, false], codeAt body [true, true, true, true, true, true, true, true, true, true, false]]) codeOK 2 rfl rfl (sn n N i c 0 np ps xs NP NU (.abs (.grp (GH s))) d d hx (by omega)) (Tr.all_ok ⟨rfl, rfl, ht rfl, hd _ rfl, fun js => ?_⟩)
  refine Tri.preE fun aa ww hat => ?_
  have hat := at_slot (pre n np N i ++ [d 12, d 13, d 14, d 15, d 16, d 17, d 18, .v (.ptr 5 0)]) (y := .v (ii 0)) (d' := []) (by exact ⟨rfl, rfl⟩) hat
  have hat := at_wk2 (dirty' := []) (hp' := H0 ps xs c s (bOf [])) (by exact ⟨.inl rfl, .inl rfl, .inl rfl, .inl rfl, .inl rfl, .inr ⟨_, _, _, rfl, rfl, ⟨rfl, rfl, rfl, rfl, rfl, rfl, rfl, rfl, rfl, rfl, rfl, rfl, rfl, rfl, rfl, rfl, rfl, rfl, rfl, rfl, rfl, rfl, rfl, rfl, rfl, rfl, rfl, rfl, rfl, rfl, rfl, rfl, rfl, rfl, rfl, rfl, rfl, rfl, rfl, rfl, rfl, rfl, rfl, rfl, rfl, rfl, rfl, rfl, rfl, rfl, rfl, rfl, rfl, rfl, rfl, rfl, rfl, rfl, rfl, rfl, rfl, rfl, rfl, rfl, rfl, rfl, rfl, rfl, rfl, rfl, rfl, rfl, rfl, rfl, rfl, rfl, rfl, rfl, rfl, rfl, rfl, rfl, rfl, rfl, rfl, rfl, rfl, rfl, rfl, rfl, rfl, rfl, rfl, rfl, rfl, rfl, (bOf_nil 0).symm, rfl, rfl, rfl, (bOf_nil 1).symm, rfl, rfl, rfl, (bOf_nil 2).symm, rfl, rfl, rfl, (bOf_nil 3).symm, rfl, rfl, rfl, (bOf_nil 4).symm, rfl, rfl, rfl, (bOf_nil 5).symm, rfl, rfl, rfl, (bOf_nil 6).symm, rfl, rfl, rfl, (bOf_nil 7).symm, rfl, rfl, rfl, (bOf_nil 8).symm, rfl, rfl, rfl, (bOf_nil 9).symm, rfl, rfl, rfl, (bOf_nil 10).symm, rfl, rfl, rfl, (bOf_nil 11).symm, rfl, rfl, rfl, rfl, rfl, rfl, rfl, rfl, rfl, rfl, rfl, rfl, rfl, rfl, rfl, rfl, rfl, rfl, rfl, trivial⟩, rfl⟩, trivial⟩) hat
  refine ⟨_, hat, ?_⟩
  refine Tri.seq (R := fun x st => x = .normal ∧ ∃ js, st = (⟨pre0 n np N i (acc (own' s) 4).length d ++ junk js 244 21, H0 ps xs c s (bOf (acc (own' s) 4)), 6, []⟩ : St MObj)) ?_ ?_ (fun x s hx hh => absurd hh.1 hx)
  · refine Tri.seq (R := fun x st => x = .normal ∧ ∃ js, st = (⟨PK n np N i 0 d (lt 0) js, H0 ps xs c s (bOf []), 6, []⟩ : St MObj)) (Tri.allR (m := 22) (n := 243) (codeOK _) (sk n N i 0 c 0 np ps xs (js 21) NP NU (.abs (.grp (GH s))) (SO (bOf [])) d js hx (by omega) (by omega)) (Tr.all_ok ⟨rfl, ht rfl, hd _ rfl, fun js => ⟨rfl, js, rfl⟩⟩)) ?_ (fun x s hx hh => absurd hh.1 hx)
    rintro st ⟨_, js, rfl⟩
    refine Tri.preE fun aa ww hat => ⟨_, at_slot (pre0 n np N i 0 d) (y := .v (ii 0)) (d' := []) (by exact ⟨rfl, rfl⟩) hat, ?_⟩
    exact workers n N i c np ps xs d hx (by omega) E hE hT hD hN s hmem (hacc ▸ (List.nodup_append.1 I.ndI).2.1) (by rw [hacc]; omega) js
  · rintro st ⟨_, js, rfl⟩
    rw [hacc]
    have hfl : ((flat (own' s)).length : Int) ≤ 12 := by omega
    refine Tri.preE fun aa ww hat => ?_
    obtain ⟨js', hN', hat⟩ := at_plain (pre := pre0 n np N i (flat (own' s)).length d) (m := 21) (n := 244) rfl hat
    let d2 : Nat → SV := fun t => match Nat.blt t 21 with
      | true => d t
      | false => js' t
    have hN2 : ∀ t, NoName (d2 t) := fun t => by
      show NoName (match Nat.blt t 21 with | true => d t | false => js' t)
      cases Nat.blt t 21 with
      | true => exact hN t
      | false => exact hN' t
    have hat : At MS E ⟨pre0 n np N i (flat (own' s)).length d2 ++ [d2 21, d2 22, d2 23, js' 24] ++ junk js' 240 25, H0 ps xs c s (bOf (flat (own' s))), 6, []⟩ aa ww := hat
    refine ⟨_, hat, ?_⟩
    refine Tri.seq (R := fun x st => x = .normal ∧ ∃ xs c js, xs.length = 160 ∧ (0 ≤ c ∧ c ≤ 100000) ∧ st = (⟨pre0 n np N i N d2 ++ junk js 244 21, H0 ps xs c s (bOf (cells N)), 6, []⟩ : St MObj)) ?_ ?_ (fun x s hx hh => absurd hh.1 hx)
    · refine Tri.seq (R := fun x st => x = .normal ∧ ∃ js, st = (⟨PB n np N i (flat (own' s)).length d2 (lt 0) js, H0 ps xs c s (bOf (flat (own' s))), 6, []⟩ : St MObj)) (Tri.allR (m := 25) (n := 240) (codeOK _) (z6 n N i ((flat (own' s)).length : Nat) c 0 np ps xs (js' 24) NP NU (.abs (.grp (GH s))) (SO (bOf (flat (own' s)))) d2 js' hx (by omega) (by omega)) (Tr.all_ok ⟨rfl, ht rfl, hd _ rfl, fun js => ⟨rfl, js, rfl⟩⟩)) ?_ (fun x s hx hh => absurd hh.1 hx)
      rintro st ⟨_, js, rfl⟩
      refine Tri.preE fun aa ww hat => ⟨_, at_slot (pre0 n np N i (flat (own' s)).length d2 ++ [d2 21, d2 22, d2 23]) (y := .v (ii 0)) (d' := []) (by exact ⟨rfl, rfl⟩) hat, ?_⟩
      exact rest n N i np ps d2 E hE hT hD hN2 s I hV hc js
    · rintro st ⟨_, xs, c, js, hx, hc, rfl⟩
      exact last n i np ps d2 E hE hT hD hN12 hx hc s js
end
theorem hb : Try.f3.body = some body := by kernel_rfl
abbrev ks : List CK := [.int .i64]
abbrev ts : List TypeId := [3, 22]
theorem hts : Try.f3.params.toList = ts := by kernel_rfl
theorem arg0 (n : Int) : (SV.s (mkS1 Try.prog 3 [.int .i64] [n])) = .v (ii n) := by kernel_rfl
theorem core (w : World) (vals : List Value) (ha : F2 (ArgOK Try.prog w) ts vals) (hz : F2 (ArgSz Try.prog w) ts vals) :
    Calls Try.prog 3 vals.toArray w fun e W' => ∃ v, e = .returned v ∧ v = .bool true ∧ Below w.heap.size w W' := by
  obtain ⟨u, v, rfl⟩ : ∃ u v, vals = [u, v] := by
    match vals, ha with
    | [u, v], _ => exact ⟨u, v, rfl⟩
    | [], ha => exact ha.elim
    | [_], ha => exact ha.2.elim
    | _ :: _ :: _ :: _, ha => exact ha.2.2.elim
  obtain ⟨ns, cs, hcs, hr⟩ := arg_plain (ks := [.int .i64]) ha.1 (by kernel_rfl)
  obtain ⟨n0, rfl, hfit⟩ : ∃ n0, ns = [n0] ∧ CK.fits (.int .i64) n0 := by
    have := hcs.fits'
    match ns, this with
    | [n0], h => exact ⟨n0, rfl, h.1⟩
    | [], h => exact h.elim
    | _ :: _ :: _, h => exact h.2.elim
  obtain ⟨xs, p, hf, hlen, hall⟩ := arg_slice (e := 3) (ks := ks) ha.2.1 (by kernel_rfl) (by kernel_rfl) (by kernel_rfl) (by decide)
  let ρ0 : Rho := fun b => match b with | 0 => some p | _ + 1 => none
  have hρ : ∀ b, 1 ≤ b → ρ0 b = none := fun b hb => by
    match b, hb with
    | b + 1, _ => rfl
  have hr0 : RS ρ0 (.s (mkS1 Try.prog 3 [.int .i64] [n0])) u := hr ρ0
  rw [arg0] at hr0
  have hsz : xs.length ≤ 140737488355328 := by
    have := an_len (k := 8) hz.2.1 (e := 3) (by kernel_rfl) (hall MS ρ0 0 rfl).1 (by kernel_rfl)
    simp only [reachBytes] at this
    omega
  refine (calls_of_triA (S := MS) (vargs := [u, v]) (R := IsTrue) Try.func3 hb 1 60 (by omega) hρ (hp := [(0, some (.rotab ks xs))]) (fun b o ho => ?_) (runs n0 xs.length xs rfl hsz hf _ rfl rfl (fun b hb => hb) hfit fun N hN st ho => restT n0 xs.length xs _ rfl rfl (fun b hb => hb) hN ho) ⟨hr0, (hall MS ρ0 0 rfl).1, trivial⟩).mono ?_
  · match b, ho with
    | 0, ho =>
      injection ho with ho
      subst ho
      exact (hall MS ρ0 0 rfl).2
    | b + 1, ho => cases ho
  · rintro e w' ⟨v, x, ρ, rfl, hv, hR, hbel⟩
    exact ⟨v, rfl, hR.value hv, hbel⟩
theorem ownK : ownKnob Try.prog.godebug = none := by kernel_rfl
theorem lifted {H : Type} (os : Os) (started : os.Started) (enc : TypeId × Value → H) : ReturnsInHanded {} Try.checked os 3 .any (Rows.listOwnSpec.pre6 enc Try.prog Try.f3 Rows.listOwnRow.domain false) (Rows.listOwnSpec.post enc Try.prog Try.f3 false true false false) :=
  law_liftedS ownK started (by kernel_rfl) (by kernel_rfl)
    (ChangeSpec.witness6 (enc := enc) (C := Try.checked) false ⟨#[], #[.int .i64 0, .slice none 0 0], []⟩ 8 (by kernel_rfl) (by kernel_rfl) (by kernel_rfl) (by kernel_rfl))
    (tb := 4) (by kernel_rfl) (by kernel_rfl) rfl
    (fun ds hd => by
      match ds, hd with
      | [_, _], _ => exact ⟨rfl, rfl, rfl⟩)
    (by kernel_rfl) (by kernel_rfl) (fun W vals ha hz => core W vals (hts ▸ ha) (hts ▸ hz))
theorem proved : Rows.ListOwnSaid :=
  OpenClaim.holds_of_wide 3 Try.f3 rfl rfl rfl rfl rfl rfl rfl ⟨rfl, rfl, rfl, rfl, rfl⟩ rfl rfl rfl rfl rfl (by kernel_rfl) Try.func3 (by kernel_rfl) (of_decide_eq_true (by kernel_rfl))
    (by unfold Func.isWrapper; first | (rw [if_pos (by decide +kernel)]; kernel_rfl) | (rw [if_neg (by decide +kernel)]; exact ⟨rfl, rfl⟩))
    (fun os started H enc _ => lifted os started enc)
end Go.Proofs.Ytjohhjilglilkaa.ListOwn
