/-
  next of flitref16 as a contract: which root is next, and what is done with it.
-/
import Derived.Test.YtdongoplhnpdiaaTNext2
import Derived.Test.YtdongoplhnpdiaaEvFrom
import Derived.Test.YtdongoplhnpdiaaEngZi
namespace Go.Proofs.Ytdongoplhnpdiaa.Next
open Go Go.RowKit Go.Proofs.Ytdongoplhnpdiaa.Eng
set_option linter.unusedVariables false
set_option linter.unusedSimpArgs false
set_option linter.unusedSectionVars false
set_option maxRecDepth 20000
theorem codeOK (c : Code) : CodeOK MS Try.prog c (ev c) :=
  evCode_sound progOK (fun f args hp nid r h _ => evF_sound progOK (lookH_ok L16.tabT_ok) 100 19 f args hp nid r h) 100 c
theorem hb : Try.f44.body = some body := by kernel_rfl
theorem bodyE : body = .seq (.block 0 (.loop (.seq (at' [false]) (at' [true])))) (codeAt body [true]) := by kernel_rfl
theorem nx_skip {K N : Int} {L : Int → Int} (hK : K ≤ N) (hN : N ≤ 8) : ∀ m : Nat, (m : Int) ≤ K → From.nx K N L (8 - m) m = From.nx K N L 8 0
  | 0, _ => rfl
  | m + 1, h => by
    rw [← nx_skip hK hN m (by omega), show 8 - m = (8 - (m + 1)) + 1 by omega, From.nx_cont (by omega) (.inl (by omega))]
    rfl
theorem vres (hp : HP MObj) (s1 : SV) (nid : Nat) (js : Nat → SV) : vresults Try.prog (⟨[.v (.ptr 0 0), s1] ++ junk js 70 2, hp, nid, []⟩ : St MObj) Try.f44.results.toList = .ok [] := by kernel_rfl
section
variable {K mk N L0 L1 L2 L3 L4 L5 L6 L7 : Int} {d : CC} {xx : VV} {oz : Option (VObj MObj)} (hN : 0 ≤ N ∧ N ≤ 8) (E : Ctx MObj) (hT : E.top = 9) (hD : ∀ b, 2 ≤ b → E.D b) (h0 : E.D 0)
include hN hT hD h0
theorem cond {pp : VV} {k : Int} (hk : 0 ≤ k ∧ k ≤ N) (s1 : SV) (js : Nat → SV) : Tri MS Try.prog E (at' [false]) ⟨[.v (.ptr 0 0), s1] ++ junk js 70 2, [(0, some (qc0 d pp k mk N L0 L1 L2 L3 L4 L5 L6 L7 xx)), (1, oz)], 2, []⟩ fun x st => (∃ js, st = ⟨[.v (.ptr 0 0), s1] ++ junk js 70 2, [(0, some (qc0 d pp k mk N L0 L1 L2 L3 L4 L5 L6 L7 xx)), (1, oz)], 2, []⟩) ∧ ((x = .normal ∧ k < N ∧ (From.lf L0 L1 L2 L3 L4 L5 L6 L7) k = 0) ∨ (x = .exit 0 ∧ (¬ k < N ∨ (From.lf L0 L1 L2 L3 L4 L5 L6 L7) k ≠ 0))) := by
  have hd : ∀ (l : List Nat), l.all (fun b => Nat.beq b 0 || Nat.ble 2 b) = true → ∀ b, b ∈ l → E.D b := fun l hl b hb => by
    have := List.all_eq_true.1 hl b hb
    simp only [Bool.or_eq_true] at this
    rcases this with h | h
    · rw [Nat.eq_of_beq_eq_true h]; exact h0
    · exact hD b (Nat.le_of_ble_eq_true h)
  have ht : ∀ {k : Nat}, Nat.ble k 9 = true → k ≤ E.top := fun h => by rw [hT]; exact Nat.le_of_ble_eq_true h
  refine Tri.allR (m := 2) (n := 70) (codeOK _) (g k mk N L0 L1 L2 L3 L4 L5 L6 L7 d pp xx oz s1 js hN hk) (Tr.all_ite (fun q => ?_) fun q => Tr.all_ok ⟨rfl, ht rfl, hd _ rfl, fun js => ⟨⟨js, rfl⟩, .inr ⟨rfl, .inl (of_decide_eq_false q)⟩⟩⟩)
  have q := of_decide_eq_true q
  refine Tr.all_ite (fun hv => ?_) fun hv => ?_
  · have hv : k = 7 := eq_of_beq hv
    have e : (From.lf L0 L1 L2 L3 L4 L5 L6 L7) k = L7 := by rw [hv]; rfl
    exact Tr.all_ite (fun z => Tr.all_ok ⟨rfl, ht rfl, hd _ rfl, fun js => ⟨⟨js, rfl⟩, .inl ⟨rfl, q, by rw [e]; exact eq_of_beq z⟩⟩⟩) fun z => Tr.all_ok ⟨rfl, ht rfl, hd _ rfl, fun js => ⟨⟨js, rfl⟩, .inr ⟨rfl, .inr (by rw [e]; simpa using z)⟩⟩⟩
  have hv7 : k ≠ 7 := fun h => by rw [h] at hv; cases hv
  clear hv
  refine Tr.all_ite (fun hv => ?_) fun hv => ?_
  · have hv : k = 6 := eq_of_beq hv
    have e : (From.lf L0 L1 L2 L3 L4 L5 L6 L7) k = L6 := by rw [hv]; rfl
    exact Tr.all_ite (fun z => Tr.all_ok ⟨rfl, ht rfl, hd _ rfl, fun js => ⟨⟨js, rfl⟩, .inl ⟨rfl, q, by rw [e]; exact eq_of_beq z⟩⟩⟩) fun z => Tr.all_ok ⟨rfl, ht rfl, hd _ rfl, fun js => ⟨⟨js, rfl⟩, .inr ⟨rfl, .inr (by rw [e]; simpa using z)⟩⟩⟩
  have hv6 : k ≠ 6 := fun h => by rw [h] at hv; cases hv
  clear hv
  refine Tr.all_ite (fun hv => ?_) fun hv => ?_
  · have hv : k = 5 := eq_of_beq hv
    have e : (From.lf L0 L1 L2 L3 L4 L5 L6 L7) k = L5 := by rw [hv]; rfl
    exact Tr.all_ite (fun z => Tr.all_ok ⟨rfl, ht rfl, hd _ rfl, fun js => ⟨⟨js, rfl⟩, .inl ⟨rfl, q, by rw [e]; exact eq_of_beq z⟩⟩⟩) fun z => Tr.all_ok ⟨rfl, ht rfl, hd _ rfl, fun js => ⟨⟨js, rfl⟩, .inr ⟨rfl, .inr (by rw [e]; simpa using z)⟩⟩⟩
  have hv5 : k ≠ 5 := fun h => by rw [h] at hv; cases hv
  clear hv
  refine Tr.all_ite (fun hv => ?_) fun hv => ?_
  · have hv : k = 4 := eq_of_beq hv
    have e : (From.lf L0 L1 L2 L3 L4 L5 L6 L7) k = L4 := by rw [hv]; rfl
    exact Tr.all_ite (fun z => Tr.all_ok ⟨rfl, ht rfl, hd _ rfl, fun js => ⟨⟨js, rfl⟩, .inl ⟨rfl, q, by rw [e]; exact eq_of_beq z⟩⟩⟩) fun z => Tr.all_ok ⟨rfl, ht rfl, hd _ rfl, fun js => ⟨⟨js, rfl⟩, .inr ⟨rfl, .inr (by rw [e]; simpa using z)⟩⟩⟩
  have hv4 : k ≠ 4 := fun h => by rw [h] at hv; cases hv
  clear hv
  refine Tr.all_ite (fun hv => ?_) fun hv => ?_
  · have hv : k = 3 := eq_of_beq hv
    have e : (From.lf L0 L1 L2 L3 L4 L5 L6 L7) k = L3 := by rw [hv]; rfl
    exact Tr.all_ite (fun z => Tr.all_ok ⟨rfl, ht rfl, hd _ rfl, fun js => ⟨⟨js, rfl⟩, .inl ⟨rfl, q, by rw [e]; exact eq_of_beq z⟩⟩⟩) fun z => Tr.all_ok ⟨rfl, ht rfl, hd _ rfl, fun js => ⟨⟨js, rfl⟩, .inr ⟨rfl, .inr (by rw [e]; simpa using z)⟩⟩⟩
  have hv3 : k ≠ 3 := fun h => by rw [h] at hv; cases hv
  clear hv
  refine Tr.all_ite (fun hv => ?_) fun hv => ?_
  · have hv : k = 2 := eq_of_beq hv
    have e : (From.lf L0 L1 L2 L3 L4 L5 L6 L7) k = L2 := by rw [hv]; rfl
    exact Tr.all_ite (fun z => Tr.all_ok ⟨rfl, ht rfl, hd _ rfl, fun js => ⟨⟨js, rfl⟩, .inl ⟨rfl, q, by rw [e]; exact eq_of_beq z⟩⟩⟩) fun z => Tr.all_ok ⟨rfl, ht rfl, hd _ rfl, fun js => ⟨⟨js, rfl⟩, .inr ⟨rfl, .inr (by rw [e]; simpa using z)⟩⟩⟩
  have hv2 : k ≠ 2 := fun h => by rw [h] at hv; cases hv
  clear hv
  refine Tr.all_ite (fun hv => ?_) fun hv => ?_
  · have hv : k = 1 := eq_of_beq hv
    have e : (From.lf L0 L1 L2 L3 L4 L5 L6 L7) k = L1 := by rw [hv]; rfl
    exact Tr.all_ite (fun z => Tr.all_ok ⟨rfl, ht rfl, hd _ rfl, fun js => ⟨⟨js, rfl⟩, .inl ⟨rfl, q, by rw [e]; exact eq_of_beq z⟩⟩⟩) fun z => Tr.all_ok ⟨rfl, ht rfl, hd _ rfl, fun js => ⟨⟨js, rfl⟩, .inr ⟨rfl, .inr (by rw [e]; simpa using z)⟩⟩⟩
  have hv1 : k ≠ 1 := fun h => by rw [h] at hv; cases hv
  clear hv
  have e : (From.lf L0 L1 L2 L3 L4 L5 L6 L7) k = L0 := by rw [show k = 0 by omega]; rfl
  exact Tr.all_ite (fun z => Tr.all_ok ⟨rfl, ht rfl, hd _ rfl, fun js => ⟨⟨js, rfl⟩, .inl ⟨rfl, q, by rw [e]; exact eq_of_beq z⟩⟩⟩) fun z => Tr.all_ok ⟨rfl, ht rfl, hd _ rfl, fun js => ⟨⟨js, rfl⟩, .inr ⟨rfl, .inr (by rw [e]; simpa using z)⟩⟩⟩
theorem loopT {pp : VV} (hK : 0 ≤ K ∧ K ≤ N) (s1 : SV) (js : Nat → SV) : Tri MS Try.prog E (.block 0 (.loop (.seq (at' [false]) (at' [true])))) ⟨[.v (.ptr 0 0), s1] ++ junk js 70 2, [(0, some (qc0 d pp K mk N L0 L1 L2 L3 L4 L5 L6 L7 xx)), (1, oz)], 2, []⟩ fun x st => x = .normal ∧ (K ≤ From.nx K N (From.lf L0 L1 L2 L3 L4 L5 L6 L7) 8 0 ∧ From.nx K N (From.lf L0 L1 L2 L3 L4 L5 L6 L7) 8 0 ≤ N ∧ (From.nx K N (From.lf L0 L1 L2 L3 L4 L5 L6 L7) 8 0 < N → (From.lf L0 L1 L2 L3 L4 L5 L6 L7) (From.nx K N (From.lf L0 L1 L2 L3 L4 L5 L6 L7) 8 0) ≠ 0)) ∧ ∃ js, st = ⟨[.v (.ptr 0 0), s1] ++ junk js 70 2, [(0, some (qc0 d pp (From.nx K N (From.lf L0 L1 L2 L3 L4 L5 L6 L7) 8 0) mk N L0 L1 L2 L3 L4 L5 L6 L7 xx)), (1, oz)], 2, []⟩ := by
  have hd : ∀ (l : List Nat), l.all (fun b => Nat.beq b 0 || Nat.ble 2 b) = true → ∀ b, b ∈ l → E.D b := fun l hl b hb => by
    have := List.all_eq_true.1 hl b hb
    simp only [Bool.or_eq_true] at this
    rcases this with h | h
    · rw [Nat.eq_of_beq_eq_true h]; exact h0
    · exact hD b (Nat.le_of_ble_eq_true h)
  have ht : ∀ {k : Nat}, Nat.ble k 9 = true → k ≤ E.top := fun h => by rw [hT]; exact Nat.le_of_ble_eq_true h
  refine Tri.block (R := fun x st => x = .exit 0 ∧ (K ≤ From.nx K N (From.lf L0 L1 L2 L3 L4 L5 L6 L7) 8 0 ∧ From.nx K N (From.lf L0 L1 L2 L3 L4 L5 L6 L7) 8 0 ≤ N ∧ (From.nx K N (From.lf L0 L1 L2 L3 L4 L5 L6 L7) 8 0 < N → (From.lf L0 L1 L2 L3 L4 L5 L6 L7) (From.nx K N (From.lf L0 L1 L2 L3 L4 L5 L6 L7) 8 0) ≠ 0)) ∧ ∃ js, st = ⟨[.v (.ptr 0 0), s1] ++ junk js 70 2, [(0, some (qc0 d pp (From.nx K N (From.lf L0 L1 L2 L3 L4 L5 L6 L7) 8 0) mk N L0 L1 L2 L3 L4 L5 L6 L7 xx)), (1, oz)], 2, []⟩) ?_ (fun s hh => by
    rcases hh with hh | hh
    · cases hh.1
    · exact ⟨rfl, hh.2⟩) (fun x s h1 h2 hh => absurd hh.1 h2)
  have hr0 : From.nx K N (From.lf L0 L1 L2 L3 L4 L5 L6 L7) (8 - K.toNat) K = From.nx K N (From.lf L0 L1 L2 L3 L4 L5 L6 L7) 8 0 := by
    have := nx_skip (L := (From.lf L0 L1 L2 L3 L4 L5 L6 L7)) hK.2 hN.2 K.toNat (by omega)
    rwa [show ((K.toNat : Nat) : Int) = K by omega] at this
  generalize hR : From.nx K N (From.lf L0 L1 L2 L3 L4 L5 L6 L7) 8 0 = r at hr0
  refine Tri.loop (J := fun q st => ∃ (k : Int) (js : Nat → SV), st = ⟨[.v (.ptr 0 0), s1] ++ junk js 70 2, [(0, some (qc0 d pp k mk N L0 L1 L2 L3 L4 L5 L6 L7 xx)), (1, oz)], 2, []⟩ ∧ K ≤ k ∧ k ≤ N ∧ From.nx K N (From.lf L0 L1 L2 L3 L4 L5 L6 L7) (8 - k.toNat) k = r ∧ q = (8 - k).toNat) ?_ (k := (8 - K).toNat) ⟨K, js, rfl, Int.le_refl _, hK.2, hr0, rfl⟩
  rintro q st ⟨k, js, rfl, h1, h2, h3, rfl⟩
  refine Tri.seq (cond hN E hT hD h0 (k := k) ⟨by omega, h2⟩ s1 js) ?_ ?_
  · rintro st ⟨⟨js, rfl⟩, ⟨_, hk, hz⟩ | ⟨hh, _⟩⟩
    rotate_left
    · cases hh
    have e5 : W (k + 1) = k + 1 := From.W_of (by omega) (by omega)
    refine Tri.allR (m := 2) (n := 70) (codeOK _) (i k mk N L0 L1 L2 L3 L4 L5 L6 L7 d pp xx oz s1 js hN ⟨by omega, h2⟩ hk) (Tr.all_ok ⟨rfl, ht rfl, hd _ rfl, fun js => ⟨(8 - (k + 1)).toNat, by omega, k + 1, js, ?_, by omega, by omega, ?_, rfl⟩⟩)
    · show (⟨[.v (.ptr 0 0), s1] ++ junk js 70 2, [(0, some (qc0 d pp (W (k + 1)) mk N L0 L1 L2 L3 L4 L5 L6 L7 xx)), (1, oz)], 2, []⟩ : St MObj) = _
      rw [e5]
    · rw [← h3, show 8 - k.toNat = (8 - (k + 1).toNat) + 1 by omega, From.nx_cont hk (.inr hz)]
  · rintro x st hx ⟨⟨js, rfl⟩, ⟨hh, _⟩ | ⟨rfl, hc⟩⟩
    · exact absurd hh hx
    · have hrk : r = k := by
        rw [← h3]
        by_cases hk : k < N
        · rw [show 8 - k.toNat = (8 - (k + 1).toNat) + 1 by omega, From.nx_found hk (fun hh => by
            rcases hh with hh | hh
            · omega
            · rcases hc with hc | hc
              · exact hc hk
              · exact hc hh)]
        · rw [From.nx_end hk]; omega
      subst hrk
      exact ⟨rfl, ⟨h1, h2, fun hk => by
        rcases hc with hc | hc
        · exact absurd hk hc
        · exact hc⟩, js, rfl⟩
theorem all2T {pp : VV} (hK : 0 ≤ K ∧ K ≤ N) (hR : From.nx K N (From.lf L0 L1 L2 L3 L4 L5 L6 L7) 8 0 < N) (js : Nat → SV) : Tri MS Try.prog E body ⟨[.v (.ptr 0 0), .v (.int .i64 (.lit 2))] ++ junk js 70 2, [(0, some (qc0 d pp K mk N L0 L1 L2 L3 L4 L5 L6 L7 xx)), (1, oz)], 2, []⟩ (fun x st => (x = .normal ∨ x = .ret) ∧ (∀ b, hget st.hp b = hget ([(0, some (qc0 d (.int .i64 (.lit 2)) (From.nx K N (From.lf L0 L1 L2 L3 L4 L5 L6 L7) 8 0) mk N L0 L1 L2 L3 L4 L5 L6 L7 (.ptr 2 0))), (1, oz), (2, some (.cells [ii ((From.lf L0 L1 L2 L3 L4 L5 L6 L7) (From.nx K N (From.lf L0 L1 L2 L3 L4 L5 L6 L7) 8 0)), ii mk, .int .i64 (.lit 1), .int .i64 (.lit 0), .int .i64 (.lit 0), .int .i64 (.lit 0), .int .i64 (.lit 0), .int .i64 (.lit 0), .int .i64 (.lit 0), .int .i64 (.lit 0), .int .u64 (.lit 0)] 124))] : HP MObj) b) ∧ st.nid = 3 ∧ ∃ l, (vresults Try.prog st Try.f44.results.toList).run = some l ∧ tupleOf l = .t []) := by
  have hd : ∀ (l : List Nat), l.all (fun b => Nat.beq b 0 || Nat.ble 2 b) = true → ∀ b, b ∈ l → E.D b := fun l hl b hb => by
    have := List.all_eq_true.1 hl b hb
    simp only [Bool.or_eq_true] at this
    rcases this with h | h
    · rw [Nat.eq_of_beq_eq_true h]; exact h0
    · exact hD b (Nat.le_of_ble_eq_true h)
  have ht : ∀ {k : Nat}, Nat.ble k 9 = true → k ≤ E.top := fun h => by rw [hT]; exact Nat.le_of_ble_eq_true h
  rw [bodyE]
  refine Tri.seq (loopT hN E hT hD h0 hK _ js) ?_ (fun x s hx hh => absurd hh.1 hx)
  rintro st ⟨_, ⟨g1, g2, g3⟩, js, rfl⟩
  generalize From.nx K N (From.lf L0 L1 L2 L3 L4 L5 L6 L7) 8 0 = r at hR g1 g2 g3
  refine Tri.allR (m := 2) (n := 70) (codeOK _) (r2 r mk N L0 L1 L2 L3 L4 L5 L6 L7 d pp xx oz js hN ⟨by omega, g2⟩
    (fun h1 h2 => by have := g3 (by omega); rw [show r = 0 from eq_of_beq h2] at this; simpa [From.lf] using this)
    (fun h1 h2 => by have := g3 (by omega); rw [show r = 1 from eq_of_beq h2] at this; simpa [From.lf] using this)
    (fun h1 h2 => by have := g3 (by omega); rw [show r = 2 from eq_of_beq h2] at this; simpa [From.lf] using this)
    (fun h1 h2 => by have := g3 (by omega); rw [show r = 3 from eq_of_beq h2] at this; simpa [From.lf] using this)
    (fun h1 h2 => by have := g3 (by omega); rw [show r = 4 from eq_of_beq h2] at this; simpa [From.lf] using this)
    (fun h1 h2 => by have := g3 (by omega); rw [show r = 5 from eq_of_beq h2] at this; simpa [From.lf] using this)
    (fun h1 h2 => by have := g3 (by omega); rw [show r = 6 from eq_of_beq h2] at this; simpa [From.lf] using this)
    (fun h1 h2 => by have := g3 (by omega); rw [show r = 7 from eq_of_beq h2] at this; simpa [From.lf] using this)) (Tr.all_ite (fun q => absurd (of_decide_eq_true q) (by omega)) fun q => ?_)
  refine Tr.all_ite (fun hv => ?_) fun hv => ?_
  · have hv : r = 7 := eq_of_beq hv
    subst hv
    exact Tr.all_ok ⟨rfl, ht rfl, hd _ rfl, fun js => ⟨.inl rfl, fun b => rfl, rfl, _, (congrArg Tr.run (vres _ _ _ js)).trans rfl, rfl⟩⟩
  have hv7 : r ≠ 7 := fun h => by rw [h] at hv; cases hv
  clear hv
  refine Tr.all_ite (fun hv => ?_) fun hv => ?_
  · have hv : r = 6 := eq_of_beq hv
    subst hv
    exact Tr.all_ok ⟨rfl, ht rfl, hd _ rfl, fun js => ⟨.inl rfl, fun b => rfl, rfl, _, (congrArg Tr.run (vres _ _ _ js)).trans rfl, rfl⟩⟩
  have hv6 : r ≠ 6 := fun h => by rw [h] at hv; cases hv
  clear hv
  refine Tr.all_ite (fun hv => ?_) fun hv => ?_
  · have hv : r = 5 := eq_of_beq hv
    subst hv
    exact Tr.all_ok ⟨rfl, ht rfl, hd _ rfl, fun js => ⟨.inl rfl, fun b => rfl, rfl, _, (congrArg Tr.run (vres _ _ _ js)).trans rfl, rfl⟩⟩
  have hv5 : r ≠ 5 := fun h => by rw [h] at hv; cases hv
  clear hv
  refine Tr.all_ite (fun hv => ?_) fun hv => ?_
  · have hv : r = 4 := eq_of_beq hv
    subst hv
    exact Tr.all_ok ⟨rfl, ht rfl, hd _ rfl, fun js => ⟨.inl rfl, fun b => rfl, rfl, _, (congrArg Tr.run (vres _ _ _ js)).trans rfl, rfl⟩⟩
  have hv4 : r ≠ 4 := fun h => by rw [h] at hv; cases hv
  clear hv
  refine Tr.all_ite (fun hv => ?_) fun hv => ?_
  · have hv : r = 3 := eq_of_beq hv
    subst hv
    exact Tr.all_ok ⟨rfl, ht rfl, hd _ rfl, fun js => ⟨.inl rfl, fun b => rfl, rfl, _, (congrArg Tr.run (vres _ _ _ js)).trans rfl, rfl⟩⟩
  have hv3 : r ≠ 3 := fun h => by rw [h] at hv; cases hv
  clear hv
  refine Tr.all_ite (fun hv => ?_) fun hv => ?_
  · have hv : r = 2 := eq_of_beq hv
    subst hv
    exact Tr.all_ok ⟨rfl, ht rfl, hd _ rfl, fun js => ⟨.inl rfl, fun b => rfl, rfl, _, (congrArg Tr.run (vres _ _ _ js)).trans rfl, rfl⟩⟩
  have hv2 : r ≠ 2 := fun h => by rw [h] at hv; cases hv
  clear hv
  refine Tr.all_ite (fun hv => ?_) fun hv => ?_
  · have hv : r = 1 := eq_of_beq hv
    subst hv
    exact Tr.all_ok ⟨rfl, ht rfl, hd _ rfl, fun js => ⟨.inl rfl, fun b => rfl, rfl, _, (congrArg Tr.run (vres _ _ _ js)).trans rfl, rfl⟩⟩
  have hv1 : r ≠ 1 := fun h => by rw [h] at hv; cases hv
  clear hv
  obtain rfl : r = 0 := by omega
  exact Tr.all_ok ⟨rfl, ht rfl, hd _ rfl, fun js => ⟨.inl rfl, fun b => rfl, rfl, _, (congrArg Tr.run (vres _ _ _ js)).trans rfl, rfl⟩⟩
theorem all2F {pp : VV} (hK : 0 ≤ K ∧ K ≤ N) (hR : ¬ From.nx K N (From.lf L0 L1 L2 L3 L4 L5 L6 L7) 8 0 < N) (js : Nat → SV) : Tri MS Try.prog E body ⟨[.v (.ptr 0 0), .v (.int .i64 (.lit 2))] ++ junk js 70 2, [(0, some (qc0 d pp K mk N L0 L1 L2 L3 L4 L5 L6 L7 xx)), (1, oz)], 2, []⟩ (fun x st => (x = .normal ∨ x = .ret) ∧ (∀ b, hget st.hp b = hget ([(0, some (qc0 d (.int .i64 (.lit 5)) (From.nx K N (From.lf L0 L1 L2 L3 L4 L5 L6 L7) 8 0) mk N L0 L1 L2 L3 L4 L5 L6 L7 xx)), (1, oz)] : HP MObj) b) ∧ st.nid = 2 ∧ ∃ l, (vresults Try.prog st Try.f44.results.toList).run = some l ∧ tupleOf l = .t []) := by
  have hd : ∀ (l : List Nat), l.all (fun b => Nat.beq b 0 || Nat.ble 2 b) = true → ∀ b, b ∈ l → E.D b := fun l hl b hb => by
    have := List.all_eq_true.1 hl b hb
    simp only [Bool.or_eq_true] at this
    rcases this with h | h
    · rw [Nat.eq_of_beq_eq_true h]; exact h0
    · exact hD b (Nat.le_of_ble_eq_true h)
  have ht : ∀ {k : Nat}, Nat.ble k 9 = true → k ≤ E.top := fun h => by rw [hT]; exact Nat.le_of_ble_eq_true h
  rw [bodyE]
  refine Tri.seq (loopT hN E hT hD h0 hK _ js) ?_ (fun x s hx hh => absurd hh.1 hx)
  rintro st ⟨_, ⟨g1, g2, g3⟩, js, rfl⟩
  generalize From.nx K N (From.lf L0 L1 L2 L3 L4 L5 L6 L7) 8 0 = r at hR g1 g2 g3
  refine Tri.allR (m := 2) (n := 70) (codeOK _) (r2 r mk N L0 L1 L2 L3 L4 L5 L6 L7 d pp xx oz js hN ⟨by omega, g2⟩
    (fun h1 h2 => by have := g3 (by omega); rw [show r = 0 from eq_of_beq h2] at this; simpa [From.lf] using this)
    (fun h1 h2 => by have := g3 (by omega); rw [show r = 1 from eq_of_beq h2] at this; simpa [From.lf] using this)
    (fun h1 h2 => by have := g3 (by omega); rw [show r = 2 from eq_of_beq h2] at this; simpa [From.lf] using this)
    (fun h1 h2 => by have := g3 (by omega); rw [show r = 3 from eq_of_beq h2] at this; simpa [From.lf] using this)
    (fun h1 h2 => by have := g3 (by omega); rw [show r = 4 from eq_of_beq h2] at this; simpa [From.lf] using this)
    (fun h1 h2 => by have := g3 (by omega); rw [show r = 5 from eq_of_beq h2] at this; simpa [From.lf] using this)
    (fun h1 h2 => by have := g3 (by omega); rw [show r = 6 from eq_of_beq h2] at this; simpa [From.lf] using this)
    (fun h1 h2 => by have := g3 (by omega); rw [show r = 7 from eq_of_beq h2] at this; simpa [From.lf] using this)) (Tr.all_ite (fun q => Tr.all_ok ⟨rfl, ht rfl, hd _ rfl, fun js => ⟨.inl rfl, fun b => rfl, rfl, _, (congrArg Tr.run (vres _ _ _ js)).trans rfl, rfl⟩⟩) fun q => absurd (of_decide_eq_false q) (by omega))
theorem all4T {pp : VV} (hK : 0 ≤ K ∧ K ≤ N) (hR : From.nx K N (From.lf L0 L1 L2 L3 L4 L5 L6 L7) 8 0 < N) (js : Nat → SV) : Tri MS Try.prog E body ⟨[.v (.ptr 0 0), .v (.int .i64 (.lit 4))] ++ junk js 70 2, [(0, some (qc0 d pp K mk N L0 L1 L2 L3 L4 L5 L6 L7 xx)), (1, oz)], 2, []⟩ (fun x st => (x = .normal ∨ x = .ret) ∧ (∀ b, hget st.hp b = hget ([(0, some (qc0 d (.int .i64 (.lit 4)) (From.nx K N (From.lf L0 L1 L2 L3 L4 L5 L6 L7) 8 0) mk N L0 L1 L2 L3 L4 L5 L6 L7 xx)), (1, oz)] : HP MObj) b) ∧ st.nid = 2 ∧ ∃ l, (vresults Try.prog st Try.f44.results.toList).run = some l ∧ tupleOf l = .t []) := by
  have hd : ∀ (l : List Nat), l.all (fun b => Nat.beq b 0 || Nat.ble 2 b) = true → ∀ b, b ∈ l → E.D b := fun l hl b hb => by
    have := List.all_eq_true.1 hl b hb
    simp only [Bool.or_eq_true] at this
    rcases this with h | h
    · rw [Nat.eq_of_beq_eq_true h]; exact h0
    · exact hD b (Nat.le_of_ble_eq_true h)
  have ht : ∀ {k : Nat}, Nat.ble k 9 = true → k ≤ E.top := fun h => by rw [hT]; exact Nat.le_of_ble_eq_true h
  rw [bodyE]
  refine Tri.seq (loopT hN E hT hD h0 hK _ js) ?_ (fun x s hx hh => absurd hh.1 hx)
  rintro st ⟨_, ⟨g1, g2, g3⟩, js, rfl⟩
  generalize From.nx K N (From.lf L0 L1 L2 L3 L4 L5 L6 L7) 8 0 = r at hR g1 g2 g3
  refine Tri.allR (m := 2) (n := 70) (codeOK _) (r4 r mk N L0 L1 L2 L3 L4 L5 L6 L7 d pp xx oz js hN ⟨by omega, g2⟩) (Tr.all_ite (fun q => absurd (of_decide_eq_true q) (by omega)) fun q => Tr.all_ok ⟨rfl, ht rfl, hd _ rfl, fun js => ⟨.inl rfl, fun b => rfl, rfl, _, (congrArg Tr.run (vres _ _ _ js)).trans rfl, rfl⟩⟩)
theorem all4F {pp : VV} (hK : 0 ≤ K ∧ K ≤ N) (hR : ¬ From.nx K N (From.lf L0 L1 L2 L3 L4 L5 L6 L7) 8 0 < N) (js : Nat → SV) : Tri MS Try.prog E body ⟨[.v (.ptr 0 0), .v (.int .i64 (.lit 4))] ++ junk js 70 2, [(0, some (qc0 d pp K mk N L0 L1 L2 L3 L4 L5 L6 L7 xx)), (1, oz)], 2, []⟩ (fun x st => (x = .normal ∨ x = .ret) ∧ (∀ b, hget st.hp b = hget ([(0, some (qc0 d (.int .i64 (.lit 5)) (From.nx K N (From.lf L0 L1 L2 L3 L4 L5 L6 L7) 8 0) mk N L0 L1 L2 L3 L4 L5 L6 L7 xx)), (1, oz)] : HP MObj) b) ∧ st.nid = 2 ∧ ∃ l, (vresults Try.prog st Try.f44.results.toList).run = some l ∧ tupleOf l = .t []) := by
  have hd : ∀ (l : List Nat), l.all (fun b => Nat.beq b 0 || Nat.ble 2 b) = true → ∀ b, b ∈ l → E.D b := fun l hl b hb => by
    have := List.all_eq_true.1 hl b hb
    simp only [Bool.or_eq_true] at this
    rcases this with h | h
    · rw [Nat.eq_of_beq_eq_true h]; exact h0
    · exact hD b (Nat.le_of_ble_eq_true h)
  have ht : ∀ {k : Nat}, Nat.ble k 9 = true → k ≤ E.top := fun h => by rw [hT]; exact Nat.le_of_ble_eq_true h
  rw [bodyE]
  refine Tri.seq (loopT hN E hT hD h0 hK _ js) ?_ (fun x s hx hh => absurd hh.1 hx)
  rintro st ⟨_, ⟨g1, g2, g3⟩, js, rfl⟩
  generalize From.nx K N (From.lf L0 L1 L2 L3 L4 L5 L6 L7) 8 0 = r at hR g1 g2 g3
  refine Tri.allR (m := 2) (n := 70) (codeOK _) (r4 r mk N L0 L1 L2 L3 L4 L5 L6 L7 d pp xx oz js hN ⟨by omega, g2⟩) (Tr.all_ite (fun q => Tr.all_ok ⟨rfl, ht rfl, hd _ rfl, fun js => ⟨.inl rfl, fun b => rfl, rfl, _, (congrArg Tr.run (vres _ _ _ js)).trans rfl, rfl⟩⟩) fun q => absurd (of_decide_eq_false q) (by omega))
end
theorem at_bump {S : Eng.Sys MObj} {E : Ctx MObj} {tm tm' : List SV} {hp hp' : HP MObj} {nid nid' : Nat} {d d' : List Nat} {a : Act} {w : World} (h1 : nid ≤ nid') (h2 : nid' ≤ E.top) (ht : tm' = tm) (hh : ∀ n, hget hp' n = hget hp n) (h : At S E ⟨tm, hp, nid, d⟩ a w) : At S E ⟨tm', hp', nid', d'⟩ a w := by
  subst ht
  obtain ⟨h0, _, ρ, F, ha, hr, hch⟩ := h
  have e : hget hp' = hget hp := funext hh
  refine ⟨Nat.le_trans h0 h1, h2, ρ, F, ha, ?_, hch⟩
  show HR S E.B (Zm E.Z0 E.nid0 nid') ρ F (hget hp') w
  rw [e]
  exact HR.mono (fun b hb => ⟨hb.1, fun hc => hb.2 ⟨hc.1, Nat.lt_of_lt_of_le hc.2 h1⟩⟩) hr
theorem tmE (x0 x1 : SV) : [x0, x1] ++ junk (fun _ => .undef) 70 2 = [x0, x1] ++ List.replicate (Try.f44.ntmps - [x0, x1].length) .undef := by kernel_rfl
def c1 : Intr MObj := fun args hp nid => match args, hp, nid with
  | [.s (.one (.ptr 0 0)), .s (.one (.int .i64 (.lit st)))], [(0, some (.cells [d0, d1, d2, d3, d4, d5, pp, .int .i64 (.sym K), d8, d9, d10, d11, d12, d13, .int .i64 (.sym mk), d15, d16, .int .i64 (.sym N), .int .i64 (.sym L0), .int .i64 (.sym L1), .int .i64 (.sym L2), .int .i64 (.sym L3), .int .i64 (.sym L4), .int .i64 (.sym L5), .int .i64 (.sym L6), .int .i64 (.sym L7), xx] ty))], 1 => .chk (Nat.beq ty 75) "next: type" (.ite (decide (0 ≤ N) && (decide (N ≤ 8) && (decide (0 ≤ K) && decide (K ≤ N)))) (.ite (st == 2) (.ite (decide (From.nx K N (From.lf L0 L1 L2 L3 L4 L5 L6 L7) 8 0 < N)) (.ok ⟨.t [], [(0, some (qc0 (⟨d0, d1, d2, d3, d4, d5, d8, d9, d10, d11, d12, d13, d15, d16⟩ : CC) (.int .i64 (.lit 2)) (From.nx K N (From.lf L0 L1 L2 L3 L4 L5 L6 L7) 8 0) mk N L0 L1 L2 L3 L4 L5 L6 L7 (.ptr 2 0))), (1, none), (2, some (.cells [ii ((From.lf L0 L1 L2 L3 L4 L5 L6 L7) (From.nx K N (From.lf L0 L1 L2 L3 L4 L5 L6 L7) 8 0)), ii mk, .int .i64 (.lit 1), .int .i64 (.lit 0), .int .i64 (.lit 0), .int .i64 (.lit 0), .int .i64 (.lit 0), .int .i64 (.lit 0), .int .i64 (.lit 0), .int .i64 (.lit 0), .int .u64 (.lit 0)] 124))], [0, 2], 3⟩) (.ok ⟨.t [], [(0, some (qc0 (⟨d0, d1, d2, d3, d4, d5, d8, d9, d10, d11, d12, d13, d15, d16⟩ : CC) (.int .i64 (.lit 5)) (From.nx K N (From.lf L0 L1 L2 L3 L4 L5 L6 L7) 8 0) mk N L0 L1 L2 L3 L4 L5 L6 L7 xx)), (1, none)], [0], 2⟩)) (.ite (st == 4) (.ite (decide (From.nx K N (From.lf L0 L1 L2 L3 L4 L5 L6 L7) 8 0 < N)) (.ok ⟨.t [], [(0, some (qc0 (⟨d0, d1, d2, d3, d4, d5, d8, d9, d10, d11, d12, d13, d15, d16⟩ : CC) (.int .i64 (.lit 4)) (From.nx K N (From.lf L0 L1 L2 L3 L4 L5 L6 L7) 8 0) mk N L0 L1 L2 L3 L4 L5 L6 L7 xx)), (1, none)], [0], 2⟩) (.ok ⟨.t [], [(0, some (qc0 (⟨d0, d1, d2, d3, d4, d5, d8, d9, d10, d11, d12, d13, d15, d16⟩ : CC) (.int .i64 (.lit 5)) (From.nx K N (From.lf L0 L1 L2 L3 L4 L5 L6 L7) 8 0) mk N L0 L1 L2 L3 L4 L5 L6 L7 xx)), (1, none)], [0], 2⟩)) (.no "next: step"))) (.no "next: sizes"))
  | _, _, _ => .no "next: arguments"
theorem c1_ok : FunOKz MS Try.prog 44 c1 := by
  refine funOK_tri Try.func44 hb ?_
  intro args hp nid r hrun
  unfold c1 at hrun
  split at hrun
  · rename_i st d0 d1 d2 d3 d4 d5 pp K d8 d9 d10 d11 d12 d13 mk d15 d16 N L0 L1 L2 L3 L4 L5 L6 L7 xx ty
    rw [Tr.run_chk, Tr.run_ite] at hrun
    obtain ⟨hTy, hrun⟩ := hrun
    obtain rfl := Nat.eq_of_beq_eq_true hTy
    rcases hrun with ⟨hc, hrun⟩ | ⟨_, hrun⟩
    · simp only [Bool.and_eq_true, decide_eq_true_eq] at hc
      have hN := And.intro hc.1 hc.2.1
      have hK := hc.2.2
      rw [Tr.run_ite] at hrun
      rcases hrun with ⟨hp, hrun⟩ | ⟨_, hrun⟩
      · obtain rfl := eq_of_beq hp
        rw [Tr.run_ite] at hrun
        rcases hrun with ⟨hR, hrun⟩ | ⟨hR, hrun⟩
        · rw [Tr.run_ok] at hrun
          subst hrun
          have hR := of_decide_eq_true hR
          refine ⟨Nat.le_of_ble_eq_true rfl, fun b o hb ho => ?_, 9, by show 3 ≤ 9; omega, fun E hE hT hD hr => ?_⟩
          · match b, hb, ho with
            | 0, hb, _ => exact absurd hb (by decide)
            | 1, _, ho => cases ho
            | 2, _, _ => simp
            | b + 3, _, ho => cases ho
          · exact Tri.preE fun a w hat => ⟨_, at_bump (nid' := 2) (by omega) (by rw [hT]; decide) (tmE _ _) (fun b => by match b with | 0 => rfl | 1 => rfl | b + 2 => rfl) hat, all2T (d := (⟨d0, d1, d2, d3, d4, d5, d8, d9, d10, d11, d12, d13, d15, d16⟩ : CC)) (oz := none) hN E hT (fun b hb => hD b (by omega)) (hr 0 (by simp)) hK hR (fun _ => .undef)⟩
        · rw [Tr.run_ok] at hrun
          subst hrun
          have hR := of_decide_eq_false hR
          refine ⟨Nat.le_of_ble_eq_true rfl, fun b o hb ho => ?_, 9, by show 2 ≤ 9; omega, fun E hE hT hD hr => ?_⟩
          · match b, hb, ho with
            | 0, hb, _ => exact absurd hb (by decide)
            | 1, _, ho => cases ho
            | b + 2, _, ho => cases ho
          · exact Tri.preE fun a w hat => ⟨_, at_bump (nid' := 2) (by omega) (by rw [hT]; decide) (tmE _ _) (fun b => by match b with | 0 => rfl | 1 => rfl | b + 2 => rfl) hat, all2F (d := (⟨d0, d1, d2, d3, d4, d5, d8, d9, d10, d11, d12, d13, d15, d16⟩ : CC)) (oz := none) hN E hT (fun b hb => hD b (by omega)) (hr 0 (by simp)) hK hR (fun _ => .undef)⟩
      · rw [Tr.run_ite] at hrun
        rcases hrun with ⟨hp, hrun⟩ | ⟨_, hrun⟩
        · obtain rfl := eq_of_beq hp
          rw [Tr.run_ite] at hrun
          rcases hrun with ⟨hR, hrun⟩ | ⟨hR, hrun⟩
          · rw [Tr.run_ok] at hrun
            subst hrun
            have hR := of_decide_eq_true hR
            refine ⟨Nat.le_of_ble_eq_true rfl, fun b o hb ho => ?_, 9, by show 2 ≤ 9; omega, fun E hE hT hD hr => ?_⟩
            · match b, hb, ho with
              | 0, hb, _ => exact absurd hb (by decide)
              | 1, _, ho => cases ho
              | b + 2, _, ho => cases ho
            · exact Tri.preE fun a w hat => ⟨_, at_bump (nid' := 2) (by omega) (by rw [hT]; decide) (tmE _ _) (fun b => by match b with | 0 => rfl | 1 => rfl | b + 2 => rfl) hat, all4T (d := (⟨d0, d1, d2, d3, d4, d5, d8, d9, d10, d11, d12, d13, d15, d16⟩ : CC)) (oz := none) hN E hT (fun b hb => hD b (by omega)) (hr 0 (by simp)) hK hR (fun _ => .undef)⟩
          · rw [Tr.run_ok] at hrun
            subst hrun
            have hR := of_decide_eq_false hR
            refine ⟨Nat.le_of_ble_eq_true rfl, fun b o hb ho => ?_, 9, by show 2 ≤ 9; omega, fun E hE hT hD hr => ?_⟩
            · match b, hb, ho with
              | 0, hb, _ => exact absurd hb (by decide)
              | 1, _, ho => cases ho
              | b + 2, _, ho => cases ho
            · exact Tri.preE fun a w hat => ⟨_, at_bump (nid' := 2) (by omega) (by rw [hT]; decide) (tmE _ _) (fun b => by match b with | 0 => rfl | 1 => rfl | b + 2 => rfl) hat, all4F (d := (⟨d0, d1, d2, d3, d4, d5, d8, d9, d10, d11, d12, d13, d15, d16⟩ : CC)) (oz := none) hN E hT (fun b hb => hD b (by omega)) (hr 0 (by simp)) hK hR (fun _ => .undef)⟩
        · cases hrun
    · cases hrun
  · cases hrun
def c2 : Intr MObj := fun args hp nid => match args, hp, nid with
  | [.s (.one (.ptr 0 0)), .s (.one (.int .i64 (.lit st)))], [(0, some (.cells [d0, d1, d2, d3, d4, d5, pp, .int .i64 (.sym K), d8, d9, d10, d11, d12, d13, .int .i64 (.sym mk), d15, d16, .int .i64 (.sym N), .int .i64 (.sym L0), .int .i64 (.sym L1), .int .i64 (.sym L2), .int .i64 (.sym L3), .int .i64 (.sym L4), .int .i64 (.sym L5), .int .i64 (.sym L6), .int .i64 (.sym L7), xx] ty)), (1, oz)], 2 => .chk (Nat.beq ty 75) "next: type" (.ite (decide (0 ≤ N) && (decide (N ≤ 8) && (decide (0 ≤ K) && decide (K ≤ N)))) (.ite (st == 2) (.ite (decide (From.nx K N (From.lf L0 L1 L2 L3 L4 L5 L6 L7) 8 0 < N)) (.ok ⟨.t [], [(0, some (qc0 (⟨d0, d1, d2, d3, d4, d5, d8, d9, d10, d11, d12, d13, d15, d16⟩ : CC) (.int .i64 (.lit 2)) (From.nx K N (From.lf L0 L1 L2 L3 L4 L5 L6 L7) 8 0) mk N L0 L1 L2 L3 L4 L5 L6 L7 (.ptr 2 0))), (1, oz), (2, some (.cells [ii ((From.lf L0 L1 L2 L3 L4 L5 L6 L7) (From.nx K N (From.lf L0 L1 L2 L3 L4 L5 L6 L7) 8 0)), ii mk, .int .i64 (.lit 1), .int .i64 (.lit 0), .int .i64 (.lit 0), .int .i64 (.lit 0), .int .i64 (.lit 0), .int .i64 (.lit 0), .int .i64 (.lit 0), .int .i64 (.lit 0), .int .u64 (.lit 0)] 124))], [0, 2], 3⟩) (.ok ⟨.t [], [(0, some (qc0 (⟨d0, d1, d2, d3, d4, d5, d8, d9, d10, d11, d12, d13, d15, d16⟩ : CC) (.int .i64 (.lit 5)) (From.nx K N (From.lf L0 L1 L2 L3 L4 L5 L6 L7) 8 0) mk N L0 L1 L2 L3 L4 L5 L6 L7 xx)), (1, oz)], [0], 2⟩)) (.ite (st == 4) (.ite (decide (From.nx K N (From.lf L0 L1 L2 L3 L4 L5 L6 L7) 8 0 < N)) (.ok ⟨.t [], [(0, some (qc0 (⟨d0, d1, d2, d3, d4, d5, d8, d9, d10, d11, d12, d13, d15, d16⟩ : CC) (.int .i64 (.lit 4)) (From.nx K N (From.lf L0 L1 L2 L3 L4 L5 L6 L7) 8 0) mk N L0 L1 L2 L3 L4 L5 L6 L7 xx)), (1, oz)], [0], 2⟩) (.ok ⟨.t [], [(0, some (qc0 (⟨d0, d1, d2, d3, d4, d5, d8, d9, d10, d11, d12, d13, d15, d16⟩ : CC) (.int .i64 (.lit 5)) (From.nx K N (From.lf L0 L1 L2 L3 L4 L5 L6 L7) 8 0) mk N L0 L1 L2 L3 L4 L5 L6 L7 xx)), (1, oz)], [0], 2⟩)) (.no "next: step"))) (.no "next: sizes"))
  | _, _, _ => .no "next: arguments"
theorem c2_ok : FunOKz MS Try.prog 44 c2 := by
  refine funOK_tri Try.func44 hb ?_
  intro args hp nid r hrun
  unfold c2 at hrun
  split at hrun
  · rename_i st d0 d1 d2 d3 d4 d5 pp K d8 d9 d10 d11 d12 d13 mk d15 d16 N L0 L1 L2 L3 L4 L5 L6 L7 xx ty oz
    rw [Tr.run_chk, Tr.run_ite] at hrun
    obtain ⟨hTy, hrun⟩ := hrun
    obtain rfl := Nat.eq_of_beq_eq_true hTy
    rcases hrun with ⟨hc, hrun⟩ | ⟨_, hrun⟩
    · simp only [Bool.and_eq_true, decide_eq_true_eq] at hc
      have hN := And.intro hc.1 hc.2.1
      have hK := hc.2.2
      rw [Tr.run_ite] at hrun
      rcases hrun with ⟨hp, hrun⟩ | ⟨_, hrun⟩
      · obtain rfl := eq_of_beq hp
        rw [Tr.run_ite] at hrun
        rcases hrun with ⟨hR, hrun⟩ | ⟨hR, hrun⟩
        · rw [Tr.run_ok] at hrun
          subst hrun
          have hR := of_decide_eq_true hR
          refine ⟨Nat.le_of_ble_eq_true rfl, fun b o hb ho => ?_, 9, by show 3 ≤ 9; omega, fun E hE hT hD hr => ?_⟩
          · match b, hb, ho with
            | 0, hb, _ => exact absurd hb (by decide)
            | 1, hb, _ => exact absurd hb (by decide)
            | 2, _, _ => simp
            | b + 3, _, ho => cases ho
          · exact Tri.preE fun a w hat => ⟨_, at_bump (nid' := 2) (by omega) (by rw [hT]; decide) (tmE _ _) (fun b => rfl) hat, all2T (d := (⟨d0, d1, d2, d3, d4, d5, d8, d9, d10, d11, d12, d13, d15, d16⟩ : CC)) (oz := oz) hN E hT (fun b hb => hD b (by omega)) (hr 0 (by simp)) hK hR (fun _ => .undef)⟩
        · rw [Tr.run_ok] at hrun
          subst hrun
          have hR := of_decide_eq_false hR
          refine ⟨Nat.le_of_ble_eq_true rfl, fun b o hb ho => ?_, 9, by show 2 ≤ 9; omega, fun E hE hT hD hr => ?_⟩
          · match b, hb, ho with
            | 0, hb, _ => exact absurd hb (by decide)
            | 1, hb, _ => exact absurd hb (by decide)
            | b + 2, _, ho => cases ho
          · exact Tri.preE fun a w hat => ⟨_, at_bump (nid' := 2) (by omega) (by rw [hT]; decide) (tmE _ _) (fun b => rfl) hat, all2F (d := (⟨d0, d1, d2, d3, d4, d5, d8, d9, d10, d11, d12, d13, d15, d16⟩ : CC)) (oz := oz) hN E hT (fun b hb => hD b (by omega)) (hr 0 (by simp)) hK hR (fun _ => .undef)⟩
      · rw [Tr.run_ite] at hrun
        rcases hrun with ⟨hp, hrun⟩ | ⟨_, hrun⟩
        · obtain rfl := eq_of_beq hp
          rw [Tr.run_ite] at hrun
          rcases hrun with ⟨hR, hrun⟩ | ⟨hR, hrun⟩
          · rw [Tr.run_ok] at hrun
            subst hrun
            have hR := of_decide_eq_true hR
            refine ⟨Nat.le_of_ble_eq_true rfl, fun b o hb ho => ?_, 9, by show 2 ≤ 9; omega, fun E hE hT hD hr => ?_⟩
            · match b, hb, ho with
              | 0, hb, _ => exact absurd hb (by decide)
              | 1, hb, _ => exact absurd hb (by decide)
              | b + 2, _, ho => cases ho
            · exact Tri.preE fun a w hat => ⟨_, at_bump (nid' := 2) (by omega) (by rw [hT]; decide) (tmE _ _) (fun b => rfl) hat, all4T (d := (⟨d0, d1, d2, d3, d4, d5, d8, d9, d10, d11, d12, d13, d15, d16⟩ : CC)) (oz := oz) hN E hT (fun b hb => hD b (by omega)) (hr 0 (by simp)) hK hR (fun _ => .undef)⟩
          · rw [Tr.run_ok] at hrun
            subst hrun
            have hR := of_decide_eq_false hR
            refine ⟨Nat.le_of_ble_eq_true rfl, fun b o hb ho => ?_, 9, by show 2 ≤ 9; omega, fun E hE hT hD hr => ?_⟩
            · match b, hb, ho with
              | 0, hb, _ => exact absurd hb (by decide)
              | 1, hb, _ => exact absurd hb (by decide)
              | b + 2, _, ho => cases ho
            · exact Tri.preE fun a w hat => ⟨_, at_bump (nid' := 2) (by omega) (by rw [hT]; decide) (tmE _ _) (fun b => rfl) hat, all4F (d := (⟨d0, d1, d2, d3, d4, d5, d8, d9, d10, d11, d12, d13, d15, d16⟩ : CC)) (oz := oz) hN E hT (fun b hb => hD b (by omega)) (hr 0 (by simp)) hK hR (fun _ => .undef)⟩
        · cases hrun
    · cases hrun
  · cases hrun
def midS (i : Intr MObj) : Intr MObj := fun args hp nid => i args (symHP hp) nid
theorem funOKz_mid {f : FuncId} {i : Intr MObj} (hi : FunOKz MS Try.prog f i) : FunOKz MS Try.prog f (midS i) := by
  intro args hp nid r hrun B ρ F w vargs hhr hargs
  exact hi _ _ _ r hrun B ρ F w vargs (HR_symHP hhr) hargs
theorem ok : FunOK MS Try.prog 44 (renI (orI (midS c1) (midS c2))) := funOK_ren (From.funOKz_or (funOKz_mid c1_ok) (funOKz_mid c2_ok))
end Go.Proofs.Ytdongoplhnpdiaa.Next
