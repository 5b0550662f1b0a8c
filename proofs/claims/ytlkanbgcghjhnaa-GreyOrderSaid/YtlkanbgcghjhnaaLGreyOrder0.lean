/-
  GreyOrder: behind the steps of a Shade: the check, the object behind the others, the bit: for each of sixteen.
-/
import Derived.Test.YtlkanbgcghjhnaaTGreyOrder2
import Derived.Test.YtlkanbgcghjhnaaTGreyOrder3
import Derived.Test.YtlkanbgcghjhnaaTGreyOrder4
import Derived.Test.YtlkanbgcghjhnaaDGreyOrder
import Derived.Test.YtlkanbgcghjhnaaEngZe
namespace Go.Proofs.Ytlkanbgcghjhnaa.GreyOrder
open Go Go.RowKit Go.Proofs.Ytlkanbgcghjhnaa.Eng
set_option linter.unusedVariables false
set_option linter.unusedSimpArgs false
set_option linter.unusedSectionVars false
set_option maxRecDepth 20000

theorem codeOK (c : Code) : CodeOK MS Try.prog c (ev c) :=
  evCode_sound progOK (fun f args hp nid r h _ => evF_sound progOK (lookH_ok tabG_ok) 100 19 f args hp nid r h) 100 c
theorem wkV_refl (x : VV) : wkV x x := by cases x <;> first | exact ⟨rfl, rfl⟩ | exact ⟨rfl, rfl, rfl, rfl⟩ | rfl
theorem wkVs_refl : ∀ l : List VV, wkVs l l
  | [] => trivial
  | x :: l => ⟨wkV_refl x, wkVs_refl l⟩
theorem wk1_refl : ∀ x : S1, wk1 x x
  | .one x => wkV_refl x
  | .agg l => wkVs_refl l
theorem wk1s_refl : ∀ l : List S1, wk1s l l
  | [] => trivial
  | x :: l => ⟨wk1_refl x, wk1s_refl l⟩
theorem wkS_refl : ∀ x : SV, wkS x x
  | .s x => wk1_refl x
  | .t l => wk1s_refl l
theorem wkO_refl (x : VObj MObj) : wkO x x := by cases x <;> first | exact ⟨wkVs_refl _, rfl⟩ | rfl
theorem wkH_refl : ∀ l : HP MObj, wkH l l
  | [] => trivial
  | (b, some x) :: l => ⟨rfl, wkO_refl x, wkH_refl l⟩
  | (b, none) :: l => ⟨rfl, wkH_refl l⟩
abbrev rows (L : List Int) : List (List Int) := L.reverse.map fun a => [a]
def sb (L : List Int) : Nat → Bool := fun k => decide ((96 + 4 * (k : Int)) ∈ L)
theorem sb_ne {L : List Int} {a : Int} {j : Nat} (h : 96 + 4 * (j : Int) ≠ a) : sb (a :: L) j = sb L j := by
  simp [sb, h]
theorem sb_eq {L : List Int} {j : Nat} : sb ((96 + 4 * (j : Int)) :: L) j = true := by
  simp [sb]
theorem rows_cons (L : List Int) (a : Int) : List.take L.length (List.drop 0 (rows L)) ++ [[a]] = rows (a :: L) := by
  have h : (rows L).length = L.length := by simp [rows]
  rw [List.drop_zero, List.take_of_length_le (Nat.le_of_eq h)]
  simp [rows]
noncomputable abbrev SA (nl : Nat) (ls : List (List Int)) (ys xs : List Int) (c i : Int) (js : Nat → SV) : St MObj := ⟨pre nl oA i ++ junk js 149 9, hA ls xs ys c (sb []), 4, []⟩
noncomputable abbrev SB (nl : Nat) (ls : List (List Int)) (ys xs : List Int) (c i : Int) (L : List Int) (js : Nat → SV) : St MObj := ⟨pre nl (oB L.length) i ++ junk js 149 9, hB ls xs ys c (sb L) (rows L), 5, []⟩
section
variable (nl : Nat) (ls : List (List Int)) (ys : List Int) (E : Ctx MObj) (hE : E.nid0 = 1) (hT : E.top = 20) (hD : ∀ b, 1 ≤ b → E.D b)
include hE hT hD
theorem uA_0 {xs : List Int} {c i : Int} (hx : xs.length = 160) (hc : 0 ≤ c ∧ c ≤ 100000) (x10 x12 : SV) (ox : VObj MObj) (js : Nat → SV) :
    Tri MS Try.prog E (qt [true, true, true, true, true, true]) ⟨pre nl oA i ++ [.v (.int .i64 (.lit 0)), x10, .v (.int .i64 (.lit 5)), x12] ++ junk js 145 13, hA ls xs ys c (sb []) ++ [(4, some ox)], 7, []⟩ fun x st => x = .normal ∧ ∃ js, st = SB nl ls ys xs c i [(96 + 4 * ((0 : Nat) : Int))] js := by
  have hd : ∀ (l : List Nat), l.all (Nat.ble 1) = true → ∀ b, b ∈ l → E.D b := fun l hl b hb => hD b (Nat.le_of_ble_eq_true (List.all_eq_true.1 hl b hb))
  have ht : ∀ {k : Nat}, Nat.ble k 20 = true → k ≤ E.top := fun h => by rw [hT]; exact Nat.le_of_ble_eq_true h
  refine Tri.postE (Q := fun x st => x = .normal ∧ ∃ js, st = ⟨(uA0_l0 nl ls xs ys c i (sb []) ox).pre ++ junk js 149 9, (uA0_l0 nl ls xs ys c i (sb []) ox).hp, 9, []⟩) (Tri.allR (m := 9) (n := 149) (codeOK _) (uA0 nl ls xs ys c i (sb []) js x10 x12 ox hx hc rfl) (Tr.all_ok ⟨rfl, ht rfl, hd _ rfl, fun js => ⟨rfl, js, rfl⟩⟩)) ?_
  rintro x s a w ⟨rfl, js, rfl⟩ hat
  obtain ⟨js', h9⟩ := at_rename (dirty' := []) (nid' := 5) (m := 9) (n := 149) [(0, 0), (1, 1), (2, 2), (3, 3), (8, 4)] rfl (by simp [length_junk]) rfl rfl (by rw [hE]; rfl) (by omega) (by omega) hat
  exact ⟨_, at_wk (dirty' := []) (pre' := pre nl (oB 1) i) (hp' := hB ls xs ys c (sb [(96 + 4 * ((0 : Nat) : Int))]) (rows [(96 + 4 * ((0 : Nat) : Int))])) (by (repeat' apply And.intro) <;> first | rfl | trivial) (by (repeat' apply And.intro) <;> first | rfl | exact sb_eq.symm | exact (sb_ne (by decide)).symm | trivial) h9, rfl, js', rfl⟩
theorem uB_0 {xs L : List Int} {c i : Int} (hx : xs.length = 160) (hc : 0 ≤ c ∧ c ≤ 100000) (hL : 1 ≤ L.length ∧ L.length ≤ 1000) (hn : (96 + 4 * ((0 : Nat) : Int)) ∉ L) (x10 x12 : SV) (ox : VObj MObj) (js : Nat → SV) :
    Tri MS Try.prog E (qt [true, true, true, true, true, true]) ⟨pre nl (oB L.length) i ++ [.v (.int .i64 (.lit 0)), x10, .v (.int .i64 (.lit 5)), x12] ++ junk js 145 13, hB ls xs ys c (sb L) (rows L) ++ [(5, some ox)], 8, []⟩ fun x st => x = .normal ∧ ∃ js, st = SB nl ls ys xs c i ((96 + 4 * ((0 : Nat) : Int)) :: L) js := by
  have hd : ∀ (l : List Nat), l.all (Nat.ble 1) = true → ∀ b, b ∈ l → E.D b := fun l hl b hb => hD b (Nat.le_of_ble_eq_true (List.all_eq_true.1 hl b hb))
  have ht : ∀ {k : Nat}, Nat.ble k 20 = true → k ≤ E.top := fun h => by rw [hT]; exact Nat.le_of_ble_eq_true h
  refine Tri.postE (Q := fun x st => x = .normal ∧ ∃ js, st = ⟨(uB0_l0 nl L.length ls (rows L) xs ys c i (sb L) ox).pre ++ junk js 149 9, (uB0_l0 nl L.length ls (rows L) xs ys c i (sb L) ox).hp, 10, []⟩) (Tri.allR (m := 9) (n := 149) (codeOK _) (uB0 nl L.length ls (rows L) xs ys c i (sb L) js x10 x12 ox hx hc (by simp [rows]) hL.1 hL.2 (decide_eq_false hn)) (Tr.all_ok ⟨rfl, ht rfl, hd _ rfl, fun js => ⟨rfl, js, rfl⟩⟩)) ?_
  rintro x s a w ⟨rfl, js, rfl⟩ hat
  obtain ⟨js', h9⟩ := at_rename (dirty' := []) (nid' := 5) (m := 9) (n := 149) (hp' := [(0, some (.rotab [.int .i64] ls)), (1, some (.abs (.mem 66 xs c 0))), (2, some (.abs (.mem 70 ys 16 0))), (3, some (.cells [.bool (.lit true), .bool (.sym (sb L 1)), .bool (.sym (sb L 2)), .bool (.sym (sb L 3)), .bool (.sym (sb L 4)), .bool (.sym (sb L 5)), .bool (.sym (sb L 6)), .bool (.sym (sb L 7)), .bool (.sym (sb L 8)), .bool (.sym (sb L 9)), .bool (.sym (sb L 10)), .bool (.sym (sb L 11)), .bool (.sym (sb L 12)), .bool (.sym (sb L 13)), .bool (.sym (sb L 14)), .bool (.sym (sb L 15))] 28)), (4, some (.tab [.int .i64] (List.take L.length (List.drop 0 (rows L)) ++ [[(96 + 4 * ((0 : Nat) : Int))]]) 3))]) [(0, 0), (1, 1), (2, 2), (3, 3), (9, 4)] rfl (by simp [length_junk]) rfl rfl (by rw [hE]; rfl) (by omega) (by omega) hat
  rw [rows_cons] at h9
  exact ⟨_, at_wk (dirty' := []) (pre' := pre nl (oB (L.length + 1)) i) (hp' := hB ls xs ys c (sb ((96 + 4 * ((0 : Nat) : Int)) :: L)) (rows ((96 + 4 * ((0 : Nat) : Int)) :: L))) (by (repeat' apply And.intro) <;> first | rfl | trivial) (by (repeat' apply And.intro) <;> first | rfl | exact sb_eq.symm | exact (sb_ne (by decide)).symm | trivial) h9, rfl, js', rfl⟩
theorem sB_0 {xs L : List Int} {c i : Int} (hx : xs.length = 160) (hc : 0 ≤ c ∧ c ≤ 100000) (hL : 1 ≤ L.length ∧ L.length ≤ 1000) (hn : (96 + 4 * ((0 : Nat) : Int)) ∈ L) (x10 x12 : SV) (ox : VObj MObj) (js : Nat → SV) :
    Tri MS Try.prog E (qt [true, true, true, true, true, true]) ⟨pre nl (oB L.length) i ++ [.v (.int .i64 (.lit 0)), x10, .v (.int .i64 (.lit 1)), x12] ++ junk js 145 13, hB ls xs ys c (sb L) (rows L) ++ [(5, some ox)], 6, []⟩ fun x st => x = .normal ∧ ∃ js, st = SB nl ls ys xs c i L js := by
  have hd : ∀ (l : List Nat), l.all (Nat.ble 1) = true → ∀ b, b ∈ l → E.D b := fun l hl b hb => hD b (Nat.le_of_ble_eq_true (List.all_eq_true.1 hl b hb))
  have ht : ∀ {k : Nat}, Nat.ble k 20 = true → k ≤ E.top := fun h => by rw [hT]; exact Nat.le_of_ble_eq_true h
  have hs : sb L 0 = true := decide_eq_true hn
  refine Tri.postE (Q := fun x st => x = .normal ∧ ∃ js, st = ⟨(sB0_l0 nl L.length ls (rows L) xs ys c i (sb L) ox).pre ++ junk js 149 9, (sB0_l0 nl L.length ls (rows L) xs ys c i (sb L) ox).hp, 6, []⟩) (Tri.allR (m := 9) (n := 149) (codeOK _) (sB0 nl L.length ls (rows L) xs ys c i (sb L) js x10 x12 ox hx hc (by simp [rows]) hL.1 hL.2 hs) (Tr.all_ok ⟨rfl, ht rfl, hd _ rfl, fun js => ⟨rfl, js, rfl⟩⟩)) ?_
  rintro x s a w ⟨rfl, js, rfl⟩ hat
  obtain ⟨js', h9⟩ := at_rename (dirty' := []) (nid' := 5) (m := 9) (n := 149) [(0, 0), (1, 1), (2, 2), (3, 3), (4, 4)] rfl (by simp [length_junk]) rfl rfl (by rw [hE]; rfl) (by omega) (by omega) hat
  exact ⟨_, at_wk (dirty' := []) (pre' := pre nl (oB L.length) i) (hp' := hB ls xs ys c (sb L) (rows L)) (by (repeat' apply And.intro) <;> first | rfl | trivial) (by (repeat' apply And.intro) <;> first | rfl | exact hs.symm | trivial) h9, rfl, js', rfl⟩
theorem uA_1 {xs : List Int} {c i : Int} (hx : xs.length = 160) (hc : 0 ≤ c ∧ c ≤ 100000) (x10 x12 : SV) (ox : VObj MObj) (js : Nat → SV) :
    Tri MS Try.prog E (qt [true, true, true, true, true, true]) ⟨pre nl oA i ++ [.v (.int .i64 (.lit 1)), x10, .v (.int .i64 (.lit 5)), x12] ++ junk js 145 13, hA ls xs ys c (sb []) ++ [(4, some ox)], 7, []⟩ fun x st => x = .normal ∧ ∃ js, st = SB nl ls ys xs c i [(96 + 4 * ((1 : Nat) : Int))] js := by
  have hd : ∀ (l : List Nat), l.all (Nat.ble 1) = true → ∀ b, b ∈ l → E.D b := fun l hl b hb => hD b (Nat.le_of_ble_eq_true (List.all_eq_true.1 hl b hb))
  have ht : ∀ {k : Nat}, Nat.ble k 20 = true → k ≤ E.top := fun h => by rw [hT]; exact Nat.le_of_ble_eq_true h
  refine Tri.postE (Q := fun x st => x = .normal ∧ ∃ js, st = ⟨(uA1_l0 nl ls xs ys c i (sb []) ox).pre ++ junk js 149 9, (uA1_l0 nl ls xs ys c i (sb []) ox).hp, 9, []⟩) (Tri.allR (m := 9) (n := 149) (codeOK _) (uA1 nl ls xs ys c i (sb []) js x10 x12 ox hx hc rfl) (Tr.all_ok ⟨rfl, ht rfl, hd _ rfl, fun js => ⟨rfl, js, rfl⟩⟩)) ?_
  rintro x s a w ⟨rfl, js, rfl⟩ hat
  obtain ⟨js', h9⟩ := at_rename (dirty' := []) (nid' := 5) (m := 9) (n := 149) [(0, 0), (1, 1), (2, 2), (3, 3), (8, 4)] rfl (by simp [length_junk]) rfl rfl (by rw [hE]; rfl) (by omega) (by omega) hat
  exact ⟨_, at_wk (dirty' := []) (pre' := pre nl (oB 1) i) (hp' := hB ls xs ys c (sb [(96 + 4 * ((1 : Nat) : Int))]) (rows [(96 + 4 * ((1 : Nat) : Int))])) (by (repeat' apply And.intro) <;> first | rfl | trivial) (by (repeat' apply And.intro) <;> first | rfl | exact sb_eq.symm | exact (sb_ne (by decide)).symm | trivial) h9, rfl, js', rfl⟩
theorem uB_1 {xs L : List Int} {c i : Int} (hx : xs.length = 160) (hc : 0 ≤ c ∧ c ≤ 100000) (hL : 1 ≤ L.length ∧ L.length ≤ 1000) (hn : (96 + 4 * ((1 : Nat) : Int)) ∉ L) (x10 x12 : SV) (ox : VObj MObj) (js : Nat → SV) :
    Tri MS Try.prog E (qt [true, true, true, true, true, true]) ⟨pre nl (oB L.length) i ++ [.v (.int .i64 (.lit 1)), x10, .v (.int .i64 (.lit 5)), x12] ++ junk js 145 13, hB ls xs ys c (sb L) (rows L) ++ [(5, some ox)], 8, []⟩ fun x st => x = .normal ∧ ∃ js, st = SB nl ls ys xs c i ((96 + 4 * ((1 : Nat) : Int)) :: L) js := by
  have hd : ∀ (l : List Nat), l.all (Nat.ble 1) = true → ∀ b, b ∈ l → E.D b := fun l hl b hb => hD b (Nat.le_of_ble_eq_true (List.all_eq_true.1 hl b hb))
  have ht : ∀ {k : Nat}, Nat.ble k 20 = true → k ≤ E.top := fun h => by rw [hT]; exact Nat.le_of_ble_eq_true h
  refine Tri.postE (Q := fun x st => x = .normal ∧ ∃ js, st = ⟨(uB1_l0 nl L.length ls (rows L) xs ys c i (sb L) ox).pre ++ junk js 149 9, (uB1_l0 nl L.length ls (rows L) xs ys c i (sb L) ox).hp, 10, []⟩) (Tri.allR (m := 9) (n := 149) (codeOK _) (uB1 nl L.length ls (rows L) xs ys c i (sb L) js x10 x12 ox hx hc (by simp [rows]) hL.1 hL.2 (decide_eq_false hn)) (Tr.all_ok ⟨rfl, ht rfl, hd _ rfl, fun js => ⟨rfl, js, rfl⟩⟩)) ?_
  rintro x s a w ⟨rfl, js, rfl⟩ hat
  obtain ⟨js', h9⟩ := at_rename (dirty' := []) (nid' := 5) (m := 9) (n := 149) (hp' := [(0, some (.rotab [.int .i64] ls)), (1, some (.abs (.mem 66 xs c 0))), (2, some (.abs (.mem 70 ys 16 0))), (3, some (.cells [.bool (.sym (sb L 0)), .bool (.lit true), .bool (.sym (sb L 2)), .bool (.sym (sb L 3)), .bool (.sym (sb L 4)), .bool (.sym (sb L 5)), .bool (.sym (sb L 6)), .bool (.sym (sb L 7)), .bool (.sym (sb L 8)), .bool (.sym (sb L 9)), .bool (.sym (sb L 10)), .bool (.sym (sb L 11)), .bool (.sym (sb L 12)), .bool (.sym (sb L 13)), .bool (.sym (sb L 14)), .bool (.sym (sb L 15))] 28)), (4, some (.tab [.int .i64] (List.take L.length (List.drop 0 (rows L)) ++ [[(96 + 4 * ((1 : Nat) : Int))]]) 3))]) [(0, 0), (1, 1), (2, 2), (3, 3), (9, 4)] rfl (by simp [length_junk]) rfl rfl (by rw [hE]; rfl) (by omega) (by omega) hat
  rw [rows_cons] at h9
  exact ⟨_, at_wk (dirty' := []) (pre' := pre nl (oB (L.length + 1)) i) (hp' := hB ls xs ys c (sb ((96 + 4 * ((1 : Nat) : Int)) :: L)) (rows ((96 + 4 * ((1 : Nat) : Int)) :: L))) (by (repeat' apply And.intro) <;> first | rfl | trivial) (by (repeat' apply And.intro) <;> first | rfl | exact sb_eq.symm | exact (sb_ne (by decide)).symm | trivial) h9, rfl, js', rfl⟩
theorem sB_1 {xs L : List Int} {c i : Int} (hx : xs.length = 160) (hc : 0 ≤ c ∧ c ≤ 100000) (hL : 1 ≤ L.length ∧ L.length ≤ 1000) (hn : (96 + 4 * ((1 : Nat) : Int)) ∈ L) (x10 x12 : SV) (ox : VObj MObj) (js : Nat → SV) :
    Tri MS Try.prog E (qt [true, true, true, true, true, true]) ⟨pre nl (oB L.length) i ++ [.v (.int .i64 (.lit 1)), x10, .v (.int .i64 (.lit 1)), x12] ++ junk js 145 13, hB ls xs ys c (sb L) (rows L) ++ [(5, some ox)], 6, []⟩ fun x st => x = .normal ∧ ∃ js, st = SB nl ls ys xs c i L js := by
  have hd : ∀ (l : List Nat), l.all (Nat.ble 1) = true → ∀ b, b ∈ l → E.D b := fun l hl b hb => hD b (Nat.le_of_ble_eq_true (List.all_eq_true.1 hl b hb))
  have ht : ∀ {k : Nat}, Nat.ble k 20 = true → k ≤ E.top := fun h => by rw [hT]; exact Nat.le_of_ble_eq_true h
  have hs : sb L 1 = true := decide_eq_true hn
  refine Tri.postE (Q := fun x st => x = .normal ∧ ∃ js, st = ⟨(sB1_l0 nl L.length ls (rows L) xs ys c i (sb L) ox).pre ++ junk js 149 9, (sB1_l0 nl L.length ls (rows L) xs ys c i (sb L) ox).hp, 6, []⟩) (Tri.allR (m := 9) (n := 149) (codeOK _) (sB1 nl L.length ls (rows L) xs ys c i (sb L) js x10 x12 ox hx hc (by simp [rows]) hL.1 hL.2 hs) (Tr.all_ok ⟨rfl, ht rfl, hd _ rfl, fun js => ⟨rfl, js, rfl⟩⟩)) ?_
  rintro x s a w ⟨rfl, js, rfl⟩ hat
  obtain ⟨js', h9⟩ := at_rename (dirty' := []) (nid' := 5) (m := 9) (n := 149) [(0, 0), (1, 1), (2, 2), (3, 3), (4, 4)] rfl (by simp [length_junk]) rfl rfl (by rw [hE]; rfl) (by omega) (by omega) hat
  exact ⟨_, at_wk (dirty' := []) (pre' := pre nl (oB L.length) i) (hp' := hB ls xs ys c (sb L) (rows L)) (by (repeat' apply And.intro) <;> first | rfl | trivial) (by (repeat' apply And.intro) <;> first | rfl | exact hs.symm | trivial) h9, rfl, js', rfl⟩
theorem uA_2 {xs : List Int} {c i : Int} (hx : xs.length = 160) (hc : 0 ≤ c ∧ c ≤ 100000) (x10 x12 : SV) (ox : VObj MObj) (js : Nat → SV) :
    Tri MS Try.prog E (qt [true, true, true, true, true, true]) ⟨pre nl oA i ++ [.v (.int .i64 (.lit 2)), x10, .v (.int .i64 (.lit 5)), x12] ++ junk js 145 13, hA ls xs ys c (sb []) ++ [(4, some ox)], 7, []⟩ fun x st => x = .normal ∧ ∃ js, st = SB nl ls ys xs c i [(96 + 4 * ((2 : Nat) : Int))] js := by
  have hd : ∀ (l : List Nat), l.all (Nat.ble 1) = true → ∀ b, b ∈ l → E.D b := fun l hl b hb => hD b (Nat.le_of_ble_eq_true (List.all_eq_true.1 hl b hb))
  have ht : ∀ {k : Nat}, Nat.ble k 20 = true → k ≤ E.top := fun h => by rw [hT]; exact Nat.le_of_ble_eq_true h
  refine Tri.postE (Q := fun x st => x = .normal ∧ ∃ js, st = ⟨(uA2_l0 nl ls xs ys c i (sb []) ox).pre ++ junk js 149 9, (uA2_l0 nl ls xs ys c i (sb []) ox).hp, 9, []⟩) (Tri.allR (m := 9) (n := 149) (codeOK _) (uA2 nl ls xs ys c i (sb []) js x10 x12 ox hx hc rfl) (Tr.all_ok ⟨rfl, ht rfl, hd _ rfl, fun js => ⟨rfl, js, rfl⟩⟩)) ?_
  rintro x s a w ⟨rfl, js, rfl⟩ hat
  obtain ⟨js', h9⟩ := at_rename (dirty' := []) (nid' := 5) (m := 9) (n := 149) [(0, 0), (1, 1), (2, 2), (3, 3), (8, 4)] rfl (by simp [length_junk]) rfl rfl (by rw [hE]; rfl) (by omega) (by omega) hat
  exact ⟨_, at_wk (dirty' := []) (pre' := pre nl (oB 1) i) (hp' := hB ls xs ys c (sb [(96 + 4 * ((2 : Nat) : Int))]) (rows [(96 + 4 * ((2 : Nat) : Int))])) (by (repeat' apply And.intro) <;> first | rfl | trivial) (by (repeat' apply And.intro) <;> first | rfl | exact sb_eq.symm | exact (sb_ne (by decide)).symm | trivial) h9, rfl, js', rfl⟩
theorem uB_2 {xs L : List Int} {c i : Int} (hx : xs.length = 160) (hc : 0 ≤ c ∧ c ≤ 100000) (hL : 1 ≤ L.length ∧ L.length ≤ 1000) (hn : (96 + 4 * ((2 : Nat) : Int)) ∉ L) (x10 x12 : SV) (ox : VObj MObj) (js : Nat → SV) :
    Tri MS Try.prog E (qt [true, true, true, true, true, true]) ⟨pre nl (oB L.length) i ++ [.v (.int .i64 (.lit 2)), x10, .v (.int .i64 (.lit 5)), x12] ++ junk js 145 13, hB ls xs ys c (sb L) (rows L) ++ [(5, some ox)], 8, []⟩ fun x st => x = .normal ∧ ∃ js, st = SB nl ls ys xs c i ((96 + 4 * ((2 : Nat) : Int)) :: L) js := by
  have hd : ∀ (l : List Nat), l.all (Nat.ble 1) = true → ∀ b, b ∈ l → E.D b := fun l hl b hb => hD b (Nat.le_of_ble_eq_true (List.all_eq_true.1 hl b hb))
  have ht : ∀ {k : Nat}, Nat.ble k 20 = true → k ≤ E.top := fun h => by rw [hT]; exact Nat.le_of_ble_eq_true h
  refine Tri.postE (Q := fun x st => x = .normal ∧ ∃ js, st = ⟨(uB2_l0 nl L.length ls (rows L) xs ys c i (sb L) ox).pre ++ junk js 149 9, (uB2_l0 nl L.length ls (rows L) xs ys c i (sb L) ox).hp, 10, []⟩) (Tri.allR (m := 9) (n := 149) (codeOK _) (uB2 nl L.length ls (rows L) xs ys c i (sb L) js x10 x12 ox hx hc (by simp [rows]) hL.1 hL.2 (decide_eq_false hn)) (Tr.all_ok ⟨rfl, ht rfl, hd _ rfl, fun js => ⟨rfl, js, rfl⟩⟩)) ?_
  rintro x s a w ⟨rfl, js, rfl⟩ hat
  obtain ⟨js', h9⟩ := at_rename (dirty' := []) (nid' := 5) (m := 9) (n := 149) (hp' := [(0, some (.rotab [.int .i64] ls)), (1, some (.abs (.mem 66 xs c 0))), (2, some (.abs (.mem 70 ys 16 0))), (3, some (.cells [.bool (.sym (sb L 0)), .bool (.sym (sb L 1)), .bool (.lit true), .bool (.sym (sb L 3)), .bool (.sym (sb L 4)), .bool (.sym (sb L 5)), .bool (.sym (sb L 6)), .bool (.sym (sb L 7)), .bool (.sym (sb L 8)), .bool (.sym (sb L 9)), .bool (.sym (sb L 10)), .bool (.sym (sb L 11)), .bool (.sym (sb L 12)), .bool (.sym (sb L 13)), .bool (.sym (sb L 14)), .bool (.sym (sb L 15))] 28)), (4, some (.tab [.int .i64] (List.take L.length (List.drop 0 (rows L)) ++ [[(96 + 4 * ((2 : Nat) : Int))]]) 3))]) [(0, 0), (1, 1), (2, 2), (3, 3), (9, 4)] rfl (by simp [length_junk]) rfl rfl (by rw [hE]; rfl) (by omega) (by omega) hat
  rw [rows_cons] at h9
  exact ⟨_, at_wk (dirty' := []) (pre' := pre nl (oB (L.length + 1)) i) (hp' := hB ls xs ys c (sb ((96 + 4 * ((2 : Nat) : Int)) :: L)) (rows ((96 + 4 * ((2 : Nat) : Int)) :: L))) (by (repeat' apply And.intro) <;> first | rfl | trivial) (by (repeat' apply And.intro) <;> first | rfl | exact sb_eq.symm | exact (sb_ne (by decide)).symm | trivial) h9, rfl, js', rfl⟩
theorem sB_2 {xs L : List Int} {c i : Int} (hx : xs.length = 160) (hc : 0 ≤ c ∧ c ≤ 100000) (hL : 1 ≤ L.length ∧ L.length ≤ 1000) (hn : (96 + 4 * ((2 : Nat) : Int)) ∈ L) (x10 x12 : SV) (ox : VObj MObj) (js : Nat → SV) :
    Tri MS Try.prog E (qt [true, true, true, true, true, true]) ⟨pre nl (oB L.length) i ++ [.v (.int .i64 (.lit 2)), x10, .v (.int .i64 (.lit 1)), x12] ++ junk js 145 13, hB ls xs ys c (sb L) (rows L) ++ [(5, some ox)], 6, []⟩ fun x st => x = .normal ∧ ∃ js, st = SB nl ls ys xs c i L js := by
  have hd : ∀ (l : List Nat), l.all (Nat.ble 1) = true → ∀ b, b ∈ l → E.D b := fun l hl b hb => hD b (Nat.le_of_ble_eq_true (List.all_eq_true.1 hl b hb))
  have ht : ∀ {k : Nat}, Nat.ble k 20 = true → k ≤ E.top := fun h => by rw [hT]; exact Nat.le_of_ble_eq_true h
  have hs : sb L 2 = true := decide_eq_true hn
  refine Tri.postE (Q := fun x st => x = .normal ∧ ∃ js, st = ⟨(sB2_l0 nl L.length ls (rows L) xs ys c i (sb L) ox).pre ++ junk js 149 9, (sB2_l0 nl L.length ls (rows L) xs ys c i (sb L) ox).hp, 6, []⟩) (Tri.allR (m := 9) (n := 149) (codeOK _) (sB2 nl L.length ls (rows L) xs ys c i (sb L) js x10 x12 ox hx hc (by simp [rows]) hL.1 hL.2 hs) (Tr.all_ok ⟨rfl, ht rfl, hd _ rfl, fun js => ⟨rfl, js, rfl⟩⟩)) ?_
  rintro x s a w ⟨rfl, js, rfl⟩ hat
  obtain ⟨js', h9⟩ := at_rename (dirty' := []) (nid' := 5) (m := 9) (n := 149) [(0, 0), (1, 1), (2, 2), (3, 3), (4, 4)] rfl (by simp [length_junk]) rfl rfl (by rw [hE]; rfl) (by omega) (by omega) hat
  exact ⟨_, at_wk (dirty' := []) (pre' := pre nl (oB L.length) i) (hp' := hB ls xs ys c (sb L) (rows L)) (by (repeat' apply And.intro) <;> first | rfl | trivial) (by (repeat' apply And.intro) <;> first | rfl | exact hs.symm | trivial) h9, rfl, js', rfl⟩
theorem uA_3 {xs : List Int} {c i : Int} (hx : xs.length = 160) (hc : 0 ≤ c ∧ c ≤ 100000) (x10 x12 : SV) (ox : VObj MObj) (js : Nat → SV) :
    Tri MS Try.prog E (qt [true, true, true, true, true, true]) ⟨pre nl oA i ++ [.v (.int .i64 (.lit 3)), x10, .v (.int .i64 (.lit 5)), x12] ++ junk js 145 13, hA ls xs ys c (sb []) ++ [(4, some ox)], 7, []⟩ fun x st => x = .normal ∧ ∃ js, st = SB nl ls ys xs c i [(96 + 4 * ((3 : Nat) : Int))] js := by
  have hd : ∀ (l : List Nat), l.all (Nat.ble 1) = true → ∀ b, b ∈ l → E.D b := fun l hl b hb => hD b (Nat.le_of_ble_eq_true (List.all_eq_true.1 hl b hb))
  have ht : ∀ {k : Nat}, Nat.ble k 20 = true → k ≤ E.top := fun h => by rw [hT]; exact Nat.le_of_ble_eq_true h
  refine Tri.postE (Q := fun x st => x = .normal ∧ ∃ js, st = ⟨(uA3_l0 nl ls xs ys c i (sb []) ox).pre ++ junk js 149 9, (uA3_l0 nl ls xs ys c i (sb []) ox).hp, 9, []⟩) (Tri.allR (m := 9) (n := 149) (codeOK _) (uA3 nl ls xs ys c i (sb []) js x10 x12 ox hx hc rfl) (Tr.all_ok ⟨rfl, ht rfl, hd _ rfl, fun js => ⟨rfl, js, rfl⟩⟩)) ?_
  rintro x s a w ⟨rfl, js, rfl⟩ hat
  obtain ⟨js', h9⟩ := at_rename (dirty' := []) (nid' := 5) (m := 9) (n := 149) [(0, 0), (1, 1), (2, 2), (3, 3), (8, 4)] rfl (by simp [length_junk]) rfl rfl (by rw [hE]; rfl) (by omega) (by omega) hat
  exact ⟨_, at_wk (dirty' := []) (pre' := pre nl (oB 1) i) (hp' := hB ls xs ys c (sb [(96 + 4 * ((3 : Nat) : Int))]) (rows [(96 + 4 * ((3 : Nat) : Int))])) (by (repeat' apply And.intro) <;> first | rfl | trivial) (by (repeat' apply And.intro) <;> first | rfl | exact sb_eq.symm | exact (sb_ne (by decide)).symm | trivial) h9, rfl, js', rfl⟩
theorem uB_3 {xs L : List Int} {c i : Int} (hx : xs.length = 160) (hc : 0 ≤ c ∧ c ≤ 100000) (hL : 1 ≤ L.length ∧ L.length ≤ 1000) (hn : (96 + 4 * ((3 : Nat) : Int)) ∉ L) (x10 x12 : SV) (ox : VObj MObj) (js : Nat → SV) :
    Tri MS Try.prog E (qt [true, true, true, true, true, true]) ⟨pre nl (oB L.length) i ++ [.v (.int .i64 (.lit 3)), x10, .v (.int .i64 (.lit 5)), x12] ++ junk js 145 13, hB ls xs ys c (sb L) (rows L) ++ [(5, some ox)], 8, []⟩ fun x st => x = .normal ∧ ∃ js, st = SB nl ls ys xs c i ((96 + 4 * ((3 : Nat) : Int)) :: L) js := by
  have hd : ∀ (l : List Nat), l.all (Nat.ble 1) = true → ∀ b, b ∈ l → E.D b := fun l hl b hb => hD b (Nat.le_of_ble_eq_true (List.all_eq_true.1 hl b hb))
  have ht : ∀ {k : Nat}, Nat.ble k 20 = true → k ≤ E.top := fun h => by rw [hT]; exact Nat.le_of_ble_eq_true h
  refine Tri.postE (Q := fun x st => x = .normal ∧ ∃ js, st = ⟨(uB3_l0 nl L.length ls (rows L) xs ys c i (sb L) ox).pre ++ junk js 149 9, (uB3_l0 nl L.length ls (rows L) xs ys c i (sb L) ox).hp, 10, []⟩) (Tri.allR (m := 9) (n := 149) (codeOK _) (uB3 nl L.length ls (rows L) xs ys c i (sb L) js x10 x12 ox hx hc (by simp [rows]) hL.1 hL.2 (decide_eq_false hn)) (Tr.all_ok ⟨rfl, ht rfl, hd _ rfl, fun js => ⟨rfl, js, rfl⟩⟩)) ?_
  rintro x s a w ⟨rfl, js, rfl⟩ hat
  obtain ⟨js', h9⟩ := at_rename (dirty' := []) (nid' := 5) (m := 9) (n := 149) (hp' := [(0, some (.rotab [.int .i64] ls)), (1, some (.abs (.mem 66 xs c 0))), (2, some (.abs (.mem 70 ys 16 0))), (3, some (.cells [.bool (.sym (sb L 0)), .bool (.sym (sb L 1)), .bool (.sym (sb L 2)), .bool (.lit true), .bool (.sym (sb L 4)), .bool (.sym (sb L 5)), .bool (.sym (sb L 6)), .bool (.sym (sb L 7)), .bool (.sym (sb L 8)), .bool (.sym (sb L 9)), .bool (.sym (sb L 10)), .bool (.sym (sb L 11)), .bool (.sym (sb L 12)), .bool (.sym (sb L 13)), .bool (.sym (sb L 14)), .bool (.sym (sb L 15))] 28)), (4, some (.tab [.int .i64] (List.take L.length (List.drop 0 (rows L)) ++ [[(96 + 4 * ((3 : Nat) : Int))]]) 3))]) [(0, 0), (1, 1), (2, 2), (3, 3), (9, 4)] rfl (by simp [length_junk]) rfl rfl (by rw [hE]; rfl) (by omega) (by omega) hat
  rw [rows_cons] at h9
  exact ⟨_, at_wk (dirty' := []) (pre' := pre nl (oB (L.length + 1)) i) (hp' := hB ls xs ys c (sb ((96 + 4 * ((3 : Nat) : Int)) :: L)) (rows ((96 + 4 * ((3 : Nat) : Int)) :: L))) (by (repeat' apply And.intro) <;> first | rfl | trivial) (by (repeat' apply And.intro) <;> first | rfl | exact sb_eq.symm | exact (sb_ne (by decide)).symm | trivial) h9, rfl, js', rfl⟩
theorem sB_3 {xs L : List Int} {c i : Int} (hx : xs.length = 160) (hc : 0 ≤ c ∧ c ≤ 100000) (hL : 1 ≤ L.length ∧ L.length ≤ 1000) (hn : (96 + 4 * ((3 : Nat) : Int)) ∈ L) (x10 x12 : SV) (ox : VObj MObj) (js : Nat → SV) :
    Tri MS Try.prog E (qt [true, true, true, true, true, true]) ⟨pre nl (oB L.length) i ++ [.v (.int .i64 (.lit 3)), x10, .v (.int .i64 (.lit 1)), x12] ++ junk js 145 13, hB ls xs ys c (sb L) (rows L) ++ [(5, some ox)], 6, []⟩ fun x st => x = .normal ∧ ∃ js, st = SB nl ls ys xs c i L js := by
  have hd : ∀ (l : List Nat), l.all (Nat.ble 1) = true → ∀ b, b ∈ l → E.D b := fun l hl b hb => hD b (Nat.le_of_ble_eq_true (List.all_eq_true.1 hl b hb))
  have ht : ∀ {k : Nat}, Nat.ble k 20 = true → k ≤ E.top := fun h => by rw [hT]; exact Nat.le_of_ble_eq_true h
  have hs : sb L 3 = true := decide_eq_true hn
  refine Tri.postE (Q := fun x st => x = .normal ∧ ∃ js, st = ⟨(sB3_l0 nl L.length ls (rows L) xs ys c i (sb L) ox).pre ++ junk js 149 9, (sB3_l0 nl L.length ls (rows L) xs ys c i (sb L) ox).hp, 6, []⟩) (Tri.allR (m := 9) (n := 149) (codeOK _) (sB3 nl L.length ls (rows L) xs ys c i (sb L) js x10 x12 ox hx hc (by simp [rows]) hL.1 hL.2 hs) (Tr.all_ok ⟨rfl, ht rfl, hd _ rfl, fun js => ⟨rfl, js, rfl⟩⟩)) ?_
  rintro x s a w ⟨rfl, js, rfl⟩ hat
  obtain ⟨js', h9⟩ := at_rename (dirty' := []) (nid' := 5) (m := 9) (n := 149) [(0, 0), (1, 1), (2, 2), (3, 3), (4, 4)] rfl (by simp [length_junk]) rfl rfl (by rw [hE]; rfl) (by omega) (by omega) hat
  exact ⟨_, at_wk (dirty' := []) (pre' := pre nl (oB L.length) i) (hp' := hB ls xs ys c (sb L) (rows L)) (by (repeat' apply And.intro) <;> first | rfl | trivial) (by (repeat' apply And.intro) <;> first | rfl | exact hs.symm | trivial) h9, rfl, js', rfl⟩
theorem uA_4 {xs : List Int} {c i : Int} (hx : xs.length = 160) (hc : 0 ≤ c ∧ c ≤ 100000) (x10 x12 : SV) (ox : VObj MObj) (js : Nat → SV) :
    Tri MS Try.prog E (qt [true, true, true, true, true, true]) ⟨pre nl oA i ++ [.v (.int .i64 (.lit 4)), x10, .v (.int .i64 (.lit 5)), x12] ++ junk js 145 13, hA ls xs ys c (sb []) ++ [(4, some ox)], 7, []⟩ fun x st => x = .normal ∧ ∃ js, st = SB nl ls ys xs c i [(96 + 4 * ((4 : Nat) : Int))] js := by
  have hd : ∀ (l : List Nat), l.all (Nat.ble 1) = true → ∀ b, b ∈ l → E.D b := fun l hl b hb => hD b (Nat.le_of_ble_eq_true (List.all_eq_true.1 hl b hb))
  have ht : ∀ {k : Nat}, Nat.ble k 20 = true → k ≤ E.top := fun h => by rw [hT]; exact Nat.le_of_ble_eq_true h
  refine Tri.postE (Q := fun x st => x = .normal ∧ ∃ js, st = ⟨(uA4_l0 nl ls xs ys c i (sb []) ox).pre ++ junk js 149 9, (uA4_l0 nl ls xs ys c i (sb []) ox).hp, 9, []⟩) (Tri.allR (m := 9) (n := 149) (codeOK _) (uA4 nl ls xs ys c i (sb []) js x10 x12 ox hx hc rfl) (Tr.all_ok ⟨rfl, ht rfl, hd _ rfl, fun js => ⟨rfl, js, rfl⟩⟩)) ?_
  rintro x s a w ⟨rfl, js, rfl⟩ hat
  obtain ⟨js', h9⟩ := at_rename (dirty' := []) (nid' := 5) (m := 9) (n := 149) [(0, 0), (1, 1), (2, 2), (3, 3), (8, 4)] rfl (by simp [length_junk]) rfl rfl (by rw [hE]; rfl) (by omega) (by omega) hat
  exact ⟨_, at_wk (dirty' := []) (pre' := pre nl (oB 1) i) (hp' := hB ls xs ys c (sb [(96 + 4 * ((4 : Nat) : Int))]) (rows [(96 + 4 * ((4 : Nat) : Int))])) (by (repeat' apply And.intro) <;> first | rfl | trivial) (by (repeat' apply And.intro) <;> first | rfl | exact sb_eq.symm | exact (sb_ne (by decide)).symm | trivial) h9, rfl, js', rfl⟩
theorem uB_4 {xs L : List Int} {c i : Int} (hx : xs.length = 160) (hc : 0 ≤ c ∧ c ≤ 100000) (hL : 1 ≤ L.length ∧ L.length ≤ 1000) (hn : (96 + 4 * ((4 : Nat) : Int)) ∉ L) (x10 x12 : SV) (ox : VObj MObj) (js : Nat → SV) :
    Tri MS Try.prog E (qt [true, true, true, true, true, true]) ⟨pre nl (oB L.length) i ++ [.v (.int .i64 (.lit 4)), x10, .v (.int .i64 (.lit 5)), x12] ++ junk js 145 13, hB ls xs ys c (sb L) (rows L) ++ [(5, some ox)], 8, []⟩ fun x st => x = .normal ∧ ∃ js, st = SB nl ls ys xs c i ((96 + 4 * ((4 : Nat) : Int)) :: L) js := by
  have hd : ∀ (l : List Nat), l.all (Nat.ble 1) = true → ∀ b, b ∈ l → E.D b := fun l hl b hb => hD b (Nat.le_of_ble_eq_true (List.all_eq_true.1 hl b hb))
  have ht : ∀ {k : Nat}, Nat.ble k 20 = true → k ≤ E.top := fun h => by rw [hT]; exact Nat.le_of_ble_eq_true h
  refine Tri.postE (Q := fun x st => x = .normal ∧ ∃ js, st = ⟨(uB4_l0 nl L.length ls (rows L) xs ys c i (sb L) ox).pre ++ junk js 149 9, (uB4_l0 nl L.length ls (rows L) xs ys c i (sb L) ox).hp, 10, []⟩) (Tri.allR (m := 9) (n := 149) (codeOK _) (uB4 nl L.length ls (rows L) xs ys c i (sb L) js x10 x12 ox hx hc (by simp [rows]) hL.1 hL.2 (decide_eq_false hn)) (Tr.all_ok ⟨rfl, ht rfl, hd _ rfl, fun js => ⟨rfl, js, rfl⟩⟩)) ?_
  rintro x s a w ⟨rfl, js, rfl⟩ hat
  obtain ⟨js', h9⟩ := at_rename (dirty' := []) (nid' := 5) (m := 9) (n := 149) (hp' := [(0, some (.rotab [.int .i64] ls)), (1, some (.abs (.mem 66 xs c 0))), (2, some (.abs (.mem 70 ys 16 0))), (3, some (.cells [.bool (.sym (sb L 0)), .bool (.sym (sb L 1)), .bool (.sym (sb L 2)), .bool (.sym (sb L 3)), .bool (.lit true), .bool (.sym (sb L 5)), .bool (.sym (sb L 6)), .bool (.sym (sb L 7)), .bool (.sym (sb L 8)), .bool (.sym (sb L 9)), .bool (.sym (sb L 10)), .bool (.sym (sb L 11)), .bool (.sym (sb L 12)), .bool (.sym (sb L 13)), .bool (.sym (sb L 14)), .bool (.sym (sb L 15))] 28)), (4, some (.tab [.int .i64] (List.take L.length (List.drop 0 (rows L)) ++ [[(96 + 4 * ((4 : Nat) : Int))]]) 3))]) [(0, 0), (1, 1), (2, 2), (3, 3), (9, 4)] rfl (by simp [length_junk]) rfl rfl (by rw [hE]; rfl) (by omega) (by omega) hat
  rw [rows_cons] at h9
  exact ⟨_, at_wk (dirty' := []) (pre' := pre nl (oB (L.length + 1)) i) (hp' := hB ls xs ys c (sb ((96 + 4 * ((4 : Nat) : Int)) :: L)) (rows ((96 + 4 * ((4 : Nat) : Int)) :: L))) (by (repeat' apply And.intro) <;> first | rfl | trivial) (by (repeat' apply And.intro) <;> first | rfl | exact sb_eq.symm | exact (sb_ne (by decide)).symm | trivial) h9, rfl, js', rfl⟩
theorem sB_4 {xs L : List Int} {c i : Int} (hx : xs.length = 160) (hc : 0 ≤ c ∧ c ≤ 100000) (hL : 1 ≤ L.length ∧ L.length ≤ 1000) (hn : (96 + 4 * ((4 : Nat) : Int)) ∈ L) (x10 x12 : SV) (ox : VObj MObj) (js : Nat → SV) :
    Tri MS Try.prog E (qt [true, true, true, true, true, true]) ⟨pre nl (oB L.length) i ++ [.v (.int .i64 (.lit 4)), x10, .v (.int .i64 (.lit 1)), x12] ++ junk js 145 13, hB ls xs ys c (sb L) (rows L) ++ [(5, some ox)], 6, []⟩ fun x st => x = .normal ∧ ∃ js, st = SB nl ls ys xs c i L js := by
  have hd : ∀ (l : List Nat), l.all (Nat.ble 1) = true → ∀ b, b ∈ l → E.D b := fun l hl b hb => hD b (Nat.le_of_ble_eq_true (List.all_eq_true.1 hl b hb))
  have ht : ∀ {k : Nat}, Nat.ble k 20 = true → k ≤ E.top := fun h => by rw [hT]; exact Nat.le_of_ble_eq_true h
  have hs : sb L 4 = true := decide_eq_true hn
  refine Tri.postE (Q := fun x st => x = .normal ∧ ∃ js, st = ⟨(sB4_l0 nl L.length ls (rows L) xs ys c i (sb L) ox).pre ++ junk js 149 9, (sB4_l0 nl L.length ls (rows L) xs ys c i (sb L) ox).hp, 6, []⟩) (Tri.allR (m := 9) (n := 149) (codeOK _) (sB4 nl L.length ls (rows L) xs ys c i (sb L) js x10 x12 ox hx hc (by simp [rows]) hL.1 hL.2 hs) (Tr.all_ok ⟨rfl, ht rfl, hd _ rfl, fun js => ⟨rfl, js, rfl⟩⟩)) ?_
  rintro x s a w ⟨rfl, js, rfl⟩ hat
  obtain ⟨js', h9⟩ := at_rename (dirty' := []) (nid' := 5) (m := 9) (n := 149) [(0, 0), (1, 1), (2, 2), (3, 3), (4, 4)] rfl (by simp [length_junk]) rfl rfl (by rw [hE]; rfl) (by omega) (by omega) hat
  exact ⟨_, at_wk (dirty' := []) (pre' := pre nl (oB L.length) i) (hp' := hB ls xs ys c (sb L) (rows L)) (by (repeat' apply And.intro) <;> first | rfl | trivial) (by (repeat' apply And.intro) <;> first | rfl | exact hs.symm | trivial) h9, rfl, js', rfl⟩
theorem uA_5 {xs : List Int} {c i : Int} (hx : xs.length = 160) (hc : 0 ≤ c ∧ c ≤ 100000) (x10 x12 : SV) (ox : VObj MObj) (js : Nat → SV) :
    Tri MS Try.prog E (qt [true, true, true, true, true, true]) ⟨pre nl oA i ++ [.v (.int .i64 (.lit 5)), x10, .v (.int .i64 (.lit 5)), x12] ++ junk js 145 13, hA ls xs ys c (sb []) ++ [(4, some ox)], 7, []⟩ fun x st => x = .normal ∧ ∃ js, st = SB nl ls ys xs c i [(96 + 4 * ((5 : Nat) : Int))] js := by
  have hd : ∀ (l : List Nat), l.all (Nat.ble 1) = true → ∀ b, b ∈ l → E.D b := fun l hl b hb => hD b (Nat.le_of_ble_eq_true (List.all_eq_true.1 hl b hb))
  have ht : ∀ {k : Nat}, Nat.ble k 20 = true → k ≤ E.top := fun h => by rw [hT]; exact Nat.le_of_ble_eq_true h
  refine Tri.postE (Q := fun x st => x = .normal ∧ ∃ js, st = ⟨(uA5_l0 nl ls xs ys c i (sb []) ox).pre ++ junk js 149 9, (uA5_l0 nl ls xs ys c i (sb []) ox).hp, 9, []⟩) (Tri.allR (m := 9) (n := 149) (codeOK _) (uA5 nl ls xs ys c i (sb []) js x10 x12 ox hx hc rfl) (Tr.all_ok ⟨rfl, ht rfl, hd _ rfl, fun js => ⟨rfl, js, rfl⟩⟩)) ?_
  rintro x s a w ⟨rfl, js, rfl⟩ hat
  obtain ⟨js', h9⟩ := at_rename (dirty' := []) (nid' := 5) (m := 9) (n := 149) [(0, 0), (1, 1), (2, 2), (3, 3), (8, 4)] rfl (by simp [length_junk]) rfl rfl (by rw [hE]; rfl) (by omega) (by omega) hat
  exact ⟨_, at_wk (dirty' := []) (pre' := pre nl (oB 1) i) (hp' := hB ls xs ys c (sb [(96 + 4 * ((5 : Nat) : Int))]) (rows [(96 + 4 * ((5 : Nat) : Int))])) (by (repeat' apply And.intro) <;> first | rfl | trivial) (by (repeat' apply And.intro) <;> first | rfl | exact sb_eq.symm | exact (sb_ne (by decide)).symm | trivial) h9, rfl, js', rfl⟩
theorem uB_5 {xs L : List Int} {c i : Int} (hx : xs.length = 160) (hc : 0 ≤ c ∧ c ≤ 100000) (hL : 1 ≤ L.length ∧ L.length ≤ 1000) (hn : (96 + 4 * ((5 : Nat) : Int)) ∉ L) (x10 x12 : SV) (ox : VObj MObj) (js : Nat → SV) :
    Tri MS Try.prog E (qt [true, true, true, true, true, true]) ⟨pre nl (oB L.length) i ++ [.v (.int .i64 (.lit 5)), x10, .v (.int .i64 (.lit 5)), x12] ++ junk js 145 13, hB ls xs ys c (sb L) (rows L) ++ [(5, some ox)], 8, []⟩ fun x st => x = .normal ∧ ∃ js, st = SB nl ls ys xs c i ((96 + 4 * ((5 : Nat) : Int)) :: L) js := by
  have hd : ∀ (l : List Nat), l.all (Nat.ble 1) = true → ∀ b, b ∈ l → E.D b := fun l hl b hb => hD b (Nat.le_of_ble_eq_true (List.all_eq_true.1 hl b hb))
  have ht : ∀ {k : Nat}, Nat.ble k 20 = true → k ≤ E.top := fun h => by rw [hT]; exact Nat.le_of_ble_eq_true h
  refine Tri.postE (Q := fun x st => x = .normal ∧ ∃ js, st = ⟨(uB5_l0 nl L.length ls (rows L) xs ys c i (sb L) ox).pre ++ junk js 149 9, (uB5_l0 nl L.length ls (rows L) xs ys c i (sb L) ox).hp, 10, []⟩) (Tri.allR (m := 9) (n := 149) (codeOK _) (uB5 nl L.length ls (rows L) xs ys c i (sb L) js x10 x12 ox hx hc (by simp [rows]) hL.1 hL.2 (decide_eq_false hn)) (Tr.all_ok ⟨rfl, ht rfl, hd _ rfl, fun js => ⟨rfl, js, rfl⟩⟩)) ?_
  rintro x s a w ⟨rfl, js, rfl⟩ hat
  obtain ⟨js', h9⟩ := at_rename (dirty' := []) (nid' := 5) (m := 9) (n := 149) (hp' := [(0, some (.rotab [.int .i64] ls)), (1, some (.abs (.mem 66 xs c 0))), (2, some (.abs (.mem 70 ys 16 0))), (3, some (.cells [.bool (.sym (sb L 0)), .bool (.sym (sb L 1)), .bool (.sym (sb L 2)), .bool (.sym (sb L 3)), .bool (.sym (sb L 4)), .bool (.lit true), .bool (.sym (sb L 6)), .bool (.sym (sb L 7)), .bool (.sym (sb L 8)), .bool (.sym (sb L 9)), .bool (.sym (sb L 10)), .bool (.sym (sb L 11)), .bool (.sym (sb L 12)), .bool (.sym (sb L 13)), .bool (.sym (sb L 14)), .bool (.sym (sb L 15))] 28)), (4, some (.tab [.int .i64] (List.take L.length (List.drop 0 (rows L)) ++ [[(96 + 4 * ((5 : Nat) : Int))]]) 3))]) [(0, 0), (1, 1), (2, 2), (3, 3), (9, 4)] rfl (by simp [length_junk]) rfl rfl (by rw [hE]; rfl) (by omega) (by omega) hat
  rw [rows_cons] at h9
  exact ⟨_, at_wk (dirty' := []) (pre' := pre nl (oB (L.length + 1)) i) (hp' := hB ls xs ys c (sb ((96 + 4 * ((5 : Nat) : Int)) :: L)) (rows ((96 + 4 * ((5 : Nat) : Int)) :: L))) (by (repeat' apply And.intro) <;> first | rfl | trivial) (by (repeat' apply And.intro) <;> first | rfl | exact sb_eq.symm | exact (sb_ne (by decide)).symm | trivial) h9, rfl, js', rfl⟩
theorem sB_5 {xs L : List Int} {c i : Int} (hx : xs.length = 160) (hc : 0 ≤ c ∧ c ≤ 100000) (hL : 1 ≤ L.length ∧ L.length ≤ 1000) (hn : (96 + 4 * ((5 : Nat) : Int)) ∈ L) (x10 x12 : SV) (ox : VObj MObj) (js : Nat → SV) :
    Tri MS Try.prog E (qt [true, true, true, true, true, true]) ⟨pre nl (oB L.length) i ++ [.v (.int .i64 (.lit 5)), x10, .v (.int .i64 (.lit 1)), x12] ++ junk js 145 13, hB ls xs ys c (sb L) (rows L) ++ [(5, some ox)], 6, []⟩ fun x st => x = .normal ∧ ∃ js, st = SB nl ls ys xs c i L js := by
  have hd : ∀ (l : List Nat), l.all (Nat.ble 1) = true → ∀ b, b ∈ l → E.D b := fun l hl b hb => hD b (Nat.le_of_ble_eq_true (List.all_eq_true.1 hl b hb))
  have ht : ∀ {k : Nat}, Nat.ble k 20 = true → k ≤ E.top := fun h => by rw [hT]; exact Nat.le_of_ble_eq_true h
  have hs : sb L 5 = true := decide_eq_true hn
  refine Tri.postE (Q := fun x st => x = .normal ∧ ∃ js, st = ⟨(sB5_l0 nl L.length ls (rows L) xs ys c i (sb L) ox).pre ++ junk js 149 9, (sB5_l0 nl L.length ls (rows L) xs ys c i (sb L) ox).hp, 6, []⟩) (Tri.allR (m := 9) (n := 149) (codeOK _) (sB5 nl L.length ls (rows L) xs ys c i (sb L) js x10 x12 ox hx hc (by simp [rows]) hL.1 hL.2 hs) (Tr.all_ok ⟨rfl, ht rfl, hd _ rfl, fun js => ⟨rfl, js, rfl⟩⟩)) ?_
  rintro x s a w ⟨rfl, js, rfl⟩ hat
  obtain ⟨js', h9⟩ := at_rename (dirty' := []) (nid' := 5) (m := 9) (n := 149) [(0, 0), (1, 1), (2, 2), (3, 3), (4, 4)] rfl (by simp [length_junk]) rfl rfl (by rw [hE]; rfl) (by omega) (by omega) hat
  exact ⟨_, at_wk (dirty' := []) (pre' := pre nl (oB L.length) i) (hp' := hB ls xs ys c (sb L) (rows L)) (by (repeat' apply And.intro) <;> first | rfl | trivial) (by (repeat' apply And.intro) <;> first | rfl | exact hs.symm | trivial) h9, rfl, js', rfl⟩
theorem uA_6 {xs : List Int} {c i : Int} (hx : xs.length = 160) (hc : 0 ≤ c ∧ c ≤ 100000) (x10 x12 : SV) (ox : VObj MObj) (js : Nat → SV) :
    Tri MS Try.prog E (qt [true, true, true, true, true, true]) ⟨pre nl oA i ++ [.v (.int .i64 (.lit 6)), x10, .v (.int .i64 (.lit 5)), x12] ++ junk js 145 13, hA ls xs ys c (sb []) ++ [(4, some ox)], 7, []⟩ fun x st => x = .normal ∧ ∃ js, st = SB nl ls ys xs c i [(96 + 4 * ((6 : Nat) : Int))] js := by
  have hd : ∀ (l : List Nat), l.all (Nat.ble 1) = true → ∀ b, b ∈ l → E.D b := fun l hl b hb => hD b (Nat.le_of_ble_eq_true (List.all_eq_true.1 hl b hb))
  have ht : ∀ {k : Nat}, Nat.ble k 20 = true → k ≤ E.top := fun h => by rw [hT]; exact Nat.le_of_ble_eq_true h
  refine Tri.postE (Q := fun x st => x = .normal ∧ ∃ js, st = ⟨(uA6_l0 nl ls xs ys c i (sb []) ox).pre ++ junk js 149 9, (uA6_l0 nl ls xs ys c i (sb []) ox).hp, 9, []⟩) (Tri.allR (m := 9) (n := 149) (codeOK _) (uA6 nl ls xs ys c i (sb []) js x10 x12 ox hx hc rfl) (Tr.all_ok ⟨rfl, ht rfl, hd _ rfl, fun js => ⟨rfl, js, rfl⟩⟩)) ?_
  rintro x s a w ⟨rfl, js, rfl⟩ hat
  obtain ⟨js', h9⟩ := at_rename (dirty' := []) (nid' := 5) (m := 9) (n := 149) [(0, 0), (1, 1), (2, 2), (3, 3), (8, 4)] rfl (by simp [length_junk]) rfl rfl (by rw [hE]; rfl) (by omega) (by omega) hat
  exact ⟨_, at_wk (dirty' := []) (pre' := pre nl (oB 1) i) (hp' := hB ls xs ys c (sb [(96 + 4 * ((6 : Nat) : Int))]) (rows [(96 + 4 * ((6 : Nat) : Int))])) (by (repeat' apply And.intro) <;> first | rfl | trivial) (by (repeat' apply And.intro) <;> first | rfl | exact sb_eq.symm | exact (sb_ne (by decide)).symm | trivial) h9, rfl, js', rfl⟩
theorem uB_6 {xs L : List Int} {c i : Int} (hx : xs.length = 160) (hc : 0 ≤ c ∧ c ≤ 100000) (hL : 1 ≤ L.length ∧ L.length ≤ 1000) (hn : (96 + 4 * ((6 : Nat) : Int)) ∉ L) (x10 x12 : SV) (ox : VObj MObj) (js : Nat → SV) :
    Tri MS Try.prog E (qt [true, true, true, true, true, true]) ⟨pre nl (oB L.length) i ++ [.v (.int .i64 (.lit 6)), x10, .v (.int .i64 (.lit 5)), x12] ++ junk js 145 13, hB ls xs ys c (sb L) (rows L) ++ [(5, some ox)], 8, []⟩ fun x st => x = .normal ∧ ∃ js, st = SB nl ls ys xs c i ((96 + 4 * ((6 : Nat) : Int)) :: L) js := by
  have hd : ∀ (l : List Nat), l.all (Nat.ble 1) = true → ∀ b, b ∈ l → E.D b := fun l hl b hb => hD b (Nat.le_of_ble_eq_true (List.all_eq_true.1 hl b hb))
  have ht : ∀ {k : Nat}, Nat.ble k 20 = true → k ≤ E.top := fun h => by rw [hT]; exact Nat.le_of_ble_eq_true h
  refine Tri.postE (Q := fun x st => x = .normal ∧ ∃ js, st = ⟨(uB6_l0 nl L.length ls (rows L) xs ys c i (sb L) ox).pre ++ junk js 149 9, (uB6_l0 nl L.length ls (rows L) xs ys c i (sb L) ox).hp, 10, []⟩) (Tri.allR (m := 9) (n := 149) (codeOK _) (uB6 nl L.length ls (rows L) xs ys c i (sb L) js x10 x12 ox hx hc (by simp [rows]) hL.1 hL.2 (decide_eq_false hn)) (Tr.all_ok ⟨rfl, ht rfl, hd _ rfl, fun js => ⟨rfl, js, rfl⟩⟩)) ?_
  rintro x s a w ⟨rfl, js, rfl⟩ hat
  obtain ⟨js', h9⟩ := at_rename (dirty' := []) (nid' := 5) (m := 9) (n := 149) (hp' := [(0, some (.rotab [.int .i64] ls)), (1, some (.abs (.mem 66 xs c 0))), (2, some (.abs (.mem 70 ys 16 0))), (3, some (.cells [.bool (.sym (sb L 0)), .bool (.sym (sb L 1)), .bool (.sym (sb L 2)), .bool (.sym (sb L 3)), .bool (.sym (sb L 4)), .bool (.sym (sb L 5)), .bool (.lit true), .bool (.sym (sb L 7)), .bool (.sym (sb L 8)), .bool (.sym (sb L 9)), .bool (.sym (sb L 10)), .bool (.sym (sb L 11)), .bool (.sym (sb L 12)), .bool (.sym (sb L 13)), .bool (.sym (sb L 14)), .bool (.sym (sb L 15))] 28)), (4, some (.tab [.int .i64] (List.take L.length (List.drop 0 (rows L)) ++ [[(96 + 4 * ((6 : Nat) : Int))]]) 3))]) [(0, 0), (1, 1), (2, 2), (3, 3), (9, 4)] rfl (by simp [length_junk]) rfl rfl (by rw [hE]; rfl) (by omega) (by omega) hat
  rw [rows_cons] at h9
  exact ⟨_, at_wk (dirty' := []) (pre' := pre nl (oB (L.length + 1)) i) (hp' := hB ls xs ys c (sb ((96 + 4 * ((6 : Nat) : Int)) :: L)) (rows ((96 + 4 * ((6 : Nat) : Int)) :: L))) (by (repeat' apply And.intro) <;> first | rfl | trivial) (by (repeat' apply And.intro) <;> first | rfl | exact sb_eq.symm | exact (sb_ne (by decide)).symm | trivial) h9, rfl, js', rfl⟩
theorem sB_6 {xs L : List Int} {c i : Int} (hx : xs.length = 160) (hc : 0 ≤ c ∧ c ≤ 100000) (hL : 1 ≤ L.length ∧ L.length ≤ 1000) (hn : (96 + 4 * ((6 : Nat) : Int)) ∈ L) (x10 x12 : SV) (ox : VObj MObj) (js : Nat → SV) :
    Tri MS Try.prog E (qt [true, true, true, true, true, true]) ⟨pre nl (oB L.length) i ++ [.v (.int .i64 (.lit 6)), x10, .v (.int .i64 (.lit 1)), x12] ++ junk js 145 13, hB ls xs ys c (sb L) (rows L) ++ [(5, some ox)], 6, []⟩ fun x st => x = .normal ∧ ∃ js, st = SB nl ls ys xs c i L js := by
  have hd : ∀ (l : List Nat), l.all (Nat.ble 1) = true → ∀ b, b ∈ l → E.D b := fun l hl b hb => hD b (Nat.le_of_ble_eq_true (List.all_eq_true.1 hl b hb))
  have ht : ∀ {k : Nat}, Nat.ble k 20 = true → k ≤ E.top := fun h => by rw [hT]; exact Nat.le_of_ble_eq_true h
  have hs : sb L 6 = true := decide_eq_true hn
  refine Tri.postE (Q := fun x st => x = .normal ∧ ∃ js, st = ⟨(sB6_l0 nl L.length ls (rows L) xs ys c i (sb L) ox).pre ++ junk js 149 9, (sB6_l0 nl L.length ls (rows L) xs ys c i (sb L) ox).hp, 6, []⟩) (Tri.allR (m := 9) (n := 149) (codeOK _) (sB6 nl L.length ls (rows L) xs ys c i (sb L) js x10 x12 ox hx hc (by simp [rows]) hL.1 hL.2 hs) (Tr.all_ok ⟨rfl, ht rfl, hd _ rfl, fun js => ⟨rfl, js, rfl⟩⟩)) ?_
  rintro x s a w ⟨rfl, js, rfl⟩ hat
  obtain ⟨js', h9⟩ := at_rename (dirty' := []) (nid' := 5) (m := 9) (n := 149) [(0, 0), (1, 1), (2, 2), (3, 3), (4, 4)] rfl (by simp [length_junk]) rfl rfl (by rw [hE]; rfl) (by omega) (by omega) hat
  exact ⟨_, at_wk (dirty' := []) (pre' := pre nl (oB L.length) i) (hp' := hB ls xs ys c (sb L) (rows L)) (by (repeat' apply And.intro) <;> first | rfl | trivial) (by (repeat' apply And.intro) <;> first | rfl | exact hs.symm | trivial) h9, rfl, js', rfl⟩
theorem uA_7 {xs : List Int} {c i : Int} (hx : xs.length = 160) (hc : 0 ≤ c ∧ c ≤ 100000) (x10 x12 : SV) (ox : VObj MObj) (js : Nat → SV) :
    Tri MS Try.prog E (qt [true, true, true, true, true, true]) ⟨pre nl oA i ++ [.v (.int .i64 (.lit 7)), x10, .v (.int .i64 (.lit 5)), x12] ++ junk js 145 13, hA ls xs ys c (sb []) ++ [(4, some ox)], 7, []⟩ fun x st => x = .normal ∧ ∃ js, st = SB nl ls ys xs c i [(96 + 4 * ((7 : Nat) : Int))] js := by
  have hd : ∀ (l : List Nat), l.all (Nat.ble 1) = true → ∀ b, b ∈ l → E.D b := fun l hl b hb => hD b (Nat.le_of_ble_eq_true (List.all_eq_true.1 hl b hb))
  have ht : ∀ {k : Nat}, Nat.ble k 20 = true → k ≤ E.top := fun h => by rw [hT]; exact Nat.le_of_ble_eq_true h
  refine Tri.postE (Q := fun x st => x = .normal ∧ ∃ js, st = ⟨(uA7_l0 nl ls xs ys c i (sb []) ox).pre ++ junk js 149 9, (uA7_l0 nl ls xs ys c i (sb []) ox).hp, 9, []⟩) (Tri.allR (m := 9) (n := 149) (codeOK _) (uA7 nl ls xs ys c i (sb []) js x10 x12 ox hx hc rfl) (Tr.all_ok ⟨rfl, ht rfl, hd _ rfl, fun js => ⟨rfl, js, rfl⟩⟩)) ?_
  rintro x s a w ⟨rfl, js, rfl⟩ hat
  obtain ⟨js', h9⟩ := at_rename (dirty' := []) (nid' := 5) (m := 9) (n := 149) [(0, 0), (1, 1), (2, 2), (3, 3), (8, 4)] rfl (by simp [length_junk]) rfl rfl (by rw [hE]; rfl) (by omega) (by omega) hat
  exact ⟨_, at_wk (dirty' := []) (pre' := pre nl (oB 1) i) (hp' := hB ls xs ys c (sb [(96 + 4 * ((7 : Nat) : Int))]) (rows [(96 + 4 * ((7 : Nat) : Int))])) (by (repeat' apply And.intro) <;> first | rfl | trivial) (by (repeat' apply And.intro) <;> first | rfl | exact sb_eq.symm | exact (sb_ne (by decide)).symm | trivial) h9, rfl, js', rfl⟩
theorem uB_7 {xs L : List Int} {c i : Int} (hx : xs.length = 160) (hc : 0 ≤ c ∧ c ≤ 100000) (hL : 1 ≤ L.length ∧ L.length ≤ 1000) (hn : (96 + 4 * ((7 : Nat) : Int)) ∉ L) (x10 x12 : SV) (ox : VObj MObj) (js : Nat → SV) :
    Tri MS Try.prog E (qt [true, true, true, true, true, true]) ⟨pre nl (oB L.length) i ++ [.v (.int .i64 (.lit 7)), x10, .v (.int .i64 (.lit 5)), x12] ++ junk js 145 13, hB ls xs ys c (sb L) (rows L) ++ [(5, some ox)], 8, []⟩ fun x st => x = .normal ∧ ∃ js, st = SB nl ls ys xs c i ((96 + 4 * ((7 : Nat) : Int)) :: L) js := by
  have hd : ∀ (l : List Nat), l.all (Nat.ble 1) = true → ∀ b, b ∈ l → E.D b := fun l hl b hb => hD b (Nat.le_of_ble_eq_true (List.all_eq_true.1 hl b hb))
  have ht : ∀ {k : Nat}, Nat.ble k 20 = true → k ≤ E.top := fun h => by rw [hT]; exact Nat.le_of_ble_eq_true h
  refine Tri.postE (Q := fun x st => x = .normal ∧ ∃ js, st = ⟨(uB7_l0 nl L.length ls (rows L) xs ys c i (sb L) ox).pre ++ junk js 149 9, (uB7_l0 nl L.length ls (rows L) xs ys c i (sb L) ox).hp, 10, []⟩) (Tri.allR (m := 9) (n := 149) (codeOK _) (uB7 nl L.length ls (rows L) xs ys c i (sb L) js x10 x12 ox hx hc (by simp [rows]) hL.1 hL.2 (decide_eq_false hn)) (Tr.all_ok ⟨rfl, ht rfl, hd _ rfl, fun js => ⟨rfl, js, rfl⟩⟩)) ?_
  rintro x s a w ⟨rfl, js, rfl⟩ hat
  obtain ⟨js', h9⟩ := at_rename (dirty' := []) (nid' := 5) (m := 9) (n := 149) (hp' := [(0, some (.rotab [.int .i64] ls)), (1, some (.abs (.mem 66 xs c 0))), (2, some (.abs (.mem 70 ys 16 0))), (3, some (.cells [.bool (.sym (sb L 0)), .bool (.sym (sb L 1)), .bool (.sym (sb L 2)), .bool (.sym (sb L 3)), .bool (.sym (sb L 4)), .bool (.sym (sb L 5)), .bool (.sym (sb L 6)), .bool (.lit true), .bool (.sym (sb L 8)), .bool (.sym (sb L 9)), .bool (.sym (sb L 10)), .bool (.sym (sb L 11)), .bool (.sym (sb L 12)), .bool (.sym (sb L 13)), .bool (.sym (sb L 14)), .bool (.sym (sb L 15))] 28)), (4, some (.tab [.int .i64] (List.take L.length (List.drop 0 (rows L)) ++ [[(96 + 4 * ((7 : Nat) : Int))]]) 3))]) [(0, 0), (1, 1), (2, 2), (3, 3), (9, 4)] rfl (by simp [length_junk]) rfl rfl (by rw [hE]; rfl) (by omega) (by omega) hat
  rw [rows_cons] at h9
  exact ⟨_, at_wk (dirty' := []) (pre' := pre nl (oB (L.length + 1)) i) (hp' := hB ls xs ys c (sb ((96 + 4 * ((7 : Nat) : Int)) :: L)) (rows ((96 + 4 * ((7 : Nat) : Int)) :: L))) (by (repeat' apply And.intro) <;> first | rfl | trivial) (by (repeat' apply And.intro) <;> first | rfl | exact sb_eq.symm | exact (sb_ne (by decide)).symm | trivial) h9, rfl, js', rfl⟩
theorem sB_7 {xs L : List Int} {c i : Int} (hx : xs.length = 160) (hc : 0 ≤ c ∧ c ≤ 100000) (hL : 1 ≤ L.length ∧ L.length ≤ 1000) (hn : (96 + 4 * ((7 : Nat) : Int)) ∈ L) (x10 x12 : SV) (ox : VObj MObj) (js : Nat → SV) :
    Tri MS Try.prog E (qt [true, true, true, true, true, true]) ⟨pre nl (oB L.length) i ++ [.v (.int .i64 (.lit 7)), x10, .v (.int .i64 (.lit 1)), x12] ++ junk js 145 13, hB ls xs ys c (sb L) (rows L) ++ [(5, some ox)], 6, []⟩ fun x st => x = .normal ∧ ∃ js, st = SB nl ls ys xs c i L js := by
  have hd : ∀ (l : List Nat), l.all (Nat.ble 1) = true → ∀ b, b ∈ l → E.D b := fun l hl b hb => hD b (Nat.le_of_ble_eq_true (List.all_eq_true.1 hl b hb))
  have ht : ∀ {k : Nat}, Nat.ble k 20 = true → k ≤ E.top := fun h => by rw [hT]; exact Nat.le_of_ble_eq_true h
  have hs : sb L 7 = true := decide_eq_true hn
  refine Tri.postE (Q := fun x st => x = .normal ∧ ∃ js, st = ⟨(sB7_l0 nl L.length ls (rows L) xs ys c i (sb L) ox).pre ++ junk js 149 9, (sB7_l0 nl L.length ls (rows L) xs ys c i (sb L) ox).hp, 6, []⟩) (Tri.allR (m := 9) (n := 149) (codeOK _) (sB7 nl L.length ls (rows L) xs ys c i (sb L) js x10 x12 ox hx hc (by simp [rows]) hL.1 hL.2 hs) (Tr.all_ok ⟨rfl, ht rfl, hd _ rfl, fun js => ⟨rfl, js, rfl⟩⟩)) ?_
  rintro x s a w ⟨rfl, js, rfl⟩ hat
  obtain ⟨js', h9⟩ := at_rename (dirty' := []) (nid' := 5) (m := 9) (n := 149) [(0, 0), (1, 1), (2, 2), (3, 3), (4, 4)] rfl (by simp [length_junk]) rfl rfl (by rw [hE]; rfl) (by omega) (by omega) hat
  exact ⟨_, at_wk (dirty' := []) (pre' := pre nl (oB L.length) i) (hp' := hB ls xs ys c (sb L) (rows L)) (by (repeat' apply And.intro) <;> first | rfl | trivial) (by (repeat' apply And.intro) <;> first | rfl | exact hs.symm | trivial) h9, rfl, js', rfl⟩
theorem uA_8 {xs : List Int} {c i : Int} (hx : xs.length = 160) (hc : 0 ≤ c ∧ c ≤ 100000) (x10 x12 : SV) (ox : VObj MObj) (js : Nat → SV) :
    Tri MS Try.prog E (qt [true, true, true, true, true, true]) ⟨pre nl oA i ++ [.v (.int .i64 (.lit 8)), x10, .v (.int .i64 (.lit 5)), x12] ++ junk js 145 13, hA ls xs ys c (sb []) ++ [(4, some ox)], 7, []⟩ fun x st => x = .normal ∧ ∃ js, st = SB nl ls ys xs c i [(96 + 4 * ((8 : Nat) : Int))] js := by
  have hd : ∀ (l : List Nat), l.all (Nat.ble 1) = true → ∀ b, b ∈ l → E.D b := fun l hl b hb => hD b (Nat.le_of_ble_eq_true (List.all_eq_true.1 hl b hb))
  have ht : ∀ {k : Nat}, Nat.ble k 20 = true → k ≤ E.top := fun h => by rw [hT]; exact Nat.le_of_ble_eq_true h
  refine Tri.postE (Q := fun x st => x = .normal ∧ ∃ js, st = ⟨(uA8_l0 nl ls xs ys c i (sb []) ox).pre ++ junk js 149 9, (uA8_l0 nl ls xs ys c i (sb []) ox).hp, 9, []⟩) (Tri.allR (m := 9) (n := 149) (codeOK _) (uA8 nl ls xs ys c i (sb []) js x10 x12 ox hx hc rfl) (Tr.all_ok ⟨rfl, ht rfl, hd _ rfl, fun js => ⟨rfl, js, rfl⟩⟩)) ?_
  rintro x s a w ⟨rfl, js, rfl⟩ hat
  obtain ⟨js', h9⟩ := at_rename (dirty' := []) (nid' := 5) (m := 9) (n := 149) [(0, 0), (1, 1), (2, 2), (3, 3), (8, 4)] rfl (by simp [length_junk]) rfl rfl (by rw [hE]; rfl) (by omega) (by omega) hat
  exact ⟨_, at_wk (dirty' := []) (pre' := pre nl (oB 1) i) (hp' := hB ls xs ys c (sb [(96 + 4 * ((8 : Nat) : Int))]) (rows [(96 + 4 * ((8 : Nat) : Int))])) (by (repeat' apply And.intro) <;> first | rfl | trivial) (by (repeat' apply And.intro) <;> first | rfl | exact sb_eq.symm | exact (sb_ne (by decide)).symm | trivial) h9, rfl, js', rfl⟩
theorem uB_8 {xs L : List Int} {c i : Int} (hx : xs.length = 160) (hc : 0 ≤ c ∧ c ≤ 100000) (hL : 1 ≤ L.length ∧ L.length ≤ 1000) (hn : (96 + 4 * ((8 : Nat) : Int)) ∉ L) (x10 x12 : SV) (ox : VObj MObj) (js : Nat → SV) :
    Tri MS Try.prog E (qt [true, true, true, true, true, true]) ⟨pre nl (oB L.length) i ++ [.v (.int .i64 (.lit 8)), x10, .v (.int .i64 (.lit 5)), x12] ++ junk js 145 13, hB ls xs ys c (sb L) (rows L) ++ [(5, some ox)], 8, []⟩ fun x st => x = .normal ∧ ∃ js, st = SB nl ls ys xs c i ((96 + 4 * ((8 : Nat) : Int)) :: L) js := by
  have hd : ∀ (l : List Nat), l.all (Nat.ble 1) = true → ∀ b, b ∈ l → E.D b := fun l hl b hb => hD b (Nat.le_of_ble_eq_true (List.all_eq_true.1 hl b hb))
  have ht : ∀ {k : Nat}, Nat.ble k 20 = true → k ≤ E.top := fun h => by rw [hT]; exact Nat.le_of_ble_eq_true h
  refine Tri.postE (Q := fun x st => x = .normal ∧ ∃ js, st = ⟨(uB8_l0 nl L.length ls (rows L) xs ys c i (sb L) ox).pre ++ junk js 149 9, (uB8_l0 nl L.length ls (rows L) xs ys c i (sb L) ox).hp, 10, []⟩) (Tri.allR (m := 9) (n := 149) (codeOK _) (uB8 nl L.length ls (rows L) xs ys c i (sb L) js x10 x12 ox hx hc (by simp [rows]) hL.1 hL.2 (decide_eq_false hn)) (Tr.all_ok ⟨rfl, ht rfl, hd _ rfl, fun js => ⟨rfl, js, rfl⟩⟩)) ?_
  rintro x s a w ⟨rfl, js, rfl⟩ hat
  obtain ⟨js', h9⟩ := at_rename (dirty' := []) (nid' := 5) (m := 9) (n := 149) (hp' := [(0, some (.rotab [.int .i64] ls)), (1, some (.abs (.mem 66 xs c 0))), (2, some (.abs (.mem 70 ys 16 0))), (3, some (.cells [.bool (.sym (sb L 0)), .bool (.sym (sb L 1)), .bool (.sym (sb L 2)), .bool (.sym (sb L 3)), .bool (.sym (sb L 4)), .bool (.sym (sb L 5)), .bool (.sym (sb L 6)), .bool (.sym (sb L 7)), .bool (.lit true), .bool (.sym (sb L 9)), .bool (.sym (sb L 10)), .bool (.sym (sb L 11)), .bool (.sym (sb L 12)), .bool (.sym (sb L 13)), .bool (.sym (sb L 14)), .bool (.sym (sb L 15))] 28)), (4, some (.tab [.int .i64] (List.take L.length (List.drop 0 (rows L)) ++ [[(96 + 4 * ((8 : Nat) : Int))]]) 3))]) [(0, 0), (1, 1), (2, 2), (3, 3), (9, 4)] rfl (by simp [length_junk]) rfl rfl (by rw [hE]; rfl) (by omega) (by omega) hat
  rw [rows_cons] at h9
  exact ⟨_, at_wk (dirty' := []) (pre' := pre nl (oB (L.length + 1)) i) (hp' := hB ls xs ys c (sb ((96 + 4 * ((8 : Nat) : Int)) :: L)) (rows ((96 + 4 * ((8 : Nat) : Int)) :: L))) (by (repeat' apply And.intro) <;> first | rfl | trivial) (by (repeat' apply And.intro) <;> first | rfl | exact sb_eq.symm | exact (sb_ne (by decide)).symm | trivial) h9, rfl, js', rfl⟩
theorem sB_8 {xs L : List Int} {c i : Int} (hx : xs.length = 160) (hc : 0 ≤ c ∧ c ≤ 100000) (hL : 1 ≤ L.length ∧ L.length ≤ 1000) (hn : (96 + 4 * ((8 : Nat) : Int)) ∈ L) (x10 x12 : SV) (ox : VObj MObj) (js : Nat → SV) :
    Tri MS Try.prog E (qt [true, true, true, true, true, true]) ⟨pre nl (oB L.length) i ++ [.v (.int .i64 (.lit 8)), x10, .v (.int .i64 (.lit 1)), x12] ++ junk js 145 13, hB ls xs ys c (sb L) (rows L) ++ [(5, some ox)], 6, []⟩ fun x st => x = .normal ∧ ∃ js, st = SB nl ls ys xs c i L js := by
  have hd : ∀ (l : List Nat), l.all (Nat.ble 1) = true → ∀ b, b ∈ l → E.D b := fun l hl b hb => hD b (Nat.le_of_ble_eq_true (List.all_eq_true.1 hl b hb))
  have ht : ∀ {k : Nat}, Nat.ble k 20 = true → k ≤ E.top := fun h => by rw [hT]; exact Nat.le_of_ble_eq_true h
  have hs : sb L 8 = true := decide_eq_true hn
  refine Tri.postE (Q := fun x st => x = .normal ∧ ∃ js, st = ⟨(sB8_l0 nl L.length ls (rows L) xs ys c i (sb L) ox).pre ++ junk js 149 9, (sB8_l0 nl L.length ls (rows L) xs ys c i (sb L) ox).hp, 6, []⟩) (Tri.allR (m := 9) (n := 149) (codeOK _) (sB8 nl L.length ls (rows L) xs ys c i (sb L) js x10 x12 ox hx hc (by simp [rows]) hL.1 hL.2 hs) (Tr.all_ok ⟨rfl, ht rfl, hd _ rfl, fun js => ⟨rfl, js, rfl⟩⟩)) ?_
  rintro x s a w ⟨rfl, js, rfl⟩ hat
  obtain ⟨js', h9⟩ := at_rename (dirty' := []) (nid' := 5) (m := 9) (n := 149) [(0, 0), (1, 1), (2, 2), (3, 3), (4, 4)] rfl (by simp [length_junk]) rfl rfl (by rw [hE]; rfl) (by omega) (by omega) hat
  exact ⟨_, at_wk (dirty' := []) (pre' := pre nl (oB L.length) i) (hp' := hB ls xs ys c (sb L) (rows L)) (by (repeat' apply And.intro) <;> first | rfl | trivial) (by (repeat' apply And.intro) <;> first | rfl | exact hs.symm | trivial) h9, rfl, js', rfl⟩
theorem uA_9 {xs : List Int} {c i : Int} (hx : xs.length = 160) (hc : 0 ≤ c ∧ c ≤ 100000) (x10 x12 : SV) (ox : VObj MObj) (js : Nat → SV) :
    Tri MS Try.prog E (qt [true, true, true, true, true, true]) ⟨pre nl oA i ++ [.v (.int .i64 (.lit 9)), x10, .v (.int .i64 (.lit 5)), x12] ++ junk js 145 13, hA ls xs ys c (sb []) ++ [(4, some ox)], 7, []⟩ fun x st => x = .normal ∧ ∃ js, st = SB nl ls ys xs c i [(96 + 4 * ((9 : Nat) : Int))] js := by
  have hd : ∀ (l : List Nat), l.all (Nat.ble 1) = true → ∀ b, b ∈ l → E.D b := fun l hl b hb => hD b (Nat.le_of_ble_eq_true (List.all_eq_true.1 hl b hb))
  have ht : ∀ {k : Nat}, Nat.ble k 20 = true → k ≤ E.top := fun h => by rw [hT]; exact Nat.le_of_ble_eq_true h
  refine Tri.postE (Q := fun x st => x = .normal ∧ ∃ js, st = ⟨(uA9_l0 nl ls xs ys c i (sb []) ox).pre ++ junk js 149 9, (uA9_l0 nl ls xs ys c i (sb []) ox).hp, 9, []⟩) (Tri.allR (m := 9) (n := 149) (codeOK _) (uA9 nl ls xs ys c i (sb []) js x10 x12 ox hx hc rfl) (Tr.all_ok ⟨rfl, ht rfl, hd _ rfl, fun js => ⟨rfl, js, rfl⟩⟩)) ?_
  rintro x s a w ⟨rfl, js, rfl⟩ hat
  obtain ⟨js', h9⟩ := at_rename (dirty' := []) (nid' := 5) (m := 9) (n := 149) [(0, 0), (1, 1), (2, 2), (3, 3), (8, 4)] rfl (by simp [length_junk]) rfl rfl (by rw [hE]; rfl) (by omega) (by omega) hat
  exact ⟨_, at_wk (dirty' := []) (pre' := pre nl (oB 1) i) (hp' := hB ls xs ys c (sb [(96 + 4 * ((9 : Nat) : Int))]) (rows [(96 + 4 * ((9 : Nat) : Int))])) (by (repeat' apply And.intro) <;> first | rfl | trivial) (by (repeat' apply And.intro) <;> first | rfl | exact sb_eq.symm | exact (sb_ne (by decide)).symm | trivial) h9, rfl, js', rfl⟩
theorem uB_9 {xs L : List Int} {c i : Int} (hx : xs.length = 160) (hc : 0 ≤ c ∧ c ≤ 100000) (hL : 1 ≤ L.length ∧ L.length ≤ 1000) (hn : (96 + 4 * ((9 : Nat) : Int)) ∉ L) (x10 x12 : SV) (ox : VObj MObj) (js : Nat → SV) :
    Tri MS Try.prog E (qt [true, true, true, true, true, true]) ⟨pre nl (oB L.length) i ++ [.v (.int .i64 (.lit 9)), x10, .v (.int .i64 (.lit 5)), x12] ++ junk js 145 13, hB ls xs ys c (sb L) (rows L) ++ [(5, some ox)], 8, []⟩ fun x st => x = .normal ∧ ∃ js, st = SB nl ls ys xs c i ((96 + 4 * ((9 : Nat) : Int)) :: L) js := by
  have hd : ∀ (l : List Nat), l.all (Nat.ble 1) = true → ∀ b, b ∈ l → E.D b := fun l hl b hb => hD b (Nat.le_of_ble_eq_true (List.all_eq_true.1 hl b hb))
  have ht : ∀ {k : Nat}, Nat.ble k 20 = true → k ≤ E.top := fun h => by rw [hT]; exact Nat.le_of_ble_eq_true h
  refine Tri.postE (Q := fun x st => x = .normal ∧ ∃ js, st = ⟨(uB9_l0 nl L.length ls (rows L) xs ys c i (sb L) ox).pre ++ junk js 149 9, (uB9_l0 nl L.length ls (rows L) xs ys c i (sb L) ox).hp, 10, []⟩) (Tri.allR (m := 9) (n := 149) (codeOK _) (uB9 nl L.length ls (rows L) xs ys c i (sb L) js x10 x12 ox hx hc (by simp [rows]) hL.1 hL.2 (decide_eq_false hn)) (Tr.all_ok ⟨rfl, ht rfl, hd _ rfl, fun js => ⟨rfl, js, rfl⟩⟩)) ?_
  rintro x s a w ⟨rfl, js, rfl⟩ hat
  obtain ⟨js', h9⟩ := at_rename (dirty' := []) (nid' := 5) (m := 9) (n := 149) (hp' := [(0, some (.rotab [.int .i64] ls)), (1, some (.abs (.mem 66 xs c 0))), (2, some (.abs (.mem 70 ys 16 0))), (3, some (.cells [.bool (.sym (sb L 0)), .bool (.sym (sb L 1)), .bool (.sym (sb L 2)), .bool (.sym (sb L 3)), .bool (.sym (sb L 4)), .bool (.sym (sb L 5)), .bool (.sym (sb L 6)), .bool (.sym (sb L 7)), .bool (.sym (sb L 8)), .bool (.lit true), .bool (.sym (sb L 10)), .bool (.sym (sb L 11)), .bool (.sym (sb L 12)), .bool (.sym (sb L 13)), .bool (.sym (sb L 14)), .bool (.sym (sb L 15))] 28)), (4, some (.tab [.int .i64] (List.take L.length (List.drop 0 (rows L)) ++ [[(96 + 4 * ((9 : Nat) : Int))]]) 3))]) [(0, 0), (1, 1), (2, 2), (3, 3), (9, 4)] rfl (by simp [length_junk]) rfl rfl (by rw [hE]; rfl) (by omega) (by omega) hat
  rw [rows_cons] at h9
  exact ⟨_, at_wk (dirty' := []) (pre' := pre nl (oB (L.length + 1)) i) (hp' := hB ls xs ys c (sb ((96 + 4 * ((9 : Nat) : Int)) :: L)) (rows ((96 + 4 * ((9 : Nat) : Int)) :: L))) (by (repeat' apply And.intro) <;> first | rfl | trivial) (by (repeat' apply And.intro) <;> first | rfl | exact sb_eq.symm | exact (sb_ne (by decide)).symm | trivial) h9, rfl, js', rfl⟩
theorem sB_9 {xs L : List Int} {c i : Int} (hx : xs.length = 160) (hc : 0 ≤ c ∧ c ≤ 100000) (hL : 1 ≤ L.length ∧ L.length ≤ 1000) (hn : (96 + 4 * ((9 : Nat) : Int)) ∈ L) (x10 x12 : SV) (ox : VObj MObj) (js : Nat → SV) :
    Tri MS Try.prog E (qt [true, true, true, true, true, true]) ⟨pre nl (oB L.length) i ++ [.v (.int .i64 (.lit 9)), x10, .v (.int .i64 (.lit 1)), x12] ++ junk js 145 13, hB ls xs ys c (sb L) (rows L) ++ [(5, some ox)], 6, []⟩ fun x st => x = .normal ∧ ∃ js, st = SB nl ls ys xs c i L js := by
  have hd : ∀ (l : List Nat), l.all (Nat.ble 1) = true → ∀ b, b ∈ l → E.D b := fun l hl b hb => hD b (Nat.le_of_ble_eq_true (List.all_eq_true.1 hl b hb))
  have ht : ∀ {k : Nat}, Nat.ble k 20 = true → k ≤ E.top := fun h => by rw [hT]; exact Nat.le_of_ble_eq_true h
  have hs : sb L 9 = true := decide_eq_true hn
  refine Tri.postE (Q := fun x st => x = .normal ∧ ∃ js, st = ⟨(sB9_l0 nl L.length ls (rows L) xs ys c i (sb L) ox).pre ++ junk js 149 9, (sB9_l0 nl L.length ls (rows L) xs ys c i (sb L) ox).hp, 6, []⟩) (Tri.allR (m := 9) (n := 149) (codeOK _) (sB9 nl L.length ls (rows L) xs ys c i (sb L) js x10 x12 ox hx hc (by simp [rows]) hL.1 hL.2 hs) (Tr.all_ok ⟨rfl, ht rfl, hd _ rfl, fun js => ⟨rfl, js, rfl⟩⟩)) ?_
  rintro x s a w ⟨rfl, js, rfl⟩ hat
  obtain ⟨js', h9⟩ := at_rename (dirty' := []) (nid' := 5) (m := 9) (n := 149) [(0, 0), (1, 1), (2, 2), (3, 3), (4, 4)] rfl (by simp [length_junk]) rfl rfl (by rw [hE]; rfl) (by omega) (by omega) hat
  exact ⟨_, at_wk (dirty' := []) (pre' := pre nl (oB L.length) i) (hp' := hB ls xs ys c (sb L) (rows L)) (by (repeat' apply And.intro) <;> first | rfl | trivial) (by (repeat' apply And.intro) <;> first | rfl | exact hs.symm | trivial) h9, rfl, js', rfl⟩
theorem uA_10 {xs : List Int} {c i : Int} (hx : xs.length = 160) (hc : 0 ≤ c ∧ c ≤ 100000) (x10 x12 : SV) (ox : VObj MObj) (js : Nat → SV) :
    Tri MS Try.prog E (qt [true, true, true, true, true, true]) ⟨pre nl oA i ++ [.v (.int .i64 (.lit 10)), x10, .v (.int .i64 (.lit 5)), x12] ++ junk js 145 13, hA ls xs ys c (sb []) ++ [(4, some ox)], 7, []⟩ fun x st => x = .normal ∧ ∃ js, st = SB nl ls ys xs c i [(96 + 4 * ((10 : Nat) : Int))] js := by
  have hd : ∀ (l : List Nat), l.all (Nat.ble 1) = true → ∀ b, b ∈ l → E.D b := fun l hl b hb => hD b (Nat.le_of_ble_eq_true (List.all_eq_true.1 hl b hb))
  have ht : ∀ {k : Nat}, Nat.ble k 20 = true → k ≤ E.top := fun h => by rw [hT]; exact Nat.le_of_ble_eq_true h
  refine Tri.postE (Q := fun x st => x = .normal ∧ ∃ js, st = ⟨(uA10_l0 nl ls xs ys c i (sb []) ox).pre ++ junk js 149 9, (uA10_l0 nl ls xs ys c i (sb []) ox).hp, 9, []⟩) (Tri.allR (m := 9) (n := 149) (codeOK _) (uA10 nl ls xs ys c i (sb []) js x10 x12 ox hx hc rfl) (Tr.all_ok ⟨rfl, ht rfl, hd _ rfl, fun js => ⟨rfl, js, rfl⟩⟩)) ?_
  rintro x s a w ⟨rfl, js, rfl⟩ hat
  obtain ⟨js', h9⟩ := at_rename (dirty' := []) (nid' := 5) (m := 9) (n := 149) [(0, 0), (1, 1), (2, 2), (3, 3), (8, 4)] rfl (by simp [length_junk]) rfl rfl (by rw [hE]; rfl) (by omega) (by omega) hat
  exact ⟨_, at_wk (dirty' := []) (pre' := pre nl (oB 1) i) (hp' := hB ls xs ys c (sb [(96 + 4 * ((10 : Nat) : Int))]) (rows [(96 + 4 * ((10 : Nat) : Int))])) (by (repeat' apply And.intro) <;> first | rfl | trivial) (by (repeat' apply And.intro) <;> first | rfl | exact sb_eq.symm | exact (sb_ne (by decide)).symm | trivial) h9, rfl, js', rfl⟩
theorem uB_10 {xs L : List Int} {c i : Int} (hx : xs.length = 160) (hc : 0 ≤ c ∧ c ≤ 100000) (hL : 1 ≤ L.length ∧ L.length ≤ 1000) (hn : (96 + 4 * ((10 : Nat) : Int)) ∉ L) (x10 x12 : SV) (ox : VObj MObj) (js : Nat → SV) :
    Tri MS Try.prog E (qt [true, true, true, true, true, true]) ⟨pre nl (oB L.length) i ++ [.v (.int .i64 (.lit 10)), x10, .v (.int .i64 (.lit 5)), x12] ++ junk js 145 13, hB ls xs ys c (sb L) (rows L) ++ [(5, some ox)], 8, []⟩ fun x st => x = .normal ∧ ∃ js, st = SB nl ls ys xs c i ((96 + 4 * ((10 : Nat) : Int)) :: L) js := by
  have hd : ∀ (l : List Nat), l.all (Nat.ble 1) = true → ∀ b, b ∈ l → E.D b := fun l hl b hb => hD b (Nat.le_of_ble_eq_true (List.all_eq_true.1 hl b hb))
  have ht : ∀ {k : Nat}, Nat.ble k 20 = true → k ≤ E.top := fun h => by rw [hT]; exact Nat.le_of_ble_eq_true h
  refine Tri.postE (Q := fun x st => x = .normal ∧ ∃ js, st = ⟨(uB10_l0 nl L.length ls (rows L) xs ys c i (sb L) ox).pre ++ junk js 149 9, (uB10_l0 nl L.length ls (rows L) xs ys c i (sb L) ox).hp, 10, []⟩) (Tri.allR (m := 9) (n := 149) (codeOK _) (uB10 nl L.length ls (rows L) xs ys c i (sb L) js x10 x12 ox hx hc (by simp [rows]) hL.1 hL.2 (decide_eq_false hn)) (Tr.all_ok ⟨rfl, ht rfl, hd _ rfl, fun js => ⟨rfl, js, rfl⟩⟩)) ?_
  rintro x s a w ⟨rfl, js, rfl⟩ hat
  obtain ⟨js', h9⟩ := at_rename (dirty' := []) (nid' := 5) (m := 9) (n := 149) (hp' := [(0, some (.rotab [.int .i64] ls)), (1, some (.abs (.mem 66 xs c 0))), (2, some (.abs (.mem 70 ys 16 0))), (3, some (.cells [.bool (.sym (sb L 0)), .bool (.sym (sb L 1)), .bool (.sym (sb L 2)), .bool (.sym (sb L 3)), .bool (.sym (sb L 4)), .bool (.sym (sb L 5)), .bool (.sym (sb L 6)), .bool (.sym (sb L 7)), .bool (.sym (sb L 8)), .bool (.sym (sb L 9)), .bool (.lit true), .bool (.sym (sb L 11)), .bool (.sym (sb L 12)), .bool (.sym (sb L 13)), .bool (.sym (sb L 14)), .bool (.sym (sb L 15))] 28)), (4, some (.tab [.int .i64] (List.take L.length (List.drop 0 (rows L)) ++ [[(96 + 4 * ((10 : Nat) : Int))]]) 3))]) [(0, 0), (1, 1), (2, 2), (3, 3), (9, 4)] rfl (by simp [length_junk]) rfl rfl (by rw [hE]; rfl) (by omega) (by omega) hat
  rw [rows_cons] at h9
  exact ⟨_, at_wk (dirty' := []) (pre' := pre nl (oB (L.length + 1)) i) (hp' := hB ls xs ys c (sb ((96 + 4 * ((10 : Nat) : Int)) :: L)) (rows ((96 + 4 * ((10 : Nat) : Int)) :: L))) (by (repeat' apply And.intro) <;> first | rfl | trivial) (by (repeat' apply And.intro) <;> first | rfl | exact sb_eq.symm | exact (sb_ne (by decide)).symm | trivial) h9, rfl, js', rfl⟩
theorem sB_10 {xs L : List Int} {c i : Int} (hx : xs.length = 160) (hc : 0 ≤ c ∧ c ≤ 100000) (hL : 1 ≤ L.length ∧ L.length ≤ 1000) (hn : (96 + 4 * ((10 : Nat) : Int)) ∈ L) (x10 x12 : SV) (ox : VObj MObj) (js : Nat → SV) :
    Tri MS Try.prog E (qt [true, true, true, true, true, true]) ⟨pre nl (oB L.length) i ++ [.v (.int .i64 (.lit 10)), x10, .v (.int .i64 (.lit 1)), x12] ++ junk js 145 13, hB ls xs ys c (sb L) (rows L) ++ [(5, some ox)], 6, []⟩ fun x st => x = .normal ∧ ∃ js, st = SB nl ls ys xs c i L js := by
  have hd : ∀ (l : List Nat), l.all (Nat.ble 1) = true → ∀ b, b ∈ l → E.D b := fun l hl b hb => hD b (Nat.le_of_ble_eq_true (List.all_eq_true.1 hl b hb))
  have ht : ∀ {k : Nat}, Nat.ble k 20 = true → k ≤ E.top := fun h => by rw [hT]; exact Nat.le_of_ble_eq_true h
  have hs : sb L 10 = true := decide_eq_true hn
  refine Tri.postE (Q := fun x st => x = .normal ∧ ∃ js, st = ⟨(sB10_l0 nl L.length ls (rows L) xs ys c i (sb L) ox).pre ++ junk js 149 9, (sB10_l0 nl L.length ls (rows L) xs ys c i (sb L) ox).hp, 6, []⟩) (Tri.allR (m := 9) (n := 149) (codeOK _) (sB10 nl L.length ls (rows L) xs ys c i (sb L) js x10 x12 ox hx hc (by simp [rows]) hL.1 hL.2 hs) (Tr.all_ok ⟨rfl, ht rfl, hd _ rfl, fun js => ⟨rfl, js, rfl⟩⟩)) ?_
  rintro x s a w ⟨rfl, js, rfl⟩ hat
  obtain ⟨js', h9⟩ := at_rename (dirty' := []) (nid' := 5) (m := 9) (n := 149) [(0, 0), (1, 1), (2, 2), (3, 3), (4, 4)] rfl (by simp [length_junk]) rfl rfl (by rw [hE]; rfl) (by omega) (by omega) hat
  exact ⟨_, at_wk (dirty' := []) (pre' := pre nl (oB L.length) i) (hp' := hB ls xs ys c (sb L) (rows L)) (by (repeat' apply And.intro) <;> first | rfl | trivial) (by (repeat' apply And.intro) <;> first | rfl | exact hs.symm | trivial) h9, rfl, js', rfl⟩
theorem uA_11 {xs : List Int} {c i : Int} (hx : xs.length = 160) (hc : 0 ≤ c ∧ c ≤ 100000) (x10 x12 : SV) (ox : VObj MObj) (js : Nat → SV) :
    Tri MS Try.prog E (qt [true, true, true, true, true, true]) ⟨pre nl oA i ++ [.v (.int .i64 (.lit 11)), x10, .v (.int .i64 (.lit 5)), x12] ++ junk js 145 13, hA ls xs ys c (sb []) ++ [(4, some ox)], 7, []⟩ fun x st => x = .normal ∧ ∃ js, st = SB nl ls ys xs c i [(96 + 4 * ((11 : Nat) : Int))] js := by
  have hd : ∀ (l : List Nat), l.all (Nat.ble 1) = true → ∀ b, b ∈ l → E.D b := fun l hl b hb => hD b (Nat.le_of_ble_eq_true (List.all_eq_true.1 hl b hb))
  have ht : ∀ {k : Nat}, Nat.ble k 20 = true → k ≤ E.top := fun h => by rw [hT]; exact Nat.le_of_ble_eq_true h
  refine Tri.postE (Q := fun x st => x = .normal ∧ ∃ js, st = ⟨(uA11_l0 nl ls xs ys c i (sb []) ox).pre ++ junk js 149 9, (uA11_l0 nl ls xs ys c i (sb []) ox).hp, 9, []⟩) (Tri.allR (m := 9) (n := 149) (codeOK _) (uA11 nl ls xs ys c i (sb []) js x10 x12 ox hx hc rfl) (Tr.all_ok ⟨rfl, ht rfl, hd _ rfl, fun js => ⟨rfl, js, rfl⟩⟩)) ?_
  rintro x s a w ⟨rfl, js, rfl⟩ hat
  obtain ⟨js', h9⟩ := at_rename (dirty' := []) (nid' := 5) (m := 9) (n := 149) [(0, 0), (1, 1), (2, 2), (3, 3), (8, 4)] rfl (by simp [length_junk]) rfl rfl (by rw [hE]; rfl) (by omega) (by omega) hat
  exact ⟨_, at_wk (dirty' := []) (pre' := pre nl (oB 1) i) (hp' := hB ls xs ys c (sb [(96 + 4 * ((11 : Nat) : Int))]) (rows [(96 + 4 * ((11 : Nat) : Int))])) (by (repeat' apply And.intro) <;> first | rfl | trivial) (by (repeat' apply And.intro) <;> first | rfl | exact sb_eq.symm | exact (sb_ne (by decide)).symm | trivial) h9, rfl, js', rfl⟩
theorem uB_11 {xs L : List Int} {c i : Int} (hx : xs.length = 160) (hc : 0 ≤ c ∧ c ≤ 100000) (hL : 1 ≤ L.length ∧ L.length ≤ 1000) (hn : (96 + 4 * ((11 : Nat) : Int)) ∉ L) (x10 x12 : SV) (ox : VObj MObj) (js : Nat → SV) :
    Tri MS Try.prog E (qt [true, true, true, true, true, true]) ⟨pre nl (oB L.length) i ++ [.v (.int .i64 (.lit 11)), x10, .v (.int .i64 (.lit 5)), x12] ++ junk js 145 13, hB ls xs ys c (sb L) (rows L) ++ [(5, some ox)], 8, []⟩ fun x st => x = .normal ∧ ∃ js, st = SB nl ls ys xs c i ((96 + 4 * ((11 : Nat) : Int)) :: L) js := by
  have hd : ∀ (l : List Nat), l.all (Nat.ble 1) = true → ∀ b, b ∈ l → E.D b := fun l hl b hb => hD b (Nat.le_of_ble_eq_true (List.all_eq_true.1 hl b hb))
  have ht : ∀ {k : Nat}, Nat.ble k 20 = true → k ≤ E.top := fun h => by rw [hT]; exact Nat.le_of_ble_eq_true h
  refine Tri.postE (Q := fun x st => x = .normal ∧ ∃ js, st = ⟨(uB11_l0 nl L.length ls (rows L) xs ys c i (sb L) ox).pre ++ junk js 149 9, (uB11_l0 nl L.length ls (rows L) xs ys c i (sb L) ox).hp, 10, []⟩) (Tri.allR (m := 9) (n := 149) (codeOK _) (uB11 nl L.length ls (rows L) xs ys c i (sb L) js x10 x12 ox hx hc (by simp [rows]) hL.1 hL.2 (decide_eq_false hn)) (Tr.all_ok ⟨rfl, ht rfl, hd _ rfl, fun js => ⟨rfl, js, rfl⟩⟩)) ?_
  rintro x s a w ⟨rfl, js, rfl⟩ hat
  obtain ⟨js', h9⟩ := at_rename (dirty' := []) (nid' := 5) (m := 9) (n := 149) (hp' := [(0, some (.rotab [.int .i64] ls)), (1, some (.abs (.mem 66 xs c 0))), (2, some (.abs (.mem 70 ys 16 0))), (3, some (.cells [.bool (.sym (sb L 0)), .bool (.sym (sb L 1)), .bool (.sym (sb L 2)), .bool (.sym (sb L 3)), .bool (.sym (sb L 4)), .bool (.sym (sb L 5)), .bool (.sym (sb L 6)), .bool (.sym (sb L 7)), .bool (.sym (sb L 8)), .bool (.sym (sb L 9)), .bool (.sym (sb L 10)), .bool (.lit true), .bool (.sym (sb L 12)), .bool (.sym (sb L 13)), .bool (.sym (sb L 14)), .bool (.sym (sb L 15))] 28)), (4, some (.tab [.int .i64] (List.take L.length (List.drop 0 (rows L)) ++ [[(96 + 4 * ((11 : Nat) : Int))]]) 3))]) [(0, 0), (1, 1), (2, 2), (3, 3), (9, 4)] rfl (by simp [length_junk]) rfl rfl (by rw [hE]; rfl) (by omega) (by omega) hat
  rw [rows_cons] at h9
  exact ⟨_, at_wk (dirty' := []) (pre' := pre nl (oB (L.length + 1)) i) (hp' := hB ls xs ys c (sb ((96 + 4 * ((11 : Nat) : Int)) :: L)) (rows ((96 + 4 * ((11 : Nat) : Int)) :: L))) (by (repeat' apply And.intro) <;> first | rfl | trivial) (by (repeat' apply And.intro) <;> first | rfl | exact sb_eq.symm | exact (sb_ne (by decide)).symm | trivial) h9, rfl, js', rfl⟩
theorem sB_11 {xs L : List Int} {c i : Int} (hx : xs.length = 160) (hc : 0 ≤ c ∧ c ≤ 100000) (hL : 1 ≤ L.length ∧ L.length ≤ 1000) (hn : (96 + 4 * ((11 : Nat) : Int)) ∈ L) (x10 x12 : SV) (ox : VObj MObj) (js : Nat → SV) :
    Tri MS Try.prog E (qt [true, true, true, true, true, true]) ⟨pre nl (oB L.length) i ++ [.v (.int .i64 (.lit 11)), x10, .v (.int .i64 (.lit 1)), x12] ++ junk js 145 13, hB ls xs ys c (sb L) (rows L) ++ [(5, some ox)], 6, []⟩ fun x st => x = .normal ∧ ∃ js, st = SB nl ls ys xs c i L js := by
  have hd : ∀ (l : List Nat), l.all (Nat.ble 1) = true → ∀ b, b ∈ l → E.D b := fun l hl b hb => hD b (Nat.le_of_ble_eq_true (List.all_eq_true.1 hl b hb))
  have ht : ∀ {k : Nat}, Nat.ble k 20 = true → k ≤ E.top := fun h => by rw [hT]; exact Nat.le_of_ble_eq_true h
  have hs : sb L 11 = true := decide_eq_true hn
  refine Tri.postE (Q := fun x st => x = .normal ∧ ∃ js, st = ⟨(sB11_l0 nl L.length ls (rows L) xs ys c i (sb L) ox).pre ++ junk js 149 9, (sB11_l0 nl L.length ls (rows L) xs ys c i (sb L) ox).hp, 6, []⟩) (Tri.allR (m := 9) (n := 149) (codeOK _) (sB11 nl L.length ls (rows L) xs ys c i (sb L) js x10 x12 ox hx hc (by simp [rows]) hL.1 hL.2 hs) (Tr.all_ok ⟨rfl, ht rfl, hd _ rfl, fun js => ⟨rfl, js, rfl⟩⟩)) ?_
  rintro x s a w ⟨rfl, js, rfl⟩ hat
  obtain ⟨js', h9⟩ := at_rename (dirty' := []) (nid' := 5) (m := 9) (n := 149) [(0, 0), (1, 1), (2, 2), (3, 3), (4, 4)] rfl (by simp [length_junk]) rfl rfl (by rw [hE]; rfl) (by omega) (by omega) hat
  exact ⟨_, at_wk (dirty' := []) (pre' := pre nl (oB L.length) i) (hp' := hB ls xs ys c (sb L) (rows L)) (by (repeat' apply And.intro) <;> first | rfl | trivial) (by (repeat' apply And.intro) <;> first | rfl | exact hs.symm | trivial) h9, rfl, js', rfl⟩
theorem uA_12 {xs : List Int} {c i : Int} (hx : xs.length = 160) (hc : 0 ≤ c ∧ c ≤ 100000) (x10 x12 : SV) (ox : VObj MObj) (js : Nat → SV) :
    Tri MS Try.prog E (qt [true, true, true, true, true, true]) ⟨pre nl oA i ++ [.v (.int .i64 (.lit 12)), x10, .v (.int .i64 (.lit 5)), x12] ++ junk js 145 13, hA ls xs ys c (sb []) ++ [(4, some ox)], 7, []⟩ fun x st => x = .normal ∧ ∃ js, st = SB nl ls ys xs c i [(96 + 4 * ((12 : Nat) : Int))] js := by
  have hd : ∀ (l : List Nat), l.all (Nat.ble 1) = true → ∀ b, b ∈ l → E.D b := fun l hl b hb => hD b (Nat.le_of_ble_eq_true (List.all_eq_true.1 hl b hb))
  have ht : ∀ {k : Nat}, Nat.ble k 20 = true → k ≤ E.top := fun h => by rw [hT]; exact Nat.le_of_ble_eq_true h
  refine Tri.postE (Q := fun x st => x = .normal ∧ ∃ js, st = ⟨(uA12_l0 nl ls xs ys c i (sb []) ox).pre ++ junk js 149 9, (uA12_l0 nl ls xs ys c i (sb []) ox).hp, 9, []⟩) (Tri.allR (m := 9) (n := 149) (codeOK _) (uA12 nl ls xs ys c i (sb []) js x10 x12 ox hx hc rfl) (Tr.all_ok ⟨rfl, ht rfl, hd _ rfl, fun js => ⟨rfl, js, rfl⟩⟩)) ?_
  rintro x s a w ⟨rfl, js, rfl⟩ hat
  obtain ⟨js', h9⟩ := at_rename (dirty' := []) (nid' := 5) (m := 9) (n := 149) [(0, 0), (1, 1), (2, 2), (3, 3), (8, 4)] rfl (by simp [length_junk]) rfl rfl (by rw [hE]; rfl) (by omega) (by omega) hat
  exact ⟨_, at_wk (dirty' := []) (pre' := pre nl (oB 1) i) (hp' := hB ls xs ys c (sb [(96 + 4 * ((12 : Nat) : Int))]) (rows [(96 + 4 * ((12 : Nat) : Int))])) (by (repeat' apply And.intro) <;> first | rfl | trivial) (by (repeat' apply And.intro) <;> first | rfl | exact sb_eq.symm | exact (sb_ne (by decide)).symm | trivial) h9, rfl, js', rfl⟩
theorem uB_12 {xs L : List Int} {c i : Int} (hx : xs.length = 160) (hc : 0 ≤ c ∧ c ≤ 100000) (hL : 1 ≤ L.length ∧ L.length ≤ 1000) (hn : (96 + 4 * ((12 : Nat) : Int)) ∉ L) (x10 x12 : SV) (ox : VObj MObj) (js : Nat → SV) :
    Tri MS Try.prog E (qt [true, true, true, true, true, true]) ⟨pre nl (oB L.length) i ++ [.v (.int .i64 (.lit 12)), x10, .v (.int .i64 (.lit 5)), x12] ++ junk js 145 13, hB ls xs ys c (sb L) (rows L) ++ [(5, some ox)], 8, []⟩ fun x st => x = .normal ∧ ∃ js, st = SB nl ls ys xs c i ((96 + 4 * ((12 : Nat) : Int)) :: L) js := by
  have hd : ∀ (l : List Nat), l.all (Nat.ble 1) = true → ∀ b, b ∈ l → E.D b := fun l hl b hb => hD b (Nat.le_of_ble_eq_true (List.all_eq_true.1 hl b hb))
  have ht : ∀ {k : Nat}, Nat.ble k 20 = true → k ≤ E.top := fun h => by rw [hT]; exact Nat.le_of_ble_eq_true h
  refine Tri.postE (Q := fun x st => x = .normal ∧ ∃ js, st = ⟨(uB12_l0 nl L.length ls (rows L) xs ys c i (sb L) ox).pre ++ junk js 149 9, (uB12_l0 nl L.length ls (rows L) xs ys c i (sb L) ox).hp, 10, []⟩) (Tri.allR (m := 9) (n := 149) (codeOK _) (uB12 nl L.length ls (rows L) xs ys c i (sb L) js x10 x12 ox hx hc (by simp [rows]) hL.1 hL.2 (decide_eq_false hn)) (Tr.all_ok ⟨rfl, ht rfl, hd _ rfl, fun js => ⟨rfl, js, rfl⟩⟩)) ?_
  rintro x s a w ⟨rfl, js, rfl⟩ hat
  obtain ⟨js', h9⟩ := at_rename (dirty' := []) (nid' := 5) (m := 9) (n := 149) (hp' := [(0, some (.rotab [.int .i64] ls)), (1, some (.abs (.mem 66 xs c 0))), (2, some (.abs (.mem 70 ys 16 0))), (3, some (.cells [.bool (.sym (sb L 0)), .bool (.sym (sb L 1)), .bool (.sym (sb L 2)), .bool (.sym (sb L 3)), .bool (.sym (sb L 4)), .bool (.sym (sb L 5)), .bool (.sym (sb L 6)), .bool (.sym (sb L 7)), .bool (.sym (sb L 8)), .bool (.sym (sb L 9)), .bool (.sym (sb L 10)), .bool (.sym (sb L 11)), .bool (.lit true), .bool (.sym (sb L 13)), .bool (.sym (sb L 14)), .bool (.sym (sb L 15))] 28)), (4, some (.tab [.int .i64] (List.take L.length (List.drop 0 (rows L)) ++ [[(96 + 4 * ((12 : Nat) : Int))]]) 3))]) [(0, 0), (1, 1), (2, 2), (3, 3), (9, 4)] rfl (by simp [length_junk]) rfl rfl (by rw [hE]; rfl) (by omega) (by omega) hat
  rw [rows_cons] at h9
  exact ⟨_, at_wk (dirty' := []) (pre' := pre nl (oB (L.length + 1)) i) (hp' := hB ls xs ys c (sb ((96 + 4 * ((12 : Nat) : Int)) :: L)) (rows ((96 + 4 * ((12 : Nat) : Int)) :: L))) (by (repeat' apply And.intro) <;> first | rfl | trivial) (by (repeat' apply And.intro) <;> first | rfl | exact sb_eq.symm | exact (sb_ne (by decide)).symm | trivial) h9, rfl, js', rfl⟩
theorem sB_12 {xs L : List Int} {c i : Int} (hx : xs.length = 160) (hc : 0 ≤ c ∧ c ≤ 100000) (hL : 1 ≤ L.length ∧ L.length ≤ 1000) (hn : (96 + 4 * ((12 : Nat) : Int)) ∈ L) (x10 x12 : SV) (ox : VObj MObj) (js : Nat → SV) :
    Tri MS Try.prog E (qt [true, true, true, true, true, true]) ⟨pre nl (oB L.length) i ++ [.v (.int .i64 (.lit 12)), x10, .v (.int .i64 (.lit 1)), x12] ++ junk js 145 13, hB ls xs ys c (sb L) (rows L) ++ [(5, some ox)], 6, []⟩ fun x st => x = .normal ∧ ∃ js, st = SB nl ls ys xs c i L js := by
  have hd : ∀ (l : List Nat), l.all (Nat.ble 1) = true → ∀ b, b ∈ l → E.D b := fun l hl b hb => hD b (Nat.le_of_ble_eq_true (List.all_eq_true.1 hl b hb))
  have ht : ∀ {k : Nat}, Nat.ble k 20 = true → k ≤ E.top := fun h => by rw [hT]; exact Nat.le_of_ble_eq_true h
  have hs : sb L 12 = true := decide_eq_true hn
  refine Tri.postE (Q := fun x st => x = .normal ∧ ∃ js, st = ⟨(sB12_l0 nl L.length ls (rows L) xs ys c i (sb L) ox).pre ++ junk js 149 9, (sB12_l0 nl L.length ls (rows L) xs ys c i (sb L) ox).hp, 6, []⟩) (Tri.allR (m := 9) (n := 149) (codeOK _) (sB12 nl L.length ls (rows L) xs ys c i (sb L) js x10 x12 ox hx hc (by simp [rows]) hL.1 hL.2 hs) (Tr.all_ok ⟨rfl, ht rfl, hd _ rfl, fun js => ⟨rfl, js, rfl⟩⟩)) ?_
  rintro x s a w ⟨rfl, js, rfl⟩ hat
  obtain ⟨js', h9⟩ := at_rename (dirty' := []) (nid' := 5) (m := 9) (n := 149) [(0, 0), (1, 1), (2, 2), (3, 3), (4, 4)] rfl (by simp [length_junk]) rfl rfl (by rw [hE]; rfl) (by omega) (by omega) hat
  exact ⟨_, at_wk (dirty' := []) (pre' := pre nl (oB L.length) i) (hp' := hB ls xs ys c (sb L) (rows L)) (by (repeat' apply And.intro) <;> first | rfl | trivial) (by (repeat' apply And.intro) <;> first | rfl | exact hs.symm | trivial) h9, rfl, js', rfl⟩
theorem uA_13 {xs : List Int} {c i : Int} (hx : xs.length = 160) (hc : 0 ≤ c ∧ c ≤ 100000) (x10 x12 : SV) (ox : VObj MObj) (js : Nat → SV) :
    Tri MS Try.prog E (qt [true, true, true, true, true, true]) ⟨pre nl oA i ++ [.v (.int .i64 (.lit 13)), x10, .v (.int .i64 (.lit 5)), x12] ++ junk js 145 13, hA ls xs ys c (sb []) ++ [(4, some ox)], 7, []⟩ fun x st => x = .normal ∧ ∃ js, st = SB nl ls ys xs c i [(96 + 4 * ((13 : Nat) : Int))] js := by
  have hd : ∀ (l : List Nat), l.all (Nat.ble 1) = true → ∀ b, b ∈ l → E.D b := fun l hl b hb => hD b (Nat.le_of_ble_eq_true (List.all_eq_true.1 hl b hb))
  have ht : ∀ {k : Nat}, Nat.ble k 20 = true → k ≤ E.top := fun h => by rw [hT]; exact Nat.le_of_ble_eq_true h
  refine Tri.postE (Q := fun x st => x = .normal ∧ ∃ js, st = ⟨(uA13_l0 nl ls xs ys c i (sb []) ox).pre ++ junk js 149 9, (uA13_l0 nl ls xs ys c i (sb []) ox).hp, 9, []⟩) (Tri.allR (m := 9) (n := 149) (codeOK _) (uA13 nl ls xs ys c i (sb []) js x10 x12 ox hx hc rfl) (Tr.all_ok ⟨rfl, ht rfl, hd _ rfl, fun js => ⟨rfl, js, rfl⟩⟩)) ?_
  rintro x s a w ⟨rfl, js, rfl⟩ hat
  obtain ⟨js', h9⟩ := at_rename (dirty' := []) (nid' := 5) (m := 9) (n := 149) [(0, 0), (1, 1), (2, 2), (3, 3), (8, 4)] rfl (by simp [length_junk]) rfl rfl (by rw [hE]; rfl) (by omega) (by omega) hat
  exact ⟨_, at_wk (dirty' := []) (pre' := pre nl (oB 1) i) (hp' := hB ls xs ys c (sb [(96 + 4 * ((13 : Nat) : Int))]) (rows [(96 + 4 * ((13 : Nat) : Int))])) (by (repeat' apply And.intro) <;> first | rfl | trivial) (by (repeat' apply And.intro) <;> first | rfl | exact sb_eq.symm | exact (sb_ne (by decide)).symm | trivial) h9, rfl, js', rfl⟩
theorem uB_13 {xs L : List Int} {c i : Int} (hx : xs.length = 160) (hc : 0 ≤ c ∧ c ≤ 100000) (hL : 1 ≤ L.length ∧ L.length ≤ 1000) (hn : (96 + 4 * ((13 : Nat) : Int)) ∉ L) (x10 x12 : SV) (ox : VObj MObj) (js : Nat → SV) :
    Tri MS Try.prog E (qt [true, true, true, true, true, true]) ⟨pre nl (oB L.length) i ++ [.v (.int .i64 (.lit 13)), x10, .v (.int .i64 (.lit 5)), x12] ++ junk js 145 13, hB ls xs ys c (sb L) (rows L) ++ [(5, some ox)], 8, []⟩ fun x st => x = .normal ∧ ∃ js, st = SB nl ls ys xs c i ((96 + 4 * ((13 : Nat) : Int)) :: L) js := by
  have hd : ∀ (l : List Nat), l.all (Nat.ble 1) = true → ∀ b, b ∈ l → E.D b := fun l hl b hb => hD b (Nat.le_of_ble_eq_true (List.all_eq_true.1 hl b hb))
  have ht : ∀ {k : Nat}, Nat.ble k 20 = true → k ≤ E.top := fun h => by rw [hT]; exact Nat.le_of_ble_eq_true h
  refine Tri.postE (Q := fun x st => x = .normal ∧ ∃ js, st = ⟨(uB13_l0 nl L.length ls (rows L) xs ys c i (sb L) ox).pre ++ junk js 149 9, (uB13_l0 nl L.length ls (rows L) xs ys c i (sb L) ox).hp, 10, []⟩) (Tri.allR (m := 9) (n := 149) (codeOK _) (uB13 nl L.length ls (rows L) xs ys c i (sb L) js x10 x12 ox hx hc (by simp [rows]) hL.1 hL.2 (decide_eq_false hn)) (Tr.all_ok ⟨rfl, ht rfl, hd _ rfl, fun js => ⟨rfl, js, rfl⟩⟩)) ?_
  rintro x s a w ⟨rfl, js, rfl⟩ hat
  obtain ⟨js', h9⟩ := at_rename (dirty' := []) (nid' := 5) (m := 9) (n := 149) (hp' := [(0, some (.rotab [.int .i64] ls)), (1, some (.abs (.mem 66 xs c 0))), (2, some (.abs (.mem 70 ys 16 0))), (3, some (.cells [.bool (.sym (sb L 0)), .bool (.sym (sb L 1)), .bool (.sym (sb L 2)), .bool (.sym (sb L 3)), .bool (.sym (sb L 4)), .bool (.sym (sb L 5)), .bool (.sym (sb L 6)), .bool (.sym (sb L 7)), .bool (.sym (sb L 8)), .bool (.sym (sb L 9)), .bool (.sym (sb L 10)), .bool (.sym (sb L 11)), .bool (.sym (sb L 12)), .bool (.lit true), .bool (.sym (sb L 14)), .bool (.sym (sb L 15))] 28)), (4, some (.tab [.int .i64] (List.take L.length (List.drop 0 (rows L)) ++ [[(96 + 4 * ((13 : Nat) : Int))]]) 3))]) [(0, 0), (1, 1), (2, 2), (3, 3), (9, 4)] rfl (by simp [length_junk]) rfl rfl (by rw [hE]; rfl) (by omega) (by omega) hat
  rw [rows_cons] at h9
  exact ⟨_, at_wk (dirty' := []) (pre' := pre nl (oB (L.length + 1)) i) (hp' := hB ls xs ys c (sb ((96 + 4 * ((13 : Nat) : Int)) :: L)) (rows ((96 + 4 * ((13 : Nat) : Int)) :: L))) (by (repeat' apply And.intro) <;> first | rfl | trivial) (by (repeat' apply And.intro) <;> first | rfl | exact sb_eq.symm | exact (sb_ne (by decide)).symm | trivial) h9, rfl, js', rfl⟩
theorem sB_13 {xs L : List Int} {c i : Int} (hx : xs.length = 160) (hc : 0 ≤ c ∧ c ≤ 100000) (hL : 1 ≤ L.length ∧ L.length ≤ 1000) (hn : (96 + 4 * ((13 : Nat) : Int)) ∈ L) (x10 x12 : SV) (ox : VObj MObj) (js : Nat → SV) :
    Tri MS Try.prog E (qt [true, true, true, true, true, true]) ⟨pre nl (oB L.length) i ++ [.v (.int .i64 (.lit 13)), x10, .v (.int .i64 (.lit 1)), x12] ++ junk js 145 13, hB ls xs ys c (sb L) (rows L) ++ [(5, some ox)], 6, []⟩ fun x st => x = .normal ∧ ∃ js, st = SB nl ls ys xs c i L js := by
  have hd : ∀ (l : List Nat), l.all (Nat.ble 1) = true → ∀ b, b ∈ l → E.D b := fun l hl b hb => hD b (Nat.le_of_ble_eq_true (List.all_eq_true.1 hl b hb))
  have ht : ∀ {k : Nat}, Nat.ble k 20 = true → k ≤ E.top := fun h => by rw [hT]; exact Nat.le_of_ble_eq_true h
  have hs : sb L 13 = true := decide_eq_true hn
  refine Tri.postE (Q := fun x st => x = .normal ∧ ∃ js, st = ⟨(sB13_l0 nl L.length ls (rows L) xs ys c i (sb L) ox).pre ++ junk js 149 9, (sB13_l0 nl L.length ls (rows L) xs ys c i (sb L) ox).hp, 6, []⟩) (Tri.allR (m := 9) (n := 149) (codeOK _) (sB13 nl L.length ls (rows L) xs ys c i (sb L) js x10 x12 ox hx hc (by simp [rows]) hL.1 hL.2 hs) (Tr.all_ok ⟨rfl, ht rfl, hd _ rfl, fun js => ⟨rfl, js, rfl⟩⟩)) ?_
  rintro x s a w ⟨rfl, js, rfl⟩ hat
  obtain ⟨js', h9⟩ := at_rename (dirty' := []) (nid' := 5) (m := 9) (n := 149) [(0, 0), (1, 1), (2, 2), (3, 3), (4, 4)] rfl (by simp [length_junk]) rfl rfl (by rw [hE]; rfl) (by omega) (by omega) hat
  exact ⟨_, at_wk (dirty' := []) (pre' := pre nl (oB L.length) i) (hp' := hB ls xs ys c (sb L) (rows L)) (by (repeat' apply And.intro) <;> first | rfl | trivial) (by (repeat' apply And.intro) <;> first | rfl | exact hs.symm | trivial) h9, rfl, js', rfl⟩
theorem uA_14 {xs : List Int} {c i : Int} (hx : xs.length = 160) (hc : 0 ≤ c ∧ c ≤ 100000) (x10 x12 : SV) (ox : VObj MObj) (js : Nat → SV) :
    Tri MS Try.prog E (qt [true, true, true, true, true, true]) ⟨pre nl oA i ++ [.v (.int .i64 (.lit 14)), x10, .v (.int .i64 (.lit 5)), x12] ++ junk js 145 13, hA ls xs ys c (sb []) ++ [(4, some ox)], 7, []⟩ fun x st => x = .normal ∧ ∃ js, st = SB nl ls ys xs c i [(96 + 4 * ((14 : Nat) : Int))] js := by
  have hd : ∀ (l : List Nat), l.all (Nat.ble 1) = true → ∀ b, b ∈ l → E.D b := fun l hl b hb => hD b (Nat.le_of_ble_eq_true (List.all_eq_true.1 hl b hb))
  have ht : ∀ {k : Nat}, Nat.ble k 20 = true → k ≤ E.top := fun h => by rw [hT]; exact Nat.le_of_ble_eq_true h
  refine Tri.postE (Q := fun x st => x = .normal ∧ ∃ js, st = ⟨(uA14_l0 nl ls xs ys c i (sb []) ox).pre ++ junk js 149 9, (uA14_l0 nl ls xs ys c i (sb []) ox).hp, 9, []⟩) (Tri.allR (m := 9) (n := 149) (codeOK _) (uA14 nl ls xs ys c i (sb []) js x10 x12 ox hx hc rfl) (Tr.all_ok ⟨rfl, ht rfl, hd _ rfl, fun js => ⟨rfl, js, rfl⟩⟩)) ?_
  rintro x s a w ⟨rfl, js, rfl⟩ hat
  obtain ⟨js', h9⟩ := at_rename (dirty' := []) (nid' := 5) (m := 9) (n := 149) [(0, 0), (1, 1), (2, 2), (3, 3), (8, 4)] rfl (by simp [length_junk]) rfl rfl (by rw [hE]; rfl) (by omega) (by omega) hat
  exact ⟨_, at_wk (dirty' := []) (pre' := pre nl (oB 1) i) (hp' := hB ls xs ys c (sb [(96 + 4 * ((14 : Nat) : Int))]) (rows [(96 + 4 * ((14 : Nat) : Int))])) (by (repeat' apply And.intro) <;> first | rfl | trivial) (by (repeat' apply And.intro) <;> first | rfl | exact sb_eq.symm | exact (sb_ne (by decide)).symm | trivial) h9, rfl, js', rfl⟩
theorem uB_14 {xs L : List Int} {c i : Int} (hx : xs.length = 160) (hc : 0 ≤ c ∧ c ≤ 100000) (hL : 1 ≤ L.length ∧ L.length ≤ 1000) (hn : (96 + 4 * ((14 : Nat) : Int)) ∉ L) (x10 x12 : SV) (ox : VObj MObj) (js : Nat → SV) :
    Tri MS Try.prog E (qt [true, true, true, true, true, true]) ⟨pre nl (oB L.length) i ++ [.v (.int .i64 (.lit 14)), x10, .v (.int .i64 (.lit 5)), x12] ++ junk js 145 13, hB ls xs ys c (sb L) (rows L) ++ [(5, some ox)], 8, []⟩ fun x st => x = .normal ∧ ∃ js, st = SB nl ls ys xs c i ((96 + 4 * ((14 : Nat) : Int)) :: L) js := by
  have hd : ∀ (l : List Nat), l.all (Nat.ble 1) = true → ∀ b, b ∈ l → E.D b := fun l hl b hb => hD b (Nat.le_of_ble_eq_true (List.all_eq_true.1 hl b hb))
  have ht : ∀ {k : Nat}, Nat.ble k 20 = true → k ≤ E.top := fun h => by rw [hT]; exact Nat.le_of_ble_eq_true h
  refine Tri.postE (Q := fun x st => x = .normal ∧ ∃ js, st = ⟨(uB14_l0 nl L.length ls (rows L) xs ys c i (sb L) ox).pre ++ junk js 149 9, (uB14_l0 nl L.length ls (rows L) xs ys c i (sb L) ox).hp, 10, []⟩) (Tri.allR (m := 9) (n := 149) (codeOK _) (uB14 nl L.length ls (rows L) xs ys c i (sb L) js x10 x12 ox hx hc (by simp [rows]) hL.1 hL.2 (decide_eq_false hn)) (Tr.all_ok ⟨rfl, ht rfl, hd _ rfl, fun js => ⟨rfl, js, rfl⟩⟩)) ?_
  rintro x s a w ⟨rfl, js, rfl⟩ hat
  obtain ⟨js', h9⟩ := at_rename (dirty' := []) (nid' := 5) (m := 9) (n := 149) (hp' := [(0, some (.rotab [.int .i64] ls)), (1, some (.abs (.mem 66 xs c 0))), (2, some (.abs (.mem 70 ys 16 0))), (3, some (.cells [.bool (.sym (sb L 0)), .bool (.sym (sb L 1)), .bool (.sym (sb L 2)), .bool (.sym (sb L 3)), .bool (.sym (sb L 4)), .bool (.sym (sb L 5)), .bool (.sym (sb L 6)), .bool (.sym (sb L 7)), .bool (.sym (sb L 8)), .bool (.sym (sb L 9)), .bool (.sym (sb L 10)), .bool (.sym (sb L 11)), .bool (.sym (sb L 12)), .bool (.sym (sb L 13)), .bool (.lit true), .bool (.sym (sb L 15))] 28)), (4, some (.tab [.int .i64] (List.take L.length (List.drop 0 (rows L)) ++ [[(96 + 4 * ((14 : Nat) : Int))]]) 3))]) [(0, 0), (1, 1), (2, 2), (3, 3), (9, 4)] rfl (by simp [length_junk]) rfl rfl (by rw [hE]; rfl) (by omega) (by omega) hat
  rw [rows_cons] at h9
  exact ⟨_, at_wk (dirty' := []) (pre' := pre nl (oB (L.length + 1)) i) (hp' := hB ls xs ys c (sb ((96 + 4 * ((14 : Nat) : Int)) :: L)) (rows ((96 + 4 * ((14 : Nat) : Int)) :: L))) (by (repeat' apply And.intro) <;> first | rfl | trivial) (by (repeat' apply And.intro) <;> first | rfl | exact sb_eq.symm | exact (sb_ne (by decide)).symm | trivial) h9, rfl, js', rfl⟩
theorem sB_14 {xs L : List Int} {c i : Int} (hx : xs.length = 160) (hc : 0 ≤ c ∧ c ≤ 100000) (hL : 1 ≤ L.length ∧ L.length ≤ 1000) (hn : (96 + 4 * ((14 : Nat) : Int)) ∈ L) (x10 x12 : SV) (ox : VObj MObj) (js : Nat → SV) :
    Tri MS Try.prog E (qt [true, true, true, true, true, true]) ⟨pre nl (oB L.length) i ++ [.v (.int .i64 (.lit 14)), x10, .v (.int .i64 (.lit 1)), x12] ++ junk js 145 13, hB ls xs ys c (sb L) (rows L) ++ [(5, some ox)], 6, []⟩ fun x st => x = .normal ∧ ∃ js, st = SB nl ls ys xs c i L js := by
  have hd : ∀ (l : List Nat), l.all (Nat.ble 1) = true → ∀ b, b ∈ l → E.D b := fun l hl b hb => hD b (Nat.le_of_ble_eq_true (List.all_eq_true.1 hl b hb))
  have ht : ∀ {k : Nat}, Nat.ble k 20 = true → k ≤ E.top := fun h => by rw [hT]; exact Nat.le_of_ble_eq_true h
  have hs : sb L 14 = true := decide_eq_true hn
  refine Tri.postE (Q := fun x st => x = .normal ∧ ∃ js, st = ⟨(sB14_l0 nl L.length ls (rows L) xs ys c i (sb L) ox).pre ++ junk js 149 9, (sB14_l0 nl L.length ls (rows L) xs ys c i (sb L) ox).hp, 6, []⟩) (Tri.allR (m := 9) (n := 149) (codeOK _) (sB14 nl L.length ls (rows L) xs ys c i (sb L) js x10 x12 ox hx hc (by simp [rows]) hL.1 hL.2 hs) (Tr.all_ok ⟨rfl, ht rfl, hd _ rfl, fun js => ⟨rfl, js, rfl⟩⟩)) ?_
  rintro x s a w ⟨rfl, js, rfl⟩ hat
  obtain ⟨js', h9⟩ := at_rename (dirty' := []) (nid' := 5) (m := 9) (n := 149) [(0, 0), (1, 1), (2, 2), (3, 3), (4, 4)] rfl (by simp [length_junk]) rfl rfl (by rw [hE]; rfl) (by omega) (by omega) hat
  exact ⟨_, at_wk (dirty' := []) (pre' := pre nl (oB L.length) i) (hp' := hB ls xs ys c (sb L) (rows L)) (by (repeat' apply And.intro) <;> first | rfl | trivial) (by (repeat' apply And.intro) <;> first | rfl | exact hs.symm | trivial) h9, rfl, js', rfl⟩
theorem uA_15 {xs : List Int} {c i : Int} (hx : xs.length = 160) (hc : 0 ≤ c ∧ c ≤ 100000) (x10 x12 : SV) (ox : VObj MObj) (js : Nat → SV) :
    Tri MS Try.prog E (qt [true, true, true, true, true, true]) ⟨pre nl oA i ++ [.v (.int .i64 (.lit 15)), x10, .v (.int .i64 (.lit 5)), x12] ++ junk js 145 13, hA ls xs ys c (sb []) ++ [(4, some ox)], 7, []⟩ fun x st => x = .normal ∧ ∃ js, st = SB nl ls ys xs c i [(96 + 4 * ((15 : Nat) : Int))] js := by
  have hd : ∀ (l : List Nat), l.all (Nat.ble 1) = true → ∀ b, b ∈ l → E.D b := fun l hl b hb => hD b (Nat.le_of_ble_eq_true (List.all_eq_true.1 hl b hb))
  have ht : ∀ {k : Nat}, Nat.ble k 20 = true → k ≤ E.top := fun h => by rw [hT]; exact Nat.le_of_ble_eq_true h
  refine Tri.postE (Q := fun x st => x = .normal ∧ ∃ js, st = ⟨(uA15_l0 nl ls xs ys c i (sb []) ox).pre ++ junk js 149 9, (uA15_l0 nl ls xs ys c i (sb []) ox).hp, 9, []⟩) (Tri.allR (m := 9) (n := 149) (codeOK _) (uA15 nl ls xs ys c i (sb []) js x10 x12 ox hx hc rfl) (Tr.all_ok ⟨rfl, ht rfl, hd _ rfl, fun js => ⟨rfl, js, rfl⟩⟩)) ?_
  rintro x s a w ⟨rfl, js, rfl⟩ hat
  obtain ⟨js', h9⟩ := at_rename (dirty' := []) (nid' := 5) (m := 9) (n := 149) [(0, 0), (1, 1), (2, 2), (3, 3), (8, 4)] rfl (by simp [length_junk]) rfl rfl (by rw [hE]; rfl) (by omega) (by omega) hat
  exact ⟨_, at_wk (dirty' := []) (pre' := pre nl (oB 1) i) (hp' := hB ls xs ys c (sb [(96 + 4 * ((15 : Nat) : Int))]) (rows [(96 + 4 * ((15 : Nat) : Int))])) (by (repeat' apply And.intro) <;> first | rfl | trivial) (by (repeat' apply And.intro) <;> first | rfl | exact sb_eq.symm | exact (sb_ne (by decide)).symm | trivial) h9, rfl, js', rfl⟩
theorem uB_15 {xs L : List Int} {c i : Int} (hx : xs.length = 160) (hc : 0 ≤ c ∧ c ≤ 100000) (hL : 1 ≤ L.length ∧ L.length ≤ 1000) (hn : (96 + 4 * ((15 : Nat) : Int)) ∉ L) (x10 x12 : SV) (ox : VObj MObj) (js : Nat → SV) :
    Tri MS Try.prog E (qt [true, true, true, true, true, true]) ⟨pre nl (oB L.length) i ++ [.v (.int .i64 (.lit 15)), x10, .v (.int .i64 (.lit 5)), x12] ++ junk js 145 13, hB ls xs ys c (sb L) (rows L) ++ [(5, some ox)], 8, []⟩ fun x st => x = .normal ∧ ∃ js, st = SB nl ls ys xs c i ((96 + 4 * ((15 : Nat) : Int)) :: L) js := by
  have hd : ∀ (l : List Nat), l.all (Nat.ble 1) = true → ∀ b, b ∈ l → E.D b := fun l hl b hb => hD b (Nat.le_of_ble_eq_true (List.all_eq_true.1 hl b hb))
  have ht : ∀ {k : Nat}, Nat.ble k 20 = true → k ≤ E.top := fun h => by rw [hT]; exact Nat.le_of_ble_eq_true h
  refine Tri.postE (Q := fun x st => x = .normal ∧ ∃ js, st = ⟨(uB15_l0 nl L.length ls (rows L) xs ys c i (sb L) ox).pre ++ junk js 149 9, (uB15_l0 nl L.length ls (rows L) xs ys c i (sb L) ox).hp, 10, []⟩) (Tri.allR (m := 9) (n := 149) (codeOK _) (uB15 nl L.length ls (rows L) xs ys c i (sb L) js x10 x12 ox hx hc (by simp [rows]) hL.1 hL.2 (decide_eq_false hn)) (Tr.all_ok ⟨rfl, ht rfl, hd _ rfl, fun js => ⟨rfl, js, rfl⟩⟩)) ?_
  rintro x s a w ⟨rfl, js, rfl⟩ hat
  obtain ⟨js', h9⟩ := at_rename (dirty' := []) (nid' := 5) (m := 9) (n := 149) (hp' := [(0, some (.rotab [.int .i64] ls)), (1, some (.abs (.mem 66 xs c 0))), (2, some (.abs (.mem 70 ys 16 0))), (3, some (.cells [.bool (.sym (sb L 0)), .bool (.sym (sb L 1)), .bool (.sym (sb L 2)), .bool (.sym (sb L 3)), .bool (.sym (sb L 4)), .bool (.sym (sb L 5)), .bool (.sym (sb L 6)), .bool (.sym (sb L 7)), .bool (.sym (sb L 8)), .bool (.sym (sb L 9)), .bool (.sym (sb L 10)), .bool (.sym (sb L 11)), .bool (.sym (sb L 12)), .bool (.sym (sb L 13)), .bool (.sym (sb L 14)), .bool (.lit true)] 28)), (4, some (.tab [.int .i64] (List.take L.length (List.drop 0 (rows L)) ++ [[(96 + 4 * ((15 : Nat) : Int))]]) 3))]) [(0, 0), (1, 1), (2, 2), (3, 3), (9, 4)] rfl (by simp [length_junk]) rfl rfl (by rw [hE]; rfl) (by omega) (by omega) hat
  rw [rows_cons] at h9
  exact ⟨_, at_wk (dirty' := []) (pre' := pre nl (oB (L.length + 1)) i) (hp' := hB ls xs ys c (sb ((96 + 4 * ((15 : Nat) : Int)) :: L)) (rows ((96 + 4 * ((15 : Nat) : Int)) :: L))) (by (repeat' apply And.intro) <;> first | rfl | trivial) (by (repeat' apply And.intro) <;> first | rfl | exact sb_eq.symm | exact (sb_ne (by decide)).symm | trivial) h9, rfl, js', rfl⟩
theorem sB_15 {xs L : List Int} {c i : Int} (hx : xs.length = 160) (hc : 0 ≤ c ∧ c ≤ 100000) (hL : 1 ≤ L.length ∧ L.length ≤ 1000) (hn : (96 + 4 * ((15 : Nat) : Int)) ∈ L) (x10 x12 : SV) (ox : VObj MObj) (js : Nat → SV) :
    Tri MS Try.prog E (qt [true, true, true, true, true, true]) ⟨pre nl (oB L.length) i ++ [.v (.int .i64 (.lit 15)), x10, .v (.int .i64 (.lit 1)), x12] ++ junk js 145 13, hB ls xs ys c (sb L) (rows L) ++ [(5, some ox)], 6, []⟩ fun x st => x = .normal ∧ ∃ js, st = SB nl ls ys xs c i L js := by
  have hd : ∀ (l : List Nat), l.all (Nat.ble 1) = true → ∀ b, b ∈ l → E.D b := fun l hl b hb => hD b (Nat.le_of_ble_eq_true (List.all_eq_true.1 hl b hb))
  have ht : ∀ {k : Nat}, Nat.ble k 20 = true → k ≤ E.top := fun h => by rw [hT]; exact Nat.le_of_ble_eq_true h
  have hs : sb L 15 = true := decide_eq_true hn
  refine Tri.postE (Q := fun x st => x = .normal ∧ ∃ js, st = ⟨(sB15_l0 nl L.length ls (rows L) xs ys c i (sb L) ox).pre ++ junk js 149 9, (sB15_l0 nl L.length ls (rows L) xs ys c i (sb L) ox).hp, 6, []⟩) (Tri.allR (m := 9) (n := 149) (codeOK _) (sB15 nl L.length ls (rows L) xs ys c i (sb L) js x10 x12 ox hx hc (by simp [rows]) hL.1 hL.2 hs) (Tr.all_ok ⟨rfl, ht rfl, hd _ rfl, fun js => ⟨rfl, js, rfl⟩⟩)) ?_
  rintro x s a w ⟨rfl, js, rfl⟩ hat
  obtain ⟨js', h9⟩ := at_rename (dirty' := []) (nid' := 5) (m := 9) (n := 149) [(0, 0), (1, 1), (2, 2), (3, 3), (4, 4)] rfl (by simp [length_junk]) rfl rfl (by rw [hE]; rfl) (by omega) (by omega) hat
  exact ⟨_, at_wk (dirty' := []) (pre' := pre nl (oB L.length) i) (hp' := hB ls xs ys c (sb L) (rows L)) (by (repeat' apply And.intro) <;> first | rfl | trivial) (by (repeat' apply And.intro) <;> first | rfl | exact hs.symm | trivial) h9, rfl, js', rfl⟩
theorem uA_all {xs : List Int} {c i kk : Int} {k : Nat} (hk : k < 16) (hkk : kk = (k : Int)) (hx : xs.length = 160) (hc : 0 ≤ c ∧ c ≤ 100000) (x10 x12 : SV) (ox : VObj MObj) (js : Nat → SV) :
    Tri MS Try.prog E (qt [true, true, true, true, true, true]) ⟨pre nl oA i ++ [.v (ii kk), x10, .v (.int .i64 (.lit 5)), x12] ++ junk js 145 13, hA ls xs ys c (sb []) ++ [(4, some ox)], 7, []⟩ fun x st => x = .normal ∧ ∃ js, st = SB nl ls ys xs c i [(96 + 4 * (k : Int))] js := by
  refine Tri.preWk (pre' := pre nl oA i ++ [.v (.int .i64 (.lit (k : Int))), x10, .v (.int .i64 (.lit 5)), x12]) (hp' := hA ls xs ys c (sb []) ++ [(4, some ox)]) (by (repeat' apply And.intro) <;> first | rfl | exact hkk | exact wkS_refl _ | trivial) (wkH_refl _) ?_
  rcases (show k = 0 ∨ k = 1 ∨ k = 2 ∨ k = 3 ∨ k = 4 ∨ k = 5 ∨ k = 6 ∨ k = 7 ∨ k = 8 ∨ k = 9 ∨ k = 10 ∨ k = 11 ∨ k = 12 ∨ k = 13 ∨ k = 14 ∨ k = 15 by omega) with rfl | rfl | rfl | rfl | rfl | rfl | rfl | rfl | rfl | rfl | rfl | rfl | rfl | rfl | rfl | rfl
  · exact uA_0 nl ls ys E hE hT hD hx hc x10 x12 ox js
  · exact uA_1 nl ls ys E hE hT hD hx hc x10 x12 ox js
  · exact uA_2 nl ls ys E hE hT hD hx hc x10 x12 ox js
  · exact uA_3 nl ls ys E hE hT hD hx hc x10 x12 ox js
  · exact uA_4 nl ls ys E hE hT hD hx hc x10 x12 ox js
  · exact uA_5 nl ls ys E hE hT hD hx hc x10 x12 ox js
  · exact uA_6 nl ls ys E hE hT hD hx hc x10 x12 ox js
  · exact uA_7 nl ls ys E hE hT hD hx hc x10 x12 ox js
  · exact uA_8 nl ls ys E hE hT hD hx hc x10 x12 ox js
  · exact uA_9 nl ls ys E hE hT hD hx hc x10 x12 ox js
  · exact uA_10 nl ls ys E hE hT hD hx hc x10 x12 ox js
  · exact uA_11 nl ls ys E hE hT hD hx hc x10 x12 ox js
  · exact uA_12 nl ls ys E hE hT hD hx hc x10 x12 ox js
  · exact uA_13 nl ls ys E hE hT hD hx hc x10 x12 ox js
  · exact uA_14 nl ls ys E hE hT hD hx hc x10 x12 ox js
  · exact uA_15 nl ls ys E hE hT hD hx hc x10 x12 ox js
theorem uB_all {xs L : List Int} {c i kk : Int} {k : Nat} (hk : k < 16) (hkk : kk = (k : Int)) (hx : xs.length = 160) (hc : 0 ≤ c ∧ c ≤ 100000) (hL : 1 ≤ L.length ∧ L.length ≤ 1000) (hn : (96 + 4 * (k : Int)) ∉ L) (x10 x12 : SV) (ox : VObj MObj) (js : Nat → SV) :
    Tri MS Try.prog E (qt [true, true, true, true, true, true]) ⟨pre nl (oB L.length) i ++ [.v (ii kk), x10, .v (.int .i64 (.lit 5)), x12] ++ junk js 145 13, hB ls xs ys c (sb L) (rows L) ++ [(5, some ox)], 8, []⟩ fun x st => x = .normal ∧ ∃ js, st = SB nl ls ys xs c i ((96 + 4 * (k : Int)) :: L) js := by
  refine Tri.preWk (pre' := pre nl (oB L.length) i ++ [.v (.int .i64 (.lit (k : Int))), x10, .v (.int .i64 (.lit 5)), x12]) (hp' := hB ls xs ys c (sb L) (rows L) ++ [(5, some ox)]) (by (repeat' apply And.intro) <;> first | rfl | exact hkk | exact wkS_refl _ | trivial) (wkH_refl _) ?_
  rcases (show k = 0 ∨ k = 1 ∨ k = 2 ∨ k = 3 ∨ k = 4 ∨ k = 5 ∨ k = 6 ∨ k = 7 ∨ k = 8 ∨ k = 9 ∨ k = 10 ∨ k = 11 ∨ k = 12 ∨ k = 13 ∨ k = 14 ∨ k = 15 by omega) with rfl | rfl | rfl | rfl | rfl | rfl | rfl | rfl | rfl | rfl | rfl | rfl | rfl | rfl | rfl | rfl
  · exact uB_0 nl ls ys E hE hT hD hx hc hL hn x10 x12 ox js
  · exact uB_1 nl ls ys E hE hT hD hx hc hL hn x10 x12 ox js
  · exact uB_2 nl ls ys E hE hT hD hx hc hL hn x10 x12 ox js
  · exact uB_3 nl ls ys E hE hT hD hx hc hL hn x10 x12 ox js
  · exact uB_4 nl ls ys E hE hT hD hx hc hL hn x10 x12 ox js
  · exact uB_5 nl ls ys E hE hT hD hx hc hL hn x10 x12 ox js
  · exact uB_6 nl ls ys E hE hT hD hx hc hL hn x10 x12 ox js
  · exact uB_7 nl ls ys E hE hT hD hx hc hL hn x10 x12 ox js
  · exact uB_8 nl ls ys E hE hT hD hx hc hL hn x10 x12 ox js
  · exact uB_9 nl ls ys E hE hT hD hx hc hL hn x10 x12 ox js
  · exact uB_10 nl ls ys E hE hT hD hx hc hL hn x10 x12 ox js
  · exact uB_11 nl ls ys E hE hT hD hx hc hL hn x10 x12 ox js
  · exact uB_12 nl ls ys E hE hT hD hx hc hL hn x10 x12 ox js
  · exact uB_13 nl ls ys E hE hT hD hx hc hL hn x10 x12 ox js
  · exact uB_14 nl ls ys E hE hT hD hx hc hL hn x10 x12 ox js
  · exact uB_15 nl ls ys E hE hT hD hx hc hL hn x10 x12 ox js
theorem sB_all {xs L : List Int} {c i kk : Int} {k : Nat} (hk : k < 16) (hkk : kk = (k : Int)) (hx : xs.length = 160) (hc : 0 ≤ c ∧ c ≤ 100000) (hL : 1 ≤ L.length ∧ L.length ≤ 1000) (hn : (96 + 4 * (k : Int)) ∈ L) (x10 x12 : SV) (ox : VObj MObj) (js : Nat → SV) :
    Tri MS Try.prog E (qt [true, true, true, true, true, true]) ⟨pre nl (oB L.length) i ++ [.v (ii kk), x10, .v (.int .i64 (.lit 1)), x12] ++ junk js 145 13, hB ls xs ys c (sb L) (rows L) ++ [(5, some ox)], 6, []⟩ fun x st => x = .normal ∧ ∃ js, st = SB nl ls ys xs c i L js := by
  refine Tri.preWk (pre' := pre nl (oB L.length) i ++ [.v (.int .i64 (.lit (k : Int))), x10, .v (.int .i64 (.lit 1)), x12]) (hp' := hB ls xs ys c (sb L) (rows L) ++ [(5, some ox)]) (by (repeat' apply And.intro) <;> first | rfl | exact hkk | exact wkS_refl _ | trivial) (wkH_refl _) ?_
  rcases (show k = 0 ∨ k = 1 ∨ k = 2 ∨ k = 3 ∨ k = 4 ∨ k = 5 ∨ k = 6 ∨ k = 7 ∨ k = 8 ∨ k = 9 ∨ k = 10 ∨ k = 11 ∨ k = 12 ∨ k = 13 ∨ k = 14 ∨ k = 15 by omega) with rfl | rfl | rfl | rfl | rfl | rfl | rfl | rfl | rfl | rfl | rfl | rfl | rfl | rfl | rfl | rfl
  · exact sB_0 nl ls ys E hE hT hD hx hc hL hn x10 x12 ox js
  · exact sB_1 nl ls ys E hE hT hD hx hc hL hn x10 x12 ox js
  · exact sB_2 nl ls ys E hE hT hD hx hc hL hn x10 x12 ox js
  · exact sB_3 nl ls ys E hE hT hD hx hc hL hn x10 x12 ox js
  · exact sB_4 nl ls ys E hE hT hD hx hc hL hn x10 x12 ox js
  · exact sB_5 nl ls ys E hE hT hD hx hc hL hn x10 x12 ox js
  · exact sB_6 nl ls ys E hE hT hD hx hc hL hn x10 x12 ox js
  · exact sB_7 nl ls ys E hE hT hD hx hc hL hn x10 x12 ox js
  · exact sB_8 nl ls ys E hE hT hD hx hc hL hn x10 x12 ox js
  · exact sB_9 nl ls ys E hE hT hD hx hc hL hn x10 x12 ox js
  · exact sB_10 nl ls ys E hE hT hD hx hc hL hn x10 x12 ox js
  · exact sB_11 nl ls ys E hE hT hD hx hc hL hn x10 x12 ox js
  · exact sB_12 nl ls ys E hE hT hD hx hc hL hn x10 x12 ox js
  · exact sB_13 nl ls ys E hE hT hD hx hc hL hn x10 x12 ox js
  · exact sB_14 nl ls ys E hE hT hD hx hc hL hn x10 x12 ox js
  · exact sB_15 nl ls ys E hE hT hD hx hc hL hn x10 x12 ox js
end
end Go.Proofs.Ytlkanbgcghjhnaa.GreyOrder
