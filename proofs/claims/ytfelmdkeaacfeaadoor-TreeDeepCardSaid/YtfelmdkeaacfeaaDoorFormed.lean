/- The contract of formed at the nodes of TreeDeep's trees. -/
import Derived.Test.YtfelmdkeaacfeaaDoorWhole
import Derived.Test.YtfelmdkeaacfeaaDoorElem
namespace Go.Proofs.YtfelmdkeaacfeaaDoor.W
open Go.RowKit
set_option linter.unusedVariables false
set_option linter.unusedSimpArgs false

set_option maxRecDepth 100000 in
set_option maxHeartbeats 4000000 in
theorem formed_pln {w : World} {a b : Nat} {c : UInt8} (hc : Ltr c) (c0 : w.cell? ⟨a, b + 0, none⟩ = some (.int .i64 2)) (c1 : w.cell? ⟨a, b + 1, none⟩ = some (.string ⟨#[c]⟩)) (c2 : w.cell? ⟨a, b + 2, none⟩ = some (.slice none 0 0)) (c3 : w.cell? ⟨a, b + 3, none⟩ = some (.string ⟨#[]⟩)) :
    Calls Tryd.prog 39 #[.pointer (some ⟨a, b, none⟩)] w fun e w' => e = .returned (.bool true) ∧ Below w.heap.size w w' := by
  have HE := Lib.hid (elementName_one c hc)
  clear hc
  rw [Nat.add_zero] at c0
  go_enter Tryd.func39, Tryd.ntmps39
  go_wp2_with fail
  refine (HE.out _).mono ?_
  rintro e w1 ⟨rfl, hb1⟩
  have e2 := cell_keep hb1 c2
  go_wp2_with fail
  refine (attrs_nil _).mono ?_
  rintro e w2 ⟨rfl, hb2⟩
  have e3 := cell_keep hb2 e2
  have hB2 := bthen hb1 hb2
  go_wp2_with fail
  refine (containsFunc_nil _ _).mono ?_
  rintro e w3 ⟨rfl, hw⟩
  rw [hw]
  clear hw
  go_wp2_with fail
  go_ret
  exact ⟨rfl, hB2⟩
set_option maxRecDepth 100000 in
set_option maxHeartbeats 4000000 in
theorem formed_doc {w : World} {a b : Nat} (c0 : w.cell? ⟨a, b + 0, none⟩ = some (.int .i64 1)) (c1 : w.cell? ⟨a, b + 1, none⟩ = some (.string ⟨#[]⟩)) (c2 : w.cell? ⟨a, b + 2, none⟩ = some (.slice none 0 0)) (c3 : w.cell? ⟨a, b + 3, none⟩ = some (.string ⟨#[]⟩)) (c4 : w.cell? ⟨a, b + 4, none⟩ = some (.int .i64 0)) :
    Calls Tryd.prog 39 #[.pointer (some ⟨a, b, none⟩)] w fun e w' => e = .returned (.bool true) ∧ Below w.heap.size w w' := by
  rw [Nat.add_zero] at c0
  go_enter Tryd.func39, Tryd.ntmps39
  go_wp2_with fail
  go_ret
  exact ⟨rfl, Below.refl _ _⟩
theorem formed_dp {B R g cap : Nat} {S : Tr} {fv : Value} {K : Nat → List Nat} {d : Nat → Nat} (hD : Dp S K d) (i : Nat) (n : Nd) (hi : S.at i = some n) (w : World) (h : TAt B R S (.slice (some ⟨g, 0, none⟩) S.slots.length cap) fv w) :
    Calls Tryd.prog 39 #[.pointer (some (na g i))] w fun e w' => e = .returned (.bool true) ∧ Below w.heap.size w w' := by
  have c0 := nd_cell h hi 0 (by omega)
  have c1 := nd_cell h hi 1 (by omega)
  have c2 := nd_cell h hi 2 (by omega)
  have c3 := nd_cell h hi 3 (by omega)
  have c4 := nd_cell h hi 4 (by omega)
  simp only [ndC, List.getElem?_cons_succ, List.getElem?_cons_zero, strV] at c0 c1 c2 c3 c4
  by_cases e : i = 0
  · subst e
    obtain ⟨m, hm, h1, h2, h3, h4, h5⟩ := hD.doc
    rw [hi] at hm
    cases hm
    rw [h1] at c0
    rw [h2] at c1
    rw [h3] at c2
    rw [h5] at c3
    rw [(hD.lk.top 0 n hi hD.top).1] at c4
    exact formed_doc c0 c1 c2 c3 c4
  · obtain ⟨h1, h2, h3, h4, h5⟩ := hD.el i n e hi
    rw [h1] at c0
    rw [h3] at c2
    rw [h5] at c3
    obtain ⟨c, hc, h2⟩ := h2
    rw [h2] at c1
    exact formed_pln hc c0 c1 c2 c3
end Go.Proofs.YtfelmdkeaacfeaaDoor.W
