/- Arguments opened: a slice of integers, an array of three. -/
import Derived.Test.YtabmmampgmcibaaFilled
import Derived.Test.YtabmmampgmcibaaClose
import Derived.Laws.IdiomArrays
namespace Go.Proofs.Ytabmmampgmcibaa.W
open Go.ChangeShapes Go.WideShapes Go.ChangeAt Go.RowKit Go.Joins

section
variable {H : Type} {enc : TypeId × Value → H} {P : Program} {w : World}
theorem open_in {r : Reach} {b0 : Nat} {t e : TypeId} {k : IntKind} {v : Value} {d : DataW H} {ps : List MemPlace} (ht : P.underlying t = some (.slice e)) (he : P.underlying e = some (.int k)) (hc : P.cellsOf e = 1) (hz : (Lit.int k 0).wf = true)
    (hval : Value.okWide P w r b0 t v) (h : DataW.Trod enc P w 0 (fun _ => true) true t v d ps) :
    ∃ A n c, ∃ f : Nat → Int, v = .slice A n c ∧ In w A n (fun j => .int k (f j)) ∧ ∀ j, (Lit.int k (f j)).wf = true := by
  obtain ⟨A, n, c, rfl⟩ := okWide_slice ht hval
  obtain ⟨fuel, hf⟩ := h
  rcases open_ints ht he hc hf with ⟨hcs, _⟩ | ⟨a, len, cap, zs, hcs, _, hl, _, hzl, _, hcell, hwf⟩
  · simp [Value.cells] at hcs
    obtain ⟨rfl, rfl, rfl⟩ := hcs
    exact ⟨none, 0, 0, fun _ => 0, rfl, fun h => absurd h (by omega), fun _ => hz⟩
  · simp [Value.cells] at hcs
    obtain ⟨rfl, rfl, rfl⟩ := hcs
    simp only [if_true] at hzl
    refine ⟨some a, n, c, fun j => zs.getD j 0, rfl, fun hn => ?_, fun j => ?_⟩
    · obtain ⟨b, off, rfl, hc⟩ := ints_at hcell (by omega)
      exact ⟨b, off, rfl, World.block_lt_of_cell? _ _ (hc 0 (by omega)), fun j hj => hc j (by omega)⟩
    · show (Lit.int k (zs.getD j 0)).wf = true
      by_cases hj : j < zs.length
      · rw [List.getD_eq_getElem?_getD, List.getElem?_eq_getElem hj]
        exact hwf _ (List.getElem_mem hj)
      · rw [List.getD_eq_getElem?_getD, List.getElem?_eq_none (by omega)]
        exact hz
theorem okWide_arr {r : Reach} {b0 : Nat} {t e : TypeId} {n : Nat} {v : Value} (ht : P.underlying t = some (.array n e)) (h : Value.okWide P w r b0 t v) : ∃ cs, v = .agg cs ∧ cs.size = P.cellsOf t := by
  simp only [Value.okWide, ht] at h
  obtain ⟨cs, h1, h2, _⟩ := h
  exact ⟨cs, h1, h2⟩
theorem open_arr3 {r : Reach} {b0 : Nat} {t e : TypeId} {k : IntKind} {v : Value} {d : DataW H} {ps : List MemPlace} (ht : P.underlying t = some (.array 3 e)) (he : P.underlying e = some (.int k)) (hc : P.cellsOf e = 1) (hC : P.cellsOf t = 3)
    (hval : Value.okWide P w r b0 t v) (h : DataW.Trod enc P w 0 (fun _ => true) true t v d ps) :
    ∃ x y z, v = .agg #[.int k x, .int k y, .int k z] ∧ (Lit.int k x).wf = true ∧ (Lit.int k y).wf = true ∧ (Lit.int k z).wf = true := by
  obtain ⟨cs, rfl, hsz⟩ := okWide_arr ht hval
  obtain ⟨c0, c1, c2, rfl⟩ := array3 (hsz.trans hC)
  obtain ⟨fuel, hf⟩ := h
  obtain ⟨y0, y1, y2, n, _, h0, h1, h2⟩ := trod_array3 ht hc (by simpa [Value.cells] using hf)
  obtain ⟨x, e0, _, w0⟩ := DataW.trod_int he h0
  obtain ⟨y, e1, _, w1⟩ := DataW.trod_int he h1
  obtain ⟨z, e2, _, w2⟩ := DataW.trod_int he h2
  simp at e0 e1 e2
  subst e0 e1 e2
  exact ⟨x, y, z, rfl, w0, w1, w2⟩
end
end Go.Proofs.Ytabmmampgmcibaa.W
