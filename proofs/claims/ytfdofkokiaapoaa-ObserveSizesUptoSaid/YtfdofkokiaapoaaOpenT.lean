/- Arguments opened: a slice of triples of bytes. -/
import Derived.Test.YtfdofkokiaapoaaObsF
import Derived.Test.YtfdofkokiaapoaaClose
import Derived.Lib.SmallJoins
import Derived.Deep.Slices
import Derived.Laws.IdiomArrays
namespace Go.Proofs.Ytfdofkokiaapoaa.W
open Go.ChangeShapes Go.WideShapes Go.ChangeAt Go.RowKit Go.Joins Go.Deep
set_option linter.unusedVariables false

section
variable {H : Type} {enc : TypeId × Value → H} {P : Program} {w : World}
theorem byte_in {x : Int} (h : (Lit.int .u8 x).wf = true) : 0 ≤ x ∧ x ≤ 255 := by
  have := bounds_u8 h
  omega
theorem open_tri {r : Reach} {b0 : Nat} {t e u : TypeId} {v : Value} {d : DataW H} {ps : List MemPlace} (ht : P.underlying t = some (.slice e)) (he : P.underlying e = some (.array 3 u)) (hu : P.underlying u = some (.int .u8)) (hc : P.cellsOf u = 1) (hC : P.cellsOf e = 3)
    (hval : Value.okWide P w r b0 t v) (h : DataW.Trod enc P w 0 (fun _ => true) true t v d ps) :
    ∃ A c, ∃ l : List Sz, v = .slice A l.length c ∧ InT w A l ∧ Byt l := by
  obtain ⟨A, n, c, rfl⟩ := okWide_slice ht hval
  obtain ⟨fuel, hf⟩ := h
  rcases open_slice ht hf with ⟨hcs, _⟩ | ⟨a, len, cap, m, k, D, Pl, hcs, _, hl, _, hm, _, hx⟩
  · simp [Value.cells] at hcs
    obtain ⟨rfl, rfl, rfl⟩ := hcs
    exact ⟨none, 0, [], rfl, fun h => absurd h (by simp), fun _ h => by simp at h⟩
  · simp [Value.cells] at hcs
    obtain ⟨rfl, rfl, rfl⟩ := hcs
    simp only [if_true] at hm
    subst hm
    rw [hC] at hx
    have each : ∀ i, ∃ q : Sz, ((0 ≤ q.1 ∧ q.1 ≤ 255) ∧ (0 ≤ q.2.1 ∧ q.2.1 ≤ 255) ∧ (0 ≤ q.2.2 ∧ q.2.2 ≤ 255)) ∧
        (i < n → w.cell? (a.add (i * 3)) = some (.int .u8 q.1) ∧ w.cell? (a.add (i * 3 + 1)) = some (.int .u8 q.2.1) ∧ w.cell? (a.add (i * 3 + 2)) = some (.int .u8 q.2.2)) := by
      intro i
      by_cases hi : i < n
      · obtain ⟨cs, h1, h2⟩ := hx i (by omega)
        obtain ⟨_, hlen, hcell⟩ := World.cells?_some h1
        match cs, hlen with
        | [v0, v1, v2], _ =>
          obtain ⟨y0, y1, y2, n', _, g0, g1, g2⟩ := trod_array3 he hc h2
          obtain ⟨x0, z0, _, w0⟩ := DataW.trod_int hu g0
          obtain ⟨x1, z1, _, w1⟩ := DataW.trod_int hu g1
          obtain ⟨x2, z2, _, w2⟩ := DataW.trod_int hu g2
          simp at z0 z1 z2
          subst z0 z1 z2
          refine ⟨(x0, x1, x2), ⟨byte_in w0, byte_in w1, byte_in w2⟩, fun _ => ⟨?_, ?_, ?_⟩⟩
          · have := hcell 0 (by omega); simpa [Addr.add] using this
          · have := hcell 1 (by omega); rw [Go.Deep.add_add] at this; simpa using this
          · have := hcell 2 (by omega); rw [Go.Deep.add_add] at this; simpa using this
      · exact ⟨(0, 0, 0), by decide, fun h => absurd h hi⟩
    obtain ⟨F, hF⟩ := Classical.axiomOfChoice each
    refine ⟨some a, m, (List.range n).map F, by simp, fun hn => ?_, fun y hy => ?_⟩
    · have hc := fun i hi => (hF i).2 hi
      simp at hn
      clear hF each
      obtain ⟨b, off, el⟩ := a
      have h0 := (hc 0 hn).1
      have hel : el = none := by simpa [Addr.add] using World.cell?_spot h0
      subst hel
      refine ⟨b, off, rfl, ?_, fun i y hy => ?_⟩
      · have := World.block_lt_of_cell? _ _ h0
        rw [Go.WideShapes.add_plain] at this
        exact this
      · have hi : i < n := by have := (List.getElem?_eq_some_iff.1 hy).1; simpa using this
        have he : y = F i := by
          rw [List.getElem?_map, List.getElem?_range hi] at hy
          exact (Option.some.inj hy).symm
        subst he
        obtain ⟨q0, q1, q2⟩ := hc i hi
        rw [Go.WideShapes.add_plain] at q0 q1 q2
        exact ⟨q0, q1, q2⟩
    · obtain ⟨i, _, rfl⟩ := List.mem_map.1 hy
      exact (hF i).1
end
end Go.Proofs.Ytfdofkokiaapoaa.W
