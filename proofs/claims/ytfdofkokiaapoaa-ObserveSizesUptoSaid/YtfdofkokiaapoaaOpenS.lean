/- Arguments opened: steps of a page, within the bound of an '..UptoSaid'. -/
import Derived.Test.YtfdofkokiaapoaaSizA
import Derived.Test.YtfdofkokiaapoaaOpenT
namespace Go.Proofs.Ytfdofkokiaapoaa.W
open Go.ChangeShapes Go.WideShapes Go.ChangeAt Go.RowKit Go.Joins Go.Deep
set_option linter.unusedVariables false

/-! what the bound gives -/
section
variable {H : Type}
theorem bulk_one (d : DataW H) : 1 ≤ Rows.uptoBulk d := by
  cases d with
  | lit l => cases l <;> simp [Rows.uptoBulk]
  | nil => simp [Rows.uptoBulk]
  | ptr d => simp [Rows.uptoBulk]
  | slice elems spare => simp [Rows.uptoBulk]
  | agg parts => simp [Rows.uptoBulk]
  | iface t d => simp [Rows.uptoBulk]
  | map entries => simp [Rows.uptoBulk]
  | held h => simp [Rows.uptoBulk]
theorem bulk_part {d : DataW H} {l : List (DataW H)} (h : d ∈ l) : Rows.uptoBulk d ≤ Rows.uptoBulkAll l := by
  induction l with
  | nil => cases h
  | cons x r ih =>
    simp only [Rows.uptoBulkAll]
    cases List.mem_cons.1 h with
    | inl e => subst e; omega
    | inr e => have := ih e; omega
theorem bulk_len (l : List (DataW H)) : l.length ≤ Rows.uptoBulkAll l := by
  induction l with
  | nil => simp [Rows.uptoBulkAll]
  | cons x r ih => have := bulk_one x; simp only [Rows.uptoBulkAll, List.length_cons]; omega
theorem bulk_slice (elems spare : List (DataW H)) : Rows.uptoBulkAll elems + 1 ≤ Rows.uptoBulk (.slice elems spare) := by
  simp only [Rows.uptoBulk]; omega
theorem bulk_agg (parts : List (DataW H)) : Rows.uptoBulkAll parts ≤ Rows.uptoBulk (.agg parts) := by
  simp only [Rows.uptoBulk]; omega
end

section
variable {H : Type} {enc : TypeId × Value → H} {P : Program} {w : World}
/-- a slice of triples of bytes, by its cell -/
theorem open_triC {t e u : TypeId} {v : Value} {fuel : Nat} {x : DataW H × List MemPlace} (ht : P.underlying t = some (.slice e)) (he : P.underlying e = some (.array 3 u)) (hu : P.underlying u = some (.int .u8)) (hc : P.cellsOf u = 1) (hC : P.cellsOf e = 3)
    (hf : DataW.trod enc P w 0 (fun _ => true) true fuel t [v] = some x) :
    ∃ A c, ∃ l : List Sz, v = .slice A l.length c ∧ InT w A l ∧ Byt l ∧ l.length ≤ Rows.uptoBulk x.1 := by
  rcases open_slice ht hf with ⟨hcs, _⟩ | ⟨a, len, cap, m, k, D, Pl, hcs, _, hl, _, hm, hxx, hx⟩
  · simp at hcs
    subst hcs
    exact ⟨none, 0, [], rfl, fun h => absurd h (by simp), fun _ h => by simp at h, by simp⟩
  · simp at hcs
    subst hcs
    simp only [if_true] at hm
    subst hm
    rw [hC] at hx
    have each : ∀ i, ∃ q : Sz, ((0 ≤ q.1 ∧ q.1 ≤ 255) ∧ (0 ≤ q.2.1 ∧ q.2.1 ≤ 255) ∧ (0 ≤ q.2.2 ∧ q.2.2 ≤ 255)) ∧
        (i < len → w.cell? (a.add (i * 3)) = some (.int .u8 q.1) ∧ w.cell? (a.add (i * 3 + 1)) = some (.int .u8 q.2.1) ∧ w.cell? (a.add (i * 3 + 2)) = some (.int .u8 q.2.2)) := by
      intro i
      by_cases hi : i < len
      · obtain ⟨cs, h1, h2⟩ := hx i (by omega)
        obtain ⟨_, hlen, hcell⟩ := World.cells?_some h1
        match cs, hlen with
        | [v0, v1, v2], _ =>
          obtain ⟨y0, y1, y2, n', _, g0, g1, g2⟩ := trod_array3 he hc h2
          obtain ⟨x0, z0, _, w0⟩ := DataW.trod_int hu g0
          obtain ⟨x1, z1, _, w1⟩ := DataW.trod_int hu g1
          obtain ⟨x2, z2, _, w2⟩ := DataW.trod_int hu g2
          simp at z0 z1 z2
          subst z0 z1 z2
          refine ⟨(x0, x1, x2), ⟨byte_in w0, byte_in w1, byte_in w2⟩, fun _ => ⟨?_, ?_, ?_⟩⟩
          · have := hcell 0 (by omega); simpa [Addr.add] using this
          · have := hcell 1 (by omega); rw [Go.Deep.add_add] at this; simpa using this
          · have := hcell 2 (by omega); rw [Go.Deep.add_add] at this; simpa using this
      · exact ⟨(0, 0, 0), by decide, fun h => absurd h hi⟩
    obtain ⟨F, hF⟩ := Classical.axiomOfChoice each
    refine ⟨some a, m, (List.range len).map F, by simp, fun hn => ?_, fun y hy => ?_, ?_⟩
    · have hc := fun i hi => (hF i).2 hi
      simp at hn
      clear hF each
      obtain ⟨b, off, el⟩ := a
      have h0 := (hc 0 hn).1
      have hel : el = none := by simpa [Addr.add] using World.cell?_spot h0
      subst hel
      refine ⟨b, off, rfl, ?_, fun i y hy => ?_⟩
      · have := World.block_lt_of_cell? _ _ h0
        rw [Go.WideShapes.add_plain] at this
        exact this
      · have hi : i < len := by have := (List.getElem?_eq_some_iff.1 hy).1; simpa using this
        have he : y = F i := by
          rw [List.getElem?_map, List.getElem?_range hi] at hy
          exact (Option.some.inj hy).symm
        subst he
        obtain ⟨q0, q1, q2⟩ := hc i hi
        rw [Go.WideShapes.add_plain] at q0 q1 q2
        exact ⟨q0, q1, q2⟩
    · obtain ⟨i, _, rfl⟩ := List.mem_map.1 hy
      exact (hF i).1
    · rw [hxx]
      have h1 := bulk_slice ((List.range len).map D) ((List.range (m - len)).map fun j => D (len + j))
      have h2 := bulk_len ((List.range len).map D)
      simp at h2 ⊢
      omega
theorem open_steps {r : Reach} {b0 : Nat} {t e e3 u3 : TypeId} {f0 f1 f2 f3 : Field} {v : Value} {d : DataW H} {ps : List MemPlace} (ht : P.underlying t = some (.slice e)) (he : P.underlying e = some (.struct #[f0, f1, f2, f3]))
    (hone : oneCellFields P #[f0, f1, f2, f3] = true) (hC : P.cellsOf e = 4) (e0 : P.underlying f0.type = some (.int .u8)) (e1 : P.underlying f1.type = some (.int .u8)) (e2 : P.underlying f2.type = some (.int .u8))
    (ht3 : P.underlying f3.type = some (.slice e3)) (he3 : P.underlying e3 = some (.array 3 u3)) (hu3 : P.underlying u3 = some (.int .u8)) (hc3 : P.cellsOf u3 = 1) (hC3 : P.cellsOf e3 = 3)
    (hval : Value.okWide P w r b0 t v) (h : DataW.Trod enc P w 0 (fun _ => true) true t v d ps) (hb : Rows.uptoBulk d ≤ 1048576) :
    ∃ A c, ∃ l : List Stp, v = .slice A l.length c ∧ InSt w A l := by
  obtain ⟨A, n, c, rfl⟩ := okWide_slice ht hval
  obtain ⟨fuel, hf⟩ := h
  rcases open_slice ht hf with ⟨hcs, _⟩ | ⟨a, len, cap, m, k, D, Pl, hcs, _, hl, _, hm, hxx, hx⟩
  · simp [Value.cells] at hcs
    obtain ⟨rfl, rfl, rfl⟩ := hcs
    exact ⟨none, 0, [], rfl, fun h => absurd h (by simp), fun _ h => by simp at h⟩
  · simp [Value.cells] at hcs
    obtain ⟨rfl, rfl, rfl⟩ := hcs
    simp only [if_true] at hm
    subst hm
    rw [hC] at hx
    have hD : d = .slice ((List.range n).map D) ((List.range (m - n)).map fun j => D (n + j)) := congrArg Prod.fst hxx
    have each : ∀ i, ∃ q : Stp, (InT w q.A q.L ∧ Byt q.L ∧ q.L.length ≤ 2000000 ∧ (0 ≤ q.kd ∧ q.kd ≤ 255) ∧ (0 ≤ q.sz ∧ q.sz ≤ 255) ∧ (0 ≤ q.nd ∧ q.nd ≤ 255)) ∧
        (i < n → w.cell? (a.add (i * 4)) = some (.int .u8 q.kd) ∧ w.cell? (a.add (i * 4 + 1)) = some (.int .u8 q.sz) ∧ w.cell? (a.add (i * 4 + 2)) = some (.int .u8 q.nd) ∧ w.cell? (a.add (i * 4 + 3)) = some (.slice q.A q.L.length q.c)) := by
      intro i
      by_cases hi : i < n
      · obtain ⟨cs, h1, h2⟩ := hx i (by omega)
        obtain ⟨_, hlen, hcell⟩ := World.cells?_some h1
        obtain ⟨o0, k0⟩ := hone_of hone 0 f0 rfl
        obtain ⟨o1, k1⟩ := hone_of hone 1 f1 rfl
        obtain ⟨o2, k2⟩ := hone_of hone 2 f2 rfl
        obtain ⟨o3, k3⟩ := hone_of hone 3 f3 rfl
        obtain ⟨xs, k', _, hxs, _, hxl, hg⟩ := DataW.trod_struct he h2
        match xs, hxl, cs, hlen, hxs with
        | [y0, y1, y2, y3], _, [v0, v1, v2, v3], _, hxs =>
          have g0 := hg 0 f0 rfl
          have g1 := hg 1 f1 rfl
          have g2 := hg 2 f2 rfl
          have g3 := hg 3 f3 rfl
          simp [o0, o1, o2, o3, k0, k1, k2, k3] at g0 g1 g2 g3
          obtain ⟨x0, z0, _, w0⟩ := DataW.trod_int e0 g0
          obtain ⟨x1, z1, _, w1⟩ := DataW.trod_int e1 g1
          obtain ⟨x2, z2, _, w2⟩ := DataW.trod_int e2 g2
          obtain ⟨B, c3, L, rfl, hI, hBy, hlb⟩ := open_triC ht3 he3 hu3 hc3 hC3 g3
          simp at z0 z1 z2
          subst z0 z1 z2
          have hDi : D i = .agg [y0.1, y1.1, y2.1, y3.1] := congrArg Prod.fst hxs
          have hbi : Rows.uptoBulk (D i) ≤ Rows.uptoBulkAll ((List.range n).map D) := bulk_part (List.mem_map.2 ⟨i, List.mem_range.2 hi, rfl⟩)
          have hb3 : Rows.uptoBulk y3.1 ≤ Rows.uptoBulkAll [y0.1, y1.1, y2.1, y3.1] := bulk_part (by simp)
          have hba := bulk_agg [y0.1, y1.1, y2.1, y3.1]
          have hbs := bulk_slice ((List.range n).map D) ((List.range (m - n)).map fun j => D (n + j))
          rw [← hD] at hbs
          rw [hDi] at hbi
          refine ⟨⟨x0, x1, x2, B, L, c3⟩, ⟨hI, hBy, by simp only; omega, byte_in w0, byte_in w1, byte_in w2⟩, fun _ => ⟨?_, ?_, ?_, ?_⟩⟩
          · have := hcell 0 (by omega); simpa [Addr.add] using this
          · have := hcell 1 (by omega); rw [Go.Deep.add_add] at this; simpa using this
          · have := hcell 2 (by omega); rw [Go.Deep.add_add] at this; simpa using this
          · have := hcell 3 (by omega); rw [Go.Deep.add_add] at this; simpa using this
      · exact ⟨⟨0, 0, 0, none, [], 0⟩, ⟨fun h => absurd h (by simp), fun _ h => by simp at h, by simp, by simp, by simp, by simp⟩, fun h => absurd h hi⟩
    obtain ⟨F, hF⟩ := Classical.axiomOfChoice each
    refine ⟨some a, m, (List.range n).map F, by simp, fun hn => ?_, fun y hy => ?_⟩
    · have hc := fun i hi => (hF i).2 hi
      simp at hn
      clear hF each
      obtain ⟨b, off, el⟩ := a
      have h0 := (hc 0 hn).1
      have hel : el = none := by simpa [Addr.add] using World.cell?_spot h0
      subst hel
      refine ⟨b, off, rfl, ?_, fun i y hy => ?_⟩
      · have := World.block_lt_of_cell? _ _ h0
        rw [Go.WideShapes.add_plain] at this
        exact this
      · have hi : i < n := by have := (List.getElem?_eq_some_iff.1 hy).1; simpa using this
        have he : y = F i := by
          rw [List.getElem?_map, List.getElem?_range hi] at hy
          exact (Option.some.inj hy).symm
        subst he
        obtain ⟨q0, q1, q2, q3⟩ := hc i hi
        rw [Go.WideShapes.add_plain] at q0 q1 q2 q3
        exact ⟨q0, q1, q2, q3⟩
    · obtain ⟨i, _, rfl⟩ := List.mem_map.1 hy
      exact (hF i).1
end
end Go.Proofs.Ytfdofkokiaapoaa.W
