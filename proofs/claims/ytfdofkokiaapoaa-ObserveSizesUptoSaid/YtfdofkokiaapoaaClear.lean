/- clear on the end of a row that a slice owns; a slice cut short: as objects that lie apart. -/
import Derived.Test.YtfdofkokiaapoaaCells
import Derived.Laws.IdiomCopy
namespace Go.Proofs.Ytfdofkokiaapoaa.W
open Go.RowKit
set_option linter.unusedVariables false

theorem All.setSls {B : Nat} {w0 : World} (l1 : List Ob) {l2 : List Ob} {g n cap size : Nat} {e : TypeId} : ∀ (vs : List Value) (o : Nat) {w : World} {xs : List Value}, All B w0 (l1 ++ sl e size (.slice (some ⟨g, 0, none⟩) n cap) n xs :: l2) w →
    All B w0 (l1 ++ sl e size (.slice (some ⟨g, 0, none⟩) n cap) n (setAll xs o vs) :: l2) (w.setCells g o vs)
  | [], _, _, _, h => h
  | v :: vs, o, _, _, h => All.setSls l1 vs (o + 1) (h.setSl l1 o v)
theorem setAll_len : ∀ (vs xs : List Value) (o : Nat), (setAll xs o vs).length = xs.length
  | [], _, _ => rfl
  | v :: vs, xs, o => by simp only [setAll]; rw [setAll_len]; simp
theorem setAll_take : ∀ (vs xs : List Value) (o : Nat), (setAll xs o vs).take o = xs.take o
  | [], _, _ => rfl
  | v :: vs, xs, o => by
    simp only [setAll]
    have h := setAll_take vs (xs.set o v) (o + 1)
    have h2 : ∀ (a b : List Value), a.take (o + 1) = b.take (o + 1) → a.take o = b.take o := fun a b h => by
      have := congrArg (List.take o) h
      simpa [List.take_take] using this
    rw [h2 _ _ h, List.take_set_of_le (Nat.le_refl _)]
theorem run_clear_all {P : Program} {t e ty : TypeId} {size : Nat} (ht : P.underlying t = some (.slice e)) {z : Value} (hv : ∀ w, (zeroValue e).run P w = .ok z w) (hz : z.cells.size = size) (hpos : 0 < size) (h1 : ∀ u ∈ z.cells.toList, u.oneCell' = true)
    {B : Nat} {w0 w : World} (l1 : List Ob) {l2 : List Ob} {g n cap i : Nat} {xs : List Value} (h : All B w0 (l1 ++ sl e size (.slice (some ⟨g, 0, none⟩) n cap) n xs :: l2) w) (hi : i < n) (c : Nat) :
    ∃ w' zs, (Builtin.clear_ #[t] ty #[.slice (some ⟨g, i * size, none⟩) (n - i) c]).run P w = .ok (.tuple #[]) w' ∧ zs.length = (n - i) * size ∧ All B w0 (l1 ++ sl e size (.slice (some ⟨g, 0, none⟩) n cap) n (setAll xs (i * size) zs) :: l2) w' := by
  have hown : Own w e size (.slice (some ⟨g, 0, none⟩) n cap) n xs := h.mid
  have hlen : xs.length = n * size := hown.1
  have hzl : (Builtin.zeroCells z.cells (n - i)).toList.length = (n - i) * size := by simp [Builtin.zeroCells, hz]
  have hmul : (n - i) * size + i * size = n * size := by rw [← Nat.add_mul]; congr 1; omega
  have hst := run_storeCells_cells (P := P) g (i * size) (Builtin.zeroCells z.cells (n - i)).toList 0 w
    (fun j hj => by
      rw [hown.cellAt (i * size + 0 + j) (by rw [hzl] at hj; omega), List.getElem?_eq_getElem (by rw [hzl] at hj; omega)]
      rfl)
    (fun j hj => hown.frozenAt _)
    (fun u hu => by
      rw [Builtin.zeroCells, hz] at hu
      simp only [Array.toList_map, Array.toList_range, List.mem_map, List.mem_range] at hu
      obtain ⟨k, hk, rfl⟩ := hu
      have hk' : k % size < z.cells.size := by rw [hz]; exact Nat.mod_lt _ hpos
      rw [getElem!_pos z.cells _ hk']
      exact h1 _ (by simp))
  rw [Nat.add_zero] at hst
  refine ⟨_, (Builtin.zeroCells z.cells (n - i)).toList, ?_, hzl, All.setSls l1 _ _ h⟩
  obtain ⟨m, hm⟩ : ∃ m, n - i = m + 1 := ⟨n - i - 1, by omega⟩
  rw [hm] at hst ⊢
  simp [Builtin.clear_, run_underlying ht, hv, hst]
theorem wpList_clear_all {P : Program} {t e : TypeId} {size : Nat} (ht : P.underlying t = some (.slice e)) {z : Value} (hv : ∀ w, (zeroValue e).run P w = .ok z w) (hz : z.cells.size = size) (hpos : 0 < size) (h1 : ∀ u ∈ z.cells.toList, u.oneCell' = true)
    {B : Nat} {w0 w : World} (l1 : List Ob) {l2 : List Ob} {g n cap i : Nat} {xs : List Value} (h : All B w0 (l1 ++ sl e size (.slice (some ⟨g, 0, none⟩) n cap) n xs :: l2) w) (hi : i < n)
    {ops : Array Oper} {rest : List Oper} {o : Oper} {a : Act} {Q : Exit → Act → World → Prop} (hgd : o.guard = none) (s : Operand) (ho : o.op = .call { callee := .builtin .clear, args := #[s], argTypes := #[t] }) {c : Nat} (hd : a.eval s = .slice (some ⟨g, i * size, none⟩) (n - i) c)
    (hc : ∀ w' zs, All B w0 (l1 ++ sl e size (.slice (some ⟨g, 0, none⟩) n cap) n (setAll xs (i * size) zs) :: l2) w' → wpList P ops Q rest (a.put o.dst (.tuple #[])) w') : wpList P ops Q (o :: rest) a w :=
  wpList_plain hgd fun K hK => by
    obtain ⟨w', zs, hr, _, h2⟩ := run_clear_all (P := P) (ty := o.type) ht hv hz hpos h1 l1 h hi c
    unfold Oper.wp execOp
    simp only [ho, resolve, invoke, builtin, Sem.run_bind, Sem.run_pure, Result.andThen_ok, List.map_toArray, List.map_cons, List.map_nil, hd, hr]
    exact hK _ _ (hc w' zs h2)
/-- a slice cut short -/
theorem own_trunc {w : World} {e : TypeId} {size g n cap i : Nat} {xs : List Value} (h : Own w e size (.slice (some ⟨g, 0, none⟩) n cap) n xs) (hi : i ≤ n) : Own w e size (.slice (some ⟨g, 0, none⟩) i cap) i (xs.take (i * size)) := by
  obtain ⟨h1, h2⟩ := h
  have hmul : i * size ≤ n * size := Nat.mul_le_mul_right _ hi
  refine ⟨by rw [List.length_take, h1]; exact Nat.min_eq_left hmul, ?_⟩
  rcases h2 with ⟨h', _⟩ | ⟨g', cap', cur, h', hb, hg, hc, hm, hs, ht⟩
  · simp at h'
  · simp only [Value.slice.injEq, Option.some.injEq, Addr.mk.injEq, and_true, true_and] at h'
    obtain ⟨rfl, rfl⟩ := h'
    refine .inr ⟨g, cap, cur, rfl, hb, hg, by omega, hm, hs, ?_⟩
    rw [← ht, List.take_take, Nat.min_eq_left hmul]
theorem All.trunc {B : Nat} {w0 w : World} (l1 : List Ob) {l2 : List Ob} {g n cap size i : Nat} {e : TypeId} {xs : List Value} (h : All B w0 (l1 ++ sl e size (.slice (some ⟨g, 0, none⟩) n cap) n xs :: l2) w) (hi : i ≤ n) :
    All B w0 (l1 ++ sl e size (.slice (some ⟨g, 0, none⟩) i cap) i (xs.take (i * size)) :: l2) w :=
  h.step l1 (o' := sl e size (.slice (some ⟨g, 0, none⟩) i cap) i (xs.take (i * size))) (own_trunc h.mid hi) (Chg.refl _ _) (fun k hk => .inl hk)
theorem rows_take {α : Type} {enc : α → List Value} {m : Nat} (he : ∀ v, (enc v).length = m) (l : List α) (i : Nat) : (rows enc l).take (i * m) = rows enc (l.take i) := by
  induction l generalizing i with
  | nil => simp [rows]
  | cons x l ih =>
    cases i with
    | zero => simp [rows]
    | succ i =>
      simp only [rows, List.take_succ_cons]
      rw [Nat.succ_mul, Nat.add_comm, ← he x, List.take_length_add_append, he, ih]
end Go.Proofs.Ytfdofkokiaapoaa.W
