/- Texts joined: Cells Clear FmO Cln Mn. -/
import Derived.Test.YtacdbnhnhdlmpaaGreatDoorFE39
import Derived.Laws.IdiomCopy
set_option maxRecDepth 100000
set_option maxHeartbeats 40000000
set_option linter.unusedVariables false
set_option linter.unusedSimpArgs false
section
namespace Go.Proofs.YtacdbnhnhdlmpaaGreatDoor.W
open Go.RowKit
variable {α : Type} {enc : α → List Value} {m : Nat}
theorem rows_set (he : ∀ v, (enc v).length = m) (l : List α) (i : Nat) (x : α) (hi : i < l.length) : rows enc (l.set i x) = setAll (rows enc l) (i * m) (enc x) := by
  induction l generalizing i with
  | nil => simp at hi
  | cons y l ih =>
    cases i with
    | zero =>
      rw [Nat.zero_mul]
      simp only [rows, List.set_cons_zero]
      rw [setAll_head _ _ _ (by rw [he, he])]
    | succ i =>
      have := setAll_skip (enc y) (rows enc l) (enc x) (i * m)
      rw [he] at this
      simp only [rows, List.set_cons_succ]
      rw [show (i + 1) * m = m + i * m by rw [Nat.succ_mul]; omega, this, ← ih i (by simpa using hi)]
end Go.Proofs.YtacdbnhnhdlmpaaGreatDoor.W
end
section
namespace Go.Proofs.YtacdbnhnhdlmpaaGreatDoor.W
open Go.RowKit
theorem All.setSls {B : Nat} {w0 : World} (l1 : List Ob) {l2 : List Ob} {g n cap size : Nat} {e : TypeId} : ∀ (vs : List Value) (o : Nat) {w : World} {xs : List Value}, All B w0 (l1 ++ sl e size (.slice (some ⟨g, 0, none⟩) n cap) n xs :: l2) w →
    All B w0 (l1 ++ sl e size (.slice (some ⟨g, 0, none⟩) n cap) n (setAll xs o vs) :: l2) (w.setCells g o vs)
  | [], _, _, _, h => h
  | v :: vs, o, _, _, h => All.setSls l1 vs (o + 1) (h.setSl l1 o v)
theorem setAll_len : ∀ (vs xs : List Value) (o : Nat), (setAll xs o vs).length = xs.length
  | [], _, _ => rfl
  | v :: vs, xs, o => by simp only [setAll]; rw [setAll_len]; simp
theorem setAll_take : ∀ (vs xs : List Value) (o : Nat), (setAll xs o vs).take o = xs.take o
  | [], _, _ => rfl
  | v :: vs, xs, o => by
    simp only [setAll]
    have h := setAll_take vs (xs.set o v) (o + 1)
    have h2 : ∀ (a b : List Value), a.take (o + 1) = b.take (o + 1) → a.take o = b.take o := fun a b h => by
      have := congrArg (List.take o) h
      simpa [List.take_take] using this
    rw [h2 _ _ h, List.take_set_of_le (Nat.le_refl _)]
theorem run_clear_all {P : Program} {t e ty : TypeId} {size : Nat} (ht : P.underlying t = some (.slice e)) {z : Value} (hv : ∀ w, (zeroValue e).run P w = .ok z w) (hz : z.cells.size = size) (hpos : 0 < size) (h1 : ∀ u ∈ z.cells.toList, u.oneCell' = true)
    {B : Nat} {w0 w : World} (l1 : List Ob) {l2 : List Ob} {g n cap i : Nat} {xs : List Value} (h : All B w0 (l1 ++ sl e size (.slice (some ⟨g, 0, none⟩) n cap) n xs :: l2) w) (hi : i < n) (c : Nat) :
    ∃ w' zs, (Builtin.clear_ #[t] ty #[.slice (some ⟨g, i * size, none⟩) (n - i) c]).run P w = .ok (.tuple #[]) w' ∧ zs.length = (n - i) * size ∧ All B w0 (l1 ++ sl e size (.slice (some ⟨g, 0, none⟩) n cap) n (setAll xs (i * size) zs) :: l2) w' := by
  have hown : Own w e size (.slice (some ⟨g, 0, none⟩) n cap) n xs := h.mid
  have hlen : xs.length = n * size := hown.1
  have hzl : (Builtin.zeroCells z.cells (n - i)).toList.length = (n - i) * size := by simp [Builtin.zeroCells, hz]
  have hmul : (n - i) * size + i * size = n * size := by rw [← Nat.add_mul]; congr 1; omega
  have hst := run_storeCells_cells (P := P) g (i * size) (Builtin.zeroCells z.cells (n - i)).toList 0 w
    (fun j hj => by
      rw [hown.cellAt (i * size + 0 + j) (by rw [hzl] at hj; omega), List.getElem?_eq_getElem (by rw [hzl] at hj; omega)]
      rfl)
    (fun j hj => hown.frozenAt _)
    (fun u hu => by
      rw [Builtin.zeroCells, hz] at hu
      simp only [Array.toList_map, Array.toList_range, List.mem_map, List.mem_range] at hu
      obtain ⟨k, hk, rfl⟩ := hu
      have hk' : k % size < z.cells.size := by rw [hz]; exact Nat.mod_lt _ hpos
      rw [getElem!_pos z.cells _ hk']
      exact h1 _ (by simp))
  rw [Nat.add_zero] at hst
  refine ⟨_, (Builtin.zeroCells z.cells (n - i)).toList, ?_, hzl, All.setSls l1 _ _ h⟩
  obtain ⟨m, hm⟩ : ∃ m, n - i = m + 1 := ⟨n - i - 1, by omega⟩
  rw [hm] at hst ⊢
  simp [Builtin.clear_, run_underlying ht, hv, hst]
theorem wpList_clear_all {P : Program} {t e : TypeId} {size : Nat} (ht : P.underlying t = some (.slice e)) {z : Value} (hv : ∀ w, (zeroValue e).run P w = .ok z w) (hz : z.cells.size = size) (hpos : 0 < size) (h1 : ∀ u ∈ z.cells.toList, u.oneCell' = true)
    {B : Nat} {w0 w : World} (l1 : List Ob) {l2 : List Ob} {g n cap i : Nat} {xs : List Value} (h : All B w0 (l1 ++ sl e size (.slice (some ⟨g, 0, none⟩) n cap) n xs :: l2) w) (hi : i < n)
    {ops : Array Oper} {rest : List Oper} {o : Oper} {a : Act} {Q : Exit → Act → World → Prop} (hgd : o.guard = none) (s : Operand) (ho : o.op = .call { callee := .builtin .clear, args := #[s], argTypes := #[t] }) {c : Nat} (hd : a.eval s = .slice (some ⟨g, i * size, none⟩) (n - i) c)
    (hc : ∀ w' zs, All B w0 (l1 ++ sl e size (.slice (some ⟨g, 0, none⟩) n cap) n (setAll xs (i * size) zs) :: l2) w' → wpList P ops Q rest (a.put o.dst (.tuple #[])) w') : wpList P ops Q (o :: rest) a w :=
  wpList_plain hgd fun K hK => by
    obtain ⟨w', zs, hr, _, h2⟩ := run_clear_all (P := P) (ty := o.type) ht hv hz hpos h1 l1 h hi c
    unfold Oper.wp execOp
    simp only [ho, resolve, invoke, builtin, Sem.run_bind, Sem.run_pure, Result.andThen_ok, List.map_toArray, List.map_cons, List.map_nil, hd, hr]
    exact hK _ _ (hc w' zs h2)
theorem All.trunc {B : Nat} {w0 w : World} (l1 : List Ob) {l2 : List Ob} {g n cap size i : Nat} {e : TypeId} {xs : List Value} (h : All B w0 (l1 ++ sl e size (.slice (some ⟨g, 0, none⟩) n cap) n xs :: l2) w) (hi : i ≤ n) :
    All B w0 (l1 ++ sl e size (.slice (some ⟨g, 0, none⟩) i cap) i (xs.take (i * size)) :: l2) w :=
  h.step l1 (o' := sl e size (.slice (some ⟨g, 0, none⟩) i cap) i (xs.take (i * size))) (own_trunc h.mid hi) (Chg.refl _ _) (fun k hk => .inl hk)
end Go.Proofs.YtacdbnhnhdlmpaaGreatDoor.W
end
section
namespace Go.Proofs.YtacdbnhnhdlmpaaGreatDoor.W
open Go.RowKit
def fxO (x : FX) : List Ob := [ro 126 5 x.uv x.t.undo.length (rows encE x.t.undo), ro 126 5 x.rv x.t.redo.length (rows encE x.t.redo)]
end Go.Proofs.YtacdbnhnhdlmpaaGreatDoor.W
end
section
namespace Go.Proofs.YtacdbnhnhdlmpaaGreatDoor.W
open Go.RowKit
theorem Ro.get {w : World} {e : TypeId} {size n : Nat} {a : Addr} {c : Nat} {xs : List Value} (h : Ro w e size (.slice (some a) n c) n xs) : ∀ j u, xs[j]? = some u → w.cell? (a.add j) = some u := by
  intro j u hj
  have hl := h.len
  have hjl := (List.getElem?_eq_some_iff.1 hj).1
  by_cases hn : 0 < n
  · obtain ⟨g, o, cap, e1, _, hc⟩ := h.at_ hn
    cases e1
    rw [Go.WideShapes.add_plain]
    rw [hc j (by omega)]
    exact hj
  · obtain rfl : n = 0 := by omega
    rw [Nat.zero_mul] at hl
    omega
set_option maxRecDepth 100000 in
set_option maxHeartbeats 4000000 in
theorem eclone_any {w : World} {v : Value} {n : Nat} {xs : List Value} (h : Ro w 126 5 v n xs) (h1 : ∀ u ∈ xs, u.oneCell' = true) (hl : n ≤ 1000000) :
    Calls Tryz.prog 94 #[v] w fun e w' => ∃ v', e = .returned v' ∧ w'.ownsRow w.heap.size 126 5 v' n xs ∧ Below w.heap.size w w' := by
  obtain ⟨i0, z0, hi0, hz0, hz1, hz2, hz3⟩ := ET.info etE
  have hq := fun w a n c n' c' => Lib.run_eql_slice_nil (P := Tryz.prog) w 117 126 a n c n' c' Tryz.underlying117
  obtain ⟨a, c, rfl, hnc⟩ := h.shape
  have hxl := h.len
  cases a with
  | none =>
    obtain rfl : n = 0 := by
      rcases h with ⟨h, _⟩ | ⟨g, k, c', cap, pre, e, _⟩
      · exact h
      · cases e
    obtain rfl : xs = [] := List.eq_nil_of_length_eq_zero (by omega)
    clear h
    go_enter Tryz.func94, Tryz.ntmps94
    go_wp2_with fail
    go_ret
    exact ⟨_, rfl, World.ownsRow_nil _ _ _ _, Below.refl _ _⟩
  | some a =>
    have hA := (All.start w).newSlA w.heap.size rfl 126 5 0 [] rfl (by omega)
    have HC := Lib.hid (fun j u (hu : xs[j]? = some u) => (show (w.alloc (.cells ([] : List Value).toArray 126)).cell? (a.add j) = some u from cell_keep ((Below.refl _ w).alloc (Nat.le_refl _) _) (h.get j u hu)))
    have HO := Lib.hid (show (w.alloc (.cells ([] : List Value).toArray 126)).ownsRow w.heap.size 126 5 (.slice (some ⟨w.heap.size, 0, none⟩) 0 0) 0 [] from by
      have : Own _ _ _ _ _ _ := hA.head
      obtain ⟨h1, h2⟩ := this
      refine ⟨h1, ?_⟩
      rcases h2 with ⟨e, _⟩ | ⟨g', cap, cur, e, _, rest⟩
      · cases e
      · cases e; exact .inr ⟨w.heap.size, _, cur, rfl, Nat.le_refl _, rest⟩)
    have H1 := Lib.hid h1
    have HL := Lib.hid hxl
    clear h hA h1
    go_enter Tryz.func94, Tryz.ntmps94
    go_wp2_with (at_builtin; refine wpList_append_own _ rfl _ _ 117 rfl w.heap.size 126 i0 _ 5 56 Tryz.underlying117 hi0 hz0 hz1 hz2 hz3 (by decide) _ 0 _ rfl HO.out _ n _ xs rfl HL.out HC.out H1.out ?c1 ?c2 ?c3 ?_)
    case c1 => unfold maxLen; omega
    case c2 => omega
    case c3 => simp
    intro v' w5 hown5 hgr5 _
    have HW := Lib.hid hown5
    have HB := Lib.hid (show Below w.heap.size w w5 from ((Below.refl _ w).alloc (Nat.le_refl _) _).grown hgr5 (by simp) (fun k hk => by cases hk; exact Nat.le_refl _))
    clear hown5 hgr5
    go_wp2_with fail
    go_ret
    refine ⟨_, rfl, ?_, HB.out⟩
    simpa using HW.out
set_option maxRecDepth 100000 in
set_option maxHeartbeats 4000000 in
theorem fclone_any {w : World} {v : Value} {n : Nat} {xs : List Value} (h : Ro w 119 9 v n xs) (h1 : ∀ u ∈ xs, u.oneCell' = true) (hl : n ≤ 1000000) :
    Calls Tryz.prog 93 #[v] w fun e w' => ∃ v', e = .returned v' ∧ w'.ownsRow w.heap.size 119 9 v' n xs ∧ Below w.heap.size w w' := by
  obtain ⟨i0, z0, hi0, hz0, hz1, hz2, hz3⟩ := ET.info etF
  have hq := fun w a n c n' c' => Lib.run_eql_slice_nil (P := Tryz.prog) w 28 119 a n c n' c' Tryz.underlying28
  obtain ⟨a, c, rfl, hnc⟩ := h.shape
  have hxl := h.len
  cases a with
  | none =>
    obtain rfl : n = 0 := by
      rcases h with ⟨h, _⟩ | ⟨g, k, c', cap, pre, e, _⟩
      · exact h
      · cases e
    obtain rfl : xs = [] := List.eq_nil_of_length_eq_zero (by omega)
    clear h
    go_enter Tryz.func93, Tryz.ntmps93
    go_wp2_with fail
    go_ret
    exact ⟨_, rfl, World.ownsRow_nil _ _ _ _, Below.refl _ _⟩
  | some a =>
    have hA := (All.start w).newSlA w.heap.size rfl 119 9 0 [] rfl (by omega)
    have HC := Lib.hid (fun j u (hu : xs[j]? = some u) => (show (w.alloc (.cells ([] : List Value).toArray 119)).cell? (a.add j) = some u from cell_keep ((Below.refl _ w).alloc (Nat.le_refl _) _) (h.get j u hu)))
    have HO := Lib.hid (show (w.alloc (.cells ([] : List Value).toArray 119)).ownsRow w.heap.size 119 9 (.slice (some ⟨w.heap.size, 0, none⟩) 0 0) 0 [] from by
      have : Own _ _ _ _ _ _ := hA.head
      obtain ⟨h1, h2⟩ := this
      refine ⟨h1, ?_⟩
      rcases h2 with ⟨e, _⟩ | ⟨g', cap, cur, e, _, rest⟩
      · cases e
      · cases e; exact .inr ⟨w.heap.size, _, cur, rfl, Nat.le_refl _, rest⟩)
    have H1 := Lib.hid h1
    have HL := Lib.hid hxl
    clear h hA h1
    go_enter Tryz.func93, Tryz.ntmps93
    go_wp2_with (at_builtin; refine wpList_append_own _ rfl _ _ 28 rfl w.heap.size 119 i0 _ 9 104 Tryz.underlying28 hi0 hz0 hz1 hz2 hz3 (by decide) _ 0 _ rfl HO.out _ n _ xs rfl HL.out HC.out H1.out ?c1 ?c2 ?c3 ?_)
    case c1 => unfold maxLen; omega
    case c2 => omega
    case c3 => simp
    intro v' w5 hown5 hgr5 _
    have HW := Lib.hid hown5
    have HB := Lib.hid (show Below w.heap.size w w5 from ((Below.refl _ w).alloc (Nat.le_refl _) _).grown hgr5 (by simp) (fun k hk => by cases hk; exact Nat.le_refl _))
    clear hown5 hgr5
    go_wp2_with fail
    go_ret
    refine ⟨_, rfl, ?_, HB.out⟩
    simpa using HW.out
end Go.Proofs.YtacdbnhnhdlmpaaGreatDoor.W
end
section
namespace Go.Proofs.YtacdbnhnhdlmpaaGreatDoor.W
open Go.RowKit
def kC (l : List Nat) : List Value := l.map fun (k : Nat) => Value.int .i64 (k : Int)
end Go.Proofs.YtacdbnhnhdlmpaaGreatDoor.W
end
