/- Texts joined: Tre Set SetA Cells Mn Doc TwB Clear DropA. -/
import Derived.Test.YtacdbnhnhdlmpaaGreatDoorFB34
import Derived.Laws.IdiomCopy
set_option maxRecDepth 100000
set_option maxHeartbeats 40000000
set_option linter.unusedVariables false
set_option linter.unusedSimpArgs false
section
namespace Go.Proofs.YtacdbnhnhdlmpaaGreatDoor.W
open Go.RowKit
theorem rowC_len (l : List (Option Nd)) : (rowC l).length = l.length * 10 := by
  induction l with
  | nil => rfl
  | cons x l ih => rw [rowC, List.flatMap_cons, List.length_append, slotC_len, List.length_cons]; unfold rowC at ih; omega
end Go.Proofs.YtacdbnhnhdlmpaaGreatDoor.W
end
section
namespace Go.Proofs.YtacdbnhnhdlmpaaGreatDoor.W
open Go.RowKit
theorem hd_put (S : Tr) (i : Nat) (n : Nd) (k : Nat) : (S.put i n).hd k = S.hd k := rfl
end Go.Proofs.YtacdbnhnhdlmpaaGreatDoor.W
end
section
namespace Go.Proofs.YtacdbnhnhdlmpaaGreatDoor.W
open Go.RowKit
theorem TAt.setAv {B R g cap : Nat} {S : Tr} {fv : Value} {w w' : World} (h : TAt B R S (.slice (some ⟨g, 0, none⟩) S.slots.length cap) fv w) {i : Nat} {n : Nd} (hi : S.at i = some n) (v : Value) (l : List Atr)
    (k : Chg (fun k => k = g) w w') (hs : w'.ownsRow B 182 10 (.slice (some ⟨g, 0, none⟩) S.slots.length cap) S.slots.length ((rowC S.slots).set (i * 10 + 1 + 2) v)) (ha : AttrAt B w' v l) :
    TAt B R (S.put i { n with av := v, attrs := l }) (.slice (some ⟨g, 0, none⟩) (S.put i { n with av := v, attrs := l }).slots.length cap) fv w' := by
  have hlt := at_lt hi
  have hlen : (S.put i { n with av := v, attrs := l }).slots.length = S.slots.length := by unfold Tr.put; simp
  obtain ⟨cur, hg⟩ : ∃ cur, w.heap[g]? = some (.cells cur 182 (0, 0)) := by
    rcases h.slots.2 with ⟨e, _⟩ | ⟨g', cap', cur, e, _, hh, _⟩
    · cases e
    · cases e; exact ⟨cur, hh⟩
  have other : ∀ {k : Nat} {cs : Array Value} {t : TypeId}, w.heap[k]? = some (.cells cs t (0, 0)) → 182 ≠ t → w'.heap[k]? = w.heap[k]? := fun hk ht => k.block _ (lt_of_block hk) (fun e => blk_ne hg hk ht e.symm)
  rw [hlen]
  refine ⟨?_, ?_, ?_, ?_, h.base, by rw [hlen]; exact h.few⟩
  · have := h.blk.kept (other h.blk (by decide))
    rw [live_put hi]
    exact this
  · rw [hlen]
    have e : rowC (S.put i { n with av := v, attrs := l }).slots = (rowC S.slots).set (i * 10 + 1 + 2) v := by
      have := rowC_set S.slots i (some { n with av := v, attrs := l }) hlt (1 + 2) v (by omega) (some n) (at_slot hi) rfl
      rw [← Nat.add_assoc] at this
      exact this
    rw [e]
    exact hs
  · obtain ⟨h1, h2⟩ := h.free
    refine ⟨h1, h2.imp id fun ⟨g', cap', cur', e1, e2, e3, rest⟩ => ⟨g', cap', cur', e1, e2, (other e3 (by decide)).trans e3, rest⟩⟩
  · intro k m hk
    have hcase : (k = i ∧ m = { n with av := v, attrs := l }) ∨ S.slots[k]? = some (some m) := by
      unfold Tr.put at hk
      simp only [] at hk
      by_cases e : i = k
      · subst e
        rw [List.getElem?_set_self hlt] at hk
        left; exact ⟨rfl, by simpa using hk.symm⟩
      · rw [List.getElem?_set_ne e] at hk
        right; exact hk
    rcases hcase with ⟨rfl, rfl⟩ | hk
    · exact ha
    · obtain ⟨a, cp, e, hx⟩ := h.attrs k m hk
      exact ⟨a, cp, e, hx.imp id fun ⟨g', cur', e1, e2, e3, e4⟩ => ⟨g', cur', e1, e2, (other e3 (by decide)).trans e3, e4⟩⟩
theorem nmOf_cases (l : List Atr) (x : List UInt8) : nmOf l x = -1 ∨ ∃ (k : Nat) (y : Atr), nmOf l x = (k : Int) ∧ l[k]? = some y := by
  unfold nmOf
  cases e : l.findIdx? (fun y => y.1 == x) with
  | none => exact .inl rfl
  | some k =>
    rw [List.findIdx?_eq_some_iff_getElem] at e
    exact .inr ⟨k, _, rfl, List.getElem?_eq_getElem e.1⟩
theorem attrC_set (l : List Atr) (k : Nat) (y : Atr) (hy : l[k]? = some y) (v : List UInt8) : attrC (l.set k (y.1, v)) = (attrC l).set (2 * k + 1) (strV v) := by
  induction l generalizing k with
  | nil => simp at hy
  | cons x l ih =>
    cases k with
    | zero => simp at hy; subst hy; rfl
    | succ k =>
      have := ih k (by simpa using hy)
      rw [List.set_cons_succ]
      show atC x ++ attrC (l.set k (y.1, v)) = (atC x ++ attrC l).set (2 * (k + 1) + 1) (strV v)
      rw [this, List.set_append_right _ _ (by show 2 ≤ _; omega)]
      show _ = atC x ++ (attrC l).set (2 * (k + 1) + 1 - 2) (strV v)
      congr 2
theorem own_low' {w : World} {B e sz n : Nat} {v : Value} {xs : List Value} (h : w.ownsRow B e sz v n xs) : w.ownsRow B e sz v n xs := h
theorem rc_new (w : World) (c : List Value) {B : Nat} (hB : B ≤ w.heap.size) (hc : c.length = 11) : RcAt (w.alloc (.cells c.toArray 152)) B (.slice (some ⟨w.heap.size, 0, none⟩) 1 1) [c] := by
  obtain ⟨h1, h2⟩ := own_at (n := 1) (size := 11) (Blk.new w c 152) (by omega) (by omega)
  refine ⟨by simpa using h1, ?_⟩
  rcases h2 with ⟨e, _⟩ | ⟨g', cap, cur, e, _, rest⟩
  · cases e
  · cases e; exact .inr ⟨w.heap.size, _, cur, rfl, hB, by simpa using rest⟩
end Go.Proofs.YtacdbnhnhdlmpaaGreatDoor.W
end
section
namespace Go.Proofs.YtacdbnhnhdlmpaaGreatDoor.W
open Go.RowKit
variable {α : Type} {enc : α → List Value} {m : Nat}
theorem rows_set (he : ∀ v, (enc v).length = m) (l : List α) (i : Nat) (x : α) (hi : i < l.length) : rows enc (l.set i x) = setAll (rows enc l) (i * m) (enc x) := by
  induction l generalizing i with
  | nil => simp at hi
  | cons y l ih =>
    cases i with
    | zero =>
      rw [Nat.zero_mul]
      simp only [rows, List.set_cons_zero]
      rw [setAll_head _ _ _ (by rw [he, he])]
    | succ i =>
      have := setAll_skip (enc y) (rows enc l) (enc x) (i * m)
      rw [he] at this
      simp only [rows, List.set_cons_succ]
      rw [show (i + 1) * m = m + i * m by rw [Nat.succ_mul]; omega, this, ← ih i (by simpa using hi)]
end Go.Proofs.YtacdbnhnhdlmpaaGreatDoor.W
end
section
namespace Go.Proofs.YtacdbnhnhdlmpaaGreatDoor.W
open Go.RowKit
def lv (M : List MN) (i : Nat) : Option MN := match M[i]? with | some m => if m.gone then none else some m | none => none
end Go.Proofs.YtacdbnhnhdlmpaaGreatDoor.W
end
section
namespace Go.Proofs.YtacdbnhnhdlmpaaGreatDoor.W
open Go.RowKit
theorem Lk.put {S : Tr} {K d} (h : Lk S K d) {i : Nat} {n n' : Nd} (hi : S.at i = Option.some n) (h1 : n'.parent = n.parent) (h2 : n'.first = n.first) (h3 : n'.last = n.last) (h4 : n'.prev = n.prev) (h5 : n'.next = n.next) : Lk (S.put i n') K d := by
  have hO' : ∀ o, hO (S.put i n') o = hO S o := fun o => by cases o <;> rfl
  have hsome : ∀ x, ((S.put i n').at x).isSome = (S.at x).isSome := fun x => by
    rw [at_put hi]
    by_cases e : x = i
    · subst e; rw [if_pos rfl, hi]; rfl
    · rw [if_neg e]
  have back : ∀ {x m}, (S.put i n').at x = Option.some m → ∃ m0, S.at x = Option.some m0 ∧ m.parent = m0.parent ∧ m.first = m0.first ∧ m.last = m0.last ∧ m.prev = m0.prev ∧ m.next = m0.next := fun {x m} hx => by
    rw [at_put hi] at hx
    by_cases e : x = i
    · subst e
      rw [if_pos rfl] at hx
      cases hx
      exact ⟨n, hi, h1, h2, h3, h4, h5⟩
    · rw [if_neg e] at hx
      exact ⟨m, hx, rfl, rfl, rfl, rfl, rfl⟩
  refine ⟨fun p k hk => by rw [hsome, hsome]; exact h.kin p k hk, ?_, ?_, ?_, h.nodup, h.dep, fun x hx hp => h.one x (by rw [hsome] at hx; exact hx) hp, h.low, by rw [put_len]; exact h.few⟩
  · intro x m hx
    obtain ⟨m0, e0, e1, e2, e3, e4, e5⟩ := back hx
    rw [hO', hO', e2, e3]
    exact h.node x m0 e0
  · intro p j k m hk hm
    obtain ⟨m0, e0, e1, e2, e3, e4, e5⟩ := back hm
    rw [hO', hO', hd_put, e1, e4, e5]
    exact h.kid p j k m0 hk e0
  · intro x m hx hp
    obtain ⟨m0, e0, e1, e2, e3, e4, e5⟩ := back hx
    rw [e1, e4, e5]
    exact h.top x m0 e0 hp
end Go.Proofs.YtacdbnhnhdlmpaaGreatDoor.W
end
section
namespace Go.Proofs.YtacdbnhnhdlmpaaGreatDoor.W
open Go.RowKit
section
variable {ex : Prop} {E : Nat → Prop} {c : Nat} {S S' : Tr} {K : Nat → List Nat} {d : Nat → Nat} {M : List MN} {σ : Nat → Nat}
/-! ### links -/
/-! ### contents -/
theorem TrOk.put (T : TrOk c S K d) {i : Nat} {n n' : Nd} (hi : S.at i = some n) (h0 : n'.kind = n.kind) (h1 : n'.parent = n.parent) (h2 : n'.first = n.first) (h3 : n'.last = n.last) (h4 : n'.prev = n.prev) (h5 : n'.next = n.next) (hn : NdOk c n') : TrOk c (S.put i n') K d := by
  have back : ∀ {x m}, (S.put i n').at x = some m → ∃ m0, S.at x = some m0 ∧ m0.kind = m.kind := fun {x m} hx => by
    rw [at_put hi] at hx
    by_cases e : x = i
    · subst e; rw [if_pos rfl] at hx; cases hx; exact ⟨n, hi, h0.symm⟩
    · rw [if_neg e] at hx; exact ⟨m, hx, rfl⟩
  have hil := at_lt hi
  refine ⟨T.lk.put hi h1 h2 h3 h4 h5, fun x m hx => ?_, fun p np hp => ?_, fun k hk => ?_, T.frnd, T.root, ?_, fun x m hx h0' => ?_, T.nodoc⟩
  · rw [at_put hi] at hx
    by_cases e : x = i
    · rw [if_pos e] at hx; cases hx; exact hn
    · rw [if_neg e] at hx; exact T.nd x m hx
  · obtain ⟨m0, h6, h7⟩ := back hp
    exact (T.fam p m0 h6).sub h7.symm (fun k hk => hk) (fun k n'' hk => back hk)
  · have := T.fr k hk
    show (S.slots.set i (some n'))[k]? = some none
    rw [List.getElem?_set_ne (fun e => by subst e; rw [at_slot hi] at this; cases this)]; exact this
  · obtain ⟨n0, h6, h7⟩ := T.doc
    by_cases e : (0 : Nat) = i
    · subst e
      rw [hi] at h6; cases h6
      exact ⟨n', by rw [at_put hi, if_pos rfl], h0.trans h7⟩
    · exact ⟨n0, by rw [at_put hi, if_neg e]; exact h6, h7⟩
  · obtain ⟨m0, h6, h7⟩ := back hx
    rw [← h7]; exact T.other x m0 h6 h0'
end
end Go.Proofs.YtacdbnhnhdlmpaaGreatDoor.W
end
section
namespace Go.Proofs.YtacdbnhnhdlmpaaGreatDoor.W
open Go.RowKit
theorem All.setSls {B : Nat} {w0 : World} (l1 : List Ob) {l2 : List Ob} {g n cap size : Nat} {e : TypeId} : ∀ (vs : List Value) (o : Nat) {w : World} {xs : List Value}, All B w0 (l1 ++ sl e size (.slice (some ⟨g, 0, none⟩) n cap) n xs :: l2) w →
    All B w0 (l1 ++ sl e size (.slice (some ⟨g, 0, none⟩) n cap) n (setAll xs o vs) :: l2) (w.setCells g o vs)
  | [], _, _, _, h => h
  | v :: vs, o, _, _, h => All.setSls l1 vs (o + 1) (h.setSl l1 o v)
theorem setAll_len : ∀ (vs xs : List Value) (o : Nat), (setAll xs o vs).length = xs.length
  | [], _, _ => rfl
  | v :: vs, xs, o => by simp only [setAll]; rw [setAll_len]; simp
theorem setAll_take : ∀ (vs xs : List Value) (o : Nat), (setAll xs o vs).take o = xs.take o
  | [], _, _ => rfl
  | v :: vs, xs, o => by
    simp only [setAll]
    have h := setAll_take vs (xs.set o v) (o + 1)
    have h2 : ∀ (a b : List Value), a.take (o + 1) = b.take (o + 1) → a.take o = b.take o := fun a b h => by
      have := congrArg (List.take o) h
      simpa [List.take_take] using this
    rw [h2 _ _ h, List.take_set_of_le (Nat.le_refl _)]
theorem run_clear_all {P : Program} {t e ty : TypeId} {size : Nat} (ht : P.underlying t = some (.slice e)) {z : Value} (hv : ∀ w, (zeroValue e).run P w = .ok z w) (hz : z.cells.size = size) (hpos : 0 < size) (h1 : ∀ u ∈ z.cells.toList, u.oneCell' = true)
    {B : Nat} {w0 w : World} (l1 : List Ob) {l2 : List Ob} {g n cap i : Nat} {xs : List Value} (h : All B w0 (l1 ++ sl e size (.slice (some ⟨g, 0, none⟩) n cap) n xs :: l2) w) (hi : i < n) (c : Nat) :
    ∃ w' zs, (Builtin.clear_ #[t] ty #[.slice (some ⟨g, i * size, none⟩) (n - i) c]).run P w = .ok (.tuple #[]) w' ∧ zs.length = (n - i) * size ∧ All B w0 (l1 ++ sl e size (.slice (some ⟨g, 0, none⟩) n cap) n (setAll xs (i * size) zs) :: l2) w' := by
  have hown : Own w e size (.slice (some ⟨g, 0, none⟩) n cap) n xs := h.mid
  have hlen : xs.length = n * size := hown.1
  have hzl : (Builtin.zeroCells z.cells (n - i)).toList.length = (n - i) * size := by simp [Builtin.zeroCells, hz]
  have hmul : (n - i) * size + i * size = n * size := by rw [← Nat.add_mul]; congr 1; omega
  have hst := run_storeCells_cells (P := P) g (i * size) (Builtin.zeroCells z.cells (n - i)).toList 0 w
    (fun j hj => by
      rw [hown.cellAt (i * size + 0 + j) (by rw [hzl] at hj; omega), List.getElem?_eq_getElem (by rw [hzl] at hj; omega)]
      rfl)
    (fun j hj => hown.frozenAt _)
    (fun u hu => by
      rw [Builtin.zeroCells, hz] at hu
      simp only [Array.toList_map, Array.toList_range, List.mem_map, List.mem_range] at hu
      obtain ⟨k, hk, rfl⟩ := hu
      have hk' : k % size < z.cells.size := by rw [hz]; exact Nat.mod_lt _ hpos
      rw [getElem!_pos z.cells _ hk']
      exact h1 _ (by simp))
  rw [Nat.add_zero] at hst
  refine ⟨_, (Builtin.zeroCells z.cells (n - i)).toList, ?_, hzl, All.setSls l1 _ _ h⟩
  obtain ⟨m, hm⟩ : ∃ m, n - i = m + 1 := ⟨n - i - 1, by omega⟩
  rw [hm] at hst ⊢
  simp [Builtin.clear_, run_underlying ht, hv, hst]
theorem wpList_clear_all {P : Program} {t e : TypeId} {size : Nat} (ht : P.underlying t = some (.slice e)) {z : Value} (hv : ∀ w, (zeroValue e).run P w = .ok z w) (hz : z.cells.size = size) (hpos : 0 < size) (h1 : ∀ u ∈ z.cells.toList, u.oneCell' = true)
    {B : Nat} {w0 w : World} (l1 : List Ob) {l2 : List Ob} {g n cap i : Nat} {xs : List Value} (h : All B w0 (l1 ++ sl e size (.slice (some ⟨g, 0, none⟩) n cap) n xs :: l2) w) (hi : i < n)
    {ops : Array Oper} {rest : List Oper} {o : Oper} {a : Act} {Q : Exit → Act → World → Prop} (hgd : o.guard = none) (s : Operand) (ho : o.op = .call { callee := .builtin .clear, args := #[s], argTypes := #[t] }) {c : Nat} (hd : a.eval s = .slice (some ⟨g, i * size, none⟩) (n - i) c)
    (hc : ∀ w' zs, All B w0 (l1 ++ sl e size (.slice (some ⟨g, 0, none⟩) n cap) n (setAll xs (i * size) zs) :: l2) w' → wpList P ops Q rest (a.put o.dst (.tuple #[])) w') : wpList P ops Q (o :: rest) a w :=
  wpList_plain hgd fun K hK => by
    obtain ⟨w', zs, hr, _, h2⟩ := run_clear_all (P := P) (ty := o.type) ht hv hz hpos h1 l1 h hi c
    unfold Oper.wp execOp
    simp only [ho, resolve, invoke, builtin, Sem.run_bind, Sem.run_pure, Result.andThen_ok, List.map_toArray, List.map_cons, List.map_nil, hd, hr]
    exact hK _ _ (hc w' zs h2)
theorem own_trunc {w : World} {e : TypeId} {size g n cap i : Nat} {xs : List Value} (h : Own w e size (.slice (some ⟨g, 0, none⟩) n cap) n xs) (hi : i ≤ n) : Own w e size (.slice (some ⟨g, 0, none⟩) i cap) i (xs.take (i * size)) := by
  obtain ⟨h1, h2⟩ := h
  have hmul : i * size ≤ n * size := Nat.mul_le_mul_right _ hi
  refine ⟨by rw [List.length_take, h1]; exact Nat.min_eq_left hmul, ?_⟩
  rcases h2 with ⟨h', _⟩ | ⟨g', cap', cur, h', hb, hg, hc, hm, hs, ht⟩
  · simp at h'
  · simp only [Value.slice.injEq, Option.some.injEq, Addr.mk.injEq, and_true, true_and] at h'
    obtain ⟨rfl, rfl⟩ := h'
    refine .inr ⟨g, cap, cur, rfl, hb, hg, by omega, hm, hs, ?_⟩
    rw [← ht, List.take_take, Nat.min_eq_left hmul]
theorem All.trunc {B : Nat} {w0 w : World} (l1 : List Ob) {l2 : List Ob} {g n cap size i : Nat} {e : TypeId} {xs : List Value} (h : All B w0 (l1 ++ sl e size (.slice (some ⟨g, 0, none⟩) n cap) n xs :: l2) w) (hi : i ≤ n) :
    All B w0 (l1 ++ sl e size (.slice (some ⟨g, 0, none⟩) i cap) i (xs.take (i * size)) :: l2) w :=
  h.step l1 (o' := sl e size (.slice (some ⟨g, 0, none⟩) i cap) i (xs.take (i * size))) (own_trunc h.mid hi) (Chg.refl _ _) (fun k hk => .inl hk)
theorem rows_take {α : Type} {enc : α → List Value} {m : Nat} (he : ∀ v, (enc v).length = m) (l : List α) (i : Nat) : (rows enc l).take (i * m) = rows enc (l.take i) := by
  induction l generalizing i with
  | nil => simp [rows]
  | cons x l ih =>
    cases i with
    | zero => simp [rows]
    | succ i =>
      simp only [rows, List.take_succ_cons]
      rw [Nat.succ_mul, Nat.add_comm, ← he x, List.take_length_add_append, he, ih]
end Go.Proofs.YtacdbnhnhdlmpaaGreatDoor.W
end
section
namespace Go.Proofs.YtacdbnhnhdlmpaaGreatDoor.W
open Go.RowKit
theorem setAttr_no {B R g cap : Nat} {S : Tr} {fv : Value} {w : World} {K d} (h : TAt B R S (.slice (some ⟨g, 0, none⟩) S.slots.length cap) fv w) (hL : Lk S K d) (i : Nat) (n : Nd) (hi : S.at i = some n) (hk : n.kind ≠ 2) (a b : Value) :
    Calls Tryz.prog 40 #[.pointer (some ⟨R, 0, none⟩), .int .i64 (S.hd i), a, b] w fun e w' => e = .returned (.tuple #[.slice none 0 0, .int .i64 10]) ∧ Below w.heap.size w w' := by
  have HE := Lib.hid (element_no h hL i n hi hk)
  clear h hL hi
  go_enter Tryz.func40, Tryz.ntmps40
  go_wp2_with fail
  refine HE.out.mono ?_
  rintro e w1 ⟨rfl, hb1⟩
  go_wp2_with fail
  go_ret2
  exact ⟨rfl, hb1⟩
end Go.Proofs.YtacdbnhnhdlmpaaGreatDoor.W
end
