/- append onto a slice of the call's own, from any slice that owns its row; a new slice: as objects that lie apart. -/
import Derived.Test.YtfelmdkeaacfeaaDoorOb
import Derived.Deep.AppendLies
namespace Go.Proofs.YtfelmdkeaacfeaaDoor.W
open Go.RowKit
set_option linter.unusedVariables false

/-- a slice type and what is known of its elements -/
structure ET (P : Program) (t e : TypeId) (size bytes : Nat) : Prop where
  under : P.underlying t = some (.slice e)
  info : ∃ i z, P.info? e = some i ∧ i.zero = some z ∧ i.size = size ∧ i.bytes = bytes ∧ z.cells.size = size
  pos : 0 < size
theorem ET.mk' {P : Program} {t e : TypeId} {size bytes : Nat} {z : Value} (h : P.underlying t = some (.slice e)) (hi : (P.info? e).map (fun i => (i.zero, i.size, i.bytes)) = some (some z, size, bytes)) (hz : z.cells.size = size) (hp : 0 < size) : ET P t e size bytes := by
  obtain ⟨i, h1, h2, h3, h4⟩ := info_parts hi
  exact ⟨h, ⟨i, z, h1, h2, h3, h4, hz⟩, hp⟩

theorem own_len {w : World} {e : TypeId} {size n : Nat} {v : Value} {xs : List Value} (h : Own w e size v n xs) : xs.length = n * size := h.1
theorem own_news {w : World} {e : TypeId} {size n g cap : Nat} {xs : List Value} (h : Own w e size (.slice (some ⟨g, 0, none⟩) n cap) n xs) (j : Nat) (u : Value) (hu : xs[j]? = some u) : w.cell? ((⟨g, 0, none⟩ : Addr).add j) = some u := by
  have hj : j < n * size := by rw [← h.1]; exact (List.getElem?_eq_some_iff.1 hu).1
  have := h.cellAt j hj
  rw [hu] at this
  rw [Go.WideShapes.add_plain]
  simpa using this

/-- an append onto a slice of the call's own -/
theorem run_append_all {P : Program} {t ty e : TypeId} {size bytes : Nat} (hT : ET P t e size bytes) {B : Nat} {w0 w : World} (l1 : List Ob) {l2 : List Ob} {dv : Value} {n : Nat} {xs : List Value}
    (h : All B w0 (l1 ++ sl e size dv n xs :: l2) w) {sv : Value} {m : Nat} {ys : List Value} (hs : Own w e size sv m ys) (h1 : ∀ u ∈ ys, u.oneCell' = true) (hlen : n + m ≤ 1000000000) (hby : bytes ≤ 1000) :
    ∃ v' w', (Builtin.append_ #[t, t] ty #[dv, sv]).run P w = .ok v' w' ∧ All B w0 (l1 ++ sl e size v' (n + m) (xs ++ ys) :: l2) w' := by
  obtain ⟨i, z, hi, hz0, hz1, hz2, hz3⟩ := hT.info
  have hown : Own w e size dv n xs := h.mid
  rcases hs.2 with ⟨rfl, rfl⟩ | ⟨g, cap, cur, rfl, _⟩
  · have hy : ys = [] := List.length_eq_zero_iff.1 (by rw [hs.1]; omega)
    subst hy
    refine ⟨dv, w, run_append_owned_none w 0 t ty e i size hT.under hi dv n xs hown, ?_⟩
    rw [List.append_nil]
    exact h
  · have hmul : (n + m) * bytes ≤ 1000000000 * 1000 := Nat.mul_le_mul hlen hby
    obtain ⟨v', w', hr, h2, h3, _, h5⟩ := run_append_own_at (P := P) w 0 t ty e i z size bytes hT.under hi hz0 hz1 hz2 hz3 hT.pos dv n xs hown ⟨g, 0, none⟩ m cap ys hs.1 (own_news hs) h1 (by unfold maxLen; omega) (by omega) (Nat.zero_le _)
    refine ⟨v', w', hr, h.step l1 (o' := sl e size v' (n + m) (xs ++ ys)) h2 ((Chg.refl _ _).grown h3 (fun k hk _ => hk)) ?_⟩
    intro k hk
    have hk' : v'.ownBlock = some k := hk
    rcases h5 with h5 | h5
    · exact .inl (show dv.ownBlock = some k by rw [← h5]; exact hk')
    · right
      rw [h5] at hk'
      have := Option.some.inj hk'
      omega
theorem wp_append_all {P : Program} {t e : TypeId} {size bytes : Nat} (hT : ET P t e size bytes) {B : Nat} {w0 w : World} (l1 : List Ob) {l2 : List Ob} {dv : Value} {n : Nat} {xs : List Value}
    (h : All B w0 (l1 ++ sl e size dv n xs :: l2) w) {sv : Value} {m : Nat} {ys : List Value} (hs : Own w e size sv m ys) (h1 : ∀ u ∈ ys, u.oneCell' = true) (hlen : n + m ≤ 1000000000) (hby : bytes ≤ 1000)
    {o : Oper} {a : Act} {K : Act → World → Prop} {Q : Exit → Act → World → Prop} (s x : Operand) (ho : o.op = .call { callee := .builtin .append, args := #[s, x], argTypes := #[t, t] }) (hd : a.eval s = dv) (hx : a.eval x = sv)
    (hc : ∀ v' w', All B w0 (l1 ++ sl e size v' (n + m) (xs ++ ys) :: l2) w' → K (a.put o.dst v') w') : o.wp P a w K Q := by
  obtain ⟨v', w', hr, h2⟩ := run_append_all (ty := o.type) hT l1 h hs h1 hlen hby
  unfold Oper.wp execOp
  simp only [ho, resolve, invoke, builtin, Sem.run_bind, Sem.run_pure, Result.andThen_ok, List.map_toArray, List.map_cons, List.map_nil, hd, hx, hr]
  exact hc v' w' h2
theorem wpList_append_all {P : Program} {t e : TypeId} {size bytes : Nat} (hT : ET P t e size bytes) {B : Nat} {w0 w : World} (l1 : List Ob) {l2 : List Ob} {dv : Value} {n : Nat} {xs : List Value}
    (h : All B w0 (l1 ++ sl e size dv n xs :: l2) w) {sv : Value} {m : Nat} {ys : List Value} (hs : Own w e size sv m ys) (h1 : ∀ u ∈ ys, u.oneCell' = true) (hlen : n + m ≤ 1000000000) (hby : bytes ≤ 1000)
    {ops : Array Oper} {rest : List Oper} {o : Oper} {a : Act} {Q : Exit → Act → World → Prop} (hgd : o.guard = none) (s x : Operand) (ho : o.op = .call { callee := .builtin .append, args := #[s, x], argTypes := #[t, t] }) (hd : a.eval s = dv) (hx : a.eval x = sv)
    (hc : ∀ v' w', All B w0 (l1 ++ sl e size v' (n + m) (xs ++ ys) :: l2) w' → wpList P ops Q rest (a.put o.dst v') w') : wpList P ops Q (o :: rest) a w :=
  wpList_plain hgd fun K hK => wp_append_all hT l1 h hs h1 hlen hby s x ho hd hx fun v' w' h' => hK _ _ (hc v' w' h')
theorem step_append_all {P : Program} {t e : TypeId} {size bytes : Nat} (hT : ET P t e size bytes) {B : Nat} {w0 w : World} (l1 : List Ob) {l2 : List Ob} {dv : Value} {n : Nat} {xs : List Value}
    (h : All B w0 (l1 ++ sl e size dv n xs :: l2) w) {sv : Value} {m : Nat} {ys : List Value} (hs : Own w e size sv m ys) (h1 : ∀ u ∈ ys, u.oneCell' = true) (hlen : n + m ≤ 1000000000) (hby : bytes ≤ 1000)
    {ops : Array Oper} {E : Prop} {o : Oper} {a : Act} {K : Act → World → Prop} {Q : Exit → Act → World → Prop} (hgd : o.guard = none) (s x : Operand) (ho : o.op = .call { callee := .builtin .append, args := #[s, x], argTypes := #[t, t] }) (hd : a.eval s = dv) (hx : a.eval x = sv)
    (hc : ∀ v' w', All B w0 (l1 ++ sl e size v' (n + m) (xs ++ ys) :: l2) w' → K (a.put o.dst v') w') : if Region.wanted o (yielded ops a.tmps) = true then Oper.wp P o a w K Q else E := by
  have hw : Region.wanted o (yielded ops a.tmps) = true := by simp [Region.wanted, hgd]
  rw [if_pos hw]
  exact wp_append_all hT l1 h hs h1 hlen hby s x ho hd hx hc

/-- a slice written out, at the head of a block of its own -/
theorem own_at {w : World} {g n e size : Nat} {cs : List Value} (h : Blk w g cs e) (hl : cs.length = n * size) (hn : n ≤ 1000000000) : Own w e size (.slice (some ⟨g, 0, none⟩) n n) n cs :=
  ⟨hl, .inr ⟨g, n, cs.toArray, rfl, Nat.zero_le _, h, Nat.le_refl _, by unfold maxLen; omega, by simpa using hl, by rw [← hl]; simp⟩⟩
theorem All.newSl {B : Nat} {w0 w : World} {l : List Ob} (h : All B w0 l w) (e : TypeId) (size n : Nat) (cs : List Value) (hl : cs.length = n * size) (hn : n ≤ 1000000000) :
    All B w0 (sl e size (.slice (some ⟨w.heap.size, 0, none⟩) n n) n cs :: l) (w.alloc (.cells cs.toArray e)) :=
  h.new (own_at (Blk.new w cs e) hl hn) ((Below.refl _ _).alloc (Nat.le_refl _) _) (fun k hk => Nat.le_of_eq (by simpa [sl, Value.ownBlock] using hk))
theorem All.newBkA {B : Nat} {w0 w : World} {l : List Ob} (h : All B w0 l w) (g : Nat) (hg : w.heap.size = g) (cs : List Value) (t : TypeId) : All B w0 (bk g cs t :: l) (w.alloc (.cells cs.toArray t)) := hg ▸ h.newBk cs t
theorem All.newSlA {B : Nat} {w0 w : World} {l : List Ob} (h : All B w0 l w) (g : Nat) (hg : w.heap.size = g) (e : TypeId) (size n : Nat) (cs : List Value) (hl : cs.length = n * size) (hn : n ≤ 1000000000) :
    All B w0 (sl e size (.slice (some ⟨g, 0, none⟩) n n) n cs :: l) (w.alloc (.cells cs.toArray e)) := hg ▸ h.newSl e size n cs hl hn
/-- a slice's row and a block beside it are two -/
theorem All.sl_ne_bk {B : Nat} {w0 w : World} {l : List Ob} {e : TypeId} {size g n n' cap : Nat} {xs : List Value} (h : All B w0 (sl e size (.slice (some ⟨g, 0, none⟩) n cap) n' xs :: l) w) {g' : Nat} {cs : List Value} {t : TypeId} (hm : bk g' cs t ∈ l) : g ≠ g' := fun e => by
  subst e
  exact (List.pairwise_cons.1 h.apart).1 _ hm g rfl rfl
/-- a cell of a slice written -/
theorem All.setSl {B : Nat} {w0 w : World} (l1 : List Ob) {l2 : List Ob} {g n cap size : Nat} {e : TypeId} {xs : List Value} (h : All B w0 (l1 ++ sl e size (.slice (some ⟨g, 0, none⟩) n cap) n xs :: l2) w) (j : Nat) (u : Value) :
    All B w0 (l1 ++ sl e size (.slice (some ⟨g, 0, none⟩) n cap) n (xs.set j u) :: l2) (w.setCell ⟨g, j, none⟩ u) :=
  h.step l1 (o' := sl e size (.slice (some ⟨g, 0, none⟩) n cap) n (xs.set j u)) (own_set h.mid j u) ((Chg.refl (sl e size (.slice (some ⟨g, 0, none⟩) n cap) n xs).F w).setCell ⟨g, j, none⟩ (fun _ => (rfl : some g = some g)) u) (fun k hk => .inl hk)
end Go.Proofs.YtfelmdkeaacfeaaDoor.W
