/- Texts joined: Mem Ob App Cells Clear. -/
import Derived.WalkKit
import Derived.BigQuiet
import Derived.Lib.Hide
import Derived.WalkSmall
import Derived.Deep.AppendLies
import Derived.Laws.IdiomCopy
set_option maxRecDepth 100000
set_option maxHeartbeats 40000000
set_option linter.unusedVariables false
set_option linter.unusedSimpArgs false
section
namespace Go.Proofs.YtacdbnhnhdlmpaaGreatDoor.W
open Go.RowKit
structure Chg (F : Nat → Prop) (w w' : World) : Prop where
  os : w'.os = w.os
  tape : w'.tape = w.tape
  output : w'.output = w.output
  size : w.heap.size ≤ w'.heap.size
  block : ∀ k, k < w.heap.size → ¬ F k → w'.heap[k]? = w.heap[k]?
theorem Chg.refl (F : Nat → Prop) (w : World) : Chg F w w := ⟨rfl, rfl, rfl, Nat.le_refl _, fun _ _ _ => rfl⟩
theorem Chg.mono {F G : Nat → Prop} {w w' : World} (h : Chg F w w') (k : ∀ i, i < w.heap.size → F i → G i) : Chg G w w' :=
  ⟨h.os, h.tape, h.output, h.size, fun i hi hg => h.block i hi (fun hf => hg (k i hi hf))⟩
theorem Chg.trans {F G : Nat → Prop} {a b c : World} (h : Chg F a b) (k : Chg G b c) (hG : ∀ i, i < a.heap.size → G i → F i) : Chg F a c :=
  ⟨k.os.trans h.os, k.tape.trans h.tape, k.output.trans h.output, Nat.le_trans h.size k.size,
   fun i hi hf => (k.block i (Nat.lt_of_lt_of_le hi h.size) (fun hg => hf (hG i hi hg))).trans (h.block i hi hf)⟩
theorem Chg.of_below {F : Nat → Prop} {w w' : World} (h : Below w.heap.size w w') : Chg F w w' := ⟨h.os, h.tape, h.output, h.size, fun k hk _ => h.block k hk⟩
theorem Chg.below {F : Nat → Prop} {B : Nat} {w w' : World} (h : Chg F w w') (hB : B ≤ w.heap.size) (hF : ∀ k, F k → B ≤ k) : Below B w w' :=
  ⟨h.os, h.tape, h.output, h.size, fun k hk => h.block k (by omega) (fun hf => by have := hF k hf; omega)⟩
theorem Chg.drew {F : Nat → Prop} {a w : World} (h : Chg F a w) : Chg F a w.drew := ⟨h.os, h.tape, h.output, h.size, h.block⟩
theorem Chg.alloc {F : Nat → Prop} {a w : World} (h : Chg F a w) (o : Obj) : Chg F a (w.alloc o) :=
  h.trans (G := F) ⟨rfl, rfl, rfl, by simp, fun k hk _ => Below.heap_alloc _ _ _ (by omega)⟩ (fun _ _ h => h)
theorem Chg.setCell {F : Nat → Prop} {a w : World} (h : Chg F a w) (p : Addr) (hp : p.block < a.heap.size → F p.block) (u : Value) : Chg F a (w.setCell p u) :=
  h.trans (G := fun k => k = p.block) ⟨rfl, rfl, rfl, by simp [World.setCell], fun k _ hf => Below.heap_setCell _ _ _ _ hf⟩ (fun i hi e => by subst e; exact hp hi)
theorem Chg.grown {F : Nat → Prop} {a w w' : World} {row : Option Nat} (h : Chg F a w) (hg : w.grownBy w' row) (hr : ∀ k, row = some k → k < a.heap.size → F k) : Chg F a w' :=
  h.trans (G := fun k => row = some k) ⟨hg.os, hg.tape, hg.output, hg.size, fun k hk hf => hg.block k hk (fun e => hf e.symm)⟩ (fun i hi e => hr i e hi)
theorem Below.drewN {B : Nat} {a w : World} (h : Below B a w) (n : Nat) : Below B a (w.drewN n) := ⟨h.os, h.tape, h.output, h.size, h.block⟩
theorem bcell {W w1 : World} (hb : Below W.heap.size W w1) : (∀ b o, b < W.heap.size → w1.cell? ⟨b, o, none⟩ = W.cell? ⟨b, o, none⟩) ∧ (∀ b o, b < W.heap.size → w1.frozen? ⟨b, o, none⟩ = W.frozen? ⟨b, o, none⟩) :=
  ⟨fun b o h => hb.cell (p := ⟨b, o, none⟩) h, fun b o h => hb.frozen (p := ⟨b, o, none⟩) h⟩
theorem bthen {W w1 w2 : World} (h : Below W.heap.size W w1) (k : Below w1.heap.size w1 w2) : Below W.heap.size W w2 := h.trans (k.mono h.size)
def Blk (w : World) (g : Nat) (cs : List Value) (t : TypeId) : Prop := w.heap[g]? = some (.cells cs.toArray t (0, 0))
theorem Blk.lt {w : World} {g : Nat} {cs : List Value} {t : TypeId} (h : Blk w g cs t) : g < w.heap.size := lt_of_block h
theorem Blk.cell {w : World} {g : Nat} {cs : List Value} {t : TypeId} (h : Blk w g cs t) (j : Nat) : w.cell? ⟨g, j, none⟩ = cs[j]? := by
  unfold Blk at h; simp [World.cell?, h]
theorem Blk.free {w : World} {g : Nat} {cs : List Value} {t : TypeId} (h : Blk w g cs t) (j : Nat) : w.frozen? ⟨g, j, none⟩ = false := by
  unfold Blk at h; simp [World.frozen?, h]
theorem Blk.kept {w w' : World} {g : Nat} {cs : List Value} {t : TypeId} (h : Blk w g cs t) (e : w'.heap[g]? = w.heap[g]?) : Blk w' g cs t := by
  unfold Blk at *; rw [e]; exact h
theorem Blk.chg {F : Nat → Prop} {w w' : World} {g : Nat} {cs : List Value} {t : TypeId} (h : Blk w g cs t) (k : Chg F w w') (hg : ¬ F g) : Blk w' g cs t :=
  h.kept (k.block g h.lt hg)
theorem Blk.below {w w' : World} {g : Nat} {cs : List Value} {t : TypeId} (h : Blk w g cs t) (k : Below w.heap.size w w') : Blk w' g cs t :=
  h.kept (k.block g h.lt)
theorem Blk.set {w : World} {g : Nat} {cs : List Value} {t : TypeId} (h : Blk w g cs t) (j : Nat) (u : Value) : Blk (w.setCell ⟨g, j, none⟩ u) g (cs.set j u) t := by
  have hlt := h.lt
  unfold Blk at *
  have h' : w.heap[g] = .cells cs.toArray t (0, 0) := by simpa [Array.getElem?_eq_getElem hlt] using h
  show (w.heap.modify g _)[g]? = _
  rw [Array.getElem?_eq_getElem (by simpa using hlt), Array.getElem_modify_self, h']
  simp
theorem Blk.setOther {w : World} {g : Nat} {cs : List Value} {t : TypeId} (h : Blk w g cs t) (p : Addr) (hp : g ≠ p.block) (u : Value) : Blk (w.setCell p u) g cs t :=
  h.kept (Below.heap_setCell _ _ _ _ hp)
theorem Blk.new (w : World) (cs : List Value) (t : TypeId) : Blk (w.alloc (.cells cs.toArray t)) w.heap.size cs t := heap_alloc_new w _
theorem Blk.alloc {w : World} {g : Nat} {cs : List Value} {t : TypeId} (h : Blk w g cs t) (o : Obj) : Blk (w.alloc o) g cs t := h.kept (Below.heap_alloc w o g h.lt)
abbrev Own (w : World) (e : TypeId) (size : Nat) (v : Value) (n : Nat) (xs : List Value) : Prop := w.ownsRow 0 e size v n xs
theorem own_shape {w : World} {e : TypeId} {size : Nat} {v : Value} {n : Nat} {xs : List Value} (h : Own w e size v n xs) : ∃ a cap, v = .slice a n cap := by
  rcases h.2 with ⟨rfl, rfl⟩ | ⟨g, cap, cur, rfl, _⟩
  · exact ⟨none, 0, rfl⟩
  · exact ⟨_, _, rfl⟩
theorem own_some {w : World} {e : TypeId} {size : Nat} {v : Value} {n : Nat} {xs : List Value} (h : Own w e size v n xs) (hn : 0 < n) : ∃ g cap, v = .slice (some ⟨g, 0, none⟩) n cap ∧ n ≤ cap := by
  rcases h.2 with ⟨rfl, rfl⟩ | ⟨g, cap, cur, rfl, _, _, hc, _⟩
  · omega
  · exact ⟨_, _, rfl, hc⟩
theorem own_lt {w : World} {e : TypeId} {size : Nat} {v : Value} {n : Nat} {xs : List Value} (h : Own w e size v n xs) {k : Nat} (hk : v.ownBlock = some k) : k < w.heap.size := (h.lt k hk).2
theorem own_kept {w w' : World} {e : TypeId} {size : Nat} {v : Value} {n : Nat} {xs : List Value} (h : Own w e size v n xs) (k : ∀ g, v.ownBlock = some g → w'.heap[g]? = w.heap[g]?) : Own w' e size v n xs := by
  refine ⟨h.1, ?_⟩
  rcases h.2 with hn | ⟨g, cap, cur, rfl, hb, hgg, rest⟩
  · exact .inl hn
  · exact .inr ⟨g, cap, cur, rfl, hb, by rw [k g rfl]; exact hgg, rest⟩
theorem own_set {w : World} {e : TypeId} {size g n cap : Nat} {xs : List Value} (h : Own w e size (.slice (some ⟨g, 0, none⟩) n cap) n xs) (j : Nat) (u : Value) : Own (w.setCell ⟨g, j, none⟩ u) e size (.slice (some ⟨g, 0, none⟩) n cap) n (xs.set j u) := (h.stored j u).1
theorem own_pop {w : World} {e : TypeId} {size g n cap : Nat} {xs : List Value} (h : Own w e size (.slice (some ⟨g, 0, none⟩) (n + 1) cap) (n + 1) xs) : Own w e size (.slice (some ⟨g, 0, none⟩) n cap) n (xs.take (n * size)) := by
  obtain ⟨h1, h2⟩ := h
  refine ⟨by rw [List.length_take, h1]; exact Nat.min_eq_left (Nat.mul_le_mul_right _ (Nat.le_succ n)), ?_⟩
  rcases h2 with ⟨h', _⟩ | ⟨g', cap', cur, h', hb, hg, hc, hm, hs, ht⟩
  · simp at h'
  · simp only [Value.slice.injEq, Option.some.injEq, Addr.mk.injEq, and_true, true_and] at h'
    obtain ⟨rfl, rfl⟩ := h'
    refine .inr ⟨g, cap, cur, rfl, hb, hg, by omega, hm, hs, ?_⟩
    rw [← ht, List.take_take, Nat.min_eq_left (Nat.mul_le_mul_right _ (Nat.le_succ n))]
structure Ob where
  P : World → Prop
  F : Nat → Prop
  here : ∀ w, P w → ∀ k, F k → k < w.heap.size
  loc : ∀ w w', P w → (∀ k, F k → w'.heap[k]? = w.heap[k]?) → P w'
structure All (B : Nat) (w0 : World) (l : List Ob) (w : World) : Prop where
  P : ∀ o ∈ l, o.P w
  apart : l.Pairwise fun a b => ∀ k, a.F k → ¬ b.F k
  base : ∀ o ∈ l, ∀ k, o.F k → B ≤ k
  below : Below B w0 w
  le : B ≤ w.heap.size
theorem All.head {B : Nat} {w0 w : World} {o : Ob} {l : List Ob} (h : All B w0 (o :: l) w) : o.P w := h.P o (by simp)
theorem All.mid {B : Nat} {w0 w : World} {o : Ob} {l1 l2 : List Ob} (h : All B w0 (l1 ++ o :: l2) w) : o.P w := h.P o (by simp)
theorem All.start (w : World) : All w.heap.size w [] w := ⟨by simp, by simp, by simp, Below.refl _ _, Nat.le_refl _⟩
theorem All.still {B : Nat} {w0 w w' : World} {l : List Ob} (h : All B w0 l w) (k : Below w.heap.size w w') : All B w0 l w' :=
  ⟨fun o ho => o.loc w w' (h.P o ho) fun i hi => k.block i (o.here w (h.P o ho) i hi), h.apart, h.base, h.below.trans (k.mono h.le), Nat.le_trans h.le k.size⟩
theorem All.drew {B : Nat} {w0 w : World} {l : List Ob} (h : All B w0 l w) : All B w0 l w.drew := h.still ((Below.refl _ _).drew)
theorem All.drewN {B : Nat} {w0 w : World} {l : List Ob} (h : All B w0 l w) (n : Nat) : All B w0 l (w.drewN n) := h.still (Below.drewN (Below.refl _ _) n)
theorem All.alloc {B : Nat} {w0 w : World} {l : List Ob} (h : All B w0 l w) (o : Obj) : All B w0 l (w.alloc o) := h.still ((Below.refl _ _).alloc (Nat.le_refl _) _)
theorem All.step {B : Nat} {w0 w w' : World} {o o' : Ob} (l1 : List Ob) {l2 : List Ob} (h : All B w0 (l1 ++ o :: l2) w) (hp : o'.P w') (hc : Chg o.F w w') (hk : ∀ k, o'.F k → o.F k ∨ w.heap.size ≤ k) : All B w0 (l1 ++ o' :: l2) w' := by
  have ap := h.apart
  rw [List.pairwise_append] at ap
  obtain ⟨a1, a2, a3⟩ := ap
  rw [List.pairwise_cons] at a2
  have hB : ∀ k, o.F k → B ≤ k := h.base o (by simp)
  have other : ∀ x, x ∈ l1 ∨ x ∈ l2 → x.P w' ∧ (∀ k, x.F k → ¬ o'.F k) := by
    intro x hx
    have hxP : x.P w := h.P x (by rcases hx with hx | hx <;> simp [hx])
    have hxo : ∀ k, x.F k → ¬ o.F k := by
      rcases hx with hx | hx
      · exact a3 x hx o (by simp)
      · exact fun k hk ho => a2.1 x hx k ho hk
    refine ⟨x.loc w w' hxP fun k hk => hc.block k (x.here w hxP k hk) (hxo k hk), fun k hk ho' => ?_⟩
    rcases hk' : (‹∀ k, o'.F k → o.F k ∨ w.heap.size ≤ k› k ho') with h1 | h1
    · exact hxo k hk h1
    · have := x.here w hxP k hk; omega
  refine ⟨?_, ?_, ?_, ?_, Nat.le_trans h.le hc.size⟩
  · intro x hx
    rw [List.mem_append, List.mem_cons] at hx
    rcases hx with hx | rfl | hx
    · exact (other x (.inl hx)).1
    · exact hp
    · exact (other x (.inr hx)).1
  · rw [List.pairwise_append]
    refine ⟨a1, ?_, ?_⟩
    · rw [List.pairwise_cons]
      exact ⟨fun x hx k ho' hk => (other x (.inr hx)).2 k hk ho', a2.2⟩
    · intro x hx y hy
      rw [List.mem_cons] at hy
      rcases hy with rfl | hy
      · exact (other x (.inl hx)).2
      · exact a3 x hx y (by simp [hy])
  · intro x hx k hk'
    rw [List.mem_append, List.mem_cons] at hx
    rcases hx with hx | rfl | hx
    · exact h.base x (by simp [hx]) k hk'
    · rcases hk k hk' with h1 | h1
      · exact hB k h1
      · exact Nat.le_trans h.le h1
    · exact h.base x (by simp [hx]) k hk'
  · exact h.below.trans (hc.below h.le hB)
theorem All.new {B : Nat} {w0 w w' : World} {o : Ob} {l : List Ob} (h : All B w0 l w) (hp : o.P w') (hb : Below w.heap.size w w') (hk : ∀ k, o.F k → w.heap.size ≤ k) : All B w0 (o :: l) w' := by
  have h' := h.still hb
  refine ⟨?_, ?_, ?_, h'.below, h'.le⟩
  · intro x hx
    rcases List.mem_cons.1 hx with rfl | hx
    · exact hp
    · exact h'.P x hx
  · rw [List.pairwise_cons]
    exact ⟨fun x hx k h1 h2 => by have := hk k h1; have := x.here w (h.P x hx) k h2; omega, h.apart⟩
  · intro x hx k h1
    rcases List.mem_cons.1 hx with rfl | hx
    · exact Nat.le_trans h.le (hk k h1)
    · exact h.base x hx k h1
theorem All.tail {B : Nat} {w0 w : World} {a : Ob} {l : List Ob} (h : All B w0 (a :: l) w) : All B w0 l w :=
  ⟨fun o ho => h.P o (by simp [ho]), (List.pairwise_cons.1 h.apart).2, fun o ho => h.base o (by simp [ho]), h.below, h.le⟩
theorem All.sub {B : Nat} {w0 w : World} {l l' : List Ob} (h : All B w0 l w) (hs : l'.Sublist l) : All B w0 l' w :=
  ⟨fun o ho => h.P o (hs.subset ho), h.apart.sublist hs, fun o ho => h.base o (hs.subset ho), h.below, h.le⟩
def sl (e : TypeId) (size : Nat) (v : Value) (n : Nat) (xs : List Value) : Ob :=
  ⟨fun w => Own w e size v n xs, fun k => v.ownBlock = some k, fun w h k hk => own_lt h hk, fun w w' h k => own_kept h k⟩
def bk (g : Nat) (cs : List Value) (t : TypeId) : Ob :=
  ⟨fun w => Blk w g cs t, fun k => k = g, fun w h k hk => hk ▸ h.lt, fun w w' h k => h.kept (k g rfl)⟩
def hcells (xs : List Int) : List Value := xs.map (Value.int .i64)
theorem All.nil {B : Nat} {w0 w : World} {l : List Ob} (h : All B w0 l w) (e : TypeId) (size : Nat) : All B w0 (sl e size (.slice none 0 0) 0 [] :: l) w :=
  h.new (World.ownsRow_nil _ _ _ _) (Below.refl _ _) (by intro k hk; simp [sl, Value.ownBlock] at hk)
theorem All.newBk {B : Nat} {w0 w : World} {l : List Ob} (h : All B w0 l w) (cs : List Value) (t : TypeId) : All B w0 (bk w.heap.size cs t :: l) (w.alloc (.cells cs.toArray t)) :=
  h.new (Blk.new w cs t) ((Below.refl _ _).alloc (Nat.le_refl _) _) (by intro k hk; have : k = w.heap.size := hk; omega)
theorem All.setBk {B : Nat} {w0 w : World} (l1 : List Ob) {l2 : List Ob} {g : Nat} {cs : List Value} {t : TypeId} (h : All B w0 (l1 ++ bk g cs t :: l2) w) (j : Nat) (u : Value) : All B w0 (l1 ++ bk g (cs.set j u) t :: l2) (w.setCell ⟨g, j, none⟩ u) :=
  h.step l1 (o' := bk g (cs.set j u) t) (Blk.set h.mid j u) ((Chg.refl (bk g cs t).F w).setCell ⟨g, j, none⟩ (fun _ => (rfl : g = g)) u) (fun k hk => .inl hk)
structure ET (P : Program) (t e : TypeId) (size bytes : Nat) : Prop where
  under : P.underlying t = some (.slice e)
  info : ∃ i z, P.info? e = some i ∧ i.zero = some z ∧ i.size = size ∧ i.bytes = bytes ∧ z.cells.size = size
  pos : 0 < size
theorem ET.mk' {P : Program} {t e : TypeId} {size bytes : Nat} {z : Value} (h : P.underlying t = some (.slice e)) (hi : (P.info? e).map (fun i => (i.zero, i.size, i.bytes)) = some (some z, size, bytes)) (hz : z.cells.size = size) (hp : 0 < size) : ET P t e size bytes := by
  obtain ⟨i, h1, h2, h3, h4⟩ := info_parts hi
  exact ⟨h, ⟨i, z, h1, h2, h3, h4, hz⟩, hp⟩
theorem own_news {w : World} {e : TypeId} {size n g cap : Nat} {xs : List Value} (h : Own w e size (.slice (some ⟨g, 0, none⟩) n cap) n xs) (j : Nat) (u : Value) (hu : xs[j]? = some u) : w.cell? ((⟨g, 0, none⟩ : Addr).add j) = some u := by
  have hj : j < n * size := by rw [← h.1]; exact (List.getElem?_eq_some_iff.1 hu).1
  have := h.cellAt j hj
  rw [hu] at this
  rw [Go.WideShapes.add_plain]
  simpa using this
theorem run_append_all {P : Program} {t ty e : TypeId} {size bytes : Nat} (hT : ET P t e size bytes) {B : Nat} {w0 w : World} (l1 : List Ob) {l2 : List Ob} {dv : Value} {n : Nat} {xs : List Value}
    (h : All B w0 (l1 ++ sl e size dv n xs :: l2) w) {sv : Value} {m : Nat} {ys : List Value} (hs : Own w e size sv m ys) (h1 : ∀ u ∈ ys, u.oneCell' = true) (hlen : n + m ≤ 1000000000) (hby : bytes ≤ 1000) :
    ∃ v' w', (Builtin.append_ #[t, t] ty #[dv, sv]).run P w = .ok v' w' ∧ All B w0 (l1 ++ sl e size v' (n + m) (xs ++ ys) :: l2) w' := by
  obtain ⟨i, z, hi, hz0, hz1, hz2, hz3⟩ := hT.info
  have hown : Own w e size dv n xs := h.mid
  rcases hs.2 with ⟨rfl, rfl⟩ | ⟨g, cap, cur, rfl, _⟩
  · have hy : ys = [] := List.length_eq_zero_iff.1 (by rw [hs.1]; omega)
    subst hy
    refine ⟨dv, w, run_append_owned_none w 0 t ty e i size hT.under hi dv n xs hown, ?_⟩
    rw [List.append_nil]
    exact h
  · have hmul : (n + m) * bytes ≤ 1000000000 * 1000 := Nat.mul_le_mul hlen hby
    obtain ⟨v', w', hr, h2, h3, _, h5⟩ := run_append_own_at (P := P) w 0 t ty e i z size bytes hT.under hi hz0 hz1 hz2 hz3 hT.pos dv n xs hown ⟨g, 0, none⟩ m cap ys hs.1 (own_news hs) h1 (by unfold maxLen; omega) (by omega) (Nat.zero_le _)
    refine ⟨v', w', hr, h.step l1 (o' := sl e size v' (n + m) (xs ++ ys)) h2 ((Chg.refl _ _).grown h3 (fun k hk _ => hk)) ?_⟩
    intro k hk
    have hk' : v'.ownBlock = some k := hk
    rcases h5 with h5 | h5
    · exact .inl (show dv.ownBlock = some k by rw [← h5]; exact hk')
    · right
      rw [h5] at hk'
      have := Option.some.inj hk'
      omega
theorem wp_append_all {P : Program} {t e : TypeId} {size bytes : Nat} (hT : ET P t e size bytes) {B : Nat} {w0 w : World} (l1 : List Ob) {l2 : List Ob} {dv : Value} {n : Nat} {xs : List Value}
    (h : All B w0 (l1 ++ sl e size dv n xs :: l2) w) {sv : Value} {m : Nat} {ys : List Value} (hs : Own w e size sv m ys) (h1 : ∀ u ∈ ys, u.oneCell' = true) (hlen : n + m ≤ 1000000000) (hby : bytes ≤ 1000)
    {o : Oper} {a : Act} {K : Act → World → Prop} {Q : Exit → Act → World → Prop} (s x : Operand) (ho : o.op = .call { callee := .builtin .append, args := #[s, x], argTypes := #[t, t] }) (hd : a.eval s = dv) (hx : a.eval x = sv)
    (hc : ∀ v' w', All B w0 (l1 ++ sl e size v' (n + m) (xs ++ ys) :: l2) w' → K (a.put o.dst v') w') : o.wp P a w K Q := by
  obtain ⟨v', w', hr, h2⟩ := run_append_all (ty := o.type) hT l1 h hs h1 hlen hby
  unfold Oper.wp execOp
  simp only [ho, resolve, invoke, builtin, Sem.run_bind, Sem.run_pure, Result.andThen_ok, List.map_toArray, List.map_cons, List.map_nil, hd, hx, hr]
  exact hc v' w' h2
theorem wpList_append_all {P : Program} {t e : TypeId} {size bytes : Nat} (hT : ET P t e size bytes) {B : Nat} {w0 w : World} (l1 : List Ob) {l2 : List Ob} {dv : Value} {n : Nat} {xs : List Value}
    (h : All B w0 (l1 ++ sl e size dv n xs :: l2) w) {sv : Value} {m : Nat} {ys : List Value} (hs : Own w e size sv m ys) (h1 : ∀ u ∈ ys, u.oneCell' = true) (hlen : n + m ≤ 1000000000) (hby : bytes ≤ 1000)
    {ops : Array Oper} {rest : List Oper} {o : Oper} {a : Act} {Q : Exit → Act → World → Prop} (hgd : o.guard = none) (s x : Operand) (ho : o.op = .call { callee := .builtin .append, args := #[s, x], argTypes := #[t, t] }) (hd : a.eval s = dv) (hx : a.eval x = sv)
    (hc : ∀ v' w', All B w0 (l1 ++ sl e size v' (n + m) (xs ++ ys) :: l2) w' → wpList P ops Q rest (a.put o.dst v') w') : wpList P ops Q (o :: rest) a w :=
  wpList_plain hgd fun K hK => wp_append_all hT l1 h hs h1 hlen hby s x ho hd hx fun v' w' h' => hK _ _ (hc v' w' h')
theorem own_at {w : World} {g n e size : Nat} {cs : List Value} (h : Blk w g cs e) (hl : cs.length = n * size) (hn : n ≤ 1000000000) : Own w e size (.slice (some ⟨g, 0, none⟩) n n) n cs :=
  ⟨hl, .inr ⟨g, n, cs.toArray, rfl, Nat.zero_le _, h, Nat.le_refl _, by unfold maxLen; omega, by simpa using hl, by rw [← hl]; simp⟩⟩
theorem All.newSl {B : Nat} {w0 w : World} {l : List Ob} (h : All B w0 l w) (e : TypeId) (size n : Nat) (cs : List Value) (hl : cs.length = n * size) (hn : n ≤ 1000000000) :
    All B w0 (sl e size (.slice (some ⟨w.heap.size, 0, none⟩) n n) n cs :: l) (w.alloc (.cells cs.toArray e)) :=
  h.new (own_at (Blk.new w cs e) hl hn) ((Below.refl _ _).alloc (Nat.le_refl _) _) (fun k hk => Nat.le_of_eq (by simpa [sl, Value.ownBlock] using hk))
theorem All.newBkA {B : Nat} {w0 w : World} {l : List Ob} (h : All B w0 l w) (g : Nat) (hg : w.heap.size = g) (cs : List Value) (t : TypeId) : All B w0 (bk g cs t :: l) (w.alloc (.cells cs.toArray t)) := hg ▸ h.newBk cs t
theorem All.newSlA {B : Nat} {w0 w : World} {l : List Ob} (h : All B w0 l w) (g : Nat) (hg : w.heap.size = g) (e : TypeId) (size n : Nat) (cs : List Value) (hl : cs.length = n * size) (hn : n ≤ 1000000000) :
    All B w0 (sl e size (.slice (some ⟨g, 0, none⟩) n n) n cs :: l) (w.alloc (.cells cs.toArray e)) := hg ▸ h.newSl e size n cs hl hn
theorem All.setSl {B : Nat} {w0 w : World} (l1 : List Ob) {l2 : List Ob} {g n cap size : Nat} {e : TypeId} {xs : List Value} (h : All B w0 (l1 ++ sl e size (.slice (some ⟨g, 0, none⟩) n cap) n xs :: l2) w) (j : Nat) (u : Value) :
    All B w0 (l1 ++ sl e size (.slice (some ⟨g, 0, none⟩) n cap) n (xs.set j u) :: l2) (w.setCell ⟨g, j, none⟩ u) :=
  h.step l1 (o' := sl e size (.slice (some ⟨g, 0, none⟩) n cap) n (xs.set j u)) (own_set h.mid j u) ((Chg.refl (sl e size (.slice (some ⟨g, 0, none⟩) n cap) n xs).F w).setCell ⟨g, j, none⟩ (fun _ => (rfl : some g = some g)) u) (fun k hk => .inl hk)
end Go.Proofs.YtacdbnhnhdlmpaaGreatDoor.W
end
section
namespace Go.Proofs.YtacdbnhnhdlmpaaGreatDoor.W
open Go.RowKit
def setAll : List Value → Nat → List Value → List Value
  | l, _, [] => l
  | l, o, x :: r => setAll (l.set o x) (o + 1) r
theorem setAll_skip (pre rest : List Value) : ∀ (bs : List Value) (o : Nat), setAll (pre ++ rest) (pre.length + o) bs = pre ++ setAll rest o bs := by
  intro bs
  induction bs generalizing rest with
  | nil => intro o; rfl
  | cons b bs ih =>
    intro o
    simp only [setAll]
    rw [List.set_append_right _ _ (by omega), show pre.length + o - pre.length = o by omega, show pre.length + o + 1 = pre.length + (o + 1) by omega]
    exact ih _ _
theorem setAll_head : ∀ (xs bs rest : List Value), xs.length = bs.length → setAll (xs ++ rest) 0 bs = bs ++ rest := by
  intro xs
  induction xs with
  | nil => intro bs rest h; cases bs with | nil => rfl | cons b bs => simp at h
  | cons a xs ih =>
    intro bs rest h
    cases bs with
    | nil => simp at h
    | cons b bs =>
      simp only [setAll, List.cons_append, List.set_cons_zero]
      have := setAll_skip [b] (xs ++ rest) bs 0
      simp only [List.cons_append, List.nil_append, List.length_cons, List.length_nil, Nat.zero_add, Nat.add_zero] at this
      rw [Nat.zero_add, this, ih bs rest (by simpa using h)]
variable {α : Type} {enc : α → List Value} {m : Nat}
def rows (enc : α → List Value) : List α → List Value
  | [] => []
  | x :: r => enc x ++ rows enc r
theorem rows_append (l r : List α) : rows enc (l ++ r) = rows enc l ++ rows enc r := by
  induction l with
  | nil => rfl
  | cons x l ih => simp [rows, ih]
theorem rows_snoc (l : List α) (x : α) : rows enc (l ++ [x]) = rows enc l ++ enc x := by rw [rows_append]; simp [rows]
theorem rows_len (he : ∀ v, (enc v).length = m) (l : List α) : (rows enc l).length = l.length * m := by
  induction l with
  | nil => simp [rows]
  | cons x l ih => simp [rows, ih, he, Nat.succ_mul]; omega
theorem rows_at (he : ∀ v, (enc v).length = m) (l : List α) (i : Nat) (x : α) (h : l[i]? = some x) (j : Nat) (hj : j < m) : (rows enc l)[i * m + j]? = (enc x)[j]? := by
  induction l generalizing i with
  | nil => simp at h
  | cons y l ih =>
    cases i with
    | zero =>
      simp at h
      subst h
      rw [Nat.zero_mul, Nat.zero_add]
      simp only [rows]
      rw [List.getElem?_append_left (by rw [he]; exact hj)]
    | succ i =>
      simp at h
      simp only [rows]
      rw [List.getElem?_append_right (by rw [he, Nat.succ_mul]; omega), he, show (i + 1) * m + j - m = i * m + j by rw [Nat.succ_mul]; omega]
      exact ih i h
theorem rows_field (he : ∀ v, (enc v).length = m) (l : List α) (i j : Nat) (x x' : α) (u : Value) (h : l[i]? = some x) (hj : j < m) (hx : enc x' = (enc x).set j u) : rows enc (l.set i x') = (rows enc l).set (i * m + j) u := by
  induction l generalizing i with
  | nil => simp at h
  | cons y l ih =>
    cases i with
    | zero =>
      simp at h
      subst h
      rw [Nat.zero_mul, Nat.zero_add]
      simp only [rows, List.set_cons_zero]
      rw [List.set_append_left _ _ (by rw [he]; exact hj), hx]
    | succ i =>
      simp at h
      simp only [rows, List.set_cons_succ]
      rw [List.set_append_right _ _ (by rw [he, Nat.succ_mul]; omega), he, show (i + 1) * m + j - m = i * m + j by rw [Nat.succ_mul]; omega, ih i h]
end Go.Proofs.YtacdbnhnhdlmpaaGreatDoor.W
end
section
namespace Go.Proofs.YtacdbnhnhdlmpaaGreatDoor.W
open Go.RowKit
theorem own_trunc {w : World} {e : TypeId} {size g n cap i : Nat} {xs : List Value} (h : Own w e size (.slice (some ⟨g, 0, none⟩) n cap) n xs) (hi : i ≤ n) : Own w e size (.slice (some ⟨g, 0, none⟩) i cap) i (xs.take (i * size)) := by
  obtain ⟨h1, h2⟩ := h
  have hmul : i * size ≤ n * size := Nat.mul_le_mul_right _ hi
  refine ⟨by rw [List.length_take, h1]; exact Nat.min_eq_left hmul, ?_⟩
  rcases h2 with ⟨h', _⟩ | ⟨g', cap', cur, h', hb, hg, hc, hm, hs, ht⟩
  · simp at h'
  · simp only [Value.slice.injEq, Option.some.injEq, Addr.mk.injEq, and_true, true_and] at h'
    obtain ⟨rfl, rfl⟩ := h'
    refine .inr ⟨g, cap, cur, rfl, hb, hg, by omega, hm, hs, ?_⟩
    rw [← ht, List.take_take, Nat.min_eq_left hmul]
theorem rows_take {α : Type} {enc : α → List Value} {m : Nat} (he : ∀ v, (enc v).length = m) (l : List α) (i : Nat) : (rows enc l).take (i * m) = rows enc (l.take i) := by
  induction l generalizing i with
  | nil => simp [rows]
  | cons x l ih =>
    cases i with
    | zero => simp [rows]
    | succ i =>
      simp only [rows, List.take_succ_cons]
      rw [Nat.succ_mul, Nat.add_comm, ← he x, List.take_length_add_append, he, ih]
end Go.Proofs.YtacdbnhnhdlmpaaGreatDoor.W
end
