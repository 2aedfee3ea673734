/- Texts joined: Mem Salt Tre AtT. -/
import Derived.WalkKit
import Derived.BigQuiet
import Derived.Lib.Hide
import Derived.WalkSmall
import Derived.Test.YtfdofkokiaapoaaGreatDoorRows
section
/- Small laws on memory: what a call may have changed ('Chg'), blocks that are known whole, rows of cells that a slice owns. No program in sight. -/
namespace Go.Proofs.YtfdofkokiaapoaaGreatDoor.W
open Go.RowKit

/-- w' is w with new blocks, and with changes in the blocks of F alone. -/
structure Chg (F : Nat → Prop) (w w' : World) : Prop where
  os : w'.os = w.os
  tape : w'.tape = w.tape
  output : w'.output = w.output
  size : w.heap.size ≤ w'.heap.size
  block : ∀ k, k < w.heap.size → ¬ F k → w'.heap[k]? = w.heap[k]?

theorem Chg.refl (F : Nat → Prop) (w : World) : Chg F w w := ⟨rfl, rfl, rfl, Nat.le_refl _, fun _ _ _ => rfl⟩
theorem Chg.mono {F G : Nat → Prop} {w w' : World} (h : Chg F w w') (k : ∀ i, i < w.heap.size → F i → G i) : Chg G w w' :=
  ⟨h.os, h.tape, h.output, h.size, fun i hi hg => h.block i hi (fun hf => hg (k i hi hf))⟩
/-- two steps: the second may also write what the first has made -/
theorem Chg.trans {F G : Nat → Prop} {a b c : World} (h : Chg F a b) (k : Chg G b c) (hG : ∀ i, i < a.heap.size → G i → F i) : Chg F a c :=
  ⟨k.os.trans h.os, k.tape.trans h.tape, k.output.trans h.output, Nat.le_trans h.size k.size,
   fun i hi hf => (k.block i (Nat.lt_of_lt_of_le hi h.size) (fun hg => hf (hG i hi hg))).trans (h.block i hi hf)⟩
theorem Chg.of_below {F : Nat → Prop} {w w' : World} (h : Below w.heap.size w w') : Chg F w w' := ⟨h.os, h.tape, h.output, h.size, fun k hk _ => h.block k hk⟩
theorem Chg.below {F : Nat → Prop} {B : Nat} {w w' : World} (h : Chg F w w') (hB : B ≤ w.heap.size) (hF : ∀ k, F k → B ≤ k) : Below B w w' :=
  ⟨h.os, h.tape, h.output, h.size, fun k hk => h.block k (by omega) (fun hf => by have := hF k hf; omega)⟩
theorem Chg.drew {F : Nat → Prop} {a w : World} (h : Chg F a w) : Chg F a w.drew := ⟨h.os, h.tape, h.output, h.size, h.block⟩
theorem Chg.drewN {F : Nat → Prop} {a w : World} (h : Chg F a w) (n : Nat) : Chg F a (w.drewN n) := ⟨h.os, h.tape, h.output, h.size, h.block⟩
theorem Chg.alloc {F : Nat → Prop} {a w : World} (h : Chg F a w) (o : Obj) : Chg F a (w.alloc o) :=
  h.trans (G := F) ⟨rfl, rfl, rfl, by simp, fun k hk _ => Below.heap_alloc _ _ _ (by omega)⟩ (fun _ _ h => h)
theorem Chg.setCell {F : Nat → Prop} {a w : World} (h : Chg F a w) (p : Addr) (hp : p.block < a.heap.size → F p.block) (u : Value) : Chg F a (w.setCell p u) :=
  h.trans (G := fun k => k = p.block) ⟨rfl, rfl, rfl, by simp [World.setCell], fun k _ hf => Below.heap_setCell _ _ _ _ hf⟩ (fun i hi e => by subst e; exact hp hi)
theorem Chg.grown {F : Nat → Prop} {a w w' : World} {row : Option Nat} (h : Chg F a w) (hg : w.grownBy w' row) (hr : ∀ k, row = some k → k < a.heap.size → F k) : Chg F a w' :=
  h.trans (G := fun k => row = some k) ⟨hg.os, hg.tape, hg.output, hg.size, fun k hk hf => hg.block k hk (fun e => hf e.symm)⟩ (fun i hi e => hr i e hi)

theorem Below.drewN {B : Nat} {a w : World} (h : Below B a w) (n : Nat) : Below B a (w.drewN n) := ⟨h.os, h.tape, h.output, h.size, h.block⟩
theorem bcell {W w1 : World} (hb : Below W.heap.size W w1) : (∀ b o, b < W.heap.size → w1.cell? ⟨b, o, none⟩ = W.cell? ⟨b, o, none⟩) ∧ (∀ b o, b < W.heap.size → w1.frozen? ⟨b, o, none⟩ = W.frozen? ⟨b, o, none⟩) :=
  ⟨fun b o h => hb.cell (p := ⟨b, o, none⟩) h, fun b o h => hb.frozen (p := ⟨b, o, none⟩) h⟩
/-- one more step that leaves alone what was there -/
theorem bthen {W w1 w2 : World} (h : Below W.heap.size W w1) (k : Below w1.heap.size w1 w2) : Below W.heap.size W w2 := h.trans (k.mono h.size)

/-- a block that is known whole: its cells, none of them frozen -/
def Blk (w : World) (g : Nat) (cs : List Value) (t : TypeId) : Prop := w.heap[g]? = some (.cells cs.toArray t (0, 0))
theorem Blk.lt {w : World} {g : Nat} {cs : List Value} {t : TypeId} (h : Blk w g cs t) : g < w.heap.size := lt_of_block h
theorem Blk.cell {w : World} {g : Nat} {cs : List Value} {t : TypeId} (h : Blk w g cs t) (j : Nat) : w.cell? ⟨g, j, none⟩ = cs[j]? := by
  unfold Blk at h; simp [World.cell?, h]
theorem Blk.free {w : World} {g : Nat} {cs : List Value} {t : TypeId} (h : Blk w g cs t) (j : Nat) : w.frozen? ⟨g, j, none⟩ = false := by
  unfold Blk at h; simp [World.frozen?, h]
theorem Blk.kept {w w' : World} {g : Nat} {cs : List Value} {t : TypeId} (h : Blk w g cs t) (e : w'.heap[g]? = w.heap[g]?) : Blk w' g cs t := by
  unfold Blk at *; rw [e]; exact h
theorem Blk.chg {F : Nat → Prop} {w w' : World} {g : Nat} {cs : List Value} {t : TypeId} (h : Blk w g cs t) (k : Chg F w w') (hg : ¬ F g) : Blk w' g cs t :=
  h.kept (k.block g h.lt hg)
theorem Blk.below {w w' : World} {g : Nat} {cs : List Value} {t : TypeId} (h : Blk w g cs t) (k : Below w.heap.size w w') : Blk w' g cs t :=
  h.kept (k.block g h.lt)
theorem Blk.set {w : World} {g : Nat} {cs : List Value} {t : TypeId} (h : Blk w g cs t) (j : Nat) (u : Value) : Blk (w.setCell ⟨g, j, none⟩ u) g (cs.set j u) t := by
  have hlt := h.lt
  unfold Blk at *
  have h' : w.heap[g] = .cells cs.toArray t (0, 0) := by simpa [Array.getElem?_eq_getElem hlt] using h
  show (w.heap.modify g _)[g]? = _
  rw [Array.getElem?_eq_getElem (by simpa using hlt), Array.getElem_modify_self, h']
  simp
theorem Blk.setOther {w : World} {g : Nat} {cs : List Value} {t : TypeId} (h : Blk w g cs t) (p : Addr) (hp : g ≠ p.block) (u : Value) : Blk (w.setCell p u) g cs t :=
  h.kept (Below.heap_setCell _ _ _ _ hp)
theorem Blk.new (w : World) (cs : List Value) (t : TypeId) : Blk (w.alloc (.cells cs.toArray t)) w.heap.size cs t := heap_alloc_new w _
theorem Blk.alloc {w : World} {g : Nat} {cs : List Value} {t : TypeId} (h : Blk w g cs t) (o : Obj) : Blk (w.alloc o) g cs t := h.kept (Below.heap_alloc w o g h.lt)

/-- a slice that owns a row of cells, wherever it lies -/
abbrev Own (w : World) (e : TypeId) (size : Nat) (v : Value) (n : Nat) (xs : List Value) : Prop := w.ownsRow 0 e size v n xs
theorem own_shape {w : World} {e : TypeId} {size : Nat} {v : Value} {n : Nat} {xs : List Value} (h : Own w e size v n xs) : ∃ a cap, v = .slice a n cap := by
  rcases h.2 with ⟨rfl, rfl⟩ | ⟨g, cap, cur, rfl, _⟩
  · exact ⟨none, 0, rfl⟩
  · exact ⟨_, _, rfl⟩
theorem own_some {w : World} {e : TypeId} {size : Nat} {v : Value} {n : Nat} {xs : List Value} (h : Own w e size v n xs) (hn : 0 < n) : ∃ g cap, v = .slice (some ⟨g, 0, none⟩) n cap ∧ n ≤ cap := by
  rcases h.2 with ⟨rfl, rfl⟩ | ⟨g, cap, cur, rfl, _, _, hc, _⟩
  · omega
  · exact ⟨_, _, rfl, hc⟩
theorem own_lt {w : World} {e : TypeId} {size : Nat} {v : Value} {n : Nat} {xs : List Value} (h : Own w e size v n xs) {k : Nat} (hk : v.ownBlock = some k) : k < w.heap.size := (h.lt k hk).2
theorem own_kept {w w' : World} {e : TypeId} {size : Nat} {v : Value} {n : Nat} {xs : List Value} (h : Own w e size v n xs) (k : ∀ g, v.ownBlock = some g → w'.heap[g]? = w.heap[g]?) : Own w' e size v n xs := by
  refine ⟨h.1, ?_⟩
  rcases h.2 with hn | ⟨g, cap, cur, rfl, hb, hgg, rest⟩
  · exact .inl hn
  · exact .inr ⟨g, cap, cur, rfl, hb, by rw [k g rfl]; exact hgg, rest⟩
theorem own_chg {F : Nat → Prop} {w w' : World} {e : TypeId} {size : Nat} {v : Value} {n : Nat} {xs : List Value} (h : Own w e size v n xs) (k : Chg F w w') (hF : ∀ g, v.ownBlock = some g → ¬ F g) : Own w' e size v n xs :=
  own_kept h fun g hg => k.block g (own_lt h hg) (hF g hg)
theorem own_below {w w' : World} {e : TypeId} {size : Nat} {v : Value} {n : Nat} {xs : List Value} (h : Own w e size v n xs) (k : Below w.heap.size w w') : Own w' e size v n xs :=
  own_kept h fun g hg => k.block g (own_lt h hg)
theorem own_set {w : World} {e : TypeId} {size g n cap : Nat} {xs : List Value} (h : Own w e size (.slice (some ⟨g, 0, none⟩) n cap) n xs) (j : Nat) (u : Value) : Own (w.setCell ⟨g, j, none⟩ u) e size (.slice (some ⟨g, 0, none⟩) n cap) n (xs.set j u) := (h.stored j u).1
theorem own_setOther {w : World} {e : TypeId} {size n : Nat} {v : Value} {xs : List Value} (h : Own w e size v n xs) (p : Addr) (hp : v.ownBlock ≠ some p.block) (u : Value) : Own (w.setCell p u) e size v n xs :=
  own_kept h fun g hg => Below.heap_setCell _ _ _ _ (by rintro rfl; exact hp hg)
/-- the last element taken off -/
theorem own_pop {w : World} {e : TypeId} {size g n cap : Nat} {xs : List Value} (h : Own w e size (.slice (some ⟨g, 0, none⟩) (n + 1) cap) (n + 1) xs) : Own w e size (.slice (some ⟨g, 0, none⟩) n cap) n (xs.take (n * size)) := by
  obtain ⟨h1, h2⟩ := h
  refine ⟨by rw [List.length_take, h1]; exact Nat.min_eq_left (Nat.mul_le_mul_right _ (Nat.le_succ n)), ?_⟩
  rcases h2 with ⟨h', _⟩ | ⟨g', cap', cur, h', hb, hg, hc, hm, hs, ht⟩
  · simp at h'
  · simp only [Value.slice.injEq, Option.some.injEq, Addr.mk.injEq, and_true, true_and] at h'
    obtain ⟨rfl, rfl⟩ := h'
    refine .inr ⟨g, cap, cur, rfl, hb, hg, by omega, hm, hs, ?_⟩
    rw [← ht, List.take_take, Nat.min_eq_left (Nat.mul_le_mul_right _ (Nat.le_succ n))]
end Go.Proofs.YtfdofkokiaapoaaGreatDoor.W
end
section
/- The contracts of Norm, Handle and Index: what they compute for every salt and number. -/
namespace Go.Proofs.YtfdofkokiaapoaaGreatDoor.W
open Go.RowKit

def bnd (n : Int) : Int := min (max n 1) 1000
theorem bnd_lo (n : Int) : 1 ≤ bnd n := by unfold bnd; omega
theorem bnd_hi (n : Int) : bnd n ≤ 1000 := by unfold bnd; omega
theorem bnd_a {n : Int} (h : n < 1) : bnd n = 1 := by unfold bnd; omega
theorem bnd_b {n : Int} (h2 : 1000 < n) : bnd n = 1000 := by unfold bnd; omega
theorem bnd_c {n : Int} (h : 1 ≤ n) (h2 : n ≤ 1000) : bnd n = n := by unfold bnd; omega
theorem ret_int {k : IntKind} {a b : Int} (h : a = b) : Ending.returned (.int k a) = .returned (.int k b) := by rw [h]

theorem norm_cells (b s : Int) (w : World) :
    Calls Tryz.prog 91 #[.agg #[.int .i64 b, .int .i64 s]] w fun e w' => e = .returned (.agg #[.int .i64 (bnd b), .int .i64 (bnd s)]) ∧ Below w.heap.size w w' := by
  go_enter Tryz.func91, Tryz.ntmps91
  go_wp2
  all_goals
    refine bodyPost_ret (v := .agg #[.int .i64 (bnd b), .int .i64 (bnd s)]) ?_ rfl ⟨rfl, ((Below.refl _ _).alloc (Nat.le_refl _) _).alloc (by simp) _⟩
    first
      | rw [bnd_a (n := b) ‹_›]
      | rw [bnd_b (n := b) ‹_›]
      | rw [bnd_c (n := b) ‹_› ‹_›]
    first
      | rw [bnd_a (n := s) ‹_›]
      | rw [bnd_b (n := s) ‹_›]
      | rw [bnd_c (n := s) ‹_› ‹_›]
    simp [results, Tryz.results91, go_sem]

/-- the handle of a slot -/
def hdl (b s slot : Int) : Int := if slot < 0 ∨ 2147483647 < slot then 0 else bnd b + bnd s * slot
/-- the slot of a handle -/
def idx (b s h : Int) : Int := if h < bnd b ∨ (h - bnd b) % bnd s ≠ 0 ∨ 2147483647 < (h - bnd b) / bnd s then -1 else (h - bnd b) / bnd s

theorem mul_small {a b : Int} (ha : 1 ≤ a) (ha' : a ≤ 1000) (hb : 0 ≤ b) (hb' : b ≤ 2147483647) : 0 ≤ a * b ∧ a * b ≤ 2147483647000 := by
  refine ⟨Int.mul_nonneg (by omega) hb, ?_⟩
  have h1 : a * b ≤ 1000 * b := Int.mul_le_mul_of_nonneg_right ha' hb
  omega

theorem handle_any (b s slot : Int) (w : World) :
    Calls Tryz.prog 78 #[.agg #[.int .i64 b, .int .i64 s], .int .i64 slot] w fun e w' => e = .returned (.int .i64 (hdl b s slot)) ∧ Below w.heap.size w w' := by
  by_cases h0 : slot < 0
  · have e0 : hdl b s slot = 0 := by unfold hdl; rw [if_pos (.inl h0)]
    rw [e0]
    go_enter Tryz.func78, Tryz.ntmps78
    go_wp2
    go_ret
    exact ⟨rfl, (Below.refl _ _).alloc (Nat.le_refl _) _⟩
  · by_cases h1 : 2147483647 < slot
    · have e0 : hdl b s slot = 0 := by unfold hdl; rw [if_pos (.inr h1)]
      rw [e0]
      go_enter Tryz.func78, Tryz.ntmps78
      go_wp2
      go_ret
      exact ⟨rfl, (Below.refl _ _).alloc (Nat.le_refl _) _⟩
    · have e0 : hdl b s slot = bnd b + bnd s * slot := by unfold hdl; rw [if_neg (by omega)]
      rw [e0]; clear e0
      have b1 := bnd_lo b
      have b2 := bnd_hi b
      have s1 := bnd_lo s
      have s2 := bnd_hi s
      have hm := mul_small s1 s2 (by omega) (by omega : slot ≤ 2147483647)
      obtain ⟨hm1, hm2⟩ := hm
      go_enter Tryz.func78, Tryz.ntmps78
      go_wp2_with (go_at_call 91; refine (norm_cells b s _).mono ?_; rintro e w1 ⟨rfl, hb1⟩)
      go_ret
      refine ⟨rfl, ?_⟩
      exact (bthen ((Below.refl _ _).alloc (Nat.le_refl _) _) hb1).alloc (by have := hb1.size; simp at this; omega) _

theorem idx_no {b s h : Int} (k : h < bnd b ∨ (h - bnd b) % bnd s ≠ 0 ∨ 2147483647 < (h - bnd b) / bnd s) : idx b s h = -1 := by
  unfold idx; rw [if_pos k]
theorem idx_yes {b s h : Int} (k1 : bnd b ≤ h) (k2 : (h - bnd b) % bnd s = 0) (k3 : (h - bnd b) / bnd s ≤ 2147483647) : idx b s h = (h - bnd b) / bnd s := by
  unfold idx; rw [if_neg]; rintro (h | h | h) <;> omega

theorem index_any (b s h : Int) (w : World) (h1 : -9223372036854775808 ≤ h) (h2 : h ≤ 9223372036854775807) :
    Calls Tryz.prog 107 #[.agg #[.int .i64 b, .int .i64 s], .int .i64 h] w fun e w' => e = .returned (.int .i64 (idx b s h)) ∧ Below w.heap.size w w' := by
  have b1 := bnd_lo b
  have b2 := bnd_hi b
  have s1 := bnd_lo s
  have s2 := bnd_hi s
  go_enter Tryz.func107, Tryz.ntmps107
  go_wp2_with (go_at_call 91; refine (norm_cells b s _).mono ?_; rintro e w1 ⟨rfl, hb1⟩)
  all_goals
    go_ret
    refine ⟨ret_int ?_, (bthen ((Below.refl _ _).alloc (Nat.le_refl _) _) hb1).alloc (by have := hb1.size; simp at this; omega) _⟩
    first
      | exact (idx_no (.inl (by omega))).symm
      | exact (idx_no (.inr (.inl (by assumption)))).symm
      | exact (idx_no (.inr (.inr (by omega)))).symm
      | exact (idx_yes (by omega) (by assumption) (by omega)).symm

end Go.Proofs.YtfdofkokiaapoaaGreatDoor.W
end
section
/- A tree in memory: its state, what is read of it, and the contracts of Len, find, At and at. -/
namespace Go.Proofs.YtfdofkokiaapoaaGreatDoor.W
open Go.RowKit
set_option linter.unusedVariables false
set_option linter.unusedSimpArgs false

/-- a node as it lies in its slot; 'av' is the slice of its attributes, 'attrs' what that slice holds -/
structure Nd where
  kind : Int
  name : List UInt8
  av : Value
  attrs : List (List UInt8 × List UInt8)
  data : List UInt8
  parent : Int
  first : Int
  last : Int
  prev : Int
  next : Int
def strV (l : List UInt8) : Value := .string ⟨l.toArray⟩
/-- the cells of a node -/
def ndC (n : Nd) : List Value := [.int .i64 n.kind, strV n.name, n.av, strV n.data, .int .i64 n.parent, .int .i64 n.first, .int .i64 n.last, .int .i64 n.prev, .int .i64 n.next]
def zeroC : List Value := [.int .i64 0, strV [], .slice none 0 0, strV [], .int .i64 0, .int .i64 0, .int .i64 0, .int .i64 0, .int .i64 0]
/-- the cells of a slot -/
def slotC : Option Nd → List Value
  | none => .bool false :: zeroC
  | some n => .bool true :: ndC n
theorem slotC_len (x : Option Nd) : (slotC x).length = 10 := by cases x <;> rfl
def rowC (l : List (Option Nd)) : List Value := l.flatMap slotC
theorem rowC_len (l : List (Option Nd)) : (rowC l).length = l.length * 10 := by
  induction l with
  | nil => rfl
  | cons x l ih => rw [rowC, List.flatMap_cons, List.length_append, slotC_len, List.length_cons]; unfold rowC at ih; omega
theorem rowC_at (l : List (Option Nd)) (i : Nat) (x : Option Nd) (h : l[i]? = some x) (j : Nat) (hj : j < 10) : (rowC l)[i * 10 + j]? = (slotC x)[j]? := by
  induction l generalizing i with
  | nil => simp at h
  | cons y l ih =>
    rw [rowC, List.flatMap_cons]
    cases i with
    | zero =>
      simp at h; subst h
      rw [List.getElem?_append_left (by rw [slotC_len]; omega)]
      congr 1; omega
    | succ i =>
      rw [List.getElem?_append_right (by rw [slotC_len]; omega), slotC_len, show (i + 1) * 10 + j - 10 = i * 10 + j by omega]
      exact ih i (by simpa using h)
theorem rowC_set (l : List (Option Nd)) (i : Nat) (x : Option Nd) (hi : i < l.length) (j : Nat) (u : Value) (hj : j < 10) (y : Option Nd) (hy : l[i]? = some y) (hx : slotC x = (slotC y).set j u) : rowC (l.set i x) = (rowC l).set (i * 10 + j) u := by
  induction l generalizing i with
  | nil => simp at hi
  | cons z l ih =>
    cases i with
    | zero =>
      simp at hy; subst hy
      simp only [List.set_cons_zero, rowC, List.flatMap_cons]
      rw [hx, List.set_append_left _ _ (by rw [slotC_len]; omega)]
      congr 2; omega
    | succ i =>
      simp only [List.set_cons_succ, rowC, List.flatMap_cons]
      rw [List.set_append_right _ _ (by rw [slotC_len]; omega), slotC_len, show (i + 1) * 10 + j - 10 = i * 10 + j by omega]
      congr 1
      exact ih i (by simpa using hi) (by simpa using hy)

/-- a tree -/
structure Tr where
  b : Int
  s : Int
  slots : List (Option Nd)
  free : List Nat
  root : Int
def Tr.live (S : Tr) : Nat := (S.slots.filter Option.isSome).length
/-- the handle of a slot -/
def Tr.hd (S : Tr) (i : Nat) : Int := hdl S.b S.s i
/-- the slot of a handle that names a node -/
def Tr.ix (S : Tr) (h : Int) : Option Nat :=
  if 0 ≤ idx S.b S.s h ∧ ((S.slots[(idx S.b S.s h).toNat]?).map Option.isSome) = some true then some (idx S.b S.s h).toNat else none
/-- the node of a handle -/
def Tr.nd (S : Tr) (h : Int) : Option Nd := (S.ix h).bind fun i => (S.slots[i]?).join

/-- the attributes that a slice value holds (read) -/
def AttrAt (B : Nat) (w : World) (av : Value) (l : List (List UInt8 × List UInt8)) : Prop :=
  ∃ a cap, av = .slice a l.length cap ∧ (l = [] ∨ ∃ g cur, a = some ⟨g, 0, none⟩ ∧ B ≤ g ∧ w.heap[g]? = some (.cells cur 118 (0, 0)) ∧
    ∀ i p, l[i]? = some p → cur[2 * i]? = some (strV p.1) ∧ cur[2 * i + 1]? = some (strV p.2))

/-- a tree in memory -/
structure TAt (B R : Nat) (S : Tr) (sv fv : Value) (w : World) : Prop where
  blk : Blk w R [.int .i64 S.b, .int .i64 S.s, sv, fv, .int .i64 S.live, .int .i64 S.root] 78
  slots : w.ownsRow B 141 10 sv S.slots.length (rowC S.slots)
  free : w.ownsRow B 3 1 fv S.free.length (S.free.map fun (i : Nat) => Value.int .i64 (i : Int))
  attrs : ∀ (i : Nat) (n : Nd), S.slots[i]? = some (some n) → AttrAt B w n.av n.attrs
  base : B ≤ R
  few : S.slots.length ≤ 2000000000

theorem TAt.below {B R : Nat} {S : Tr} {sv fv : Value} {w w' : World} (h : TAt B R S sv fv w) (hb : Below w.heap.size w w') : TAt B R S sv fv w' := by
  have keep : ∀ {e sz n : Nat} {v : Value} {xs : List Value}, w.ownsRow B e sz v n xs → w'.ownsRow B e sz v n xs := fun h =>
    h.kept (row := none) ⟨hb.os, hb.tape, hb.output, hb.size, fun k hk _ => hb.block k hk⟩ (by rename_i v _; cases e : v.ownBlock with | none => exact Or.inl rfl | some g => exact Or.inr (by simp))
  refine ⟨h.blk.below hb, keep h.slots, keep h.free, fun i n hi => ?_, h.base, h.few⟩
  obtain ⟨a, cap, e, h'⟩ := h.attrs i n hi
  refine ⟨a, cap, e, h'.imp id ?_⟩
  rintro ⟨g, cur, e, hB, hg, hc⟩
  exact ⟨g, cur, e, hB, (hb.block g (lt_of_block hg)).trans hg, hc⟩

theorem ix_some {S : Tr} {h : Int} {i : Nat} (k : S.ix h = some i) : idx S.b S.s h = (i : Int) ∧ i < S.slots.length ∧ ∃ n, S.slots[i]? = some (some n) := by
  unfold Tr.ix at k
  split at k
  · rename_i c
    obtain ⟨c1, c2⟩ := c
    simp only [Option.some.injEq] at k
    subst k
    rw [Option.map_eq_some_iff] at c2
    obtain ⟨x, hx, hs⟩ := c2
    obtain ⟨n, rfl⟩ := Option.isSome_iff_exists.1 hs
    exact ⟨by omega, (List.getElem?_eq_some_iff.1 hx).1, n, hx⟩
  · cases k
theorem ix_none {S : Tr} {h : Int} (k : S.ix h = none) (h0 : 0 ≤ idx S.b S.s h) (h1 : (idx S.b S.s h).toNat < S.slots.length) : S.slots[(idx S.b S.s h).toNat]? = some none := by
  unfold Tr.ix at k
  split at k
  · cases k
  · rename_i c
    rw [List.getElem?_eq_getElem h1] at c ⊢
    generalize S.slots[(idx S.b S.s h).toNat] = x at c ⊢
    cases x with
    | none => rfl
    | some n => exact absurd ⟨h0, rfl⟩ c
theorem idx_lo (b s h : Int) : -1 ≤ idx b s h := by
  unfold idx
  have := bnd_lo s
  split
  · omega
  · rename_i k
    have : 0 ≤ (h - bnd b) / bnd s := Int.ediv_nonneg (by omega) (by omega)
    omega
theorem idx_hi (b s h : Int) : idx b s h ≤ 2147483647 := by
  unfold idx
  split <;> omega

/-- a handle as a machine number -/
def HOk (h : Int) : Prop := -9223372036854775808 ≤ h ∧ h ≤ 9223372036854775807

set_option maxRecDepth 100000 in
set_option maxHeartbeats 2000000 in
theorem len_any {B R : Nat} {S : Tr} {sv fv : Value} {w : World} (h : TAt B R S sv fv w) :
    Calls Tryz.prog 53 #[.pointer (some ⟨R, 0, none⟩)] w fun e w' => e = .returned (.int .i64 S.live) ∧ w' = w := by
  have c := h.blk.cell 4
  simp at c
  clear h
  go_enter Tryz.func53, Tryz.ntmps53
  go_wp2
  go_ret
  exact ⟨rfl, rfl⟩

/-- the value of a slice of slots -/
theorem slots_shape {B R : Nat} {S : Tr} {sv fv : Value} {w : World} (h : TAt B R S sv fv w) : ∃ a cap, sv = .slice a S.slots.length cap := by
  rcases h.slots.2 with ⟨rfl, e⟩ | ⟨g, cap, cur, rfl, _⟩
  · exact ⟨none, 0, by rw [e]⟩
  · exact ⟨_, _, rfl⟩
theorem slots_some {B R : Nat} {S : Tr} {sv fv : Value} {w : World} (h : TAt B R S sv fv w) (hn : 0 < S.slots.length) : ∃ g cap, sv = .slice (some ⟨g, 0, none⟩) S.slots.length cap := by
  rcases h.slots.2 with ⟨_, e⟩ | ⟨g, cap, cur, rfl, _⟩
  · omega
  · exact ⟨_, _, rfl⟩
/-- a cell of a slot -/
theorem slot_cell {B R g cap : Nat} {S : Tr} {fv : Value} {w : World} (h : TAt B R S (.slice (some ⟨g, 0, none⟩) S.slots.length cap) fv w) {i : Nat} {x : Option Nd} (hx : S.slots[i]? = some x) (j : Nat) (hj : j < 10) :
    w.cell? ⟨g, i * 10 + j, none⟩ = (slotC x)[j]? := by
  have hl : j < (slotC x).length := by rw [slotC_len]; exact hj
  rw [List.getElem?_eq_getElem hl]
  have := h.slots.cells (g := g) rfl (i * 10 + j) (slotC x)[j] (by rw [rowC_at _ _ _ hx _ hj, List.getElem?_eq_getElem hl])
  rw [show (⟨g, 0, none⟩ : Addr).add (i * 10 + j) = ⟨g, i * 10 + j, none⟩ by unfold Addr.add; split <;> simp_all] at this
  exact this

set_option maxRecDepth 100000 in
set_option maxHeartbeats 2000000 in
theorem find_none {B R : Nat} {S : Tr} {sv fv : Value} {w : World} (h : TAt B R S sv fv w) (hd : Int) (hh : HOk hd) (hk : S.ix hd = none) :
    Calls Tryz.prog 98 #[.pointer (some ⟨R, 0, none⟩), .int .i64 hd] w fun e w' => e = .returned (.pointer none) ∧ Below w.heap.size w w' := by
  have c0 := h.blk.cell 0
  have c1 := h.blk.cell 1
  have c2 := h.blk.cell 2
  have hlt := h.blk.lt
  simp at c0 c1 c2
  have i1 := idx_lo S.b S.s hd
  have i2 := idx_hi S.b S.s hd
  have L := ix_none hk
  clear hk
  have HI := Lib.hid (fun W => index_any S.b S.s hd W hh.1 hh.2)
  generalize hj : idx S.b S.s hd = j at i1 i2 L HI
  clear hj
  by_cases hneg : j < 0
  · obtain ⟨a, cap, rfl⟩ := slots_shape h
    clear L h
    go_enter Tryz.func98, Tryz.ntmps98
    go_wp2_with fail
    refine (HI.out _).mono ?_
    rintro e w2 ⟨rfl, hb2⟩
    obtain ⟨hc, hf⟩ := bcell hb2
    go_wp2_with fail
    go_ret
    exact ⟨rfl, hb2⟩
  · by_cases hge : (S.slots.length : Int) ≤ j
    · obtain ⟨a, cap, rfl⟩ := slots_shape h
      clear L h
      go_enter Tryz.func98, Tryz.ntmps98
      go_wp2_with fail
      refine (HI.out _).mono ?_
      rintro e w2 ⟨rfl, hb2⟩
      obtain ⟨hc, hf⟩ := bcell hb2
      go_wp2_with fail
      go_ret
      exact ⟨rfl, hb2⟩
    · have hx := L (by omega) (by omega)
      obtain ⟨k, rfl⟩ := Int.eq_ofNat_of_zero_le (a := j) (by omega)
      obtain ⟨g, cap, rfl⟩ := slots_some h (by omega)
      rw [Int.toNat_natCast] at hx
      have u := slot_cell h hx 0 (by omega)
      simp only [slotC, List.getElem?_cons_zero, Nat.add_zero] at u
      have hg := (h.slots.lt g rfl).2
      have hk1 : k < S.slots.length := by omega
      clear L h hx
      go_enter Tryz.func98, Tryz.ntmps98
      go_wp2_with fail
      refine (HI.out _).mono ?_
      rintro e w2 ⟨rfl, hb2⟩
      obtain ⟨hc, hf⟩ := bcell hb2
      go_wp2_with fail
      go_ret
      exact ⟨rfl, hb2⟩

set_option maxRecDepth 100000 in
set_option maxHeartbeats 2000000 in
theorem find_some {B R g cap : Nat} {S : Tr} {fv : Value} {w : World} (h : TAt B R S (.slice (some ⟨g, 0, none⟩) S.slots.length cap) fv w) (hd : Int) (hh : HOk hd) {k : Nat} (hk : S.ix hd = some k) :
    Calls Tryz.prog 98 #[.pointer (some ⟨R, 0, none⟩), .int .i64 hd] w fun e w' => e = .returned (.pointer (some ⟨g, k * 10, none⟩)) ∧ Below w.heap.size w w' := by
  have c0 := h.blk.cell 0
  have c1 := h.blk.cell 1
  have c2 := h.blk.cell 2
  have hlt := h.blk.lt
  simp at c0 c1 c2
  obtain ⟨L1, L2, n, hn⟩ := ix_some hk
  have I := fun W => index_any S.b S.s hd W hh.1 hh.2
  rw [L1] at I
  have HI := Lib.hid I
  have u := slot_cell h hn 0 (by omega)
  simp only [slotC, List.getElem?_cons_zero, Nat.add_zero] at u
  have hg := (h.slots.lt g rfl).2
  clear I L1 hk hn h
  go_enter Tryz.func98, Tryz.ntmps98
  go_wp2_with fail
  refine (HI.out _).mono ?_
  rintro e w2 ⟨rfl, hb2⟩
  obtain ⟨hc, hf⟩ := bcell hb2
  go_wp2_with fail
  go_ret
  exact ⟨rfl, hb2⟩
end Go.Proofs.YtfdofkokiaapoaaGreatDoor.W
end
section
/- The contracts of At and at; handles. -/
namespace Go.Proofs.YtfdofkokiaapoaaGreatDoor.W
open Go.RowKit
set_option linter.unusedVariables false
set_option linter.unusedSimpArgs false

/-- the address of a node -/
abbrev na (g k : Nat) : Addr := ⟨g, k * 10 + 1, none⟩

set_option maxRecDepth 100000 in
set_option maxHeartbeats 2000000 in
theorem At_none {B R : Nat} {S : Tr} {sv fv : Value} {w : World} (h : TAt B R S sv fv w) (hd : Int) (hh : HOk hd) (hk : S.ix hd = none) :
    Calls Tryz.prog 85 #[.pointer (some ⟨R, 0, none⟩), .int .i64 hd] w fun e w' => e = .returned (.pointer none) ∧ Below w.heap.size w w' := by
  have HF := Lib.hid (find_none h hd hh hk)
  clear h hk
  go_enter Tryz.func85, Tryz.ntmps85
  go_wp2_with fail
  refine HF.out.mono ?_
  rintro e w2 ⟨rfl, hb2⟩
  go_wp2_with fail
  go_ret
  exact ⟨rfl, hb2⟩

set_option maxRecDepth 100000 in
set_option maxHeartbeats 2000000 in
theorem At_some {B R g cap : Nat} {S : Tr} {fv : Value} {w : World} (h : TAt B R S (.slice (some ⟨g, 0, none⟩) S.slots.length cap) fv w) (hd : Int) (hh : HOk hd) {k : Nat} (hk : S.ix hd = some k) :
    Calls Tryz.prog 85 #[.pointer (some ⟨R, 0, none⟩), .int .i64 hd] w fun e w' => e = .returned (.pointer (some (na g k))) ∧ Below w.heap.size w w' := by
  have HF := Lib.hid (find_some h hd hh hk)
  obtain ⟨_, _, n, hn⟩ := ix_some hk
  have u := slot_cell h hn 0 (by omega)
  simp only [slotC, List.getElem?_cons_zero, Nat.add_zero] at u
  have hg := (h.slots.lt g rfl).2
  clear h hk hn
  go_enter Tryz.func85, Tryz.ntmps85
  go_wp2_with fail
  refine HF.out.mono ?_
  rintro e w2 ⟨rfl, hb2⟩
  obtain ⟨hc, hf⟩ := bcell hb2
  go_wp2_with fail
  go_ret
  exact ⟨rfl, hb2⟩

set_option maxRecDepth 100000 in
set_option maxHeartbeats 2000000 in
theorem at_none {B R : Nat} {S : Tr} {sv fv : Value} {w : World} (h : TAt B R S sv fv w) (hd : Int) (hh : HOk hd) (hk : S.ix hd = none) :
    Calls Tryz.prog 57 #[.pointer (some ⟨R, 0, none⟩), .int .i64 hd] w fun e w' => e = .returned (.pointer none) ∧ Below w.heap.size w w' := by
  have HF := Lib.hid (At_none h hd hh hk)
  have c0 := h.blk.cell 0
  simp at c0
  clear h hk
  go_enter Tryz.func57, Tryz.ntmps57
  go_wp2_with fail
  refine HF.out.mono ?_
  rintro e w2 ⟨rfl, hb2⟩
  go_wp2_with fail
  go_ret
  exact ⟨rfl, hb2⟩

set_option maxRecDepth 100000 in
set_option maxHeartbeats 2000000 in
theorem at_some {B R g cap : Nat} {S : Tr} {fv : Value} {w : World} (h : TAt B R S (.slice (some ⟨g, 0, none⟩) S.slots.length cap) fv w) (hd : Int) (hh : HOk hd) {k : Nat} (hk : S.ix hd = some k) :
    Calls Tryz.prog 57 #[.pointer (some ⟨R, 0, none⟩), .int .i64 hd] w fun e w' => e = .returned (.pointer (some (na g k))) ∧ Below w.heap.size w w' := by
  have HF := Lib.hid (At_some h hd hh hk)
  have c0 := h.blk.cell 0
  simp at c0
  clear h hk
  go_enter Tryz.func57, Tryz.ntmps57
  go_wp2_with fail
  refine HF.out.mono ?_
  rintro e w2 ⟨rfl, hb2⟩
  go_wp2_with fail
  go_ret
  exact ⟨rfl, hb2⟩

/-! ### handles -/
theorem hdl_val (b s : Int) (i : Nat) (hi : i ≤ 2000000000) : hdl b s i = bnd b + bnd s * i := by
  unfold hdl; rw [if_neg (by omega)]
theorem hdl_ok (b s : Int) (i : Nat) (hi : i ≤ 2000000000) : HOk (hdl b s i) ∧ 1 ≤ hdl b s i := by
  rw [hdl_val b s i hi]
  have h1 := bnd_lo b
  have h2 := bnd_hi b
  have h3 := mul_small (bnd_lo s) (bnd_hi s) (by omega : (0 : Int) ≤ i) (by omega)
  unfold HOk
  omega
theorem idx_hdl (b s : Int) (i : Nat) (hi : i ≤ 2000000000) : idx b s (hdl b s i) = i := by
  rw [hdl_val b s i hi]
  have h1 := bnd_lo s
  have h2 : bnd b + bnd s * (i : Int) - bnd b = bnd s * i := by omega
  have h3 := mul_small (bnd_lo s) (bnd_hi s) (by omega : (0 : Int) ≤ i) (by omega)
  have h4 : bnd s * (i : Int) % bnd s = 0 := Int.mul_emod_right _ _
  have h5 : bnd s * (i : Int) / bnd s = i := Int.mul_ediv_cancel_left _ (by omega)
  rw [idx_yes (by omega) (by rw [h2]; exact h4) (by rw [h2, h5]; omega), h2, h5]
theorem hdl_inj {b s : Int} {i j : Nat} (hi : i ≤ 2000000000) (hj : j ≤ 2000000000) (h : hdl b s i = hdl b s j) : i = j := by
  have h1 := idx_hdl b s i hi
  have h2 := idx_hdl b s j hj
  rw [h, h2] at h1
  omega
theorem ix_hd {S : Tr} {i : Nat} {n : Nd} (hf : S.slots.length ≤ 2000000000) (h : S.slots[i]? = some (some n)) : S.ix (S.hd i) = some i := by
  have hi := (List.getElem?_eq_some_iff.1 h).1
  unfold Tr.ix Tr.hd
  rw [idx_hdl _ _ _ (by omega), Int.toNat_natCast, h]
  simp
theorem ix_zero (S : Tr) : S.ix 0 = none := by
  unfold Tr.ix
  have : idx S.b S.s 0 = -1 := idx_no (Or.inl (by have := bnd_lo S.b; omega))
  rw [this, if_neg (by omega)]
theorem hok_zero : HOk 0 := by unfold HOk; omega
end Go.Proofs.YtfdofkokiaapoaaGreatDoor.W
end
