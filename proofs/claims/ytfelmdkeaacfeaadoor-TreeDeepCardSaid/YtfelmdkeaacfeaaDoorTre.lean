/- A tree in memory: its state, what is read of it, and the contracts of Len, find, At and at. -/
import Derived.Test.YtfelmdkeaacfeaaDoorSalt
namespace Go.Proofs.YtfelmdkeaacfeaaDoor.W
open Go.RowKit
set_option linter.unusedVariables false
set_option linter.unusedSimpArgs false

/-- a node as it lies in its slot; 'av' is the slice of its attributes, 'attrs' what that slice holds -/
structure Nd where
  kind : Int
  name : List UInt8
  av : Value
  attrs : List (List UInt8 × List UInt8)
  data : List UInt8
  parent : Int
  first : Int
  last : Int
  prev : Int
  next : Int
def strV (l : List UInt8) : Value := .string ⟨l.toArray⟩
/-- the cells of a node -/
def ndC (n : Nd) : List Value := [.int .i64 n.kind, strV n.name, n.av, strV n.data, .int .i64 n.parent, .int .i64 n.first, .int .i64 n.last, .int .i64 n.prev, .int .i64 n.next]
def zeroC : List Value := [.int .i64 0, strV [], .slice none 0 0, strV [], .int .i64 0, .int .i64 0, .int .i64 0, .int .i64 0, .int .i64 0]
/-- the cells of a slot -/
def slotC : Option Nd → List Value
  | none => .bool false :: zeroC
  | some n => .bool true :: ndC n
theorem slotC_len (x : Option Nd) : (slotC x).length = 10 := by cases x <;> rfl
def rowC (l : List (Option Nd)) : List Value := l.flatMap slotC
theorem rowC_len (l : List (Option Nd)) : (rowC l).length = l.length * 10 := by
  induction l with
  | nil => rfl
  | cons x l ih => rw [rowC, List.flatMap_cons, List.length_append, slotC_len, List.length_cons]; unfold rowC at ih; omega
theorem rowC_at (l : List (Option Nd)) (i : Nat) (x : Option Nd) (h : l[i]? = some x) (j : Nat) (hj : j < 10) : (rowC l)[i * 10 + j]? = (slotC x)[j]? := by
  induction l generalizing i with
  | nil => simp at h
  | cons y l ih =>
    rw [rowC, List.flatMap_cons]
    cases i with
    | zero =>
      simp at h; subst h
      rw [List.getElem?_append_left (by rw [slotC_len]; omega)]
      congr 1; omega
    | succ i =>
      rw [List.getElem?_append_right (by rw [slotC_len]; omega), slotC_len, show (i + 1) * 10 + j - 10 = i * 10 + j by omega]
      exact ih i (by simpa using h)
theorem rowC_set (l : List (Option Nd)) (i : Nat) (x : Option Nd) (hi : i < l.length) (j : Nat) (u : Value) (hj : j < 10) (y : Option Nd) (hy : l[i]? = some y) (hx : slotC x = (slotC y).set j u) : rowC (l.set i x) = (rowC l).set (i * 10 + j) u := by
  induction l generalizing i with
  | nil => simp at hi
  | cons z l ih =>
    cases i with
    | zero =>
      simp at hy; subst hy
      simp only [List.set_cons_zero, rowC, List.flatMap_cons]
      rw [hx, List.set_append_left _ _ (by rw [slotC_len]; omega)]
      congr 2; omega
    | succ i =>
      simp only [List.set_cons_succ, rowC, List.flatMap_cons]
      rw [List.set_append_right _ _ (by rw [slotC_len]; omega), slotC_len, show (i + 1) * 10 + j - 10 = i * 10 + j by omega]
      congr 1
      exact ih i (by simpa using hi) (by simpa using hy)

/-- a tree -/
structure Tr where
  b : Int
  s : Int
  slots : List (Option Nd)
  free : List Nat
  root : Int
def Tr.live (S : Tr) : Nat := (S.slots.filter Option.isSome).length
/-- the handle of a slot -/
def Tr.hd (S : Tr) (i : Nat) : Int := hdl S.b S.s i
/-- the slot of a handle that names a node -/
def Tr.ix (S : Tr) (h : Int) : Option Nat :=
  if 0 ≤ idx S.b S.s h ∧ ((S.slots[(idx S.b S.s h).toNat]?).map Option.isSome) = some true then some (idx S.b S.s h).toNat else none
/-- the node of a handle -/
def Tr.nd (S : Tr) (h : Int) : Option Nd := (S.ix h).bind fun i => (S.slots[i]?).join

/-- the attributes that a slice value holds (read) -/
def AttrAt (B : Nat) (w : World) (av : Value) (l : List (List UInt8 × List UInt8)) : Prop :=
  ∃ a cap, av = .slice a l.length cap ∧ (l = [] ∨ ∃ g cur, a = some ⟨g, 0, none⟩ ∧ B ≤ g ∧ w.heap[g]? = some (.cells cur 50 (0, 0)) ∧
    ∀ i p, l[i]? = some p → cur[2 * i]? = some (strV p.1) ∧ cur[2 * i + 1]? = some (strV p.2))

/-- a tree in memory -/
structure TAt (B R : Nat) (S : Tr) (sv fv : Value) (w : World) : Prop where
  blk : Blk w R [.int .i64 S.b, .int .i64 S.s, sv, fv, .int .i64 S.live, .int .i64 S.root] 32
  slots : w.ownsRow B 68 10 sv S.slots.length (rowC S.slots)
  free : w.ownsRow B 3 1 fv S.free.length (S.free.map fun (i : Nat) => Value.int .i64 (i : Int))
  attrs : ∀ (i : Nat) (n : Nd), S.slots[i]? = some (some n) → AttrAt B w n.av n.attrs
  base : B ≤ R
  few : S.slots.length ≤ 2000000000

theorem TAt.below {B R : Nat} {S : Tr} {sv fv : Value} {w w' : World} (h : TAt B R S sv fv w) (hb : Below w.heap.size w w') : TAt B R S sv fv w' := by
  have keep : ∀ {e sz n : Nat} {v : Value} {xs : List Value}, w.ownsRow B e sz v n xs → w'.ownsRow B e sz v n xs := fun h =>
    h.kept (row := none) ⟨hb.os, hb.tape, hb.output, hb.size, fun k hk _ => hb.block k hk⟩ (by rename_i v _; cases e : v.ownBlock with | none => exact Or.inl rfl | some g => exact Or.inr (by simp))
  refine ⟨h.blk.below hb, keep h.slots, keep h.free, fun i n hi => ?_, h.base, h.few⟩
  obtain ⟨a, cap, e, h'⟩ := h.attrs i n hi
  refine ⟨a, cap, e, h'.imp id ?_⟩
  rintro ⟨g, cur, e, hB, hg, hc⟩
  exact ⟨g, cur, e, hB, (hb.block g (lt_of_block hg)).trans hg, hc⟩

theorem ix_some {S : Tr} {h : Int} {i : Nat} (k : S.ix h = some i) : idx S.b S.s h = (i : Int) ∧ i < S.slots.length ∧ ∃ n, S.slots[i]? = some (some n) := by
  unfold Tr.ix at k
  split at k
  · rename_i c
    obtain ⟨c1, c2⟩ := c
    simp only [Option.some.injEq] at k
    subst k
    rw [Option.map_eq_some_iff] at c2
    obtain ⟨x, hx, hs⟩ := c2
    obtain ⟨n, rfl⟩ := Option.isSome_iff_exists.1 hs
    exact ⟨by omega, (List.getElem?_eq_some_iff.1 hx).1, n, hx⟩
  · cases k
theorem ix_none {S : Tr} {h : Int} (k : S.ix h = none) (h0 : 0 ≤ idx S.b S.s h) (h1 : (idx S.b S.s h).toNat < S.slots.length) : S.slots[(idx S.b S.s h).toNat]? = some none := by
  unfold Tr.ix at k
  split at k
  · cases k
  · rename_i c
    rw [List.getElem?_eq_getElem h1] at c ⊢
    generalize S.slots[(idx S.b S.s h).toNat] = x at c ⊢
    cases x with
    | none => rfl
    | some n => exact absurd ⟨h0, rfl⟩ c
theorem idx_lo (b s h : Int) : -1 ≤ idx b s h := by
  unfold idx
  have := bnd_lo s
  split
  · omega
  · rename_i k
    have : 0 ≤ (h - bnd b) / bnd s := Int.ediv_nonneg (by omega) (by omega)
    omega
theorem idx_hi (b s h : Int) : idx b s h ≤ 2147483647 := by
  unfold idx
  split <;> omega

/-- a handle as a machine number -/
def HOk (h : Int) : Prop := -9223372036854775808 ≤ h ∧ h ≤ 9223372036854775807

set_option maxRecDepth 100000 in
set_option maxHeartbeats 2000000 in
theorem len_any {B R : Nat} {S : Tr} {sv fv : Value} {w : World} (h : TAt B R S sv fv w) :
    Calls Tryd.prog 14 #[.pointer (some ⟨R, 0, none⟩)] w fun e w' => e = .returned (.int .i64 S.live) ∧ w' = w := by
  have c := h.blk.cell 4
  simp at c
  clear h
  go_enter Tryd.func14, Tryd.ntmps14
  go_wp2
  go_ret
  exact ⟨rfl, rfl⟩

/-- the value of a slice of slots -/
theorem slots_shape {B R : Nat} {S : Tr} {sv fv : Value} {w : World} (h : TAt B R S sv fv w) : ∃ a cap, sv = .slice a S.slots.length cap := by
  rcases h.slots.2 with ⟨rfl, e⟩ | ⟨g, cap, cur, rfl, _⟩
  · exact ⟨none, 0, by rw [e]⟩
  · exact ⟨_, _, rfl⟩
theorem slots_some {B R : Nat} {S : Tr} {sv fv : Value} {w : World} (h : TAt B R S sv fv w) (hn : 0 < S.slots.length) : ∃ g cap, sv = .slice (some ⟨g, 0, none⟩) S.slots.length cap := by
  rcases h.slots.2 with ⟨_, e⟩ | ⟨g, cap, cur, rfl, _⟩
  · omega
  · exact ⟨_, _, rfl⟩
/-- a cell of a slot -/
theorem slot_cell {B R g cap : Nat} {S : Tr} {fv : Value} {w : World} (h : TAt B R S (.slice (some ⟨g, 0, none⟩) S.slots.length cap) fv w) {i : Nat} {x : Option Nd} (hx : S.slots[i]? = some x) (j : Nat) (hj : j < 10) :
    w.cell? ⟨g, i * 10 + j, none⟩ = (slotC x)[j]? := by
  have hl : j < (slotC x).length := by rw [slotC_len]; exact hj
  rw [List.getElem?_eq_getElem hl]
  have := h.slots.cells (g := g) rfl (i * 10 + j) (slotC x)[j] (by rw [rowC_at _ _ _ hx _ hj, List.getElem?_eq_getElem hl])
  rw [show (⟨g, 0, none⟩ : Addr).add (i * 10 + j) = ⟨g, i * 10 + j, none⟩ by unfold Addr.add; split <;> simp_all] at this
  exact this

set_option maxRecDepth 100000 in
set_option maxHeartbeats 2000000 in
theorem find_none {B R : Nat} {S : Tr} {sv fv : Value} {w : World} (h : TAt B R S sv fv w) (hd : Int) (hh : HOk hd) (hk : S.ix hd = none) :
    Calls Tryd.prog 49 #[.pointer (some ⟨R, 0, none⟩), .int .i64 hd] w fun e w' => e = .returned (.pointer none) ∧ Below w.heap.size w w' := by
  have c0 := h.blk.cell 0
  have c1 := h.blk.cell 1
  have c2 := h.blk.cell 2
  have hlt := h.blk.lt
  simp at c0 c1 c2
  have i1 := idx_lo S.b S.s hd
  have i2 := idx_hi S.b S.s hd
  have L := ix_none hk
  clear hk
  have HI := Lib.hid (fun W => index_any S.b S.s hd W hh.1 hh.2)
  generalize hj : idx S.b S.s hd = j at i1 i2 L HI
  clear hj
  by_cases hneg : j < 0
  · obtain ⟨a, cap, rfl⟩ := slots_shape h
    clear L h
    go_enter Tryd.func49, Tryd.ntmps49
    go_wp2_with fail
    refine (HI.out _).mono ?_
    rintro e w2 ⟨rfl, hb2⟩
    obtain ⟨hc, hf⟩ := bcell hb2
    go_wp2_with fail
    go_ret
    exact ⟨rfl, hb2⟩
  · by_cases hge : (S.slots.length : Int) ≤ j
    · obtain ⟨a, cap, rfl⟩ := slots_shape h
      clear L h
      go_enter Tryd.func49, Tryd.ntmps49
      go_wp2_with fail
      refine (HI.out _).mono ?_
      rintro e w2 ⟨rfl, hb2⟩
      obtain ⟨hc, hf⟩ := bcell hb2
      go_wp2_with fail
      go_ret
      exact ⟨rfl, hb2⟩
    · have hx := L (by omega) (by omega)
      obtain ⟨k, rfl⟩ := Int.eq_ofNat_of_zero_le (a := j) (by omega)
      obtain ⟨g, cap, rfl⟩ := slots_some h (by omega)
      rw [Int.toNat_natCast] at hx
      have u := slot_cell h hx 0 (by omega)
      simp only [slotC, List.getElem?_cons_zero, Nat.add_zero] at u
      have hg := (h.slots.lt g rfl).2
      have hk1 : k < S.slots.length := by omega
      clear L h hx
      go_enter Tryd.func49, Tryd.ntmps49
      go_wp2_with fail
      refine (HI.out _).mono ?_
      rintro e w2 ⟨rfl, hb2⟩
      obtain ⟨hc, hf⟩ := bcell hb2
      go_wp2_with fail
      go_ret
      exact ⟨rfl, hb2⟩

set_option maxRecDepth 100000 in
set_option maxHeartbeats 2000000 in
theorem find_some {B R g cap : Nat} {S : Tr} {fv : Value} {w : World} (h : TAt B R S (.slice (some ⟨g, 0, none⟩) S.slots.length cap) fv w) (hd : Int) (hh : HOk hd) {k : Nat} (hk : S.ix hd = some k) :
    Calls Tryd.prog 49 #[.pointer (some ⟨R, 0, none⟩), .int .i64 hd] w fun e w' => e = .returned (.pointer (some ⟨g, k * 10, none⟩)) ∧ Below w.heap.size w w' := by
  have c0 := h.blk.cell 0
  have c1 := h.blk.cell 1
  have c2 := h.blk.cell 2
  have hlt := h.blk.lt
  simp at c0 c1 c2
  obtain ⟨L1, L2, n, hn⟩ := ix_some hk
  have I := fun W => index_any S.b S.s hd W hh.1 hh.2
  rw [L1] at I
  have HI := Lib.hid I
  have u := slot_cell h hn 0 (by omega)
  simp only [slotC, List.getElem?_cons_zero, Nat.add_zero] at u
  have hg := (h.slots.lt g rfl).2
  clear I L1 hk hn h
  go_enter Tryd.func49, Tryd.ntmps49
  go_wp2_with fail
  refine (HI.out _).mono ?_
  rintro e w2 ⟨rfl, hb2⟩
  obtain ⟨hc, hf⟩ := bcell hb2
  go_wp2_with fail
  go_ret
  exact ⟨rfl, hb2⟩
end Go.Proofs.YtfelmdkeaacfeaaDoor.W
