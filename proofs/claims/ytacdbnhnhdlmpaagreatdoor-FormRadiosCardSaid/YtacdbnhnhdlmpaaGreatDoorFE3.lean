/- Texts joined: Tre AtT Lk. -/
import Derived.Test.YtacdbnhnhdlmpaaGreatDoorFE2
import Derived.OwnWalk
import Derived.WalkSpells
set_option maxRecDepth 100000
set_option maxHeartbeats 40000000
set_option linter.unusedVariables false
set_option linter.unusedSimpArgs false
section
namespace Go.Proofs.YtacdbnhnhdlmpaaGreatDoor.W
open Go.RowKit
structure Nd where
  kind : Int
  name : List UInt8
  av : Value
  attrs : List (List UInt8 × List UInt8)
  data : List UInt8
  parent : Int
  first : Int
  last : Int
  prev : Int
  next : Int
def strV (l : List UInt8) : Value := .string ⟨l.toArray⟩
def ndC (n : Nd) : List Value := [.int .i64 n.kind, strV n.name, n.av, strV n.data, .int .i64 n.parent, .int .i64 n.first, .int .i64 n.last, .int .i64 n.prev, .int .i64 n.next]
def zeroC : List Value := [.int .i64 0, strV [], .slice none 0 0, strV [], .int .i64 0, .int .i64 0, .int .i64 0, .int .i64 0, .int .i64 0]
def slotC : Option Nd → List Value
  | none => .bool false :: zeroC
  | some n => .bool true :: ndC n
theorem slotC_len (x : Option Nd) : (slotC x).length = 10 := by cases x <;> rfl
def rowC (l : List (Option Nd)) : List Value := l.flatMap slotC
theorem rowC_at (l : List (Option Nd)) (i : Nat) (x : Option Nd) (h : l[i]? = some x) (j : Nat) (hj : j < 10) : (rowC l)[i * 10 + j]? = (slotC x)[j]? := by
  induction l generalizing i with
  | nil => simp at h
  | cons y l ih =>
    rw [rowC, List.flatMap_cons]
    cases i with
    | zero =>
      simp at h; subst h
      rw [List.getElem?_append_left (by rw [slotC_len]; omega)]
      congr 1; omega
    | succ i =>
      rw [List.getElem?_append_right (by rw [slotC_len]; omega), slotC_len, show (i + 1) * 10 + j - 10 = i * 10 + j by omega]
      exact ih i (by simpa using h)
theorem rowC_set (l : List (Option Nd)) (i : Nat) (x : Option Nd) (hi : i < l.length) (j : Nat) (u : Value) (hj : j < 10) (y : Option Nd) (hy : l[i]? = some y) (hx : slotC x = (slotC y).set j u) : rowC (l.set i x) = (rowC l).set (i * 10 + j) u := by
  induction l generalizing i with
  | nil => simp at hi
  | cons z l ih =>
    cases i with
    | zero =>
      simp at hy; subst hy
      simp only [List.set_cons_zero, rowC, List.flatMap_cons]
      rw [hx, List.set_append_left _ _ (by rw [slotC_len]; omega)]
      congr 2; omega
    | succ i =>
      simp only [List.set_cons_succ, rowC, List.flatMap_cons]
      rw [List.set_append_right _ _ (by rw [slotC_len]; omega), slotC_len, show (i + 1) * 10 + j - 10 = i * 10 + j by omega]
      congr 1
      exact ih i (by simpa using hi) (by simpa using hy)
structure Tr where
  b : Int
  s : Int
  slots : List (Option Nd)
  free : List Nat
  root : Int
def Tr.live (S : Tr) : Nat := (S.slots.filter Option.isSome).length
def Tr.hd (S : Tr) (i : Nat) : Int := hdl S.b S.s i
def Tr.ix (S : Tr) (h : Int) : Option Nat :=
  if 0 ≤ idx S.b S.s h ∧ ((S.slots[(idx S.b S.s h).toNat]?).map Option.isSome) = some true then some (idx S.b S.s h).toNat else none
def AttrAt (B : Nat) (w : World) (av : Value) (l : List (List UInt8 × List UInt8)) : Prop :=
  ∃ a cap, av = .slice a l.length cap ∧ (l = [] ∨ ∃ g cur, a = some ⟨g, 0, none⟩ ∧ B ≤ g ∧ w.heap[g]? = some (.cells cur 85 (0, 0)) ∧
    ∀ i p, l[i]? = some p → cur[2 * i]? = some (strV p.1) ∧ cur[2 * i + 1]? = some (strV p.2))
structure TAt (B R : Nat) (S : Tr) (sv fv : Value) (w : World) : Prop where
  blk : Blk w R [.int .i64 S.b, .int .i64 S.s, sv, fv, .int .i64 S.live, .int .i64 S.root] 111
  slots : w.ownsRow B 182 10 sv S.slots.length (rowC S.slots)
  free : w.ownsRow B 3 1 fv S.free.length (S.free.map fun (i : Nat) => Value.int .i64 (i : Int))
  attrs : ∀ (i : Nat) (n : Nd), S.slots[i]? = some (some n) → AttrAt B w n.av n.attrs
  base : B ≤ R
  few : S.slots.length ≤ 2000000000
theorem TAt.below {B R : Nat} {S : Tr} {sv fv : Value} {w w' : World} (h : TAt B R S sv fv w) (hb : Below w.heap.size w w') : TAt B R S sv fv w' := by
  have keep : ∀ {e sz n : Nat} {v : Value} {xs : List Value}, w.ownsRow B e sz v n xs → w'.ownsRow B e sz v n xs := fun h =>
    h.kept (row := none) ⟨hb.os, hb.tape, hb.output, hb.size, fun k hk _ => hb.block k hk⟩ (by rename_i v _; cases e : v.ownBlock with | none => exact Or.inl rfl | some g => exact Or.inr (by simp))
  refine ⟨h.blk.below hb, keep h.slots, keep h.free, fun i n hi => ?_, h.base, h.few⟩
  obtain ⟨a, cap, e, h'⟩ := h.attrs i n hi
  refine ⟨a, cap, e, h'.imp id ?_⟩
  rintro ⟨g, cur, e, hB, hg, hc⟩
  exact ⟨g, cur, e, hB, (hb.block g (lt_of_block hg)).trans hg, hc⟩
theorem ix_some {S : Tr} {h : Int} {i : Nat} (k : S.ix h = some i) : idx S.b S.s h = (i : Int) ∧ i < S.slots.length ∧ ∃ n, S.slots[i]? = some (some n) := by
  unfold Tr.ix at k
  split at k
  · rename_i c
    obtain ⟨c1, c2⟩ := c
    simp only [Option.some.injEq] at k
    subst k
    rw [Option.map_eq_some_iff] at c2
    obtain ⟨x, hx, hs⟩ := c2
    obtain ⟨n, rfl⟩ := Option.isSome_iff_exists.1 hs
    exact ⟨by omega, (List.getElem?_eq_some_iff.1 hx).1, n, hx⟩
  · cases k
theorem ix_none {S : Tr} {h : Int} (k : S.ix h = none) (h0 : 0 ≤ idx S.b S.s h) (h1 : (idx S.b S.s h).toNat < S.slots.length) : S.slots[(idx S.b S.s h).toNat]? = some none := by
  unfold Tr.ix at k
  split at k
  · cases k
  · rename_i c
    rw [List.getElem?_eq_getElem h1] at c ⊢
    generalize S.slots[(idx S.b S.s h).toNat] = x at c ⊢
    cases x with
    | none => rfl
    | some n => exact absurd ⟨h0, rfl⟩ c
theorem idx_lo (b s h : Int) : -1 ≤ idx b s h := by
  unfold idx
  have := bnd_lo s
  split
  · omega
  · rename_i k
    have : 0 ≤ (h - bnd b) / bnd s := Int.ediv_nonneg (by omega) (by omega)
    omega
theorem idx_hi (b s h : Int) : idx b s h ≤ 2147483647 := by
  unfold idx
  split <;> omega
def HOk (h : Int) : Prop := -9223372036854775808 ≤ h ∧ h ≤ 9223372036854775807
set_option maxRecDepth 100000 in
set_option maxHeartbeats 2000000 in
theorem len_any {B R : Nat} {S : Tr} {sv fv : Value} {w : World} (h : TAt B R S sv fv w) :
    Calls Tryz.prog 109 #[.pointer (some ⟨R, 0, none⟩)] w fun e w' => e = .returned (.int .i64 S.live) ∧ w' = w := by
  have c := h.blk.cell 4
  simp at c
  clear h
  go_enter Tryz.func109, Tryz.ntmps109
  go_wp2
  go_ret
  exact ⟨rfl, rfl⟩
theorem slots_shape {B R : Nat} {S : Tr} {sv fv : Value} {w : World} (h : TAt B R S sv fv w) : ∃ a cap, sv = .slice a S.slots.length cap := by
  rcases h.slots.2 with ⟨rfl, e⟩ | ⟨g, cap, cur, rfl, _⟩
  · exact ⟨none, 0, by rw [e]⟩
  · exact ⟨_, _, rfl⟩
theorem slots_some {B R : Nat} {S : Tr} {sv fv : Value} {w : World} (h : TAt B R S sv fv w) (hn : 0 < S.slots.length) : ∃ g cap, sv = .slice (some ⟨g, 0, none⟩) S.slots.length cap := by
  rcases h.slots.2 with ⟨_, e⟩ | ⟨g, cap, cur, rfl, _⟩
  · omega
  · exact ⟨_, _, rfl⟩
theorem slot_cell {B R g cap : Nat} {S : Tr} {fv : Value} {w : World} (h : TAt B R S (.slice (some ⟨g, 0, none⟩) S.slots.length cap) fv w) {i : Nat} {x : Option Nd} (hx : S.slots[i]? = some x) (j : Nat) (hj : j < 10) :
    w.cell? ⟨g, i * 10 + j, none⟩ = (slotC x)[j]? := by
  have hl : j < (slotC x).length := by rw [slotC_len]; exact hj
  rw [List.getElem?_eq_getElem hl]
  have := h.slots.cells (g := g) rfl (i * 10 + j) (slotC x)[j] (by rw [rowC_at _ _ _ hx _ hj, List.getElem?_eq_getElem hl])
  rw [show (⟨g, 0, none⟩ : Addr).add (i * 10 + j) = ⟨g, i * 10 + j, none⟩ by unfold Addr.add; split <;> simp_all] at this
  exact this
set_option maxRecDepth 100000 in
set_option maxHeartbeats 2000000 in
theorem find_none {B R : Nat} {S : Tr} {sv fv : Value} {w : World} (h : TAt B R S sv fv w) (hd : Int) (hh : HOk hd) (hk : S.ix hd = none) :
    Calls Tryz.prog 151 #[.pointer (some ⟨R, 0, none⟩), .int .i64 hd] w fun e w' => e = .returned (.pointer none) ∧ Below w.heap.size w w' := by
  have c0 := h.blk.cell 0
  have c1 := h.blk.cell 1
  have c2 := h.blk.cell 2
  have hlt := h.blk.lt
  simp at c0 c1 c2
  have i1 := idx_lo S.b S.s hd
  have i2 := idx_hi S.b S.s hd
  have L := ix_none hk
  clear hk
  have HI := Lib.hid (fun W => index_any S.b S.s hd W hh.1 hh.2)
  generalize hj : idx S.b S.s hd = j at i1 i2 L HI
  clear hj
  by_cases hneg : j < 0
  · obtain ⟨a, cap, rfl⟩ := slots_shape h
    clear L h
    go_enter Tryz.func151, Tryz.ntmps151
    go_wp2_with fail
    refine (HI.out _).mono ?_
    rintro e w2 ⟨rfl, hb2⟩
    obtain ⟨hc, hf⟩ := bcell hb2
    go_wp2_with fail
    go_ret
    exact ⟨rfl, hb2⟩
  · by_cases hge : (S.slots.length : Int) ≤ j
    · obtain ⟨a, cap, rfl⟩ := slots_shape h
      clear L h
      go_enter Tryz.func151, Tryz.ntmps151
      go_wp2_with fail
      refine (HI.out _).mono ?_
      rintro e w2 ⟨rfl, hb2⟩
      obtain ⟨hc, hf⟩ := bcell hb2
      go_wp2_with fail
      go_ret
      exact ⟨rfl, hb2⟩
    · have hx := L (by omega) (by omega)
      obtain ⟨k, rfl⟩ := Int.eq_ofNat_of_zero_le (a := j) (by omega)
      obtain ⟨g, cap, rfl⟩ := slots_some h (by omega)
      rw [Int.toNat_natCast] at hx
      have u := slot_cell h hx 0 (by omega)
      simp only [slotC, List.getElem?_cons_zero, Nat.add_zero] at u
      have hg := (h.slots.lt g rfl).2
      have hk1 : k < S.slots.length := by omega
      clear L h hx
      go_enter Tryz.func151, Tryz.ntmps151
      go_wp2_with fail
      refine (HI.out _).mono ?_
      rintro e w2 ⟨rfl, hb2⟩
      obtain ⟨hc, hf⟩ := bcell hb2
      go_wp2_with fail
      go_ret
      exact ⟨rfl, hb2⟩
set_option maxRecDepth 100000 in
set_option maxHeartbeats 2000000 in
theorem find_some {B R g cap : Nat} {S : Tr} {fv : Value} {w : World} (h : TAt B R S (.slice (some ⟨g, 0, none⟩) S.slots.length cap) fv w) (hd : Int) (hh : HOk hd) {k : Nat} (hk : S.ix hd = some k) :
    Calls Tryz.prog 151 #[.pointer (some ⟨R, 0, none⟩), .int .i64 hd] w fun e w' => e = .returned (.pointer (some ⟨g, k * 10, none⟩)) ∧ Below w.heap.size w w' := by
  have c0 := h.blk.cell 0
  have c1 := h.blk.cell 1
  have c2 := h.blk.cell 2
  have hlt := h.blk.lt
  simp at c0 c1 c2
  obtain ⟨L1, L2, n, hn⟩ := ix_some hk
  have I := fun W => index_any S.b S.s hd W hh.1 hh.2
  rw [L1] at I
  have HI := Lib.hid I
  have u := slot_cell h hn 0 (by omega)
  simp only [slotC, List.getElem?_cons_zero, Nat.add_zero] at u
  have hg := (h.slots.lt g rfl).2
  clear I L1 hk hn h
  go_enter Tryz.func151, Tryz.ntmps151
  go_wp2_with fail
  refine (HI.out _).mono ?_
  rintro e w2 ⟨rfl, hb2⟩
  obtain ⟨hc, hf⟩ := bcell hb2
  go_wp2_with fail
  go_ret
  exact ⟨rfl, hb2⟩
abbrev na (g k : Nat) : Addr := ⟨g, k * 10 + 1, none⟩
set_option maxRecDepth 100000 in
set_option maxHeartbeats 2000000 in
theorem At_none {B R : Nat} {S : Tr} {sv fv : Value} {w : World} (h : TAt B R S sv fv w) (hd : Int) (hh : HOk hd) (hk : S.ix hd = none) :
    Calls Tryz.prog 139 #[.pointer (some ⟨R, 0, none⟩), .int .i64 hd] w fun e w' => e = .returned (.pointer none) ∧ Below w.heap.size w w' := by
  have HF := Lib.hid (find_none h hd hh hk)
  clear h hk
  go_enter Tryz.func139, Tryz.ntmps139
  go_wp2_with fail
  refine HF.out.mono ?_
  rintro e w2 ⟨rfl, hb2⟩
  go_wp2_with fail
  go_ret
  exact ⟨rfl, hb2⟩
set_option maxRecDepth 100000 in
set_option maxHeartbeats 2000000 in
theorem At_some {B R g cap : Nat} {S : Tr} {fv : Value} {w : World} (h : TAt B R S (.slice (some ⟨g, 0, none⟩) S.slots.length cap) fv w) (hd : Int) (hh : HOk hd) {k : Nat} (hk : S.ix hd = some k) :
    Calls Tryz.prog 139 #[.pointer (some ⟨R, 0, none⟩), .int .i64 hd] w fun e w' => e = .returned (.pointer (some (na g k))) ∧ Below w.heap.size w w' := by
  have HF := Lib.hid (find_some h hd hh hk)
  obtain ⟨_, _, n, hn⟩ := ix_some hk
  have u := slot_cell h hn 0 (by omega)
  simp only [slotC, List.getElem?_cons_zero, Nat.add_zero] at u
  have hg := (h.slots.lt g rfl).2
  clear h hk hn
  go_enter Tryz.func139, Tryz.ntmps139
  go_wp2_with fail
  refine HF.out.mono ?_
  rintro e w2 ⟨rfl, hb2⟩
  obtain ⟨hc, hf⟩ := bcell hb2
  go_wp2_with fail
  go_ret
  exact ⟨rfl, hb2⟩
set_option maxRecDepth 100000 in
set_option maxHeartbeats 2000000 in
theorem at_none {B R : Nat} {S : Tr} {sv fv : Value} {w : World} (h : TAt B R S sv fv w) (hd : Int) (hh : HOk hd) (hk : S.ix hd = none) :
    Calls Tryz.prog 103 #[.pointer (some ⟨R, 0, none⟩), .int .i64 hd] w fun e w' => e = .returned (.pointer none) ∧ Below w.heap.size w w' := by
  have HF := Lib.hid (At_none h hd hh hk)
  have c0 := h.blk.cell 0
  simp at c0
  clear h hk
  go_enter Tryz.func103, Tryz.ntmps103
  go_wp2_with fail
  refine HF.out.mono ?_
  rintro e w2 ⟨rfl, hb2⟩
  go_wp2_with fail
  go_ret
  exact ⟨rfl, hb2⟩
set_option maxRecDepth 100000 in
set_option maxHeartbeats 2000000 in
theorem at_some {B R g cap : Nat} {S : Tr} {fv : Value} {w : World} (h : TAt B R S (.slice (some ⟨g, 0, none⟩) S.slots.length cap) fv w) (hd : Int) (hh : HOk hd) {k : Nat} (hk : S.ix hd = some k) :
    Calls Tryz.prog 103 #[.pointer (some ⟨R, 0, none⟩), .int .i64 hd] w fun e w' => e = .returned (.pointer (some (na g k))) ∧ Below w.heap.size w w' := by
  have HF := Lib.hid (At_some h hd hh hk)
  have c0 := h.blk.cell 0
  simp at c0
  clear h hk
  go_enter Tryz.func103, Tryz.ntmps103
  go_wp2_with fail
  refine HF.out.mono ?_
  rintro e w2 ⟨rfl, hb2⟩
  go_wp2_with fail
  go_ret
  exact ⟨rfl, hb2⟩
/-! ### handles -/
theorem hdl_val (b s : Int) (i : Nat) (hi : i ≤ 2000000000) : hdl b s i = bnd b + bnd s * i := by
  unfold hdl; rw [if_neg (by omega)]
theorem hdl_ok (b s : Int) (i : Nat) (hi : i ≤ 2000000000) : HOk (hdl b s i) ∧ 1 ≤ hdl b s i := by
  rw [hdl_val b s i hi]
  have h1 := bnd_lo b
  have h2 := bnd_hi b
  have h3 := mul_small (bnd_lo s) (bnd_hi s) (by omega : (0 : Int) ≤ i) (by omega)
  unfold HOk
  omega
theorem idx_hdl (b s : Int) (i : Nat) (hi : i ≤ 2000000000) : idx b s (hdl b s i) = i := by
  rw [hdl_val b s i hi]
  have h1 := bnd_lo s
  have h2 : bnd b + bnd s * (i : Int) - bnd b = bnd s * i := by omega
  have h3 := mul_small (bnd_lo s) (bnd_hi s) (by omega : (0 : Int) ≤ i) (by omega)
  have h4 : bnd s * (i : Int) % bnd s = 0 := Int.mul_emod_right _ _
  have h5 : bnd s * (i : Int) / bnd s = i := Int.mul_ediv_cancel_left _ (by omega)
  rw [idx_yes (by omega) (by rw [h2]; exact h4) (by rw [h2, h5]; omega), h2, h5]
theorem hdl_inj {b s : Int} {i j : Nat} (hi : i ≤ 2000000000) (hj : j ≤ 2000000000) (h : hdl b s i = hdl b s j) : i = j := by
  have h1 := idx_hdl b s i hi
  have h2 := idx_hdl b s j hj
  rw [h, h2] at h1
  omega
theorem ix_hd {S : Tr} {i : Nat} {n : Nd} (hf : S.slots.length ≤ 2000000000) (h : S.slots[i]? = some (some n)) : S.ix (S.hd i) = some i := by
  have hi := (List.getElem?_eq_some_iff.1 h).1
  unfold Tr.ix Tr.hd
  rw [idx_hdl _ _ _ (by omega), Int.toNat_natCast, h]
  simp
theorem ix_zero (S : Tr) : S.ix 0 = none := by
  unfold Tr.ix
  have : idx S.b S.s 0 = -1 := idx_no (Or.inl (by have := bnd_lo S.b; omega))
  rw [this, if_neg (by omega)]
theorem hok_zero : HOk 0 := by unfold HOk; omega
def Tr.at (S : Tr) (i : Nat) : Option Nd := (S.slots[i]?).join
theorem at_slot {S : Tr} {i : Nat} {n : Nd} (h : S.at i = some n) : S.slots[i]? = some (some n) := by
  unfold Tr.at at h
  cases e : S.slots[i]? with
  | none => rw [e] at h; cases h
  | some x => rw [e] at h; simp at h; rw [h]
theorem at_lt {S : Tr} {i : Nat} {n : Nd} (h : S.at i = some n) : i < S.slots.length := (List.getElem?_eq_some_iff.1 (at_slot h)).1
theorem at_of {S : Tr} {i : Nat} {n : Nd} (h : S.slots[i]? = some (some n)) : S.at i = some n := by unfold Tr.at; rw [h]; rfl
def hO (S : Tr) : Option Nat → Int
  | none => 0
  | some i => S.hd i
structure Lk (S : Tr) (K : Nat → List Nat) (d : Nat → Nat) : Prop where
  kin : ∀ p k, k ∈ K p → (S.at p).isSome = true ∧ (S.at k).isSome = true
  node : ∀ i n, S.at i = some n → n.first = hO S (K i)[0]? ∧ n.last = hO S (K i).getLast?
  kid : ∀ p j k n, (K p)[j]? = some k → S.at k = some n → n.parent = S.hd p ∧ n.prev = hO S (if j = 0 then none else (K p)[j - 1]?) ∧ n.next = hO S (K p)[j + 1]?
  top : ∀ i n, S.at i = some n → (∀ p, i ∉ K p) → n.parent = 0 ∧ n.prev = 0 ∧ n.next = 0
  nodup : ∀ p, (K p).Nodup
  dep : ∀ p k, k ∈ K p → d k = d p + 1
  one : ∀ i, (S.at i).isSome = true → (∀ p, i ∉ K p) → d i = 1
  low : ∀ i, d i ≤ 128
  few : S.slots.length ≤ 1000000
theorem Lk.some {S K d} (h : Lk S K d) {p j k : Nat} (hk : (K p)[j]? = some k) : ∃ n, S.at k = some n := Option.isSome_iff_exists.1 (h.kin p k (List.mem_of_getElem? hk)).2
theorem hd_ok {S K d} (h : Lk S K d) {i : Nat} {n : Nd} (hi : S.at i = some n) : HOk (S.hd i) ∧ 1 ≤ S.hd i := hdl_ok _ _ _ (by have := at_lt hi; have := h.few; omega)
theorem hd_ix {S K d} (h : Lk S K d) {i : Nat} {n : Nd} (hi : S.at i = some n) : S.ix (S.hd i) = some i := ix_hd (by have := h.few; omega) (at_slot hi)
theorem nodup_len : ∀ (n : Nat) (l : List Nat), l.Nodup → (∀ x ∈ l, x < n) → l.length ≤ n
  | 0, [], _, _ => Nat.le_refl _
  | 0, x :: l, _, h => absurd (h x (by simp)) (by omega)
  | n + 1, l, hn, h => by
    have ih := nodup_len n (l.erase n) (hn.erase n) (fun x hx => by
      have h1 := (hn.mem_erase_iff).1 hx
      have := h x h1.2
      omega)
    rw [List.length_erase] at ih
    split at ih <;> omega
theorem kids_len {S K d} (h : Lk S K d) (p : Nat) : (K p).length ≤ 1000000 := by
  have := nodup_len S.slots.length (K p) (h.nodup p) (fun k hk => by
    obtain ⟨n, hn⟩ := Option.isSome_iff_exists.1 (h.kin p k hk).2
    exact at_lt hn)
  have := h.few
  omega
theorem infoI : (Tryz.prog.info? 3).map (fun i => (i.zero, i.size, i.bytes)) = some (some (.int .i64 0), 1, 8) := by kernel_rfl
def hC (l : List Int) : List Value := l.map (Value.int .i64)
theorem cell_keep {w w' : World} (hb : Below w.heap.size w w') {a : Addr} {v : Value} (h : w.cell? a = some v) : w'.cell? a = some v := by
  rw [hb.cell (p := a) (World.block_lt_of_cell? w a h)]; exact h
theorem own_keepB {w w' : World} {B e sz n : Nat} {v : Value} {xs : List Value} (h : w.ownsRow B e sz v n xs) (hb : Below w.heap.size w w') : w'.ownsRow B e sz v n xs :=
  h.kept (row := none) ⟨hb.os, hb.tape, hb.output, hb.size, fun k hk _ => hb.block k hk⟩ (by cases e : v.ownBlock with | none => exact Or.inl rfl | some g => exact Or.inr (by simp))
def slen : Value → Nat
  | .slice _ k _ => k
  | _ => 0
theorem own_sl {w : World} {B e sz n : Nat} {v : Value} {xs : List Value} (h : w.ownsRow B e sz v n xs) : slen v = n := by
  rcases h.2 with ⟨rfl, e⟩ | ⟨g, cap, cur, rfl, _⟩
  · rw [e]; rfl
  · rfl
theorem nd_cell {B R g cap : Nat} {S : Tr} {fv : Value} {w : World} (h : TAt B R S (.slice (some ⟨g, 0, none⟩) S.slots.length cap) fv w) {i : Nat} {n : Nd} (hn : S.at i = some n) (j : Nat) (hj : j < 9) :
    w.cell? ⟨g, i * 10 + 1 + j, none⟩ = (ndC n)[j]? := by
  have := slot_cell h (at_slot hn) (1 + j) (by omega)
  rw [← Nat.add_assoc] at this
  rw [this, Nat.add_comm 1 j]
  rfl
def KdR (w : World) (S : Tr) (l : List Nat) (ov kv : Value) (wr : World) : Prop :=
  ∃ (j : Nat) (v : Value), j ≤ l.length ∧ v = ov ∧ kv = .int .i64 (hO S l[j]?) ∧ wr.ownsRow w.heap.size 3 1 v j (hC ((l.take j).map S.hd)) ∧ Below w.heap.size w wr
set_option maxRecDepth 100000 in
set_option maxHeartbeats 4000000 in
theorem kids_any {B R g cap : Nat} {S : Tr} {fv : Value} {w : World} {K : Nat → List Nat} {d : Nat → Nat} (h : TAt B R S (.slice (some ⟨g, 0, none⟩) S.slots.length cap) fv w) (hL : Lk S K d) (i : Nat) (n : Nd) (hi : S.at i = some n) :
    Calls Tryz.prog 142 #[.pointer (some ⟨R, 0, none⟩), .int .i64 (S.hd i)] w fun e w' => ∃ v, e = .returned v ∧ w'.ownsRow w.heap.size 3 1 v (K i).length (hC ((K i).map S.hd)) ∧ Below w.heap.size w w' := by
  have HA := Lib.hid (at_some h (S.hd i) (hd_ok hL hi).1 (hd_ix hL hi))
  have HT := Lib.hid h
  have HL := Lib.hid hL
  have HI := Lib.hid hi
  have hkl := kids_len hL i
  have cf := nd_cell h hi 5 (by omega)
  simp only [ndC, List.getElem?_cons_succ, List.getElem?_cons_zero] at cf
  obtain ⟨i0, hi0, hz0, hz1, hz2⟩ := info_parts infoI
  rw [(hL.node i n hi).1] at cf
  clear h hL hi
  go_enter Tryz.func142, Tryz.ntmps142
  go_wp2_with fail
  refine HA.out.mono ?_
  rintro e w2 ⟨rfl, hb2⟩
  have cf2 := cell_keep hb2 cf
  clear cf
  go_wp2_with fail
  go_loopw [6, 7] (fun ov kv wr => KdR w S (K i) ov kv wr) (fun ov _ _ => (K i).length - slen ov)
  case atStart => exact ⟨0, _, by omega, rfl, rfl, World.ownsRow_nil _ _ _ _, hb2⟩
  case round =>
    obtain ⟨j, ov, hj, rfl, rfl, hown, hB⟩ := hrel
    by_cases hlt : j < (K i).length
    · obtain ⟨k, hk⟩ : ∃ k, (K i)[j]? = some k := ⟨_, List.getElem?_eq_getElem hlt⟩
      obtain ⟨nk, hnk⟩ := HL.out.some hk
      have hpos := (hd_ok HL.out hnk).2
      have hho := (hd_ok HL.out hnk).1
      have HA2 := Lib.hid (fun wx (hb : Below w.heap.size w wx) => at_some (HT.out.below hb) (S.hd k) hho (hd_ix HL.out hnk))
      have HC := Lib.hid (fun wx (hb : Below w.heap.size w wx) => nd_cell (HT.out.below hb) hnk 8 (by omega))
      have hnext := (HL.out.kid i j k nk hk hnk).2.2
      have HO := Lib.hid (show ∀ A, (wr.alloc A).ownsRow w.heap.size 3 1 ov j (hC (((K i).take j).map S.hd)) from fun A => hown.alloc A)
      have HTK := Lib.hid (show hC (((K i).take (j + 1)).map S.hd) = hC (((K i).take j).map S.hd) ++ [.int .i64 (S.hd k)] by
        unfold hC; rw [List.take_add_one, hk]; simp)
      have hlt2 := fun g (hg : ov.ownBlock = some g) => (hown.lt g hg).1
      have hne : ¬ S.hd k = 0 := by omega
      have hne2 : (S.hd k == 0) = false := by simpa using hne
      rw [hk, show hO S (Option.some k) = S.hd k from rfl]
      have hsl := own_sl hown
      clear hown
      generalize S.hd k = hk1 at *
      generalize hC (((K i).take j).map S.hd) = XS at *
      go_wp2_with (at_builtin; refine wpList_append_own _ rfl _ _ 60 rfl w.heap.size 3 i0 _ 1 8 Tryz.underlying60 hi0 hz0 hz1 hz2 rfl (by decide) _ j _ rfl (HO.out _) _ 1 1 [.int .i64 hk1] rfl rfl (cell_one_new _ _ _) (by simp [Value.oneCell']) ?c1 ?c2 ?c3 ?_)
      case c1 => unfold maxLen; omega
      case c2 => omega
      case c3 => have := hB.size; simp; omega
      intro v' w5 hown5 hgr5 _
      rw [← HTK.out] at hown5
      have hB5 : Below w.heap.size w w5 := (hB.alloc hB.size _).grown hgr5 (by have := hB.size; simp; omega) hlt2
      have HW := Lib.hid hown5
      clear hown5 hgr5
      go_wp2_with fail
      refine (HA2.out _ hB5).mono ?_
      rintro e w6 ⟨rfl, hb6⟩
      have hB6 := hB5.trans (hb6.mono hB5.size)
      have c8 := HC.out _ hB6
      rw [show (ndC nk)[8]? = Option.some (.int .i64 nk.next) from rfl, hnext] at c8
      have hsl6 := own_sl HW.out
      have HW6 := Lib.hid (own_keepB HW.out hb6)
      clear HW
      go_wp2_with fail
      exact ⟨⟨j + 1, _, by omega, rfl, rfl, HW6.out, hB6⟩, by rw [hsl, hsl6]; omega⟩
    · obtain rfl : j = (K i).length := by omega
      rw [show (K i)[(K i).length]? = none from List.getElem?_eq_none (Nat.le_refl _)]
      rw [List.take_length] at hown
      have HW := Lib.hid hown
      clear hown
      rw [show hO S none = 0 from rfl]
      go_wp2_with fail
      go_ret
      exact ⟨_, rfl, HW.out, hB⟩
end Go.Proofs.YtacdbnhnhdlmpaaGreatDoor.W
end
