/- The arena of numbers in memory, and the contracts of New, Add, find, Get, Set, Drop and Len. -/
import Derived.Test.YtabmmampgmcibaaSalt
import Derived.Deep.AppendLies
import Derived.Deep.RegionHeld3
namespace Go.Proofs.Ytabmmampgmcibaa.W
open Go.RowKit
set_option linter.unusedVariables false

/-- what an arena holds: the salt, the slots (used, the record), the free slots (the last one last), the number of records -/
structure Ar (α : Type) where
  b : Int
  s : Int
  slots : List (Bool × α)
  free : List Nat
  live : Int

/-- the cells of slots -/
def scells {α : Type} (enc : α → List Value) : List (Bool × α) → List Value
  | [] => []
  | (u, v) :: r => .bool u :: (enc v ++ scells enc r)
theorem scells_append {α : Type} (enc : α → List Value) (l r : List (Bool × α)) : scells enc (l ++ r) = scells enc l ++ scells enc r := by
  induction l with
  | nil => rfl
  | cons x l ih => obtain ⟨u, v⟩ := x; simp [scells, ih]
theorem scells_length {α : Type} (enc : α → List Value) (sz : Nat) (he : ∀ v, (enc v).length + 1 = sz) (l : List (Bool × α)) : (scells enc l).length = l.length * sz := by
  induction l with
  | nil => simp [scells]
  | cons x l ih => obtain ⟨u, v⟩ := x; have := he v; simp [scells, ih, Nat.succ_mul]; omega
def icell (n : Int) : List Value := [.int .i64 n]
def fcells (l : List Nat) : List Value := l.map fun (i : Nat) => Value.int .i64 (i : Int)

structure AtI (w : World) (g : Nat) (A : Ar Int) (sv fv : Value) : Prop where
  blk : Blk w g [.int .i64 A.b, .int .i64 A.s, sv, fv, .int .i64 A.live] 32
  slots : Own w 84 2 sv A.slots.length (scells icell A.slots)
  free : Own w 3 1 fv A.free.length (fcells A.free)
  d1 : sv.ownBlock ≠ some g
  d2 : fv.ownBlock ≠ some g
  d3 : ∀ k, sv.ownBlock = some k → fv.ownBlock ≠ some k

/-- the blocks of an arena -/
def Ft (g : Nat) (sv fv : Value) (k : Nat) : Prop := k = g ∨ sv.ownBlock = some k ∨ fv.ownBlock = some k

def newAr {α : Type} (b s : Int) : Ar α := ⟨b, s, [], [], 0⟩

theorem new_any (b s : Int) (w : World) :
    Calls Try.prog 18 #[.agg #[.int .i64 b, .int .i64 s]] w fun e w' => e = .returned (.agg #[.int .i64 b, .int .i64 s, .slice none 0 0, .slice none 0 0, .int .i64 0]) ∧ Below w.heap.size w w' := by
  go_enter Try.func18, Try.ntmps18
  go_wp2
  exact bodyPost_ret (v := .agg #[.int .i64 b, .int .i64 s, .slice none 0 0, .slice none 0 0, .int .i64 0]) (by simp [results, Try.results18, go_sem]) rfl ⟨rfl, ((Below.refl _ _).alloc (Nat.le_refl _) _).alloc (by simp) _⟩

theorem len_any {w : World} {g : Nat} {A : Ar Int} {sv fv : Value} (h : AtI w g A sv fv) :
    Calls Try.prog 21 #[.pointer (some ⟨g, 0, none⟩)] w fun e w' => e = .returned (.int .i64 A.live) ∧ w' = w := by
  have c := h.blk.cell 4
  simp at c
  go_enter Try.func21, Try.ntmps21
  go_wp2
  go_ret
  exact ⟨rfl, rfl⟩

theorem info84 : (Try.prog.info? 84).map (fun i => (i.zero, i.size, i.bytes)) = some (some (.agg #[.bool false, .int .i64 0]), 2, 16) := by kernel_rfl
theorem info3 : (Try.prog.info? 3).map (fun i => (i.zero, i.size, i.bytes)) = some (some (.int .i64 0), 1, 8) := by kernel_rfl

theorem scells_two (l : List (Bool × Int)) : (scells icell l).length = l.length * 2 := scells_length icell 2 (by intro v; rfl) l

set_option maxRecDepth 100000 in
theorem add_grow {w : World} {g : Nat} {b s live : Int} {slots : List (Bool × Int)} {sv fv : Value} (h : AtI w g ⟨b, s, slots, [], live⟩ sv fv) (v : Int) (hl : slots.length < 2147483647) (hlv : 0 ≤ live) (hlv2 : live < 2147483647) :
    Calls Try.prog 19 #[.pointer (some ⟨g, 0, none⟩), .int .i64 v] w fun e w' => ∃ sv', e = .returned (.int .i64 (hdl b s slots.length)) ∧
      AtI w' g ⟨b, s, slots ++ [(true, v)], [], live + 1⟩ sv' fv ∧ Chg (Ft g sv fv) w w' ∧ ∀ k, sv'.ownBlock = some k → sv.ownBlock = some k ∨ w.heap.size ≤ k := by
  obtain ⟨i0, hi, hz0, hz1, hz2⟩ := info_parts info84
  obtain ⟨hblk, hsl, hfr, d1, d2, d3⟩ := h
  simp only [] at hblk hsl hfr
  have c0 := hblk.cell 0
  have c1 := hblk.cell 1
  have c2 := hblk.cell 2
  have c3 := hblk.cell 3
  have c4 := hblk.cell 4
  simp at c0 c1 c2 c3 c4
  obtain ⟨sa, sc, rfl⟩ := own_shape hsl
  obtain ⟨fa, fc, rfl⟩ := own_shape hfr
  simp only [List.length_nil] at c3
  go_enter Try.func19, Try.ntmps19
  go_wp2_with (at_builtin; refine wpList_append_lies _ rfl _ _ 29 rfl 0 84 i0 (.agg #[.bool false, .int .i64 0]) 2 16 Try.underlying29 hi hz0 hz1 hz2 rfl (by decide) _ _ _ rfl (hsl.alloc _) ⟨w.heap.size, 0, none⟩ 1 1 [.bool true, .int .i64 v] rfl rfl (World.news_of_block (cs := #[.bool true, .int .i64 v]) (heap_alloc_new w _)) ?c2 (by decide) ?c3 ?c4 (Nat.zero_le _) (w.heap.size + 1) (by simp) ?_)
  case c2 => simp [Value.oneCell']
  case c3 => unfold maxLen; omega
  case c4 => omega
  intro sg' sc' w1 hown hg hat hlt
  have hb1 : Blk w1 g _ _ := (hblk.alloc (.cells #[.bool true, .int .i64 v] 84)).kept (hg.block g (by have := hblk.lt; simp; omega) (fun e => d1 e.symm))
  have hgl := hblk.lt
  have hne : sg' ≠ g := by rintro rfl; rcases hat with h | h; exact d1 h; omega
  have hfr1 : Own w1 _ _ _ _ _ := own_kept (hfr.alloc (.cells #[.bool true, .int .i64 v] 84)) fun k hk => hg.block k (by have := own_lt hfr hk; simp; omega) (fun e => d3 k e.symm hk)
  have hcg : Chg (Ft g (Value.slice sa slots.length sc) (Value.slice fa 0 fc)) w w1 := ((Chg.refl _ _).alloc (.cells #[.bool true, .int .i64 v] 84)).grown hg (fun k hk _ => .inr (.inl hk))
  have H := Lib.hid hat
  clear hat
  have c0' := hb1.cell 0
  have c1' := hb1.cell 1
  have c2' := hb1.cell 2
  have c4' := hb1.cell 4
  have cf := hb1.free
  simp at c0' c1' c2' c4'
  go_wp2_with (go_at_call 14; refine (handle_any _ _ _ _).mono ?_; rintro e w2 ⟨rfl, hb2⟩)
  go_ret
  have hb3 := (((hb1.set 2 (.slice (some ⟨sg', 0, none⟩) (slots.length + 1) sc')).set 4 (.int .i64 (live + 1))).below hb2)
  refine ⟨.slice (some ⟨sg', 0, none⟩) (slots.length + 1) sc', rfl, ⟨by simpa using hb3, ?_, ?_, ?_, d2, ?_⟩, ?_, ?_⟩
  · have := own_below (own_setOther (own_setOther hown ⟨g, 2, none⟩ (by simpa [Value.ownBlock] using hne) (.slice (some ⟨sg', 0, none⟩) (slots.length + 1) sc')) ⟨g, 4, none⟩ (by simpa [Value.ownBlock] using hne) (.int .i64 (live + 1))) hb2
    simpa [scells_append, scells, icell] using this
  · exact own_below (own_setOther (own_setOther hfr1 ⟨g, 2, none⟩ d2 _) ⟨g, 4, none⟩ d2 _) hb2
  · simpa [Value.ownBlock] using hne
  · intro k hk hk2
    simp [Value.ownBlock] at hk
    subst hk
    rcases H.out with h | h
    · exact d3 _ h hk2
    · have := own_lt hfr hk2; omega
  · refine Chg.trans (G := fun _ => False) ((hcg.setCell ⟨g, 2, none⟩ (fun _ => .inl rfl) _).setCell ⟨g, 4, none⟩ (fun _ => .inl rfl) _) (Chg.of_below hb2) (fun _ _ h => h.elim)
  · intro k hk
    simp [Value.ownBlock] at hk
    subst hk
    rcases H.out with h | h
    · exact .inl h
    · exact .inr (by omega)

/-- the used slot of a handle -/
def Ar.look {α : Type} (A : Ar α) (h : Int) : Option Nat :=
  if 0 ≤ idx A.b A.s h ∧ (A.slots[(idx A.b A.s h).toNat]?.map (·.1)) = some true then some (idx A.b A.s h).toNat else none
theorem look_some {α : Type} {A : Ar α} {h : Int} {i : Nat} (k : A.look h = some i) : idx A.b A.s h = (i : Int) ∧ i < A.slots.length ∧ ∃ v, A.slots[i]? = some (true, v) := by
  unfold Ar.look at k
  split at k
  · rename_i c
    obtain ⟨c1, c2⟩ := c
    simp only [Option.some.injEq] at k
    subst k
    rw [Option.map_eq_some_iff] at c2
    obtain ⟨⟨u, v⟩, hv, hu⟩ := c2
    simp at hu
    subst hu
    exact ⟨by omega, (List.getElem?_eq_some_iff.1 hv).1, v, hv⟩
  · cases k
theorem look_none {α : Type} {A : Ar α} {h : Int} (k : A.look h = none) (h0 : 0 ≤ idx A.b A.s h) (h1 : (idx A.b A.s h).toNat < A.slots.length) : ∃ v, A.slots[(idx A.b A.s h).toNat]? = some (false, v) := by
  unfold Ar.look at k
  split at k
  · cases k
  · rename_i c
    rw [List.getElem?_eq_getElem h1] at c ⊢
    generalize A.slots[(idx A.b A.s h).toNat] = x at c ⊢
    obtain ⟨u, v⟩ := x
    cases u
    · exact ⟨v, rfl⟩
    · exact absurd ⟨h0, rfl⟩ c

theorem idx_lo (b s h : Int) : -1 ≤ idx b s h := by
  unfold idx
  have := bnd_lo s
  split
  · omega
  · rename_i k
    have : 0 ≤ (h - bnd b) / bnd s := Int.ediv_nonneg (by omega) (by omega)
    omega
theorem idx_hi (b s h : Int) : idx b s h ≤ 2147483647 := by
  unfold idx
  split <;> omega

theorem scells_used (l : List (Bool × Int)) (i : Nat) (u : Bool) (v : Int) (h : l[i]? = some (u, v)) : (scells icell l)[i * 2]? = some (.bool u) ∧ (scells icell l)[i * 2 + 1]? = some (.int .i64 v) := by
  induction l generalizing i with
  | nil => simp at h
  | cons x l ih =>
    obtain ⟨u', v'⟩ := x
    cases i with
    | zero => simp at h; obtain ⟨rfl, rfl⟩ := h; simp [scells, icell]
    | succ i =>
      simp at h
      have := ih i h
      rw [show (i + 1) * 2 = i * 2 + 1 + 1 by omega, show i * 2 + 1 + 1 + 1 = (i * 2 + 1) + 1 + 1 by omega]
      simpa [scells, icell] using this


theorem find_none {w : World} {g : Nat} {A : Ar Int} {sv fv : Value} (h : AtI w g A sv fv) (hd : Int) (h1 : -9223372036854775808 ≤ hd) (h2 : hd ≤ 9223372036854775807) (hl : A.slots.length ≤ 2147483647) (hk : A.look hd = none) :
    Calls Try.prog 43 #[.pointer (some ⟨g, 0, none⟩), .int .i64 hd] w fun e w' => e = .returned (.pointer none) ∧ Below w.heap.size w w' := by
  obtain ⟨hblk, hsl, hfr, d1, d2, d3⟩ := h
  have c0 := hblk.cell 0
  have c1 := hblk.cell 1
  have c2 := hblk.cell 2
  have hlt := hblk.lt
  simp at c0 c1 c2
  have i1 := idx_lo A.b A.s hd
  have i2 := idx_hi A.b A.s hd
  have L := look_none hk
  clear hk
  have I := fun W => index_any A.b A.s hd W h1 h2
  generalize idx A.b A.s hd = j at i1 i2 L I
  have HI := Lib.hid I
  clear I
  generalize A.slots.length = n at *
  by_cases hneg : j < 0
  · clear L
    obtain ⟨sa, sc, rfl⟩ := own_shape hsl
    go_enter Try.func43, Try.ntmps43
    go_wp2_with (go_at_call 16; refine (HI.out _).mono ?_; rintro e w2 ⟨rfl, hb2⟩)
    go_ret
    exact ⟨rfl, hb2⟩
  · by_cases hge : (n : Int) ≤ j
    · clear L
      obtain ⟨sa, sc, rfl⟩ := own_shape hsl
      go_enter Try.func43, Try.ntmps43
      go_wp2_with (go_at_call 16; refine (HI.out _).mono ?_; rintro e w2 ⟨rfl, hb2⟩; (obtain ⟨hc, hf⟩ := bcell hb2))
      go_ret
      exact ⟨rfl, hb2⟩
    · obtain ⟨v, hv⟩ := L (by omega) (by omega)
      obtain ⟨k, rfl⟩ := Int.eq_ofNat_of_zero_le (a := j) (by omega)
      obtain ⟨sg, sc, rfl, hsc⟩ := own_some hsl (by omega)
      rw [Int.toNat_natCast] at hv
      obtain ⟨u1, _⟩ := scells_used _ _ _ _ hv
      have u2 := hsl.cellAt (k * 2) (by omega)
      rw [u1] at u2
      clear u1 hv
      have hsl1 := own_lt hsl (k := sg) rfl
      have hk1 : k < n := by omega
      go_enter Try.func43, Try.ntmps43
      go_wp2_with (go_at_call 16; refine (HI.out _).mono ?_; rintro e w2 ⟨rfl, hb2⟩; (obtain ⟨hc, hf⟩ := bcell hb2))
      go_ret
      exact ⟨rfl, hb2⟩

theorem find_some {w : World} {g : Nat} {A : Ar Int} {sg cap : Nat} {fv : Value} (h : AtI w g A (.slice (some ⟨sg, 0, none⟩) A.slots.length cap) fv) (hd : Int) (h1 : -9223372036854775808 ≤ hd) (h2 : hd ≤ 9223372036854775807) (hl : A.slots.length ≤ 2147483647) {k : Nat} (hk : A.look hd = some k) :
    Calls Try.prog 43 #[.pointer (some ⟨g, 0, none⟩), .int .i64 hd] w fun e w' => e = .returned (.pointer (some ⟨sg, k * 2, none⟩)) ∧ Below w.heap.size w w' := by
  obtain ⟨hblk, hsl, hfr, d1, d2, d3⟩ := h
  have c0 := hblk.cell 0
  have c1 := hblk.cell 1
  have c2 := hblk.cell 2
  have hlt := hblk.lt
  simp at c0 c1 c2
  obtain ⟨L1, L2, v, hv⟩ := look_some hk
  have I := fun W => index_any A.b A.s hd W h1 h2
  rw [L1] at I
  have HI := Lib.hid I
  clear I L1 hk
  obtain ⟨u1, _⟩ := scells_used _ _ _ _ hv
  have u2 := hsl.cellAt (k * 2) (by omega)
  rw [u1] at u2
  clear u1 hv
  generalize A.slots.length = n at *
  have hsl1 := own_lt hsl (k := sg) rfl
  go_enter Try.func43, Try.ntmps43
  go_wp2_with (go_at_call 16; refine (HI.out _).mono ?_; rintro e w2 ⟨rfl, hb2⟩; (obtain ⟨hc, hf⟩ := bcell hb2))
  go_ret
  exact ⟨rfl, hb2⟩

theorem get_none {w : World} {g : Nat} {A : Ar Int} {sv fv : Value} (h : AtI w g A sv fv) (hd : Int) (h1 : -9223372036854775808 ≤ hd) (h2 : hd ≤ 9223372036854775807) (hl : A.slots.length ≤ 2147483647) (hk : A.look hd = none) :
    Calls Try.prog 28 #[.pointer (some ⟨g, 0, none⟩), .int .i64 hd] w fun e w' => e = .returned (.tuple #[.int .i64 0, .bool false]) ∧ Below w.heap.size w w' := by
  have HF := Lib.hid (find_none h hd h1 h2 hl hk)
  clear h hk
  go_enter Try.func28, Try.ntmps28
  go_wp2_with (go_at_call 43; refine HF.out.mono ?_; rintro e w2 ⟨rfl, hb2⟩)
  go_ret2
  exact ⟨rfl, hb2⟩

theorem get_some {w : World} {g : Nat} {A : Ar Int} {sv fv : Value} (h : AtI w g A sv fv) (hd : Int) (h1 : -9223372036854775808 ≤ hd) (h2 : hd ≤ 9223372036854775807) (hl : A.slots.length ≤ 2147483647) {k : Nat} {v : Int} (hk : A.look hd = some k) (hv : A.slots[k]? = some (true, v)) :
    Calls Try.prog 28 #[.pointer (some ⟨g, 0, none⟩), .int .i64 hd] w fun e w' => e = .returned (.tuple #[.int .i64 v, .bool true]) ∧ Below w.heap.size w w' := by
  have hkl := (look_some hk).2.1
  obtain ⟨sg, cap, rfl, hc⟩ := own_some h.slots (by omega)
  have HF := Lib.hid (find_some h hd h1 h2 hl hk)
  have u1 := (scells_used _ _ _ _ hv).2
  have u2 := h.slots.cellAt (k * 2 + 1) (by omega)
  rw [u1] at u2
  have hsl1 := own_lt h.slots (k := sg) rfl
  clear h hk hv u1 hc
  go_enter Try.func28, Try.ntmps28
  go_wp2_with (go_at_call 43; refine HF.out.mono ?_; rintro e w2 ⟨rfl, hb2⟩; (obtain ⟨hc, hf⟩ := bcell hb2))
  go_ret2
  exact ⟨rfl, hb2⟩

theorem at_none {w : World} {g : Nat} {A : Ar Int} {sv fv : Value} (h : AtI w g A sv fv) (hd : Int) (h1 : -9223372036854775808 ≤ hd) (h2 : hd ≤ 9223372036854775807) (hl : A.slots.length ≤ 2147483647) (hk : A.look hd = none) :
    Calls Try.prog 33 #[.pointer (some ⟨g, 0, none⟩), .int .i64 hd] w fun e w' => e = .returned (.pointer none) ∧ Below w.heap.size w w' := by
  have HF := Lib.hid (find_none h hd h1 h2 hl hk)
  clear h hk
  go_enter Try.func33, Try.ntmps33
  go_wp2_with (go_at_call 43; refine HF.out.mono ?_; rintro e w2 ⟨rfl, hb2⟩)
  go_ret
  exact ⟨rfl, hb2⟩

theorem at_some {w : World} {g sg cap : Nat} {A : Ar Int} {fv : Value} (h : AtI w g A (.slice (some ⟨sg, 0, none⟩) A.slots.length cap) fv) (hd : Int) (h1 : -9223372036854775808 ≤ hd) (h2 : hd ≤ 9223372036854775807) (hl : A.slots.length ≤ 2147483647) {k : Nat} (hk : A.look hd = some k) :
    Calls Try.prog 33 #[.pointer (some ⟨g, 0, none⟩), .int .i64 hd] w fun e w' => e = .returned (.pointer (some ⟨sg, k * 2 + 1, none⟩)) ∧ Below w.heap.size w w' := by
  have HF := Lib.hid (find_some h hd h1 h2 hl hk)
  clear h hk
  go_enter Try.func33, Try.ntmps33
  go_wp2_with (go_at_call 43; refine HF.out.mono ?_; rintro e w2 ⟨rfl, hb2⟩; (obtain ⟨hc, hf⟩ := bcell hb2))
  go_ret
  exact ⟨rfl, hb2⟩

theorem set_none {w : World} {g : Nat} {A : Ar Int} {sv fv : Value} (h : AtI w g A sv fv) (hd v : Int) (h1 : -9223372036854775808 ≤ hd) (h2 : hd ≤ 9223372036854775807) (hl : A.slots.length ≤ 2147483647) (hk : A.look hd = none) :
    Calls Try.prog 37 #[.pointer (some ⟨g, 0, none⟩), .int .i64 hd, .int .i64 v] w fun e w' => e = .returned (.bool false) ∧ Below w.heap.size w w' := by
  have HF := Lib.hid (find_none h hd h1 h2 hl hk)
  clear h hk
  go_enter Try.func37, Try.ntmps37
  go_wp2_with (go_at_call 43; refine HF.out.mono ?_; rintro e w2 ⟨rfl, hb2⟩)
  go_ret
  exact ⟨rfl, hb2⟩

theorem scells_put (l : List (Bool × Int)) (i : Nat) (u : Bool) (v : Int) : scells icell (l.set i (u, v)) = ((scells icell l).set (i * 2) (.bool u)).set (i * 2 + 1) (.int .i64 v) := by
  induction l generalizing i with
  | nil => simp [scells]
  | cons x l ih =>
    obtain ⟨u', v'⟩ := x
    cases i with
    | zero => simp [scells, icell]
    | succ i =>
      rw [show (i + 1) * 2 = i * 2 + 1 + 1 by omega, show i * 2 + 1 + 1 + 1 = (i * 2 + 1) + 1 + 1 by omega]
      simp [scells, icell, ih]
theorem set_same {α : Type} (l : List α) (i : Nat) (x : α) (h : l[i]? = some x) : l.set i x = l := by
  apply List.ext_getElem?
  intro j
  rw [List.getElem?_set]
  split
  · subst_vars; split
    · exact h.symm
    · rename_i k; rw [List.getElem?_eq_none (by omega)] at h; cases h
  · rfl

/-- an arena whose record of slot k is another -/
def Ar.put {α : Type} (A : Ar α) (k : Nat) (v : α) : Ar α := { A with slots := A.slots.set k (true, v) }

theorem AtI.below {w w' : World} {g : Nat} {A : Ar Int} {sv fv : Value} (h : AtI w g A sv fv) (k : Below w.heap.size w w') : AtI w' g A sv fv :=
  ⟨h.blk.below k, own_below h.slots k, own_below h.free k, h.d1, h.d2, h.d3⟩
theorem AtI.chg {F : Nat → Prop} {w w' : World} {g : Nat} {A : Ar Int} {sv fv : Value} (h : AtI w g A sv fv) (k : Chg F w w') (hF : ∀ i, Ft g sv fv i → ¬ F i) : AtI w' g A sv fv :=
  ⟨h.blk.chg k (hF _ (.inl rfl)), own_chg h.slots k (fun i hi => hF _ (.inr (.inl hi))), own_chg h.free k (fun i hi => hF _ (.inr (.inr hi))), h.d1, h.d2, h.d3⟩
theorem AtI.lt {w : World} {g : Nat} {A : Ar Int} {sv fv : Value} (h : AtI w g A sv fv) (k : Nat) (hk : Ft g sv fv k) : k < w.heap.size := by
  rcases hk with rfl | hk | hk
  · exact h.blk.lt
  · exact own_lt h.slots hk
  · exact own_lt h.free hk

/-- one record written over -/
theorem AtI.stored {w : World} {g sg cap : Nat} {A : Ar Int} {fv : Value} (h : AtI w g A (.slice (some ⟨sg, 0, none⟩) A.slots.length cap) fv) (k : Nat) (v v0 : Int) (hv : A.slots[k]? = some (true, v0)) :
    AtI (w.setCell ⟨sg, k * 2 + 1, none⟩ (.int .i64 v)) g (A.put k v) (.slice (some ⟨sg, 0, none⟩) A.slots.length cap) fv := by
  have hne : g ≠ sg := by have := h.d1; simpa [Value.ownBlock, eq_comm] using this
  refine ⟨h.blk.setOther _ hne _, ?_, own_setOther h.free _ (h.d3 sg rfl) _, h.d1, h.d2, h.d3⟩
  have := own_set h.slots (k * 2 + 1) (.int .i64 v)
  have e : (scells icell A.slots).set (k * 2 + 1) (.int .i64 v) = scells icell (A.slots.set k (true, v)) := by
    rw [scells_put, set_same _ _ _ (scells_used _ _ _ _ hv).1]
  rw [e] at this
  simpa [Ar.put] using this

theorem set_some {w : World} {g : Nat} {A : Ar Int} {sv fv : Value} (h : AtI w g A sv fv) (hd v : Int) (h1 : -9223372036854775808 ≤ hd) (h2 : hd ≤ 9223372036854775807) (hl : A.slots.length ≤ 2147483647) {k : Nat} (hk : A.look hd = some k) :
    Calls Try.prog 37 #[.pointer (some ⟨g, 0, none⟩), .int .i64 hd, .int .i64 v] w fun e w' => e = .returned (.bool true) ∧ AtI w' g (A.put k v) sv fv ∧ Chg (Ft g sv fv) w w' := by
  obtain ⟨_, hkl, v0, hv⟩ := look_some hk
  obtain ⟨sg, cap, rfl, hc⟩ := own_some h.slots (by omega)
  have HF := Lib.hid (find_some h hd h1 h2 hl hk)
  have u1 := (scells_used _ _ _ _ hv).2
  have u2 := h.slots.cellAt (k * 2 + 1) (by omega)
  rw [u1] at u2
  have u3 := h.slots.frozenAt (k * 2 + 1)
  have hsl1 := own_lt h.slots (k := sg) rfl
  have HV := Lib.hid hv
  clear hk hv u1 hc
  go_enter Try.func37, Try.ntmps37
  go_wp2_with (go_at_call 43; refine HF.out.mono ?_; rintro e w2 ⟨rfl, hb2⟩; (obtain ⟨hc, hf⟩ := bcell hb2))
  go_ret
  refine ⟨rfl, (h.below hb2).stored k v v0 HV.out, (Chg.of_below hb2).setCell _ (fun _ => .inr (.inl rfl)) _⟩
end Go.Proofs.Ytabmmampgmcibaa.W
