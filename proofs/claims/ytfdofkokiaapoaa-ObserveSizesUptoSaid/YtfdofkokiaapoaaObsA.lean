/- Sizes: the cells of a size; the contracts of place and of what it calls. -/
import Derived.Test.YtfdofkokiaapoaaRows
import Derived.Test.YtfdofkokiaapoaaCells
import Derived.Test.YtfdofkokiaapoaaRegM
import Derived.Test.YtfdofkokiaapoaaSel
namespace Go.Proofs.Ytfdofkokiaapoaa.W
open Go.RowKit
set_option linter.unusedVariables false

/-- a size: the node, the width, the height -/
abbrev Sz := Int × Int × Int
def encZ (x : Sz) : List Value := [.int .i64 x.1, .int .i64 x.2.1, .int .i64 x.2.2]
theorem encZ_len (x : Sz) : (encZ x).length = 3 := rfl
theorem encZ_one (x : Sz) : ∀ u ∈ encZ x, u.oneCell' = true := by intro u hu; simp [encZ] at hu; rcases hu with rfl | rfl | rfl <;> rfl
theorem etZ : ET Try.prog 33 41 3 24 := ET.mk' (z := .agg #[.int .i64 0, .int .i64 0, .int .i64 0]) Try.underlying33 (by kernel_rfl) rfl (by decide)
/-- a slice of sizes -/
abbrev zl (v : Value) (l : List Sz) : Ob := sl 41 3 v l.length (rows encZ l)

/-- the place of a node in a list of sizes -/
def placeOf (l : List Sz) (x : Int) : Int := match l.findIdx? (fun y => y.1 == x) with | some i => (i : Int) | none => -1

theorem place1_any (n wd h x : Int) (g : Nat) (w : World) (hg : w.cell? ⟨g, 0, none⟩ = some (.int .i64 x)) :
    Calls Try.prog 24 #[.agg #[.int .i64 n, .int .i64 wd, .int .i64 h], .pointer (some ⟨g, 0, none⟩)] w fun e w' => e = .returned (.bool (n == x)) ∧ Below w.heap.size w w' := by
  have hlt : g < w.heap.size := World.block_lt_of_cell? w ⟨g, 0, none⟩ hg
  have hne : g ≠ w.heap.size := by omega
  have hal : ∀ o, (w.alloc o).cell? ⟨g, 0, none⟩ = some (.int .i64 x) := fun o => (World.cell?_alloc_lt _ _ _ hlt).trans hg
  go_enter Try.func24, Try.ntmps24
  go_wp2_with fail
  go_ret
  exact ⟨rfl, (Below.refl _ _).alloc (Nat.le_refl _) _⟩

theorem placeOf_some {l : List Sz} {x : Int} {k : Nat} {y : Sz} (hk : l[k]? = some y) (hy : y.1 = x) (h : ∀ j z, j < k → l[j]? = some z → z.1 ≠ x) : placeOf l x = (k : Int) := by
  unfold placeOf
  obtain ⟨hlt, he⟩ := List.getElem?_eq_some_iff.1 hk
  have : l.findIdx? (fun y => y.1 == x) = some k := by
    rw [List.findIdx?_eq_some_iff_getElem]
    refine ⟨hlt, by rw [he]; simpa using hy, fun j hj => ?_⟩
    have := h j l[j] hj (List.getElem?_eq_getElem (by omega))
    simpa using this
  rw [this]
theorem placeOf_none {l : List Sz} {x : Int} (h : ∀ (j : Nat) (z : Sz), l[j]? = some z → z.1 ≠ x) : placeOf l x = -1 := by
  unfold placeOf
  have : l.findIdx? (fun y => y.1 == x) = none := by
    rw [List.findIdx?_eq_none_iff]
    intro z hz
    obtain ⟨j, hj⟩ := List.getElem?_of_mem hz
    simpa using h j z hj
  rw [this]
def PlR (w : World) (l : List Sz) (x : Int) (iv : Value) (wr : World) : Prop := ∃ k : Nat, k ≤ l.length ∧ iv = .int .i64 (k : Int) ∧ (∀ j z, j < k → l[j]? = some z → z.1 ≠ x) ∧ Below w.heap.size w wr

set_option maxRecDepth 100000 in
theorem index_any {w : World} {v : Value} {l : List Sz} {x : Int} {g : Nat} (h : Own w 41 3 v l.length (rows encZ l)) (hg : w.cell? ⟨g, 0, none⟩ = some (.int .i64 x)) (hl : l.length ≤ 2000000) :
    Calls Try.prog 23 #[v, .func (.func 24) #[] #[.pointer (some ⟨g, 0, none⟩)]] w fun e w' => e = .returned (.int .i64 (placeOf l x)) ∧ Below w.heap.size w w' := by
  have hlt : g < w.heap.size := World.block_lt_of_cell? w ⟨g, 0, none⟩ hg
  obtain ⟨va, vc, rfl⟩ := own_shape h
  have H := Lib.hid h
  have HG := Lib.hid hg
  clear h hg
  go_enter Try.func23, Try.ntmps23
  go_wp2_with fail
  go_loopw [8] (fun iv wr => PlR w l x iv wr) (fun iv _ => l.length - (intOf iv).toNat)
  case atStart => exact ⟨0, Nat.zero_le _, rfl, fun j z hj => absurd hj (Nat.not_lt_zero j), Below.refl _ _⟩
  case round =>
    obtain ⟨k, hk, rfl, hN, hB⟩ := hrel
    have HN := Lib.hid hN
    clear hN
    by_cases hkl : k < l.length
    · obtain ⟨y, hy⟩ : ∃ y, l[k]? = some y := ⟨_, List.getElem?_eq_getElem hkl⟩
      have hO := own_below H.out hB
      obtain ⟨vg, vc', he, _⟩ := own_some hO (by omega)
      simp only [Value.slice.injEq] at he
      obtain ⟨rfl, _, rfl⟩ := he
      have q0 := hO.cellAt (k * 3) (by omega)
      have q1 := hO.cellAt (k * 3 + 1) (by omega)
      have q2 := hO.cellAt (k * 3 + 2) (by omega)
      have r0 := rows_at (enc := encZ) encZ_len l k y hy 0 (by decide)
      have r1 := rows_at (enc := encZ) encZ_len l k y hy 1 (by decide)
      have r2 := rows_at (enc := encZ) encZ_len l k y hy 2 (by decide)
      rw [show k * 3 + 0 = k * 3 from rfl] at r0
      rw [r0] at q0
      rw [r1] at q1
      rw [r2] at q2
      simp only [encZ, List.getElem?_cons_zero, List.getElem?_cons_succ] at q0 q1 q2
      have hc := (hB.cell (p := ⟨g, 0, none⟩) hlt).trans HG.out
      have HC := Lib.hid (place1_any y.1 y.2.1 y.2.2 x g wr hc)
      have HY := Lib.hid hy
      clear r0 r1 r2 hO hc hy
      by_cases hyx : y.1 = x
      · have e1 : (y.1 == x) = true := by simpa using hyx
        have HP := Lib.hid (placeOf_some HY.out hyx HN.out)
        rw [e1] at HC
        clear hyx e1
        go_wp2_with fail
        refine HC.out.mono ?_
        rintro e w2 ⟨rfl, hb2⟩
        go_wp2_with fail
        go_ret
        exact ⟨by rw [HP.out]; rfl, hB.trans (hb2.mono hB.size)⟩
      · have e1 : (y.1 == x) = false := by simpa using hyx
        rw [e1] at HC
        clear e1
        go_wp2_with fail
        refine HC.out.mono ?_
        rintro e w2 ⟨rfl, hb2⟩
        go_wp2_with fail
        go_roundw
        case rel =>
          refine ⟨k + 1, by omega, by go_num, fun j z hj hz => ?_, hB.trans (hb2.mono hB.size)⟩
          by_cases e : j = k
          · subst e
            rw [HY.out] at hz
            obtain rfl := Option.some.inj hz
            exact hyx
          · exact HN.out j z (by omega) hz
        case measure => simp [intOf]; omega
    · have HP := Lib.hid (placeOf_none (l := l) (x := x) fun j z hz => HN.out j z (by have := (List.getElem?_eq_some_iff.1 hz).1; omega) hz)
      go_wp2_with fail
      go_ret
      exact ⟨by rw [HP.out]; rfl, hB⟩

theorem place_any {w : World} {v : Value} {l : List Sz} (x : Int) (h : Own w 41 3 v l.length (rows encZ l)) (hl : l.length ≤ 2000000) :
    Calls Try.prog 19 #[v, .int .i64 x] w fun e w' => e = .returned (.int .i64 (placeOf l x)) ∧ Below w.heap.size w w' := by
  have hb : Below w.heap.size w (w.alloc (.cells #[.int .i64 x] 3)) := (Below.refl _ _).alloc (Nat.le_refl _) _
  have HC := Lib.hid (index_any (g := w.heap.size) (x := x) (own_below h hb) (by simp) hl)
  clear h
  go_enter Try.func19, Try.ntmps19
  go_wp2_with fail
  refine HC.out.mono ?_
  rintro e w2 ⟨rfl, hb2⟩
  go_wp2_with fail
  go_ret
  exact ⟨rfl, bthen hb hb2⟩
end Go.Proofs.Ytfdofkokiaapoaa.W
