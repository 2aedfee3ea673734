/- Texts joined: ZoA ZoB ZoC ZoD. -/
import Derived.Test.YtfdofkokiaapoaaGreatDoorRows
import Derived.Test.YtfdofkokiaapoaaGreatDoorGv10
import Derived.Test.YtfdofkokiaapoaaGreatDoorGv4
import Derived.Test.YtfdofkokiaapoaaGreatDoorGv9
import Derived.Deep.RegionLaw
section
/- Sizes: the cells of a size; the contracts of place and of what it calls. -/
namespace Go.Proofs.YtfdofkokiaapoaaGreatDoor.W.Z
open Go.RowKit
set_option linter.unusedVariables false

/-- a size: the node, the width, the height -/
abbrev Sz := Int × Int × Int
def encZ (x : Sz) : List Value := [.int .i64 x.1, .int .i64 x.2.1, .int .i64 x.2.2]
theorem encZ_len (x : Sz) : (encZ x).length = 3 := rfl
theorem encZ_one (x : Sz) : ∀ u ∈ encZ x, u.oneCell' = true := by intro u hu; simp [encZ] at hu; rcases hu with rfl | rfl | rfl <;> rfl
theorem etZ : ET Tryz.prog 45 67 3 24 := ET.mk' (z := .agg #[.int .i64 0, .int .i64 0, .int .i64 0]) Tryz.underlying45 (by kernel_rfl) rfl (by decide)
/-- a slice of sizes -/
abbrev zl (v : Value) (l : List Sz) : Ob := sl 67 3 v l.length (rows encZ l)

/-- the place of a node in a list of sizes -/
def placeOf (l : List Sz) (x : Int) : Int := match l.findIdx? (fun y => y.1 == x) with | some i => (i : Int) | none => -1

theorem place1_any (n wd h x : Int) (g : Nat) (w : World) (hg : w.cell? ⟨g, 0, none⟩ = some (.int .i64 x)) :
    Calls Tryz.prog 77 #[.agg #[.int .i64 n, .int .i64 wd, .int .i64 h], .pointer (some ⟨g, 0, none⟩)] w fun e w' => e = .returned (.bool (n == x)) ∧ Below w.heap.size w w' := by
  have hlt : g < w.heap.size := World.block_lt_of_cell? w ⟨g, 0, none⟩ hg
  have hne : g ≠ w.heap.size := by omega
  have hal : ∀ o, (w.alloc o).cell? ⟨g, 0, none⟩ = some (.int .i64 x) := fun o => (World.cell?_alloc_lt _ _ _ hlt).trans hg
  go_enter Tryz.func77, Tryz.ntmps77
  go_wp2_with fail
  go_ret
  exact ⟨rfl, (Below.refl _ _).alloc (Nat.le_refl _) _⟩

theorem placeOf_some {l : List Sz} {x : Int} {k : Nat} {y : Sz} (hk : l[k]? = some y) (hy : y.1 = x) (h : ∀ j z, j < k → l[j]? = some z → z.1 ≠ x) : placeOf l x = (k : Int) := by
  unfold placeOf
  obtain ⟨hlt, he⟩ := List.getElem?_eq_some_iff.1 hk
  have : l.findIdx? (fun y => y.1 == x) = some k := by
    rw [List.findIdx?_eq_some_iff_getElem]
    refine ⟨hlt, by rw [he]; simpa using hy, fun j hj => ?_⟩
    have := h j l[j] hj (List.getElem?_eq_getElem (by omega))
    simpa using this
  rw [this]
theorem placeOf_none {l : List Sz} {x : Int} (h : ∀ (j : Nat) (z : Sz), l[j]? = some z → z.1 ≠ x) : placeOf l x = -1 := by
  unfold placeOf
  have : l.findIdx? (fun y => y.1 == x) = none := by
    rw [List.findIdx?_eq_none_iff]
    intro z hz
    obtain ⟨j, hj⟩ := List.getElem?_of_mem hz
    simpa using h j z hj
  rw [this]
def PlR (w : World) (l : List Sz) (x : Int) (iv : Value) (wr : World) : Prop := ∃ k : Nat, k ≤ l.length ∧ iv = .int .i64 (k : Int) ∧ (∀ j z, j < k → l[j]? = some z → z.1 ≠ x) ∧ Below w.heap.size w wr

set_option maxRecDepth 100000 in
theorem index_any {w : World} {v : Value} {l : List Sz} {x : Int} {g : Nat} (h : Own w 67 3 v l.length (rows encZ l)) (hg : w.cell? ⟨g, 0, none⟩ = some (.int .i64 x)) (hl : l.length ≤ 2000000) :
    Calls Tryz.prog 76 #[v, .func (.func 77) #[] #[.pointer (some ⟨g, 0, none⟩)]] w fun e w' => e = .returned (.int .i64 (placeOf l x)) ∧ Below w.heap.size w w' := by
  have hlt : g < w.heap.size := World.block_lt_of_cell? w ⟨g, 0, none⟩ hg
  obtain ⟨va, vc, rfl⟩ := own_shape h
  have H := Lib.hid h
  have HG := Lib.hid hg
  clear h hg
  go_enter Tryz.func76, Tryz.ntmps76
  go_wp2_with fail
  go_loopw [8] (fun iv wr => PlR w l x iv wr) (fun iv _ => l.length - (intOf iv).toNat)
  case atStart => exact ⟨0, Nat.zero_le _, rfl, fun j z hj => absurd hj (Nat.not_lt_zero j), Below.refl _ _⟩
  case round =>
    obtain ⟨k, hk, rfl, hN, hB⟩ := hrel
    have HN := Lib.hid hN
    clear hN
    by_cases hkl : k < l.length
    · obtain ⟨y, hy⟩ : ∃ y, l[k]? = some y := ⟨_, List.getElem?_eq_getElem hkl⟩
      have hO := own_below H.out hB
      obtain ⟨vg, vc', he, _⟩ := own_some hO (by omega)
      simp only [Value.slice.injEq] at he
      obtain ⟨rfl, _, rfl⟩ := he
      have q0 := hO.cellAt (k * 3) (by omega)
      have q1 := hO.cellAt (k * 3 + 1) (by omega)
      have q2 := hO.cellAt (k * 3 + 2) (by omega)
      have r0 := rows_at (enc := encZ) encZ_len l k y hy 0 (by decide)
      have r1 := rows_at (enc := encZ) encZ_len l k y hy 1 (by decide)
      have r2 := rows_at (enc := encZ) encZ_len l k y hy 2 (by decide)
      rw [show k * 3 + 0 = k * 3 from rfl] at r0
      rw [r0] at q0
      rw [r1] at q1
      rw [r2] at q2
      simp only [encZ, List.getElem?_cons_zero, List.getElem?_cons_succ] at q0 q1 q2
      have hc := (hB.cell (p := ⟨g, 0, none⟩) hlt).trans HG.out
      have HC := Lib.hid (place1_any y.1 y.2.1 y.2.2 x g wr hc)
      have HY := Lib.hid hy
      clear r0 r1 r2 hO hc hy
      by_cases hyx : y.1 = x
      · have e1 : (y.1 == x) = true := by simpa using hyx
        have HP := Lib.hid (placeOf_some HY.out hyx HN.out)
        rw [e1] at HC
        clear hyx e1
        go_wp2_with fail
        refine HC.out.mono ?_
        rintro e w2 ⟨rfl, hb2⟩
        go_wp2_with fail
        go_ret
        exact ⟨by rw [HP.out]; rfl, hB.trans (hb2.mono hB.size)⟩
      · have e1 : (y.1 == x) = false := by simpa using hyx
        rw [e1] at HC
        clear e1
        go_wp2_with fail
        refine HC.out.mono ?_
        rintro e w2 ⟨rfl, hb2⟩
        go_wp2_with fail
        go_roundw
        case rel =>
          refine ⟨k + 1, by omega, by go_num, fun j z hj hz => ?_, hB.trans (hb2.mono hB.size)⟩
          by_cases e : j = k
          · subst e
            rw [HY.out] at hz
            obtain rfl := Option.some.inj hz
            exact hyx
          · exact HN.out j z (by omega) hz
        case measure => simp [intOf]; omega
    · have HP := Lib.hid (placeOf_none (l := l) (x := x) fun j z hz => HN.out j z (by have := (List.getElem?_eq_some_iff.1 hz).1; omega) hz)
      go_wp2_with fail
      go_ret
      exact ⟨by rw [HP.out]; rfl, hB⟩

theorem place_any {w : World} {v : Value} {l : List Sz} (x : Int) (h : Own w 67 3 v l.length (rows encZ l)) (hl : l.length ≤ 2000000) :
    Calls Tryz.prog 47 #[v, .int .i64 x] w fun e w' => e = .returned (.int .i64 (placeOf l x)) ∧ Below w.heap.size w w' := by
  have hb : Below w.heap.size w (w.alloc (.cells #[.int .i64 x] 3)) := (Below.refl _ _).alloc (Nat.le_refl _) _
  have HC := Lib.hid (index_any (g := w.heap.size) (x := x) (own_below h hb) (by simp) hl)
  clear h
  go_enter Tryz.func47, Tryz.ntmps47
  go_wp2_with fail
  refine HC.out.mono ?_
  rintro e w2 ⟨rfl, hb2⟩
  go_wp2_with fail
  go_ret
  exact ⟨rfl, bthen hb hb2⟩
end Go.Proofs.YtfdofkokiaapoaaGreatDoor.W.Z
end
section
/- The observers of sizes in memory; the contracts of sizer, CreateSizer, Observe. -/
namespace Go.Proofs.YtfdofkokiaapoaaGreatDoor.W.Z
open Go.RowKit
set_option linter.unusedVariables false

/-- an observer of sizes: its number, its callback, the sizes, the entries -/
structure Zr where
  id : Int
  cb : Int
  sz : List Sz
  en : List Sz
/-- an observer with its two slices -/
abbrev Zv := Zr × Value × Value
def encS (x : Zv) : List Value := [.int .i64 x.1.id, .int .i64 x.1.cb, x.2.1, x.2.2]
theorem encS_len (x : Zv) : (encS x).length = 4 := rfl
def stObs (zs : List Zv) : List Ob := zs.flatMap fun x => [zl x.2.1 x.1.sz, zl x.2.2 x.1.en]
theorem stObs_split (z1 : List Zv) (x : Zv) (z2 : List Zv) (l : List Ob) : stObs (z1 ++ x :: z2) ++ l = stObs z1 ++ (zl x.2.1 x.1.sz :: zl x.2.2 x.1.en :: (stObs z2 ++ l)) := by simp [stObs]
/-- the objects of a State without observers of mutations -/
def stL (g : Nat) (zv : Value) (nx : Int) (zs : List Zv) : List Ob := bk g [.slice none 0 0, zv, .int .i64 nx] 34 :: sl 96 4 zv zs.length (rows encS zs) :: stObs zs
theorem etS : ET Tryz.prog 32 96 4 64 := ET.mk' (z := .agg #[.int .i64 0, .int .i64 0, .slice none 0 0, .slice none 0 0]) Tryz.underlying32 (by kernel_rfl) rfl (by decide)

/-- the place of an observer -/
def ZrR (w : World) (zs : List Zv) (id : Int) (iv : Value) (wr : World) : Prop := ∃ k : Nat, k ≤ zs.length ∧ iv = .int .i64 (k : Int) ∧ (∀ j z, j < k → zs[j]? = some z → z.1.id ≠ id) ∧ w = wr

set_option maxRecDepth 100000 in
theorem sizer_at {B : Nat} {w0 w : World} {g zg zc : Nat} {nx : Int} {z1 z2 : List Zv} {z : Zv} {l : List Ob} (h : All B w0 (stL g (.slice (some ⟨zg, 0, none⟩) (z1 ++ z :: z2).length zc) nx (z1 ++ z :: z2) ++ l) w) (hn : ∀ y ∈ z1, y.1.id ≠ z.1.id) (hl : (z1 ++ z :: z2).length ≤ 1000000) :
    Calls Tryz.prog 42 #[.pointer (some ⟨g, 0, none⟩), .int .i64 z.1.id] w fun e w' => e = .returned (.pointer (some ⟨zg, z1.length * 4, none⟩)) ∧ w = w' := by
  have hb : Blk _ _ _ _ := h.head
  have hs : Own _ _ _ _ _ _ := h.tail.head
  have c1 := hb.cell 1
  simp only [List.getElem?_cons_zero, List.getElem?_cons_succ] at c1
  have HS := Lib.hid hs
  have HN := Lib.hid hn
  have hlt : z1.length < (z1 ++ z :: z2).length := by simp
  have hcell : ∀ k y, (z1 ++ z :: z2)[k]? = some y → w.cell? ⟨zg, k * 4, none⟩ = some (.int .i64 y.1.id) := fun k y hy => by
    have h1 := hs.cellAt (k * 4) (by have := (List.getElem?_eq_some_iff.1 hy).1; omega)
    have h2 := rows_at (enc := encS) encS_len _ k y hy 0 (by decide)
    rw [Nat.add_zero] at h2
    rw [h1, h2]
    rfl
  have HC := Lib.hid hcell
  clear hb hs h hn hcell
  obtain ⟨n, hnn⟩ : ∃ n, (z1 ++ z :: z2).length = n := ⟨_, rfl⟩
  rw [hnn] at c1 hlt hl
  have HNN := Lib.hid hnn
  clear hnn
  go_enter Tryz.func42, Tryz.ntmps42
  go_wp2_with fail
  go_loop [11] (fun iv => ∃ k : Nat, k ≤ z1.length ∧ iv = .int .i64 (k : Int)) (fun iv => n - (intOf iv).toNat)
  case atStart => exact ⟨0, Nat.zero_le _, rfl⟩
  case round =>
    obtain ⟨k, hk, rfl⟩ := hrel
    by_cases hkl : k < z1.length
    · have hy : (z1 ++ z :: z2)[k]? = some z1[k] := by rw [List.getElem?_append_left hkl, List.getElem?_eq_getElem hkl]
      have q0 := HC.out k _ hy
      have hne := HN.out z1[k] (List.getElem_mem hkl)
      generalize z1[k].1.id = y at *
      have e1 : (y == z.1.id) = false := by simpa using hne
      clear hy hne
      go_wp2_with fail
      go_round
      case rel => exact ⟨k + 1, by omega, by go_num⟩
      case measure => simp [intOf]; omega
    · obtain rfl : k = z1.length := by omega
      have q0 := HC.out z1.length z (get_mid z1 z z2)
      go_wp2_with fail
      go_ret
      exact ⟨rfl, rfl⟩

set_option maxRecDepth 100000 in
theorem sizer_no {B : Nat} {w0 w : World} {g : Nat} {zv : Value} {nx : Int} {zs : List Zv} {l : List Ob} (h : All B w0 (stL g zv nx zs ++ l) w) (id : Int) (hn : ∀ y ∈ zs, y.1.id ≠ id) (hl : zs.length ≤ 1000000) :
    Calls Tryz.prog 42 #[.pointer (some ⟨g, 0, none⟩), .int .i64 id] w fun e w' => e = .returned (.pointer none) ∧ w = w' := by
  have hb : Blk _ _ _ _ := h.head
  have hs : Own _ _ _ _ _ _ := h.tail.head
  obtain ⟨za, zc, rfl⟩ := own_shape hs
  have c1 := hb.cell 1
  simp only [List.getElem?_cons_zero, List.getElem?_cons_succ] at c1
  have HS := Lib.hid hs
  have HN := Lib.hid hn
  clear hb hs h hn
  go_enter Tryz.func42, Tryz.ntmps42
  go_wp2_with fail
  go_loop [11] (fun iv => ∃ k : Nat, k ≤ zs.length ∧ iv = .int .i64 (k : Int)) (fun iv => zs.length - (intOf iv).toNat)
  case atStart => exact ⟨0, Nat.zero_le _, rfl⟩
  case round =>
    obtain ⟨k, hk, rfl⟩ := hrel
    by_cases hkl : k < zs.length
    · have hy : zs[k]? = some zs[k] := List.getElem?_eq_getElem hkl
      obtain ⟨zg, zc', he, _⟩ := own_some HS.out (by omega)
      simp only [Value.slice.injEq] at he
      obtain ⟨rfl, _, rfl⟩ := he
      have q0 := HS.out.cellAt (k * 4) (by omega)
      have q1 := rows_at (enc := encS) encS_len _ k _ hy 0 (by decide)
      rw [Nat.add_zero] at q1
      rw [q1] at q0
      simp only [encS, List.getElem?_cons_zero] at q0
      have hne := HN.out zs[k] (List.getElem_mem hkl)
      generalize zs[k].1.id = y at *
      have e1 : (y == id) = false := by simpa using hne
      clear hy hne q1
      go_wp2_with fail
      go_round
      case rel => exact ⟨k + 1, by omega, by go_num⟩
      case measure => simp [intOf]; omega
    · go_wp2_with fail
      go_ret
      exact ⟨rfl, rfl⟩

theorem perm_in (A B C L : List Ob) : (A ++ (B ++ (C ++ L))).Perm (B ++ (C ++ (A ++ L))) :=
  (List.perm_append_comm_assoc A B (C ++ L)).trans (List.Perm.append_left B (List.perm_append_comm_assoc A C L))

set_option maxRecDepth 100000 in
set_option maxHeartbeats 1000000 in
theorem create_any {B : Nat} {w0 w : World} {g : Nat} {zv : Value} {nx : Int} {zs : List Zv} {l : List Ob} (h : All B w0 (stL g zv nx zs ++ l) w) (cb : Int) (n0 : 0 ≤ nx) (n1 : nx ≤ 1000000) (hl : zs.length ≤ 1000000) :
    Calls Tryz.prog 18 #[.pointer (some ⟨g, 0, none⟩), .int .i64 cb] w fun e w' => ∃ zv', e = .returned (.int .i64 (nx + 1)) ∧ All B w0 (stL g zv' (nx + 1) (zs ++ [(⟨nx + 1, cb, [], []⟩, .slice none 0 0, .slice none 0 0)]) ++ l) w' := by
  have hs : Own _ _ _ _ _ _ := h.tail.head
  obtain ⟨za, zc, rfl⟩ := own_shape hs
  have hA1 := h.setBk [] 2 (.int .i64 (nx + 1))
  have hb0 : Blk _ _ _ _ := h.head
  have a1 := hb0.cell 1
  have a2 := hb0.cell 2
  have af := hb0.free
  have hlt0 := hb0.lt
  simp at a1 a2
  have hb : Blk _ _ _ _ := hA1.head
  have c1 := hb.cell 1
  have c2 := hb.cell 2
  have hlt := hb.lt
  simp only [List.set_cons_succ, List.set_cons_zero, List.getElem?_cons_zero, List.getElem?_cons_succ] at c1 c2
  have HA := Lib.hid hA1
  clear h hs hb hb0 hA1
  go_enter Tryz.func18, Tryz.ntmps18
  go_wp2_with fail
  clear a1 a2 af hlt0
  generalize w.setCell ⟨g, 2, none⟩ (.int .i64 (nx + 1)) = W at *
  have ea : ∀ o, (W.alloc o).cell? ⟨g, 1, none⟩ = some (.slice za zs.length zc) := fun o => (World.cell?_alloc_lt _ _ _ hlt).trans c1
  go_region_law (first
    | (refine step_append_all etS [_] (HA.out.drew.alloc (.cells #[.int .i64 (nx + 1), .int .i64 cb, .slice none 0 0, .slice none 0 0] 96)) (own_at (n := 1) (size := 4) (Blk.new W.drew [.int .i64 (nx + 1), .int .i64 cb, .slice none 0 0, .slice none 0 0] 96) rfl (by omega)) (by intro u hu; simp at hu; rcases hu with rfl | rfl | rfl | rfl <;> rfl) (by omega) (by omega) (by rfl) _ _ (by rfl) (by rfl) (by rfl) ?_; intro v' w2 hA2; have ho : Own _ _ _ _ _ _ := hA2.tail.head; obtain ⟨va, vc, rfl⟩ := own_shape ho; have b2 : Blk _ _ _ _ := hA2.head; have d1 := b2.cell 1; have d2 := b2.cell 2; have df := b2.free; simp only [List.set_cons_succ, List.set_cons_zero, List.getElem?_cons_zero, List.getElem?_cons_succ] at d1 d2; have HB := Lib.hid hA2; clear hA2 ho b2))
  all_goals
    go_wp2_with fail
    go_ret
    refine ⟨.slice va (zs.length + 1) vc, rfl, ?_⟩
    have h9 := ((HB.out.setBk [] 1 (.slice va (zs.length + 1) vc)).nil 67 3).nil 67 3
    have h10 := h9.perm (perm_in [_, _] [_, _] (stObs zs) l)
    unfold stL
    rw [List.length_append, rows_snoc]
    simp [stObs, encS] at h10 ⊢
    exact h10
end Go.Proofs.YtfdofkokiaapoaaGreatDoor.W.Z
end
section
/- The contract of Observe. -/
namespace Go.Proofs.YtfdofkokiaapoaaGreatDoor.W.Z
open Go.RowKit
set_option linter.unusedVariables false

theorem placeOf_lo (l : List Sz) (x : Int) : -1 ≤ placeOf l x := by unfold placeOf; split <;> omega
theorem stL_split (g : Nat) (zv : Value) (nx : Int) (z1 : List Zv) (z : Zv) (z2 : List Zv) (l : List Ob) :
    stL g zv nx (z1 ++ z :: z2) ++ l = [bk g [.slice none 0 0, zv, .int .i64 nx] 34, sl 96 4 zv (z1 ++ z :: z2).length (rows encS (z1 ++ z :: z2))] ++ stObs z1 ++ (zl z.2.1 z.1.sz :: zl z.2.2 z.1.en :: (stObs z2 ++ l)) := by
  unfold stL
  simp only [List.cons_append, List.nil_append]
  rw [stObs_split]

/-- a field of an observer written: the sizes -/
theorem st_set2 {B : Nat} {w0 w : World} {g zg zc N : Nat} {nx : Int} {z1 z2 : List Zv} {z z' : Zr} {a b a' : Value} {l : List Ob}
    (h : All B w0 ([bk g [.slice none 0 0, .slice (some ⟨zg, 0, none⟩) N zc, .int .i64 nx] 34, sl 96 4 (.slice (some ⟨zg, 0, none⟩) N zc) N (rows encS (z1 ++ (z, a, b) :: z2))] ++ stObs z1 ++ (zl a' z'.sz :: zl b z'.en :: (stObs z2 ++ l))) w)
    (hN : (z1 ++ (z, a, b) :: z2).length = N) (h1 : z'.id = z.id) (h2 : z'.cb = z.cb) : All B w0 (stL g (.slice (some ⟨zg, 0, none⟩) N zc) nx (z1 ++ (z', a', b) :: z2) ++ l) (w.setCell ⟨zg, z1.length * 4 + 2, none⟩ a') := by
  rw [stL_split]
  have hr := rows_field (enc := encS) encS_len (z1 ++ (z, a, b) :: z2) z1.length 2 _ (z', a', b) a' (get_mid _ _ _) (by decide) (by simp [encS, h1, h2])
  rw [set_mid] at hr
  have hN' : (z1 ++ (z', a', b) :: z2).length = N := by rw [← hN]; simp
  rw [hr, hN']
  exact h.setSl [_] (z1.length * 4 + 2) a'
/-- a field of an observer written: the entries -/
theorem st_set3 {B : Nat} {w0 w : World} {g zg zc N : Nat} {nx : Int} {z1 z2 : List Zv} {z z' : Zr} {a b b' : Value} {l : List Ob}
    (h : All B w0 ([bk g [.slice none 0 0, .slice (some ⟨zg, 0, none⟩) N zc, .int .i64 nx] 34, sl 96 4 (.slice (some ⟨zg, 0, none⟩) N zc) N (rows encS (z1 ++ (z, a, b) :: z2))] ++ stObs z1 ++ (zl a z'.sz :: zl b' z'.en :: (stObs z2 ++ l))) w)
    (hN : (z1 ++ (z, a, b) :: z2).length = N) (h1 : z'.id = z.id) (h2 : z'.cb = z.cb) : All B w0 (stL g (.slice (some ⟨zg, 0, none⟩) N zc) nx (z1 ++ (z', a, b') :: z2) ++ l) (w.setCell ⟨zg, z1.length * 4 + 3, none⟩ b') := by
  rw [stL_split]
  have hr := rows_field (enc := encS) encS_len (z1 ++ (z, a, b) :: z2) z1.length 3 _ (z', a, b') b' (get_mid _ _ _) (by decide) (by simp [encS, h1, h2])
  rw [set_mid] at hr
  have hN' : (z1 ++ (z', a, b') :: z2).length = N := by rw [← hN]; simp
  rw [hr, hN']
  exact h.setSl [_] (z1.length * 4 + 3) b'
/-- the cells of one observer -/
theorem st_cells {B : Nat} {w0 w : World} {g zg zc : Nat} {nx : Int} {z1 z2 : List Zv} {z : Zr} {a b : Value} {l : List Ob} (h : All B w0 (stL g (.slice (some ⟨zg, 0, none⟩) (z1 ++ (z, a, b) :: z2).length zc) nx (z1 ++ (z, a, b) :: z2) ++ l) w) :
    (w.cell? ⟨zg, z1.length * 4, none⟩ = some (.int .i64 z.id) ∧ w.cell? ⟨zg, z1.length * 4 + 1, none⟩ = some (.int .i64 z.cb) ∧ w.cell? ⟨zg, z1.length * 4 + 2, none⟩ = some a ∧ w.cell? ⟨zg, z1.length * 4 + 3, none⟩ = some b) ∧
    (∀ j, w.frozen? ⟨zg, j, none⟩ = false) ∧ zg < w.heap.size ∧ w.cell? ⟨g, 0, none⟩ = some (.slice none 0 0) ∧ w.cell? ⟨g, 1, none⟩ = some (.slice (some ⟨zg, 0, none⟩) (z1 ++ (z, a, b) :: z2).length zc) ∧ Own w 67 3 a z.sz.length (rows encZ z.sz) ∧ Own w 67 3 b z.en.length (rows encZ z.en) := by
  have hb : Blk _ _ _ _ := h.head
  have hr : Own _ _ _ _ _ _ := h.tail.head
  have c0 := hb.cell 0
  have c1 := hb.cell 1
  simp only [List.getElem?_cons_zero, List.getElem?_cons_succ] at c0 c1
  have hlt : z1.length * 4 + 4 ≤ (z1 ++ (z, a, b) :: z2).length * 4 := by simp; omega
  have r0 := rows_at (enc := encS) encS_len _ z1.length _ (get_mid z1 (z, a, b) z2) 0 (by decide)
  have r1 := rows_at (enc := encS) encS_len _ z1.length _ (get_mid z1 (z, a, b) z2) 1 (by decide)
  have r2 := rows_at (enc := encS) encS_len _ z1.length _ (get_mid z1 (z, a, b) z2) 2 (by decide)
  have r3 := rows_at (enc := encS) encS_len _ z1.length _ (get_mid z1 (z, a, b) z2) 3 (by decide)
  have q0 := hr.cellAt (z1.length * 4 + 0) (by omega)
  have q1 := hr.cellAt (z1.length * 4 + 1) (by omega)
  have q2 := hr.cellAt (z1.length * 4 + 2) (by omega)
  have q3 := hr.cellAt (z1.length * 4 + 3) (by omega)
  rw [r0] at q0
  rw [r1] at q1
  rw [r2] at q2
  rw [r3] at q3
  simp only [encS, List.getElem?_cons_zero, List.getElem?_cons_succ] at q0 q1 q2 q3
  have hA : Own _ _ _ _ _ _ := h.P (zl a z.sz) (by rw [stL_split]; simp)
  have hB' : Own _ _ _ _ _ _ := h.P (zl b z.en) (by rw [stL_split]; simp)
  exact ⟨⟨q0, q1, q2, q3⟩, fun j => hr.frozenAt j, own_lt hr (k := zg) rfl, c0, c1, hA, hB'⟩

/-- what a node is added to -/
def Zr.watch (z : Zr) (x : Int) : Zr := { z with sz := z.sz ++ [(x, -1, -1)] }

set_option maxRecDepth 100000 in
set_option maxHeartbeats 1000000 in
theorem observe_new {B : Nat} {w0 w : World} {g zg zc : Nat} {nx : Int} {z1 z2 : List Zv} {z : Zr} {a b : Value} {l : List Ob} (h : All B w0 (stL g (.slice (some ⟨zg, 0, none⟩) (z1 ++ (z, a, b) :: z2).length zc) nx (z1 ++ (z, a, b) :: z2) ++ l) w)
    (hn : ∀ y ∈ z1, y.1.id ≠ z.id) (hl : (z1 ++ (z, a, b) :: z2).length ≤ 1000000) (x : Int) (hs : z.sz.length ≤ 100000) (hx : placeOf z.sz x = -1) :
    Calls Tryz.prog 19 #[.pointer (some ⟨g, 0, none⟩), .int .i64 z.id, .int .i64 x] w fun e w' => ∃ a', e = .returned (.int .i64 0) ∧ All B w0 (stL g (.slice (some ⟨zg, 0, none⟩) (z1 ++ (z, a, b) :: z2).length zc) nx (z1 ++ (z.watch x, a', b) :: z2) ++ l) w' := by
  have HSz := Lib.hid (sizer_at (z := (z, a, b)) h hn hl)
  rw [stL_split] at h
  have hz : Own _ _ _ _ _ _ := h.P (zl a z.sz) (by simp)
  have hr : Own _ _ _ _ _ _ := h.tail.head
  obtain ⟨aa, ac, rfl⟩ := own_shape hz
  have r2 := rows_at (enc := encS) encS_len _ z1.length (z, _, b) (get_mid z1 (z, (Value.slice aa z.sz.length ac), b) z2) 2 (by decide)
  have q2 := hr.cellAt (z1.length * 4 + 2) (by simp; omega)
  rw [r2] at q2
  simp only [encS, List.getElem?_cons_zero, List.getElem?_cons_succ] at q2
  have qf := hr.frozenAt (z1.length * 4 + 2)
  have hzlt := own_lt hr (k := zg) rfl
  have P := place_any x hz (by omega)
  rw [hx] at P
  have HP := Lib.hid P
  have H := Lib.hid h
  clear h hz P hn hx hr
  generalize hk : z1.length = k at *
  have HK := Lib.hid hk
  clear hk
  generalize hN : (z1 ++ (z, Value.slice aa z.sz.length ac, b) :: z2).length = N at *
  have HN := Lib.hid hN
  clear hN
  go_enter Tryz.func19, Tryz.ntmps19
  go_wp2_with fail
  refine HSz.out.mono ?_
  rintro e w1 ⟨rfl, rfl⟩
  go_wp2_with fail
  refine HP.out.mono ?_
  rintro e w2 ⟨rfl, hb2⟩
  obtain ⟨hc2, hf2⟩ := bcell hb2
  have hA2 := H.out.still hb2
  have HA2 := Lib.hid (hA2.alloc (.cells #[.int .i64 x, .int .i64 (-1), .int .i64 (-1)] 67))
  have R2 := Lib.hid r2
  clear r2 qf hA2
  go_wp2_with (at_builtin; refine wpList_append_all etZ ([_, _] ++ stObs z1) HA2.out (own_at (n := 1) (size := 3) (Blk.new w2 [.int .i64 x, .int .i64 (-1), .int .i64 (-1)] 67) rfl (by omega)) (by intro u hu; simp at hu; rcases hu with rfl | rfl | rfl <;> rfl) (by omega) (by omega) rfl _ _ rfl rfl rfl ?_; intro v' w3 hA3; have ho : Own _ _ _ _ _ _ := hA3.P (sl 67 3 v' (z.sz.length + 1) (rows encZ z.sz ++ [.int .i64 x, .int .i64 (-1), .int .i64 (-1)])) (by simp); obtain ⟨va, vc, rfl⟩ := own_shape ho; have hr3 : Own _ _ _ _ _ _ := hA3.tail.head; have q3 := hr3.cellAt (k * 4 + 2) (by have := HN.out; have := HK.out; simp at *; omega); rw [R2.out] at q3; simp only [encS, List.getElem?_cons_zero, List.getElem?_cons_succ] at q3; have qf3 := hr3.frozenAt (k * 4 + 2); have HB := Lib.hid hA3; clear hA3 ho hr3)
  go_wp2_with fail
  go_ret
  have hk := HK.out
  subst hk
  have e1 : rows encZ (z.watch x).sz = rows encZ z.sz ++ [.int .i64 x, .int .i64 (-1), .int .i64 (-1)] := rows_snoc _ _
  have e2 : (z.watch x).sz.length = z.sz.length + 1 := by simp [Zr.watch]
  refine ⟨.slice va (z.sz.length + 1) vc, rfl, st_set2 (z' := z.watch x) ?_ HN.out rfl rfl⟩
  show All B w0 (_ ++ _ ++ sl _ _ _ (z.watch x).sz.length (rows encZ (z.watch x).sz) :: _) w3
  rw [e1, e2]
  exact HB.out

set_option maxRecDepth 100000 in
theorem observe_twice {B : Nat} {w0 w : World} {g zg zc : Nat} {nx : Int} {z1 z2 : List Zv} {z : Zr} {a b : Value} {l : List Ob} (h : All B w0 (stL g (.slice (some ⟨zg, 0, none⟩) (z1 ++ (z, a, b) :: z2).length zc) nx (z1 ++ (z, a, b) :: z2) ++ l) w)
    (hn : ∀ y ∈ z1, y.1.id ≠ z.id) (hl : (z1 ++ (z, a, b) :: z2).length ≤ 1000000) (x : Int) (hs : z.sz.length ≤ 100000) (hx : 0 ≤ placeOf z.sz x) :
    Calls Tryz.prog 19 #[.pointer (some ⟨g, 0, none⟩), .int .i64 z.id, .int .i64 x] w fun e w' => e = .returned (.int .i64 9) ∧ Below w.heap.size w w' := by
  have HSz := Lib.hid (sizer_at (z := (z, a, b)) h hn hl)
  obtain ⟨⟨q0, q1, q2, q3⟩, qf, hzlt, c0, c1, hz, hz'⟩ := st_cells h
  obtain ⟨aa, ac, rfl⟩ := own_shape hz
  have HP := Lib.hid (place_any x hz (by omega))
  clear h hz hz' hn q0 q1 q3 qf c0 c1
  generalize hk : z1.length = k at *
  clear hk
  generalize hN : (z1 ++ (z, Value.slice aa z.sz.length ac, b) :: z2).length = N at *
  clear hN
  generalize placeOf z.sz x = p at *
  go_enter Tryz.func19, Tryz.ntmps19
  go_wp2_with fail
  refine HSz.out.mono ?_
  rintro e w1 ⟨rfl, rfl⟩
  go_wp2_with fail
  refine HP.out.mono ?_
  rintro e w2 ⟨rfl, hb2⟩
  go_wp2_with fail
  go_ret
  exact ⟨rfl, hb2⟩

set_option maxRecDepth 100000 in
theorem observe_none {B : Nat} {w0 w : World} {g : Nat} {zv : Value} {nx : Int} {zs : List Zv} {l : List Ob} (h : All B w0 (stL g zv nx zs ++ l) w) (id x : Int) (hn : ∀ y ∈ zs, y.1.id ≠ id) (hl : zs.length ≤ 1000000) :
    Calls Tryz.prog 19 #[.pointer (some ⟨g, 0, none⟩), .int .i64 id, .int .i64 x] w fun e w' => e = .returned (.int .i64 6) ∧ w = w' := by
  have HSz := Lib.hid (sizer_no h id hn hl)
  clear h hn
  go_enter Tryz.func19, Tryz.ntmps19
  go_wp2_with fail
  refine HSz.out.mono ?_
  rintro e w1 ⟨rfl, rfl⟩
  go_wp2_with fail
  go_ret
  exact ⟨rfl, rfl⟩
end Go.Proofs.YtfdofkokiaapoaaGreatDoor.W.Z
end
section
/- The contracts of next, observer, Pending, Deliver. -/
namespace Go.Proofs.YtfdofkokiaapoaaGreatDoor.W.Z
open Go.RowKit
set_option linter.unusedVariables false

/-- a State without observers of mutations has none -/
theorem observer_no {B : Nat} {w0 w : World} {g : Nat} {zv : Value} {nx : Int} {zs : List Zv} {l : List Ob} (h : All B w0 (stL g zv nx zs ++ l) w) (id : Int) :
    Calls Tryz.prog 41 #[.pointer (some ⟨g, 0, none⟩), .int .i64 id] w fun e w' => e = .returned (.pointer none) ∧ w = w' := by
  have hb : Blk _ _ _ _ := h.head
  have c0 := hb.cell 0
  simp only [List.getElem?_cons_zero] at c0
  clear hb h
  go_enter Tryz.func41, Tryz.ntmps41
  go_wp2_with fail
  go_loop [11] (fun iv => iv = .int .i64 0) (fun iv => 0)
  case atStart => rfl
  case round =>
    subst hrel
    go_wp2_with fail
    go_ret
    exact ⟨rfl, rfl⟩

/-- who is told next -/
def nextStep (id : Int) (z : Zr) : Int := if 0 < z.en.length ∧ (id = 0 ∨ z.id < id) then z.id else id
def nextOf (zs : List Zv) : Int := zs.foldl (fun id z => nextStep id z.1) 0
def NxR (w : World) (zs : List Zv) (iv kv : Value) (wr : World) : Prop := ∃ k : Nat, k ≤ zs.length ∧ kv = .int .i64 (k : Int) ∧ iv = .int .i64 (nextOf (zs.take k)) ∧ Below w.heap.size w wr
theorem nextOf_succ (zs : List Zv) (k : Nat) (z : Zv) (h : zs[k]? = some z) : nextOf (zs.take (k + 1)) = nextStep (nextOf (zs.take k)) z.1 := by
  unfold nextOf
  rw [List.take_add_one, h]
  simp [List.foldl_append]
theorem stObs_mem {zs : List Zv} {z : Zv} (h : z ∈ zs) : zl z.2.1 z.1.sz ∈ stObs zs ∧ zl z.2.2 z.1.en ∈ stObs zs := by
  unfold stObs
  constructor <;> (rw [List.mem_flatMap]; exact ⟨z, h, by simp⟩)

set_option maxRecDepth 100000 in
set_option maxHeartbeats 1000000 in
theorem next_any {B : Nat} {w0 w : World} {g : Nat} {zv : Value} {nx : Int} {zs : List Zv} {l : List Ob} (h : All B w0 (stL g zv nx zs ++ l) w) (hl : zs.length ≤ 1000000) (hz : ∀ z ∈ zs, z.1.en.length ≤ 1000000) :
    Calls Tryz.prog 40 #[.pointer (some ⟨g, 0, none⟩)] w fun e w' => e = .returned (.int .i64 (nextOf zs)) ∧ Below w.heap.size w w' := by
  have hb : Blk _ _ _ _ := h.head
  have hs : Own _ _ _ _ _ _ := h.tail.head
  obtain ⟨za, zc, rfl⟩ := own_shape hs
  have c0 := hb.cell 0
  have c1 := hb.cell 1
  have hlt := hb.lt
  simp only [List.getElem?_cons_zero, List.getElem?_cons_succ] at c0 c1
  have HS := Lib.hid hs
  have HZ := Lib.hid hz
  have hen : ∀ z ∈ zs, Own w 67 3 z.2.1 z.1.sz.length (rows encZ z.1.sz) ∧ Own w 67 3 z.2.2 z.1.en.length (rows encZ z.1.en) := fun z hz => ⟨h.P (zl z.2.1 z.1.sz) (by unfold stL; simp [(stObs_mem hz).1]), h.P (zl z.2.2 z.1.en) (by unfold stL; simp [(stObs_mem hz).2])⟩
  have HE := Lib.hid hen
  clear hb hs h hz hen
  go_enter Tryz.func40, Tryz.ntmps40
  go_wp2_with fail
  go_loop [3, 13] (fun mv iv => mv = .int .i64 0 ∧ iv = .int .i64 0) (fun _ iv => 0)
  case atStart => exact ⟨rfl, rfl⟩
  case round =>
    obtain ⟨rfl, rfl⟩ := hrel
    go_wp2_with fail
    go_loopw [3, 39] (fun iv kv wr => NxR w zs iv kv wr) (fun _ kv _ => zs.length - (intOf kv).toNat)
    case atStart => exact ⟨0, Nat.zero_le _, rfl, rfl, Below.refl _ _⟩
    case round =>
      obtain ⟨k, hk, rfl, rfl, hB⟩ := hrel
      by_cases hkl : k < zs.length
      · obtain ⟨z, hy⟩ : ∃ z, zs[k]? = some z := ⟨_, List.getElem?_eq_getElem hkl⟩
        have hO := own_below HS.out hB
        obtain ⟨vg, vc', he, _⟩ := own_some hO (by omega)
        simp only [Value.slice.injEq] at he
        obtain ⟨rfl, _, rfl⟩ := he
        have q0 := hO.cellAt (k * 4) (by omega)
        have q1 := hO.cellAt (k * 4 + 1) (by omega)
        have q2 := hO.cellAt (k * 4 + 2) (by omega)
        have q3 := hO.cellAt (k * 4 + 3) (by omega)
        have r0 := rows_at (enc := encS) encS_len zs k z hy 0 (by decide)
        have r1 := rows_at (enc := encS) encS_len zs k z hy 1 (by decide)
        have r2 := rows_at (enc := encS) encS_len zs k z hy 2 (by decide)
        have r3 := rows_at (enc := encS) encS_len zs k z hy 3 (by decide)
        rw [show k * 4 + 0 = k * 4 from rfl] at r0
        rw [r0] at q0
        rw [r1] at q1
        rw [r2] at q2
        rw [r3] at q3
        simp only [encS, List.getElem?_cons_zero, List.getElem?_cons_succ] at q0 q1 q2 q3
        have HN := Lib.hid (nextOf_succ zs k z hy)
        obtain ⟨⟨id, cb, sz, en⟩, a, b⟩ := z
        have hen := HE.out _ (List.mem_of_getElem? hy)
        have hle := HZ.out _ (List.mem_of_getElem? hy)
        simp only at q0 q1 q2 q3 hle hen
        obtain ⟨hen1, hen2⟩ := hen
        obtain ⟨aa, ac, rfl⟩ := own_shape hen1
        obtain ⟨ba, bc, rfl⟩ := own_shape hen2
        clear r0 r1 r2 r3 hO hy hen1 hen2
        generalize nextOf (zs.take k) = m at *
        by_cases hx : 0 < en.length ∧ (m = 0 ∨ id < m)
        · obtain ⟨h1, h2⟩ := hx
          have HX : Hid (nextOf (zs.take (k + 1)) = id) := Lib.hid (HN.out.trans (show nextStep m _ = id from if_pos ⟨h1, h2⟩))
          by_cases hm : m = 0
          · subst hm
            clear h2
            go_wp2_with fail
            go_roundw
            case rel => exact ⟨k + 1, by omega, by go_num, by rw [HX.out], (hB.alloc hB.size _)⟩
            case measure => simp [intOf]; omega
          · have e1 : (m == 0) = false := by simpa using hm
            have h3 : id < m := by omega
            clear h2 hm
            go_wp2_with fail
            go_roundw
            case rel => exact ⟨k + 1, by omega, by go_num, by rw [HX.out], (hB.alloc hB.size _)⟩
            case measure => simp [intOf]; omega
        · have HX : Hid (nextOf (zs.take (k + 1)) = m) := Lib.hid (HN.out.trans (show nextStep m _ = m from if_neg hx))
          by_cases h1 : 0 < en.length
          · have e1 : (m == 0) = false := by simp; omega
            have h3 : ¬ id < m := by omega
            clear hx
            go_wp2_with fail
            go_roundw
            case rel => exact ⟨k + 1, by omega, by go_num, by rw [HX.out], (hB.alloc hB.size _)⟩
            case measure => simp [intOf]; omega
          · clear hx
            have h2 : en.length = 0 := by omega
            go_wp2_with fail
            go_roundw
            case rel => exact ⟨k + 1, by omega, by go_num, by rw [HX.out], (hB.alloc hB.size _)⟩
            case measure => simp [intOf]; omega
      · have hk' : k = zs.length := by omega
        have HT : Hid (nextOf (zs.take k) = nextOf zs) := Lib.hid (by rw [hk', List.take_length])
        clear hk'
        go_wp2_with fail
        go_ret
        exact ⟨by rw [HT.out]; rfl, hB⟩

theorem pending_any {B : Nat} {w0 w : World} {g : Nat} {zv : Value} {nx : Int} {zs : List Zv} {l : List Ob} (h : All B w0 (stL g zv nx zs ++ l) w) (hl : zs.length ≤ 1000000) (hz : ∀ z ∈ zs, z.1.en.length ≤ 1000000) :
    Calls Tryz.prog 12 #[.pointer (some ⟨g, 0, none⟩)] w fun e w' => e = .returned (.bool (nextOf zs != 0)) ∧ Below w.heap.size w w' := by
  have HN := Lib.hid (next_any h hl hz)
  clear h hl hz
  go_enter Tryz.func12, Tryz.ntmps12
  go_wp2_with fail
  refine HN.out.mono ?_
  rintro e w2 ⟨rfl, hb2⟩
  go_wp2_with fail
  go_ret
  exact ⟨rfl, hb2⟩

theorem perm_dl (X Y Z : Ob) (P Q l : List Ob) : (X :: (P ++ (Z :: Y :: (Q ++ l)))).Perm (P ++ (Z :: X :: (Q ++ (Y :: l)))) :=
  List.perm_middle.symm.trans (List.Perm.append_left P ((List.Perm.swap Z X _).trans (.cons Z (.cons X List.perm_middle.symm))))
theorem perm_rr (Y Z : Ob) (P l : List Ob) : (P ++ (Y :: Z :: l)).Perm ((P ++ [Y]) ++ Z :: l) := by simp
theorem sub_rr (Y Z : Ob) (P l : List Ob) : (P ++ (Y :: l)).Sublist ((P ++ [Y]) ++ Z :: l) := by simp
/-- Deliver, where the first observer with something to be told is known -/
theorem stL_sub {g : Nat} {nx : Int} {z1 z2 : List Zv} {z z' : Zr} {a b : Value} {l : List Ob} {B : Nat} {w0 w : World} {zg zc N : Nat}
    (h : All B w0 (stL g (.slice (some ⟨zg, 0, none⟩) N zc) nx (z1 ++ (z, a, b) :: z2) ++ l) w) (hN : (z1 ++ (z, a, b) :: z2).length = N) (h1 : z'.id = z.id) (h2 : z'.cb = z.cb) (h3 : z'.sz = z.sz) (h4 : z'.en = []) :
    All B w0 (stL g (.slice (some ⟨zg, 0, none⟩) N zc) nx (z1 ++ (z', a, .slice none 0 0) :: z2) ++ (zl b z.en :: l)) (w.setCell ⟨zg, z1.length * 4 + 3, none⟩ (.slice none 0 0)) := by
  rw [stL_split] at h
  have h5 := h.nil 67 3
  have h6 : All B w0 ([bk g [.slice none 0 0, .slice (some ⟨zg, 0, none⟩) N zc, .int .i64 nx] 34, sl 96 4 (.slice (some ⟨zg, 0, none⟩) N zc) N (rows encS (z1 ++ (z, a, b) :: z2))] ++ stObs z1 ++ (zl a z'.sz :: zl (.slice none 0 0) z'.en :: (stObs z2 ++ (zl b z.en :: l)))) w := by
    rw [hN] at h5
    rw [h3, h4]
    exact h5.perm (perm_dl _ _ _ _ _ _)
  exact st_set3 h6 hN h1 h2

set_option maxRecDepth 100000 in
set_option maxHeartbeats 1000000 in
theorem deliver_some {B : Nat} {w0 w : World} {g zg zc : Nat} {nx : Int} {z1 z2 : List Zv} {z : Zr} {a b : Value} {l : List Ob} (h : All B w0 (stL g (.slice (some ⟨zg, 0, none⟩) (z1 ++ (z, a, b) :: z2).length zc) nx (z1 ++ (z, a, b) :: z2) ++ l) w)
    (hn : ∀ y ∈ z1, y.1.id ≠ z.id) (hl : (z1 ++ (z, a, b) :: z2).length ≤ 1000000) (hz : ∀ y ∈ z1 ++ (z, a, b) :: z2, y.1.en.length ≤ 1000000) (hx : nextOf (z1 ++ (z, a, b) :: z2) = z.id) :
    Calls Tryz.prog 13 #[.pointer (some ⟨g, 0, none⟩)] w fun e w' => e = .returned (.tuple #[.agg #[.int .i64 z.id, .int .i64 z.cb, .slice none 0 0, b], .bool true]) ∧ All B w0 (stL g (.slice (some ⟨zg, 0, none⟩) (z1 ++ (z, a, b) :: z2).length zc) nx (z1 ++ ({ z with en := [] }, a, .slice none 0 0) :: z2) ++ (zl b z.en :: l)) w' := by
  have hA := (h.newBkA w.heap.size rfl [.int .i64 0, .int .i64 0, .slice none 0 0, .slice none 0 0] 47).perm List.perm_middle.symm
  obtain ⟨R, hR⟩ : ∃ R, w.heap.size = R := ⟨_, rfl⟩
  have hz2 : Own _ _ _ _ _ _ := (st_cells h).2.2.2.2.2.2
  obtain ⟨ba, bc, rfl⟩ := own_shape hz2
  clear hz2
  have N1 := next_any hA hl hz
  rw [hx] at N1
  have HN := Lib.hid N1
  rw [hR] at hA
  have H := Lib.hid hA
  have HNi := Lib.hid hn
  have HL := Lib.hid hl
  clear h N1 hn hx hz hA
  generalize hk : z1.length = k at *
  have HK := Lib.hid hk
  clear hk
  generalize hN : (z1 ++ (z, a, Value.slice ba z.en.length bc) :: z2).length = N at *
  have HNN := Lib.hid hN
  clear hN
  go_enter Tryz.func13, Tryz.ntmps13
  go_wp2_with fail
  refine HN.out.mono ?_
  rintro e w2 ⟨rfl, hb2⟩
  have hA2 := H.out.still hb2
  have HO := Lib.hid (observer_no hA2 z.id)
  have hN := HNN.out
  subst hN
  have HSz := Lib.hid (sizer_at (z := (z, a, .slice ba z.en.length bc)) hA2 HNi.out HL.out)
  rw [HK.out] at HSz
  obtain ⟨⟨q0, q1, q2, q3⟩, qf, hzlt, c0, c1, hz1, hz2⟩ := st_cells hA2
  rw [HK.out] at q0 q1 q2 q3
  have hRb : Blk _ _ _ _ := hA2.P (bk R [.int .i64 0, .int .i64 0, .slice none 0 0, .slice none 0 0] 47) (by simp)
  have r0 := hRb.cell 0
  have r1 := hRb.cell 1
  have r2 := hRb.cell 2
  have r3 := hRb.cell 3
  have rf := hRb.free
  have rl := hRb.lt
  simp only [List.getElem?_cons_zero, List.getElem?_cons_succ] at r0 r1 r2 r3
  have hne : R ≠ zg := (All.sl_ne_bk hA2.tail (cs := [.int .i64 0, .int .i64 0, .slice none 0 0, .slice none 0 0]) (t := 47) (by simp)).symm
  have hne' := hne.symm
  have HA := Lib.hid hA2
  clear c0 c1 hz1 hz2 hA2 hRb hR hb2 q0 q2
  generalize hN : (z1 ++ (z, a, Value.slice ba z.en.length bc) :: z2).length = N at *
  have HN2 := Lib.hid hN
  clear hN
  go_wp2_with fail
  refine HO.out.mono ?_
  rintro e w3 ⟨rfl, rfl⟩
  go_wp2_with fail
  refine HSz.out.mono ?_
  rintro e w3 ⟨rfl, rfl⟩
  go_wp2_with fail
  go_region
  have hA5 := ((((stL_sub (z' := { z with en := [] }) HA.out HN2.out rfl rfl rfl rfl).perm (perm_rr _ _ _ _)).setBk (stL _ _ _ _ ++ [_]) 0 (.int .i64 z.id)).setBk (stL _ _ _ _ ++ [_]) 1 (.int .i64 z.cb)).setBk (stL _ _ _ _ ++ [_]) 2 (.slice none 0 0)
  rw [HK.out] at hA5
  have HA5 := Lib.hid (hA5.setBk (stL _ _ _ _ ++ [_]) 3 (.slice ba z.en.length bc))
  clear hA5
  go_wp2_with fail
  refine bodyPost_ret (v := .tuple #[.agg #[.int .i64 z.id, .int .i64 z.cb, .slice none 0 0, .slice ba z.en.length bc], .bool true]) (by simp [results, Tryz.results13, go_sem, *]) rfl ⟨rfl, ?_⟩
  rw [HN2.out]
  exact ((HA5.out.alloc _).drew).sub (sub_rr _ _ _ _)

theorem deliver_none {B : Nat} {w0 w : World} {g : Nat} {zv : Value} {nx : Int} {zs : List Zv} {l : List Ob} (h : All B w0 (stL g zv nx zs ++ l) w)
    (hn : ∀ y ∈ zs, y.1.id ≠ 0) (hl : zs.length ≤ 1000000) (hz : ∀ y ∈ zs, y.1.en.length ≤ 1000000) (hx : nextOf zs = 0) :
    Calls Tryz.prog 13 #[.pointer (some ⟨g, 0, none⟩)] w fun e w' => e = .returned (.tuple #[.agg #[.int .i64 0, .int .i64 0, .slice none 0 0, .slice none 0 0], .bool false]) ∧ Below w.heap.size w w' := by
  have hA := (h.newBkA w.heap.size rfl [.int .i64 0, .int .i64 0, .slice none 0 0, .slice none 0 0] 47).perm List.perm_middle.symm
  have N1 := next_any hA hl hz
  rw [hx] at N1
  have HN := Lib.hid N1
  have HA := Lib.hid hA
  clear h N1 hx hz hA
  go_enter Tryz.func13, Tryz.ntmps13
  go_wp2_with fail
  refine HN.out.mono ?_
  rintro e w2 ⟨rfl, hb2⟩
  have hA2 := HA.out.still hb2
  have HO := Lib.hid (observer_no hA2 0)
  have HSz := Lib.hid (sizer_no hA2 0 hn hl)
  have hRb : Blk _ _ _ _ := hA2.P (bk w.heap.size [.int .i64 0, .int .i64 0, .slice none 0 0, .slice none 0 0] 47) (by simp)
  have r0 := hRb.cell 0
  have r1 := hRb.cell 1
  have r2 := hRb.cell 2
  have r3 := hRb.cell 3
  have rf := hRb.free
  have rl := hRb.lt
  simp only [List.getElem?_cons_zero, List.getElem?_cons_succ] at r0 r1 r2 r3
  have HB := Lib.hid (bthen ((Below.refl _ _).alloc (Nat.le_refl _) _) hb2)
  clear hA2 hRb hb2
  generalize hR : w.heap.size = R at *
  have HR := Lib.hid hR
  clear hR
  go_wp2_with fail
  refine HO.out.mono ?_
  rintro e w3 ⟨rfl, rfl⟩
  go_wp2_with fail
  refine HSz.out.mono ?_
  rintro e w3 ⟨rfl, rfl⟩
  go_wp2_with fail
  refine bodyPost_ret (v := .tuple #[.agg #[.int .i64 0, .int .i64 0, .slice none 0 0, .slice none 0 0], .bool false]) (by simp [results, Tryz.results13, go_sem, *]) rfl ⟨rfl, ?_⟩
  rw [HR.out]
  exact (((HB.out.setCell (Nat.le_refl _) _).setCell (Nat.le_refl _) _).setCell (Nat.le_refl _) _).setCell (Nat.le_refl _) _
end Go.Proofs.YtfdofkokiaapoaaGreatDoor.W.Z
end
