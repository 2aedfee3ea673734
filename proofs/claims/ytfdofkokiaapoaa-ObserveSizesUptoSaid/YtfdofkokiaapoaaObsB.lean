/- The observers of sizes in memory; the contracts of sizer, CreateSizer, Observe. -/
import Derived.Test.YtfdofkokiaapoaaObsA
import Derived.Deep.RegionLaw
namespace Go.Proofs.Ytfdofkokiaapoaa.W
open Go.RowKit
set_option linter.unusedVariables false

/-- an observer of sizes: its number, its callback, the sizes, the entries -/
structure Zr where
  id : Int
  cb : Int
  sz : List Sz
  en : List Sz
/-- an observer with its two slices -/
abbrev Zv := Zr × Value × Value
def encS (x : Zv) : List Value := [.int .i64 x.1.id, .int .i64 x.1.cb, x.2.1, x.2.2]
theorem encS_len (x : Zv) : (encS x).length = 4 := rfl
def stObs (zs : List Zv) : List Ob := zs.flatMap fun x => [zl x.2.1 x.1.sz, zl x.2.2 x.1.en]
theorem stObs_split (z1 : List Zv) (x : Zv) (z2 : List Zv) (l : List Ob) : stObs (z1 ++ x :: z2) ++ l = stObs z1 ++ (zl x.2.1 x.1.sz :: zl x.2.2 x.1.en :: (stObs z2 ++ l)) := by simp [stObs]
/-- the objects of a State without observers of mutations -/
def stL (g : Nat) (zv : Value) (nx : Int) (zs : List Zv) : List Ob := bk g [.slice none 0 0, zv, .int .i64 nx] 27 :: sl 55 4 zv zs.length (rows encS zs) :: stObs zs
theorem etS : ET Try.prog 25 55 4 64 := ET.mk' (z := .agg #[.int .i64 0, .int .i64 0, .slice none 0 0, .slice none 0 0]) Try.underlying25 (by kernel_rfl) rfl (by decide)

/-- the place of an observer -/
def ZrR (w : World) (zs : List Zv) (id : Int) (iv : Value) (wr : World) : Prop := ∃ k : Nat, k ≤ zs.length ∧ iv = .int .i64 (k : Int) ∧ (∀ j z, j < k → zs[j]? = some z → z.1.id ≠ id) ∧ w = wr

set_option maxRecDepth 100000 in
theorem sizer_at {B : Nat} {w0 w : World} {g zg zc : Nat} {nx : Int} {z1 z2 : List Zv} {z : Zv} {l : List Ob} (h : All B w0 (stL g (.slice (some ⟨zg, 0, none⟩) (z1 ++ z :: z2).length zc) nx (z1 ++ z :: z2) ++ l) w) (hn : ∀ y ∈ z1, y.1.id ≠ z.1.id) (hl : (z1 ++ z :: z2).length ≤ 1000000) :
    Calls Try.prog 18 #[.pointer (some ⟨g, 0, none⟩), .int .i64 z.1.id] w fun e w' => e = .returned (.pointer (some ⟨zg, z1.length * 4, none⟩)) ∧ w = w' := by
  have hb : Blk _ _ _ _ := h.head
  have hs : Own _ _ _ _ _ _ := h.tail.head
  have c1 := hb.cell 1
  simp only [List.getElem?_cons_zero, List.getElem?_cons_succ] at c1
  have HS := Lib.hid hs
  have HN := Lib.hid hn
  have hlt : z1.length < (z1 ++ z :: z2).length := by simp
  have hcell : ∀ k y, (z1 ++ z :: z2)[k]? = some y → w.cell? ⟨zg, k * 4, none⟩ = some (.int .i64 y.1.id) := fun k y hy => by
    have h1 := hs.cellAt (k * 4) (by have := (List.getElem?_eq_some_iff.1 hy).1; omega)
    have h2 := rows_at (enc := encS) encS_len _ k y hy 0 (by decide)
    rw [Nat.add_zero] at h2
    rw [h1, h2]
    rfl
  have HC := Lib.hid hcell
  clear hb hs h hn hcell
  obtain ⟨n, hnn⟩ : ∃ n, (z1 ++ z :: z2).length = n := ⟨_, rfl⟩
  rw [hnn] at c1 hlt hl
  have HNN := Lib.hid hnn
  clear hnn
  go_enter Try.func18, Try.ntmps18
  go_wp2_with fail
  go_loop [11] (fun iv => ∃ k : Nat, k ≤ z1.length ∧ iv = .int .i64 (k : Int)) (fun iv => n - (intOf iv).toNat)
  case atStart => exact ⟨0, Nat.zero_le _, rfl⟩
  case round =>
    obtain ⟨k, hk, rfl⟩ := hrel
    by_cases hkl : k < z1.length
    · have hy : (z1 ++ z :: z2)[k]? = some z1[k] := by rw [List.getElem?_append_left hkl, List.getElem?_eq_getElem hkl]
      have q0 := HC.out k _ hy
      have hne := HN.out z1[k] (List.getElem_mem hkl)
      generalize z1[k].1.id = y at *
      have e1 : (y == z.1.id) = false := by simpa using hne
      clear hy hne
      go_wp2_with fail
      go_round
      case rel => exact ⟨k + 1, by omega, by go_num⟩
      case measure => simp [intOf]; omega
    · obtain rfl : k = z1.length := by omega
      have q0 := HC.out z1.length z (get_mid z1 z z2)
      go_wp2_with fail
      go_ret
      exact ⟨rfl, rfl⟩

set_option maxRecDepth 100000 in
theorem sizer_no {B : Nat} {w0 w : World} {g : Nat} {zv : Value} {nx : Int} {zs : List Zv} {l : List Ob} (h : All B w0 (stL g zv nx zs ++ l) w) (id : Int) (hn : ∀ y ∈ zs, y.1.id ≠ id) (hl : zs.length ≤ 1000000) :
    Calls Try.prog 18 #[.pointer (some ⟨g, 0, none⟩), .int .i64 id] w fun e w' => e = .returned (.pointer none) ∧ w = w' := by
  have hb : Blk _ _ _ _ := h.head
  have hs : Own _ _ _ _ _ _ := h.tail.head
  obtain ⟨za, zc, rfl⟩ := own_shape hs
  have c1 := hb.cell 1
  simp only [List.getElem?_cons_zero, List.getElem?_cons_succ] at c1
  have HS := Lib.hid hs
  have HN := Lib.hid hn
  clear hb hs h hn
  go_enter Try.func18, Try.ntmps18
  go_wp2_with fail
  go_loop [11] (fun iv => ∃ k : Nat, k ≤ zs.length ∧ iv = .int .i64 (k : Int)) (fun iv => zs.length - (intOf iv).toNat)
  case atStart => exact ⟨0, Nat.zero_le _, rfl⟩
  case round =>
    obtain ⟨k, hk, rfl⟩ := hrel
    by_cases hkl : k < zs.length
    · have hy : zs[k]? = some zs[k] := List.getElem?_eq_getElem hkl
      obtain ⟨zg, zc', he, _⟩ := own_some HS.out (by omega)
      simp only [Value.slice.injEq] at he
      obtain ⟨rfl, _, rfl⟩ := he
      have q0 := HS.out.cellAt (k * 4) (by omega)
      have q1 := rows_at (enc := encS) encS_len _ k _ hy 0 (by decide)
      rw [Nat.add_zero] at q1
      rw [q1] at q0
      simp only [encS, List.getElem?_cons_zero] at q0
      have hne := HN.out zs[k] (List.getElem_mem hkl)
      generalize zs[k].1.id = y at *
      have e1 : (y == id) = false := by simpa using hne
      clear hy hne q1
      go_wp2_with fail
      go_round
      case rel => exact ⟨k + 1, by omega, by go_num⟩
      case measure => simp [intOf]; omega
    · go_wp2_with fail
      go_ret
      exact ⟨rfl, rfl⟩

theorem perm_in (A B C L : List Ob) : (A ++ (B ++ (C ++ L))).Perm (B ++ (C ++ (A ++ L))) :=
  (List.perm_append_comm_assoc A B (C ++ L)).trans (List.Perm.append_left B (List.perm_append_comm_assoc A C L))

set_option maxRecDepth 100000 in
set_option maxHeartbeats 1000000 in
theorem create_any {B : Nat} {w0 w : World} {g : Nat} {zv : Value} {nx : Int} {zs : List Zv} {l : List Ob} (h : All B w0 (stL g zv nx zs ++ l) w) (cb : Int) (n0 : 0 ≤ nx) (n1 : nx ≤ 1000000) (hl : zs.length ≤ 1000000) :
    Calls Try.prog 6 #[.pointer (some ⟨g, 0, none⟩), .int .i64 cb] w fun e w' => ∃ zv', e = .returned (.int .i64 (nx + 1)) ∧ All B w0 (stL g zv' (nx + 1) (zs ++ [(⟨nx + 1, cb, [], []⟩, .slice none 0 0, .slice none 0 0)]) ++ l) w' := by
  have hs : Own _ _ _ _ _ _ := h.tail.head
  obtain ⟨za, zc, rfl⟩ := own_shape hs
  have hA1 := h.setBk [] 2 (.int .i64 (nx + 1))
  have hb0 : Blk _ _ _ _ := h.head
  have a1 := hb0.cell 1
  have a2 := hb0.cell 2
  have af := hb0.free
  have hlt0 := hb0.lt
  simp at a1 a2
  have hb : Blk _ _ _ _ := hA1.head
  have c1 := hb.cell 1
  have c2 := hb.cell 2
  have hlt := hb.lt
  simp only [List.set_cons_succ, List.set_cons_zero, List.getElem?_cons_zero, List.getElem?_cons_succ] at c1 c2
  have HA := Lib.hid hA1
  clear h hs hb hb0 hA1
  go_enter Try.func6, Try.ntmps6
  go_wp2_with fail
  clear a1 a2 af hlt0
  generalize w.setCell ⟨g, 2, none⟩ (.int .i64 (nx + 1)) = W at *
  have ea : ∀ o, (W.alloc o).cell? ⟨g, 1, none⟩ = some (.slice za zs.length zc) := fun o => (World.cell?_alloc_lt _ _ _ hlt).trans c1
  go_region_law (first
    | (refine step_append_all etS [_] (HA.out.drew.alloc (.cells #[.int .i64 (nx + 1), .int .i64 cb, .slice none 0 0, .slice none 0 0] 55)) (own_at (n := 1) (size := 4) (Blk.new W.drew [.int .i64 (nx + 1), .int .i64 cb, .slice none 0 0, .slice none 0 0] 55) rfl (by omega)) (by intro u hu; simp at hu; rcases hu with rfl | rfl | rfl | rfl <;> rfl) (by omega) (by omega) (by rfl) _ _ (by rfl) (by rfl) (by rfl) ?_; intro v' w2 hA2; have ho : Own _ _ _ _ _ _ := hA2.tail.head; obtain ⟨va, vc, rfl⟩ := own_shape ho; have b2 : Blk _ _ _ _ := hA2.head; have d1 := b2.cell 1; have d2 := b2.cell 2; have df := b2.free; simp only [List.set_cons_succ, List.set_cons_zero, List.getElem?_cons_zero, List.getElem?_cons_succ] at d1 d2; have HB := Lib.hid hA2; clear hA2 ho b2))
  all_goals
    go_wp2_with fail
    go_ret
    refine ⟨.slice va (zs.length + 1) vc, rfl, ?_⟩
    have h9 := ((HB.out.setBk [] 1 (.slice va (zs.length + 1) vc)).nil 41 3).nil 41 3
    have h10 := h9.perm (perm_in [_, _] [_, _] (stObs zs) l)
    unfold stL
    rw [List.length_append, rows_snoc]
    simp [stObs, encS] at h10 ⊢
    exact h10
end Go.Proofs.Ytfdofkokiaapoaa.W
