/- The contract of Observe. -/
import Derived.Test.YtfdofkokiaapoaaObsB
namespace Go.Proofs.Ytfdofkokiaapoaa.W
open Go.RowKit
set_option linter.unusedVariables false

theorem placeOf_lo (l : List Sz) (x : Int) : -1 ≤ placeOf l x := by unfold placeOf; split <;> omega
theorem stL_split (g : Nat) (zv : Value) (nx : Int) (z1 : List Zv) (z : Zv) (z2 : List Zv) (l : List Ob) :
    stL g zv nx (z1 ++ z :: z2) ++ l = [bk g [.slice none 0 0, zv, .int .i64 nx] 27, sl 55 4 zv (z1 ++ z :: z2).length (rows encS (z1 ++ z :: z2))] ++ stObs z1 ++ (zl z.2.1 z.1.sz :: zl z.2.2 z.1.en :: (stObs z2 ++ l)) := by
  unfold stL
  simp only [List.cons_append, List.nil_append]
  rw [stObs_split]

/-- a field of an observer written: the sizes -/
theorem st_set2 {B : Nat} {w0 w : World} {g zg zc N : Nat} {nx : Int} {z1 z2 : List Zv} {z z' : Zr} {a b a' : Value} {l : List Ob}
    (h : All B w0 ([bk g [.slice none 0 0, .slice (some ⟨zg, 0, none⟩) N zc, .int .i64 nx] 27, sl 55 4 (.slice (some ⟨zg, 0, none⟩) N zc) N (rows encS (z1 ++ (z, a, b) :: z2))] ++ stObs z1 ++ (zl a' z'.sz :: zl b z'.en :: (stObs z2 ++ l))) w)
    (hN : (z1 ++ (z, a, b) :: z2).length = N) (h1 : z'.id = z.id) (h2 : z'.cb = z.cb) : All B w0 (stL g (.slice (some ⟨zg, 0, none⟩) N zc) nx (z1 ++ (z', a', b) :: z2) ++ l) (w.setCell ⟨zg, z1.length * 4 + 2, none⟩ a') := by
  rw [stL_split]
  have hr := rows_field (enc := encS) encS_len (z1 ++ (z, a, b) :: z2) z1.length 2 _ (z', a', b) a' (get_mid _ _ _) (by decide) (by simp [encS, h1, h2])
  rw [set_mid] at hr
  have hN' : (z1 ++ (z', a', b) :: z2).length = N := by rw [← hN]; simp
  rw [hr, hN']
  exact h.setSl [_] (z1.length * 4 + 2) a'
/-- a field of an observer written: the entries -/
theorem st_set3 {B : Nat} {w0 w : World} {g zg zc N : Nat} {nx : Int} {z1 z2 : List Zv} {z z' : Zr} {a b b' : Value} {l : List Ob}
    (h : All B w0 ([bk g [.slice none 0 0, .slice (some ⟨zg, 0, none⟩) N zc, .int .i64 nx] 27, sl 55 4 (.slice (some ⟨zg, 0, none⟩) N zc) N (rows encS (z1 ++ (z, a, b) :: z2))] ++ stObs z1 ++ (zl a z'.sz :: zl b' z'.en :: (stObs z2 ++ l))) w)
    (hN : (z1 ++ (z, a, b) :: z2).length = N) (h1 : z'.id = z.id) (h2 : z'.cb = z.cb) : All B w0 (stL g (.slice (some ⟨zg, 0, none⟩) N zc) nx (z1 ++ (z', a, b') :: z2) ++ l) (w.setCell ⟨zg, z1.length * 4 + 3, none⟩ b') := by
  rw [stL_split]
  have hr := rows_field (enc := encS) encS_len (z1 ++ (z, a, b) :: z2) z1.length 3 _ (z', a, b') b' (get_mid _ _ _) (by decide) (by simp [encS, h1, h2])
  rw [set_mid] at hr
  have hN' : (z1 ++ (z', a, b') :: z2).length = N := by rw [← hN]; simp
  rw [hr, hN']
  exact h.setSl [_] (z1.length * 4 + 3) b'
/-- the cells of one observer -/
theorem st_cells {B : Nat} {w0 w : World} {g zg zc : Nat} {nx : Int} {z1 z2 : List Zv} {z : Zr} {a b : Value} {l : List Ob} (h : All B w0 (stL g (.slice (some ⟨zg, 0, none⟩) (z1 ++ (z, a, b) :: z2).length zc) nx (z1 ++ (z, a, b) :: z2) ++ l) w) :
    (w.cell? ⟨zg, z1.length * 4, none⟩ = some (.int .i64 z.id) ∧ w.cell? ⟨zg, z1.length * 4 + 1, none⟩ = some (.int .i64 z.cb) ∧ w.cell? ⟨zg, z1.length * 4 + 2, none⟩ = some a ∧ w.cell? ⟨zg, z1.length * 4 + 3, none⟩ = some b) ∧
    (∀ j, w.frozen? ⟨zg, j, none⟩ = false) ∧ zg < w.heap.size ∧ w.cell? ⟨g, 0, none⟩ = some (.slice none 0 0) ∧ w.cell? ⟨g, 1, none⟩ = some (.slice (some ⟨zg, 0, none⟩) (z1 ++ (z, a, b) :: z2).length zc) ∧ Own w 41 3 a z.sz.length (rows encZ z.sz) ∧ Own w 41 3 b z.en.length (rows encZ z.en) := by
  have hb : Blk _ _ _ _ := h.head
  have hr : Own _ _ _ _ _ _ := h.tail.head
  have c0 := hb.cell 0
  have c1 := hb.cell 1
  simp only [List.getElem?_cons_zero, List.getElem?_cons_succ] at c0 c1
  have hlt : z1.length * 4 + 4 ≤ (z1 ++ (z, a, b) :: z2).length * 4 := by simp; omega
  have r0 := rows_at (enc := encS) encS_len _ z1.length _ (get_mid z1 (z, a, b) z2) 0 (by decide)
  have r1 := rows_at (enc := encS) encS_len _ z1.length _ (get_mid z1 (z, a, b) z2) 1 (by decide)
  have r2 := rows_at (enc := encS) encS_len _ z1.length _ (get_mid z1 (z, a, b) z2) 2 (by decide)
  have r3 := rows_at (enc := encS) encS_len _ z1.length _ (get_mid z1 (z, a, b) z2) 3 (by decide)
  have q0 := hr.cellAt (z1.length * 4 + 0) (by omega)
  have q1 := hr.cellAt (z1.length * 4 + 1) (by omega)
  have q2 := hr.cellAt (z1.length * 4 + 2) (by omega)
  have q3 := hr.cellAt (z1.length * 4 + 3) (by omega)
  rw [r0] at q0
  rw [r1] at q1
  rw [r2] at q2
  rw [r3] at q3
  simp only [encS, List.getElem?_cons_zero, List.getElem?_cons_succ] at q0 q1 q2 q3
  have hA : Own _ _ _ _ _ _ := h.P (zl a z.sz) (by rw [stL_split]; simp)
  have hB' : Own _ _ _ _ _ _ := h.P (zl b z.en) (by rw [stL_split]; simp)
  exact ⟨⟨q0, q1, q2, q3⟩, fun j => hr.frozenAt j, own_lt hr (k := zg) rfl, c0, c1, hA, hB'⟩

/-- what a node is added to -/
def Zr.watch (z : Zr) (x : Int) : Zr := { z with sz := z.sz ++ [(x, -1, -1)] }

set_option maxRecDepth 100000 in
set_option maxHeartbeats 1000000 in
theorem observe_new {B : Nat} {w0 w : World} {g zg zc : Nat} {nx : Int} {z1 z2 : List Zv} {z : Zr} {a b : Value} {l : List Ob} (h : All B w0 (stL g (.slice (some ⟨zg, 0, none⟩) (z1 ++ (z, a, b) :: z2).length zc) nx (z1 ++ (z, a, b) :: z2) ++ l) w)
    (hn : ∀ y ∈ z1, y.1.id ≠ z.id) (hl : (z1 ++ (z, a, b) :: z2).length ≤ 1000000) (x : Int) (hs : z.sz.length ≤ 100000) (hx : placeOf z.sz x = -1) :
    Calls Try.prog 7 #[.pointer (some ⟨g, 0, none⟩), .int .i64 z.id, .int .i64 x] w fun e w' => ∃ a', e = .returned (.int .i64 0) ∧ All B w0 (stL g (.slice (some ⟨zg, 0, none⟩) (z1 ++ (z, a, b) :: z2).length zc) nx (z1 ++ (z.watch x, a', b) :: z2) ++ l) w' := by
  have HSz := Lib.hid (sizer_at (z := (z, a, b)) h hn hl)
  rw [stL_split] at h
  have hz : Own _ _ _ _ _ _ := h.P (zl a z.sz) (by simp)
  have hr : Own _ _ _ _ _ _ := h.tail.head
  obtain ⟨aa, ac, rfl⟩ := own_shape hz
  have r2 := rows_at (enc := encS) encS_len _ z1.length (z, _, b) (get_mid z1 (z, (Value.slice aa z.sz.length ac), b) z2) 2 (by decide)
  have q2 := hr.cellAt (z1.length * 4 + 2) (by simp; omega)
  rw [r2] at q2
  simp only [encS, List.getElem?_cons_zero, List.getElem?_cons_succ] at q2
  have qf := hr.frozenAt (z1.length * 4 + 2)
  have hzlt := own_lt hr (k := zg) rfl
  have P := place_any x hz (by omega)
  rw [hx] at P
  have HP := Lib.hid P
  have H := Lib.hid h
  clear h hz P hn hx hr
  generalize hk : z1.length = k at *
  have HK := Lib.hid hk
  clear hk
  generalize hN : (z1 ++ (z, Value.slice aa z.sz.length ac, b) :: z2).length = N at *
  have HN := Lib.hid hN
  clear hN
  go_enter Try.func7, Try.ntmps7
  go_wp2_with fail
  refine HSz.out.mono ?_
  rintro e w1 ⟨rfl, rfl⟩
  go_wp2_with fail
  refine HP.out.mono ?_
  rintro e w2 ⟨rfl, hb2⟩
  obtain ⟨hc2, hf2⟩ := bcell hb2
  have hA2 := H.out.still hb2
  have HA2 := Lib.hid (hA2.alloc (.cells #[.int .i64 x, .int .i64 (-1), .int .i64 (-1)] 41))
  have R2 := Lib.hid r2
  clear r2 qf hA2
  go_wp2_with (at_builtin; refine wpList_append_all etZ ([_, _] ++ stObs z1) HA2.out (own_at (n := 1) (size := 3) (Blk.new w2 [.int .i64 x, .int .i64 (-1), .int .i64 (-1)] 41) rfl (by omega)) (by intro u hu; simp at hu; rcases hu with rfl | rfl | rfl <;> rfl) (by omega) (by omega) rfl _ _ rfl rfl rfl ?_; intro v' w3 hA3; have ho : Own _ _ _ _ _ _ := hA3.P (sl 41 3 v' (z.sz.length + 1) (rows encZ z.sz ++ [.int .i64 x, .int .i64 (-1), .int .i64 (-1)])) (by simp); obtain ⟨va, vc, rfl⟩ := own_shape ho; have hr3 : Own _ _ _ _ _ _ := hA3.tail.head; have q3 := hr3.cellAt (k * 4 + 2) (by have := HN.out; have := HK.out; simp at *; omega); rw [R2.out] at q3; simp only [encS, List.getElem?_cons_zero, List.getElem?_cons_succ] at q3; have qf3 := hr3.frozenAt (k * 4 + 2); have HB := Lib.hid hA3; clear hA3 ho hr3)
  go_wp2_with fail
  go_ret
  have hk := HK.out
  subst hk
  have e1 : rows encZ (z.watch x).sz = rows encZ z.sz ++ [.int .i64 x, .int .i64 (-1), .int .i64 (-1)] := rows_snoc _ _
  have e2 : (z.watch x).sz.length = z.sz.length + 1 := by simp [Zr.watch]
  refine ⟨.slice va (z.sz.length + 1) vc, rfl, st_set2 (z' := z.watch x) ?_ HN.out rfl rfl⟩
  show All B w0 (_ ++ _ ++ sl _ _ _ (z.watch x).sz.length (rows encZ (z.watch x).sz) :: _) w3
  rw [e1, e2]
  exact HB.out

set_option maxRecDepth 100000 in
theorem observe_twice {B : Nat} {w0 w : World} {g zg zc : Nat} {nx : Int} {z1 z2 : List Zv} {z : Zr} {a b : Value} {l : List Ob} (h : All B w0 (stL g (.slice (some ⟨zg, 0, none⟩) (z1 ++ (z, a, b) :: z2).length zc) nx (z1 ++ (z, a, b) :: z2) ++ l) w)
    (hn : ∀ y ∈ z1, y.1.id ≠ z.id) (hl : (z1 ++ (z, a, b) :: z2).length ≤ 1000000) (x : Int) (hs : z.sz.length ≤ 100000) (hx : 0 ≤ placeOf z.sz x) :
    Calls Try.prog 7 #[.pointer (some ⟨g, 0, none⟩), .int .i64 z.id, .int .i64 x] w fun e w' => e = .returned (.int .i64 9) ∧ Below w.heap.size w w' := by
  have HSz := Lib.hid (sizer_at (z := (z, a, b)) h hn hl)
  obtain ⟨⟨q0, q1, q2, q3⟩, qf, hzlt, c0, c1, hz, hz'⟩ := st_cells h
  obtain ⟨aa, ac, rfl⟩ := own_shape hz
  have HP := Lib.hid (place_any x hz (by omega))
  clear h hz hz' hn q0 q1 q3 qf c0 c1
  generalize hk : z1.length = k at *
  clear hk
  generalize hN : (z1 ++ (z, Value.slice aa z.sz.length ac, b) :: z2).length = N at *
  clear hN
  generalize placeOf z.sz x = p at *
  go_enter Try.func7, Try.ntmps7
  go_wp2_with fail
  refine HSz.out.mono ?_
  rintro e w1 ⟨rfl, rfl⟩
  go_wp2_with fail
  refine HP.out.mono ?_
  rintro e w2 ⟨rfl, hb2⟩
  go_wp2_with fail
  go_ret
  exact ⟨rfl, hb2⟩

set_option maxRecDepth 100000 in
theorem observe_none {B : Nat} {w0 w : World} {g : Nat} {zv : Value} {nx : Int} {zs : List Zv} {l : List Ob} (h : All B w0 (stL g zv nx zs ++ l) w) (id x : Int) (hn : ∀ y ∈ zs, y.1.id ≠ id) (hl : zs.length ≤ 1000000) :
    Calls Try.prog 7 #[.pointer (some ⟨g, 0, none⟩), .int .i64 id, .int .i64 x] w fun e w' => e = .returned (.int .i64 6) ∧ w = w' := by
  have HSz := Lib.hid (sizer_no h id hn hl)
  clear h hn
  go_enter Try.func7, Try.ntmps7
  go_wp2_with fail
  refine HSz.out.mono ?_
  rintro e w1 ⟨rfl, rfl⟩
  go_wp2_with fail
  go_ret
  exact ⟨rfl, rfl⟩
end Go.Proofs.Ytfdofkokiaapoaa.W
