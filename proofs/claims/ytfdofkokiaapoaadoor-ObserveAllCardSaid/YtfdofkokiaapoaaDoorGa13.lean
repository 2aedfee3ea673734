/- Texts joined: WatB WatC Rem Clear. -/
import Derived.Test.YtfdofkokiaapoaaDoorGa12
import Derived.WalkSpells
import Derived.Test.YtfdofkokiaapoaaDoorGa9
import Derived.Laws.IdiomCopy
section
/- Watches: the place of a target; Watch of a target that is not watched yet (no filter). -/
namespace Go.Proofs.YtfdofkokiaapoaaDoor.W
open Go.RowKit
set_option linter.unusedVariables false
set_option linter.unusedSimpArgs false

theorem stM_split (g : Nat) (zv : Value) (nx : Int) (z1 : List Oz) (z : Oz) (z2 : List Oz) (l : List Ob) :
    stM g zv nx (z1 ++ z :: z2) ++ l = [bk g [zv, .slice none 0 0, .int .i64 nx] 33, sl 79 4 zv (z1 ++ z :: z2).length (rows encO (z1 ++ z :: z2))] ++ obM z1 ++ (wl z.2.1 z.1.ws :: rl z.2.2 z.1.rs :: (obM z2 ++ l)) := by
  unfold stM
  simp only [List.cons_append, List.nil_append]
  rw [obM_split]
/-- a field of an observer written: the watches -/
theorem om_set2 {B : Nat} {w0 w : World} {g zg zc N : Nat} {nx : Int} {z1 z2 : List Oz} {z z' : Ov} {a b a' : Value} {l : List Ob}
    (h : All B w0 ([bk g [.slice (some ⟨zg, 0, none⟩) N zc, .slice none 0 0, .int .i64 nx] 33, sl 79 4 (.slice (some ⟨zg, 0, none⟩) N zc) N (rows encO (z1 ++ (z, a, b) :: z2))] ++ obM z1 ++ (wl a' z'.ws :: rl b z'.rs :: (obM z2 ++ l))) w)
    (hN : (z1 ++ (z, a, b) :: z2).length = N) (h1 : z'.id = z.id) (h2 : z'.cb = z.cb) : All B w0 (stM g (.slice (some ⟨zg, 0, none⟩) N zc) nx (z1 ++ (z', a', b) :: z2) ++ l) (w.setCell ⟨zg, z1.length * 4 + 2, none⟩ a') := by
  rw [stM_split]
  have hr := rows_field (enc := encO) encO_len (z1 ++ (z, a, b) :: z2) z1.length 2 _ (z', a', b) a' (get_mid _ _ _) (by decide) (by simp [encO, h1, h2])
  rw [set_mid] at hr
  have hN' : (z1 ++ (z', a', b) :: z2).length = N := by rw [← hN]; simp
  rw [hr, hN']
  exact h.setSl [_] (z1.length * 4 + 2) a'
/-- a field of an observer written: the records -/
theorem om_set3 {B : Nat} {w0 w : World} {g zg zc N : Nat} {nx : Int} {z1 z2 : List Oz} {z z' : Ov} {a b b' : Value} {l : List Ob}
    (h : All B w0 ([bk g [.slice (some ⟨zg, 0, none⟩) N zc, .slice none 0 0, .int .i64 nx] 33, sl 79 4 (.slice (some ⟨zg, 0, none⟩) N zc) N (rows encO (z1 ++ (z, a, b) :: z2))] ++ obM z1 ++ (wl a z'.ws :: rl b' z'.rs :: (obM z2 ++ l))) w)
    (hN : (z1 ++ (z, a, b) :: z2).length = N) (h1 : z'.id = z.id) (h2 : z'.cb = z.cb) : All B w0 (stM g (.slice (some ⟨zg, 0, none⟩) N zc) nx (z1 ++ (z', a, b') :: z2) ++ l) (w.setCell ⟨zg, z1.length * 4 + 3, none⟩ b') := by
  rw [stM_split]
  have hr := rows_field (enc := encO) encO_len (z1 ++ (z, a, b) :: z2) z1.length 3 _ (z', a, b') b' (get_mid _ _ _) (by decide) (by simp [encO, h1, h2])
  rw [set_mid] at hr
  have hN' : (z1 ++ (z', a, b') :: z2).length = N := by rw [← hN]; simp
  rw [hr, hN']
  exact h.setSl [_] (z1.length * 4 + 3) b'
/-- the cells of one observer -/
theorem om_cells {B : Nat} {w0 w : World} {g zg zc : Nat} {nx : Int} {z1 z2 : List Oz} {z : Ov} {a b : Value} {l : List Ob} (h : All B w0 (stM g (.slice (some ⟨zg, 0, none⟩) (z1 ++ (z, a, b) :: z2).length zc) nx (z1 ++ (z, a, b) :: z2) ++ l) w) :
    (w.cell? ⟨zg, z1.length * 4, none⟩ = some (.int .i64 z.id) ∧ w.cell? ⟨zg, z1.length * 4 + 1, none⟩ = some (.int .i64 z.cb) ∧ w.cell? ⟨zg, z1.length * 4 + 2, none⟩ = some a ∧ w.cell? ⟨zg, z1.length * 4 + 3, none⟩ = some b) ∧
    (∀ j, w.frozen? ⟨zg, j, none⟩ = false) ∧ zg < w.heap.size ∧ w.cell? ⟨g, 0, none⟩ = some (.slice (some ⟨zg, 0, none⟩) (z1 ++ (z, a, b) :: z2).length zc) ∧ w.cell? ⟨g, 1, none⟩ = some (.slice none 0 0) ∧ (wl a z.ws).P w ∧ Own w 90 11 b z.rs.length (rows encR z.rs) := by
  have hb : Blk _ _ _ _ := h.head
  have hr : Own _ _ _ _ _ _ := h.tail.head
  have c0 := hb.cell 0
  have c1 := hb.cell 1
  simp only [List.getElem?_cons_zero, List.getElem?_cons_succ] at c0 c1
  have hlt : z1.length * 4 + 4 ≤ (z1 ++ (z, a, b) :: z2).length * 4 := by simp; omega
  have r0 := rows_at (enc := encO) encO_len _ z1.length _ (get_mid z1 (z, a, b) z2) 0 (by decide)
  have r1 := rows_at (enc := encO) encO_len _ z1.length _ (get_mid z1 (z, a, b) z2) 1 (by decide)
  have r2 := rows_at (enc := encO) encO_len _ z1.length _ (get_mid z1 (z, a, b) z2) 2 (by decide)
  have r3 := rows_at (enc := encO) encO_len _ z1.length _ (get_mid z1 (z, a, b) z2) 3 (by decide)
  have q0 := hr.cellAt (z1.length * 4 + 0) (by omega)
  have q1 := hr.cellAt (z1.length * 4 + 1) (by omega)
  have q2 := hr.cellAt (z1.length * 4 + 2) (by omega)
  have q3 := hr.cellAt (z1.length * 4 + 3) (by omega)
  rw [r0] at q0
  rw [r1] at q1
  rw [r2] at q2
  rw [r3] at q3
  simp only [encO, List.getElem?_cons_zero, List.getElem?_cons_succ] at q0 q1 q2 q3
  have hA := h.P (wl a z.ws) (by rw [stM_split]; simp)
  have hB' : Own _ _ _ _ _ _ := h.P (rl b z.rs) (by rw [stM_split]; simp)
  exact ⟨⟨q0, q1, q2, q3⟩, fun j => hr.frozenAt j, own_lt hr (k := zg) rfl, c0, c1, hA, hB'⟩

/-- no filters -/
def NoF (ws : List Wt) : Prop := ∀ x ∈ ws, x.fv = .slice none 0 0 ∧ x.flt = []
theorem All.toSl {B : Nat} {w0 w : World} (l1 : List Ob) {l2 : List Ob} {v : Value} {ws : List Wt} (h : All B w0 (l1 ++ wl v ws :: l2) w) : All B w0 (l1 ++ sl 44 7 v ws.length (rows encW ws) :: l2) w :=
  h.step l1 (o' := sl 44 7 v ws.length (rows encW ws)) h.mid.1 (Chg.refl _ _) (fun k hk => .inl (.inl hk))
theorem All.toWl {B : Nat} {w0 w : World} (l1 : List Ob) {l2 : List Ob} {v : Value} {ws : List Wt} (hf : NoF ws) (h : All B w0 (l1 ++ sl 44 7 v ws.length (rows encW ws) :: l2) w) : All B w0 (l1 ++ wl v ws :: l2) w :=
  h.step l1 (o' := wl v ws) ⟨h.mid, fun x hx => by
    obtain ⟨h1, h2⟩ := hf x hx
    unfold FltAt
    rw [h1, h2]
    exact World.ownsRow_nil _ _ _ _⟩ (Chg.refl _ _) (fun k hk => .inl (by
    rcases hk with hk | ⟨x, hx, hk⟩
    · exact hk
    · rw [(hf x hx).1] at hk; cases hk))
theorem etW : ET Tryd.prog 56 44 7 40 := ET.mk' (z := .agg #[.int .i64 0, .bool false, .bool false, .bool false, .bool false, .bool false, .slice none 0 0]) Tryd.underlying56 (by kernel_rfl) rfl (by decide)

theorem watch1_any (t x : Int) (a b c d e : Bool) (f : Value) (g : Nat) (w : World) (hg : w.cell? ⟨g, 0, none⟩ = some (.int .i64 x)) (fa : Option Addr) (fn fc : Nat) (hf : f = .slice fa fn fc) :
    Calls Tryd.prog 29 #[.agg #[.int .i64 t, .bool a, .bool b, .bool c, .bool d, .bool e, f], .pointer (some ⟨g, 0, none⟩)] w fun e w' => e = .returned (.bool (t == x)) ∧ Below w.heap.size w w' := by
  subst hf
  have hlt : g < w.heap.size := World.block_lt_of_cell? w ⟨g, 0, none⟩ hg
  have hne : g ≠ w.heap.size := by omega
  go_enter Tryd.func29, Tryd.ntmps29
  go_wp2
  go_ret
  exact ⟨rfl, (Below.refl _ _).alloc (Nat.le_refl _) _⟩

set_option maxRecDepth 100000 in
set_option maxHeartbeats 2000000 in
theorem index_wt {w : World} {v : Value} {l : List Wt} {x : Int} {g : Nat} (h : Own w 44 7 v l.length (rows encW l)) (hf : ∀ y ∈ l, ∃ a n c, y.fv = .slice a n c) (hg : w.cell? ⟨g, 0, none⟩ = some (.int .i64 x)) (hl : l.length ≤ 2000000) (hno : ∀ y ∈ l, y.target ≠ x) :
    Calls Tryd.prog 28 #[v, .func (.func 29) #[] #[.pointer (some ⟨g, 0, none⟩)]] w fun e w' => e = .returned (.int .i64 (-1)) ∧ Below w.heap.size w w' := by
  have hlt : g < w.heap.size := World.block_lt_of_cell? w ⟨g, 0, none⟩ hg
  obtain ⟨va, vc, rfl⟩ := own_shape h
  have H := Lib.hid h
  have HG := Lib.hid hg
  have HF := Lib.hid hf
  have HNo := Lib.hid hno
  clear h hg hf hno
  go_enter Tryd.func28, Tryd.ntmps28
  go_wp2_with fail
  go_loopw [8] (fun iv wr => ∃ k : Nat, k ≤ l.length ∧ iv = .int .i64 (k : Int) ∧ Below w.heap.size w wr) (fun iv _ => l.length - (intOf iv).toNat)
  case atStart => exact ⟨0, Nat.zero_le _, rfl, Below.refl _ _⟩
  case round =>
    obtain ⟨k, hk, rfl, hB⟩ := hrel
    by_cases hkl : k < l.length
    · obtain ⟨y, hy⟩ : ∃ y, l[k]? = some y := ⟨_, List.getElem?_eq_getElem hkl⟩
      have hO := own_below H.out hB
      obtain ⟨vg, vc', he, _⟩ := own_some hO (by omega)
      simp only [Value.slice.injEq] at he
      obtain ⟨rfl, _, rfl⟩ := he
      have hq : ∀ j, j < 7 → wr.cell? ⟨vg, k * 7 + j, none⟩ = (encW y)[j]? := fun j hj => by
        rw [hO.cellAt (k * 7 + j) (by omega)]
        exact rows_at (enc := encW) encW_len l k y hy j hj
      have q0 := hq 0 (by omega)
      have q1 := hq 1 (by omega)
      have q2 := hq 2 (by omega)
      have q3 := hq 3 (by omega)
      have q4 := hq 4 (by omega)
      have q5 := hq 5 (by omega)
      have q6 := hq 6 (by omega)
      obtain ⟨fa, fn, fc, hfv⟩ := HF.out y (List.mem_of_getElem? hy)
      simp only [encW, hfv, List.getElem?_cons_zero, List.getElem?_cons_succ, Nat.add_zero] at q0 q1 q2 q3 q4 q5 q6
      have hc := (hB.cell (p := ⟨g, 0, none⟩) hlt).trans HG.out
      have HC := Lib.hid (watch1_any y.target x y.kids y.attrs y.data y.sub y.old (.slice fa fn fc) g wr hc fa fn fc rfl)
      have hyx := HNo.out y (List.mem_of_getElem? hy)
      have e1 : (y.target == x) = false := by simpa using hyx
      rw [e1] at HC
      clear hO hc hy e1 hyx hq hfv
      go_wp2_with fail
      refine HC.out.mono ?_
      rintro e w2 ⟨rfl, hb2⟩
      go_wp2_with fail
      go_roundw
      case rel => exact ⟨k + 1, by omega, by go_num, hB.trans (hb2.mono hB.size)⟩
      case measure => simp [intOf]; omega
    · go_wp2_with fail
      go_ret
      exact ⟨rfl, hB⟩
end Go.Proofs.YtfdofkokiaapoaaDoor.W
end
section
/- Watch of a target that is not watched yet; Take. -/
namespace Go.Proofs.YtfdofkokiaapoaaDoor.W
open Go.RowKit
set_option linter.unusedVariables false
set_option linter.unusedSimpArgs false

def Ov.watch (z : Ov) (x : Wt) : Ov := { z with ws := z.ws ++ [x] }

set_option maxRecDepth 100000 in
set_option maxHeartbeats 8000000 in
theorem watch_new {B : Nat} {w0 w : World} {g zg zc : Nat} {nx : Int} {z1 z2 : List Oz} {z : Ov} {a b : Value} {l : List Ob} (h : All B w0 (stM g (.slice (some ⟨zg, 0, none⟩) (z1 ++ (z, a, b) :: z2).length zc) nx (z1 ++ (z, a, b) :: z2) ++ l) w)
    (hn : ∀ y ∈ z1, y.1.id ≠ z.id) (hl : (z1 ++ (z, a, b) :: z2).length ≤ 1000000) (t : Int) (at' da su ol : Bool) (hs : z.ws.length ≤ 100000) (hf : NoF z.ws) (hno : ∀ y ∈ z.ws, y.target ≠ t) :
    Calls Tryd.prog 10 #[.pointer (some ⟨g, 0, none⟩), .int .i64 z.id, .agg #[.int .i64 t, .bool true, .bool at', .bool da, .bool su, .bool ol, .slice none 0 0]] w fun e w' => ∃ a', e = .returned (.int .i64 0) ∧
      All B w0 (stM g (.slice (some ⟨zg, 0, none⟩) (z1 ++ (z, a, b) :: z2).length zc) nx (z1 ++ (z.watch ⟨t, true, at', da, su, ol, [], .slice none 0 0⟩, a', b) :: z2) ++ l) w' := by
  have hA1 := h.newBkA w.heap.size rfl [.int .i64 t, .bool true, .bool at', .bool da, .bool su, .bool ol, .slice none 0 0] 44
  have hbelow : Below w.heap.size w (w.alloc (.cells #[.int .i64 t, .bool true, .bool at', .bool da, .bool su, .bool ol, .slice none 0 0] 44)) := (Below.refl _ _).alloc (Nat.le_refl _) _
  generalize hgx : w.heap.size = gx at *
  change All B w0 _ (w.alloc (.cells #[.int .i64 t, .bool true, .bool at', .bool da, .bool su, .bool ol, .slice none 0 0] 44)) at hA1
  have HSz := Lib.hid (observer_at (z := (z, a, b)) hA1.tail hn hl)
  have kx : Blk _ _ _ _ := hA1.head
  have x1 := kx.cell 1
  have x6 := kx.cell 6
  have xf := kx.free 6
  simp only [List.getElem?_cons_zero, List.getElem?_cons_succ] at x1 x6
  have hA2 := hA1
  have hlen : z1.length * 4 + 4 ≤ (z1 ++ (z, a, b) :: z2).length * 4 := by simp; omega
  obtain ⟨⟨_, _, q2, _⟩, qf, hzlt, _, _, hw, _⟩ := om_cells hA2.tail
  have hO : Own _ 44 7 a z.ws.length (rows encW z.ws) := hw.1
  obtain ⟨aa, ac, rfl⟩ := own_shape hO
  have k2 : Blk _ _ _ _ := hA2.head
  have HI := Lib.hid (index_wt hO (fun y hy => ⟨_, _, _, (hf y hy).1⟩) (k2.cell 0) (by omega) hno)
  have hgxlt := k2.lt
  have HK := Lib.hid k2
  have H2 := Lib.hid hA2
  clear hA2 hA1 h hw hO k2 kx hn hno hl hbelow
  generalize hk : z1.length = k at *
  have HKk := Lib.hid hk
  clear hk
  generalize hN : (z1 ++ (z, Value.slice aa z.ws.length ac, b) :: z2).length = N at *
  have HN := Lib.hid hN
  clear hN
  go_enter Tryd.func10, Tryd.ntmps10
  go_wp2_with fail
  refine HSz.out.mono ?_
  rintro e w1 ⟨rfl, hw⟩
  rw [← hw]
  clear hw
  go_wp2_with fail
  refine (Tryd.slices_Clone_string_nil 0 0 _).mono ?_
  rintro e w1 ⟨rfl, hw⟩
  rw [hw]
  clear hw
  go_upto_region 7 with fail
  clear x1 x6 xf
  generalize w.alloc (.cells #[.int .i64 t, .bool true, .bool at', .bool da, .bool su, .bool ol, .slice none 0 0] 44) = w2 at *
  go_wp2_with fail
  refine HI.out.mono ?_
  rintro e w3 ⟨rfl, hb3⟩
  have HI := HK
  have hgx3 : gx < w3.heap.size := Nat.lt_of_lt_of_le hgxlt hb3.size
  have hzl3 : zg < w3.heap.size := Nat.lt_of_lt_of_le hzlt hb3.size
  have hA3 := (H2.out.still hb3)
  have k3 := HK.out.below hb3
  have p0 := k3.cell 0
  have p1 := k3.cell 1
  have p2 := k3.cell 2
  have p3 := k3.cell 3
  have p4 := k3.cell 4
  have p5 := k3.cell 5
  have p6 := k3.cell 6
  simp only [List.getElem?_cons_zero, List.getElem?_cons_succ] at p0 p1 p2 p3 p4 p5 p6
  have q3 := cell_keep hb3 q2
  have ea : ∀ o, (w3.alloc o).cell? ⟨zg, k * 4 + 2, none⟩ = some (.slice aa z.ws.length ac) := fun o => (World.cell?_alloc_lt _ _ _ hzl3).trans q3
  rw [stM_split] at hA3
  have hA4 : All B w0 (([bk gx [.int .i64 t, .bool true, .bool at', .bool da, .bool su, .bool ol, .slice none 0 0] 44, _, _] ++ obM z1) ++ wl _ z.ws :: rl b z.rs :: (obM z2 ++ l)) w3 := hA3
  have HA := Lib.hid (All.toSl _ hA4)
  have R2 := Lib.hid (show (rows encO (z1 ++ (z, Value.slice aa z.ws.length ac, b) :: z2))[k * 4 + 2]? = some (.slice aa z.ws.length ac) from by
    have := rows_at (enc := encO) encO_len _ z1.length (z, Value.slice aa z.ws.length ac, b) (get_mid z1 (z, Value.slice aa z.ws.length ac, b) z2) 2 (by decide)
    rw [HKk.out] at this
    exact this)
  have hkN := Lib.hid (show k * 4 + 2 < N * 4 from by omega)
  clear hA3 hA4 k3 HI H2 HK q2 hb3
  go_upto_region 10 with fail
  have T1 := Lib.hid ((HA.out.alloc (.cells #[.int .i64 t, .bool true, .bool at', .bool da, .bool su, .bool ol, .slice none 0 0] 44)).drew)
  have T2 := Lib.hid (own_at (w := (w3.alloc (.cells #[.int .i64 t, .bool true, .bool at', .bool da, .bool su, .bool ol, .slice none 0 0] 44)).drew) (g := w3.heap.size) (n := 1) (size := 7) (show Blk _ _ _ _ from Blk.new w3 [.int .i64 t, .bool true, .bool at', .bool da, .bool su, .bool ol, .slice none 0 0] 44) rfl (by omega))
  have T3 := Lib.hid (show ∀ u ∈ ([.int .i64 t, .bool true, .bool at', .bool da, .bool su, .bool ol, .slice none 0 0] : List Value), u.oneCell' = true from by intro u hu; simp only [List.mem_cons, List.not_mem_nil, or_false] at hu; rcases hu with rfl | rfl | rfl | rfl | rfl | rfl | rfl <;> rfl)
  go_region_law (refine step_append_all etW ([_, _, _] ++ obM z1) T1.out T2.out T3.out (by omega) (by omega) (by rfl) _ _ (by rfl) (by rfl) (by rfl) ?_; intro v' w5 hA5; have ho : Own _ _ _ _ _ _ := hA5.P (sl 44 7 v' (z.ws.length + 1) (rows encW z.ws ++ [.int .i64 t, .bool true, .bool at', .bool da, .bool su, .bool ol, .slice none 0 0])) (by simp); obtain ⟨va, vc, rfl⟩ := own_shape ho; have hr5 : Own _ _ _ _ _ _ := hA5.tail.tail.head; rw [HN.out] at hr5; have d1 := hr5.cellAt (k * 4 + 2) hkN.out; rw [R2.out] at d1; have df := hr5.frozenAt (k * 4 + 2); have HB := Lib.hid hA5; clear hA5 ho hr5)
  all_goals
    go_wp2_with fail
    go_ret
    have hkk := HKk.out
    subst hkk
    have e1 : rows encW (z.watch ⟨t, true, at', da, su, ol, [], .slice none 0 0⟩).ws = rows encW z.ws ++ [.int .i64 t, .bool true, .bool at', .bool da, .bool su, .bool ol, .slice none 0 0] := rows_snoc _ _
    have e2 : (z.watch ⟨t, true, at', da, su, ol, [], .slice none 0 0⟩).ws.length = z.ws.length + 1 := by simp [Ov.watch]
    have hnf : NoF (z.watch ⟨t, true, at', da, su, ol, [], .slice none 0 0⟩).ws := fun y hy => by
      simp only [Ov.watch, List.mem_append, List.mem_singleton] at hy
      rcases hy with hy | rfl
      · exact hf y hy
      · exact ⟨rfl, rfl⟩
    have h6 := HB.out
    rw [← e1, ← e2] at h6
    have h7 := All.toWl _ hnf h6
    have h8 := h7.tail
    rw [HN.out, e2] at h8
    exact ⟨.slice va (z.ws.length + 1) vc, rfl, om_set2 (z := z) (a := .slice aa z.ws.length ac) (z' := z.watch ⟨t, true, at', da, su, ol, [], .slice none 0 0⟩) h8 HN.out rfl rfl⟩

theorem perm_dlM (X Y Z : Ob) (P Q l : List Ob) : (X :: (P ++ (Z :: Y :: (Q ++ l)))).Perm (P ++ (Z :: X :: (Q ++ (Y :: l)))) :=
  List.perm_middle.symm.trans (List.Perm.append_left P ((List.Perm.swap Z X _).trans (.cons Z (.cons X List.perm_middle.symm))))

set_option maxRecDepth 100000 in
set_option maxHeartbeats 4000000 in
theorem take_ob {B : Nat} {w0 w : World} {g zg zc : Nat} {nx : Int} {z1 z2 : List Oz} {z : Ov} {a b : Value} {l : List Ob} (h : All B w0 (stM g (.slice (some ⟨zg, 0, none⟩) (z1 ++ (z, a, b) :: z2).length zc) nx (z1 ++ (z, a, b) :: z2) ++ l) w)
    (hn : ∀ y ∈ z1, y.1.id ≠ z.id) (hl : (z1 ++ (z, a, b) :: z2).length ≤ 1000000) :
    Calls Tryd.prog 13 #[.pointer (some ⟨g, 0, none⟩), .int .i64 z.id] w fun e w' => e = .returned (.tuple #[b, .int .i64 0]) ∧
      All B w0 (stM g (.slice (some ⟨zg, 0, none⟩) (z1 ++ (z, a, b) :: z2).length zc) nx (z1 ++ ({ z with rs := [] }, a, .slice none 0 0) :: z2) ++ (rl b z.rs :: l)) w' := by
  have HSz := Lib.hid (observer_at (z := (z, a, b)) h hn hl)
  obtain ⟨⟨_, _, _, q3⟩, qf, hzlt, _, _, _, hb⟩ := om_cells h
  obtain ⟨ba, bc, rfl⟩ := own_shape hb
  rw [stM_split] at h
  have h1 := (h.nil 90 11)
  have H := Lib.hid h1
  clear h h1 hb hn hl
  generalize hk : z1.length = k at *
  have HKk := Lib.hid hk
  clear hk
  generalize hN : (z1 ++ (z, a, Value.slice ba z.rs.length bc) :: z2).length = N at *
  have HN := Lib.hid hN
  clear hN
  go_enter Tryd.func13, Tryd.ntmps13
  go_wp2_with fail
  refine HSz.out.mono ?_
  rintro e w1 ⟨rfl, hw⟩
  rw [← hw]
  clear hw
  go_wp2_with fail
  go_ret2
  have hkk := HKk.out
  subst hkk
  refine ⟨rfl, ?_⟩
  refine om_set3 (z := z) (a := a) (b := .slice ba z.rs.length bc) (z' := { z with rs := [] }) ?_ HN.out rfl rfl
  have h2 := H.out
  exact h2.perm (perm_dlM _ _ _ _ _ _)
end Go.Proofs.YtfdofkokiaapoaaDoor.W
end
section
/- The contracts of Remove, and of Insert where it refuses. -/
namespace Go.Proofs.YtfdofkokiaapoaaDoor.W
open Go.RowKit
set_option linter.unusedVariables false
set_option linter.unusedSimpArgs false

theorem rc_one (w : World) (c : List Value) {B : Nat} (hB : B ≤ w.heap.size) (hc : c.length = 11) : RcAt (w.alloc (.cells c.toArray 90)) B (.slice (some ⟨w.heap.size, 0, none⟩) 1 1) [c] := by
  obtain ⟨h1, h2⟩ := own_at (n := 1) (size := 11) (Blk.new w c 90) (by omega) (by omega)
  refine ⟨by simpa using h1, ?_⟩
  rcases h2 with ⟨e, _⟩ | ⟨g', cap, cur, e, _, rest⟩
  · cases e
  · cases e; exact .inr ⟨w.heap.size, _, cur, rfl, hB, by simpa using rest⟩

set_option maxRecDepth 100000 in
set_option maxHeartbeats 4000000 in
theorem remove_top {B R g cap : Nat} {S : Tr} {fv : Value} {w : World} {K : Nat → List Nat} {d : Nat → Nat} (h : TAt B R S (.slice (some ⟨g, 0, none⟩) S.slots.length cap) fv w) (hL : Lk S K d) (c : Nat) (nc : Nd) (hc : S.at c = some nc) (hk : nc.kind ≠ 1) (hdet : ∀ q, c ∉ K q) :
    Calls Tryd.prog 31 #[.pointer (some ⟨R, 0, none⟩), .int .i64 (S.hd c)] w fun e w' => e = .returned (.tuple #[.slice none 0 0, .int .i64 0]) ∧ Below w.heap.size w w' := by
  have HC := Lib.hid (at_some h (S.hd c) (hd_ok hL hc).1 (hd_ix hL hc))
  have H0 := Lib.hid (fun wx (hb : Below w.heap.size w wx) => nd_cell (h.below hb) hc 0 (by omega))
  have H4 := Lib.hid (fun wx (hb : Below w.heap.size w wx) => nd_cell (h.below hb) hc 4 (by omega))
  simp only [ndC, List.getElem?_cons_succ, List.getElem?_cons_zero] at H0 H4
  rw [(hL.top c nc hc hdet).1] at H4
  have hk1 : (nc.kind == 1) = false := by simpa using hk
  clear h hL hc hdet
  go_enter Tryd.func31, Tryd.ntmps31
  go_wp2_with fail
  refine HC.out.mono ?_
  rintro e w1 ⟨rfl, hb1⟩
  have c0 := H0.out _ hb1
  have c4 := H4.out _ hb1
  go_wp2_with fail
  go_ret2
  exact ⟨rfl, hb1⟩

set_option maxRecDepth 100000 in
set_option maxHeartbeats 4000000 in
theorem remove_kid {B R g cap : Nat} {S : Tr} {fv : Value} {w : World} {K : Nat → List Nat} {d : Nat → Nat} (h : TAt B R S (.slice (some ⟨g, 0, none⟩) S.slots.length cap) fv w) (hL : Lk S K d) (q i c : Nat) (nc : Nd) (hc : S.at c = some nc) (hk : nc.kind ≠ 1) (hi : (K q)[i]? = some c) :
    Calls Tryd.prog 31 #[.pointer (some ⟨R, 0, none⟩), .int .i64 (S.hd c)] w fun e w' => ∃ S' v, Cutd S S' (K q) q i c ∧ e = .returned (.tuple #[v, .int .i64 0]) ∧ RcAt w' w.heap.size v [recC 2 (S.hd q) (S.hd c) nc.prev nc.next i [] [] false 0 0] ∧
      TAt B R S' (.slice (some ⟨g, 0, none⟩) S'.slots.length cap) fv w' ∧ Chg (fun k => k = g) w w' := by
  obtain ⟨nq, hnq⟩ := Option.isSome_iff_exists.1 (hL.kin q c (List.mem_of_getElem? hi)).1
  have hq0 : ¬ S.hd q = 0 := by have := (hd_ok hL hnq).2; omega
  have hq1 : (S.hd q == 0) = false := by simpa using hq0
  have HC := Lib.hid (at_some h (S.hd c) (hd_ok hL hc).1 (hd_ix hL hc))
  have H0 := Lib.hid (fun wx (hb : Below w.heap.size w wx) => nd_cell (h.below hb) hc 0 (by omega))
  have H4 := Lib.hid (fun wx (hb : Below w.heap.size w wx) => nd_cell (h.below hb) hc 4 (by omega))
  simp only [ndC, List.getElem?_cons_succ, List.getElem?_cons_zero] at H0 H4
  rw [(hL.kid q i c nc hi hc).1] at H4
  have HU := Lib.hid (fun wx (hb : Below w.heap.size w wx) => unlink_any (h.below hb) hL q i c nc hi hc)
  have hk1 : (nc.kind == 1) = false := by simpa using hk
  clear h hL hc hi hnq
  go_enter Tryd.func31, Tryd.ntmps31
  go_wp2_with fail
  refine HC.out.mono ?_
  rintro e w1 ⟨rfl, hb1⟩
  have c0 := H0.out _ hb1
  have c4 := H4.out _ hb1
  go_wp2_with fail
  refine (HU.out _ hb1).mono ?_
  rintro e w7 ⟨S1, hcut, rfl, hT7, hC7⟩
  have HT7 := Lib.hid hT7
  have HC7 := Lib.hid hC7
  have hs7 := Nat.le_trans hb1.size hC7.size
  clear hT7 hC7 HU c0 c4 H0 H4
  simp only [recC, strV]
  go_wp2_with fail
  go_ret2
  exact ⟨S1, _, hcut, rfl, rc_one w7 _ hs7 rfl, HT7.out.below ((Below.refl _ w7).alloc (Nat.le_refl _) _), ((Chg.of_below hb1).trans HC7.out (fun _ _ h => h)).alloc _⟩

set_option maxRecDepth 100000 in
set_option maxHeartbeats 4000000 in
theorem insert_no {B R g cap : Nat} {S : Tr} {fv : Value} {w : World} {K : Nat → List Nat} {d : Nat → Nat} (h : TAt B R S (.slice (some ⟨g, 0, none⟩) S.slots.length cap) fv w) (hL : Lk S K d) (p c : Nat) (o : Option Nat) (np nc : Nd) (hp : S.at p = some np) (hc : S.at c = some nc) (ho : ∀ b, o = some b → (S.at b).isSome = true)
    (hmay : mayB S K d p c np nc = false) :
    Calls Tryd.prog 25 #[.pointer (some ⟨R, 0, none⟩), .int .i64 (S.hd p), .int .i64 (S.hd c), .int .i64 (hO S o)] w fun e w' => e = .returned (.tuple #[.slice none 0 0, .int .i64 10]) ∧ Below w.heap.size w w' := by
  have HP := Lib.hid (fun wx (hb : Below w.heap.size w wx) => at_some (h.below hb) (S.hd p) (hd_ok hL hp).1 (hd_ix hL hp))
  have HC := Lib.hid (fun wx (hb : Below w.heap.size w wx) => at_some (h.below hb) (S.hd c) (hd_ok hL hc).1 (hd_ix hL hc))
  have HM := Lib.hid (fun wx (hb : Below w.heap.size w wx) => may_any (h.below hb) hL p c np nc hp hc)
  rw [hmay] at HM
  cases o with
  | none =>
    rw [show hO S none = 0 from rfl]
    clear h hL hp hc hmay ho
    go_enter Tryd.func25, Tryd.ntmps25
    go_wp2_with fail
    refine (HP.out _ (Below.refl _ _)).mono ?_
    rintro e w1 ⟨rfl, hb1⟩
    go_wp2_with fail
    refine (HC.out _ hb1).mono ?_
    rintro e w2 ⟨rfl, hb2⟩
    have hB2 := bthen hb1 hb2
    go_wp2_with fail
    refine (HM.out _ hB2).mono ?_
    rintro e w3 ⟨rfl, hb3⟩
    have hB3 := bthen hB2 hb3
    go_wp2_with fail
    go_ret2
    exact ⟨rfl, hB3⟩
  | some b =>
    obtain ⟨nb, hb⟩ := Option.isSome_iff_exists.1 (ho b rfl)
    have HB := Lib.hid (fun wx (hb' : Below w.heap.size w wx) => at_some (h.below hb') (S.hd b) (hd_ok hL hb).1 (hd_ix hL hb))
    have hb0 : ¬ S.hd b = 0 := by have := (hd_ok hL hb).2; omega
    have hb1' : (S.hd b == 0) = false := by simpa using hb0
    rw [show hO S (some b) = S.hd b from rfl]
    clear h hL hp hc hmay ho hb
    go_enter Tryd.func25, Tryd.ntmps25
    go_wp2_with fail
    refine (HP.out _ (Below.refl _ _)).mono ?_
    rintro e w1 ⟨rfl, hb1⟩
    go_wp2_with fail
    refine (HC.out _ hb1).mono ?_
    rintro e w2 ⟨rfl, hb2⟩
    have hB2 := bthen hb1 hb2
    go_wp2_with fail
    refine (HB.out _ hB2).mono ?_
    rintro e w2' ⟨rfl, hb2'⟩
    have hB2' := bthen hB2 hb2'
    go_wp2_with fail
    refine (HM.out _ hB2').mono ?_
    rintro e w3 ⟨rfl, hb3⟩
    have hB3 := bthen hB2' hb3
    go_wp2_with fail
    go_ret2
    exact ⟨rfl, hB3⟩

set_option maxRecDepth 100000 in
set_option maxHeartbeats 4000000 in
theorem insert_far {B R g cap : Nat} {S : Tr} {fv : Value} {w : World} {K : Nat → List Nat} {d : Nat → Nat} (h : TAt B R S (.slice (some ⟨g, 0, none⟩) S.slots.length cap) fv w) (hL : Lk S K d) (p c : Nat) (o : Option Nat) (np nc : Nd) (hp : S.at p = some np) (hc : S.at c = some nc) (ho : ∀ b, o = some b → b ∈ K p)
    (hmay : mayB S K d p c np nc = true) (hdep : 128 < d p + hgt K (128 - d c) c) :
    Calls Tryd.prog 25 #[.pointer (some ⟨R, 0, none⟩), .int .i64 (S.hd p), .int .i64 (S.hd c), .int .i64 (hO S o)] w fun e w' => e = .returned (.tuple #[.slice none 0 0, .int .i64 5]) ∧ Below w.heap.size w w' := by
  cases o with
  | none => exact insert_deep h hL p c np nc hp hc hmay hdep
  | some b =>
    have HP := Lib.hid (fun wx (hb : Below w.heap.size w wx) => at_some (h.below hb) (S.hd p) (hd_ok hL hp).1 (hd_ix hL hp))
    have HC := Lib.hid (fun wx (hb : Below w.heap.size w wx) => at_some (h.below hb) (S.hd c) (hd_ok hL hc).1 (hd_ix hL hc))
    have HM := Lib.hid (fun wx (hb : Below w.heap.size w wx) => may_any (h.below hb) hL p c np nc hp hc)
    rw [hmay] at HM
    have HD := Lib.hid (fun wx (hb : Below w.heap.size w wx) => depth_any (h.below hb) hL p np hp)
    have HH := Lib.hid (fun wx (hb : Below w.heap.size w wx) => height_any hL (128 - d c) c nc hc rfl wx (h.below hb))
    have hhc := hgt_le K (128 - d c) c
    have hlow := hL.low p
    have hbm := ho b rfl
    obtain ⟨nb, hb⟩ := Option.isSome_iff_exists.1 (hL.kin p b hbm).2
    obtain ⟨jb, hjb⟩ := List.mem_iff_getElem?.1 hbm
    have hbp : nb.parent = S.hd p := (hL.kid p jb b nb hjb hb).1
    have HB := Lib.hid (fun wx (hb' : Below w.heap.size w wx) => at_some (h.below hb') (S.hd b) (hd_ok hL hb).1 (hd_ix hL hb))
    have HB4 := Lib.hid (fun wx (hb' : Below w.heap.size w wx) => nd_cell (h.below hb') hb 4 (by omega))
    simp only [ndC, hbp] at HB4
    have hb0 : ¬ S.hd b = 0 := by have := (hd_ok hL hb).2; omega
    have hb1' : (S.hd b == 0) = false := by simpa using hb0
    rw [show hO S (some b) = S.hd b from rfl]
    clear h hL hp hc hmay ho hb hbp hjb hbm
    generalize hgt K (128 - d c) c = hc1 at *
    have d5 : decide ((128 : Int) < (d p : Int) + (hc1 : Int)) = true := by simp; omega
    go_enter Tryd.func25, Tryd.ntmps25
    go_wp2_with fail
    refine (HP.out _ (Below.refl _ _)).mono ?_
    rintro e w1 ⟨rfl, hb1⟩
    go_wp2_with fail
    refine (HC.out _ hb1).mono ?_
    rintro e w2 ⟨rfl, hb2⟩
    have hB2 := bthen hb1 hb2
    go_wp2_with fail
    refine (HB.out _ hB2).mono ?_
    rintro e w2' ⟨rfl, hb2'⟩
    have hB2' := bthen hB2 hb2'
    go_wp2_with fail
    refine (HM.out _ hB2').mono ?_
    rintro e w3 ⟨rfl, hb3⟩
    have hB3 := bthen hB2' hb3
    go_wp2_with fail
    refine (HB.out _ hB3).mono ?_
    rintro e w3' ⟨rfl, hb3'⟩
    have hB3' := bthen hB3 hb3'
    have cb4 := HB4.out _ hB3'
    simp only [List.getElem?_cons_succ, List.getElem?_cons_zero] at cb4
    go_wp2_with fail
    clear cb4
    refine (HD.out _ hB3').mono ?_
    rintro e w4 ⟨rfl, hb4⟩
    have hB4 := bthen hB3' hb4
    go_wp2_with fail
    refine (HH.out _ hB4).mono ?_
    rintro e w5 ⟨rfl, hb5⟩
    have hB5 := bthen hB4 hb5
    go_wp2_with fail
    go_ret2
    exact ⟨rfl, hB5⟩
end Go.Proofs.YtfdofkokiaapoaaDoor.W
end
section
/- clear on the end of a row that a slice owns; a slice cut short: as objects that lie apart. -/
namespace Go.Proofs.YtfdofkokiaapoaaDoor.W
open Go.RowKit
set_option linter.unusedVariables false

theorem All.setSls {B : Nat} {w0 : World} (l1 : List Ob) {l2 : List Ob} {g n cap size : Nat} {e : TypeId} : ∀ (vs : List Value) (o : Nat) {w : World} {xs : List Value}, All B w0 (l1 ++ sl e size (.slice (some ⟨g, 0, none⟩) n cap) n xs :: l2) w →
    All B w0 (l1 ++ sl e size (.slice (some ⟨g, 0, none⟩) n cap) n (setAll xs o vs) :: l2) (w.setCells g o vs)
  | [], _, _, _, h => h
  | v :: vs, o, _, _, h => All.setSls l1 vs (o + 1) (h.setSl l1 o v)
theorem setAll_len : ∀ (vs xs : List Value) (o : Nat), (setAll xs o vs).length = xs.length
  | [], _, _ => rfl
  | v :: vs, xs, o => by simp only [setAll]; rw [setAll_len]; simp
theorem setAll_take : ∀ (vs xs : List Value) (o : Nat), (setAll xs o vs).take o = xs.take o
  | [], _, _ => rfl
  | v :: vs, xs, o => by
    simp only [setAll]
    have h := setAll_take vs (xs.set o v) (o + 1)
    have h2 : ∀ (a b : List Value), a.take (o + 1) = b.take (o + 1) → a.take o = b.take o := fun a b h => by
      have := congrArg (List.take o) h
      simpa [List.take_take] using this
    rw [h2 _ _ h, List.take_set_of_le (Nat.le_refl _)]
theorem run_clear_all {P : Program} {t e ty : TypeId} {size : Nat} (ht : P.underlying t = some (.slice e)) {z : Value} (hv : ∀ w, (zeroValue e).run P w = .ok z w) (hz : z.cells.size = size) (hpos : 0 < size) (h1 : ∀ u ∈ z.cells.toList, u.oneCell' = true)
    {B : Nat} {w0 w : World} (l1 : List Ob) {l2 : List Ob} {g n cap i : Nat} {xs : List Value} (h : All B w0 (l1 ++ sl e size (.slice (some ⟨g, 0, none⟩) n cap) n xs :: l2) w) (hi : i < n) (c : Nat) :
    ∃ w' zs, (Builtin.clear_ #[t] ty #[.slice (some ⟨g, i * size, none⟩) (n - i) c]).run P w = .ok (.tuple #[]) w' ∧ zs.length = (n - i) * size ∧ All B w0 (l1 ++ sl e size (.slice (some ⟨g, 0, none⟩) n cap) n (setAll xs (i * size) zs) :: l2) w' := by
  have hown : Own w e size (.slice (some ⟨g, 0, none⟩) n cap) n xs := h.mid
  have hlen : xs.length = n * size := hown.1
  have hzl : (Builtin.zeroCells z.cells (n - i)).toList.length = (n - i) * size := by simp [Builtin.zeroCells, hz]
  have hmul : (n - i) * size + i * size = n * size := by rw [← Nat.add_mul]; congr 1; omega
  have hst := run_storeCells_cells (P := P) g (i * size) (Builtin.zeroCells z.cells (n - i)).toList 0 w
    (fun j hj => by
      rw [hown.cellAt (i * size + 0 + j) (by rw [hzl] at hj; omega), List.getElem?_eq_getElem (by rw [hzl] at hj; omega)]
      rfl)
    (fun j hj => hown.frozenAt _)
    (fun u hu => by
      rw [Builtin.zeroCells, hz] at hu
      simp only [Array.toList_map, Array.toList_range, List.mem_map, List.mem_range] at hu
      obtain ⟨k, hk, rfl⟩ := hu
      have hk' : k % size < z.cells.size := by rw [hz]; exact Nat.mod_lt _ hpos
      rw [getElem!_pos z.cells _ hk']
      exact h1 _ (by simp))
  rw [Nat.add_zero] at hst
  refine ⟨_, (Builtin.zeroCells z.cells (n - i)).toList, ?_, hzl, All.setSls l1 _ _ h⟩
  obtain ⟨m, hm⟩ : ∃ m, n - i = m + 1 := ⟨n - i - 1, by omega⟩
  rw [hm] at hst ⊢
  simp [Builtin.clear_, run_underlying ht, hv, hst]
theorem wpList_clear_all {P : Program} {t e : TypeId} {size : Nat} (ht : P.underlying t = some (.slice e)) {z : Value} (hv : ∀ w, (zeroValue e).run P w = .ok z w) (hz : z.cells.size = size) (hpos : 0 < size) (h1 : ∀ u ∈ z.cells.toList, u.oneCell' = true)
    {B : Nat} {w0 w : World} (l1 : List Ob) {l2 : List Ob} {g n cap i : Nat} {xs : List Value} (h : All B w0 (l1 ++ sl e size (.slice (some ⟨g, 0, none⟩) n cap) n xs :: l2) w) (hi : i < n)
    {ops : Array Oper} {rest : List Oper} {o : Oper} {a : Act} {Q : Exit → Act → World → Prop} (hgd : o.guard = none) (s : Operand) (ho : o.op = .call { callee := .builtin .clear, args := #[s], argTypes := #[t] }) {c : Nat} (hd : a.eval s = .slice (some ⟨g, i * size, none⟩) (n - i) c)
    (hc : ∀ w' zs, All B w0 (l1 ++ sl e size (.slice (some ⟨g, 0, none⟩) n cap) n (setAll xs (i * size) zs) :: l2) w' → wpList P ops Q rest (a.put o.dst (.tuple #[])) w') : wpList P ops Q (o :: rest) a w :=
  wpList_plain hgd fun K hK => by
    obtain ⟨w', zs, hr, _, h2⟩ := run_clear_all (P := P) (ty := o.type) ht hv hz hpos h1 l1 h hi c
    unfold Oper.wp execOp
    simp only [ho, resolve, invoke, builtin, Sem.run_bind, Sem.run_pure, Result.andThen_ok, List.map_toArray, List.map_cons, List.map_nil, hd, hr]
    exact hK _ _ (hc w' zs h2)
/-- a slice cut short -/
theorem own_trunc {w : World} {e : TypeId} {size g n cap i : Nat} {xs : List Value} (h : Own w e size (.slice (some ⟨g, 0, none⟩) n cap) n xs) (hi : i ≤ n) : Own w e size (.slice (some ⟨g, 0, none⟩) i cap) i (xs.take (i * size)) := by
  obtain ⟨h1, h2⟩ := h
  have hmul : i * size ≤ n * size := Nat.mul_le_mul_right _ hi
  refine ⟨by rw [List.length_take, h1]; exact Nat.min_eq_left hmul, ?_⟩
  rcases h2 with ⟨h', _⟩ | ⟨g', cap', cur, h', hb, hg, hc, hm, hs, ht⟩
  · simp at h'
  · simp only [Value.slice.injEq, Option.some.injEq, Addr.mk.injEq, and_true, true_and] at h'
    obtain ⟨rfl, rfl⟩ := h'
    refine .inr ⟨g, cap, cur, rfl, hb, hg, by omega, hm, hs, ?_⟩
    rw [← ht, List.take_take, Nat.min_eq_left hmul]
theorem All.trunc {B : Nat} {w0 w : World} (l1 : List Ob) {l2 : List Ob} {g n cap size i : Nat} {e : TypeId} {xs : List Value} (h : All B w0 (l1 ++ sl e size (.slice (some ⟨g, 0, none⟩) n cap) n xs :: l2) w) (hi : i ≤ n) :
    All B w0 (l1 ++ sl e size (.slice (some ⟨g, 0, none⟩) i cap) i (xs.take (i * size)) :: l2) w :=
  h.step l1 (o' := sl e size (.slice (some ⟨g, 0, none⟩) i cap) i (xs.take (i * size))) (own_trunc h.mid hi) (Chg.refl _ _) (fun k hk => .inl hk)
theorem rows_take {α : Type} {enc : α → List Value} {m : Nat} (he : ∀ v, (enc v).length = m) (l : List α) (i : Nat) : (rows enc l).take (i * m) = rows enc (l.take i) := by
  induction l generalizing i with
  | nil => simp [rows]
  | cons x l ih =>
    cases i with
    | zero => simp [rows]
    | succ i =>
      simp only [rows, List.take_succ_cons]
      rw [Nat.succ_mul, Nat.add_comm, ← he x, List.take_length_add_append, he, ih]
end Go.Proofs.YtfdofkokiaapoaaDoor.W
end
