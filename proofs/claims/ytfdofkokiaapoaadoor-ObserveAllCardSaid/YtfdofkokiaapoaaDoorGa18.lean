/- Texts joined: ZoC ZoD ZoL. -/
import Derived.Test.YtfdofkokiaapoaaDoorGa17
section
/- The contract of Observe. -/
namespace Go.Proofs.YtfdofkokiaapoaaDoor.W.Z
open Go.RowKit
set_option linter.unusedVariables false

theorem placeOf_lo (l : List Sz) (x : Int) : -1 ≤ placeOf l x := by unfold placeOf; split <;> omega
theorem stL_split (g : Nat) (zv : Value) (nx : Int) (z1 : List Zv) (z : Zv) (z2 : List Zv) (l : List Ob) :
    stL g zv nx (z1 ++ z :: z2) ++ l = [bk g [.slice none 0 0, zv, .int .i64 nx] 33, sl 101 4 zv (z1 ++ z :: z2).length (rows encS (z1 ++ z :: z2))] ++ stObs z1 ++ (zl z.2.1 z.1.sz :: zl z.2.2 z.1.en :: (stObs z2 ++ l)) := by
  unfold stL
  simp only [List.cons_append, List.nil_append]
  rw [stObs_split]

/-- a field of an observer written: the sizes -/
theorem st_set2 {B : Nat} {w0 w : World} {g zg zc N : Nat} {nx : Int} {z1 z2 : List Zv} {z z' : Zr} {a b a' : Value} {l : List Ob}
    (h : All B w0 ([bk g [.slice none 0 0, .slice (some ⟨zg, 0, none⟩) N zc, .int .i64 nx] 33, sl 101 4 (.slice (some ⟨zg, 0, none⟩) N zc) N (rows encS (z1 ++ (z, a, b) :: z2))] ++ stObs z1 ++ (zl a' z'.sz :: zl b z'.en :: (stObs z2 ++ l))) w)
    (hN : (z1 ++ (z, a, b) :: z2).length = N) (h1 : z'.id = z.id) (h2 : z'.cb = z.cb) : All B w0 (stL g (.slice (some ⟨zg, 0, none⟩) N zc) nx (z1 ++ (z', a', b) :: z2) ++ l) (w.setCell ⟨zg, z1.length * 4 + 2, none⟩ a') := by
  rw [stL_split]
  have hr := rows_field (enc := encS) encS_len (z1 ++ (z, a, b) :: z2) z1.length 2 _ (z', a', b) a' (get_mid _ _ _) (by decide) (by simp [encS, h1, h2])
  rw [set_mid] at hr
  have hN' : (z1 ++ (z', a', b) :: z2).length = N := by rw [← hN]; simp
  rw [hr, hN']
  exact h.setSl [_] (z1.length * 4 + 2) a'
/-- a field of an observer written: the entries -/
theorem st_set3 {B : Nat} {w0 w : World} {g zg zc N : Nat} {nx : Int} {z1 z2 : List Zv} {z z' : Zr} {a b b' : Value} {l : List Ob}
    (h : All B w0 ([bk g [.slice none 0 0, .slice (some ⟨zg, 0, none⟩) N zc, .int .i64 nx] 33, sl 101 4 (.slice (some ⟨zg, 0, none⟩) N zc) N (rows encS (z1 ++ (z, a, b) :: z2))] ++ stObs z1 ++ (zl a z'.sz :: zl b' z'.en :: (stObs z2 ++ l))) w)
    (hN : (z1 ++ (z, a, b) :: z2).length = N) (h1 : z'.id = z.id) (h2 : z'.cb = z.cb) : All B w0 (stL g (.slice (some ⟨zg, 0, none⟩) N zc) nx (z1 ++ (z', a, b') :: z2) ++ l) (w.setCell ⟨zg, z1.length * 4 + 3, none⟩ b') := by
  rw [stL_split]
  have hr := rows_field (enc := encS) encS_len (z1 ++ (z, a, b) :: z2) z1.length 3 _ (z', a, b') b' (get_mid _ _ _) (by decide) (by simp [encS, h1, h2])
  rw [set_mid] at hr
  have hN' : (z1 ++ (z', a, b') :: z2).length = N := by rw [← hN]; simp
  rw [hr, hN']
  exact h.setSl [_] (z1.length * 4 + 3) b'
/-- the cells of one observer -/
theorem st_cells {B : Nat} {w0 w : World} {g zg zc : Nat} {nx : Int} {z1 z2 : List Zv} {z : Zr} {a b : Value} {l : List Ob} (h : All B w0 (stL g (.slice (some ⟨zg, 0, none⟩) (z1 ++ (z, a, b) :: z2).length zc) nx (z1 ++ (z, a, b) :: z2) ++ l) w) :
    (w.cell? ⟨zg, z1.length * 4, none⟩ = some (.int .i64 z.id) ∧ w.cell? ⟨zg, z1.length * 4 + 1, none⟩ = some (.int .i64 z.cb) ∧ w.cell? ⟨zg, z1.length * 4 + 2, none⟩ = some a ∧ w.cell? ⟨zg, z1.length * 4 + 3, none⟩ = some b) ∧
    (∀ j, w.frozen? ⟨zg, j, none⟩ = false) ∧ zg < w.heap.size ∧ w.cell? ⟨g, 0, none⟩ = some (.slice none 0 0) ∧ w.cell? ⟨g, 1, none⟩ = some (.slice (some ⟨zg, 0, none⟩) (z1 ++ (z, a, b) :: z2).length zc) ∧ Own w 67 3 a z.sz.length (rows encZ z.sz) ∧ Own w 67 3 b z.en.length (rows encZ z.en) := by
  have hb : Blk _ _ _ _ := h.head
  have hr : Own _ _ _ _ _ _ := h.tail.head
  have c0 := hb.cell 0
  have c1 := hb.cell 1
  simp only [List.getElem?_cons_zero, List.getElem?_cons_succ] at c0 c1
  have hlt : z1.length * 4 + 4 ≤ (z1 ++ (z, a, b) :: z2).length * 4 := by simp; omega
  have r0 := rows_at (enc := encS) encS_len _ z1.length _ (get_mid z1 (z, a, b) z2) 0 (by decide)
  have r1 := rows_at (enc := encS) encS_len _ z1.length _ (get_mid z1 (z, a, b) z2) 1 (by decide)
  have r2 := rows_at (enc := encS) encS_len _ z1.length _ (get_mid z1 (z, a, b) z2) 2 (by decide)
  have r3 := rows_at (enc := encS) encS_len _ z1.length _ (get_mid z1 (z, a, b) z2) 3 (by decide)
  have q0 := hr.cellAt (z1.length * 4 + 0) (by omega)
  have q1 := hr.cellAt (z1.length * 4 + 1) (by omega)
  have q2 := hr.cellAt (z1.length * 4 + 2) (by omega)
  have q3 := hr.cellAt (z1.length * 4 + 3) (by omega)
  rw [r0] at q0
  rw [r1] at q1
  rw [r2] at q2
  rw [r3] at q3
  simp only [encS, List.getElem?_cons_zero, List.getElem?_cons_succ] at q0 q1 q2 q3
  have hA : Own _ _ _ _ _ _ := h.P (zl a z.sz) (by rw [stL_split]; simp)
  have hB' : Own _ _ _ _ _ _ := h.P (zl b z.en) (by rw [stL_split]; simp)
  exact ⟨⟨q0, q1, q2, q3⟩, fun j => hr.frozenAt j, own_lt hr (k := zg) rfl, c0, c1, hA, hB'⟩

/-- what a node is added to -/
def Zr.watch (z : Zr) (x : Int) : Zr := { z with sz := z.sz ++ [(x, -1, -1)] }

set_option maxRecDepth 100000 in
set_option maxHeartbeats 1000000 in
theorem observe_new {B : Nat} {w0 w : World} {g zg zc : Nat} {nx : Int} {z1 z2 : List Zv} {z : Zr} {a b : Value} {l : List Ob} (h : All B w0 (stL g (.slice (some ⟨zg, 0, none⟩) (z1 ++ (z, a, b) :: z2).length zc) nx (z1 ++ (z, a, b) :: z2) ++ l) w)
    (hn : ∀ y ∈ z1, y.1.id ≠ z.id) (hl : (z1 ++ (z, a, b) :: z2).length ≤ 1000000) (x : Int) (hs : z.sz.length ≤ 100000) (hx : placeOf z.sz x = -1) :
    Calls Tryd.prog 20 #[.pointer (some ⟨g, 0, none⟩), .int .i64 z.id, .int .i64 x] w fun e w' => ∃ a', e = .returned (.int .i64 0) ∧ All B w0 (stL g (.slice (some ⟨zg, 0, none⟩) (z1 ++ (z, a, b) :: z2).length zc) nx (z1 ++ (z.watch x, a', b) :: z2) ++ l) w' := by
  have HSz := Lib.hid (sizer_at (z := (z, a, b)) h hn hl)
  rw [stL_split] at h
  have hz : Own _ _ _ _ _ _ := h.P (zl a z.sz) (by simp)
  have hr : Own _ _ _ _ _ _ := h.tail.head
  obtain ⟨aa, ac, rfl⟩ := own_shape hz
  have r2 := rows_at (enc := encS) encS_len _ z1.length (z, _, b) (get_mid z1 (z, (Value.slice aa z.sz.length ac), b) z2) 2 (by decide)
  have q2 := hr.cellAt (z1.length * 4 + 2) (by simp; omega)
  rw [r2] at q2
  simp only [encS, List.getElem?_cons_zero, List.getElem?_cons_succ] at q2
  have qf := hr.frozenAt (z1.length * 4 + 2)
  have hzlt := own_lt hr (k := zg) rfl
  have P := place_any x hz (by omega)
  rw [hx] at P
  have HP := Lib.hid P
  have H := Lib.hid h
  clear h hz P hn hx hr
  generalize hk : z1.length = k at *
  have HK := Lib.hid hk
  clear hk
  generalize hN : (z1 ++ (z, Value.slice aa z.sz.length ac, b) :: z2).length = N at *
  have HN := Lib.hid hN
  clear hN
  go_enter Tryd.func20, Tryd.ntmps20
  go_wp2_with fail
  refine HSz.out.mono ?_
  rintro e w1 ⟨rfl, rfl⟩
  go_wp2_with fail
  refine HP.out.mono ?_
  rintro e w2 ⟨rfl, hb2⟩
  obtain ⟨hc2, hf2⟩ := bcell hb2
  have hA2 := H.out.still hb2
  have HA2 := Lib.hid (hA2.alloc (.cells #[.int .i64 x, .int .i64 (-1), .int .i64 (-1)] 67))
  have R2 := Lib.hid r2
  clear r2 qf hA2
  go_wp2_with (at_builtin; refine wpList_append_all etZ ([_, _] ++ stObs z1) HA2.out (own_at (n := 1) (size := 3) (Blk.new w2 [.int .i64 x, .int .i64 (-1), .int .i64 (-1)] 67) rfl (by omega)) (by intro u hu; simp at hu; rcases hu with rfl | rfl | rfl <;> rfl) (by omega) (by omega) rfl _ _ rfl rfl rfl ?_; intro v' w3 hA3; have ho : Own _ _ _ _ _ _ := hA3.P (sl 67 3 v' (z.sz.length + 1) (rows encZ z.sz ++ [.int .i64 x, .int .i64 (-1), .int .i64 (-1)])) (by simp); obtain ⟨va, vc, rfl⟩ := own_shape ho; have hr3 : Own _ _ _ _ _ _ := hA3.tail.head; have q3 := hr3.cellAt (k * 4 + 2) (by have := HN.out; have := HK.out; simp at *; omega); rw [R2.out] at q3; simp only [encS, List.getElem?_cons_zero, List.getElem?_cons_succ] at q3; have qf3 := hr3.frozenAt (k * 4 + 2); have HB := Lib.hid hA3; clear hA3 ho hr3)
  go_wp2_with fail
  go_ret
  have hk := HK.out
  subst hk
  have e1 : rows encZ (z.watch x).sz = rows encZ z.sz ++ [.int .i64 x, .int .i64 (-1), .int .i64 (-1)] := rows_snoc _ _
  have e2 : (z.watch x).sz.length = z.sz.length + 1 := by simp [Zr.watch]
  refine ⟨.slice va (z.sz.length + 1) vc, rfl, st_set2 (z' := z.watch x) ?_ HN.out rfl rfl⟩
  show All B w0 (_ ++ _ ++ sl _ _ _ (z.watch x).sz.length (rows encZ (z.watch x).sz) :: _) w3
  rw [e1, e2]
  exact HB.out

set_option maxRecDepth 100000 in
theorem observe_twice {B : Nat} {w0 w : World} {g zg zc : Nat} {nx : Int} {z1 z2 : List Zv} {z : Zr} {a b : Value} {l : List Ob} (h : All B w0 (stL g (.slice (some ⟨zg, 0, none⟩) (z1 ++ (z, a, b) :: z2).length zc) nx (z1 ++ (z, a, b) :: z2) ++ l) w)
    (hn : ∀ y ∈ z1, y.1.id ≠ z.id) (hl : (z1 ++ (z, a, b) :: z2).length ≤ 1000000) (x : Int) (hs : z.sz.length ≤ 100000) (hx : 0 ≤ placeOf z.sz x) :
    Calls Tryd.prog 20 #[.pointer (some ⟨g, 0, none⟩), .int .i64 z.id, .int .i64 x] w fun e w' => e = .returned (.int .i64 9) ∧ Below w.heap.size w w' := by
  have HSz := Lib.hid (sizer_at (z := (z, a, b)) h hn hl)
  obtain ⟨⟨q0, q1, q2, q3⟩, qf, hzlt, c0, c1, hz, hz'⟩ := st_cells h
  obtain ⟨aa, ac, rfl⟩ := own_shape hz
  have HP := Lib.hid (place_any x hz (by omega))
  clear h hz hz' hn q0 q1 q3 qf c0 c1
  generalize hk : z1.length = k at *
  clear hk
  generalize hN : (z1 ++ (z, Value.slice aa z.sz.length ac, b) :: z2).length = N at *
  clear hN
  generalize placeOf z.sz x = p at *
  go_enter Tryd.func20, Tryd.ntmps20
  go_wp2_with fail
  refine HSz.out.mono ?_
  rintro e w1 ⟨rfl, rfl⟩
  go_wp2_with fail
  refine HP.out.mono ?_
  rintro e w2 ⟨rfl, hb2⟩
  go_wp2_with fail
  go_ret
  exact ⟨rfl, hb2⟩

set_option maxRecDepth 100000 in
theorem observe_none {B : Nat} {w0 w : World} {g : Nat} {zv : Value} {nx : Int} {zs : List Zv} {l : List Ob} (h : All B w0 (stL g zv nx zs ++ l) w) (id x : Int) (hn : ∀ y ∈ zs, y.1.id ≠ id) (hl : zs.length ≤ 1000000) :
    Calls Tryd.prog 20 #[.pointer (some ⟨g, 0, none⟩), .int .i64 id, .int .i64 x] w fun e w' => e = .returned (.int .i64 6) ∧ w = w' := by
  have HSz := Lib.hid (sizer_no h id hn hl)
  clear h hn
  go_enter Tryd.func20, Tryd.ntmps20
  go_wp2_with fail
  refine HSz.out.mono ?_
  rintro e w1 ⟨rfl, rfl⟩
  go_wp2_with fail
  go_ret
  exact ⟨rfl, rfl⟩
end Go.Proofs.YtfdofkokiaapoaaDoor.W.Z
end
section
/- The contracts of next, observer, Pending, Deliver. -/
namespace Go.Proofs.YtfdofkokiaapoaaDoor.W.Z
open Go.RowKit
set_option linter.unusedVariables false

/-- a State without observers of mutations has none -/
theorem observer_no {B : Nat} {w0 w : World} {g : Nat} {zv : Value} {nx : Int} {zs : List Zv} {l : List Ob} (h : All B w0 (stL g zv nx zs ++ l) w) (id : Int) :
    Calls Tryd.prog 26 #[.pointer (some ⟨g, 0, none⟩), .int .i64 id] w fun e w' => e = .returned (.pointer none) ∧ w = w' := by
  have hb : Blk _ _ _ _ := h.head
  have c0 := hb.cell 0
  simp only [List.getElem?_cons_zero] at c0
  clear hb h
  go_enter Tryd.func26, Tryd.ntmps26
  go_wp2_with fail
  go_loop [11] (fun iv => iv = .int .i64 0) (fun iv => 0)
  case atStart => rfl
  case round =>
    subst hrel
    go_wp2_with fail
    go_ret
    exact ⟨rfl, rfl⟩

/-- who is told next -/
def nextStep (id : Int) (z : Zr) : Int := if 0 < z.en.length ∧ (id = 0 ∨ z.id < id) then z.id else id
def nextOf (zs : List Zv) : Int := zs.foldl (fun id z => nextStep id z.1) 0
def NxR (w : World) (zs : List Zv) (iv kv : Value) (wr : World) : Prop := ∃ k : Nat, k ≤ zs.length ∧ kv = .int .i64 (k : Int) ∧ iv = .int .i64 (nextOf (zs.take k)) ∧ Below w.heap.size w wr
theorem nextOf_succ (zs : List Zv) (k : Nat) (z : Zv) (h : zs[k]? = some z) : nextOf (zs.take (k + 1)) = nextStep (nextOf (zs.take k)) z.1 := by
  unfold nextOf
  rw [List.take_add_one, h]
  simp [List.foldl_append]
theorem stObs_mem {zs : List Zv} {z : Zv} (h : z ∈ zs) : zl z.2.1 z.1.sz ∈ stObs zs ∧ zl z.2.2 z.1.en ∈ stObs zs := by
  unfold stObs
  constructor <;> (rw [List.mem_flatMap]; exact ⟨z, h, by simp⟩)

set_option maxRecDepth 100000 in
set_option maxHeartbeats 1000000 in
theorem next_any {B : Nat} {w0 w : World} {g : Nat} {zv : Value} {nx : Int} {zs : List Zv} {l : List Ob} (h : All B w0 (stL g zv nx zs ++ l) w) (hl : zs.length ≤ 1000000) (hz : ∀ z ∈ zs, z.1.en.length ≤ 1000000) :
    Calls Tryd.prog 39 #[.pointer (some ⟨g, 0, none⟩)] w fun e w' => e = .returned (.int .i64 (nextOf zs)) ∧ Below w.heap.size w w' := by
  have hb : Blk _ _ _ _ := h.head
  have hs : Own _ _ _ _ _ _ := h.tail.head
  obtain ⟨za, zc, rfl⟩ := own_shape hs
  have c0 := hb.cell 0
  have c1 := hb.cell 1
  have hlt := hb.lt
  simp only [List.getElem?_cons_zero, List.getElem?_cons_succ] at c0 c1
  have HS := Lib.hid hs
  have HZ := Lib.hid hz
  have hen : ∀ z ∈ zs, Own w 67 3 z.2.1 z.1.sz.length (rows encZ z.1.sz) ∧ Own w 67 3 z.2.2 z.1.en.length (rows encZ z.1.en) := fun z hz => ⟨h.P (zl z.2.1 z.1.sz) (by unfold stL; simp [(stObs_mem hz).1]), h.P (zl z.2.2 z.1.en) (by unfold stL; simp [(stObs_mem hz).2])⟩
  have HE := Lib.hid hen
  clear hb hs h hz hen
  go_enter Tryd.func39, Tryd.ntmps39
  go_wp2_with fail
  go_loop [3, 13] (fun mv iv => mv = .int .i64 0 ∧ iv = .int .i64 0) (fun _ iv => 0)
  case atStart => exact ⟨rfl, rfl⟩
  case round =>
    obtain ⟨rfl, rfl⟩ := hrel
    go_wp2_with fail
    go_loopw [3, 39] (fun iv kv wr => NxR w zs iv kv wr) (fun _ kv _ => zs.length - (intOf kv).toNat)
    case atStart => exact ⟨0, Nat.zero_le _, rfl, rfl, Below.refl _ _⟩
    case round =>
      obtain ⟨k, hk, rfl, rfl, hB⟩ := hrel
      by_cases hkl : k < zs.length
      · obtain ⟨z, hy⟩ : ∃ z, zs[k]? = some z := ⟨_, List.getElem?_eq_getElem hkl⟩
        have hO := own_below HS.out hB
        obtain ⟨vg, vc', he, _⟩ := own_some hO (by omega)
        simp only [Value.slice.injEq] at he
        obtain ⟨rfl, _, rfl⟩ := he
        have q0 := hO.cellAt (k * 4) (by omega)
        have q1 := hO.cellAt (k * 4 + 1) (by omega)
        have q2 := hO.cellAt (k * 4 + 2) (by omega)
        have q3 := hO.cellAt (k * 4 + 3) (by omega)
        have r0 := rows_at (enc := encS) encS_len zs k z hy 0 (by decide)
        have r1 := rows_at (enc := encS) encS_len zs k z hy 1 (by decide)
        have r2 := rows_at (enc := encS) encS_len zs k z hy 2 (by decide)
        have r3 := rows_at (enc := encS) encS_len zs k z hy 3 (by decide)
        rw [show k * 4 + 0 = k * 4 from rfl] at r0
        rw [r0] at q0
        rw [r1] at q1
        rw [r2] at q2
        rw [r3] at q3
        simp only [encS, List.getElem?_cons_zero, List.getElem?_cons_succ] at q0 q1 q2 q3
        have HN := Lib.hid (nextOf_succ zs k z hy)
        obtain ⟨⟨id, cb, sz, en⟩, a, b⟩ := z
        have hen := HE.out _ (List.mem_of_getElem? hy)
        have hle := HZ.out _ (List.mem_of_getElem? hy)
        simp only at q0 q1 q2 q3 hle hen
        obtain ⟨hen1, hen2⟩ := hen
        obtain ⟨aa, ac, rfl⟩ := own_shape hen1
        obtain ⟨ba, bc, rfl⟩ := own_shape hen2
        clear r0 r1 r2 r3 hO hy hen1 hen2
        generalize nextOf (zs.take k) = m at *
        by_cases hx : 0 < en.length ∧ (m = 0 ∨ id < m)
        · obtain ⟨h1, h2⟩ := hx
          have HX : Hid (nextOf (zs.take (k + 1)) = id) := Lib.hid (HN.out.trans (show nextStep m _ = id from if_pos ⟨h1, h2⟩))
          by_cases hm : m = 0
          · subst hm
            clear h2
            go_wp2_with fail
            go_roundw
            case rel => exact ⟨k + 1, by omega, by go_num, by rw [HX.out], (hB.alloc hB.size _)⟩
            case measure => simp [intOf]; omega
          · have e1 : (m == 0) = false := by simpa using hm
            have h3 : id < m := by omega
            clear h2 hm
            go_wp2_with fail
            go_roundw
            case rel => exact ⟨k + 1, by omega, by go_num, by rw [HX.out], (hB.alloc hB.size _)⟩
            case measure => simp [intOf]; omega
        · have HX : Hid (nextOf (zs.take (k + 1)) = m) := Lib.hid (HN.out.trans (show nextStep m _ = m from if_neg hx))
          by_cases h1 : 0 < en.length
          · have e1 : (m == 0) = false := by simp; omega
            have h3 : ¬ id < m := by omega
            clear hx
            go_wp2_with fail
            go_roundw
            case rel => exact ⟨k + 1, by omega, by go_num, by rw [HX.out], (hB.alloc hB.size _)⟩
            case measure => simp [intOf]; omega
          · clear hx
            have h2 : en.length = 0 := by omega
            go_wp2_with fail
            go_roundw
            case rel => exact ⟨k + 1, by omega, by go_num, by rw [HX.out], (hB.alloc hB.size _)⟩
            case measure => simp [intOf]; omega
      · have hk' : k = zs.length := by omega
        have HT : Hid (nextOf (zs.take k) = nextOf zs) := Lib.hid (by rw [hk', List.take_length])
        clear hk'
        go_wp2_with fail
        go_ret
        exact ⟨by rw [HT.out]; rfl, hB⟩

theorem pending_any {B : Nat} {w0 w : World} {g : Nat} {zv : Value} {nx : Int} {zs : List Zv} {l : List Ob} (h : All B w0 (stL g zv nx zs ++ l) w) (hl : zs.length ≤ 1000000) (hz : ∀ z ∈ zs, z.1.en.length ≤ 1000000) :
    Calls Tryd.prog 17 #[.pointer (some ⟨g, 0, none⟩)] w fun e w' => e = .returned (.bool (nextOf zs != 0)) ∧ Below w.heap.size w w' := by
  have HN := Lib.hid (next_any h hl hz)
  clear h hl hz
  go_enter Tryd.func17, Tryd.ntmps17
  go_wp2_with fail
  refine HN.out.mono ?_
  rintro e w2 ⟨rfl, hb2⟩
  go_wp2_with fail
  go_ret
  exact ⟨rfl, hb2⟩

theorem perm_dl (X Y Z : Ob) (P Q l : List Ob) : (X :: (P ++ (Z :: Y :: (Q ++ l)))).Perm (P ++ (Z :: X :: (Q ++ (Y :: l)))) :=
  List.perm_middle.symm.trans (List.Perm.append_left P ((List.Perm.swap Z X _).trans (.cons Z (.cons X List.perm_middle.symm))))
theorem perm_rr (Y Z : Ob) (P l : List Ob) : (P ++ (Y :: Z :: l)).Perm ((P ++ [Y]) ++ Z :: l) := by simp
theorem sub_rr (Y Z : Ob) (P l : List Ob) : (P ++ (Y :: l)).Sublist ((P ++ [Y]) ++ Z :: l) := by simp
/-- Deliver, where the first observer with something to be told is known -/
theorem stL_sub {g : Nat} {nx : Int} {z1 z2 : List Zv} {z z' : Zr} {a b : Value} {l : List Ob} {B : Nat} {w0 w : World} {zg zc N : Nat}
    (h : All B w0 (stL g (.slice (some ⟨zg, 0, none⟩) N zc) nx (z1 ++ (z, a, b) :: z2) ++ l) w) (hN : (z1 ++ (z, a, b) :: z2).length = N) (h1 : z'.id = z.id) (h2 : z'.cb = z.cb) (h3 : z'.sz = z.sz) (h4 : z'.en = []) :
    All B w0 (stL g (.slice (some ⟨zg, 0, none⟩) N zc) nx (z1 ++ (z', a, .slice none 0 0) :: z2) ++ (zl b z.en :: l)) (w.setCell ⟨zg, z1.length * 4 + 3, none⟩ (.slice none 0 0)) := by
  rw [stL_split] at h
  have h5 := h.nil 67 3
  have h6 : All B w0 ([bk g [.slice none 0 0, .slice (some ⟨zg, 0, none⟩) N zc, .int .i64 nx] 33, sl 101 4 (.slice (some ⟨zg, 0, none⟩) N zc) N (rows encS (z1 ++ (z, a, b) :: z2))] ++ stObs z1 ++ (zl a z'.sz :: zl (.slice none 0 0) z'.en :: (stObs z2 ++ (zl b z.en :: l)))) w := by
    rw [hN] at h5
    rw [h3, h4]
    exact h5.perm (perm_dl _ _ _ _ _ _)
  exact st_set3 h6 hN h1 h2

set_option maxRecDepth 100000 in
set_option maxHeartbeats 1000000 in
theorem deliver_some {B : Nat} {w0 w : World} {g zg zc : Nat} {nx : Int} {z1 z2 : List Zv} {z : Zr} {a b : Value} {l : List Ob} (h : All B w0 (stL g (.slice (some ⟨zg, 0, none⟩) (z1 ++ (z, a, b) :: z2).length zc) nx (z1 ++ (z, a, b) :: z2) ++ l) w)
    (hn : ∀ y ∈ z1, y.1.id ≠ z.id) (hl : (z1 ++ (z, a, b) :: z2).length ≤ 1000000) (hz : ∀ y ∈ z1 ++ (z, a, b) :: z2, y.1.en.length ≤ 1000000) (hx : nextOf (z1 ++ (z, a, b) :: z2) = z.id) :
    Calls Tryd.prog 22 #[.pointer (some ⟨g, 0, none⟩)] w fun e w' => e = .returned (.tuple #[.agg #[.int .i64 z.id, .int .i64 z.cb, .slice none 0 0, b], .bool true]) ∧ All B w0 (stL g (.slice (some ⟨zg, 0, none⟩) (z1 ++ (z, a, b) :: z2).length zc) nx (z1 ++ ({ z with en := [] }, a, .slice none 0 0) :: z2) ++ (zl b z.en :: l)) w' := by
  have hA := (h.newBkA w.heap.size rfl [.int .i64 0, .int .i64 0, .slice none 0 0, .slice none 0 0] 70).perm List.perm_middle.symm
  obtain ⟨R, hR⟩ : ∃ R, w.heap.size = R := ⟨_, rfl⟩
  have hz2 : Own _ _ _ _ _ _ := (st_cells h).2.2.2.2.2.2
  obtain ⟨ba, bc, rfl⟩ := own_shape hz2
  clear hz2
  have N1 := next_any hA hl hz
  rw [hx] at N1
  have HN := Lib.hid N1
  rw [hR] at hA
  have H := Lib.hid hA
  have HNi := Lib.hid hn
  have HL := Lib.hid hl
  clear h N1 hn hx hz hA
  generalize hk : z1.length = k at *
  have HK := Lib.hid hk
  clear hk
  generalize hN : (z1 ++ (z, a, Value.slice ba z.en.length bc) :: z2).length = N at *
  have HNN := Lib.hid hN
  clear hN
  go_enter Tryd.func22, Tryd.ntmps22
  go_wp2_with fail
  refine HN.out.mono ?_
  rintro e w2 ⟨rfl, hb2⟩
  have hA2 := H.out.still hb2
  have HO := Lib.hid (observer_no hA2 z.id)
  have hN := HNN.out
  subst hN
  have HSz := Lib.hid (sizer_at (z := (z, a, .slice ba z.en.length bc)) hA2 HNi.out HL.out)
  rw [HK.out] at HSz
  obtain ⟨⟨q0, q1, q2, q3⟩, qf, hzlt, c0, c1, hz1, hz2⟩ := st_cells hA2
  rw [HK.out] at q0 q1 q2 q3
  have hRb : Blk _ _ _ _ := hA2.P (bk R [.int .i64 0, .int .i64 0, .slice none 0 0, .slice none 0 0] 70) (by simp)
  have r0 := hRb.cell 0
  have r1 := hRb.cell 1
  have r2 := hRb.cell 2
  have r3 := hRb.cell 3
  have rf := hRb.free
  have rl := hRb.lt
  simp only [List.getElem?_cons_zero, List.getElem?_cons_succ] at r0 r1 r2 r3
  have hne : R ≠ zg := (All.sl_ne_bk hA2.tail (cs := [.int .i64 0, .int .i64 0, .slice none 0 0, .slice none 0 0]) (t := 70) (by simp)).symm
  have hne' := hne.symm
  have HA := Lib.hid hA2
  clear c0 c1 hz1 hz2 hA2 hRb hR hb2 q0 q2
  generalize hN : (z1 ++ (z, a, Value.slice ba z.en.length bc) :: z2).length = N at *
  have HN2 := Lib.hid hN
  clear hN
  go_wp2_with fail
  refine HO.out.mono ?_
  rintro e w3 ⟨rfl, rfl⟩
  go_wp2_with fail
  refine HSz.out.mono ?_
  rintro e w3 ⟨rfl, rfl⟩
  go_wp2_with fail
  go_region
  have hA5 := ((((stL_sub (z' := { z with en := [] }) HA.out HN2.out rfl rfl rfl rfl).perm (perm_rr _ _ _ _)).setBk (stL _ _ _ _ ++ [_]) 0 (.int .i64 z.id)).setBk (stL _ _ _ _ ++ [_]) 1 (.int .i64 z.cb)).setBk (stL _ _ _ _ ++ [_]) 2 (.slice none 0 0)
  rw [HK.out] at hA5
  have HA5 := Lib.hid (hA5.setBk (stL _ _ _ _ ++ [_]) 3 (.slice ba z.en.length bc))
  clear hA5
  go_wp2_with fail
  refine bodyPost_ret (v := .tuple #[.agg #[.int .i64 z.id, .int .i64 z.cb, .slice none 0 0, .slice ba z.en.length bc], .bool true]) (by simp [results, Tryd.results22, go_sem, *]) rfl ⟨rfl, ?_⟩
  rw [HN2.out]
  exact ((HA5.out.alloc _).drew).sub (sub_rr _ _ _ _)

theorem deliver_none {B : Nat} {w0 w : World} {g : Nat} {zv : Value} {nx : Int} {zs : List Zv} {l : List Ob} (h : All B w0 (stL g zv nx zs ++ l) w)
    (hn : ∀ y ∈ zs, y.1.id ≠ 0) (hl : zs.length ≤ 1000000) (hz : ∀ y ∈ zs, y.1.en.length ≤ 1000000) (hx : nextOf zs = 0) :
    Calls Tryd.prog 22 #[.pointer (some ⟨g, 0, none⟩)] w fun e w' => e = .returned (.tuple #[.agg #[.int .i64 0, .int .i64 0, .slice none 0 0, .slice none 0 0], .bool false]) ∧ Below w.heap.size w w' := by
  have hA := (h.newBkA w.heap.size rfl [.int .i64 0, .int .i64 0, .slice none 0 0, .slice none 0 0] 70).perm List.perm_middle.symm
  have N1 := next_any hA hl hz
  rw [hx] at N1
  have HN := Lib.hid N1
  have HA := Lib.hid hA
  clear h N1 hx hz hA
  go_enter Tryd.func22, Tryd.ntmps22
  go_wp2_with fail
  refine HN.out.mono ?_
  rintro e w2 ⟨rfl, hb2⟩
  have hA2 := HA.out.still hb2
  have HO := Lib.hid (observer_no hA2 0)
  have HSz := Lib.hid (sizer_no hA2 0 hn hl)
  have hRb : Blk _ _ _ _ := hA2.P (bk w.heap.size [.int .i64 0, .int .i64 0, .slice none 0 0, .slice none 0 0] 70) (by simp)
  have r0 := hRb.cell 0
  have r1 := hRb.cell 1
  have r2 := hRb.cell 2
  have r3 := hRb.cell 3
  have rf := hRb.free
  have rl := hRb.lt
  simp only [List.getElem?_cons_zero, List.getElem?_cons_succ] at r0 r1 r2 r3
  have HB := Lib.hid (bthen ((Below.refl _ _).alloc (Nat.le_refl _) _) hb2)
  clear hA2 hRb hb2
  generalize hR : w.heap.size = R at *
  have HR := Lib.hid hR
  clear hR
  go_wp2_with fail
  refine HO.out.mono ?_
  rintro e w3 ⟨rfl, rfl⟩
  go_wp2_with fail
  refine HSz.out.mono ?_
  rintro e w3 ⟨rfl, rfl⟩
  go_wp2_with fail
  refine bodyPost_ret (v := .tuple #[.agg #[.int .i64 0, .int .i64 0, .slice none 0 0, .slice none 0 0], .bool false]) (by simp [results, Tryd.results22, go_sem, *]) rfl ⟨rfl, ?_⟩
  rw [HR.out]
  exact (((HB.out.setCell (Nat.le_refl _) _).setCell (Nat.le_refl _) _).setCell (Nat.le_refl _) _).setCell (Nat.le_refl _) _
end Go.Proofs.YtfdofkokiaapoaaDoor.W.Z
end
section
/- Sizes in plain Lean: what Measure does to an observer of sizes; why the same sizes are not reported again. No program in sight. -/
namespace Go.Proofs.YtfdofkokiaapoaaDoor.W.Z
set_option linter.unusedVariables false

/-- the size that a list gives to a node -/
def nowOf (L : List Sz) (x : Sz) : Sz := match L.find? (fun y => y.1 == x.1) with | some y => y | none => (x.1, 0, 0)
/-- an entry written -/
def putEn (en : List Sz) (y : Sz) : List Sz := match en.findIdx? (fun z => z.1 == y.1) with | some i => en.set i y | none => en ++ [y]
def stepE (L en : List Sz) (x : Sz) : List Sz := if nowOf L x = x then en else putEn en (nowOf L x)
def Nd (l : List Sz) : Prop := l.Pairwise fun a b => a.1 ≠ b.1

theorem nowOf_node (L : List Sz) (x : Sz) : (nowOf L x).1 = x.1 := by
  unfold nowOf
  split
  · rename_i y hy
    simpa using List.find?_some hy
  · rfl
theorem nowOf_congr (L : List Sz) {x y : Sz} (h : x.1 = y.1) : nowOf L x = nowOf L y := by
  unfold nowOf; rw [h]
theorem nowOf_idem (L : List Sz) (x : Sz) : nowOf L (nowOf L x) = nowOf L x := nowOf_congr L (nowOf_node L x)
theorem nowOf_nil (x : Sz) : nowOf [] x = (x.1, 0, 0) := rfl
theorem nowOf_nonneg {L : List Sz} (h : ∀ y ∈ L, 0 ≤ y.2.1 ∧ 0 ≤ y.2.2) (x : Sz) : 0 ≤ (nowOf L x).2.1 ∧ 0 ≤ (nowOf L x).2.2 := by
  unfold nowOf
  split
  · rename_i y hy
    exact h y (List.mem_of_find?_eq_some hy)
  · simp
/-- a place, and what stands there -/
theorem place_cases (L : List Sz) (x : Int) : (placeOf L x = -1 ∧ L.find? (fun y => y.1 == x) = none ∧ L.findIdx? (fun y => y.1 == x) = none) ∨
    ∃ (i : Nat) (y : Sz), placeOf L x = (i : Int) ∧ L[i]? = some y ∧ y.1 = x ∧ L.find? (fun y => y.1 == x) = some y ∧ L.findIdx? (fun y => y.1 == x) = some i := by
  cases h : L.findIdx? (fun y => y.1 == x) with
  | none =>
    left
    refine ⟨by unfold placeOf; rw [h], ?_, rfl⟩
    rw [List.find?_eq_none]
    rw [List.findIdx?_eq_none_iff] at h
    intro y hy
    have := h y hy
    simpa using this
  | some i =>
    right
    have h' := h
    rw [List.findIdx?_eq_some_iff_getElem] at h
    obtain ⟨hi, hy, hlt⟩ := h
    refine ⟨i, L[i], by unfold placeOf; rw [h'], List.getElem?_eq_getElem hi, by simpa using hy, ?_, rfl⟩
    rw [List.find?_eq_some_iff_getElem]
    exact ⟨by simpa using hy, i, hi, rfl, fun j hj => by have := hlt j hj; simpa using this⟩

theorem putEn_nd {en : List Sz} (y : Sz) (h : Nd en) : Nd (putEn en y) := by
  unfold putEn
  rcases place_cases en y.1 with ⟨_, _, hn⟩ | ⟨i, z, _, hz, hy, _, hs⟩
  · rw [hn]
    unfold Nd at *
    rw [List.pairwise_append]
    refine ⟨h, by simp, ?_⟩
    intro a ha b hb
    rw [List.findIdx?_eq_none_iff] at hn
    have := hn a ha
    simp at hb
    subst hb
    simpa using this
  · rw [hs]
    unfold Nd at *
    obtain ⟨hi, hz'⟩ := List.getElem?_eq_some_iff.1 hz
    have e : (en.set i y).map (·.1) = en.map (·.1) := by
      rw [List.map_set]
      apply List.ext_getElem?
      intro j
      rw [List.getElem?_set]
      split
      · rename_i e
        subst e
        simp only [List.length_map, hi, if_true, List.getElem?_map, hz, Option.map_some, hy]
      · rfl
    have h2 : (en.map (·.1)).Pairwise (· ≠ ·) := by rw [List.pairwise_map]; exact h
    rw [← e, List.pairwise_map] at h2
    exact h2
/-- what is among the entries once one is written -/
theorem putEn_mem {en : List Sz} {y e : Sz} (h : Nd en) (he : e ∈ putEn en y) : (e ∈ en ∧ e.1 ≠ y.1) ∨ e = y := by
  unfold putEn at he
  rcases place_cases en y.1 with ⟨_, _, hn⟩ | ⟨i, z, _, hz, hy, _, hs⟩
  · rw [hn] at he
    rw [List.findIdx?_eq_none_iff] at hn
    rcases List.mem_append.1 he with he | he
    · exact .inl ⟨he, by simpa using hn e he⟩
    · right; simpa using he
  · rw [hs] at he
    obtain ⟨j, hj⟩ := List.getElem?_of_mem he
    obtain ⟨hi, hz'⟩ := List.getElem?_eq_some_iff.1 hz
    rw [List.getElem?_set] at hj
    split at hj
    · rename_i e'
      right
      subst e'
      try rw [if_pos hi] at hj
      exact (Option.some.inj hj).symm
    · rename_i e'
      left
      obtain ⟨hjl, hj'⟩ := List.getElem?_eq_some_iff.1 hj
      refine ⟨List.mem_of_getElem? hj, ?_⟩
      unfold Nd at h
      rw [List.pairwise_iff_getElem] at h
      rw [← hy, ← hz', ← hj']
      rcases Nat.lt_or_gt_of_ne e' with h1 | h1
      · exact fun hh => h i j hi hjl h1 hh.symm
      · exact h j i hjl hi h1
theorem fold_nd {L : List Sz} : ∀ (xs : List Sz) {en : List Sz}, Nd en → Nd (xs.foldl (stepE L) en) := by
  intro xs
  induction xs with
  | nil => intro en h; exact h
  | cons x xs ih =>
    intro en h
    rw [List.foldl_cons]
    refine ih ?_
    unfold stepE
    split
    · exact h
    · exact putEn_nd _ h
theorem fold_mem {L : List Sz} : ∀ (xs : List Sz) {en : List Sz} {e : Sz}, Nd en → e ∈ xs.foldl (stepE L) en → (e ∈ en ∧ ∀ x ∈ xs, nowOf L x ≠ x → x.1 ≠ e.1) ∨ ∃ x ∈ xs, nowOf L x ≠ x ∧ e = nowOf L x := by
  intro xs
  induction xs with
  | nil => intro en e _ h; exact .inl ⟨h, by simp⟩
  | cons x xs ih =>
    intro en e h he
    rw [List.foldl_cons] at he
    have h' : Nd (stepE L en x) := by
      unfold stepE
      split
      · exact h
      · exact putEn_nd _ h
    rcases ih h' he with ⟨h1, h2⟩ | ⟨y, hy, h1, h2⟩
    · unfold stepE at h1
      split at h1
      · rename_i hx
        refine .inl ⟨h1, fun y hy hne => ?_⟩
        rcases List.mem_cons.1 hy with rfl | hy
        · exact absurd hx hne
        · exact h2 y hy hne
      · rename_i hx
        rcases putEn_mem h h1 with ⟨h3, h4⟩ | rfl
        · refine .inl ⟨h3, fun y hy hne => ?_⟩
          rcases List.mem_cons.1 hy with rfl | hy
          · rw [nowOf_node] at h4; exact fun e => h4 e.symm
          · exact h2 y hy hne
        · exact .inr ⟨x, by simp, hx, rfl⟩
    · exact .inr ⟨y, by simp [hy], h1, h2⟩
/-- where nothing has changed -/
theorem fold_same {L : List Sz} (en : List Sz) : ∀ xs : List Sz, (∀ x ∈ xs, nowOf L x = x) → xs.foldl (stepE L) en = en := by
  intro xs
  induction xs with
  | nil => intro _; rfl
  | cons x xs ih =>
    intro h
    rw [List.foldl_cons]
    have : stepE L en x = en := by unfold stepE; rw [if_pos (h x (by simp))]
    rw [this]
    exact ih fun y hy => h y (by simp [hy])
theorem putEn_new {en : List Sz} {y : Sz} (h : ∀ e ∈ en, e.1 ≠ y.1) : putEn en y = en ++ [y] := by
  unfold putEn
  have : en.findIdx? (fun z => z.1 == y.1) = none := by
    rw [List.findIdx?_eq_none_iff]
    intro e he
    simpa using h e he
  rw [this]
/-- where all have changed and none is noted yet -/
theorem fold_all {L : List Sz} : ∀ (xs en : List Sz), Nd xs → (∀ x ∈ xs, nowOf L x ≠ x) → (∀ x ∈ xs, ∀ e ∈ en, e.1 ≠ x.1) → xs.foldl (stepE L) en = en ++ xs.map (nowOf L) := by
  intro xs
  induction xs with
  | nil => intro en _ _ _; simp
  | cons x xs ih =>
    intro en hnd h1 h2
    unfold Nd at hnd
    rw [List.pairwise_cons] at hnd
    rw [List.foldl_cons]
    have : stepE L en x = en ++ [nowOf L x] := by
      unfold stepE
      rw [if_neg (h1 x (by simp))]
      exact putEn_new fun e he => by rw [nowOf_node]; exact h2 x (by simp) e he
    rw [this, ih (en ++ [nowOf L x]) hnd.2 (fun y hy => h1 y (by simp [hy])) ?_]
    · simp
    · intro y hy e he
      rcases List.mem_append.1 he with he | he
      · exact h2 y (by simp [hy]) e he
      · simp at he
        subst he
        rw [nowOf_node]
        exact hnd.1 y hy
theorem map_now_nd {L xs : List Sz} (h : Nd xs) : Nd (xs.map (nowOf L)) := by
  unfold Nd at *
  rw [List.pairwise_map]
  exact h.imp fun {a b} hab => by rw [nowOf_node, nowOf_node]; exact hab

/-- the sizes of nodes that are not displayed, displayed, and not displayed: all entries are 0, 0, of nodes that have been more -/
theorem steady_end {L s1 : List Sz} (hL : ∀ x ∈ s1, nowOf L x = x) : ∀ e ∈ s1.foldl (stepE []) ((s1.map (nowOf [])).foldl (stepE L) (s1.foldl (stepE []) [])), e.2.1 = 0 ∧ e.2.2 = 0 ∧ nowOf L e ≠ (e.1, 0, 0) := by
  have n3 : Nd (s1.foldl (stepE []) []) := fold_nd s1 (by simp [Nd])
  have n4 := fold_nd (L := L) (s1.map (nowOf [])) n3
  have g3 : ∀ e ∈ s1.foldl (stepE []) [], ∃ y ∈ s1, y.1 = e.1 ∧ y ≠ (y.1, 0, 0) := by
    intro e he
    rcases fold_mem s1 (by simp [Nd]) he with ⟨h, _⟩ | ⟨x, hx, h1, rfl⟩
    · simp at h
    · exact ⟨x, hx, (nowOf_node _ _).symm, fun h => h1 (by rw [nowOf_nil]; exact h.symm)⟩
  have g4 : ∀ e ∈ (s1.map (nowOf [])).foldl (stepE L) (s1.foldl (stepE []) []), ∃ y ∈ s1, y.1 = e.1 ∧ y ≠ (y.1, 0, 0) := by
    intro e he
    rcases fold_mem _ n3 he with ⟨h, _⟩ | ⟨x, hx, h1, rfl⟩
    · exact g3 e h
    · obtain ⟨y, hy, rfl⟩ := List.mem_map.1 hx
      refine ⟨y, hy, by rw [nowOf_node, nowOf_node], fun h => h1 ?_⟩
      have : nowOf L (nowOf [] y) = y := (nowOf_congr L (nowOf_node [] y)).trans (hL y hy)
      rw [this, nowOf_nil]
      exact h
  have key : ∀ y ∈ s1, y ≠ (y.1, 0, 0) → ∀ e : Sz, y.1 = e.1 → nowOf L e ≠ (e.1, 0, 0) := by
    intro y hy hne e he h
    apply hne
    rw [← nowOf_congr L he, hL y hy, ← he] at h
    exact h
  intro e he
  rcases fold_mem s1 n4 he with ⟨h, h2⟩ | ⟨x, hx, h1, rfl⟩
  · obtain ⟨y, hy, h3, h4⟩ := g4 e h
    exact absurd h3 (h2 y hy (by rw [nowOf_nil]; exact fun e => h4 e.symm))
  · rw [nowOf_nil] at *
    exact ⟨rfl, rfl, key x hx (fun h => h1 h.symm) _ rfl⟩
end Go.Proofs.YtfdofkokiaapoaaDoor.W.Z
end
