/- The contracts of next, observer, Pending, Deliver. -/
import Derived.Test.YtfdofkokiaapoaaObsC
namespace Go.Proofs.Ytfdofkokiaapoaa.W
open Go.RowKit
set_option linter.unusedVariables false

/-- a State without observers of mutations has none -/
theorem observer_no {B : Nat} {w0 w : World} {g : Nat} {zv : Value} {nx : Int} {zs : List Zv} {l : List Ob} (h : All B w0 (stL g zv nx zs ++ l) w) (id : Int) :
    Calls Try.prog 21 #[.pointer (some ⟨g, 0, none⟩), .int .i64 id] w fun e w' => e = .returned (.pointer none) ∧ w = w' := by
  have hb : Blk _ _ _ _ := h.head
  have c0 := hb.cell 0
  simp only [List.getElem?_cons_zero] at c0
  clear hb h
  go_enter Try.func21, Try.ntmps21
  go_wp2_with fail
  go_loop [11] (fun iv => iv = .int .i64 0) (fun iv => 0)
  case atStart => rfl
  case round =>
    subst hrel
    go_wp2_with fail
    go_ret
    exact ⟨rfl, rfl⟩

/-- who is told next -/
def nextStep (id : Int) (z : Zr) : Int := if 0 < z.en.length ∧ (id = 0 ∨ z.id < id) then z.id else id
def nextOf (zs : List Zv) : Int := zs.foldl (fun id z => nextStep id z.1) 0
def NxR (w : World) (zs : List Zv) (iv kv : Value) (wr : World) : Prop := ∃ k : Nat, k ≤ zs.length ∧ kv = .int .i64 (k : Int) ∧ iv = .int .i64 (nextOf (zs.take k)) ∧ Below w.heap.size w wr
theorem nextOf_succ (zs : List Zv) (k : Nat) (z : Zv) (h : zs[k]? = some z) : nextOf (zs.take (k + 1)) = nextStep (nextOf (zs.take k)) z.1 := by
  unfold nextOf
  rw [List.take_add_one, h]
  simp [List.foldl_append]
theorem stObs_mem {zs : List Zv} {z : Zv} (h : z ∈ zs) : zl z.2.1 z.1.sz ∈ stObs zs ∧ zl z.2.2 z.1.en ∈ stObs zs := by
  unfold stObs
  constructor <;> (rw [List.mem_flatMap]; exact ⟨z, h, by simp⟩)

set_option maxRecDepth 100000 in
set_option maxHeartbeats 1000000 in
theorem next_any {B : Nat} {w0 w : World} {g : Nat} {zv : Value} {nx : Int} {zs : List Zv} {l : List Ob} (h : All B w0 (stL g zv nx zs ++ l) w) (hl : zs.length ≤ 1000000) (hz : ∀ z ∈ zs, z.1.en.length ≤ 1000000) :
    Calls Try.prog 20 #[.pointer (some ⟨g, 0, none⟩)] w fun e w' => e = .returned (.int .i64 (nextOf zs)) ∧ Below w.heap.size w w' := by
  have hb : Blk _ _ _ _ := h.head
  have hs : Own _ _ _ _ _ _ := h.tail.head
  obtain ⟨za, zc, rfl⟩ := own_shape hs
  have c0 := hb.cell 0
  have c1 := hb.cell 1
  have hlt := hb.lt
  simp only [List.getElem?_cons_zero, List.getElem?_cons_succ] at c0 c1
  have HS := Lib.hid hs
  have HZ := Lib.hid hz
  have hen : ∀ z ∈ zs, Own w 41 3 z.2.1 z.1.sz.length (rows encZ z.1.sz) ∧ Own w 41 3 z.2.2 z.1.en.length (rows encZ z.1.en) := fun z hz => ⟨h.P (zl z.2.1 z.1.sz) (by unfold stL; simp [(stObs_mem hz).1]), h.P (zl z.2.2 z.1.en) (by unfold stL; simp [(stObs_mem hz).2])⟩
  have HE := Lib.hid hen
  clear hb hs h hz hen
  go_enter Try.func20, Try.ntmps20
  go_wp2_with fail
  go_loop [3, 13] (fun mv iv => mv = .int .i64 0 ∧ iv = .int .i64 0) (fun _ iv => 0)
  case atStart => exact ⟨rfl, rfl⟩
  case round =>
    obtain ⟨rfl, rfl⟩ := hrel
    go_wp2_with fail
    go_loopw [3, 39] (fun iv kv wr => NxR w zs iv kv wr) (fun _ kv _ => zs.length - (intOf kv).toNat)
    case atStart => exact ⟨0, Nat.zero_le _, rfl, rfl, Below.refl _ _⟩
    case round =>
      obtain ⟨k, hk, rfl, rfl, hB⟩ := hrel
      by_cases hkl : k < zs.length
      · obtain ⟨z, hy⟩ : ∃ z, zs[k]? = some z := ⟨_, List.getElem?_eq_getElem hkl⟩
        have hO := own_below HS.out hB
        obtain ⟨vg, vc', he, _⟩ := own_some hO (by omega)
        simp only [Value.slice.injEq] at he
        obtain ⟨rfl, _, rfl⟩ := he
        have q0 := hO.cellAt (k * 4) (by omega)
        have q1 := hO.cellAt (k * 4 + 1) (by omega)
        have q2 := hO.cellAt (k * 4 + 2) (by omega)
        have q3 := hO.cellAt (k * 4 + 3) (by omega)
        have r0 := rows_at (enc := encS) encS_len zs k z hy 0 (by decide)
        have r1 := rows_at (enc := encS) encS_len zs k z hy 1 (by decide)
        have r2 := rows_at (enc := encS) encS_len zs k z hy 2 (by decide)
        have r3 := rows_at (enc := encS) encS_len zs k z hy 3 (by decide)
        rw [show k * 4 + 0 = k * 4 from rfl] at r0
        rw [r0] at q0
        rw [r1] at q1
        rw [r2] at q2
        rw [r3] at q3
        simp only [encS, List.getElem?_cons_zero, List.getElem?_cons_succ] at q0 q1 q2 q3
        have HN := Lib.hid (nextOf_succ zs k z hy)
        obtain ⟨⟨id, cb, sz, en⟩, a, b⟩ := z
        have hen := HE.out _ (List.mem_of_getElem? hy)
        have hle := HZ.out _ (List.mem_of_getElem? hy)
        simp only at q0 q1 q2 q3 hle hen
        obtain ⟨hen1, hen2⟩ := hen
        obtain ⟨aa, ac, rfl⟩ := own_shape hen1
        obtain ⟨ba, bc, rfl⟩ := own_shape hen2
        clear r0 r1 r2 r3 hO hy hen1 hen2
        generalize nextOf (zs.take k) = m at *
        by_cases hx : 0 < en.length ∧ (m = 0 ∨ id < m)
        · obtain ⟨h1, h2⟩ := hx
          have HX : Hid (nextOf (zs.take (k + 1)) = id) := Lib.hid (HN.out.trans (show nextStep m _ = id from if_pos ⟨h1, h2⟩))
          by_cases hm : m = 0
          · subst hm
            clear h2
            go_wp2_with fail
            go_roundw
            case rel => exact ⟨k + 1, by omega, by go_num, by rw [HX.out], (hB.alloc hB.size _)⟩
            case measure => simp [intOf]; omega
          · have e1 : (m == 0) = false := by simpa using hm
            have h3 : id < m := by omega
            clear h2 hm
            go_wp2_with fail
            go_roundw
            case rel => exact ⟨k + 1, by omega, by go_num, by rw [HX.out], (hB.alloc hB.size _)⟩
            case measure => simp [intOf]; omega
        · have HX : Hid (nextOf (zs.take (k + 1)) = m) := Lib.hid (HN.out.trans (show nextStep m _ = m from if_neg hx))
          by_cases h1 : 0 < en.length
          · have e1 : (m == 0) = false := by simp; omega
            have h3 : ¬ id < m := by omega
            clear hx
            go_wp2_with fail
            go_roundw
            case rel => exact ⟨k + 1, by omega, by go_num, by rw [HX.out], (hB.alloc hB.size _)⟩
            case measure => simp [intOf]; omega
          · clear hx
            have h2 : en.length = 0 := by omega
            go_wp2_with fail
            go_roundw
            case rel => exact ⟨k + 1, by omega, by go_num, by rw [HX.out], (hB.alloc hB.size _)⟩
            case measure => simp [intOf]; omega
      · have hk' : k = zs.length := by omega
        have HT : Hid (nextOf (zs.take k) = nextOf zs) := Lib.hid (by rw [hk', List.take_length])
        clear hk'
        go_wp2_with fail
        go_ret
        exact ⟨by rw [HT.out]; rfl, hB⟩

theorem pending_any {B : Nat} {w0 w : World} {g : Nat} {zv : Value} {nx : Int} {zs : List Zv} {l : List Ob} (h : All B w0 (stL g zv nx zs ++ l) w) (hl : zs.length ≤ 1000000) (hz : ∀ z ∈ zs, z.1.en.length ≤ 1000000) :
    Calls Try.prog 11 #[.pointer (some ⟨g, 0, none⟩)] w fun e w' => e = .returned (.bool (nextOf zs != 0)) ∧ Below w.heap.size w w' := by
  have HN := Lib.hid (next_any h hl hz)
  clear h hl hz
  go_enter Try.func11, Try.ntmps11
  go_wp2_with fail
  refine HN.out.mono ?_
  rintro e w2 ⟨rfl, hb2⟩
  go_wp2_with fail
  go_ret
  exact ⟨rfl, hb2⟩

theorem perm_dl (X Y Z : Ob) (P Q l : List Ob) : (X :: (P ++ (Z :: Y :: (Q ++ l)))).Perm (P ++ (Z :: X :: (Q ++ (Y :: l)))) :=
  List.perm_middle.symm.trans (List.Perm.append_left P ((List.Perm.swap Z X _).trans (.cons Z (.cons X List.perm_middle.symm))))
theorem perm_rr (Y Z : Ob) (P l : List Ob) : (P ++ (Y :: Z :: l)).Perm ((P ++ [Y]) ++ Z :: l) := by simp
theorem sub_rr (Y Z : Ob) (P l : List Ob) : (P ++ (Y :: l)).Sublist ((P ++ [Y]) ++ Z :: l) := by simp
/-- Deliver, where the first observer with something to be told is known -/
theorem stL_sub {g : Nat} {nx : Int} {z1 z2 : List Zv} {z z' : Zr} {a b : Value} {l : List Ob} {B : Nat} {w0 w : World} {zg zc N : Nat}
    (h : All B w0 (stL g (.slice (some ⟨zg, 0, none⟩) N zc) nx (z1 ++ (z, a, b) :: z2) ++ l) w) (hN : (z1 ++ (z, a, b) :: z2).length = N) (h1 : z'.id = z.id) (h2 : z'.cb = z.cb) (h3 : z'.sz = z.sz) (h4 : z'.en = []) :
    All B w0 (stL g (.slice (some ⟨zg, 0, none⟩) N zc) nx (z1 ++ (z', a, .slice none 0 0) :: z2) ++ (zl b z.en :: l)) (w.setCell ⟨zg, z1.length * 4 + 3, none⟩ (.slice none 0 0)) := by
  rw [stL_split] at h
  have h5 := h.nil 41 3
  have h6 : All B w0 ([bk g [.slice none 0 0, .slice (some ⟨zg, 0, none⟩) N zc, .int .i64 nx] 27, sl 55 4 (.slice (some ⟨zg, 0, none⟩) N zc) N (rows encS (z1 ++ (z, a, b) :: z2))] ++ stObs z1 ++ (zl a z'.sz :: zl (.slice none 0 0) z'.en :: (stObs z2 ++ (zl b z.en :: l)))) w := by
    rw [hN] at h5
    rw [h3, h4]
    exact h5.perm (perm_dl _ _ _ _ _ _)
  exact st_set3 h6 hN h1 h2

set_option maxRecDepth 100000 in
set_option maxHeartbeats 1000000 in
theorem deliver_some {B : Nat} {w0 w : World} {g zg zc : Nat} {nx : Int} {z1 z2 : List Zv} {z : Zr} {a b : Value} {l : List Ob} (h : All B w0 (stL g (.slice (some ⟨zg, 0, none⟩) (z1 ++ (z, a, b) :: z2).length zc) nx (z1 ++ (z, a, b) :: z2) ++ l) w)
    (hn : ∀ y ∈ z1, y.1.id ≠ z.id) (hl : (z1 ++ (z, a, b) :: z2).length ≤ 1000000) (hz : ∀ y ∈ z1 ++ (z, a, b) :: z2, y.1.en.length ≤ 1000000) (hx : nextOf (z1 ++ (z, a, b) :: z2) = z.id) :
    Calls Try.prog 10 #[.pointer (some ⟨g, 0, none⟩)] w fun e w' => e = .returned (.tuple #[.agg #[.int .i64 z.id, .int .i64 z.cb, .slice none 0 0, b], .bool true]) ∧ All B w0 (stL g (.slice (some ⟨zg, 0, none⟩) (z1 ++ (z, a, b) :: z2).length zc) nx (z1 ++ ({ z with en := [] }, a, .slice none 0 0) :: z2) ++ (zl b z.en :: l)) w' := by
  have hA := (h.newBkA w.heap.size rfl [.int .i64 0, .int .i64 0, .slice none 0 0, .slice none 0 0] 37).perm List.perm_middle.symm
  obtain ⟨R, hR⟩ : ∃ R, w.heap.size = R := ⟨_, rfl⟩
  have hz2 : Own _ _ _ _ _ _ := (st_cells h).2.2.2.2.2.2
  obtain ⟨ba, bc, rfl⟩ := own_shape hz2
  clear hz2
  have N1 := next_any hA hl hz
  rw [hx] at N1
  have HN := Lib.hid N1
  rw [hR] at hA
  have H := Lib.hid hA
  have HNi := Lib.hid hn
  have HL := Lib.hid hl
  clear h N1 hn hx hz hA
  generalize hk : z1.length = k at *
  have HK := Lib.hid hk
  clear hk
  generalize hN : (z1 ++ (z, a, Value.slice ba z.en.length bc) :: z2).length = N at *
  have HNN := Lib.hid hN
  clear hN
  go_enter Try.func10, Try.ntmps10
  go_wp2_with fail
  refine HN.out.mono ?_
  rintro e w2 ⟨rfl, hb2⟩
  have hA2 := H.out.still hb2
  have HO := Lib.hid (observer_no hA2 z.id)
  have hN := HNN.out
  subst hN
  have HSz := Lib.hid (sizer_at (z := (z, a, .slice ba z.en.length bc)) hA2 HNi.out HL.out)
  rw [HK.out] at HSz
  obtain ⟨⟨q0, q1, q2, q3⟩, qf, hzlt, c0, c1, hz1, hz2⟩ := st_cells hA2
  rw [HK.out] at q0 q1 q2 q3
  have hRb : Blk _ _ _ _ := hA2.P (bk R [.int .i64 0, .int .i64 0, .slice none 0 0, .slice none 0 0] 37) (by simp)
  have r0 := hRb.cell 0
  have r1 := hRb.cell 1
  have r2 := hRb.cell 2
  have r3 := hRb.cell 3
  have rf := hRb.free
  have rl := hRb.lt
  simp only [List.getElem?_cons_zero, List.getElem?_cons_succ] at r0 r1 r2 r3
  have hne : R ≠ zg := (All.sl_ne_bk hA2.tail (cs := [.int .i64 0, .int .i64 0, .slice none 0 0, .slice none 0 0]) (t := 37) (by simp)).symm
  have hne' := hne.symm
  have HA := Lib.hid hA2
  clear c0 c1 hz1 hz2 hA2 hRb hR hb2 q0 q2
  generalize hN : (z1 ++ (z, a, Value.slice ba z.en.length bc) :: z2).length = N at *
  have HN2 := Lib.hid hN
  clear hN
  go_wp2_with fail
  refine HO.out.mono ?_
  rintro e w3 ⟨rfl, rfl⟩
  go_wp2_with fail
  refine HSz.out.mono ?_
  rintro e w3 ⟨rfl, rfl⟩
  go_wp2_with fail
  go_region
  have hA5 := ((((stL_sub (z' := { z with en := [] }) HA.out HN2.out rfl rfl rfl rfl).perm (perm_rr _ _ _ _)).setBk (stL _ _ _ _ ++ [_]) 0 (.int .i64 z.id)).setBk (stL _ _ _ _ ++ [_]) 1 (.int .i64 z.cb)).setBk (stL _ _ _ _ ++ [_]) 2 (.slice none 0 0)
  rw [HK.out] at hA5
  have HA5 := Lib.hid (hA5.setBk (stL _ _ _ _ ++ [_]) 3 (.slice ba z.en.length bc))
  clear hA5
  go_wp2_with fail
  refine bodyPost_ret (v := .tuple #[.agg #[.int .i64 z.id, .int .i64 z.cb, .slice none 0 0, .slice ba z.en.length bc], .bool true]) (by simp [results, Try.results10, go_sem, *]) rfl ⟨rfl, ?_⟩
  rw [HN2.out]
  exact ((HA5.out.alloc _).drew).sub (sub_rr _ _ _ _)

theorem deliver_none {B : Nat} {w0 w : World} {g : Nat} {zv : Value} {nx : Int} {zs : List Zv} {l : List Ob} (h : All B w0 (stL g zv nx zs ++ l) w)
    (hn : ∀ y ∈ zs, y.1.id ≠ 0) (hl : zs.length ≤ 1000000) (hz : ∀ y ∈ zs, y.1.en.length ≤ 1000000) (hx : nextOf zs = 0) :
    Calls Try.prog 10 #[.pointer (some ⟨g, 0, none⟩)] w fun e w' => e = .returned (.tuple #[.agg #[.int .i64 0, .int .i64 0, .slice none 0 0, .slice none 0 0], .bool false]) ∧ Below w.heap.size w w' := by
  have hA := (h.newBkA w.heap.size rfl [.int .i64 0, .int .i64 0, .slice none 0 0, .slice none 0 0] 37).perm List.perm_middle.symm
  have N1 := next_any hA hl hz
  rw [hx] at N1
  have HN := Lib.hid N1
  have HA := Lib.hid hA
  clear h N1 hx hz hA
  go_enter Try.func10, Try.ntmps10
  go_wp2_with fail
  refine HN.out.mono ?_
  rintro e w2 ⟨rfl, hb2⟩
  have hA2 := HA.out.still hb2
  have HO := Lib.hid (observer_no hA2 0)
  have HSz := Lib.hid (sizer_no hA2 0 hn hl)
  have hRb : Blk _ _ _ _ := hA2.P (bk w.heap.size [.int .i64 0, .int .i64 0, .slice none 0 0, .slice none 0 0] 37) (by simp)
  have r0 := hRb.cell 0
  have r1 := hRb.cell 1
  have r2 := hRb.cell 2
  have r3 := hRb.cell 3
  have rf := hRb.free
  have rl := hRb.lt
  simp only [List.getElem?_cons_zero, List.getElem?_cons_succ] at r0 r1 r2 r3
  have HB := Lib.hid (bthen ((Below.refl _ _).alloc (Nat.le_refl _) _) hb2)
  clear hA2 hRb hb2
  generalize hR : w.heap.size = R at *
  have HR := Lib.hid hR
  clear hR
  go_wp2_with fail
  refine HO.out.mono ?_
  rintro e w3 ⟨rfl, rfl⟩
  go_wp2_with fail
  refine HSz.out.mono ?_
  rintro e w3 ⟨rfl, rfl⟩
  go_wp2_with fail
  refine bodyPost_ret (v := .tuple #[.agg #[.int .i64 0, .int .i64 0, .slice none 0 0, .slice none 0 0], .bool false]) (by simp [results, Try.results10, go_sem, *]) rfl ⟨rfl, ?_⟩
  rw [HR.out]
  exact (((HB.out.setCell (Nat.le_refl _) _).setCell (Nat.le_refl _) _).setCell (Nat.le_refl _) _).setCell (Nat.le_refl _) _
end Go.Proofs.Ytfdofkokiaapoaa.W
