/- Drop: the watches of a node are deleted in place. -/
import Derived.Test.YtfdofkokiaapoaaGreatDoorGv15
import Derived.Test.YtfdofkokiaapoaaGreatDoorGv11
namespace Go.Proofs.YtfdofkokiaapoaaGreatDoor.W
open Go.RowKit
set_option linter.unusedVariables false
set_option linter.unusedSimpArgs false

theorem drop1_any (t x : Int) (a b c d e : Bool) (f : Value) (g : Nat) (w : World) (hg : w.cell? ⟨g, 0, none⟩ = some (.int .i64 x)) (fa : Option Addr) (fn fc : Nat) (hf : f = .slice fa fn fc) :
    Calls Tryz.prog 44 #[.agg #[.int .i64 t, .bool a, .bool b, .bool c, .bool d, .bool e, f], .pointer (some ⟨g, 0, none⟩)] w fun e w' => e = .returned (.bool (t == x)) ∧ Below w.heap.size w w' := by
  subst hf
  have hlt : g < w.heap.size := World.block_lt_of_cell? w ⟨g, 0, none⟩ hg
  have hne : g ≠ w.heap.size := by omega
  go_enter Tryz.func44, Tryz.ntmps44
  go_wp2
  go_ret
  exact ⟨rfl, (Below.refl _ _).alloc (Nat.le_refl _) _⟩

set_option maxRecDepth 100000 in
set_option maxHeartbeats 2000000 in
theorem index_noD {w : World} {v : Value} {l : List Wt} {x : Int} {g : Nat} (h : Own w 58 7 v l.length (rows encW l)) (hf : ∀ y ∈ l, ∃ a n c, y.fv = .slice a n c) (hg : w.cell? ⟨g, 0, none⟩ = some (.int .i64 x)) (hl : l.length ≤ 2000000) (hno : ∀ y ∈ l, y.target ≠ x) :
    Calls Tryz.prog 63 #[v, .func (.func 44) #[] #[.pointer (some ⟨g, 0, none⟩)]] w fun e w' => e = .returned (.int .i64 (-1)) ∧ Below w.heap.size w w' := by
  have hlt : g < w.heap.size := World.block_lt_of_cell? w ⟨g, 0, none⟩ hg
  obtain ⟨va, vc, rfl⟩ := own_shape h
  have H := Lib.hid h
  have HG := Lib.hid hg
  have HF := Lib.hid hf
  have HNo := Lib.hid hno
  clear h hg hf hno
  go_enter Tryz.func63, Tryz.ntmps63
  go_wp2_with fail
  go_loopw [8] (fun iv wr => ∃ k : Nat, k ≤ l.length ∧ iv = .int .i64 (k : Int) ∧ Below w.heap.size w wr) (fun iv _ => l.length - (intOf iv).toNat)
  case atStart => exact ⟨0, Nat.zero_le _, rfl, Below.refl _ _⟩
  case round =>
    obtain ⟨k, hk, rfl, hB⟩ := hrel
    by_cases hkl : k < l.length
    · obtain ⟨y, hy⟩ : ∃ y, l[k]? = some y := ⟨_, List.getElem?_eq_getElem hkl⟩
      have hO := own_below H.out hB
      obtain ⟨vg, vc', he, _⟩ := own_some hO (by omega)
      simp only [Value.slice.injEq] at he
      obtain ⟨rfl, _, rfl⟩ := he
      have hq : ∀ j, j < 7 → wr.cell? ⟨vg, k * 7 + j, none⟩ = (encW y)[j]? := fun j hj => by
        rw [hO.cellAt (k * 7 + j) (by omega)]
        exact rows_at (enc := encW) encW_len l k y hy j hj
      have q0 := hq 0 (by omega)
      have q1 := hq 1 (by omega)
      have q2 := hq 2 (by omega)
      have q3 := hq 3 (by omega)
      have q4 := hq 4 (by omega)
      have q5 := hq 5 (by omega)
      have q6 := hq 6 (by omega)
      obtain ⟨fa, fn, fc, hfv⟩ := HF.out y (List.mem_of_getElem? hy)
      simp only [encW, hfv, List.getElem?_cons_zero, List.getElem?_cons_succ, Nat.add_zero] at q0 q1 q2 q3 q4 q5 q6
      have hc := (hB.cell (p := ⟨g, 0, none⟩) hlt).trans HG.out
      have HC := Lib.hid (drop1_any y.target x y.kids y.attrs y.data y.sub y.old (.slice fa fn fc) g wr hc fa fn fc rfl)
      have hyx := HNo.out y (List.mem_of_getElem? hy)
      have e1 : (y.target == x) = false := by simpa using hyx
      rw [e1] at HC
      clear hO hc hy e1 hyx hq hfv
      go_wp2_with fail
      refine HC.out.mono ?_
      rintro e w2 ⟨rfl, hb2⟩
      go_wp2_with fail
      go_roundw
      case rel => exact ⟨k + 1, by omega, by go_num, hB.trans (hb2.mono hB.size)⟩
      case measure => simp [intOf]; omega
    · go_wp2_with fail
      go_ret
      exact ⟨rfl, hB⟩
set_option maxRecDepth 100000 in
set_option maxHeartbeats 2000000 in
theorem index_hitD {w : World} {v : Value} {l1 l2 : List Wt} {y0 : Wt} {x : Int} {g : Nat} (h : Own w 58 7 v (l1 ++ y0 :: l2).length (rows encW (l1 ++ y0 :: l2))) (hf : ∀ y ∈ l1 ++ y0 :: l2, ∃ a n c, y.fv = .slice a n c) (hg : w.cell? ⟨g, 0, none⟩ = some (.int .i64 x)) (hl : (l1 ++ y0 :: l2).length ≤ 2000000) (hno : ∀ y ∈ l1, y.target ≠ x) (hy0 : y0.target = x) :
    Calls Tryz.prog 63 #[v, .func (.func 44) #[] #[.pointer (some ⟨g, 0, none⟩)]] w fun e w' => e = .returned (.int .i64 (l1.length : Int)) ∧ Below w.heap.size w w' := by
  have hlt : g < w.heap.size := World.block_lt_of_cell? w ⟨g, 0, none⟩ hg
  have hl1 : l1.length < (l1 ++ y0 :: l2).length := by simp
  have HE := Lib.hid (show ∀ k (hk : k < l1.length), ∃ y, (l1 ++ y0 :: l2)[k]? = some y ∧ y.target ≠ x from fun k hk => ⟨l1[k], by rw [List.getElem?_append_left hk, List.getElem?_eq_getElem hk], hno _ (List.getElem_mem hk)⟩)
  have HY := Lib.hid (get_mid l1 y0 l2)
  generalize l1 ++ y0 :: l2 = l at *
  obtain ⟨va, vc, rfl⟩ := own_shape h
  have H := Lib.hid h
  have HG := Lib.hid hg
  have HF := Lib.hid hf
  have HY0 := Lib.hid hy0
  clear h hg hf hno hy0
  go_enter Tryz.func63, Tryz.ntmps63
  go_wp2_with fail
  go_loopw [8] (fun iv wr => ∃ k : Nat, k ≤ l1.length ∧ iv = .int .i64 (k : Int) ∧ Below w.heap.size w wr) (fun iv _ => l.length - (intOf iv).toNat)
  case atStart => exact ⟨0, Nat.zero_le _, rfl, Below.refl _ _⟩
  case round =>
    obtain ⟨k, hk, rfl, hB⟩ := hrel
    have hcell : ∀ y, l[k]? = some y → ∃ vg vc', va = some ⟨vg, 0, none⟩ ∧ vc = vc' ∧ ∀ j, j < 7 → wr.cell? ⟨vg, k * 7 + j, none⟩ = (encW y)[j]? := fun y hy => by
      have hO := own_below H.out hB
      obtain ⟨vg, vc', he, _⟩ := own_some hO (by omega)
      simp only [Value.slice.injEq] at he
      obtain ⟨rfl, _, rfl⟩ := he
      refine ⟨vg, vc, rfl, rfl, fun j hj => ?_⟩
      rw [hO.cellAt (k * 7 + j) (by omega)]
      exact rows_at (enc := encW) encW_len l k y hy j hj
    by_cases hkl : k < l1.length
    · obtain ⟨y, hy, hyx⟩ := HE.out k hkl
      obtain ⟨vg, vc', rfl, rfl, hq⟩ := hcell y hy
      have q0 := hq 0 (by omega)
      have q1 := hq 1 (by omega)
      have q2 := hq 2 (by omega)
      have q3 := hq 3 (by omega)
      have q4 := hq 4 (by omega)
      have q5 := hq 5 (by omega)
      have q6 := hq 6 (by omega)
      obtain ⟨fa, fn, fc, hfv⟩ := HF.out y (List.mem_of_getElem? hy)
      simp only [encW, hfv, List.getElem?_cons_zero, List.getElem?_cons_succ, Nat.add_zero] at q0 q1 q2 q3 q4 q5 q6
      have hc := (hB.cell (p := ⟨g, 0, none⟩) hlt).trans HG.out
      have HC := Lib.hid (drop1_any y.target x y.kids y.attrs y.data y.sub y.old (.slice fa fn fc) g wr hc fa fn fc rfl)
      have e1 : (y.target == x) = false := by simpa using hyx
      rw [e1] at HC
      clear hc hy e1 hyx hq hfv hcell
      go_wp2_with fail
      refine HC.out.mono ?_
      rintro e w2 ⟨rfl, hb2⟩
      go_wp2_with fail
      go_roundw
      case rel => exact ⟨k + 1, by omega, by go_num, hB.trans (hb2.mono hB.size)⟩
      case measure => simp [intOf]; omega
    · obtain rfl : k = l1.length := by omega
      obtain ⟨vg, vc', rfl, rfl, hq⟩ := hcell y0 HY.out
      have q0 := hq 0 (by omega)
      have q1 := hq 1 (by omega)
      have q2 := hq 2 (by omega)
      have q3 := hq 3 (by omega)
      have q4 := hq 4 (by omega)
      have q5 := hq 5 (by omega)
      have q6 := hq 6 (by omega)
      obtain ⟨fa, fn, fc, hfv⟩ := HF.out y0 (List.mem_of_getElem? HY.out)
      simp only [encW, hfv, List.getElem?_cons_zero, List.getElem?_cons_succ, Nat.add_zero] at q0 q1 q2 q3 q4 q5 q6
      have hc := (hB.cell (p := ⟨g, 0, none⟩) hlt).trans HG.out
      have HC := Lib.hid (drop1_any y0.target x y0.kids y0.attrs y0.data y0.sub y0.old (.slice fa fn fc) g wr hc fa fn fc rfl)
      have e1 : (y0.target == x) = true := by simpa using HY0.out
      rw [e1] at HC
      clear hc e1 hq hfv hcell
      go_wp2_with fail
      refine HC.out.mono ?_
      rintro e w2 ⟨rfl, hb2⟩
      go_wp2_with fail
      go_ret
      exact ⟨rfl, hB.trans (hb2.mono hB.size)⟩


theorem zeroWt : ∀ w, (zeroValue 58).run Tryz.prog w = .ok (.agg #[.int .i64 0, .bool false, .bool false, .bool false, .bool false, .bool false, .slice none 0 0]) w := fun w => by kernel_rfl
theorem zWt_size : (Value.agg #[.int .i64 0, .bool false, .bool false, .bool false, .bool false, .bool false, .slice none 0 0]).cells.size = 7 := rfl
theorem zWt_one : ∀ u ∈ (Value.agg #[.int .i64 0, .bool false, .bool false, .bool false, .bool false, .bool false, .slice none 0 0]).cells.toList, u.oneCell' = true := by
  intro u hu
  simp [Value.cells] at hu
  rcases hu with rfl | rfl | rfl <;> rfl
/-- watches without a target -/
def dropW (l : List Wt) (x : Int) : List Wt := l.filter fun y => y.target != x
theorem dropW_none {l : List Wt} {x : Int} (h : ∀ y ∈ l, y.target ≠ x) : dropW l x = l := by
  unfold dropW
  rw [List.filter_eq_self]
  intro y hy
  simpa using h y hy
theorem dropW_succ {L : List Wt} {j : Nat} {y : Wt} (x : Int) (h : L[j]? = some y) : dropW (L.take (j + 1)) x = dropW (L.take j) x ++ (if y.target = x then [] else [y]) := by
  unfold dropW
  rw [List.take_add_one, h, List.filter_append]
  congr 1
  by_cases e : y.target = x <;> simp [e]
theorem rows_put7' (C c2 : List Wt) (c1 : List Wt) (y' y : Wt) (e : C = c1 ++ y' :: c2) : rows encW (C.set c1.length y) = (((((((rows encW C).set (c1.length * 7) (.int .i64 y.target)).set (c1.length * 7 + 1) (.bool y.kids)).set (c1.length * 7 + 2) (.bool y.attrs)).set (c1.length * 7 + 3) (.bool y.data)).set (c1.length * 7 + 4) (.bool y.sub)).set (c1.length * 7 + 5) (.bool y.old)).set (c1.length * 7 + 6) y.fv := by
  subst e
  rw [set_mid, rows_put7]
/-- the state of a deletion in place: the first i cells are what is kept of the first j -/
def DwR (B : Nat) (w0 : World) (l1 l2 : List Ob) (g n cap : Nat) (L : List Wt) (x : Int) (iv jv : Value) (wr : World) : Prop :=
  ∃ (i j : Nat) (C : List Wt), i < j ∧ j ≤ n ∧ C.length = n ∧ C.take i = dropW (L.take j) x ∧ C.drop j = L.drop j ∧ (∀ y ∈ C, ∃ a m c, y.fv = .slice a m c) ∧ iv = .int .i64 (i : Int) ∧ jv = .int .i64 (j : Int) ∧ All B w0 (l1 ++ sl 58 7 (.slice (some ⟨g, 0, none⟩) n cap) n (rows encW C) :: l2) wr

set_option maxRecDepth 100000 in
set_option maxHeartbeats 4000000 in
theorem delete_wt {B : Nat} {w0 w : World} {l1 l2 : List Ob} {v : Value} {L : List Wt} {x : Int} {gx : Nat} (h : All B w0 (l1 ++ sl 58 7 v L.length (rows encW L) :: l2) w) (hm : bk gx [.int .i64 x] 3 ∈ l1) (hl : L.length ≤ 100000) (hf : ∀ y ∈ L, ∃ a n c, y.fv = .slice a n c) :
    Calls Tryz.prog 43 #[v, .func (.func 44) #[] #[.pointer (some ⟨gx, 0, none⟩)]] w fun e w' => ∃ v', e = .returned v' ∧ All B w0 (l1 ++ sl 58 7 v' (dropW L x).length (rows encW (dropW L x)) :: l2) w' := by
  have hbx : ∀ (o : Ob) (w : World), All B w0 (l1 ++ o :: l2) w → w.cell? ⟨gx, 0, none⟩ = some (.int .i64 x) := fun o w h => by
    have hb : Blk _ _ _ _ := h.P (bk gx [.int .i64 x] 3) (by simp [hm])
    have := hb.cell 0
    simpa using this
  have hO : Own _ _ _ _ _ _ := h.mid
  obtain ⟨va, vc, rfl⟩ := own_shape hO
  rcases first_at (t := x) (l := L) with hno | ⟨L1, y0, L2, rfl, hno, hy0⟩
  · have HI := Lib.hid (index_noD hO hf (hbx _ _ h) (by omega) hno)
    have H := Lib.hid h
    rw [dropW_none hno]
    clear h hO hbx hno
    go_enter Tryz.func43, Tryz.ntmps43
    go_wp2_with fail
    refine HI.out.mono ?_
    rintro e w2 ⟨rfl, hb2⟩
    go_wp2_with fail
    go_ret
    exact ⟨_, rfl, H.out.still hb2⟩
  · have HI := Lib.hid (index_hitD hO hf (hbx _ _ h) (by omega) hno hy0)
    have hil : L1.length < (L1 ++ y0 :: L2).length := by simp
    obtain ⟨g, vc', he, _⟩ := own_some hO (by omega)
    simp only [Value.slice.injEq, true_and] at he
    obtain ⟨rfl, rfl⟩ := he
    have HY := Lib.hid (show (L1 ++ y0 :: L2).take L1.length = dropW ((L1 ++ y0 :: L2).take (L1.length + 1)) x from by
      rw [dropW_succ x (get_mid L1 y0 L2), if_pos hy0, List.append_nil, List.take_left, dropW_none hno])
    have H := Lib.hid h
    have HX := Lib.hid hbx
    have HF := Lib.hid hf
    generalize hLL : L1 ++ y0 :: L2 = L at *
    generalize hi0 : L1.length = i0 at *
    have hne1 : ((i0 : Int) == -1) = false := beq_eq_false_iff_ne.2 (by omega)
    generalize hn : L.length = n at *
    have HN := Lib.hid hn
    clear h hO hbx hf hno hy0 hLL hi0 hn
    go_enter Tryz.func43, Tryz.ntmps43
    go_wp2_with fail
    refine HI.out.mono ?_
    rintro e w2 ⟨rfl, hb2⟩
    have HA2 := Lib.hid (H.out.still hb2)
    clear hb2
    go_wp2_with fail
    go_loopw [5, 6] (fun iv jv wr => DwR B w0 l1 l2 g n vc L x iv jv wr) (fun _ jv _ => n - (intOf jv).toNat)
    case atStart => exact ⟨i0, i0 + 1, L, by omega, by omega, HN.out, HY.out, rfl, HF.out, rfl, by go_num, HA2.out⟩
    case round =>
      clear HA2 hil HY HI
      obtain ⟨i, j, C, hij, hj, hC, ht, hd, hfc, rfl, rfl, hA⟩ := hrel
      have HT := Lib.hid ht
      have HD := Lib.hid hd
      have HC := Lib.hid hC
      have HFc := Lib.hid hfc
      clear ht hd hC hfc
      by_cases hjn : j < n
      · obtain ⟨y, hy⟩ : ∃ y, L[j]? = some y := ⟨_, List.getElem?_eq_getElem (by rw [HN.out]; exact hjn)⟩
        have hcy : C[j]? = some y := by
          have h1 : (C.drop j)[0]? = (L.drop j)[0]? := by rw [HD.out]
          rw [List.getElem?_drop, List.getElem?_drop] at h1
          rw [Nat.add_zero] at h1
          rw [h1, hy]
        have hO : Own wr 58 7 (.slice (some ⟨g, 0, none⟩) n vc) n (rows encW C) := hA.mid
        obtain ⟨fa, fn, fc, hfv⟩ := HFc.out y (List.mem_of_getElem? hcy)
        have hq : ∀ j', j' < 7 → wr.cell? ⟨g, j * 7 + j', none⟩ = (encW y)[j']? := fun j' hj' => by
          rw [hO.cellAt (j * 7 + j') (by omega)]
          exact rows_at (enc := encW) encW_len C j y hcy j' hj'
        have q0 := hq 0 (by omega)
        have q1 := hq 1 (by omega)
        have q2 := hq 2 (by omega)
        have q3 := hq 3 (by omega)
        have q4 := hq 4 (by omega)
        have q5 := hq 5 (by omega)
        have q6 := hq 6 (by omega)
        simp only [encW, hfv, List.getElem?_cons_zero, List.getElem?_cons_succ, Nat.add_zero] at q0 q1 q2 q3 q4 q5 q6
        have hA1 := hA.alloc (.cells #[.int .i64 y.target, .bool y.kids, .bool y.attrs, .bool y.data, .bool y.sub, .bool y.old, .slice fa fn fc] 58)
        have HC1 := Lib.hid (drop1_any y.target x y.kids y.attrs y.data y.sub y.old (.slice fa fn fc) gx _ (HX.out _ _ hA1) fa fn fc rfl)
        have HSu := Lib.hid (dropW_succ x hy)
        have HA1 := Lib.hid hA1
        have HCy := Lib.hid hcy
        have HFv := Lib.hid hfv
        clear hy hcy hO hA hA1 hq hfv
        by_cases hyx : y.target = x
        · have e1 : (y.target == x) = true := by simpa using hyx
          rw [e1] at HC1
          rw [if_pos hyx, List.append_nil] at HSu
          clear hyx e1
          go_wp2_with fail
          refine HC1.out.mono ?_
          rintro e w3 ⟨rfl, hb3⟩
          have HB3 := Lib.hid hb3
          clear hb3 q0 q1 q2 q3 q4 q5 q6
          go_wp2_with fail
          go_roundw
          case rel =>
            refine ⟨i, j + 1, C, by omega, by omega, HC.out, by rw [HSu.out]; exact HT.out, ?_, HFc.out, rfl, by go_num, HA1.out.still HB3.out⟩
            have := congrArg (List.drop 1) HD.out
            rw [List.drop_drop, List.drop_drop] at this
            exact this
          case measure => simp [intOf]; omega
        · have e1 : (y.target == x) = false := by simpa using hyx
          rw [e1] at HC1
          rw [if_neg hyx] at HSu
          clear hyx e1
          go_wp2_with fail
          have hk := Blk.new wr [.int .i64 y.target, .bool y.kids, .bool y.attrs, .bool y.data, .bool y.sub, .bool y.old, .slice fa fn fc] 58
          refine HC1.out.mono ?_
          rintro e w3 ⟨rfl, hb3⟩
          have hA3 := HA1.out.still hb3
          have k3 : Blk w3 wr.heap.size [.int .i64 y.target, .bool y.kids, .bool y.attrs, .bool y.data, .bool y.sub, .bool y.old, .slice fa fn fc] 58 := Blk.below (show Blk (wr.alloc (.cells #[.int .i64 y.target, .bool y.kids, .bool y.attrs, .bool y.data, .bool y.sub, .bool y.old, .slice fa fn fc] 58)) wr.heap.size _ _ from hk) hb3
          have d0 := k3.cell 0
          have d1 := k3.cell 1
          have d2 := k3.cell 2
          have d3 := k3.cell 3
          have d4 := k3.cell 4
          have d5 := k3.cell 5
          have d6 := k3.cell 6
          simp only [List.getElem?_cons_zero, List.getElem?_cons_succ] at d0 d1 d2 d3 d4 d5 d6
          have hO : Own w3 58 7 (.slice (some ⟨g, 0, none⟩) n vc) n (rows encW C) := hA3.mid
          obtain ⟨y', hy'⟩ : ∃ y', C[i]? = some y' := ⟨_, List.getElem?_eq_getElem (by rw [HC.out]; omega)⟩
          have hcell : ∀ j', j' < 7 → w3.cell? ⟨g, i * 7 + j', none⟩ = (encW y')[j']? := fun j' hj' => by
            rw [hO.cellAt (i * 7 + j') (by omega)]
            exact rows_at (enc := encW) encW_len C i y' hy' j' hj'
          clear q0 q1 q2 q3 q4 q5 q6
          have r0 := hcell 0 (by omega)
          have r1 := hcell 1 (by omega)
          have r2 := hcell 2 (by omega)
          have r3 := hcell 3 (by omega)
          have r4 := hcell 4 (by omega)
          have r5 := hcell 5 (by omega)
          have r6 := hcell 6 (by omega)
          simp only [encW, List.getElem?_cons_zero, List.getElem?_cons_succ, Nat.add_zero] at r0 r1 r2 r3 r4 r5 r6
          have z0 := hO.frozenAt (i * 7)
          have z1 := hO.frozenAt (i * 7 + 1)
          have z2 := hO.frozenAt (i * 7 + 2)
          have z3 := hO.frozenAt (i * 7 + 3)
          have z4 := hO.frozenAt (i * 7 + 4)
          have z5 := hO.frozenAt (i * 7 + 5)
          have z6 := hO.frozenAt (i * 7 + 6)
          have h4 := ((((((hA3.setSl l1 (i * 7) (.int .i64 y.target)).setSl l1 (i * 7 + 1) (.bool y.kids)).setSl l1 (i * 7 + 2) (.bool y.attrs)).setSl l1 (i * 7 + 3) (.bool y.data)).setSl l1 (i * 7 + 4) (.bool y.sub)).setSl l1 (i * 7 + 5) (.bool y.old)).setSl l1 (i * 7 + 6) (.slice fa fn fc)
          obtain ⟨c1, c2, hcc, hcl⟩ := split_at hy'
          have hr := rows_put7' C c2 c1 y' y hcc
          rw [hcl, HFv.out] at hr
          rw [← hr] at h4
          have HA4 := Lib.hid h4
          have hij7 : (i : Int) < (n : Int) := by omega
          clear hA3 hO hb3 hy' h4 hr hcc hcl hcell k3 hk
          generalize wr.heap.size = r7 at *
          go_wp2_with fail
          go_roundw
          case rel =>
            refine ⟨i + 1, j + 1, C.set i y, by omega, by omega, by rw [List.length_set]; exact HC.out, ?_, ?_, fun u hu => ?_, by go_num, by go_num, HA4.out⟩
            · rw [HSu.out, ← HT.out, List.take_add_one, List.getElem?_set_self (by rw [HC.out]; omega), List.take_set_of_le (Nat.le_refl _)]
              rfl
            · rw [List.drop_set_of_lt (by omega)]
              have := congrArg (List.drop 1) HD.out
              rw [List.drop_drop, List.drop_drop] at this
              exact this
            · rcases List.mem_or_eq_of_mem_set hu with hu | rfl
              · exact HFc.out u hu
              · exact ⟨fa, fn, fc, HFv.out⟩
          case measure => simp [intOf]; omega
      · obtain rfl : j = n := by omega
        have HTn : Hid (C.take i = dropW L x) := Lib.hid (by rw [HT.out, List.take_of_length_le (by rw [HN.out]; omega)])
        have hjv : j ≤ vc := by
          have hO : Own wr 58 7 (.slice (some ⟨g, 0, none⟩) j vc) j (rows encW C) := hA.mid
          obtain ⟨g2, c2, he, h2⟩ := own_some hO (by omega)
          simp only [Value.slice.injEq] at he
          obtain ⟨_, _, rfl⟩ := he
          exact h2
        have H5 := Lib.hid hA
        clear hA
        have hij' : i < j := hij
        go_wp2_with (((with_reducible refine wpList_clear_all (i := i) (c := vc - i) etW.under zeroWt zWt_size (by omega) zWt_one l1 H5.out hij' rfl (.tmp 38) rfl ?_ ?_); (rfl); (intro w6 zs hA6); (have H6 := Lib.hid hA6); (clear hA6)))
        go_ret
        refine ⟨_, rfl, ?_⟩
        have h7 := H6.out.trunc l1 (i := i) (by omega)
        rw [setAll_take, rows_take encW_len, HTn.out] at h7
        have hlen : (dropW L x).length = i := by rw [← HTn.out, List.length_take, HC.out]; omega
        rw [hlen]
        exact h7
end Go.Proofs.YtfdofkokiaapoaaGreatDoor.W
