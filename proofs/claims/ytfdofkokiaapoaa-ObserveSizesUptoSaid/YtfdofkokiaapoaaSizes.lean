/- ObserveSizes, the walk: for any steps the law returns true and changes nothing. -/
import Derived.Test.YtfdofkokiaapoaaSizA
import Derived.Deep.CutBlock
namespace Go.Proofs.Ytfdofkokiaapoaa.W
open Go.RowKit
set_option linter.unusedVariables false

theorem st_slice2 {B : Nat} {w0 w : World} {g : Nat} {zv : Value} {nx : Int} {z : Zv} {zs : List Zv} {l : List Ob} (h : All B w0 (stL g zv nx (zs ++ [z]) ++ l) w) : ∃ zg zc, zv = .slice (some ⟨zg, 0, none⟩) (zs ++ [z]).length zc := by
  have hr : Own _ _ _ _ _ _ := h.tail.head
  obtain ⟨zg, zc, h1, _⟩ := own_some hr (by simp)
  exact ⟨zg, zc, h1⟩

set_option maxRecDepth 100000 in
set_option maxHeartbeats 40000000 in
theorem sizes_law (A : Option Addr) (l : List Stp) (c : Nat) (w : World) (h : InSt w A l) :
    Calls Try.prog 4 #[.slice A l.length c] w fun e w' => e = .returned (.bool true) ∧ Below w.heap.size w w' := by
  have H := Lib.hid h
  clear h
  by_cases hn : l.length ≤ 80
  · have hnb : decide ((80 : Int) < (l.length : Int)) = false := by simp; omega
    go_enter Try.func4, Try.ntmps4
    go_wp2_with fail
    refine (awake_any _).mono ?_
    rintro e w1 ⟨rfl, hb1⟩
    have hC := create_any (st_new ((All.start w).still hb1) w1.heap.size rfl) 50 (by omega) (by omega) (by simp)
    obtain ⟨g, hg⟩ : ∃ g, w1.heap.size = g := ⟨_, rfl⟩
    rw [hg] at hC
    have HC := Lib.hid hC
    clear hC hb1
    go_wp2_with fail
    refine HC.out.mono ?_
    rintro e w2 ⟨zv, rfl, hA2⟩
    have HC2 := Lib.hid (create_any hA2 51 (by omega) (by omega) (by simp))
    clear HC hA2
    go_wp2_with fail
    refine HC2.out.mono ?_
    rintro e w3 ⟨zv, rfl, hA3⟩
    obtain ⟨zg, zc, rfl⟩ := st_slice2 hA3
    clear HC2
    go_wp2_with fail
    have hA4 := ((((hA3.nil 41 3).nil 41 3).nil 41 3).nil 41 3).newBkA w3.heap.size rfl [.slice none 0 0, .slice none 0 0, .slice none 0 0, .slice none 0 0] 47
    obtain ⟨gm, hgm⟩ : ∃ gm, w3.heap.size = gm := ⟨_, rfl⟩
    rw [hgm] at hA4 ⊢
    have hA5 : All w.heap.size w (LS g zg zc gm ⟨1, 50, [], []⟩ ⟨2, 51, [], []⟩ (.slice none 0 0) (.slice none 0 0) (.slice none 0 0) (.slice none 0 0) (.slice none 0 0) (.slice none 0 0) (.slice none 0 0) (.slice none 0 0)) (w3.alloc (.cells #[.slice none 0 0, .slice none 0 0, .slice none 0 0, .slice none 0 0] 47)) := hA4.sel [5, 6, 7, 8, 9, 10, 0, 1, 2, 3, 4] (by decide)
    clear hA3 hA4
    have hR : LsR w g zg zc gm 0 (w3.alloc (.cells #[.slice none 0 0, .slice none 0 0, .slice none 0 0, .slice none 0 0] 47)) := ⟨_, _, _, _, _, _, _, _, _, _, rfl, rfl, rfl, rfl, ⟨by simp [Nd], by simp [Nd], by simp, by simp, by simp⟩, ⟨by simp [Nd], by simp [Nd], by simp, by simp, by simp⟩, hA5⟩
    clear hA5
    go_loopw [27] (fun iv wr => SzsR w g zg zc gm l.length iv wr) (fun iv _ => l.length - (intOf iv).toNat)
    case atStart => exact ⟨0, Nat.zero_le _, rfl, hR⟩
    case round =>
      clear hR hgm hg
      obtain ⟨k, hk, rfl, hR⟩ := hrel
      by_cases hkl : k < l.length
      · obtain ⟨y, hy⟩ : ∃ y, l[k]? = some y := ⟨_, List.getElem?_eq_getElem hkl⟩
        have hbl : Below w.heap.size w wr := by obtain ⟨M0, M1, a0, b0, a1, b1, s0, e0, s1, e1, _, _, _, _, _, _, h7⟩ := hR; exact h7.below
        obtain ⟨b, off, rfl, hbl', hc⟩ := H.out.1 (by omega)
        obtain ⟨i1, i2, i3, ⟨i4, i5⟩, ⟨i6, i7⟩, ⟨i8, i9⟩⟩ := H.out.2 y (List.mem_of_getElem? hy)
        obtain ⟨q0, q1, q2, q3⟩ := hc k y hy
        have r0 := (hbl.cell (p := ⟨b, off + k * 4, none⟩) hbl').trans q0
        have r1 := (hbl.cell (p := ⟨b, off + k * 4 + 1, none⟩) hbl').trans q1
        have r2 := (hbl.cell (p := ⟨b, off + k * 4 + 2, none⟩) hbl').trans q2
        have r3 := (hbl.cell (p := ⟨b, off + k * 4 + 3, none⟩) hbl').trans q3
        have HI1 := Lib.hid i1
        have HI2 := Lib.hid i2
        obtain ⟨kd, sz, nd, yA, yL, yc⟩ := y
        simp only at r0 r1 r2 r3 i3 i4 i5 i6 i7 i8 i9
        have HR := Lib.hid hR
        clear q0 q1 q2 q3 hc hy i1 i2 hR
        go_upto_region 11 with (fail)
        have w1' : IntKind.i64.wrap sz = sz := IntWalk.i64_in _ ⟨by omega, by omega⟩
        have w2' : IntKind.i64.wrap nd = nd := IntWalk.i64_in _ ⟨by omega, by omega⟩
        obtain ⟨par, hpar⟩ : ∃ par, sz.tmod 2 = par := ⟨_, rfl⟩
        have hp01 : par = 0 ∨ par = 1 := by
          have := Int.tmod_eq_emod_of_nonneg (b := 2) i6
          omega
        have w3' : IntKind.i64.wrap par = par := IntWalk.i64_in _ ⟨by omega, by omega⟩
        go_quiet (fail)
        clear w1' w2' w3' hpar r0 r1 r2 r3
        go_upto_block 2 with (fail)
        have HWR := Lib.hid ((Below.refl wr.heap.size wr).alloc (Nat.le_refl _) (.cells #[.int .u8 kd, .int .u8 sz, .int .u8 nd, .slice yA yL.length yc] 49))
        go_cut [] (fun wx => LsR w g zg zc gm (k + 1) wx)
        case first =>
          obtain ⟨M0, M1, a0, b0, a1, b1, s0, e0, s1, e1, j1, j2, j3, j4, j5, j6, hA⟩ := HR.out
          have hA1 := (hA.newBkA wr.heap.size rfl [.int .u8 kd, .int .u8 sz, .int .u8 nd, .slice yA yL.length yc] 49).drewN nq
          clear HWR HR hA
          generalize hr6 : wr.heap.size = r6 at *
          clear hr6
          generalize hWW : (wr.alloc (.cells #[.int .u8 kd, .int .u8 sz, .int .u8 nd, .slice yA yL.length yc] 49)).drewN nq = W at *
          clear hWW
          have b6 : Blk _ _ _ _ := hA1.head
          have r0 := b6.cell 0
          have r3 := b6.cell 3
          simp only [List.getElem?_cons_zero, List.getElem?_cons_succ] at r0 r3
          have HA := Lib.hid hA1
          have HJ : Hid (M0.id = 1 ∧ M0.cb = 50 ∧ M1.id = 2 ∧ M1.cb = 51) := Lib.hid ⟨j1, j2, j3, j4⟩
          clear hA1 b6 hbl j1 j2 j3 j4
          have k4 : kd % 4 = 0 ∨ kd % 4 = 1 ∨ kd % 4 = 2 ∨ kd % 4 = 3 := by omega
          rcases k4 with h4 | h4 | h4 | h4
          · as_aux_lemma =>
              have d0 : (kd % 4 == 0) = true := by simpa using h4
              clear h4
              go_wp2_with fail
              refine (sizes_any (HI1.out.still HA.out.below) HI2.out i3).mono ?_
              rintro e w3 ⟨v, rfl, hA3⟩
              have h3 := (HA.out.after hA3).perm (perm_ms _ _ _ _)
              have HM := Lib.hid (measure_any (lv := v) (L := yL) h3 rfl (by omega) (by simp) i3 (by intro z hz; have := j5.sl; have := j5.el; have := j6.sl; have := j6.el; simp at hz; rcases hz with rfl | rfl <;> (simp only; omega)))
              clear HA hA3 h3 r0 r3
              go_wp2_with fail
              refine HM.out.mono ?_
              rintro e w4 ⟨zs', rfl, hm, hA4⟩
              obtain ⟨a0', b0', a1', b1', rfl⟩ := map_two (z := M0.all yL) (z2 := M1.all yL) (hm.trans (by simp [meas_all]))
              have b6 : Blk w4 r6 [.int .u8 kd, .int .u8 sz, .int .u8 nd, .slice yA yL.length yc] 49 := hA4.P (bk r6 [.int .u8 kd, .int .u8 sz, .int .u8 nd, .slice yA yL.length yc] 49) (by simp)
              have r3 := b6.cell 3
              simp only [List.getElem?_cons_zero, List.getElem?_cons_succ] at r3
              have hA5 : All w.heap.size w (bk gm [s0, e0, s1, e1] 47 :: zl s0 M0.sz :: zl e0 M0.en :: _) w4 := hA4.sel [6, 7, 8, 0, 1, 2, 3, 4, 5, 9, 10, 12] (by decide)
              have HM := Lib.hid (mmeasure_any (o := 0) (c := yc) hA5 rfl rfl HI1.out HI2.out i3 (by have := j5.sl; omega) (by have := j5.el; omega) j5.e)
              clear hA4 hA5 b6 hm
              go_wp2_with fail
              refine HM.out.mono ?_
              rintro e w5 ⟨e0', rfl, hA6⟩
              have b6 : Blk w5 r6 [.int .u8 kd, .int .u8 sz, .int .u8 nd, .slice yA yL.length yc] 49 := hA6.P (bk r6 [.int .u8 kd, .int .u8 sz, .int .u8 nd, .slice yA yL.length yc] 49) (List.mem_of_getElem? (i := 11) (by rfl))
              have r3' := b6.cell 3
              simp only [List.getElem?_cons_zero, List.getElem?_cons_succ] at r3'
              have hA7 : All w.heap.size w (bk gm [s0, e0', s1, e1] 47 :: zl s1 M1.sz :: zl e1 M1.en :: _) w5 := hA6.sel [0, 9, 10, 3, 4, 5, 6, 7, 8, 1, 2, 11] (by decide)
              have HM := Lib.hid (mmeasure_any (o := 2) (c := yc) hA7 rfl rfl HI1.out HI2.out i3 (by have := j6.sl; omega) (by have := j6.el; omega) j6.e)
              clear hA6 hA7 b6 r3
              go_wp2_with fail
              refine HM.out.mono ?_
              rintro e w6 ⟨e1', rfl, hA8⟩
              have HF : Hid (All w.heap.size w (LS g zg zc gm (M0.all yL) (M1.all yL) a0' b0' a1' b1' s0 e0' s1 e1') w6) := Lib.hid (hA8.sel [3, 4, 5, 6, 7, 8, 0, 9, 10, 1, 2] (by decide))
              clear hA8 r3'
              go_wp2_with fail
              go_meet
              exact ⟨M0.all yL, M1.all yL, _, _, _, _, _, _, _, _, HJ.out.1, HJ.out.2.1, HJ.out.2.2.1, HJ.out.2.2.2, j5.all (by omega) yL, j6.all (by omega) yL, HF.out⟩
          · have d0 : (kd % 4 == 0) = false := by simp [h4]
            have d1 : (kd % 4 == 1) = true := by simpa using h4
            clear h4
            rcases hp01 with rfl | rfl
            · have hAL : All w.heap.size w (LS g zg zc gm M0 M1 a0 b0 a1 b1 s0 e0 s1 e1) W := HA.out.tail
              have bm : Blk W gm [s0, e0, s1, e1] 47 := hAL.P (bk gm [s0, e0, s1, e1] 47) (List.mem_of_getElem? (i := 6) (by rfl))
              have c0 := bm.cell 0
              simp only [List.getElem?_cons_zero] at c0
              have hz1 : Own W _ 3 s0 M0.sz.length (rows encZ M0.sz) := hAL.P (zl s0 M0.sz) (List.mem_of_getElem? (i := 7) (by rfl))
              obtain ⟨xa, xb, rfl⟩ := own_shape hz1
              have hH := has_any nd c0 hz1 (by have := j5.sl; omega)
              rcases place_cases M0.sz nd with ⟨hx, _, _⟩ | ⟨ii, yy, hx, _, _, _, _⟩
              · as_aux_lemma =>
                  rw [has_no hx] at hH
                  have HH := Lib.hid hH
                  have HX := Lib.hid hx
                  have hA1 : All w.heap.size w (bk gm _ 47 :: zl (.slice xa M0.sz.length xb) M0.sz :: _) W := hAL.sel [6, 7, 0, 1, 2, 3, 4, 5, 8, 9, 10] (by decide)
                  have HA1 := Lib.hid hA1
                  have hsl := j5.sl
                  clear hH bm hz1 hAL hx hA1 HA r0 r3
                  go_wp2_with fail
                  refine HH.out.mono ?_
                  rintro e w3 ⟨rfl, hb3⟩
                  have hA3 := HA1.out.still hb3
                  have bm3 : Blk _ _ _ _ := hA3.head
                  have d0' := bm3.cell 0
                  simp only [List.getElem?_cons_zero] at d0'
                  have df := bm3.free
                  have dl := bm3.lt
                  have H9 := Lib.hid (hA3.alloc (.cells #[.int .i64 nd, .int .i64 (-1), .int .i64 (-1)] 41))
                  clear hA3 bm3 hb3 HH HA1 c0
                  go_wp2_with (at_builtin; refine wpList_append_all etZ [_] H9.out (own_at (n := 1) (size := 3) (Blk.new w3 [.int .i64 nd, .int .i64 (-1), .int .i64 (-1)] 41) rfl (by omega)) (by intro u hu; simp at hu; rcases hu with rfl | rfl | rfl <;> rfl) (by omega) (by omega) rfl _ _ rfl rfl rfl ?_; intro v' w4 hA4; have ho : Own _ _ _ _ _ _ := hA4.tail.head; obtain ⟨ya, yb, rfl⟩ := own_shape ho; have bm4 : Blk _ _ _ _ := hA4.head; have g0 := bm4.cell 0; (simp only [List.getElem?_cons_zero] at g0); have gf := bm4.free; have gl := bm4.lt; have hA5 := (All.zsnoc (y := (nd, -1, -1)) [_] hA4).setBk [] 0 (.slice ya (M0.sz.length + 1) yb); have HA5 := Lib.hid hA5; clear hA4 hA5 ho bm4 d0' df dl H9)
                  have hA6 := HA5.out.sel [2, 3, 4, 5, 6, 7, 0, 1, 8, 9, 10] (by decide)
                  have hO := observe_new (z1 := []) (z2 := [(M1, a1, b1)]) (z := M0) (a := a0) (b := b0) (zg := zg) (zc := zc) (nx := 2) (g := g) (l := [bk gm _ _, zl _ _, zl _ _, zl _ _, zl _ _]) hA6 (by simp) (by simp) nd (by omega) HX.out
                  rw [HJ.out.1] at hO
                  have HO := Lib.hid hO
                  clear hA6 hO g0 gf gl HA5
                  go_wp2_with fail
                  refine HO.out.mono ?_
                  rintro e w5 ⟨a', rfl, hA7⟩
                  have HF : Hid (All w.heap.size w (LS g zg zc gm (M0.watch nd) (M1) a' b0 a1 b1 (.slice ya (M0.sz.length + 1) yb) e0 s1 e1) w5) := Lib.hid hA7
                  clear hA7 HO
                  go_wp2_with fail
                  go_meet
                  have hx := HX.out
                  exact ⟨M0.watch nd, M1, _, _, _, _, _, _, _, _, HJ.out.1, HJ.out.2.1, HJ.out.2.2.1, HJ.out.2.2.2, j5.watch hx, j6.mono (by omega), HF.out⟩
              · as_aux_lemma =>
                  have hx0 : 0 ≤ placeOf M0.sz nd := by omega
                  rw [has_yes hx0] at hH
                  have HH := Lib.hid hH
                  have HX := Lib.hid hx0
                  have hsl := j5.sl
                  have HAL := Lib.hid hAL
                  clear hH bm hz1 hAL hx hx0 HA r0 r3
                  go_wp2_with fail
                  refine HH.out.mono ?_
                  rintro e w3 ⟨rfl, hb3⟩
                  have HA3 := Lib.hid (HAL.out.still hb3)
                  have hO := observe_twice (z1 := []) (z2 := [(M1, a1, b1)]) (z := M0) (a := a0) (b := b0) (zg := zg) (zc := zc) (nx := 2) (g := g) (l := [bk gm _ _, zl _ _, zl _ _, zl _ _, zl _ _]) HA3.out (by simp) (by simp) nd (by omega) HX.out
                  rw [HJ.out.1] at hO
                  have HO := Lib.hid hO
                  clear hO c0 HH HAL hb3
                  go_wp2_with fail
                  refine HO.out.mono ?_
                  rintro e w5 ⟨rfl, hb5⟩
                  have HF := Lib.hid (HA3.out.still hb5)
                  clear HO HA3 hb5
                  go_wp2_with fail
                  go_meet
                  exact ⟨_, _, _, _, _, _, _, _, _, _, HJ.out.1, HJ.out.2.1, HJ.out.2.2.1, HJ.out.2.2.2, j5.mono (by omega), j6.mono (by omega), HF.out⟩
            · have hAL : All w.heap.size w (LS g zg zc gm M0 M1 a0 b0 a1 b1 s0 e0 s1 e1) W := HA.out.tail
              have bm : Blk W gm [s0, e0, s1, e1] 47 := hAL.P (bk gm [s0, e0, s1, e1] 47) (List.mem_of_getElem? (i := 6) (by rfl))
              have c0 := bm.cell 2
              simp only [List.getElem?_cons_zero, List.getElem?_cons_succ] at c0
              have hz1 : Own W _ 3 s1 M1.sz.length (rows encZ M1.sz) := hAL.P (zl s1 M1.sz) (List.mem_of_getElem? (i := 9) (by rfl))
              obtain ⟨xa, xb, rfl⟩ := own_shape hz1
              have hH := has_any nd c0 hz1 (by have := j6.sl; omega)
              rcases place_cases M1.sz nd with ⟨hx, _, _⟩ | ⟨ii, yy, hx, _, _, _, _⟩
              · as_aux_lemma =>
                  rw [has_no hx] at hH
                  have HH := Lib.hid hH
                  have HX := Lib.hid hx
                  have hA1 : All w.heap.size w (bk gm _ 47 :: zl (.slice xa M1.sz.length xb) M1.sz :: _) W := hAL.sel [6, 9, 0, 1, 2, 3, 4, 5, 7, 8, 10] (by decide)
                  have HA1 := Lib.hid hA1
                  have hsl := j6.sl
                  clear hH bm hz1 hAL hx hA1 HA r0 r3
                  go_wp2_with fail
                  refine HH.out.mono ?_
                  rintro e w3 ⟨rfl, hb3⟩
                  have hA3 := HA1.out.still hb3
                  have bm3 : Blk _ _ _ _ := hA3.head
                  have d0' := bm3.cell 2
                  simp only [List.getElem?_cons_zero, List.getElem?_cons_succ] at d0'
                  have df := bm3.free
                  have dl := bm3.lt
                  have H9 := Lib.hid (hA3.alloc (.cells #[.int .i64 nd, .int .i64 (-1), .int .i64 (-1)] 41))
                  clear hA3 bm3 hb3 HH HA1 c0
                  go_wp2_with (at_builtin; refine wpList_append_all etZ [_] H9.out (own_at (n := 1) (size := 3) (Blk.new w3 [.int .i64 nd, .int .i64 (-1), .int .i64 (-1)] 41) rfl (by omega)) (by intro u hu; simp at hu; rcases hu with rfl | rfl | rfl <;> rfl) (by omega) (by omega) rfl _ _ rfl rfl rfl ?_; intro v' w4 hA4; have ho : Own _ _ _ _ _ _ := hA4.tail.head; obtain ⟨ya, yb, rfl⟩ := own_shape ho; have bm4 : Blk _ _ _ _ := hA4.head; have g0 := bm4.cell 2; (simp only [List.getElem?_cons_zero, List.getElem?_cons_succ] at g0); have gf := bm4.free; have gl := bm4.lt; have hA5 := (All.zsnoc (y := (nd, -1, -1)) [_] hA4).setBk [] 2 (.slice ya (M1.sz.length + 1) yb); have HA5 := Lib.hid hA5; clear hA4 hA5 ho bm4 d0' df dl H9)
                  have hA6 := HA5.out.sel [2, 3, 4, 5, 6, 7, 0, 8, 9, 1, 10] (by decide)
                  have hO := observe_new (z1 := [(M0, a0, b0)]) (z2 := []) (z := M1) (a := a1) (b := b1) (zg := zg) (zc := zc) (nx := 2) (g := g) (l := [bk gm _ _, zl _ _, zl _ _, zl _ _, zl _ _]) hA6 (by intro y hy; simp at hy; subst hy; simp only; rw [HJ.out.1, HJ.out.2.2.1]; decide) (by simp) nd (by omega) HX.out
                  rw [HJ.out.2.2.1] at hO
                  have HO := Lib.hid hO
                  clear hA6 hO g0 gf gl HA5
                  go_wp2_with fail
                  refine HO.out.mono ?_
                  rintro e w5 ⟨a', rfl, hA7⟩
                  have HF : Hid (All w.heap.size w (LS g zg zc gm (M0) (M1.watch nd) a0 b0 a' b1 s0 e0 (.slice ya (M1.sz.length + 1) yb) e1) w5) := Lib.hid hA7
                  clear hA7 HO
                  go_wp2_with fail
                  go_meet
                  have hx := HX.out
                  exact ⟨M0, M1.watch nd, _, _, _, _, _, _, _, _, HJ.out.1, HJ.out.2.1, HJ.out.2.2.1, HJ.out.2.2.2, j5.mono (by omega), j6.watch hx, HF.out⟩
              · as_aux_lemma =>
                  have hx0 : 0 ≤ placeOf M1.sz nd := by omega
                  rw [has_yes hx0] at hH
                  have HH := Lib.hid hH
                  have HX := Lib.hid hx0
                  have hsl := j6.sl
                  have HAL := Lib.hid hAL
                  clear hH bm hz1 hAL hx hx0 HA r0 r3
                  go_wp2_with fail
                  refine HH.out.mono ?_
                  rintro e w3 ⟨rfl, hb3⟩
                  have HA3 := Lib.hid (HAL.out.still hb3)
                  have hO := observe_twice (z1 := [(M0, a0, b0)]) (z2 := []) (z := M1) (a := a1) (b := b1) (zg := zg) (zc := zc) (nx := 2) (g := g) (l := [bk gm _ _, zl _ _, zl _ _, zl _ _, zl _ _]) HA3.out (by intro y hy; simp at hy; subst hy; simp only; rw [HJ.out.1, HJ.out.2.2.1]; decide) (by simp) nd (by omega) HX.out
                  rw [HJ.out.2.2.1] at hO
                  have HO := Lib.hid hO
                  clear hO c0 HH HAL hb3
                  go_wp2_with fail
                  refine HO.out.mono ?_
                  rintro e w5 ⟨rfl, hb5⟩
                  have HF := Lib.hid (HA3.out.still hb5)
                  clear HO HA3 hb5
                  go_wp2_with fail
                  go_meet
                  exact ⟨_, _, _, _, _, _, _, _, _, _, HJ.out.1, HJ.out.2.1, HJ.out.2.2.1, HJ.out.2.2.2, j5.mono (by omega), j6.mono (by omega), HF.out⟩
          · have d0 : (kd % 4 == 0) = false := by simp [h4]
            have d1 : (kd % 4 == 1) = false := by simp [h4]
            have d2 : (kd % 4 == 2) = true := by simpa using h4
            clear h4
            rcases hp01 with rfl | rfl
            · have hAL : All w.heap.size w (LS g zg zc gm M0 M1 a0 b0 a1 b1 s0 e0 s1 e1) W := HA.out.tail
              have bm : Blk W gm [s0, e0, s1, e1] 47 := hAL.P (bk gm [s0, e0, s1, e1] 47) (List.mem_of_getElem? (i := 6) (by rfl))
              have c0 := bm.cell 0
              simp only [List.getElem?_cons_zero] at c0
              have hz1 : Own W _ 3 s0 M0.sz.length (rows encZ M0.sz) := hAL.P (zl s0 M0.sz) (List.mem_of_getElem? (i := 7) (by rfl))
              have hz2 : Own W _ 3 e0 M0.en.length (rows encZ M0.en) := hAL.P (zl e0 M0.en) (List.mem_of_getElem? (i := 8) (by rfl))
              obtain ⟨xa, xb, rfl⟩ := own_shape hz1
              obtain ⟨ya, yb, rfl⟩ := own_shape hz2
              have hH := has_any nd c0 hz1 (by have := j5.sl; omega)
              have hsl := j5.sl
              have hel := j5.el
              rcases place_cases M0.sz nd with ⟨hx, _, _⟩ | ⟨ii, yy, hx, _, _, _, _⟩
              · as_aux_lemma =>
                  rw [has_no hx] at hH
                  have HH := Lib.hid hH
                  have HX := Lib.hid hx
                  have HAL := Lib.hid hAL
                  clear hH bm hz1 hz2 hAL hx HA r0 r3 c0
                  go_wp2_with fail
                  refine HH.out.mono ?_
                  rintro e w3 ⟨rfl, hb3⟩
                  have hA3 := HAL.out.still hb3
                  have bm3 : Blk w3 gm [.slice xa M0.sz.length xb, .slice ya M0.en.length yb, s1, e1] 47 := hA3.P (bk gm [.slice xa M0.sz.length xb, .slice ya M0.en.length yb, s1, e1] 47) (List.mem_of_getElem? (i := 6) (by rfl))
                  have c0 := bm3.cell 0
                  simp only [List.getElem?_cons_zero] at c0
                  have hz3 : Own w3 _ 3 (.slice xa M0.sz.length xb) M0.sz.length (rows encZ M0.sz) := hA3.P (zl (.slice xa M0.sz.length xb) M0.sz) (List.mem_of_getElem? (i := 7) (by rfl))
                  have HW := Lib.hid (lwithout_any nd hz3 (by omega))
                  have HA3 := Lib.hid hA3
                  clear hA3 bm3 hb3 HH HAL hz3
                  go_wp2_with fail
                  refine HW.out.mono ?_
                  rintro e w4 ⟨v', rfl, hA4⟩
                  have ho : Own _ _ _ _ _ _ := hA4.head
                  obtain ⟨pa, pb, rfl⟩ := own_shape ho
                  have hA5 := (HA3.out.after hA4).sel [7, 1, 2, 3, 4, 5, 6, 0, 9, 10, 11] (by decide)
                  have hA5' : All w.heap.size w (bk gm [.slice xa M0.sz.length xb, .slice ya M0.en.length yb, s1, e1] 47 :: _) w4 := hA5
                  have bm4 : Blk _ _ _ _ := hA5'.head
                  have c1 := bm4.cell 0
                  simp only [List.getElem?_cons_zero] at c1
                  have cf := bm4.free
                  have cl := bm4.lt
                  have HA5 := Lib.hid (hA5'.setBk [] 0 (.slice pa (dropN M0.sz nd).length pb))
                  clear hA4 hA5 hA5' ho bm4 HW HA3 c0
                  go_upto_region 36 with (fail)
                  clear c1 cf cl
                  generalize (w4.setCell ⟨gm, 0, none⟩ (.slice pa (dropN M0.sz nd).length pb)) = W5 at *
                  have bm5 : Blk _ _ _ _ := HA5.out.head
                  have c2 := bm5.cell 1
                  simp only [List.set_cons_zero, List.getElem?_cons_zero, List.getElem?_cons_succ] at c2
                  have hz5 : Own W5 _ 3 (.slice ya M0.en.length yb) M0.en.length (rows encZ M0.en) := HA5.out.P (zl (.slice ya M0.en.length yb) M0.en) (List.mem_of_getElem? (i := 8) (by rfl))
                  have HW := Lib.hid (lwithout_any nd hz5 (by omega))
                  clear bm5 hz5
                  go_wp2_with fail
                  refine HW.out.mono ?_
                  rintro e w6 ⟨v'', rfl, hA6⟩
                  have ho : Own _ _ _ _ _ _ := hA6.head
                  obtain ⟨qa, qb, rfl⟩ := own_shape ho
                  have hA7 := (HA5.out.after hA6).sel [1, 2, 3, 4, 5, 6, 7, 8, 0, 10, 11] (by decide)
                  have bm6 : Blk w6 gm ([.slice xa M0.sz.length xb, .slice ya M0.en.length yb, s1, e1].set 0 (.slice pa (dropN M0.sz nd).length pb)) 47 := hA7.head
                  have c3 := bm6.cell 1
                  simp only [List.set_cons_zero, List.getElem?_cons_zero, List.getElem?_cons_succ] at c3
                  have cf := bm6.free
                  have cl := bm6.lt
                  have hA7' : All w.heap.size w (bk gm ([.slice xa M0.sz.length xb, .slice ya M0.en.length yb, s1, e1].set 0 (.slice pa (dropN M0.sz nd).length pb)) 47 :: _) w6 := hA7
                  have HA8 := Lib.hid ((hA7'.setBk [] 1 (.slice qa (dropN M0.en nd).length qb)).sel [1, 2, 3, 4, 5, 6, 0, 7, 8, 9, 10] (by decide))
                  clear hA6 hA7 hA7' ho bm6 HW HA5 c2
                  go_upto_region 37 with (fail)
                  clear c3 cf cl
                  generalize (w6.setCell ⟨gm, 1, none⟩ (.slice qa (dropN M0.en nd).length qb)) = W7 at *
                  have hab := j5.absent HX.out
                  rw [hab.1, hab.2] at HA8
                  have hA8 : All w.heap.size w (LS g zg zc gm M0 M1 a0 b0 a1 b1 (.slice pa M0.sz.length pb) (.slice qa M0.en.length qb) s1 e1) W7 := HA8.out
                  have hO := unobserve_absent (z1 := []) (z2 := [(M1, a1, b1)]) (z := M0) (a := a0) (b := b0) (zg := zg) (zc := zc) (nx := 2) (g := g) (l := [bk gm _ _, zl _ _, zl _ _, zl _ _, zl _ _]) hA8 (by simp) (by simp) nd (by omega) HX.out
                  rw [HJ.out.1] at hO
                  have HO := Lib.hid hO
                  have HF0 := Lib.hid hA8
                  clear hab hO hA8 HA8
                  go_wp2_with fail
                  refine HO.out.mono ?_
                  rintro e w8 ⟨rfl, hb8⟩
                  have HF := Lib.hid (HF0.out.still hb8)
                  clear HO hb8 HF0
                  go_wp2_with fail
                  go_meet
                  exact ⟨_, _, _, _, _, _, _, _, _, _, HJ.out.1, HJ.out.2.1, HJ.out.2.2.1, HJ.out.2.2.2, j5.mono (by omega), j6.mono (by omega), HF.out⟩
              · as_aux_lemma =>
                  have hx0 : 0 ≤ placeOf M0.sz nd := by omega
                  rw [has_yes hx0] at hH
                  have HH := Lib.hid hH
                  have HX := Lib.hid hx0
                  have HAL := Lib.hid hAL
                  clear hH bm hz1 hz2 hAL hx hx0 HA r0 r3 c0
                  go_wp2_with fail
                  refine HH.out.mono ?_
                  rintro e w3 ⟨rfl, hb3⟩
                  have hA3 := HAL.out.still hb3
                  have bm3 : Blk w3 gm [.slice xa M0.sz.length xb, .slice ya M0.en.length yb, s1, e1] 47 := hA3.P (bk gm [.slice xa M0.sz.length xb, .slice ya M0.en.length yb, s1, e1] 47) (List.mem_of_getElem? (i := 6) (by rfl))
                  have c0 := bm3.cell 0
                  simp only [List.getElem?_cons_zero] at c0
                  have hz3 : Own w3 _ 3 (.slice xa M0.sz.length xb) M0.sz.length (rows encZ M0.sz) := hA3.P (zl (.slice xa M0.sz.length xb) M0.sz) (List.mem_of_getElem? (i := 7) (by rfl))
                  have HW := Lib.hid (lwithout_any nd hz3 (by omega))
                  have HA3 := Lib.hid hA3
                  clear hA3 bm3 hb3 HH HAL hz3
                  go_wp2_with fail
                  refine HW.out.mono ?_
                  rintro e w4 ⟨v', rfl, hA4⟩
                  have ho : Own _ _ _ _ _ _ := hA4.head
                  obtain ⟨pa, pb, rfl⟩ := own_shape ho
                  have hA5 := (HA3.out.after hA4).sel [7, 1, 2, 3, 4, 5, 6, 0, 9, 10, 11] (by decide)
                  have hA5' : All w.heap.size w (bk gm [.slice xa M0.sz.length xb, .slice ya M0.en.length yb, s1, e1] 47 :: _) w4 := hA5
                  have bm4 : Blk _ _ _ _ := hA5'.head
                  have c1 := bm4.cell 0
                  simp only [List.getElem?_cons_zero] at c1
                  have cf := bm4.free
                  have cl := bm4.lt
                  have HA5 := Lib.hid (hA5'.setBk [] 0 (.slice pa (dropN M0.sz nd).length pb))
                  clear hA4 hA5 hA5' ho bm4 HW HA3 c0
                  go_upto_region 36 with (fail)
                  clear c1 cf cl
                  generalize (w4.setCell ⟨gm, 0, none⟩ (.slice pa (dropN M0.sz nd).length pb)) = W5 at *
                  have bm5 : Blk _ _ _ _ := HA5.out.head
                  have c2 := bm5.cell 1
                  simp only [List.set_cons_zero, List.getElem?_cons_zero, List.getElem?_cons_succ] at c2
                  have hz5 : Own W5 _ 3 (.slice ya M0.en.length yb) M0.en.length (rows encZ M0.en) := HA5.out.P (zl (.slice ya M0.en.length yb) M0.en) (List.mem_of_getElem? (i := 8) (by rfl))
                  have HW := Lib.hid (lwithout_any nd hz5 (by omega))
                  clear bm5 hz5
                  go_wp2_with fail
                  refine HW.out.mono ?_
                  rintro e w6 ⟨v'', rfl, hA6⟩
                  have ho : Own _ _ _ _ _ _ := hA6.head
                  obtain ⟨qa, qb, rfl⟩ := own_shape ho
                  have hA7 := (HA5.out.after hA6).sel [1, 2, 3, 4, 5, 6, 7, 8, 0, 10, 11] (by decide)
                  have bm6 : Blk w6 gm ([.slice xa M0.sz.length xb, .slice ya M0.en.length yb, s1, e1].set 0 (.slice pa (dropN M0.sz nd).length pb)) 47 := hA7.head
                  have c3 := bm6.cell 1
                  simp only [List.set_cons_zero, List.getElem?_cons_zero, List.getElem?_cons_succ] at c3
                  have cf := bm6.free
                  have cl := bm6.lt
                  have hA7' : All w.heap.size w (bk gm ([.slice xa M0.sz.length xb, .slice ya M0.en.length yb, s1, e1].set 0 (.slice pa (dropN M0.sz nd).length pb)) 47 :: _) w6 := hA7
                  have HA8 := Lib.hid ((hA7'.setBk [] 1 (.slice qa (dropN M0.en nd).length qb)).sel [1, 2, 3, 4, 5, 6, 0, 7, 8, 9, 10] (by decide))
                  clear hA6 hA7 hA7' ho bm6 HW HA5 c2
                  go_upto_region 37 with (fail)
                  clear c3 cf cl
                  generalize (w6.setCell ⟨gm, 1, none⟩ (.slice qa (dropN M0.en nd).length qb)) = W7 at *
                  have hO := unobserve_yes (z1 := []) (z2 := [(M1, a1, b1)]) (z := M0) (a := a0) (b := b0) (zg := zg) (zc := zc) (nx := 2) (g := g) (N := 2) (l := [bk gm _ _, zl _ _, zl _ _, zl _ _, zl _ _]) HA8.out rfl (by simp) (by omega) nd (by omega) (by omega) HX.out
                  rw [HJ.out.1] at hO
                  have HO := Lib.hid hO
                  clear hO HA8
                  go_wp2_with fail
                  refine HO.out.mono ?_
                  rintro e w8 ⟨a', b', rfl, hA9⟩
                  have HF : Hid (All w.heap.size w (LS g zg zc gm (M0.unwatch nd) (M1) a' b' a1 b1 (.slice pa (dropN M0.sz nd).length pb) (.slice qa (dropN M0.en nd).length qb) s1 e1) w8) := Lib.hid hA9
                  clear HO hA9
                  go_wp2_with fail
                  go_meet
                  exact ⟨M0.unwatch nd, M1, _, _, _, _, _, _, _, _, HJ.out.1, HJ.out.2.1, HJ.out.2.2.1, HJ.out.2.2.2, (j5.unwatch nd).mono (by omega), j6.mono (by omega), HF.out⟩
            · have hAL : All w.heap.size w (LS g zg zc gm M0 M1 a0 b0 a1 b1 s0 e0 s1 e1) W := HA.out.tail
              have bm : Blk W gm [s0, e0, s1, e1] 47 := hAL.P (bk gm [s0, e0, s1, e1] 47) (List.mem_of_getElem? (i := 6) (by rfl))
              have c0 := bm.cell 2
              simp only [List.getElem?_cons_zero, List.getElem?_cons_succ] at c0
              have hz1 : Own W _ 3 s1 M1.sz.length (rows encZ M1.sz) := hAL.P (zl s1 M1.sz) (List.mem_of_getElem? (i := 9) (by rfl))
              have hz2 : Own W _ 3 e1 M1.en.length (rows encZ M1.en) := hAL.P (zl e1 M1.en) (List.mem_of_getElem? (i := 10) (by rfl))
              obtain ⟨xa, xb, rfl⟩ := own_shape hz1
              obtain ⟨ya, yb, rfl⟩ := own_shape hz2
              have hH := has_any nd c0 hz1 (by have := j6.sl; omega)
              have hsl := j6.sl
              have hel := j6.el
              rcases place_cases M1.sz nd with ⟨hx, _, _⟩ | ⟨ii, yy, hx, _, _, _, _⟩
              · as_aux_lemma =>
                  rw [has_no hx] at hH
                  have HH := Lib.hid hH
                  have HX := Lib.hid hx
                  have HAL := Lib.hid hAL
                  clear hH bm hz1 hz2 hAL hx HA r0 r3 c0
                  go_wp2_with fail
                  refine HH.out.mono ?_
                  rintro e w3 ⟨rfl, hb3⟩
                  have hA3 := HAL.out.still hb3
                  have bm3 : Blk w3 gm [s0, e0, .slice xa M1.sz.length xb, .slice ya M1.en.length yb] 47 := hA3.P (bk gm [s0, e0, .slice xa M1.sz.length xb, .slice ya M1.en.length yb] 47) (List.mem_of_getElem? (i := 6) (by rfl))
                  have c0 := bm3.cell 2
                  simp only [List.getElem?_cons_zero, List.getElem?_cons_succ] at c0
                  have hz3 : Own w3 _ 3 (.slice xa M1.sz.length xb) M1.sz.length (rows encZ M1.sz) := hA3.P (zl (.slice xa M1.sz.length xb) M1.sz) (List.mem_of_getElem? (i := 9) (by rfl))
                  have HW := Lib.hid (lwithout_any nd hz3 (by omega))
                  have HA3 := Lib.hid hA3
                  clear hA3 bm3 hb3 HH HAL hz3
                  go_wp2_with fail
                  refine HW.out.mono ?_
                  rintro e w4 ⟨v', rfl, hA4⟩
                  have ho : Own _ _ _ _ _ _ := hA4.head
                  obtain ⟨pa, pb, rfl⟩ := own_shape ho
                  have hA5 := (HA3.out.after hA4).sel [7, 1, 2, 3, 4, 5, 6, 8, 9, 0, 11] (by decide)
                  have hA5' : All w.heap.size w (bk gm [s0, e0, .slice xa M1.sz.length xb, .slice ya M1.en.length yb] 47 :: _) w4 := hA5
                  have bm4 : Blk _ _ _ _ := hA5'.head
                  have c1 := bm4.cell 2
                  simp only [List.getElem?_cons_zero, List.getElem?_cons_succ] at c1
                  have cf := bm4.free
                  have cl := bm4.lt
                  have HA5 := Lib.hid (hA5'.setBk [] 2 (.slice pa (dropN M1.sz nd).length pb))
                  clear hA4 hA5 hA5' ho bm4 HW HA3 c0
                  go_upto_region 36 with (fail)
                  clear c1 cf cl
                  generalize (w4.setCell ⟨gm, 2, none⟩ (.slice pa (dropN M1.sz nd).length pb)) = W5 at *
                  have bm5 : Blk _ _ _ _ := HA5.out.head
                  have c2 := bm5.cell 3
                  simp only [List.set_cons_zero, List.set_cons_succ, List.getElem?_cons_zero, List.getElem?_cons_succ] at c2
                  have hz5 : Own W5 _ 3 (.slice ya M1.en.length yb) M1.en.length (rows encZ M1.en) := HA5.out.P (zl (.slice ya M1.en.length yb) M1.en) (List.mem_of_getElem? (i := 10) (by rfl))
                  have HW := Lib.hid (lwithout_any nd hz5 (by omega))
                  clear bm5 hz5
                  go_wp2_with fail
                  refine HW.out.mono ?_
                  rintro e w6 ⟨v'', rfl, hA6⟩
                  have ho : Own _ _ _ _ _ _ := hA6.head
                  obtain ⟨qa, qb, rfl⟩ := own_shape ho
                  have hA7 := (HA5.out.after hA6).sel [1, 2, 3, 4, 5, 6, 7, 8, 9, 10, 0] (by decide)
                  have bm6 : Blk w6 gm ([s0, e0, .slice xa M1.sz.length xb, .slice ya M1.en.length yb].set 2 (.slice pa (dropN M1.sz nd).length pb)) 47 := hA7.head
                  have c3 := bm6.cell 3
                  simp only [List.set_cons_zero, List.set_cons_succ, List.getElem?_cons_zero, List.getElem?_cons_succ] at c3
                  have cf := bm6.free
                  have cl := bm6.lt
                  have hA7' : All w.heap.size w (bk gm ([s0, e0, .slice xa M1.sz.length xb, .slice ya M1.en.length yb].set 2 (.slice pa (dropN M1.sz nd).length pb)) 47 :: _) w6 := hA7
                  have HA8 := Lib.hid ((hA7'.setBk [] 3 (.slice qa (dropN M1.en nd).length qb)).sel [1, 2, 3, 4, 5, 6, 0, 7, 8, 9, 10] (by decide))
                  clear hA6 hA7 hA7' ho bm6 HW HA5 c2
                  go_upto_region 37 with (fail)
                  clear c3 cf cl
                  generalize (w6.setCell ⟨gm, 3, none⟩ (.slice qa (dropN M1.en nd).length qb)) = W7 at *
                  have hab := j6.absent HX.out
                  rw [hab.1, hab.2] at HA8
                  have hA8 : All w.heap.size w (LS g zg zc gm M0 M1 a0 b0 a1 b1 s0 e0 (.slice pa M1.sz.length pb) (.slice qa M1.en.length qb)) W7 := HA8.out
                  have hO := unobserve_absent (z1 := [(M0, a0, b0)]) (z2 := []) (z := M1) (a := a1) (b := b1) (zg := zg) (zc := zc) (nx := 2) (g := g) (l := [bk gm _ _, zl _ _, zl _ _, zl _ _, zl _ _]) hA8 (by intro y hy; simp at hy; subst hy; simp only; rw [HJ.out.1, HJ.out.2.2.1]; decide) (by simp) nd (by omega) HX.out
                  rw [HJ.out.2.2.1] at hO
                  have HO := Lib.hid hO
                  have HF0 := Lib.hid hA8
                  clear hab hO hA8 HA8
                  go_wp2_with fail
                  refine HO.out.mono ?_
                  rintro e w8 ⟨rfl, hb8⟩
                  have HF := Lib.hid (HF0.out.still hb8)
                  clear HO hb8 HF0
                  go_wp2_with fail
                  go_meet
                  exact ⟨_, _, _, _, _, _, _, _, _, _, HJ.out.1, HJ.out.2.1, HJ.out.2.2.1, HJ.out.2.2.2, j5.mono (by omega), j6.mono (by omega), HF.out⟩
              · as_aux_lemma =>
                  have hx0 : 0 ≤ placeOf M1.sz nd := by omega
                  rw [has_yes hx0] at hH
                  have HH := Lib.hid hH
                  have HX := Lib.hid hx0
                  have HAL := Lib.hid hAL
                  clear hH bm hz1 hz2 hAL hx hx0 HA r0 r3 c0
                  go_wp2_with fail
                  refine HH.out.mono ?_
                  rintro e w3 ⟨rfl, hb3⟩
                  have hA3 := HAL.out.still hb3
                  have bm3 : Blk w3 gm [s0, e0, .slice xa M1.sz.length xb, .slice ya M1.en.length yb] 47 := hA3.P (bk gm [s0, e0, .slice xa M1.sz.length xb, .slice ya M1.en.length yb] 47) (List.mem_of_getElem? (i := 6) (by rfl))
                  have c0 := bm3.cell 2
                  simp only [List.getElem?_cons_zero, List.getElem?_cons_succ] at c0
                  have hz3 : Own w3 _ 3 (.slice xa M1.sz.length xb) M1.sz.length (rows encZ M1.sz) := hA3.P (zl (.slice xa M1.sz.length xb) M1.sz) (List.mem_of_getElem? (i := 9) (by rfl))
                  have HW := Lib.hid (lwithout_any nd hz3 (by omega))
                  have HA3 := Lib.hid hA3
                  clear hA3 bm3 hb3 HH HAL hz3
                  go_wp2_with fail
                  refine HW.out.mono ?_
                  rintro e w4 ⟨v', rfl, hA4⟩
                  have ho : Own _ _ _ _ _ _ := hA4.head
                  obtain ⟨pa, pb, rfl⟩ := own_shape ho
                  have hA5 := (HA3.out.after hA4).sel [7, 1, 2, 3, 4, 5, 6, 8, 9, 0, 11] (by decide)
                  have hA5' : All w.heap.size w (bk gm [s0, e0, .slice xa M1.sz.length xb, .slice ya M1.en.length yb] 47 :: _) w4 := hA5
                  have bm4 : Blk _ _ _ _ := hA5'.head
                  have c1 := bm4.cell 2
                  simp only [List.getElem?_cons_zero, List.getElem?_cons_succ] at c1
                  have cf := bm4.free
                  have cl := bm4.lt
                  have HA5 := Lib.hid (hA5'.setBk [] 2 (.slice pa (dropN M1.sz nd).length pb))
                  clear hA4 hA5 hA5' ho bm4 HW HA3 c0
                  go_upto_region 36 with (fail)
                  clear c1 cf cl
                  generalize (w4.setCell ⟨gm, 2, none⟩ (.slice pa (dropN M1.sz nd).length pb)) = W5 at *
                  have bm5 : Blk _ _ _ _ := HA5.out.head
                  have c2 := bm5.cell 3
                  simp only [List.set_cons_zero, List.set_cons_succ, List.getElem?_cons_zero, List.getElem?_cons_succ] at c2
                  have hz5 : Own W5 _ 3 (.slice ya M1.en.length yb) M1.en.length (rows encZ M1.en) := HA5.out.P (zl (.slice ya M1.en.length yb) M1.en) (List.mem_of_getElem? (i := 10) (by rfl))
                  have HW := Lib.hid (lwithout_any nd hz5 (by omega))
                  clear bm5 hz5
                  go_wp2_with fail
                  refine HW.out.mono ?_
                  rintro e w6 ⟨v'', rfl, hA6⟩
                  have ho : Own _ _ _ _ _ _ := hA6.head
                  obtain ⟨qa, qb, rfl⟩ := own_shape ho
                  have hA7 := (HA5.out.after hA6).sel [1, 2, 3, 4, 5, 6, 7, 8, 9, 10, 0] (by decide)
                  have bm6 : Blk w6 gm ([s0, e0, .slice xa M1.sz.length xb, .slice ya M1.en.length yb].set 2 (.slice pa (dropN M1.sz nd).length pb)) 47 := hA7.head
                  have c3 := bm6.cell 3
                  simp only [List.set_cons_zero, List.set_cons_succ, List.getElem?_cons_zero, List.getElem?_cons_succ] at c3
                  have cf := bm6.free
                  have cl := bm6.lt
                  have hA7' : All w.heap.size w (bk gm ([s0, e0, .slice xa M1.sz.length xb, .slice ya M1.en.length yb].set 2 (.slice pa (dropN M1.sz nd).length pb)) 47 :: _) w6 := hA7
                  have HA8 := Lib.hid ((hA7'.setBk [] 3 (.slice qa (dropN M1.en nd).length qb)).sel [1, 2, 3, 4, 5, 6, 0, 7, 8, 9, 10] (by decide))
                  clear hA6 hA7 hA7' ho bm6 HW HA5 c2
                  go_upto_region 37 with (fail)
                  clear c3 cf cl
                  generalize (w6.setCell ⟨gm, 3, none⟩ (.slice qa (dropN M1.en nd).length qb)) = W7 at *
                  have hO := unobserve_yes (z1 := [(M0, a0, b0)]) (z2 := []) (z := M1) (a := a1) (b := b1) (zg := zg) (zc := zc) (nx := 2) (g := g) (N := 2) (l := [bk gm _ _, zl _ _, zl _ _, zl _ _, zl _ _]) HA8.out rfl (by intro y hy; simp at hy; subst hy; simp only; rw [HJ.out.1, HJ.out.2.2.1]; decide) (by omega) nd (by omega) (by omega) HX.out
                  rw [HJ.out.2.2.1] at hO
                  have HO := Lib.hid hO
                  clear hO HA8
                  go_wp2_with fail
                  refine HO.out.mono ?_
                  rintro e w8 ⟨a', b', rfl, hA9⟩
                  have HF : Hid (All w.heap.size w (LS g zg zc gm (M0) (M1.unwatch nd) a0 b0 a' b' s0 e0 (.slice pa (dropN M1.sz nd).length pb) (.slice qa (dropN M1.en nd).length qb)) w8) := Lib.hid hA9
                  clear HO hA9
                  go_wp2_with fail
                  go_meet
                  exact ⟨M0, M1.unwatch nd, _, _, _, _, _, _, _, _, HJ.out.1, HJ.out.2.1, HJ.out.2.2.1, HJ.out.2.2.2, j5.mono (by omega), (j6.unwatch nd).mono (by omega), HF.out⟩
          · have d0 : (kd % 4 == 0) = false := by simp [h4]
            have d1 : (kd % 4 == 1) = false := by simp [h4]
            have d2 : (kd % 4 == 2) = false := by simp [h4]
            clear h4
            by_cases hpos : 0 < M0.en.length
            · as_aux_lemma =>
                have hAL : All w.heap.size w (LS g zg zc gm M0 M1 a0 b0 a1 b1 s0 e0 s1 e1) W := HA.out.tail
                have hz1 : Own W _ 3 b0 M0.en.length (rows encZ M0.en) := hAL.P (zl b0 M0.en) (List.mem_of_getElem? (i := 3) (by rfl))
                have hz2 : Own W _ 3 e0 M0.en.length (rows encZ M0.en) := hAL.P (zl e0 M0.en) (List.mem_of_getElem? (i := 8) (by rfl))
                obtain ⟨xa, xb, rfl⟩ := own_shape hz1
                obtain ⟨ya, yb, rfl⟩ := own_shape hz2
                have hsl := j5.sl
                have hel := j5.el
                have hsl' := j6.sl
                have hel' := j6.el
                have hD := deliver_some (z1 := []) (z2 := [(M1, a1, b1)]) (z := M0) (a := a0) (b := (.slice xa M0.en.length xb)) (zg := zg) (zc := zc) (nx := 2) (g := g) (l := [bk gm _ _, zl _ _, zl _ _, zl _ _, zl _ _]) hAL (by simp) (by simp) (by intro y hy; simp at hy; rcases hy with rfl | rfl <;> (simp only; omega)) (by simp only [List.nil_append]; exact next_two0 HJ.out.1 HJ.out.2.2.1 hpos)
                rw [HJ.out.1, HJ.out.2.1] at hD
                have HD := Lib.hid hD
                have hE0 : (((M0.en.length : Nat) : Int) == 0) = false := beq_eq_false_iff_ne.2 (by omega)
                have hE1 : decide ((0 : Int) < ((M0.en.length : Nat) : Int)) = true := decide_eq_true (by omega)
                clear hD hz1 hz2 hAL HA r0 r3
                go_wp2_with fail
                refine HD.out.mono ?_
                rintro e w3 ⟨rfl, hA3⟩
                have hA4 := hA3.newBkA w3.heap.size rfl [.int .i64 1, .int .i64 50, .slice none 0 0, (.slice xa M0.en.length xb)] 37
                have HA4 := Lib.hid hA4
                clear hA3 HD hA4
                go_upto_region 15 with (fail)
                generalize hr : w3.heap.size = r11 at *
                clear hr
                generalize w3.alloc (.cells #[.int .i64 1, .int .i64 50, .slice none 0 0, (.slice xa M0.en.length xb)] 37) = W4 at *
                have b11 : Blk _ _ _ _ := HA4.out.head
                have p0 := b11.cell 0
                have p1 := b11.cell 1
                have p2 := b11.cell 2
                have p3 := b11.cell 3
                simp only [List.getElem?_cons_zero, List.getElem?_cons_succ] at p0 p1 p2 p3
                have bm : Blk W4 gm [s0, (.slice ya M0.en.length yb), s1, e1] 47 := HA4.out.P (bk gm [s0, (.slice ya M0.en.length yb), s1, e1] 47) (List.mem_of_getElem? (i := 8) (by rfl))
                have c1 := bm.cell 1
                have c3 := bm.cell 3
                simp only [List.getElem?_cons_zero, List.getElem?_cons_succ] at c1 c3
                have cf := bm.free
                have cl := bm.lt
                have HO1 := Lib.hid (show Own W4 41 3 (.slice xa M0.en.length xb) M0.en.length (rows encZ M0.en) from HA4.out.P (zl (.slice xa M0.en.length xb) M0.en) (List.mem_of_getElem? (i := 7) (by rfl)))
                have HO2 := Lib.hid (show Own W4 41 3 (.slice ya M0.en.length yb) M0.en.length (rows encZ M0.en) from HA4.out.P (zl (.slice ya M0.en.length yb) M0.en) (List.mem_of_getElem? (i := 10) (by rfl)))
                clear b11 bm
                go_wp2_with fail
                go_quiet ((go_at_call 17; exact Calls.quiet_of (alike_any (w := World.drewN _ _) HO1.out HO2.out (by omega))))
                have hA5 := ((HA4.out.nil 41 3).sel [9, 2, 3, 4, 5, 6, 7, 10, 0, 12, 13] (by decide)).drewN nq
                have hA5' : All w.heap.size w (bk gm [s0, (.slice ya M0.en.length yb), s1, e1] 47 :: _) (W4.drewN nq) := hA5
                have HA6 := Lib.hid ((hA5'.setBk [] 1 (.slice none 0 0)).sel [1, 2, 3, 4, 5, 6, 0, 7, 8, 9, 10] (by decide))
                clear hA5 hA5' HO1 HO2 HA4
                generalize hWd : W4.drewN nq = W5 at *
                have HWd := Lib.hid hWd
                have q1 : ∀ o v, W4.cell? ⟨gm, o, none⟩ = some v → W5.cell? ⟨gm, o, none⟩ = some v := fun o v h => by rw [← hWd]; exact h
                have q3 := q1 _ _ c1
                have q4 := q1 _ _ c3
                have qf : ∀ o, W5.frozen? ⟨gm, o, none⟩ = false := fun o => by rw [← hWd]; exact cf o
                clear hWd q1 p0 p1 p2 p3 c1 c3 cf cl
                go_wp2_with fail
                go_meet
                exact ⟨⟨1, 50, M0.sz, []⟩, M1, a0, (.slice none 0 0), a1, b1, s0, (.slice none 0 0), s1, e1, rfl, rfl, HJ.out.2.2.1, HJ.out.2.2.2, (j5.told 1 50).mono (by omega), j6.mono (by omega), HA6.out⟩
            · have hz : M0.en.length = 0 := by omega
              clear hpos
              by_cases hpos : 0 < M1.en.length
              · as_aux_lemma =>
                  have hAL : All w.heap.size w (LS g zg zc gm M0 M1 a0 b0 a1 b1 s0 e0 s1 e1) W := HA.out.tail
                  have hz1 : Own W _ 3 b1 M1.en.length (rows encZ M1.en) := hAL.P (zl b1 M1.en) (List.mem_of_getElem? (i := 5) (by rfl))
                  have hz2 : Own W _ 3 e1 M1.en.length (rows encZ M1.en) := hAL.P (zl e1 M1.en) (List.mem_of_getElem? (i := 10) (by rfl))
                  obtain ⟨xa, xb, rfl⟩ := own_shape hz1
                  obtain ⟨ya, yb, rfl⟩ := own_shape hz2
                  obtain ⟨za, zb, rfl⟩ := own_shape (show Own W _ 3 e0 M0.en.length (rows encZ M0.en) from hAL.P (zl e0 M0.en) (List.mem_of_getElem? (i := 8) (by rfl)))
                  have hsl := j5.sl
                  have hel := j5.el
                  have hsl' := j6.sl
                  have hel' := j6.el
                  have hD := deliver_some (z1 := [(M0, a0, b0)]) (z2 := []) (z := M1) (a := a1) (b := (.slice xa M1.en.length xb)) (zg := zg) (zc := zc) (nx := 2) (g := g) (l := [bk gm _ _, zl _ _, zl _ _, zl _ _, zl _ _]) hAL (by intro y hy; simp at hy; subst hy; simp only; rw [HJ.out.1, HJ.out.2.2.1]; decide) (by simp) (by intro y hy; simp at hy; rcases hy with rfl | rfl <;> (simp only; omega)) (by simp only [List.cons_append, List.nil_append]; exact next_two1 hz hpos)
                  rw [HJ.out.2.2.1, HJ.out.2.2.2] at hD
                  have HD := Lib.hid hD
                  have hE0 : (((M0.en.length : Nat) : Int) == 0) = true := beq_iff_eq.2 (by omega)
                  have hE1 : decide ((0 : Int) < ((M1.en.length : Nat) : Int)) = true := decide_eq_true (by omega)
                  clear hD hz1 hz2 hAL HA r0 r3
                  go_wp2_with fail
                  refine HD.out.mono ?_
                  rintro e w3 ⟨rfl, hA3⟩
                  have hA4 := hA3.newBkA w3.heap.size rfl [.int .i64 2, .int .i64 51, .slice none 0 0, (.slice xa M1.en.length xb)] 37
                  have HA4 := Lib.hid hA4
                  clear hA3 HD hA4
                  go_upto_region 15 with (fail)
                  generalize hr : w3.heap.size = r11 at *
                  clear hr
                  generalize w3.alloc (.cells #[.int .i64 2, .int .i64 51, .slice none 0 0, (.slice xa M1.en.length xb)] 37) = W4 at *
                  have b11 : Blk _ _ _ _ := HA4.out.head
                  have p0 := b11.cell 0
                  have p1 := b11.cell 1
                  have p2 := b11.cell 2
                  have p3 := b11.cell 3
                  simp only [List.getElem?_cons_zero, List.getElem?_cons_succ] at p0 p1 p2 p3
                  have bm : Blk W4 gm [s0, .slice za M0.en.length zb, s1, (.slice ya M1.en.length yb)] 47 := HA4.out.P (bk gm [s0, .slice za M0.en.length zb, s1, (.slice ya M1.en.length yb)] 47) (List.mem_of_getElem? (i := 8) (by rfl))
                  have c1 := bm.cell 1
                  have c3 := bm.cell 3
                  simp only [List.getElem?_cons_zero, List.getElem?_cons_succ] at c1 c3
                  have cf := bm.free
                  have cl := bm.lt
                  have HO1 := Lib.hid (show Own W4 41 3 (.slice xa M1.en.length xb) M1.en.length (rows encZ M1.en) from HA4.out.P (zl (.slice xa M1.en.length xb) M1.en) (List.mem_of_getElem? (i := 7) (by rfl)))
                  have HO2 := Lib.hid (show Own W4 41 3 (.slice ya M1.en.length yb) M1.en.length (rows encZ M1.en) from HA4.out.P (zl (.slice ya M1.en.length yb) M1.en) (List.mem_of_getElem? (i := 12) (by rfl)))
                  clear b11 bm
                  go_wp2_with fail
                  go_quiet ((go_at_call 17; exact Calls.quiet_of (alike_any (w := World.drewN _ _) HO1.out HO2.out (by omega))))
                  have hA5 := ((HA4.out.nil 41 3).sel [9, 2, 3, 4, 5, 6, 7, 10, 11, 12, 0] (by decide)).drewN nq
                  have hA5' : All w.heap.size w (bk gm [s0, .slice za M0.en.length zb, s1, (.slice ya M1.en.length yb)] 47 :: _) (W4.drewN nq) := hA5
                  have HA6 := Lib.hid ((hA5'.setBk [] 3 (.slice none 0 0)).sel [1, 2, 3, 4, 5, 6, 0, 7, 8, 9, 10] (by decide))
                  clear hA5 hA5' HO1 HO2 HA4
                  generalize hWd : W4.drewN nq = W5 at *
                  have HWd := Lib.hid hWd
                  have q1 : ∀ o v, W4.cell? ⟨gm, o, none⟩ = some v → W5.cell? ⟨gm, o, none⟩ = some v := fun o v h => by rw [← hWd]; exact h
                  have q3 := q1 _ _ c1
                  have q4 := q1 _ _ c3
                  have qf : ∀ o, W5.frozen? ⟨gm, o, none⟩ = false := fun o => by rw [← hWd]; exact cf o
                  clear hWd q1 p0 p1 p2 p3 c1 c3 cf cl
                  go_wp2_with fail
                  go_meet
                  exact ⟨M0, ⟨2, 51, M1.sz, []⟩, a0, b0, a1, (.slice none 0 0), s0, (.slice za M0.en.length zb), s1, (.slice none 0 0), HJ.out.1, HJ.out.2.1, rfl, rfl, j5.mono (by omega), (j6.told 2 51).mono (by omega), HA6.out⟩
              · as_aux_lemma =>
                  have hz' : M1.en.length = 0 := by omega
                  clear hpos
                  have hAL : All w.heap.size w (LS g zg zc gm M0 M1 a0 b0 a1 b1 s0 e0 s1 e1) W := HA.out.tail
                  have hz1 : Own W _ 3 e0 M0.en.length (rows encZ M0.en) := hAL.P (zl e0 M0.en) (List.mem_of_getElem? (i := 8) (by rfl))
                  have hz2 : Own W _ 3 e1 M1.en.length (rows encZ M1.en) := hAL.P (zl e1 M1.en) (List.mem_of_getElem? (i := 10) (by rfl))
                  obtain ⟨xa, xb, rfl⟩ := own_shape hz1
                  obtain ⟨ya, yb, rfl⟩ := own_shape hz2
                  have hsl := j5.sl
                  have hel := j5.el
                  have hsl' := j6.sl
                  have hel' := j6.el
                  have HD := Lib.hid (deliver_none (zs := [(M0, a0, b0), (M1, a1, b1)]) hAL (by intro y hy; simp at hy; rcases hy with rfl | rfl; (simp only; rw [HJ.out.1]; decide); (simp only; rw [HJ.out.2.2.1]; decide)) (by simp) (by intro y hy; simp at hy; rcases hy with rfl | rfl <;> (simp only; omega)) (next_two2 hz hz'))
                  have hE0 : (((M0.en.length : Nat) : Int) == 0) = true := beq_iff_eq.2 (by omega)
                  have hE1 : decide ((0 : Int) < ((M1.en.length : Nat) : Int)) = false := decide_eq_false (by omega)
                  have HAL := Lib.hid hAL
                  clear hz1 hz2 hAL HA r0 r3
                  go_wp2_with fail
                  refine HD.out.mono ?_
                  rintro e w3 ⟨rfl, hb3⟩
                  have hA4 := (HAL.out.still hb3).newBkA w3.heap.size rfl [.int .i64 0, .int .i64 0, .slice none 0 0, .slice none 0 0] 37
                  have HA4 := Lib.hid hA4
                  clear HD hA4 HAL hb3
                  go_upto_region 15 with (fail)
                  generalize hr : w3.heap.size = r11 at *
                  clear hr
                  generalize w3.alloc (.cells #[.int .i64 0, .int .i64 0, .slice none 0 0, .slice none 0 0] 37) = W4 at *
                  have bm : Blk W4 gm [s0, .slice xa M0.en.length xb, s1, .slice ya M1.en.length yb] 47 := HA4.out.P (bk gm [s0, .slice xa M0.en.length xb, s1, .slice ya M1.en.length yb] 47) (List.mem_of_getElem? (i := 7) (by rfl))
                  have c1 := bm.cell 1
                  have c3 := bm.cell 3
                  simp only [List.getElem?_cons_zero, List.getElem?_cons_succ] at c1 c3
                  have cf := bm.free
                  have cl := bm.lt
                  clear bm
                  go_wp2_with fail
                  go_quiet (fail)
                  have hA5 := ((HA4.out.nil 41 3).sel [8, 2, 3, 4, 5, 6, 7, 9, 10, 11, 0] (by decide)).drewN nq
                  have hA5' : All w.heap.size w (bk gm [s0, .slice xa M0.en.length xb, s1, .slice ya M1.en.length yb] 47 :: _) (W4.drewN nq) := hA5
                  have hA6 := (hA5'.setBk [] 3 (.slice none 0 0)).sel [1, 2, 3, 4, 5, 6, 0, 7, 8, 9, 10] (by decide)
                  have hM1 : M1.en = [] := List.length_eq_zero_iff.1 (by omega)
                  have hA7 : All w.heap.size w (LS g zg zc gm M0 M1 a0 b0 a1 b1 s0 (.slice xa M0.en.length xb) s1 (.slice none 0 0)) ((W4.drewN nq).setCell ⟨gm, 3, none⟩ (.slice none 0 0)) := by
                    unfold LS
                    rw [show zl (Value.slice none 0 0) M1.en = zl (.slice none 0 0) [] by rw [hM1]]
                    exact hA6
                  have HA7 := Lib.hid hA7
                  clear hA5 hA5' hA6 HA4 hM1 hA7
                  generalize hWd : W4.drewN nq = W5 at *
                  have q1 : ∀ o v, W4.cell? ⟨gm, o, none⟩ = some v → W5.cell? ⟨gm, o, none⟩ = some v := fun o v h => by rw [← hWd]; exact h
                  have q3 := q1 _ _ c1
                  have q4 := q1 _ _ c3
                  have qf : ∀ o, W5.frozen? ⟨gm, o, none⟩ = false := fun o => by rw [← hWd]; exact cf o
                  clear hWd q1 c1 c3 cf cl
                  go_wp2_with fail
                  go_meet
                  exact ⟨M0, M1, _, _, _, _, _, _, _, _, HJ.out.1, HJ.out.2.1, HJ.out.2.2.1, HJ.out.2.2.2, j5.mono (by omega), j6.mono (by omega), HA7.out⟩
        case rest =>
          as_aux_lemma =>
            clear HWR HR HI1 HI2 hbl hbl' hp01 i3 i4 i5 i6 i7 i8 i9
            obtain ⟨M0, M1, a0, b0, a1, b1, s0, e0, s1, e1, j1, j2, j3, j4, j5, j6, hA⟩ := hcut
            have HK : Hid (∀ wx, All w.heap.size w (LS g zg zc gm M0 M1 a0 b0 a1 b1 s0 e0 s1 e1) wx → LsR w g zg zc gm (k + 1) wx) := Lib.hid fun wx hx => ⟨M0, M1, a0, b0, a1, b1, s0, e0, s1, e1, j1, j2, j3, j4, j5, j6, hx⟩
            have HL : Hid ((M0.sz.length ≤ 1000000 ∧ M1.sz.length ≤ 1000000) ∧ M0.en.length ≤ 1000000 ∧ M1.en.length ≤ 1000000) := Lib.hid (by have := j5.sl; have := j5.el; have := j6.sl; have := j6.el; omega)
            have HA := Lib.hid hA
            clear hA j1 j2 j3 j4 j5 j6
            go_wp2_with fail
            go_loopw [164] (fun iv wr => LsJ w.heap.size w (LS g zg zc gm M0 M1 a0 b0 a1 b1 s0 e0 s1 e1) iv wr) (fun iv _ => 2 - (intOf iv).toNat)
            case atStart => exact ⟨0, by omega, rfl, HA.out⟩
            case round =>
              clear HA
              obtain ⟨j, hj, rfl, hA⟩ := hrel
              by_cases hj2 : j < 2
              · obtain ⟨L1, L2, aj, bj, sj, ej, l1, l2, c1, c2, c3, c4, o1, o2, o3, o4⟩ := ls_cells hA hj2
                have hL1 : L1.length ≤ 1000000 := by rcases l1 with rfl | rfl; exact HL.out.1.1; exact HL.out.1.2
                have hL2 : L2.length ≤ 1000000 := by rcases l2 with rfl | rfl; exact HL.out.2.1; exact HL.out.2.2
                have hb : Blk _ _ _ _ := hA.head
                have cg := hb.cell 1
                simp only [List.getElem?_cons_zero, List.getElem?_cons_succ] at cg
                obtain ⟨x1, y1, rfl⟩ := own_shape o1
                obtain ⟨x2, y2, rfl⟩ := own_shape o2
                obtain ⟨x3, y3, rfl⟩ := own_shape o3
                obtain ⟨x4, y4, rfl⟩ := own_shape o4
                have HO1 := Lib.hid o1
                have HO2 := Lib.hid o2
                have HO3 := Lib.hid o3
                have HO4 := Lib.hid o4
                have HA := Lib.hid hA
                clear hA l1 l2 o1 o2 o3 o4 hb
                go_wp2_with fail
                go_quiet ((first
                  | (go_at_call 17; exact Calls.quiet_of (alike_any (w := World.drewN _ _) HO1.out HO2.out hL1))
                  | (go_at_call 17; exact Calls.quiet_of (alike_any (w := World.drewN _ _) HO3.out HO4.out hL2))))
                go_wp2_with fail
                go_roundw
                case rel => exact ⟨j + 1, by omega, by go_num, HA.out.drewN _⟩
                case measure => simp [intOf]; omega
              · have HA := Lib.hid hA
                clear hA
                go_wp2_with fail
                go_roundw
                case rel => exact ⟨k + 1, by omega, by go_num, HK.out _ HA.out⟩
                case measure => simp [intOf]; omega
      · as_aux_lemma =>
          obtain ⟨M0, M1, a0, b0, a1, b1, s0, e0, s1, e1, j1, j2, j3, j4, j5, j6, hA⟩ := hR
          have hz : ∀ y ∈ [(M0, a0, b0), (M1, a1, b1)], y.1.id ≠ 3 := by
            intro y hy
            simp at hy
            rcases hy with rfl | rfl
            · simp [j1]
            · simp [j3]
          have HO := Lib.hid (observe_none hA 3 1 hz (by simp))
          have HU := Lib.hid (unobserve_none hA 3 1 hz (by simp))
          have HB := Lib.hid hA.below
          clear hA hz j1 j2 j3 j4 j5 j6
          go_wp2_with fail
          refine HO.out.mono ?_
          rintro e w6 ⟨rfl, rfl⟩
          go_wp2_with fail
          refine HU.out.mono ?_
          rintro e w6 ⟨rfl, rfl⟩
          go_wp2_with fail
          go_ret
          exact ⟨rfl, HB.out⟩
  · have hnb : decide ((80 : Int) < (l.length : Int)) = true := by simp; omega
    go_enter Try.func4, Try.ntmps4
    go_wp2_with fail
    refine (awake_any _).mono ?_
    rintro e w1 ⟨rfl, hb1⟩
    go_wp2_with fail
    refine (awake_any _).mono ?_
    rintro e w2 ⟨rfl, hb2⟩
    go_wp2_with fail
    go_ret
    exact ⟨rfl, bthen hb1 hb2⟩
end Go.Proofs.Ytfdofkokiaapoaa.W
