/- The contract of Unobserve. -/
import Derived.Test.YtfdofkokiaapoaaObsU
namespace Go.Proofs.Ytfdofkokiaapoaa.W
open Go.RowKit
set_option linter.unusedVariables false

def Zr.unwatch (z : Zr) (x : Int) : Zr := { z with sz := dropN z.sz x, en := dropN z.en x }

theorem st_cell2 {w : World} {zg N zc i : Nat} {d d2 : List Zv} {z : Zr} {a b : Value} (hr : Own w 55 4 (.slice (some ⟨zg, 0, none⟩) N zc) N (rows encS (d ++ (z, a, b) :: d2))) (hN : (d ++ (z, a, b) :: d2).length = N) (hi : d.length = i) :
    w.cell? ⟨zg, i * 4 + 2, none⟩ = some a ∧ (∀ j, w.frozen? ⟨zg, j, none⟩ = false) ∧ zg < w.heap.size := by
  subst hi hN
  have q3 := hr.cellAt (d.length * 4 + 2) (by simp; omega)
  rw [rows_at (enc := encS) encS_len _ d.length _ (get_mid d (z, a, b) d2) 2 (by decide)] at q3
  exact ⟨q3, fun j => hr.frozenAt j, own_lt hr rfl⟩

set_option maxRecDepth 100000 in
theorem unobserve_none {B : Nat} {w0 w : World} {g : Nat} {zv : Value} {nx : Int} {zs : List Zv} {l : List Ob} (h : All B w0 (stL g zv nx zs ++ l) w) (id x : Int) (hn : ∀ y ∈ zs, y.1.id ≠ id) (hl : zs.length ≤ 1000000) :
    Calls Try.prog 16 #[.pointer (some ⟨g, 0, none⟩), .int .i64 id, .int .i64 x] w fun e w' => e = .returned (.int .i64 6) ∧ w = w' := by
  have HSz := Lib.hid (sizer_no h id hn hl)
  clear h hn
  go_enter Try.func16, Try.ntmps16
  go_wp2_with fail
  refine HSz.out.mono ?_
  rintro e w1 ⟨rfl, rfl⟩
  go_wp2_with fail
  go_ret
  exact ⟨rfl, rfl⟩

set_option maxRecDepth 100000 in
set_option maxHeartbeats 1000000 in
theorem unobserve_absent {B : Nat} {w0 w : World} {g zg zc : Nat} {nx : Int} {z1 z2 : List Zv} {z : Zr} {a b : Value} {l : List Ob} (h : All B w0 (stL g (.slice (some ⟨zg, 0, none⟩) (z1 ++ (z, a, b) :: z2).length zc) nx (z1 ++ (z, a, b) :: z2) ++ l) w)
    (hn : ∀ y ∈ z1, y.1.id ≠ z.id) (hl : (z1 ++ (z, a, b) :: z2).length ≤ 1000000) (x : Int) (hs : z.sz.length ≤ 100000) (hx : placeOf z.sz x = -1) :
    Calls Try.prog 16 #[.pointer (some ⟨g, 0, none⟩), .int .i64 z.id, .int .i64 x] w fun e w' => e = .returned (.int .i64 6) ∧ Below w.heap.size w w' := by
  have HSz := Lib.hid (sizer_at (z := (z, a, b)) h hn hl)
  obtain ⟨⟨q0, q1, q2, q3⟩, qf, hzlt, c0, c1, hz, hz'⟩ := st_cells h
  obtain ⟨aa, ac, rfl⟩ := own_shape hz
  have HP := Lib.hid (place_any x hz (by omega))
  rw [hx] at HP
  clear h hz hz' hn q0 q1 q3 qf c0 c1 hx
  generalize hk : z1.length = k at *
  clear hk
  generalize hN : (z1 ++ (z, Value.slice aa z.sz.length ac, b) :: z2).length = N at *
  clear hN
  go_enter Try.func16, Try.ntmps16
  go_wp2_with fail
  refine HSz.out.mono ?_
  rintro e w1 ⟨rfl, rfl⟩
  go_wp2_with fail
  refine HP.out.mono ?_
  rintro e w2 ⟨rfl, hb2⟩
  go_wp2_with fail
  go_ret
  exact ⟨rfl, hb2⟩

set_option maxRecDepth 100000 in
set_option maxHeartbeats 2000000 in
theorem unobserve_yes {B : Nat} {w0 w : World} {g zg zc N : Nat} {nx : Int} {z1 z2 : List Zv} {z : Zr} {a b : Value} {l : List Ob} (h : All B w0 (stL g (.slice (some ⟨zg, 0, none⟩) N zc) nx (z1 ++ (z, a, b) :: z2) ++ l) w) (hN : (z1 ++ (z, a, b) :: z2).length = N)
    (hn : ∀ y ∈ z1, y.1.id ≠ z.id) (hl : N ≤ 1000000) (x : Int) (hs : z.sz.length ≤ 100000) (he : z.en.length ≤ 100000) (hx : 0 ≤ placeOf z.sz x) :
    Calls Try.prog 16 #[.pointer (some ⟨g, 0, none⟩), .int .i64 z.id, .int .i64 x] w fun e w' => ∃ a' b', e = .returned (.int .i64 0) ∧ All B w0 (stL g (.slice (some ⟨zg, 0, none⟩) N zc) nx (z1 ++ (z.unwatch x, a', b') :: z2) ++ l) w' := by
  have h' := h
  rw [← hN] at h'
  have HSz := Lib.hid (sizer_at (z := (z, a, b)) h' hn (by rw [hN]; exact hl))
  have hst := st_cells h'
  rw [hN] at hst
  obtain ⟨⟨q0, q1, q2, q3⟩, qf, hzlt, c0, c1, hz, hz'⟩ := hst
  obtain ⟨aa, ac, rfl⟩ := own_shape hz
  have HP := Lib.hid (place_any x hz (by omega))
  have H := Lib.hid h
  have HN := Lib.hid hN
  clear h hz hz' hn q0 q1 c0 c1 h' hN
  generalize hk : z1.length = k at *
  have HK := Lib.hid hk
  clear hk
  generalize placeOf z.sz x = p at *
  go_enter Try.func16, Try.ntmps16
  go_wp2_with fail
  refine HSz.out.mono ?_
  rintro e w1 ⟨rfl, rfl⟩
  go_wp2_with fail
  refine HP.out.mono ?_
  rintro e w2 ⟨rfl, hb2⟩
  obtain ⟨hc2, hf2⟩ := bcell hb2
  have hA2 := H.out.still hb2
  rw [stL_split, HN.out] at hA2
  have HW := Lib.hid (owithout_any x hA2 (show z.sz.length ≤ _ by omega))
  clear hA2 hb2 HP HSz
  go_wp2_with fail
  refine HW.out.mono ?_
  rintro e w3 ⟨a', rfl, hA3⟩
  have hr3 : Own _ _ _ _ _ _ := hA3.tail.head
  obtain ⟨g3, gf, gl⟩ := st_cell2 hr3 HN.out HK.out
  have hA4 := st_set2 (z' := { z with sz := dropN z.sz x }) hA3 HN.out rfl rfl
  rw [HK.out] at hA4
  have HNN : Hid ((z1 ++ (({ z with sz := dropN z.sz x } : Zr), a', b) :: z2).length = N) := Lib.hid (by rw [← HN.out]; simp)
  have HA4 := Lib.hid hA4
  have ho : Own _ _ _ _ _ _ := hA3.P (zl a' (dropN z.sz x)) (by simp)
  obtain ⟨aa', ac', rfl⟩ := own_shape ho
  clear hA3 hr3 HW q2 q3 qf hzlt hc2 hf2 hA4 ho
  go_upto_region 5 with (fail)
  have HA4' := HA4.out
  rw [← HNN.out] at HA4'
  have hst := st_cells HA4'
  rw [HNN.out, HK.out] at hst
  obtain ⟨⟨q0, q1, q2, q3⟩, qf, hzlt, c0, c1, hz, hz'⟩ := hst
  generalize (w3.setCell ⟨zg, k * 4 + 2, none⟩ (.slice aa' (dropN z.sz x).length ac')) = W at *
  have hA5 := HA4.out
  rw [stL_split, HNN.out] at hA5
  have hA6 : All B w0 ((([bk g [.slice none 0 0, .slice (some ⟨zg, 0, none⟩) N zc, .int .i64 nx] 27, sl 55 4 (.slice (some ⟨zg, 0, none⟩) N zc) N (rows encS (z1 ++ (({ z with sz := dropN z.sz x } : Zr), Value.slice aa' (dropN z.sz x).length ac', b) :: z2))] ++ stObs z1) ++ [zl (.slice aa' (dropN z.sz x).length ac') (dropN z.sz x)]) ++ zl b z.en :: (stObs z2 ++ l)) W := by
    rw [List.append_assoc]; exact hA5
  have HW := Lib.hid (owithout_any x hA6 (by omega))
  clear hA5 hA6 q0 q1 q2 c0 c1 hz hz' HA4' g3 gf gl
  go_wp2_with fail
  refine HW.out.mono ?_
  rintro e w4 ⟨b', rfl, hA7⟩
  rw [List.append_assoc] at hA7
  have hr3 : Own _ _ _ _ _ _ := hA7.tail.head
  obtain ⟨g3, gf, gl⟩ := st_cell3 hr3 HNN.out HK.out
  have hA8 := st_set3 (z := { z with sz := dropN z.sz x }) (z' := z.unwatch x) hA7 HNN.out rfl rfl
  rw [HK.out] at hA8
  have HA8 := Lib.hid hA8
  have ho : Own _ _ _ _ _ _ := hA7.P (zl b' (dropN z.en x)) (by simp)
  obtain ⟨ba', bc', rfl⟩ := own_shape ho
  clear hA7 hr3 HW hA8 ho q3 qf hzlt
  go_wp2_with fail
  go_ret
  exact ⟨_, _, rfl, HA8.out⟩
end Go.Proofs.Ytfdofkokiaapoaa.W
