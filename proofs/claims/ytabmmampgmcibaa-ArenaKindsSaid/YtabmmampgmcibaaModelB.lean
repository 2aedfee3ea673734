/- The reference's arena (Model): the contracts of Drop, Add and Len. -/
import Derived.Test.YtabmmampgmcibaaModel
import Derived.Deep.RegionHeld3
import Derived.Deep.RegionLaw
namespace Go.Proofs.Ytabmmampgmcibaa.W
open Go.RowKit
set_option linter.unusedVariables false

set_option maxRecDepth 100000 in
theorem mdrop_none {w : World} {A : Ar Int} {cv fv : Value} (h : Own w 80 2 cv A.slots.length (scells icell A.slots)) (hf : ∃ fa fn fc, fv = .slice fa fn fc) (hd : Int) (h1 : -9223372036854775808 ≤ hd) (h2 : hd ≤ 9223372036854775807) (hl : A.slots.length ≤ 1000000) (hk : A.look hd = none) :
    Calls Try.prog 38 #[mdV A.b A.s cv fv, .int .i64 hd] w fun e w' => e = .returned (.tuple #[mdV A.b A.s cv fv, .bool false]) ∧ Below w.heap.size w w' := by
  have M := fun W (hW : Own W 80 2 cv A.slots.length (scells icell A.slots)) => mhas_any (fv := fv) hW hd h1 h2 (by omega)
  rw [lookI_none hk] at M
  obtain ⟨fa, fn, fc, rfl⟩ := hf
  obtain ⟨sa, sc, rfl⟩ := own_shape h
  have hA1 := (((All.start w).newBkA w.heap.size rfl [.int .i64 A.b, .int .i64 A.s, .slice sa A.slots.length sc, .slice fa fn fc] 68).newBkA (w.heap.size + 1) (by simp) [.int .i64 0, .int .i64 0, .slice none 0 0, .slice none 0 0] 68)
  have HM := Lib.hid (M _ (own_below h hA1.below))
  have HA := Lib.hid hA1
  clear M h hA1 hk
  go_enter Try.func38, Try.ntmps38
  go_wp2_with fail
  refine HM.out.mono ?_
  rintro e w2 ⟨rfl, hb2⟩
  have hA2 := HA.out.still hb2
  have b1 : Blk _ _ _ _ := hA2.head
  have b0 : Blk _ _ _ _ := hA2.tail.head
  have c00 := b0.cell 0
  have c01 := b0.cell 1
  have c02 := b0.cell 2
  have c03 := b0.cell 3
  have c10 := b1.cell 0
  have c11 := b1.cell 1
  have c12 := b1.cell 2
  have c13 := b1.cell 3
  have f1 := b1.free
  simp at c00 c01 c02 c03 c10 c11 c12 c13
  have HB := Lib.hid hA2
  clear hb2 hA2 b0 b1
  go_wp2_with fail
  refine bodyPost_ret (v := .tuple #[mdV A.b A.s (.slice sa A.slots.length sc) (.slice fa fn fc), .bool false]) (by simp [results, Try.results38, go_sem, *]) rfl ⟨rfl, ?_⟩
  have h5 := (((HB.out.setBk [] 0 (.int .i64 A.b)).setBk [] 1 (.int .i64 A.s)).setBk [] 2 (.slice sa A.slots.length sc)).setBk [] 3 (.slice fa fn fc)
  exact h5.below


set_option maxRecDepth 100000 in
set_option maxHeartbeats 1000000 in
theorem mdrop_some {w : World} {A : Ar Int} {cv fv : Value} (h : Own w 80 2 cv A.slots.length (scells icell A.slots)) (hf : Own w 3 1 fv A.free.length (fcells A.free)) (hd : Int) (h1 : -9223372036854775808 ≤ hd) (h2 : hd ≤ 9223372036854775807) (hl : A.slots.length ≤ 1000000) (hfl : A.free.length ≤ 1000000) {k : Nat} (hk : A.look hd = some k) :
    Calls Try.prog 38 #[mdV A.b A.s cv fv, .int .i64 hd] w fun e w' => ∃ cv' fv', e = .returned (.tuple #[mdV A.b A.s cv' fv', .bool true]) ∧ All w.heap.size w [fsl fv' (A.free ++ [k]), csl cv' (A.slots.set k (false, 0))] w' := by
  have M := fun W (hW : Own W 80 2 cv A.slots.length (scells icell A.slots)) => mhas_any (fv := fv) hW hd h1 h2 (by omega)
  rw [lookI_some hk] at M
  have hkl := (look_some hk).2.1
  obtain ⟨fa, fc, rfl⟩ := own_shape hf
  obtain ⟨sa, sc, rfl⟩ := own_shape h
  have hA1 := (((All.start w).newBkA w.heap.size rfl [.int .i64 A.b, .int .i64 A.s, .slice sa A.slots.length sc, .slice fa A.free.length fc] 68).newBkA (w.heap.size + 1) (by simp) [.int .i64 0, .int .i64 0, .slice none 0 0, .slice none 0 0] 68)
  have hS := own_below h hA1.below
  have hF := own_below hf hA1.below
  have HM := Lib.hid (M _ hS)
  have HS := Lib.hid hS
  have HF := Lib.hid hF
  have HA := Lib.hid hA1
  clear M h hA1 hk hS hF hf
  go_enter Try.func38, Try.ntmps38
  go_wp2_with fail
  refine HM.out.mono ?_
  rintro e w2 ⟨rfl, hb2⟩
  have hA2 := HA.out.still hb2
  have hS2 := own_below HS.out hb2
  have HF2 := Lib.hid (own_below HF.out hb2)
  have b0 : Blk _ _ _ _ := hA2.tail.head
  have c00 := b0.cell 0
  have c01 := b0.cell 1
  have c02 := b0.cell 2
  have c03 := b0.cell 3
  simp at c00 c01 c02 c03
  have HB := Lib.hid hA2
  have HW := Lib.hid (mwith_any (b := A.b) (s := A.s) (fv := .slice fa A.free.length fc) hS2 ⟨_, _, _, rfl⟩ k hkl hl false 0)
  clear hb2 hA2 b0 HS HA HM hS2 HF
  go_wp2_with fail
  refine HW.out.mono ?_
  rintro e w3 ⟨cv', rfl, hA3⟩
  have hF3 := own_below HF2.out hA3.below
  have hA4 := HB.out.after hA3
  obtain ⟨ca, cn, cc, rfl⟩ : ∃ ca cn cc, cv' = .slice ca cn cc := by
    have ho : Own _ _ _ _ _ _ := hA3.head
    obtain ⟨ca, cc, rfl⟩ := own_shape ho
    exact ⟨_, _, _, rfl⟩
  have hA5 := (hA4.newBkA w3.heap.size rfl [.int .i64 A.b, .int .i64 A.s, .slice ca cn cc, .slice fa A.free.length fc] 68).newSlA (w3.heap.size + 1) (by simp) 3 1 0 [] rfl (by omega)
  have b0 : Blk _ _ _ _ := hA5.tail.tail.tail.tail.head
  have hlt0 := b0.lt
  have b0' : Blk _ _ _ _ := hA4.tail.tail.head
  have hlt3 := b0'.lt
  have b1' : Blk _ _ _ _ := hA4.tail.head
  have hlt1 := b1'.lt
  have n31 : w3.heap.size ≠ w.heap.size + 1 := by omega
  have n13 : w.heap.size + 1 ≠ w3.heap.size := by omega
  have c02 := b0'.cell 3
  simp at c02
  have HF5 := Lib.hid (own_below (own_below hF3 ((Below.refl _ w3).alloc (Nat.le_refl _) (.cells #[.int .i64 A.b, .int .i64 A.s, .slice ca cn cc, .slice fa A.free.length fc] 68))) ((Below.refl _ _).alloc (Nat.le_refl _) (.cells #[] 3)))
  have HC := Lib.hid hA5
  clear hA4 hA3 HB b0 b0' b1' hF3 HF2 hA5 hlt0
  go_wp2_with (first
    | (at_builtin; refine wpList_append_all etI [] HC.out HF5.out (one_fcells A.free) (by omega) (by omega) rfl _ _ rfl rfl rfl ?_; intro v' w4 hA6; simp only [List.nil_append, Nat.zero_add] at hA6; have ho : Own _ _ _ _ _ _ := hA6.head; obtain ⟨va, vc, rfl⟩ := own_shape ho; have HD := Lib.hid hA6; clear ho hA6 HC HF5)
    | (at_builtin; refine wpList_append_all etI [] (HD.out.alloc (.cells #[.int .i64 (k : Int)] 3)) (own_at (n := 1) (size := 1) (Blk.new w4 [.int .i64 (k : Int)] 3) rfl (by omega)) (by simp [Value.oneCell']) (by omega) (by omega) rfl _ _ rfl rfl rfl ?_; intro v'' w5 hA7; simp only [List.nil_append] at hA7; have ho : Own _ _ _ _ _ _ := hA7.head; obtain ⟨vb, vd, rfl⟩ := own_shape ho; have b3 : Blk _ _ _ _ := hA7.tail.head; have b1 : Blk _ _ _ _ := hA7.tail.tail.tail.head; have c30 := b3.cell 0; have c31 := b3.cell 1; have c32 := b3.cell 2; have c33 := b3.cell 3; have f3 := b3.free; have c10 := b1.cell 0; have c11 := b1.cell 1; have c12 := b1.cell 2; have c13 := b1.cell 3; have f1 := b1.free; simp at c30 c31 c32 c33 c10 c11 c12 c13; have HE := Lib.hid hA7; clear ho hA7 HD b3 b1))
  refine bodyPost_ret (v := .tuple #[mdV A.b A.s (.slice ca cn cc) (.slice vb (A.free.length + 1) vd), .bool true]) (by simp [results, Try.results38, go_sem, *]) rfl ⟨_, _, rfl, ?_⟩
  have h5 := ((((HE.out.setBk [_] 3 (.slice vb (A.free.length + 1) vd)).setBk [_, _, _] 0 (.int .i64 A.b)).setBk [_, _, _] 1 (.int .i64 A.s)).setBk [_, _, _] 2 (.slice ca cn cc)).setBk [_, _, _] 3 (.slice vb (A.free.length + 1) vd)
  have h6 := h5.sub (l' := [_, _]) (List.Sublist.cons_cons _ (List.Sublist.cons _ (List.Sublist.cons_cons _ (List.nil_sublist _))))
  simpa [fsl, fcells_append] using h6

/-- what is read behind an operation that leaves these objects -/
theorem used_cells {B : Nat} {w0 W : World} {o1 o2 : Ob} {g1 g2 g3 : Nat} {x0 x1 x2 x3 y0 y1 y2 y3 z0 z1 z2 z3 : Value} {t1 t2 t3 : TypeId} (h : All B w0 [o1, bk g1 [x0, x1, x2, x3] t1, o2, bk g2 [y0, y1, y2, y3] t2, bk g3 [z0, z1, z2, z3] t3] W) :
    W.cell? ⟨g1, 0, none⟩ = some x0 ∧ W.cell? ⟨g1, 1, none⟩ = some x1 ∧ W.cell? ⟨g1, 2, none⟩ = some x2 ∧ W.cell? ⟨g1, 3, none⟩ = some x3 ∧ W.cell? ⟨g3, 0, none⟩ = some z0 ∧ W.cell? ⟨g3, 1, none⟩ = some z1 ∧
    (W.cell? ⟨g2, 0, none⟩ = some y0 ∧ W.cell? ⟨g2, 1, none⟩ = some y1 ∧ W.cell? ⟨g2, 2, none⟩ = some y2 ∧ W.cell? ⟨g2, 3, none⟩ = some y3) := by
  have b1 : Blk _ _ _ _ := h.tail.head
  have b2 : Blk _ _ _ _ := h.tail.tail.tail.head
  have b3 : Blk _ _ _ _ := h.tail.tail.tail.tail.head
  refine ⟨b1.cell 0, b1.cell 1, b1.cell 2, b1.cell 3, b3.cell 0, b3.cell 1, b2.cell 0, b2.cell 1, b2.cell 2, b2.cell 3⟩

set_option maxRecDepth 100000 in
set_option maxHeartbeats 1000000 in
theorem madd_used {w : World} {A : Ar Int} {cv fv : Value} (h : Own w 80 2 cv A.slots.length (scells icell A.slots)) (hf : Own w 3 1 fv A.free.length (fcells A.free)) (v : Int) (hl : A.slots.length ≤ 1000000) (hfl : A.free.length ≤ 1000000) (hne : A.free ≠ []) (hin : A.free.getLastD 0 < A.slots.length) :
    Calls Try.prog 35 #[mdV A.b A.s cv fv, .int .i64 v] w fun e w' => ∃ cv' fv', e = .returned (.tuple #[mdV A.b A.s cv' fv', .int .i64 (hdl A.b A.s (A.free.getLastD 0 : Nat))]) ∧ All w.heap.size w [fsl fv' A.free.dropLast, csl cv' (A.slots.set (A.free.getLastD 0) (true, v))] w' := by
  have hfp : 0 < A.free.length := List.length_pos_iff.2 hne
  obtain ⟨m, hm⟩ : ∃ m, A.free.length = m + 1 := ⟨A.free.length - 1, by omega⟩
  have hdl0 : A.free.dropLast.length = m := by rw [List.length_dropLast, hm]; omega
  have u0 := fcells_last _ hfp
  obtain ⟨fg, fc, rfl, hfc⟩ := own_some hf hfp
  have u1 := hf.cellAt (A.free.length - 1) (by omega)
  rw [u0] at u1
  have hpop : Own w 3 1 (.slice (some ⟨fg, 0, none⟩) m fc) m (fcells A.free.dropLast) := by
    have h0 : Own w 3 1 (.slice (some ⟨fg, 0, none⟩) (m + 1) fc) (m + 1) (fcells A.free) := by rw [← hm]; exact hf
    have := own_pop h0
    have e : (fcells A.free).take (m * 1) = fcells A.free.dropLast := by
      unfold fcells; rw [Nat.mul_one, List.dropLast_eq_take, hm, List.map_take]; rfl
    rw [e] at this
    exact this
  have hfg := own_lt hf (k := fg) rfl
  rw [hm] at u1 hfc ⊢
  simp only [Nat.add_sub_cancel] at u1
  have hm2 : m < 1000000 := by omega
  have hD := Lib.hid hdl0
  clear u0 hne hf hfp hm hfl hdl0
  obtain ⟨sa, sc, rfl⟩ := own_shape h
  generalize A.free.getLastD 0 = k at *
  have hA1 := (((All.start w).newBkA w.heap.size rfl [.int .i64 A.b, .int .i64 A.s, .slice sa A.slots.length sc, .slice (some ⟨fg, 0, none⟩) (m + 1) fc] 68).newBkA (w.heap.size + 1) (by simp) [.int .i64 0, .int .i64 0, .slice none 0 0, .slice none 0 0] 68)
  have hS := own_below h hA1.below
  have HP := Lib.hid (own_below hpop hA1.below)
  have HW := Lib.hid (mwith_any (b := A.b) (s := A.s) (fv := .slice (some ⟨fg, 0, none⟩) (m + 1) fc) hS ⟨_, _, _, rfl⟩ k hin hl true v)
  have HA := Lib.hid hA1
  clear h hA1 hS hpop
  go_enter Try.func35, Try.ntmps35
  go_wp2_with fail
  refine HW.out.mono ?_
  rintro e w3 ⟨cv', rfl, hA3⟩
  have hF3 := own_below HP.out hA3.below
  have hA4 := HA.out.after hA3
  obtain ⟨ca, cn, cc, rfl⟩ : ∃ ca cn cc, cv' = .slice ca cn cc := by
    have ho : Own _ _ _ _ _ _ := hA3.head
    obtain ⟨ca, cc, rfl⟩ := own_shape ho
    exact ⟨_, _, _, rfl⟩
  have hA5 := (hA4.newBkA w3.heap.size rfl [.int .i64 A.b, .int .i64 A.s, .slice ca cn cc, .slice (some ⟨fg, 0, none⟩) (m + 1) fc] 68).newSlA (w3.heap.size + 1) (by simp) 3 1 0 [] rfl (by omega)
  have b0' : Blk _ _ _ _ := hA4.tail.tail.head
  have hlt3 := b0'.lt
  have b1' : Blk _ _ _ _ := hA4.tail.head
  have hlt1 := b1'.lt
  have n31 : w3.heap.size ≠ w.heap.size + 1 := by omega
  have n13 : w.heap.size + 1 ≠ w3.heap.size := by omega
  have n30 : w3.heap.size ≠ w.heap.size := by omega
  have n03 : w.heap.size ≠ w3.heap.size := by omega
  have c03 := b0'.cell 3
  simp at c03
  have HF5 := Lib.hid (own_below (own_below hF3 ((Below.refl _ w3).alloc (Nat.le_refl _) (.cells #[.int .i64 A.b, .int .i64 A.s, .slice ca cn cc, .slice (some ⟨fg, 0, none⟩) (m + 1) fc] 68))) ((Below.refl _ _).alloc (Nat.le_refl _) (.cells #[] 3)))
  have HC := Lib.hid hA5
  clear hA4 hA3 b0' b1' hF3 hA5 HA HW HP
  go_wp2_with (at_builtin; refine wpList_append_all etI [] HC.out HF5.out (one_fcells A.free.dropLast) (by omega) (by omega) rfl _ _ rfl rfl rfl ?_; intro v' w4 hA6; simp only [List.nil_append, Nat.zero_add] at hA6; have ho : Own _ _ _ _ _ _ := hA6.head; obtain ⟨vb, vd, rfl⟩ := own_shape ho; have b3 : Blk _ _ _ _ := hA6.tail.head; have b1 : Blk _ _ _ _ := hA6.tail.tail.tail.head; have b0 : Blk _ _ _ _ := hA6.tail.tail.tail.tail.head; have c30 := b3.cell 0; have c31 := b3.cell 1; have c32 := b3.cell 2; have c33 := b3.cell 3; have f3 := b3.free; have c00 := b0.cell 0; have c01 := b0.cell 1; have c10 := b1.cell 0; have c11 := b1.cell 1; have c12 := b1.cell 2; have c13 := b1.cell 3; have f1 := b1.free; simp at c30 c31 c32 c33 c10 c11 c12 c13 c00 c01; have l3 := b3.lt; have l1 := b1.lt; have l0 := b0.lt; have HE := Lib.hid hA6; clear ho hA6 HC HF5 b3 b1 b0)
  have hE := HE.out.setBk [_] 3 (.slice vb m vd)
  clear c30 c31 c32 c33 c10 c11 c12 c13 c00 c01 f1 f3 HE l3 l1 l0 c03
  generalize w4.setCell ⟨w3.heap.size, 3, none⟩ (.slice vb m vd) = W at hE ⊢
  simp only [List.cons_append, List.nil_append, List.set] at hE
  obtain ⟨p0, p1, p2, p3, q0, q1, r0, r1, r2, r3⟩ := used_cells hE
  have fr : ∀ j, W.frozen? ⟨w.heap.size + 1, j, none⟩ = false := Blk.free hE.tail.tail.tail.head
  go_region_held3 (fun w' => w'.cell? ⟨w3.heap.size, 0, none⟩ = some (.int .i64 A.b) ∧ w'.cell? ⟨w3.heap.size, 1, none⟩ = some (.int .i64 A.s) ∧ w'.cell? ⟨w3.heap.size, 2, none⟩ = some (.slice ca cn cc) ∧ w'.cell? ⟨w3.heap.size, 3, none⟩ = some (.slice vb m vd) ∧ w'.cell? ⟨w.heap.size, 0, none⟩ = some (.int .i64 A.b) ∧ w'.cell? ⟨w.heap.size, 1, none⟩ = some (.int .i64 A.s))
    (first | (go_keep; done))
    (first
      | (go_at_call 15; refine (rhandle_any _ _ _ _).mono ?_; rintro e w5 ⟨rfl, hb5⟩; have hE5 := hE.drew.still hb5; obtain ⟨p0', p1', p2', p3', q0', q1', r0', r1', r2', r3'⟩ := used_cells hE5; have fr' : ∀ j, w5.frozen? ⟨w.heap.size + 1, j, none⟩ = false := Blk.free hE5.tail.tail.tail.head))
  go_wp2_with fail
  refine bodyPost_ret (v := .tuple #[mdV A.b A.s (.slice ca cn cc) (.slice vb m vd), .int .i64 (hdl A.b A.s (k : Nat))]) (by simp [results, Try.results35, go_sem, *]) rfl ⟨_, _, rfl, ?_⟩
  have h5 := (((hE5.setBk [_, _, _] 0 (.int .i64 A.b)).setBk [_, _, _] 1 (.int .i64 A.s)).setBk [_, _, _] 2 (.slice ca cn cc)).setBk [_, _, _] 3 (.slice vb m vd)
  have h6 := h5.sub (l' := [_, _]) (List.Sublist.cons_cons _ (List.Sublist.cons _ (List.Sublist.cons_cons _ (List.nil_sublist _))))
  rw [fsl, hD.out]
  exact h6

theorem grow_cells {B : Nat} {w0 W : World} {l1 l2 : List Ob} {g2 g3 : Nat} {y0 y1 y2 y3 z0 z1 z2 z3 : Value} {t2 t3 : TypeId} (h : All B w0 (l1 ++ bk g2 [y0, y1, y2, y3] t2 :: bk g3 [z0, z1, z2, z3] t3 :: l2) W) :
    W.cell? ⟨g3, 0, none⟩ = some z0 ∧ W.cell? ⟨g3, 1, none⟩ = some z1 ∧ W.cell? ⟨g3, 2, none⟩ = some z2 ∧
    (W.cell? ⟨g2, 0, none⟩ = some y0 ∧ W.cell? ⟨g2, 1, none⟩ = some y1 ∧ W.cell? ⟨g2, 2, none⟩ = some y2 ∧ W.cell? ⟨g2, 3, none⟩ = some y3) ∧ ∀ j, W.frozen? ⟨g2, j, none⟩ = false := by
  have b2 : Blk _ _ _ _ := h.P (bk g2 [y0, y1, y2, y3] t2) (by simp)
  have b3 : Blk _ _ _ _ := h.P (bk g3 [z0, z1, z2, z3] t3) (by simp)
  exact ⟨b3.cell 0, b3.cell 1, b3.cell 2, ⟨b2.cell 0, b2.cell 1, b2.cell 2, b2.cell 3⟩, b2.free⟩

set_option maxRecDepth 100000 in
set_option maxHeartbeats 2000000 in
theorem madd_grow {w : World} {b s live : Int} {l : List (Bool × Int)} {cv fv : Value} (h : Own w 80 2 cv l.length (scells icell l)) (hf : Own w 3 1 fv 0 []) (v : Int) (hl : l.length ≤ 1000000) :
    Calls Try.prog 35 #[mdV b s cv fv, .int .i64 v] w fun e w' => ∃ cv' fv', e = .returned (.tuple #[mdV b s cv' fv', .int .i64 (hdl b s (l.length : Nat))]) ∧ All w.heap.size w [fsl fv' [], csl cv' (l ++ [(true, v)])] w' := by
  obtain ⟨fa, fc, rfl⟩ := own_shape hf
  obtain ⟨sa, sc, rfl⟩ := own_shape h
  have hA1 := (((All.start w).newBkA w.heap.size rfl [.int .i64 b, .int .i64 s, .slice sa l.length sc, .slice fa 0 fc] 68).newBkA (w.heap.size + 1) (by simp) [.int .i64 0, .int .i64 0, .slice none 0 0, .slice none 0 0] 68)
  have HS := Lib.hid (own_below h hA1.below)
  have HA := Lib.hid hA1
  clear h hA1 hf
  go_enter Try.func35, Try.ntmps35
  go_wp2_with fail
  generalize hW : (w.alloc (.cells #[.int .i64 b, .int .i64 s, .slice sa l.length sc, .slice fa 0 fc] 68)).alloc (.cells #[.int .i64 0, .int .i64 0, .slice none 0 0, .slice none 0 0] 68) = W
  have hA : All w.heap.size w _ W := hW ▸ HA.out
  have hS : Own W _ _ _ _ _ := hW ▸ HS.out
  have hsz : W.heap.size = w.heap.size + 2 := by rw [← hW]; simp
  have hsz1 : w.heap.size ≠ W.heap.size := by omega
  have hsz2 : w.heap.size + 1 ≠ W.heap.size := by omega
  have hszl : w.heap.size < W.heap.size := by omega
  have HSZ := Lib.hid hsz
  clear hW HA HS hsz
  obtain ⟨q0, q1, q2, ⟨r0, r1, r2, r3⟩, fr⟩ := grow_cells (l1 := []) (l2 := []) hA
  have HA := Lib.hid hA
  have HS := Lib.hid hS
  clear hA hS
  go_region_held3 (fun w' => w'.cell? ⟨w.heap.size, 0, none⟩ = some (.int .i64 b) ∧ w'.cell? ⟨w.heap.size, 1, none⟩ = some (.int .i64 s) ∧ w'.cell? ⟨w.heap.size, 2, none⟩ = some (.slice sa l.length sc))
    (first | (go_keep; done))
    (first
      | (refine step_append_all etC [] (HA.out.drew.newSlA (W.heap.size) (by simp) 80 2 0 [] rfl (by omega)) (own_below HS.out (((Below.refl _ _).drew).alloc (by simp) _)) (one_icells l) (by omega) (by omega) (by rfl) _ _ (by rfl) (by rfl) (by rfl) ?_; intro v' w4 hA4; simp only [List.nil_append, Nat.zero_add] at hA4; obtain ⟨q0', q1', q2', ⟨r0', r1', r2', r3'⟩, fr'⟩ := grow_cells (l1 := [_]) (l2 := []) hA4; have HA4 := Lib.hid hA4; clear hA4)
      | (refine step_append_all etC [_] ((HA.out.drew.newSlA (W.heap.size) (by simp) 80 2 0 [] rfl (by omega)).newSlA (W.heap.size + 1) (by simp) 80 2 1 [.bool true, .int .i64 v] rfl (by omega)) (own_below HS.out ((((Below.refl _ _).drew).alloc (by simp) _).alloc (by simp) _)) (one_icells l) (by omega) (by omega) (by rfl) _ _ (by rfl) (by rfl) (by rfl) ?_; intro v' w4 hA4; simp only [List.cons_append, List.nil_append, Nat.zero_add] at hA4; obtain ⟨q0', q1', q2', ⟨r0', r1', r2', r3'⟩, fr'⟩ := grow_cells (l1 := [_, _]) (l2 := []) hA4; have HB4 := Lib.hid hA4; clear hA4)
      | (refine step_append_all etC [] ((HA.out.drew.newSlA (W.heap.size) (by simp) 80 2 1 [.bool true, .int .i64 v] rfl (by omega)).newSlA (W.heap.size + 1) (by simp) 80 2 0 [] rfl (by omega)) (own_below HS.out ((((Below.refl _ _).drew).alloc (by simp) _).alloc (by simp) _)) (one_icells l) (by omega) (by omega) (by rfl) _ _ (by rfl) (by rfl) (by rfl) ?_; intro v' w4 hA4; simp only [List.nil_append, Nat.zero_add] at hA4; obtain ⟨q0', q1', q2', ⟨r0', r1', r2', r3'⟩, fr'⟩ := grow_cells (l1 := [_, _]) (l2 := []) hA4; have HC4 := Lib.hid hA4; clear hA4)
      | (refine step_append_all etC [] (HA4.out.alloc (.cells #[.bool true, .int .i64 v] 80)) (own_at (n := 1) (size := 2) (Blk.new w4 [.bool true, .int .i64 v] 80) rfl (by omega)) (by simp [Value.oneCell']) (by omega) (by omega) (by rfl) _ _ (by rfl) (by rfl) (by rfl) ?_; intro v'' w9 hA9; simp only [List.nil_append] at hA9; have hB9 := hA9.sub (l' := [_, _, _]) (List.Sublist.refl _); have ho : Own _ _ _ _ _ _ := hB9.head; obtain ⟨va, vc, rfl⟩ := own_shape ho; obtain ⟨q0'', q1'', q2'', ⟨r0'', r1'', r2'', r3''⟩, fr''⟩ := grow_cells (l1 := [_]) (l2 := []) hB9; have HA9 := Lib.hid hB9; clear hA9 hB9 ho)
      | (refine step_append_all etC [_] HB4.out HB4.out.head (by simp [Value.oneCell']) (by omega) (by omega) (by rfl) _ _ (by rfl) (by rfl) (by rfl) ?_; intro v'' w9 hA9; simp only [List.cons_append, List.nil_append] at hA9; have hB9 := hA9.sub (l' := [_, _, _]) (List.Sublist.cons _ (List.Sublist.refl _)); have ho : Own _ _ _ _ _ _ := hB9.head; obtain ⟨va, vc, rfl⟩ := own_shape ho; obtain ⟨q0'', q1'', q2'', ⟨r0'', r1'', r2'', r3''⟩, fr''⟩ := grow_cells (l1 := [_]) (l2 := []) hB9; have HA9 := Lib.hid hB9; clear hA9 hB9 ho)
      | (refine step_append_all etC [] HC4.out HC4.out.tail.head (by simp [Value.oneCell']) (by omega) (by omega) (by rfl) _ _ (by rfl) (by rfl) (by rfl) ?_; intro v'' w9 hA9; simp only [List.nil_append] at hA9; have hB9 := hA9.sub (l' := [_, _, _]) (List.Sublist.cons_cons _ (List.Sublist.cons _ (List.Sublist.refl _))); have ho : Own _ _ _ _ _ _ := hB9.head; obtain ⟨va, vc, rfl⟩ := own_shape ho; obtain ⟨q0'', q1'', q2'', ⟨r0'', r1'', r2'', r3''⟩, fr''⟩ := grow_cells (l1 := [_]) (l2 := []) hB9; have HA9 := Lib.hid hB9; clear hA9 hB9 ho)
      | (go_at_call 15; refine (rhandle_any _ _ _ _).mono ?_; rintro e w5 ⟨rfl, hb5⟩; have hE5 := HA9.out.still hb5; obtain ⟨p0', p1', p2', ⟨p3', p4', p5', p6'⟩, fr'⟩ := grow_cells (l1 := [_]) (l2 := []) hE5))
  all_goals
    go_wp2_with fail
    refine bodyPost_ret (v := .tuple #[mdV b s (.slice va (l.length + 1) vc) (.slice none 0 0), .int .i64 (hdl b s (l.length : Nat))]) (by simp [results, Try.results35, go_sem, *]) rfl ⟨_, _, rfl, ?_⟩
    have h5 := (((hE5.setBk [_] 0 (.int .i64 b)).setBk [_] 1 (.int .i64 s)).setBk [_] 2 (.slice va (l.length + 1) vc)).setBk [_] 3 (.slice none 0 0)
    have h6 := (h5.sub (l' := [_]) (List.Sublist.cons_cons _ (List.nil_sublist _))).nil 3 1
    simpa [fsl, csl, fcells, scells_append, scells, icell] using h6
end Go.Proofs.Ytabmmampgmcibaa.W
