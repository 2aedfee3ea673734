/- Texts joined: WatG WatR Dis Mut. -/
import Derived.Test.YtfdofkokiaapoaaGreatDoorGv13
import Derived.WalkSpells
import Derived.Deep.CutBlock
import Derived.Deep.DeepCutAuto
import Derived.RegionTactic
import Derived.ChangeAlike
import Derived.BigRegion
import Derived.Test.YtfdofkokiaapoaaGreatDoorGv12
import Derived.Test.YtfdofkokiaapoaaGreatDoorGv4
section
/- Watch, in general: a filter, a target that is watched already, no kind, no observer. -/
namespace Go.Proofs.YtfdofkokiaapoaaGreatDoor.W
open Go.RowKit
set_option linter.unusedVariables false
set_option linter.unusedSimpArgs false

theorem own_zero {w : World} {B e sz n : Nat} {v : Value} {xs : List Value} (h : w.ownsRow B e sz v n xs) : Own w e sz v n xs := by
  obtain ⟨h1, h2⟩ := h
  refine ⟨h1, h2.imp id ?_⟩
  rintro ⟨g, cap, cur, h3, h4, h5⟩
  exact ⟨g, cap, cur, h3, Nat.zero_le _, h5⟩
/-- a filter copied -/
theorem clone_flt {w : World} {fa : Option Addr} {fc : Nat} {flt : List (List UInt8)} (h : Own w 9 1 (.slice fa flt.length fc) flt.length (flt.map strV)) (hl : flt.length ≤ 100000) :
    Calls Tryz.prog 38 #[.slice fa flt.length fc] w fun e w' => ∃ va vc, e = .returned (.slice va flt.length vc) ∧ Own w' 9 1 (.slice va flt.length vc) flt.length (flt.map strV) ∧ (∀ k, (Value.slice va flt.length vc).ownBlock = some k → w.heap.size ≤ k) ∧ Below w.heap.size w w' := by
  have fin : ∀ {v' : Value} {w' : World}, w'.ownsRow w.heap.size 9 1 v' flt.length (flt.map strV) → ∃ va vc, v' = .slice va flt.length vc ∧ Own w' 9 1 (.slice va flt.length vc) flt.length (flt.map strV) ∧ (∀ k, (Value.slice va flt.length vc).ownBlock = some k → w.heap.size ≤ k) := by
    intro v' w' hv
    obtain ⟨va, vc, rfl⟩ := own_shape (own_zero hv)
    exact ⟨va, vc, rfl, own_zero hv, fun k hk => (hv.lt k hk).1⟩
  by_cases hz : flt = []
  · subst hz
    cases fa with
    | none =>
      refine (Tryz.slices_Clone_string_nil 0 fc w).mono ?_
      rintro e w' ⟨rfl, rfl⟩
      exact ⟨none, 0, rfl, World.ownsRow_nil _ _ _ _, (fun k hk => by cases hk), Below.refl _ _⟩
    | some p =>
      refine (Tryz.slices_Clone_string_zero p fc w).mono ?_
      rintro e w' ⟨v', rfl, hv, _, hb⟩
      obtain ⟨va, vc, rfl, h1, h2⟩ := fin hv
      exact ⟨va, vc, rfl, h1, h2, hb⟩
  · have hp : 0 < flt.length := List.length_pos_iff.2 hz
    obtain ⟨g, rfl, _, hc⟩ := flt_cells h hp
    refine (Tryz.slices_Clone_string g 0 flt.length fc (flt.map fun f => (⟨f.toArray⟩ : ByteArray)) w (by simp) (by omega) (fun j hj => ?_)).mono ?_
    · rw [List.length_map] at hj
      rw [Nat.zero_add, hc j hj]
      simp [hj]
    · rintro e w' ⟨v', rfl, hv, _, hb⟩
      rw [List.take_of_length_le (by simp), List.map_map] at hv
      obtain ⟨va, vc, rfl, h1, h2⟩ := fin hv
      exact ⟨va, vc, rfl, h1, h2, hb⟩

set_option maxRecDepth 100000 in
set_option maxHeartbeats 2000000 in
theorem index_hit {w : World} {v : Value} {l1 l2 : List Wt} {y0 : Wt} {x : Int} {g : Nat} (h : Own w 58 7 v (l1 ++ y0 :: l2).length (rows encW (l1 ++ y0 :: l2))) (hf : ∀ y ∈ l1 ++ y0 :: l2, ∃ a n c, y.fv = .slice a n c) (hg : w.cell? ⟨g, 0, none⟩ = some (.int .i64 x)) (hl : (l1 ++ y0 :: l2).length ≤ 2000000) (hno : ∀ y ∈ l1, y.target ≠ x) (hy0 : y0.target = x) :
    Calls Tryz.prog 63 #[v, .func (.func 64) #[] #[.pointer (some ⟨g, 0, none⟩)]] w fun e w' => e = .returned (.int .i64 (l1.length : Int)) ∧ Below w.heap.size w w' := by
  have hlt : g < w.heap.size := World.block_lt_of_cell? w ⟨g, 0, none⟩ hg
  have hl1 : l1.length < (l1 ++ y0 :: l2).length := by simp
  have HE := Lib.hid (show ∀ k (hk : k < l1.length), ∃ y, (l1 ++ y0 :: l2)[k]? = some y ∧ y.target ≠ x from fun k hk => ⟨l1[k], by rw [List.getElem?_append_left hk, List.getElem?_eq_getElem hk], hno _ (List.getElem_mem hk)⟩)
  have HY := Lib.hid (get_mid l1 y0 l2)
  generalize l1 ++ y0 :: l2 = l at *
  obtain ⟨va, vc, rfl⟩ := own_shape h
  have H := Lib.hid h
  have HG := Lib.hid hg
  have HF := Lib.hid hf
  have HY0 := Lib.hid hy0
  clear h hg hf hno hy0
  go_enter Tryz.func63, Tryz.ntmps63
  go_wp2_with fail
  go_loopw [8] (fun iv wr => ∃ k : Nat, k ≤ l1.length ∧ iv = .int .i64 (k : Int) ∧ Below w.heap.size w wr) (fun iv _ => l.length - (intOf iv).toNat)
  case atStart => exact ⟨0, Nat.zero_le _, rfl, Below.refl _ _⟩
  case round =>
    obtain ⟨k, hk, rfl, hB⟩ := hrel
    have hcell : ∀ y, l[k]? = some y → ∃ vg vc', va = some ⟨vg, 0, none⟩ ∧ vc = vc' ∧ ∀ j, j < 7 → wr.cell? ⟨vg, k * 7 + j, none⟩ = (encW y)[j]? := fun y hy => by
      have hO := own_below H.out hB
      obtain ⟨vg, vc', he, _⟩ := own_some hO (by omega)
      simp only [Value.slice.injEq] at he
      obtain ⟨rfl, _, rfl⟩ := he
      refine ⟨vg, vc, rfl, rfl, fun j hj => ?_⟩
      rw [hO.cellAt (k * 7 + j) (by omega)]
      exact rows_at (enc := encW) encW_len l k y hy j hj
    by_cases hkl : k < l1.length
    · obtain ⟨y, hy, hyx⟩ := HE.out k hkl
      obtain ⟨vg, vc', rfl, rfl, hq⟩ := hcell y hy
      have q0 := hq 0 (by omega)
      have q1 := hq 1 (by omega)
      have q2 := hq 2 (by omega)
      have q3 := hq 3 (by omega)
      have q4 := hq 4 (by omega)
      have q5 := hq 5 (by omega)
      have q6 := hq 6 (by omega)
      obtain ⟨fa, fn, fc, hfv⟩ := HF.out y (List.mem_of_getElem? hy)
      simp only [encW, hfv, List.getElem?_cons_zero, List.getElem?_cons_succ, Nat.add_zero] at q0 q1 q2 q3 q4 q5 q6
      have hc := (hB.cell (p := ⟨g, 0, none⟩) hlt).trans HG.out
      have HC := Lib.hid (watch1_any y.target x y.kids y.attrs y.data y.sub y.old (.slice fa fn fc) g wr hc fa fn fc rfl)
      have e1 : (y.target == x) = false := by simpa using hyx
      rw [e1] at HC
      clear hc hy e1 hyx hq hfv hcell
      go_wp2_with fail
      refine HC.out.mono ?_
      rintro e w2 ⟨rfl, hb2⟩
      go_wp2_with fail
      go_roundw
      case rel => exact ⟨k + 1, by omega, by go_num, hB.trans (hb2.mono hB.size)⟩
      case measure => simp [intOf]; omega
    · obtain rfl : k = l1.length := by omega
      obtain ⟨vg, vc', rfl, rfl, hq⟩ := hcell y0 HY.out
      have q0 := hq 0 (by omega)
      have q1 := hq 1 (by omega)
      have q2 := hq 2 (by omega)
      have q3 := hq 3 (by omega)
      have q4 := hq 4 (by omega)
      have q5 := hq 5 (by omega)
      have q6 := hq 6 (by omega)
      obtain ⟨fa, fn, fc, hfv⟩ := HF.out y0 (List.mem_of_getElem? HY.out)
      simp only [encW, hfv, List.getElem?_cons_zero, List.getElem?_cons_succ, Nat.add_zero] at q0 q1 q2 q3 q4 q5 q6
      have hc := (hB.cell (p := ⟨g, 0, none⟩) hlt).trans HG.out
      have HC := Lib.hid (watch1_any y0.target x y0.kids y0.attrs y0.data y0.sub y0.old (.slice fa fn fc) g wr hc fa fn fc rfl)
      have e1 : (y0.target == x) = true := by simpa using HY0.out
      rw [e1] at HC
      clear hc e1 hq hfv hcell
      go_wp2_with fail
      refine HC.out.mono ?_
      rintro e w2 ⟨rfl, hb2⟩
      go_wp2_with fail
      go_ret
      exact ⟨rfl, hB.trans (hb2.mono hB.size)⟩

set_option maxRecDepth 100000 in
set_option maxHeartbeats 8000000 in
theorem watch_app {B : Nat} {w0 w : World} {g zg zc : Nat} {nx : Int} {z1 z2 : List Oz} {z : Ov} {a b : Value} {fs : List Fl} {l : List Ob} (h : All B w0 (stF g (.slice (some ⟨zg, 0, none⟩) (z1 ++ (z, a, b) :: z2).length zc) nx (z1 ++ (z, a, b) :: z2) ++ (fo fs :: l)) w)
    (hn : ∀ y ∈ z1, y.1.id ≠ z.id) (hl : (z1 ++ (z, a, b) :: z2).length ≤ 1000000) (x : Wt) (hx : FltAt w x) (hxl : x.flt.length ≤ 100000) (hk : (x.kids || x.attrs || x.data) = true) (hs : z.ws.length ≤ 100000) (hf : ∀ y ∈ z.ws, ∃ a n c, y.fv = .slice a n c) (hno : ∀ y ∈ z.ws, y.target ≠ x.target) :
    Calls Tryz.prog 26 #[.pointer (some ⟨g, 0, none⟩), .int .i64 z.id, .agg (encW x).toArray] w fun e w' => ∃ a' fv', e = .returned (.int .i64 0) ∧
      All B w0 (stF g (.slice (some ⟨zg, 0, none⟩) (z1 ++ (z, a, b) :: z2).length zc) nx (z1 ++ (z.watch { x with fv := fv' }, a', b) :: z2) ++ (fo ((fv', x.flt) :: fs) :: l)) w' := by
  obtain ⟨t, ki, at', da, su, ol, flt, xfv⟩ := x
  simp only at hk hxl hno
  change Own w 9 1 xfv flt.length (flt.map strV) at hx
  obtain ⟨fa, fc, rfl⟩ := own_shape hx
  have hA1 := h.newBkA w.heap.size rfl [.int .i64 t, .bool ki, .bool at', .bool da, .bool su, .bool ol, .slice fa flt.length fc] 58
  have hbelow : Below w.heap.size w (w.alloc (.cells #[.int .i64 t, .bool ki, .bool at', .bool da, .bool su, .bool ol, .slice fa flt.length fc] 58)) := (Below.refl _ _).alloc (Nat.le_refl _) _
  have HCl := Lib.hid (clone_flt (own_below hx hbelow) hxl)
  generalize hgx : w.heap.size = gx at *
  change All B w0 _ (w.alloc (.cells #[.int .i64 t, .bool ki, .bool at', .bool da, .bool su, .bool ol, .slice fa flt.length fc] 58)) at hA1
  have HSz := Lib.hid (observer_atF (z := (z, a, b)) hA1.tail hn hl)
  have HA1 := Lib.hid hA1
  have HK := Lib.hid hk
  clear h hA1 hbelow hx hn hk hl
  simp only [encW]
  go_enter Tryz.func26, Tryz.ntmps26
  go_upto_region 1 with fail
  generalize w.alloc (.cells #[.int .i64 t, .bool ki, .bool at', .bool da, .bool su, .bool ol, .slice fa flt.length fc] 58) = w1 at *
  go_wp2_with fail
  refine HSz.out.mono ?_
  rintro e w1' ⟨rfl, hw⟩
  rw [← hw]
  clear hw
  have kx : Blk _ _ _ _ := HA1.out.head
  have x1 := kx.cell 1
  have x2 := kx.cell 2
  have x3 := kx.cell 3
  have x6 := kx.cell 6
  simp only [List.getElem?_cons_zero, List.getElem?_cons_succ] at x1 x2 x3 x6
  clear kx HSz
  go_upto_region 4 with fail
  go_cut [26] (fun s wx => s = .bool false ∧ wx = w1)
  case first =>
    have hk := HK.out
    clear HK HA1 HCl
    cases ki <;> cases at' <;> cases da <;> first | (exact absurd hk (by decide)) | (go_wp2_with fail; go_meet; exact ⟨rfl, rfl⟩)
  case rest =>
    obtain ⟨rfl, rfl⟩ := hcut
    clear x1 x2 x3 HK
    go_wp2_with fail
    refine HCl.out.mono ?_
    rintro e w2 ⟨va', vc', rfl, hov, hov2, hb2⟩
    have hA2 := HA1.out.still hb2
    have kx : Blk _ _ _ _ := hA2.head
    have x6 := kx.cell 6
    have xf := kx.free 6
    simp only [List.getElem?_cons_zero, List.getElem?_cons_succ] at x6
    have hA3 := All.addF (_ :: stF g _ nx _) (show All B w0 ((_ :: stF g _ nx (z1 ++ (z, a, b) :: z2)) ++ fo fs :: l) wc from HA1.out) hov hb2 hov2
    have hA4 := (show All B w0 ([] ++ bk gx [.int .i64 t, .bool ki, .bool at', .bool da, .bool su, .bool ol, .slice fa flt.length fc] 58 :: (stF g (.slice (some ⟨zg, 0, none⟩) (z1 ++ (z, a, b) :: z2).length zc) nx (z1 ++ (z, a, b) :: z2) ++ (fo ((.slice va' flt.length vc', flt) :: fs) :: l))) w2 from hA3).setBk [] 6 (.slice va' flt.length vc')
    have HA5 : Hid (All B w0 (bk gx [.int .i64 t, .bool ki, .bool at', .bool da, .bool su, .bool ol, .slice va' flt.length vc'] 58 :: (stF g (.slice (some ⟨zg, 0, none⟩) (z1 ++ (z, a, b) :: z2).length zc) nx (z1 ++ (z, a, b) :: z2) ++ (fo ((.slice va' flt.length vc', flt) :: fs) :: l))) (w2.setCell ⟨gx, 6, none⟩ (.slice va' flt.length vc'))) := Lib.hid hA4
    clear kx hA2 hA3 hA4 hov hov2 hb2 HCl HA1
    go_upto_region 7 with fail
    clear x6 xf
    generalize w2.setCell ⟨gx, 6, none⟩ (.slice va' flt.length vc') = w3 at *
    have hlen : z1.length * 4 + 4 ≤ (z1 ++ (z, a, b) :: z2).length * 4 := by simp; omega
    obtain ⟨⟨_, _, q2, _⟩, qf, hzlt, _, _, hO, _⟩ := om_cellsF HA5.out.tail
    obtain ⟨aa, ac, rfl⟩ := own_shape hO
    have k2 : Blk _ _ _ _ := HA5.out.head
    have HI := Lib.hid (index_wt hO hf (k2.cell 0) (by omega) hno)
    have hgxlt := k2.lt
    have HK2 := Lib.hid k2
    clear hO k2 hf hno
    generalize hk : z1.length = k at *
    have HKk := Lib.hid hk
    clear hk
    generalize hN : (z1 ++ (z, Value.slice aa z.ws.length ac, b) :: z2).length = N at *
    have HN := Lib.hid hN
    clear hN
    go_wp2_with fail
    refine HI.out.mono ?_
    rintro e w4 ⟨rfl, hb4⟩
    have hgx4 : gx < w4.heap.size := Nat.lt_of_lt_of_le hgxlt hb4.size
    have hzl4 : zg < w4.heap.size := Nat.lt_of_lt_of_le hzlt hb4.size
    have hA6 := HA5.out.still hb4
    have k3 := HK2.out.below hb4
    have p0 := k3.cell 0
    have p1 := k3.cell 1
    have p2 := k3.cell 2
    have p3 := k3.cell 3
    have p4 := k3.cell 4
    have p5 := k3.cell 5
    have p6 := k3.cell 6
    simp only [List.getElem?_cons_zero, List.getElem?_cons_succ] at p0 p1 p2 p3 p4 p5 p6
    have q3 := cell_keep hb4 q2
    rw [stF_split] at hA6
    have hA7 : All B w0 (([bk gx [.int .i64 t, .bool ki, .bool at', .bool da, .bool su, .bool ol, .slice va' flt.length vc'] 58, _, _] ++ obF z1) ++ sl 58 7 _ z.ws.length (rows encW z.ws) :: rl b z.rs :: (obF z2 ++ _)) w4 := hA6
    have HA := Lib.hid hA7
    have ea : ∀ o, (w4.alloc o).cell? ⟨zg, k * 4 + 2, none⟩ = some (.slice aa z.ws.length ac) := fun o => (World.cell?_alloc_lt _ _ _ hzl4).trans q3
    have R2 := Lib.hid (show (rows encO (z1 ++ (z, Value.slice aa z.ws.length ac, b) :: z2))[k * 4 + 2]? = some (.slice aa z.ws.length ac) from by
      have := rows_at (enc := encO) encO_len _ z1.length (z, Value.slice aa z.ws.length ac, b) (get_mid z1 (z, Value.slice aa z.ws.length ac, b) z2) 2 (by decide)
      rw [HKk.out] at this
      exact this)
    have hkN := Lib.hid (show k * 4 + 2 < N * 4 from by omega)
    clear hA6 hA7 k3 HI HA5 HK2 q2 hb4
    go_upto_region 10 with fail
    have T1 := Lib.hid ((HA.out.alloc (.cells #[.int .i64 t, .bool ki, .bool at', .bool da, .bool su, .bool ol, .slice va' flt.length vc'] 58)).drew)
    have T2 := Lib.hid (own_at (w := (w4.alloc (.cells #[.int .i64 t, .bool ki, .bool at', .bool da, .bool su, .bool ol, .slice va' flt.length vc'] 58)).drew) (g := w4.heap.size) (n := 1) (size := 7) (show Blk _ _ _ _ from Blk.new w4 [.int .i64 t, .bool ki, .bool at', .bool da, .bool su, .bool ol, .slice va' flt.length vc'] 58) rfl (by omega))
    have T3 := Lib.hid (show ∀ u ∈ ([.int .i64 t, .bool ki, .bool at', .bool da, .bool su, .bool ol, .slice va' flt.length vc'] : List Value), u.oneCell' = true from by intro u hu; simp only [List.mem_cons, List.not_mem_nil, or_false] at hu; rcases hu with rfl | rfl | rfl | rfl | rfl | rfl | rfl <;> rfl)
    go_region_law (refine step_append_all etW ([_, _, _] ++ obF z1) T1.out T2.out T3.out (by omega) (by omega) (by rfl) _ _ (by rfl) (by rfl) (by rfl) ?_; intro v' w5 hA5; have ho : Own _ _ _ _ _ _ := hA5.P (sl 58 7 v' (z.ws.length + 1) (rows encW z.ws ++ [.int .i64 t, .bool ki, .bool at', .bool da, .bool su, .bool ol, .slice va' flt.length vc'])) (by simp); obtain ⟨va, vc, rfl⟩ := own_shape ho; have hr5 : Own _ _ _ _ _ _ := hA5.tail.tail.head; rw [HN.out] at hr5; have d1 := hr5.cellAt (k * 4 + 2) hkN.out; rw [R2.out] at d1; have df := hr5.frozenAt (k * 4 + 2); have HB := Lib.hid hA5; clear hA5 ho hr5)
    all_goals
      go_wp2_with fail
      go_ret
      have hkk := HKk.out
      subst hkk
      have e1 : rows encW (z.watch ⟨t, ki, at', da, su, ol, flt, .slice va' flt.length vc'⟩).ws = rows encW z.ws ++ [.int .i64 t, .bool ki, .bool at', .bool da, .bool su, .bool ol, .slice va' flt.length vc'] := rows_snoc _ _
      have e2 : (z.watch ⟨t, ki, at', da, su, ol, flt, .slice va' flt.length vc'⟩).ws.length = z.ws.length + 1 := by simp [Ov.watch]
      have h7 := HB.out
      generalize Value.slice va (z.ws.length + 1) vc = V at h7 ⊢
      rw [← e1, ← e2] at h7
      have h8 := h7.tail
      have hNN := HN.out
      subst hNN
      exact ⟨V, .slice va' flt.length vc', rfl, om_set2F (z := z) (a := .slice aa z.ws.length ac) (z' := z.watch ⟨t, ki, at', da, su, ol, flt, .slice va' flt.length vc'⟩) h8 rfl rfl rfl⟩
end Go.Proofs.YtfdofkokiaapoaaGreatDoor.W
end
section
/- Watch of a target that is watched already: the watch is replaced. -/
namespace Go.Proofs.YtfdofkokiaapoaaGreatDoor.W
open Go.RowKit
set_option linter.unusedVariables false
set_option linter.unusedSimpArgs false

theorem index_hitL {w : World} {v : Value} {L l1 l2 : List Wt} {y0 : Wt} {x : Int} {g : Nat} (e : L = l1 ++ y0 :: l2) (h : Own w 58 7 v L.length (rows encW L)) (hf : ∀ y ∈ L, ∃ a n c, y.fv = .slice a n c) (hg : w.cell? ⟨g, 0, none⟩ = some (.int .i64 x)) (hl : L.length ≤ 2000000) (hno : ∀ y ∈ l1, y.target ≠ x) (hy0 : y0.target = x) :
    Calls Tryz.prog 63 #[v, .func (.func 64) #[] #[.pointer (some ⟨g, 0, none⟩)]] w fun e w' => e = .returned (.int .i64 (l1.length : Int)) ∧ Below w.heap.size w w' := by
  subst e
  exact index_hit h hf hg hl hno hy0
/-- a watch stored over another -/
theorem rows_put7 (l1 l2 : List Wt) (y : Wt) (x : Wt) : (((((((rows encW (l1 ++ y :: l2)).set (l1.length * 7) (.int .i64 x.target)).set (l1.length * 7 + 1) (.bool x.kids)).set (l1.length * 7 + 2) (.bool x.attrs)).set (l1.length * 7 + 3) (.bool x.data)).set (l1.length * 7 + 4) (.bool x.sub)).set (l1.length * 7 + 5) (.bool x.old)).set (l1.length * 7 + 6) x.fv = rows encW (l1 ++ x :: l2) := by
  have e : ∀ (j : Nat) (y y' : Wt) (u : Value), j < 7 → encW y' = (encW y).set j u → (rows encW (l1 ++ y :: l2)).set (l1.length * 7 + j) u = rows encW (l1 ++ y' :: l2) := fun j y y' u hj he => by
    have := rows_field (enc := encW) encW_len (l1 ++ y :: l2) l1.length j y y' u (get_mid _ _ _) hj he
    rw [set_mid] at this
    exact this.symm
  have e0 := e 0 y { y with target := x.target } (.int .i64 x.target) (by decide) rfl
  rw [Nat.add_zero] at e0
  rw [e0, e 1 { y with target := x.target } { y with target := x.target, kids := x.kids } (.bool x.kids) (by decide) rfl, e 2 { y with target := x.target, kids := x.kids } { y with target := x.target, kids := x.kids, attrs := x.attrs } (.bool x.attrs) (by decide) rfl, e 3 { y with target := x.target, kids := x.kids, attrs := x.attrs } { y with target := x.target, kids := x.kids, attrs := x.attrs, data := x.data } (.bool x.data) (by decide) rfl, e 4 { y with target := x.target, kids := x.kids, attrs := x.attrs, data := x.data } { y with target := x.target, kids := x.kids, attrs := x.attrs, data := x.data, sub := x.sub } (.bool x.sub) (by decide) rfl, e 5 { y with target := x.target, kids := x.kids, attrs := x.attrs, data := x.data, sub := x.sub } { y with target := x.target, kids := x.kids, attrs := x.attrs, data := x.data, sub := x.sub, old := x.old } (.bool x.old) (by decide) rfl, e 6 { y with target := x.target, kids := x.kids, attrs := x.attrs, data := x.data, sub := x.sub, old := x.old } x x.fv (by decide) rfl]

set_option maxRecDepth 100000 in
set_option maxHeartbeats 8000000 in
theorem watch_rep {B : Nat} {w0 w : World} {g zg zc : Nat} {nx : Int} {z1 z2 : List Oz} {z : Ov} {a b : Value} {fs : List Fl} {l : List Ob} {l1 l2 : List Wt} {y0 : Wt} (h : All B w0 (stF g (.slice (some ⟨zg, 0, none⟩) (z1 ++ (z, a, b) :: z2).length zc) nx (z1 ++ (z, a, b) :: z2) ++ (fo fs :: l)) w)
    (hn : ∀ y ∈ z1, y.1.id ≠ z.id) (hl : (z1 ++ (z, a, b) :: z2).length ≤ 1000000) (x : Wt) (hx : FltAt w x) (hxl : x.flt.length ≤ 100000) (hk : (x.kids || x.attrs || x.data) = true) (hs : z.ws.length ≤ 100000) (hf : ∀ y ∈ z.ws, ∃ a n c, y.fv = .slice a n c) (hws : z.ws = l1 ++ y0 :: l2) (hno : ∀ y ∈ l1, y.target ≠ x.target) (hy0 : y0.target = x.target) :
    Calls Tryz.prog 26 #[.pointer (some ⟨g, 0, none⟩), .int .i64 z.id, .agg (encW x).toArray] w fun e w' => ∃  fv', e = .returned (.int .i64 0) ∧
      All B w0 (stF g (.slice (some ⟨zg, 0, none⟩) (z1 ++ (z, a, b) :: z2).length zc) nx (z1 ++ ({ z with ws := l1 ++ { x with fv := fv' } :: l2 }, a, b) :: z2) ++ (fo ((fv', x.flt) :: fs) :: l)) w' := by
  obtain ⟨t, ki, at', da, su, ol, flt, xfv⟩ := x
  simp only at hk hxl hno hy0
  change Own w 9 1 xfv flt.length (flt.map strV) at hx
  obtain ⟨fa, fc, rfl⟩ := own_shape hx
  have hA1 := h.newBkA w.heap.size rfl [.int .i64 t, .bool ki, .bool at', .bool da, .bool su, .bool ol, .slice fa flt.length fc] 58
  have hbelow : Below w.heap.size w (w.alloc (.cells #[.int .i64 t, .bool ki, .bool at', .bool da, .bool su, .bool ol, .slice fa flt.length fc] 58)) := (Below.refl _ _).alloc (Nat.le_refl _) _
  have HCl := Lib.hid (clone_flt (own_below hx hbelow) hxl)
  generalize hgx : w.heap.size = gx at *
  change All B w0 _ (w.alloc (.cells #[.int .i64 t, .bool ki, .bool at', .bool da, .bool su, .bool ol, .slice fa flt.length fc] 58)) at hA1
  have HSz := Lib.hid (observer_atF (z := (z, a, b)) hA1.tail hn hl)
  have HA1 := Lib.hid hA1
  have HK := Lib.hid hk
  clear h hA1 hbelow hx hn hk hl
  simp only [encW]
  go_enter Tryz.func26, Tryz.ntmps26
  go_upto_region 1 with fail
  generalize w.alloc (.cells #[.int .i64 t, .bool ki, .bool at', .bool da, .bool su, .bool ol, .slice fa flt.length fc] 58) = w1 at *
  go_wp2_with fail
  refine HSz.out.mono ?_
  rintro e w1' ⟨rfl, hw⟩
  rw [← hw]
  clear hw
  have kx : Blk _ _ _ _ := HA1.out.head
  have x1 := kx.cell 1
  have x2 := kx.cell 2
  have x3 := kx.cell 3
  have x6 := kx.cell 6
  simp only [List.getElem?_cons_zero, List.getElem?_cons_succ] at x1 x2 x3 x6
  clear kx HSz
  go_upto_region 4 with fail
  go_cut [26] (fun s wx => s = .bool false ∧ wx = w1)
  case first =>
    have hk := HK.out
    clear HK HA1 HCl
    cases ki <;> cases at' <;> cases da <;> first | (exact absurd hk (by decide)) | (go_wp2_with fail; go_meet; exact ⟨rfl, rfl⟩)
  case rest =>
    obtain ⟨rfl, rfl⟩ := hcut
    clear x1 x2 x3 HK
    go_wp2_with fail
    refine HCl.out.mono ?_
    rintro e w2 ⟨va', vc', rfl, hov, hov2, hb2⟩
    have hA2 := HA1.out.still hb2
    have kx : Blk _ _ _ _ := hA2.head
    have x6 := kx.cell 6
    have xf := kx.free 6
    simp only [List.getElem?_cons_zero, List.getElem?_cons_succ] at x6
    have hA3 := All.addF (_ :: stF g _ nx _) (show All B w0 ((_ :: stF g _ nx (z1 ++ (z, a, b) :: z2)) ++ fo fs :: l) wc from HA1.out) hov hb2 hov2
    have hA4 := (show All B w0 ([] ++ bk gx [.int .i64 t, .bool ki, .bool at', .bool da, .bool su, .bool ol, .slice fa flt.length fc] 58 :: (stF g (.slice (some ⟨zg, 0, none⟩) (z1 ++ (z, a, b) :: z2).length zc) nx (z1 ++ (z, a, b) :: z2) ++ (fo ((.slice va' flt.length vc', flt) :: fs) :: l))) w2 from hA3).setBk [] 6 (.slice va' flt.length vc')
    have HA5 : Hid (All B w0 (bk gx [.int .i64 t, .bool ki, .bool at', .bool da, .bool su, .bool ol, .slice va' flt.length vc'] 58 :: (stF g (.slice (some ⟨zg, 0, none⟩) (z1 ++ (z, a, b) :: z2).length zc) nx (z1 ++ (z, a, b) :: z2) ++ (fo ((.slice va' flt.length vc', flt) :: fs) :: l))) (w2.setCell ⟨gx, 6, none⟩ (.slice va' flt.length vc'))) := Lib.hid hA4
    clear kx hA2 hA3 hA4 hov hov2 hb2 HCl HA1
    go_upto_region 7 with fail
    clear x6 xf
    generalize w2.setCell ⟨gx, 6, none⟩ (.slice va' flt.length vc') = w3 at *
    have hlen : z1.length * 4 + 4 ≤ (z1 ++ (z, a, b) :: z2).length * 4 := by simp; omega
    obtain ⟨⟨_, _, q2, _⟩, qf, hzlt, _, _, hO, _⟩ := om_cellsF HA5.out.tail
    obtain ⟨aa, ac, rfl⟩ := own_shape hO
    have k2 : Blk _ _ _ _ := HA5.out.head
    have HI := Lib.hid (index_hitL hws hO hf (k2.cell 0) (by omega) hno hy0)
    have hgxlt := k2.lt
    have HK2 := Lib.hid k2
    clear hO k2 hf hno
    have HWs := Lib.hid hws
    have hl1w : l1.length < z.ws.length := by rw [hws]; simp
    clear hws hy0
    generalize hk : z1.length = k at *
    have HKk := Lib.hid hk
    clear hk
    generalize hN : (z1 ++ (z, Value.slice aa z.ws.length ac, b) :: z2).length = N at *
    have HN := Lib.hid hN
    clear hN
    go_wp2_with fail
    refine HI.out.mono ?_
    rintro e w4 ⟨rfl, hb4⟩
    have hgx4 : gx < w4.heap.size := Nat.lt_of_lt_of_le hgxlt hb4.size
    have hzl4 : zg < w4.heap.size := Nat.lt_of_lt_of_le hzlt hb4.size
    have hA6 := HA5.out.still hb4
    have k3 := HK2.out.below hb4
    have p0 := k3.cell 0
    have p1 := k3.cell 1
    have p2 := k3.cell 2
    have p3 := k3.cell 3
    have p4 := k3.cell 4
    have p5 := k3.cell 5
    have p6 := k3.cell 6
    simp only [List.getElem?_cons_zero, List.getElem?_cons_succ] at p0 p1 p2 p3 p4 p5 p6
    have q3 := cell_keep hb4 q2
    rw [stF_split] at hA6
    have hA7 : All B w0 (([bk gx [.int .i64 t, .bool ki, .bool at', .bool da, .bool su, .bool ol, .slice va' flt.length vc'] 58, _, _] ++ obF z1) ++ sl 58 7 _ z.ws.length (rows encW z.ws) :: rl b z.rs :: (obF z2 ++ _)) w4 := hA6
    have HA := Lib.hid hA7
    have hO4 : Own w4 _ _ _ _ _ := HA.out.P (sl 58 7 (.slice aa z.ws.length ac) z.ws.length (rows encW z.ws)) (by simp)
    obtain ⟨ag, ac', he, _⟩ := own_some hO4 (by omega)
    simp only [Value.slice.injEq] at he
    obtain ⟨rfl, _, rfl⟩ := he
    have hlt9 : (l1.length : Int) < (z.ws.length : Int) := by omega
    have hcell : ∀ j, j < 7 → w4.cell? ⟨ag, l1.length * 7 + j, none⟩ = (encW y0)[j]? := fun j hj => by
      rw [hO4.cellAt (l1.length * 7 + j) (by omega)]
      exact rows_at (enc := encW) encW_len z.ws l1.length y0 (by rw [HWs.out]; exact get_mid _ _ _) j hj
    have r0 := hcell 0 (by omega)
    have r1 := hcell 1 (by omega)
    have r2 := hcell 2 (by omega)
    have r3 := hcell 3 (by omega)
    have r4 := hcell 4 (by omega)
    have r5 := hcell 5 (by omega)
    have r6 := hcell 6 (by omega)
    simp only [encW, List.getElem?_cons_zero, List.getElem?_cons_succ, Nat.add_zero] at r0 r1 r2 r3 r4 r5 r6
    have z0 := hO4.frozenAt (l1.length * 7)
    have z1' := hO4.frozenAt (l1.length * 7 + 1)
    have z2' := hO4.frozenAt (l1.length * 7 + 2)
    have z3 := hO4.frozenAt (l1.length * 7 + 3)
    have z4 := hO4.frozenAt (l1.length * 7 + 4)
    have z5 := hO4.frozenAt (l1.length * 7 + 5)
    have z6 := hO4.frozenAt (l1.length * 7 + 6)
    clear hA6 hA7 k3 HI HA5 HK2 q2 hb4 hcell hO4
    go_upto_region 9 with fail
    go_region
    all_goals
      go_wp2_with fail
      go_ret
      have h7 := (((((((HA.out.setSl ([_, _, _] ++ obF z1) (l1.length * 7) (.int .i64 t)).setSl ([_, _, _] ++ obF z1) (l1.length * 7 + 1) (.bool ki)).setSl ([_, _, _] ++ obF z1) (l1.length * 7 + 2) (.bool at')).setSl ([_, _, _] ++ obF z1) (l1.length * 7 + 3) (.bool da)).setSl ([_, _, _] ++ obF z1) (l1.length * 7 + 4) (.bool su)).setSl ([_, _, _] ++ obF z1) (l1.length * 7 + 5) (.bool ol)).setSl ([_, _, _] ++ obF z1) (l1.length * 7 + 6) (.slice va' flt.length vc')).drew
      have hr := rows_put7 l1 l2 y0 ⟨t, ki, at', da, su, ol, flt, .slice va' flt.length vc'⟩
      rw [← HWs.out] at hr
      rw [hr] at h7
      have hl : (l1 ++ (⟨t, ki, at', da, su, ol, flt, .slice va' flt.length vc'⟩ : Wt) :: l2).length = z.ws.length := by rw [HWs.out]; simp
      have hNN := HN.out
      have hkk := HKk.out
      subst hNN hkk
      generalize Value.slice (some ⟨ag, 0, none⟩) z.ws.length ac = V at h7 ⊢
      rw [← hl] at h7
      refine ⟨.slice va' flt.length vc', rfl, ?_⟩
      have er : rows encO (z1 ++ ({ z with ws := l1 ++ ⟨t, ki, at', da, su, ol, flt, .slice va' flt.length vc'⟩ :: l2 }, V, b) :: z2) = rows encO (z1 ++ (z, V, b) :: z2) := by rw [rows_append, rows_append]; rfl
      have el : (z1 ++ (({ z with ws := l1 ++ ⟨t, ki, at', da, su, ol, flt, .slice va' flt.length vc'⟩ :: l2 } : Ov), V, b) :: z2).length = (z1 ++ (z, V, b) :: z2).length := by simp
      rw [stF_split, er, el]
      exact h7.tail
end Go.Proofs.YtfdofkokiaapoaaGreatDoor.W
end
section
/- Take and Watch where there is no observer; Watch of no kind; Pending, where nothing is noted. -/
namespace Go.Proofs.YtfdofkokiaapoaaGreatDoor.W
open Go.RowKit
set_option linter.unusedVariables false
set_option linter.unusedSimpArgs false

set_option maxRecDepth 100000 in
theorem sizer_noF (g : Nat) (w : World) (id : Int) (hc : w.cell? ⟨g, 1, none⟩ = some (.slice none 0 0)) :
    Calls Tryz.prog 42 #[.pointer (some ⟨g, 0, none⟩), .int .i64 id] w fun e w' => e = .returned (.pointer none) ∧ w = w' := by
  go_enter Tryz.func42, Tryz.ntmps42
  go_wp2_with fail
  go_loop [11] (fun iv => iv = .int .i64 0) (fun iv => 0)
  case atStart => rfl
  case round =>
    subst hrel
    go_wp2_with fail
    go_ret
    exact ⟨rfl, rfl⟩

theorem cell1_F {B : Nat} {w0 w : World} {g : Nat} {zv : Value} {nx : Int} {zs : List Oz} {l : List Ob} (h : All B w0 (stF g zv nx zs ++ l) w) : w.cell? ⟨g, 1, none⟩ = some (.slice none 0 0) := by
  have hb : Blk _ _ _ _ := h.head
  have c1 := hb.cell 1
  simpa using c1

set_option maxRecDepth 100000 in
theorem take_no {B : Nat} {w0 w : World} {g : Nat} {zv : Value} {nx : Int} {zs : List Oz} {l : List Ob} (h : All B w0 (stF g zv nx zs ++ l) w) (id : Int) (hn : ∀ y ∈ zs, y.1.id ≠ id) (hl : zs.length ≤ 1000000) :
    Calls Tryz.prog 14 #[.pointer (some ⟨g, 0, none⟩), .int .i64 id] w fun e w' => e = .returned (.tuple #[.slice none 0 0, .int .i64 6]) ∧ w = w' := by
  have HO := Lib.hid (observer_noF h id hn hl)
  clear h hn
  go_enter Tryz.func14, Tryz.ntmps14
  go_wp2_with fail
  refine HO.out.mono ?_
  rintro e w1 ⟨rfl, hw⟩
  rw [← hw]
  clear hw
  go_wp2_with fail
  go_ret2
  exact ⟨rfl, rfl⟩

set_option maxRecDepth 100000 in
theorem watch_no {B : Nat} {w0 w : World} {g : Nat} {zv : Value} {nx : Int} {zs : List Oz} {l : List Ob} (h : All B w0 (stF g zv nx zs ++ l) w) (id : Int) (hn : ∀ y ∈ zs, y.1.id ≠ id) (hl : zs.length ≤ 1000000)
    (t : Int) (ki at' da su ol : Bool) (fa : Option Addr) (fn fc : Nat) :
    Calls Tryz.prog 26 #[.pointer (some ⟨g, 0, none⟩), .int .i64 id, .agg #[.int .i64 t, .bool ki, .bool at', .bool da, .bool su, .bool ol, .slice fa fn fc]] w fun e w' => e = .returned (.int .i64 6) ∧ Below w.heap.size w w' := by
  have hb : Below w.heap.size w (w.alloc (.cells #[.int .i64 t, .bool ki, .bool at', .bool da, .bool su, .bool ol, .slice fa fn fc] 58)) := (Below.refl _ _).alloc (Nat.le_refl _) _
  have HO := Lib.hid (observer_noF (h.still hb) id hn hl)
  clear h hn
  go_enter Tryz.func26, Tryz.ntmps26
  go_wp2_with fail
  refine HO.out.mono ?_
  rintro e w1 ⟨rfl, hw⟩
  rw [← hw]
  clear hw
  go_wp2_with fail
  go_ret
  exact ⟨rfl, hb⟩

set_option maxRecDepth 100000 in
theorem watch_arg {B : Nat} {w0 w : World} {g zg zc : Nat} {nx : Int} {z1 z2 : List Oz} {z : Ov} {a b : Value} {l : List Ob} (h : All B w0 (stF g (.slice (some ⟨zg, 0, none⟩) (z1 ++ (z, a, b) :: z2).length zc) nx (z1 ++ (z, a, b) :: z2) ++ l) w)
    (hn : ∀ y ∈ z1, y.1.id ≠ z.id) (hl : (z1 ++ (z, a, b) :: z2).length ≤ 1000000) (t : Int) (su ol : Bool) (fa : Option Addr) (fn fc : Nat) :
    Calls Tryz.prog 26 #[.pointer (some ⟨g, 0, none⟩), .int .i64 z.id, .agg #[.int .i64 t, .bool false, .bool false, .bool false, .bool su, .bool ol, .slice fa fn fc]] w fun e w' => e = .returned (.int .i64 1) ∧ Below w.heap.size w w' := by
  have hb : Below w.heap.size w (w.alloc (.cells #[.int .i64 t, .bool false, .bool false, .bool false, .bool su, .bool ol, .slice fa fn fc] 58)) := (Below.refl _ _).alloc (Nat.le_refl _) _
  have HO := Lib.hid (observer_atF (z := (z, a, b)) (h.still hb) hn hl)
  clear h hn
  go_enter Tryz.func26, Tryz.ntmps26
  go_wp2_with fail
  refine HO.out.mono ?_
  rintro e w1 ⟨rfl, hw⟩
  rw [← hw]
  clear hw
  go_wp2_with fail
  go_ret
  exact ⟨rfl, hb⟩

set_option maxRecDepth 100000 in
set_option maxHeartbeats 2000000 in
theorem next_zero {B : Nat} {w0 w : World} {g zg zc : Nat} {nx : Int} {zs : List Oz} {l : List Ob} (h : All B w0 (stF g (.slice (some ⟨zg, 0, none⟩) zs.length zc) nx zs ++ l) w) (hz : ∀ z ∈ zs, z.1.rs = []) (hl : zs.length ≤ 1000000) :
    Calls Tryz.prog 40 #[.pointer (some ⟨g, 0, none⟩)] w fun e w' => e = .returned (.int .i64 0) ∧ Below w.heap.size w w' := by
  have hb : Blk _ _ _ _ := h.head
  have c0 := hb.cell 0
  simp only [List.getElem?_cons_zero] at c0
  have H := Lib.hid h
  have HZ := Lib.hid hz
  generalize hNN : zs.length = N at *
  have HNN := Lib.hid hNN
  clear h hz hb hNN
  go_enter Tryz.func40, Tryz.ntmps40
  go_wp2_with fail
  go_loopw [3, 13] (fun idv iv wr => ∃ k : Nat, k ≤ N ∧ iv = .int .i64 (k : Int) ∧ idv = .int .i64 0 ∧ Below w.heap.size w wr) (fun _ iv _ => N - (intOf iv).toNat)
  case atStart => exact ⟨0, Nat.zero_le _, rfl, rfl, Below.refl _ _⟩
  case round =>
    obtain ⟨k, hk, rfl, rfl, hB⟩ := hrel
    by_cases hkl : k < N
    · obtain ⟨⟨z, a, b⟩, hx⟩ : ∃ x, zs[k]? = some x := ⟨_, List.getElem?_eq_getElem (by rw [HNN.out]; exact hkl)⟩
      have hzr := HZ.out _ (List.mem_of_getElem? hx)
      obtain ⟨z1, z2, rfl, hz1⟩ := split_at hx
      have hH := H.out.still hB
      rw [← HNN.out] at hH
      obtain ⟨⟨q0, q1, q2, q3⟩, _, _, _, _, ha, hb⟩ := om_cellsF hH
      obtain ⟨aa, ac, rfl⟩ := own_shape ha
      obtain ⟨ba, bc, rfl⟩ := own_shape hb
      simp only at hzr
      rw [hzr, List.length_nil] at q3
      rw [hz1] at q0 q1 q2 q3
      have HB := Lib.hid hB
      clear ha hb hB hH hx hz1 hzr
      go_wp2_with fail
      go_roundw
      case rel => exact ⟨k + 1, by omega, by go_num, rfl, HB.out.alloc HB.out.size _⟩
      case measure => simp [intOf]; omega
    · have hc := cell1_F (H.out.still hB)
      have HB := Lib.hid hB
      clear hB
      go_wp2_with fail
      go_loopw [3, 39] (fun idv iv wr2 => iv = .int .i64 0 ∧ idv = .int .i64 0 ∧ wr = wr2) (fun _ _ _ => 0)
      case atStart => exact ⟨rfl, rfl, rfl⟩
      case round =>
        obtain ⟨rfl, rfl, hw⟩ := hrel
        subst hw
        go_wp2_with fail
        go_ret
        exact ⟨rfl, HB.out⟩

theorem pending_no {B : Nat} {w0 w : World} {g zg zc : Nat} {nx : Int} {zs : List Oz} {l : List Ob} (h : All B w0 (stF g (.slice (some ⟨zg, 0, none⟩) zs.length zc) nx zs ++ l) w) (hz : ∀ z ∈ zs, z.1.rs = []) (hl : zs.length ≤ 1000000) :
    Calls Tryz.prog 12 #[.pointer (some ⟨g, 0, none⟩)] w fun e w' => e = .returned (.bool false) ∧ Below w.heap.size w w' := by
  have H := Lib.hid (next_zero h hz hl)
  clear h hz
  go_enter Tryz.func12, Tryz.ntmps12
  go_wp2_with fail
  refine H.out.mono ?_
  rintro e w1 ⟨rfl, hb⟩
  go_wp2_with fail
  go_ret
  exact ⟨rfl, hb⟩
end Go.Proofs.YtfdofkokiaapoaaGreatDoor.W
end
section
/- The contract of Mutate. -/
namespace Go.Proofs.YtfdofkokiaapoaaGreatDoor.W
open Go.RowKit
set_option linter.unusedVariables false
set_option linter.unusedSimpArgs false

/-- the handles of a document's nodes -/
def hds (S : Tr) (N : Nat) : List Int := (List.range N).map fun i => S.hd (i + 1)
theorem hds_len (S : Tr) (N : Nat) : (hds S N).length = N := by simp [hds]
theorem hds_at (S : Tr) (N i : Nat) (h : i < N) : (hds S N)[i]? = some (S.hd (i + 1)) := by simp [hds, h]
/-- what Mutate leaves -/
def MuR (B : Nat) (w0 : World) (R : Nat) (S : Tr) (sv fv : Value) (N : Nat) (l : List Ob) (e : Ending) (w' : World) : Prop :=
  ∃ S' K' d' v rs, e = .returned v ∧ Dc S' K' d' N ∧ S'.b = S.b ∧ S'.s = S.s ∧ (∀ r ∈ rs, Good S N r) ∧ rs.length ≤ 2 ∧ All B w0 (rl v rs :: trO R S' sv fv :: l) w'

set_option maxRecDepth 100000 in
set_option maxHeartbeats 4000000 in
theorem mutate_any {B : Nat} {w0 w : World} {R : Nat} {S : Tr} {sv fv hv : Value} {N : Nat} {l : List Ob} {K : Nat → List Nat} {d : Nat → Nat} (hD : Dc S K d N) (h : All B w0 (trO R S sv fv :: gl hv (hds S N) :: l) w) (hT : Laid w)
    (kd a b c : Nat) (hk : kd ≤ 255) (ha : a ≤ 255) (hb : b ≤ 255) (hc : c ≤ 255) (s : List UInt8) (hs : s.length ≤ 1000) (hN : N ≤ 1000) :
    Calls Tryz.prog 10 #[.pointer (some ⟨R, 0, none⟩), hv, .agg #[.int .u8 (kd : Int), .int .u8 (a : Int), .int .u8 (b : Int), .int .u8 (c : Int), strV s]] w (MuR B w0 R S sv fv N (gl hv (hds S N) :: l)) := by
  have hO : Own w _ _ _ _ _ := h.tail.head
  rw [hds_len] at hO
  by_cases h0 : N = 0
  · obtain ⟨va, vc, rfl⟩ := own_shape hO
    subst h0
    have H := Lib.hid h
    have HD := Lib.hid hD
    clear h hD hT hO
    unfold strV at *
    go_enter Tryz.func10, Tryz.ntmps10
    go_wp2_with fail
    go_ret
    exact ⟨S, K, d, _, [], rfl, HD.out, rfl, rfl, by simp, by simp, (H.out.alloc _).nil _ _⟩
  · obtain ⟨gh, ch, rfl, _⟩ := own_some hO (by omega)
    have hlt := (own_lt hO (k := gh) rfl)
    have hka : a % N < N := Nat.mod_lt _ (by omega)
    have hkb : b % N < N := Nat.mod_lt _ (by omega)
    have qa : w.cell? ⟨gh, a % N, none⟩ = some (.int .i64 (S.hd (a % N + 1))) := by
      have := hO.cellAt (a % N) (by omega)
      rw [this, hcells, List.getElem?_map, hds_at S N _ hka]; rfl
    have qb : w.cell? ⟨gh, b % N, none⟩ = some (.int .i64 (S.hd (b % N + 1))) := by
      have := hO.cellAt (b % N) (by omega)
      rw [this, hcells, List.getElem?_map, hds_at S N _ hkb]; rfl
    have hbx : Below w.heap.size w (w.alloc (.cells #[.int .u8 (kd : Int), .int .u8 (a : Int), .int .u8 (b : Int), .int .u8 (c : Int), .string ⟨s.toArray⟩] 43)) := (Below.refl _ _).alloc (Nat.le_refl _) _
    have kx := Blk.new w [.int .u8 (kd : Int), .int .u8 (a : Int), .int .u8 (b : Int), .int .u8 (c : Int), .string ⟨s.toArray⟩] 43
    unfold strV at *
    obtain ⟨va, hva⟩ := Option.isSome_iff_exists.1 (hD.used (a % N + 1) (by rw [hD.len]; omega))
    obtain ⟨vb, hvb⟩ := Option.isSome_iff_exists.1 (hD.used (b % N + 1) (by rw [hD.len]; omega))
    have hN0 : ¬ (N : Int) = 0 := by omega
    have hN1 : ((N : Int) == 0) = false := by simpa using hN0
    have H := Lib.hid h
    have HD := Lib.hid hD
    have HTt := Lib.hid hT
    clear h hD hT hO
    go_enter Tryz.func10, Tryz.ntmps10
    go_upto_region 3 with fail
    have HKX := Lib.hid (show Blk (w.alloc (.cells #[.int .u8 (kd : Int), .int .u8 (a : Int), .int .u8 (b : Int), .int .u8 (c : Int), .string ⟨s.toArray⟩] 43)) w.heap.size _ _ from kx)
    have qa1 := cell_keep hbx qa
    have qb1 := cell_keep hbx qb
    have hl1 := Nat.lt_of_lt_of_le hlt hbx.size
    have HBX := Lib.hid hbx
    clear hbx kx qa qb
    generalize hgx : w.heap.size = gx at *
    generalize w.alloc (.cells #[.int .u8 (kd : Int), .int .u8 (a : Int), .int .u8 (b : Int), .int .u8 (c : Int), .string ⟨s.toArray⟩] 43) = w1 at *
    have hgx1 := HKX.out.lt
    have x0 := HKX.out.cell 0
    have x1 := HKX.out.cell 1
    have x2 := HKX.out.cell 2
    have x3 := HKX.out.cell 3
    have x4 := HKX.out.cell 4
    simp only [List.getElem?_cons_succ, List.getElem?_cons_zero] at x0 x1 x2 x3 x4
    go_quiet (fail)
    have hbx' : Below w.heap.size w w1 := by rw [hgx]; exact HBX.out
    have hA2 := (H.out.still hbx').drewN nq
    have hx2 := Below.drewN hbx' nq
    have hk2 : Blk (w1.drewN nq) gx _ _ := HKX.out
    have HT2 := Lib.hid (HTt.out.below hx2)
    have H2 := Lib.hid hA2
    have HK2 := Lib.hid hk2
    clear hbx' hA2 hx2 hk2 x0 x1 x2 x4 qa1 qb1 HKX HTt H HBX hl1 hgx1
    change (w1.drewN nq).cell? ⟨gx, 3, none⟩ = _ at x3
    generalize w1.drewN nq = w2 at *
    have hc3 : c % 3 < 3 := Nat.mod_lt _ (by omega)
    have hgx2 := HK2.out.lt
    have x3' := cell_keep ((Below.refl _ w2).alloc (Nat.le_refl _) (.cells #[.string ⟨#[99, 108, 97, 115, 115]⟩, .string ⟨#[105, 100]⟩, .string ⟨#[116, 105, 116, 108, 101]⟩] 9)) x3
    obtain ⟨nm, hnm, qn⟩ : ∃ nm, AName nm ∧ (w2.alloc (.cells #[.string ⟨#[99, 108, 97, 115, 115]⟩, .string ⟨#[105, 100]⟩, .string ⟨#[116, 105, 116, 108, 101]⟩] 9)).cell? ⟨w2.heap.size, c % 3, none⟩ = some (.string ⟨nm.toArray⟩) := by
      have hbk := Blk.new w2 [.string ⟨#[99, 108, 97, 115, 115]⟩, .string ⟨#[105, 100]⟩, .string ⟨#[116, 105, 116, 108, 101]⟩] 9
      have h3 : c % 3 = 0 ∨ c % 3 = 1 ∨ c % 3 = 2 := by omega
      rcases h3 with e | e | e
      · exact ⟨_, name_class, by rw [e]; exact hbk.cell 0⟩
      · exact ⟨_, name_id, by rw [e]; exact hbk.cell 1⟩
      · exact ⟨_, name_title, by rw [e]; exact hbk.cell 2⟩
    go_upto_region 5 with fail
    have hb3 : Below w2.heap.size w2 (w2.alloc (.cells #[.string ⟨#[99, 108, 97, 115, 115]⟩, .string ⟨#[105, 100]⟩, .string ⟨#[116, 105, 116, 108, 101]⟩] 9)) := (Below.refl _ _).alloc (Nat.le_refl _) _
    have hA3 := H2.out.still hb3
    have hT3 := HT2.out.below hb3
    have hk3 := HK2.out.below hb3
    clear H2 HT2 HK2 hb3 x3 x3' qn hgx2 hc3
    generalize w2.alloc (.cells #[.string ⟨#[99, 108, 97, 115, 115]⟩, .string ⟨#[105, 100]⟩, .string ⟨#[116, 105, 116, 108, 101]⟩] 9) = w3 at *
    have x0 := hk3.cell 0
    have x3 := hk3.cell 3
    have x4 := hk3.cell 4
    simp only [List.getElem?_cons_succ, List.getElem?_cons_zero] at x0 x3 x4
    have hD := HD.out
    have HI := Lib.hid (fun wx (hb : Below w3.heap.size w3 wx) o ho => op_insert hD (hA3.still hb) (b % N + 1) (a % N + 1) o vb va hvb hva ho)
    have HRm := Lib.hid (op_remove hD hA3 (a % N + 1) va hva (by omega))
    have HSt := Lib.hid (op_setAttr hD hA3 hT3 (a % N + 1) va hva (by omega) nm s hnm hs)
    have HDr := Lib.hid (op_dropAttr hD hA3 (a % N + 1) va hva (by omega) nm)
    have HRp := Lib.hid (op_replace hD hA3 hT3 (a % N + 1) va hva (by omega) (c : Int) (by omega) (by omega) s hs)
    obtain ⟨gs, cs, hsv⟩ := tr_sl hD hA3
    have hTt : TAt 0 R S sv fv w3 := hA3.head
    rw [hsv] at hTt
    have HKd := Lib.hid (kids_any hTt hD.lk (b % N + 1) vb hvb)
    have HX := Lib.hid (fun wx (hb : Below w3.heap.size w3 wx) => (hk3.below hb).cell 3)
    simp only [List.getElem?_cons_succ, List.getElem?_cons_zero] at HX
    have hkl := kids_len hD.lk (b % N + 1)
    have HLk := Lib.hid hD.lk
    clear hTt hsv hD hA3 hT3 hk3
    unfold strV at *
    have h6 : kd % 6 = 0 ∨ kd % 6 = 1 ∨ kd % 6 = 2 ∨ kd % 6 = 3 ∨ kd % 6 = 4 ∨ kd % 6 = 5 := by omega
    rcases h6 with e6 | e6 | e6 | e6 | e6 | e6
    case' inl =>
      have d0 : (((kd : Int) % 6) == 0) = true := by simp; omega
    case' inr.inl =>
      have d0 : (((kd : Int) % 6) == 0) = false := by simp; omega
      have d1 : (((kd : Int) % 6) == 1) = true := by simp; omega
    case' inr.inr.inl =>
      have d0 : (((kd : Int) % 6) == 0) = false := by simp; omega
      have d1 : (((kd : Int) % 6) == 1) = false := by simp; omega
      have d2 : (((kd : Int) % 6) == 2) = true := by simp; omega
      clear e6 HI HSt HDr HRp HKd HX
      go_wp2_with fail
      refine HRm.out.mono ?_
      rintro e w4 ⟨S', K', d', v, er, rs, rfl, q1, q2, q3, q4, q5, q6⟩
      go_wp2_with fail
      go_ret
      exact ⟨S', K', d', v, rs, rfl, q1, q2, q3, q4, q5, q6⟩
    case' inr.inr.inr.inl =>
      have d0 : (((kd : Int) % 6) == 0) = false := by simp; omega
      have d1 : (((kd : Int) % 6) == 1) = false := by simp; omega
      have d2 : (((kd : Int) % 6) == 2) = false := by simp; omega
      have d3 : (((kd : Int) % 6) == 3) = true := by simp; omega
      clear e6 HI HRm HDr HRp HKd HX
      go_wp2_with fail
      refine HSt.out.mono ?_
      rintro e w4 ⟨S', K', d', v, er, rs, rfl, q1, q2, q3, q4, q5, q6⟩
      go_wp2_with fail
      go_ret
      exact ⟨S', K', d', v, rs, rfl, q1, q2, q3, q4, q5, q6⟩
    case' inr.inr.inr.inr.inl =>
      have d0 : (((kd : Int) % 6) == 0) = false := by simp; omega
      have d1 : (((kd : Int) % 6) == 1) = false := by simp; omega
      have d2 : (((kd : Int) % 6) == 2) = false := by simp; omega
      have d3 : (((kd : Int) % 6) == 3) = false := by simp; omega
      have d4 : (((kd : Int) % 6) == 4) = true := by simp; omega
      clear e6 HI HRm HSt HRp HKd HX
      go_wp2_with fail
      refine HDr.out.mono ?_
      rintro e w4 ⟨S', K', d', v, er, rs, rfl, q1, q2, q3, q4, q5, q6⟩
      go_wp2_with fail
      go_ret
      exact ⟨S', K', d', v, rs, rfl, q1, q2, q3, q4, q5, q6⟩
    case' inr.inr.inr.inr.inr =>
      have d0 : (((kd : Int) % 6) == 0) = false := by simp; omega
      have d1 : (((kd : Int) % 6) == 1) = false := by simp; omega
      have d2 : (((kd : Int) % 6) == 2) = false := by simp; omega
      have d3 : (((kd : Int) % 6) == 3) = false := by simp; omega
      have d4 : (((kd : Int) % 6) == 4) = false := by simp; omega
      clear e6 HI HRm HSt HDr HKd HX
      go_wp2_with fail
      refine HRp.out.mono ?_
      rintro e w4 ⟨S', K', d', v, er, rs, rfl, q1, q2, q3, q4, q5, q6⟩
      go_wp2_with fail
      go_ret
      exact ⟨S', K', d', v, rs, rfl, q1, q2, q3, q4, q5, q6⟩
    all_goals
      clear e6 HRm HSt HDr HRp
      go_wp2_with fail
      refine HKd.out.mono ?_
      rintro e w4 ⟨kv, rfl, hown, hb4⟩
      have x34 := HX.out _ hb4
      obtain ⟨ka, kc, rfl⟩ := own_shapeB hown
      by_cases hcl : c < (K (b % N + 1)).length
      · have dc : decide ((c : Int) < ((K (b % N + 1)).length : Int)) = true := by simp; omega
        obtain ⟨x, hx⟩ : ∃ x, (K (b % N + 1))[c]? = some x := ⟨_, List.getElem?_eq_getElem hcl⟩
        obtain ⟨gv, cp, hgv, qx⟩ := own_int hown (j := c) (x := S.hd x) (by rw [List.getElem?_map, hx]; rfl)
        simp only [Value.slice.injEq] at hgv
        obtain ⟨rfl, _, rfl⟩ := hgv
        have HIn := Lib.hid (HI.out w4 hb4 (some x) (fun y hy => by cases hy; exact List.mem_of_getElem? hx))
        rw [show hO S (some x) = S.hd x from rfl] at HIn
        clear hown hx HI HX
        go_wp2_with fail
        refine HIn.out.mono ?_
        rintro e w5 ⟨S', K', d', v, er, rs, rfl, q1, q2, q3, q4, q5, q6⟩
        go_wp2_with fail
        go_ret
        exact ⟨S', K', d', v, rs, rfl, q1, q2, q3, q4, q5, q6⟩
      · have dc : decide ((c : Int) < ((K (b % N + 1)).length : Int)) = false := by simp; omega
        have HIn := Lib.hid (HI.out w4 hb4 none (fun y hy => by cases hy))
        rw [show hO S none = 0 from rfl] at HIn
        clear hown HI HX
        go_wp2_with fail
        refine HIn.out.mono ?_
        rintro e w5 ⟨S', K', d', v, er, rs, rfl, q1, q2, q3, q4, q5, q6⟩
        go_wp2_with fail
        go_ret
        exact ⟨S', K', d', v, rs, rfl, q1, q2, q3, q4, q5, q6⟩
end Go.Proofs.YtfdofkokiaapoaaGreatDoor.W
end
