/- Texts joined: Ntd RcdO LaidW. -/
import Derived.Test.YtfdofkokiaapoaaDoorGr17
import Derived.Test.YtfdofkokiaapoaaDoorGr22
import Derived.Deep.RegionLaw
import Derived.Test.YtfdofkokiaapoaaDoorGr7
import Derived.Test.YtfdofkokiaapoaaDoorGr18
import Derived.Test.YtfdofkokiaapoaaDoorCards
import Derived.Test.YtfdofkokiaapoaaDoorTie
import Derived.Shelf.Vars
import Derived.Lib.LaidU8T
import Derived.Shelf.Unicode.ValidAny
import Derived.Lib.LaidIn
import Derived.Deep.DeepHandedRow
import Derived.Deep.DeepWitnessRowRef
import Derived.SizedLaws
section
/- noted, of the law: what an observer with these watches is told of records. -/
namespace Go.Proofs.YtfdofkokiaapoaaDoor.W
open Go.RowKit
set_option linter.unusedVariables false
set_option linter.unusedSimpArgs false

def NtdR (w : World) (c : Wb → Rc → Bool) (ws : List Wt) (rs : List Rc) (ov iv : Value) (wr : World) : Prop :=
  ∃ m : Nat, m ≤ rs.length ∧ iv = .int .i64 (m : Int) ∧ All w.heap.size w [rl ov (toldL c (ws.map Wt.bare) (rs.take m))] wr
theorem told_take {c : Wb → Rc → Bool} {ws : List Wb} {rs : List Rc} {m : Nat} {r : Rc} (h : rs[m]? = some r) : toldL c ws (rs.take (m + 1)) = toldL c ws (rs.take m) ++ toldR c ws r := by
  rw [List.take_add_one, h]
  exact toldL_snoc c ws _ r

set_option maxRecDepth 100000 in
set_option maxHeartbeats 16000000 in
theorem noted_any {w : World} {R : Nat} {S : Tr} {sv fv wv v : Value} {N : Nat} {K : Nat → List Nat} {d : Nat → Nat} {ws : List Wt} {rs : List Rc} {fs : List Fl} (hD : Dc S K d N) (hT : TAt 0 R S sv fv w) (hw : Own w 44 7 wv ws.length (rows encW ws)) (hf : (fo fs).P w) (hin : FIn fs ws)
    (htg : rs ≠ [] → ∀ x ∈ ws, ∃ i, i ≤ N ∧ x.target = S.hd i) (hfl : ∀ x ∈ ws, x.flt.length ≤ 100000) (hv : Own w 90 11 v rs.length (rows encR rs)) (hgood : ∀ r ∈ rs, Good S N r) (hl1 : rs.length ≤ 1000) (hl2 : ws.length ≤ 1000) :
    Calls Tryd.prog 16 #[.pointer (some ⟨R, 0, none⟩), wv, v] w fun e w' => ∃ v', e = .returned v' ∧ All w.heap.size w [rl v' (toldL (covB S d N) (ws.map Wt.bare) rs)] w' := by
  obtain ⟨wa, wc, rfl⟩ := own_shape hw
  obtain ⟨va, vc, rfl⟩ := own_shape hv
  have HD := Lib.hid hD
  have HT := Lib.hid hT
  have HW := Lib.hid hw
  have HF := Lib.hid hf
  have HIn := Lib.hid hin
  have HTg := Lib.hid htg
  have HFl := Lib.hid hfl
  have HV := Lib.hid hv
  have HG := Lib.hid hgood
  have HA0 := Lib.hid ((All.start w).nil 90 11)
  clear hD hT hw hf hin htg hfl hv hgood
  go_enter Tryd.func16, Tryd.ntmps16
  go_wp2_with fail
  go_loopw [7, 15] (fun ov iv wr => NtdR w (covB S d N) ws rs ov iv wr) (fun _ iv _ => rs.length - (intOf iv).toNat)
  case atStart => exact ⟨0, Nat.zero_le _, rfl, HA0.out⟩
  case round =>
    obtain ⟨m, hm, rfl, hA⟩ := hrel
    by_cases hml : m < rs.length
    · have ho : Own _ _ _ _ _ _ := hA.head
      obtain ⟨oa, oc, rfl⟩ := own_shape ho
      have HA := Lib.hid hA
      have HB := Lib.hid hA.below
      clear ho hA
      obtain ⟨r, hr⟩ : ∃ r, rs[m]? = some r := ⟨_, List.getElem?_eq_getElem hml⟩
      have hO := own_below HV.out HB.out
      obtain ⟨vg, vc', he, _⟩ := own_some hO (by omega)
      simp only [Value.slice.injEq] at he
      obtain ⟨rfl, _, rfl⟩ := he
      have HQ := Lib.hid (fun (wx : World) (hb : Below wr.heap.size wr wx) (j : Nat) (hj : j < 11) => (show wx.cell? ⟨vg, m * 11 + j, none⟩ = (encR r)[j]? from by
        rw [(own_below hO hb).cellAt (m * 11 + j) (by omega)]
        exact rows_at (enc := encR) encR_len rs m r hr j hj))
      have HGr := Lib.hid (HG.out r (List.mem_of_getElem? hr))
      have HTr := Lib.hid (HTg.out (by rintro rfl; simp at hml))
      have HTk := Lib.hid (told_take (c := covB S d N) (ws := ws.map Wt.bare) hr)
      have htl := toldL_len (covB S d N) (ws.map Wt.bare) (rs.take m)
      have htl2 : (rs.take m).length ≤ m := by simp; omega
      generalize toldL (covB S d N) (ws.map Wt.bare) (rs.take m) = D at *
      have hDl : D.length ≤ 1000 := by omega
      clear hr hO htl htl2
      go_wp2_with fail
      go_loopw [9, 10, 20] (fun cv ov iv wr3 => Ng3 (covB S d N) ws r wr cv ov iv wr3) (fun _ _ iv _ => ws.length - (intOf iv).toNat)
      case atStart => exact ⟨0, Nat.zero_le _, rfl, rfl, rfl, Below.refl _ _⟩
      case round =>
        obtain ⟨j, hj, rfl, rfl, rfl, hB⟩ := hrel
        by_cases hjl : j < ws.length
        · obtain ⟨x, hx⟩ : ∃ x, ws[j]? = some x := ⟨_, List.getElem?_eq_getElem hjl⟩
          have hxm := List.mem_of_getElem? hx
          have hO := own_below HW.out (bthen HB.out hB)
          obtain ⟨wg, wc', he, _⟩ := own_some hO (by omega)
          simp only [Value.slice.injEq] at he
          obtain ⟨rfl, _, rfl⟩ := he
          have hfx := HF.out _ (HIn.out x hxm)
          obtain ⟨fa, fc, hfv⟩ := own_shape hfx
          have hq : ∀ (wx : World) (hb : Below wr.heap.size wr wx) j', j' < 7 → wx.cell? ⟨wg, j * 7 + j', none⟩ = (encW x)[j']? := fun wx hb j' hj' => by
            rw [(own_below hO hb).cellAt (j * 7 + j') (by omega)]
            exact rows_at (enc := encW) encW_len ws j x hx j' hj'
          have HQ2 := Lib.hid hq
          have q0 := hq wr (Below.refl _ _) 0 (by omega)
          have q1 := hq wr (Below.refl _ _) 1 (by omega)
          have q2 := hq wr (Below.refl _ _) 2 (by omega)
          have q3 := hq wr (Below.refl _ _) 3 (by omega)
          have q4 := hq wr (Below.refl _ _) 4 (by omega)
          have q5 := hq wr (Below.refl _ _) 5 (by omega)
          have q6 := hq wr (Below.refl _ _) 6 (by omega)
          simp only [encW, hfv, List.getElem?_cons_zero, List.getElem?_cons_succ, Nat.add_zero] at q0 q1 q2 q3 q4 q5 q6
          have p0 := HQ.out wr hB 0 (by omega)
          have p1 := HQ.out wr hB 1 (by omega)
          have p2 := HQ.out wr hB 2 (by omega)
          have p3 := HQ.out wr hB 3 (by omega)
          have p4 := HQ.out wr hB 4 (by omega)
          have p5 := HQ.out wr hB 5 (by omega)
          have p6 := HQ.out wr hB 6 (by omega)
          have p7 := HQ.out wr hB 7 (by omega)
          have p8 := HQ.out wr hB 8 (by omega)
          have p9 := HQ.out wr hB 9 (by omega)
          have p10 := HQ.out wr hB 10 (by omega)
          simp only [encR, recC, strV, List.getElem?_cons_zero, List.getElem?_cons_succ, Nat.add_zero] at p0 p1 p2 p3 p4 p5 p6 p7 p8 p9 p10
          have HCf := Lib.hid (fun (wx : World) (hb : Below w.heap.size w wx) => covers_law HD.out (HT.out.below hb) x (HTr.out x hxm) r HGr.out (own_below hfx hb) (HFl.out x hxm))
          simp only [encR, recC, strV, encW, hfv] at HCf
          have HX1 := Lib.hid (any_take ws j x (fun x => covB S d N x.bare r) hx)
          have HX2 := Lib.hid (any_take ws j x (fun x => covB S d N x.bare r && x.old) hx)
          generalize covB S d N x.bare r = cc at *
          generalize ((ws.take j).any fun x => covB S d N x.bare r) = cv at *
          generalize ((ws.take j).any fun x => covB S d N x.bare r && x.old) = ov at *
          have HBw := Lib.hid (bthen HB.out hB)
          have HBr := Lib.hid hB
          have hjl2 : (j : Int) < (ws.length : Int) := by omega
          have hml2 : (m : Int) < (rs.length : Int) := by omega
          clear hO hx hxm hq hfx hB
          go_upto_region 9 with fail
          go_region_law (go_simp; go_at_call 38; refine (HCf.out _ (bthen HBw.out (Below.refl _ _).drew)).mono ?_; rintro e w5 ⟨rfl, hb5⟩; have HB5 := Lib.hid (bthen (Below.refl _ _).drew hb5); clear hb5)
          all_goals
            cases cc
            · go_wp2_with fail
              exact ⟨⟨j + 1, by omega, by go_num, by rw [HX1.out]; simp, by rw [HX2.out]; simp, bthen HBr.out HB5.out⟩, by simp [intOf]; omega⟩
            · have k5 := HQ2.out w5 HB5.out 5 (by omega)
              simp only [encW, List.getElem?_cons_zero, List.getElem?_cons_succ] at k5
              cases ov
              · go_wp2_with fail
                exact ⟨⟨j + 1, by omega, by go_num, by rw [HX1.out]; simp, by rw [HX2.out]; simp, bthen HBr.out HB5.out⟩, by simp [intOf]; omega⟩
              · go_wp2_with fail
                exact ⟨⟨j + 1, by omega, by go_num, by rw [HX1.out]; simp, by rw [HX2.out]; simp, bthen HBr.out HB5.out⟩, by simp [intOf]; omega⟩
        · obtain rfl : j = ws.length := by omega
          rw [List.take_length]
          have p0 := HQ.out wr hB 0 (by omega)
          have p1 := HQ.out wr hB 1 (by omega)
          have p2 := HQ.out wr hB 2 (by omega)
          have p3 := HQ.out wr hB 3 (by omega)
          have p4 := HQ.out wr hB 4 (by omega)
          have p5 := HQ.out wr hB 5 (by omega)
          have p6 := HQ.out wr hB 6 (by omega)
          have p7 := HQ.out wr hB 7 (by omega)
          have p8 := HQ.out wr hB 8 (by omega)
          have p9 := HQ.out wr hB 9 (by omega)
          have p10 := HQ.out wr hB 10 (by omega)
          simp only [encR, recC, strV, List.getElem?_cons_zero, List.getElem?_cons_succ, Nat.add_zero] at p0 p1 p2 p3 p4 p5 p6 p7 p8 p9 p10
          generalize hcv : (ws.any fun x => covB S d N x.bare r) = cv at *
          generalize hov : (ws.any fun x => covB S d N x.bare r && x.old) = ov at *
          have HCv := Lib.hid hcv
          have HOv := Lib.hid hov
          have hml2 : (m : Int) < (rs.length : Int) := by omega
          clear hcv hov
          cases cv
          · have HBl := Lib.hid (bthen hB ((Below.refl _ _).alloc (Nat.le_refl _) (.cells #[.int .i64 r.kind, .int .i64 r.target, .int .i64 r.node, .int .i64 r.prev, .int .i64 r.next, .int .i64 r.index, .string ⟨r.name.toArray⟩, .string ⟨r.old.toArray⟩, .bool r.had, .int .i64 r.count, .int .i64 r.size] 90)))
            have HBl2 := Lib.hid (bthen hB ((Below.refl _ _).alloc (Nat.le_refl _) (.cells #[.int .i64 r.kind, .int .i64 r.target, .int .i64 r.node, .int .i64 r.prev, .int .i64 r.next, .int .i64 r.index, .string ⟨r.name.toArray⟩, .string ⟨([] : List UInt8).toArray⟩, .bool r.had, .int .i64 r.count, .int .i64 r.size] 90)))
            clear hB
            cases ov
            · go_wp2_with fail
              exact ⟨⟨m + 1, by omega, by go_num, by rw [HTk.out, told_no HCv.out, List.append_nil]; exact HA.out.still HBl2.out⟩, by simp [intOf]; omega⟩
            · go_wp2_with fail
              exact ⟨⟨m + 1, by omega, by go_num, by rw [HTk.out, told_no HCv.out, List.append_nil]; exact HA.out.still HBl.out⟩, by simp [intOf]; omega⟩
          · cases ov
            · have hA6 := (HA.out.still hB).newBkA wr.heap.size rfl [.int .i64 r.kind, .int .i64 r.target, .int .i64 r.node, .int .i64 r.prev, .int .i64 r.next, .int .i64 r.index, .string ⟨r.name.toArray⟩, .string ⟨([] : List UInt8).toArray⟩, .bool r.had, .int .i64 r.count, .int .i64 r.size] 90
              have HA6 := Lib.hid hA6
              clear hB
              go_upto_region 16 with fail
              clear p0 p1 p2 p3 p4 p5 p6 p7 p8 p9 p10
              generalize hr14 : wr.heap.size = r14 at *
              have HA7 := Lib.hid HA6.out
              clear HA6
              generalize wr.alloc (.cells #[.int .i64 r.kind, .int .i64 r.target, .int .i64 r.node, .int .i64 r.prev, .int .i64 r.next, .int .i64 r.index, .string ⟨r.name.toArray⟩, .string ⟨([] : List UInt8).toArray⟩, .bool r.had, .int .i64 r.count, .int .i64 r.size] 90) = w6 at *
              have k14 : Blk w6 r14 [.int .i64 r.kind, .int .i64 r.target, .int .i64 r.node, .int .i64 r.prev, .int .i64 r.next, .int .i64 r.index, .string ⟨r.name.toArray⟩, .string ⟨([] : List UInt8).toArray⟩, .bool r.had, .int .i64 r.count, .int .i64 r.size] 90 := HA7.out.head
              have p0 := k14.cell 0
              have p1 := k14.cell 1
              have p2 := k14.cell 2
              have p3 := k14.cell 3
              have p4 := k14.cell 4
              have p5 := k14.cell 5
              have p6 := k14.cell 6
              have p7 := k14.cell 7
              have p8 := k14.cell 8
              have p9 := k14.cell 9
              have p10 := k14.cell 10
              simp only [List.getElem?_cons_zero, List.getElem?_cons_succ] at p0 p1 p2 p3 p4 p5 p6 p7 p8 p9 p10
              have H9 := Lib.hid (show All w.heap.size w ([] ++ sl 90 11 (.slice oa D.length oc) D.length (rows encR D) :: []) _ from HA7.out.tail.alloc (.cells #[.int .i64 r.kind, .int .i64 r.target, .int .i64 r.node, .int .i64 r.prev, .int .i64 r.next, .int .i64 r.index, .string ⟨r.name.toArray⟩, .string ⟨([] : List UInt8).toArray⟩, .bool r.had, .int .i64 r.count, .int .i64 r.size] 90))
              have T3 := Lib.hid (encR_one ({ r with old := [] } : Rc))
              simp only [encR, recC, strV] at T3
              clear k14 HA7
              go_wp2_with (at_builtin; refine wpList_append_all etR [] H9.out (own_at (n := 1) (size := 11) (Blk.new w6 [.int .i64 r.kind, .int .i64 r.target, .int .i64 r.node, .int .i64 r.prev, .int .i64 r.next, .int .i64 r.index, .string ⟨r.name.toArray⟩, .string ⟨([] : List UInt8).toArray⟩, .bool r.had, .int .i64 r.count, .int .i64 r.size] 90) rfl (by omega)) T3.out (by omega) (by omega) rfl _ _ rfl rfl rfl ?_; intro v' w7 hA8; have HB8 := Lib.hid hA8; clear hA8)
              refine ⟨⟨m + 1, by omega, by go_num, ?_⟩, by simp [intOf]; omega⟩
              rw [HTk.out, told_yes HCv.out HOv.out]
              have e1 : rows encR (D ++ [({ r with old := [] } : Rc)]) = rows encR D ++ [.int .i64 r.kind, .int .i64 r.target, .int .i64 r.node, .int .i64 r.prev, .int .i64 r.next, .int .i64 r.index, .string ⟨r.name.toArray⟩, .string ⟨([] : List UInt8).toArray⟩, .bool r.had, .int .i64 r.count, .int .i64 r.size] := rows_snoc _ _
              have e2 : (D ++ [({ r with old := [] } : Rc)]).length = D.length + 1 := by simp
              have h9 := HB8.out
              rw [← e1, ← e2] at h9
              exact h9
            · have hA6 := (HA.out.still hB).newBkA wr.heap.size rfl [.int .i64 r.kind, .int .i64 r.target, .int .i64 r.node, .int .i64 r.prev, .int .i64 r.next, .int .i64 r.index, .string ⟨r.name.toArray⟩, .string ⟨r.old.toArray⟩, .bool r.had, .int .i64 r.count, .int .i64 r.size] 90
              have HA6 := Lib.hid hA6
              clear hB
              go_upto_region 16 with fail
              clear p0 p1 p2 p3 p4 p5 p6 p7 p8 p9 p10
              generalize hr14 : wr.heap.size = r14 at *
              have HA7 := Lib.hid HA6.out
              clear HA6
              generalize wr.alloc (.cells #[.int .i64 r.kind, .int .i64 r.target, .int .i64 r.node, .int .i64 r.prev, .int .i64 r.next, .int .i64 r.index, .string ⟨r.name.toArray⟩, .string ⟨r.old.toArray⟩, .bool r.had, .int .i64 r.count, .int .i64 r.size] 90) = w6 at *
              have k14 : Blk w6 r14 [.int .i64 r.kind, .int .i64 r.target, .int .i64 r.node, .int .i64 r.prev, .int .i64 r.next, .int .i64 r.index, .string ⟨r.name.toArray⟩, .string ⟨r.old.toArray⟩, .bool r.had, .int .i64 r.count, .int .i64 r.size] 90 := HA7.out.head
              have p0 := k14.cell 0
              have p1 := k14.cell 1
              have p2 := k14.cell 2
              have p3 := k14.cell 3
              have p4 := k14.cell 4
              have p5 := k14.cell 5
              have p6 := k14.cell 6
              have p7 := k14.cell 7
              have p8 := k14.cell 8
              have p9 := k14.cell 9
              have p10 := k14.cell 10
              simp only [List.getElem?_cons_zero, List.getElem?_cons_succ] at p0 p1 p2 p3 p4 p5 p6 p7 p8 p9 p10
              have H9 := Lib.hid (show All w.heap.size w ([] ++ sl 90 11 (.slice oa D.length oc) D.length (rows encR D) :: []) _ from HA7.out.tail.alloc (.cells #[.int .i64 r.kind, .int .i64 r.target, .int .i64 r.node, .int .i64 r.prev, .int .i64 r.next, .int .i64 r.index, .string ⟨r.name.toArray⟩, .string ⟨r.old.toArray⟩, .bool r.had, .int .i64 r.count, .int .i64 r.size] 90))
              have T3 := Lib.hid (encR_one r)
              simp only [encR, recC, strV] at T3
              clear k14 HA7
              go_wp2_with (at_builtin; refine wpList_append_all etR [] H9.out (own_at (n := 1) (size := 11) (Blk.new w6 [.int .i64 r.kind, .int .i64 r.target, .int .i64 r.node, .int .i64 r.prev, .int .i64 r.next, .int .i64 r.index, .string ⟨r.name.toArray⟩, .string ⟨r.old.toArray⟩, .bool r.had, .int .i64 r.count, .int .i64 r.size] 90) rfl (by omega)) T3.out (by omega) (by omega) rfl _ _ rfl rfl rfl ?_; intro v' w7 hA8; have HB8 := Lib.hid hA8; clear hA8)
              refine ⟨⟨m + 1, by omega, by go_num, ?_⟩, by simp [intOf]; omega⟩
              rw [HTk.out, told_yes HCv.out HOv.out]
              have e1 : rows encR (D ++ [r]) = rows encR D ++ [.int .i64 r.kind, .int .i64 r.target, .int .i64 r.node, .int .i64 r.prev, .int .i64 r.next, .int .i64 r.index, .string ⟨r.name.toArray⟩, .string ⟨r.old.toArray⟩, .bool r.had, .int .i64 r.count, .int .i64 r.size] := rows_snoc _ _
              have e2 : (D ++ [r]).length = D.length + 1 := by simp
              have h9 := HB8.out
              rw [← e1, ← e2] at h9
              exact h9
    · obtain rfl : m = rs.length := by omega
      rw [List.take_length] at hA
      have ho : Own _ _ _ _ _ _ := hA.head
      obtain ⟨oa, oc, rfl⟩ := own_shape ho
      have HA := Lib.hid hA
      clear ho hA
      go_wp2_with fail
      go_ret
      exact ⟨_, rfl, HA.out⟩
end Go.Proofs.YtfdofkokiaapoaaDoor.W
end
section
/- The law ObserveRecords. -/
namespace Go.Proofs.YtfdofkokiaapoaaDoor.W
open Go.RowKit
set_option linter.unusedVariables false
set_option linter.unusedSimpArgs false

/-- what the law has been told -/
abbrev Tu := List Rc × Value
def toR (us : List Tu) : List Ob := us.map fun u => rl u.2 u.1
def tus (us : List Tu) : List Value := us.map fun u => u.2
theorem toR_split (t1 : List Tu) (t : Tu) (t2 : List Tu) : toR (t1 ++ t :: t2) = toR t1 ++ (rl t.2 t.1 :: toR t2) := by simp [toR]
def RcZ (g10 g12 : Nat) (ts : List Tw) (us : List Tu) : List Ob := bk g10 (tws ts) 57 :: bk g12 (tus us) 60 :: (twO ts ++ toR us)
def RcO (g1 zg zc : Nat) (zs : List Oz) (fs : List Fl) (g10 g12 : Nat) (ts : List Tw) (us : List Tu) (R : Nat) (S : Tr) (sv fv lv : Value) (l : List Int) : List Ob :=
  trO R S sv fv :: gl lv l :: (stF g1 (.slice (some ⟨zg, 0, none⟩) 3 zc) 3 zs ++ (fo fs :: RcZ g10 g12 ts us))
def RcK (l : List Int) (f : Nat → Pl4) (pn : Nat) (fs : List Fl) (n i j : Nat) (x : Oz) : Prop := DsK l f pn fs false n i j x ∧ x.1.ws.map Wt.bare = plW l f j pn
def RcR (w : World) (f : Nat → Pl4) (pn n N : Nat) (S : Tr) (g1 zg zc : Nat) (fs : List Fl) (g10 g12 : Nat) (ts : List Tw) (R : Nat) (sv fv lv : Value) (iv : Value) (wr : World) : Prop :=
  ∃ (i : Nat) (S' : Tr) (K' : Nat → List Nat) (d' : Nat → Nat) (zs : List Oz) (us : List Tu), i ≤ n ∧ iv = .int .i64 (i : Int) ∧ zs.length = 3 ∧ us.length = 3 ∧ (∀ (j : Nat) (x : Oz), zs[j]? = some x → RcK (hds S N) f pn fs n i j x) ∧
    (∀ (j : Nat) (x : Oz) (u : Tu), zs[j]? = some x → us[j]? = some u → u.1 = x.1.rs) ∧ Dc S' K' d' N ∧ S'.b = S.b ∧ S'.s = S.s ∧ All w.heap.size w (RcO g1 zg zc zs fs g10 g12 ts us R S' sv fv lv (hds S N)) wr
/-- the inner loop: what is told of the records -/
def RcI (w : World) (c : Wb → Rc → Bool) (P : Nat → List Wb) (us : List Tu) (g1 zg zc : Nat) (zs : List Oz) (fs : List Fl) (g10 g12 : Nat) (ts : List Tw) (R : Nat) (S : Tr) (sv fv v lv : Value) (rs : List Rc) (l : List Int) (iv : Value) (wr : World) : Prop :=
  ∃ (k : Nat) (us' : List Tu), k ≤ 3 ∧ iv = .int .i64 (k : Int) ∧ us'.length = 3 ∧ (∀ (j : Nat) (u u' : Tu), us[j]? = some u → us'[j]? = some u' → u'.1 = u.1 ++ (if j < k then toldL c (P j) rs else [])) ∧
    All w.heap.size w (stF g1 (.slice (some ⟨zg, 0, none⟩) 3 zc) 3 zs ++ (fo fs :: trO R S sv fv :: rl v rs :: (gl lv l :: RcZ g10 g12 ts us'))) wr
/-- the last loop -/
def RcT (w : World) (us : List Tu) (g1 zg zc : Nat) (l : List Ob) (iv : Value) (wr : World) : Prop :=
  ∃ (k : Nat) (zs : List Oz) (l' : List Ob), k ≤ 3 ∧ iv = .int .i64 (k : Int) ∧ zs.length = 3 ∧ (∀ (j : Nat) (x : Oz) (u : Tu), zs[j]? = some x → us[j]? = some u → x.1.id = (j : Int) + 1 ∧ x.1.rs = (if j < k then [] else u.1)) ∧
    All w.heap.size w (stF g1 (.slice (some ⟨zg, 0, none⟩) 3 zc) 3 zs ++ (l' ++ l)) wr
theorem rck_start {l : List Int} {f : Nat → Pl4} {pn : Nat} {fs : List Fl} {n j : Nat} {x : Oz} (h : ObK l f fs pn j x) (hp : pn ≤ 20) : RcK l f pn fs n 0 j x := ⟨dsk_start false h hp, h.2.2.2.1⟩
theorem rck_up {l : List Int} {f : Nat → Pl4} {pn : Nat} {fs : List Fl} {n i : Nat} {zs zs' : List Oz} {c : Wb → Rc → Bool} {rs : List Rc} (h : ∀ (j : Nat) (x : Oz), zs[j]? = some x → RcK l f pn fs n i j x) (he : zs'.map pz = (zs.map pz).map (upL c rs)) (hr : rs.length ≤ 2) :
    ∀ (j : Nat) (x : Oz), zs'[j]? = some x → RcK l f pn fs n (i + 1) j x := fun j x hx => by
  refine ⟨dsk_up (fun j x hx => (h j x hx).1) he hr j x hx (fun h => by cases h), ?_⟩
  obtain ⟨y, hy, e⟩ := up_at he hx
  rw [e]
  exact (h j y hy).2

theorem permR (A T : List Ob) (F b10 b12 x y z t g : Ob) : (x :: y :: z :: b12 :: (A ++ (F :: (b10 :: (T ++ [t, g]))))).Perm (t :: g :: (A ++ (F :: (b10 :: b12 :: (T ++ [x, y, z]))))) := by
  have h1 : ([x, y, z] ++ (([b12] ++ (A ++ [F, b10])) ++ (T ++ [t, g]))).Perm ([x, y, z] ++ (([b12] ++ (A ++ [F, b10])) ++ ([t, g] ++ T))) := List.Perm.append_left _ (List.Perm.append_left _ List.perm_append_comm)
  have h2 : ([x, y, z] ++ (([b12] ++ (A ++ [F, b10])) ++ ([t, g] ++ T))).Perm (([t, g] ++ T) ++ (([b12] ++ (A ++ [F, b10])) ++ [x, y, z])) := perm3 _ _ _
  have h3 : ([t, g] ++ (T ++ (([b12] ++ (A ++ [F, b10])) ++ [x, y, z]))).Perm ([t, g] ++ ((([b12] ++ (A ++ [F, b10]))) ++ (T ++ [x, y, z]))) := List.Perm.append_left _ (List.perm_append_comm_assoc _ _ _)
  have h4 : ([t, g] ++ ([b12] ++ ((A ++ [F, b10]) ++ (T ++ [x, y, z])))).Perm ([t, g] ++ ((A ++ [F, b10]) ++ ([b12] ++ (T ++ [x, y, z])))) := List.Perm.append_left _ (List.perm_append_comm_assoc _ _ _)
  simp only [List.append_assoc, List.cons_append, List.nil_append] at h1 h2 h3 h4 ⊢
  exact h1.trans (h2.trans (h3.trans h4))

theorem tw_of {l : List Int} {f : Nat → Pl4} {k pn : Nat} {L : List Wt} (h : L.map Wt.bare = plW l f k pn) : ∀ x ∈ L, (∃ m, x.target = tgP l m) ∧ x.flt.length ≤ 3 := fun x hx => by
  obtain ⟨m, h1, h2⟩ := plW_tg l f k pn x.bare (by rw [← h]; exact List.mem_map_of_mem hx)
  exact ⟨⟨m, h1⟩, h2⟩
theorem rc_mid {B : Nat} {w0 w : World} {X F T V G : Ob} {A : List Ob} {g10 g12 : Nat} {ts : List Tw} {u1 u2 : List Tu} {U : List Rc} {uv : Value} (h : All B w0 ([X] ++ (A ++ (F :: T :: V :: (G :: RcZ g10 g12 ts (u1 ++ (U, uv) :: u2))))) w) :
    All B w0 ((X :: (A ++ (F :: T :: V :: G :: bk g10 (tws ts) 57 :: bk g12 (tus (u1 ++ (U, uv) :: u2)) 60 :: (twO ts ++ toR u1)))) ++ (rl uv U :: toR u2)) w := by
  unfold RcZ at h
  rw [toR_split] at h
  simpa only [List.append_assoc, List.cons_append, List.nil_append] using h
theorem rc_back {B : Nat} {w0 w : World} {X F T V G : Ob} {A : List Ob} {g10 g12 k : Nat} {ts : List Tw} {u1 u2 : List Tu} {U U2 : List Rc} {uv v2 : Value} (hk : u1.length = k) (h : All B w0 ((X :: (A ++ (F :: T :: V :: G :: bk g10 (tws ts) 57 :: bk g12 (tus (u1 ++ (U, uv) :: u2)) 60 :: (twO ts ++ toR u1)))) ++ (rl v2 U2 :: toR u2)) w) :
    All B w0 (A ++ (F :: T :: V :: (G :: RcZ g10 g12 ts (u1 ++ (U2, v2) :: u2)))) (w.setCell ⟨g12, k, none⟩ v2) := by
  have e : (tus (u1 ++ (U, uv) :: u2)).set k v2 = tus (u1 ++ (U2, v2) :: u2) := by
    subst hk
    unfold tus
    rw [List.map_append, List.map_cons, List.map_append, List.map_cons, List.set_append_right _ _ (by simp)]
    simp
  rw [List.cons_append] at h
  have h1 := h.tail
  have h2 := (show All B w0 ((A ++ [F, T, V, G, bk g10 (tws ts) 57]) ++ bk g12 (tus (u1 ++ (U, uv) :: u2)) 60 :: (twO ts ++ (toR u1 ++ (rl v2 U2 :: toR u2)))) w from by simpa only [List.append_assoc, List.cons_append, List.nil_append] using h1).setBk _ k v2
  rw [e] at h2
  unfold RcZ
  rw [toR_split]
  simpa only [List.append_assoc, List.cons_append, List.nil_append] using h2

set_option maxRecDepth 100000 in
set_option maxHeartbeats 16000000 in
theorem rcd_law {w : World} (hT : Laid w) (ka : Option Addr) (kn kc : Nat) (fk : Nat → Int) (hk : InB w ka kn fk) (hk1 : ∀ j, 0 ≤ fk j ∧ fk j ≤ 255) (pa : Option Addr) (pn pc : Nat) (fp : Nat → Pl4) (hp : InP w pa pn fp) (hpo : ∀ j, (fp j).ok) (A : Option Addr) (n c : Nat) (f : Nat → Opn) (h : InO w A n f) (ho : ∀ j, (f j).ok) (hkn : kn ≤ 9223372036854775807) (hpn : pn ≤ 9223372036854775807) (hn : n ≤ 9223372036854775807) :
    Calls Tryd.prog 4 #[.slice ka kn kc, .slice pa pn pc, .slice A n c] w fun e w' => e = .returned (.bool true) ∧ Below w.heap.size w w' := by
  have HT := Lib.hid hT
  have HK := Lib.hid hk
  have HK1 := Lib.hid hk1
  have HP := Lib.hid hp
  have HPo := Lib.hid hpo
  have H := Lib.hid h
  have HO := Lib.hid ho
  clear hT hk hk1 hp hpo h ho
  go_enter Tryd.func4, Tryd.ntmps4
  go_wp2_with fail
  refine (Z.awake_any w).mono ?_
  rintro e w1 ⟨rfl, hb1⟩
  have h1 := H.out.keep hb1
  go_wp2_with fail
  refine (few_any ka kn kc A n c f h1 hkn hn).mono ?_
  rintro e w2 ⟨bf, rfl, hfew, hw⟩
  rw [hw]
  clear hw h1
  cases bf
  · go_wp2_with fail
    refine (Z.awake_any w1).mono ?_
    rintro e w3 ⟨rfl, hb3⟩
    go_wp2_with fail
    go_ret
    exact ⟨rfl, bthen hb1 hb3⟩
  · obtain ⟨hk20, hn60, hs20⟩ := hfew rfl
    clear hfew
    by_cases hp20 : 20 < pn
    · have d1 : decide ((20 : Int) < (pn : Int)) = true := by simp; omega
      go_wp2_with fail
      refine (Z.awake_any w1).mono ?_
      rintro e w3 ⟨rfl, hb3⟩
      go_wp2_with fail
      go_ret
      exact ⟨rfl, bthen hb1 hb3⟩
    · have d1 : decide ((20 : Int) < (pn : Int)) = false := by simp; omega
      have HDoc := Lib.hid (document_any (HT.out.below hb1) ka kn kc ((List.range kn).map fk) (fun i hi => by
        obtain ⟨b, off, e, hlt, hc⟩ := HK.out (by omega)
        refine ⟨b, off, e, ?_, ?_⟩
        · rw [List.getElem?_map, List.getElem?_range hi]
          exact cell_keep hb1 (hc i hi)
        · rw [List.getElem?_map, List.getElem?_range hi]
          exact HK1.out i) (by omega))
      have HA0 := Lib.hid ((All.start w).still hb1)
      clear hb1
      go_wp2_with fail
      refine HDoc.out.mono ?_
      rintro e w3 ⟨R, S, K, d, sv, fv, lv, rfl, hD, hA⟩
      have hlo : Own w3 3 1 lv (hds S kn).length _ := hA.tail.head
      rw [hds_len] at hlo
      obtain ⟨la, lc, rfl⟩ := own_shape hlo
      clear hlo
      have hA3 : All w.heap.size w [trO R S sv fv, gl (.slice la kn lc) (hds S kn)] w3 := HA0.out.after hA
      have HD := Lib.hid hD
      have HA3 := Lib.hid hA3
      have hl3 : Own w3 3 1 (.slice la (hds S kn).length lc) (hds S kn).length (hcells (hds S kn)) := by
        have := hA3.tail.head
        rw [show Value.slice la kn lc = .slice la (hds S kn).length lc from by rw [hds_len]] at this
        exact this
      have HW1 := Lib.hid (watched_any (l := hds S kn) pa pn pc fp (HP.out.keep hA3.below) HPo.out hl3 (by omega) (by rw [hds_len]; omega))
      simp only [hds_len] at HW1
      clear hA hA3 HDoc HA0 hD hl3
      go_wp2_with fail
      refine HW1.out.mono ?_
      rintro e w4 ⟨zg1, zc1, zs1, ts1, fs1, v0, v1, v2, rfl, hz1, ht1, ho1, hw1, hA4⟩
      have HZ1 := Lib.hid ho1
      have HZl1 := Lib.hid hz1
      have HTw := Lib.hid hw1
      obtain ⟨b0, d0, b1, d1, b2, d2, n0, n1, n2, rfl, rfl, rfl⟩ := wd_shape ht1 (fun t ht => hA4.P _ (List.mem_cons_of_mem _ (List.mem_append_right _ (List.mem_cons_of_mem _ (List.mem_map.2 ⟨t, ht, rfl⟩)))))
      have hA5 := wd_state HA3.out hA4 hz1 [.slice b0 n0 d0, .slice b1 n1 d1, .slice b2 n2 d2]
      have HA5 := Lib.hid hA5
      have HTs := Lib.hid ht1
      have htl : ts1.length = 3 := by have := congrArg List.length ht1; simpa [tws] using this
      have HTl := Lib.hid htl
      clear hA4 hA5 ho1 hz1 ht1 hw1 HW1 htl
      go_upto_region 8 with fail
      generalize hg1 : w4.heap.size = g1 at *
      have HA6 := Lib.hid ((HA5.out.newBkA (g1 + 1 + 1) (by rw [← hg1]; simp) [.slice none 0 0, .slice none 0 0, .slice none 0 0] 60))
      clear HA5
      generalize ((w4.alloc (.cells #[.slice (some ⟨zg1, 0, none⟩) 3 zc1, .slice none 0 0, .int .i64 3] 33)).alloc (.cells #[.slice b0 n0 d0, .slice b1 n1 d1, .slice b2 n2 d2] 57)).alloc (.cells #[.slice none 0 0, .slice none 0 0, .slice none 0 0] 60) = w5 at *
      have HA7 : Hid (All w.heap.size w (RcO g1 zg1 zc1 zs1 fs1 (g1 + 1) (g1 + 1 + 1) ts1 [([], .slice none 0 0), ([], .slice none 0 0), ([], .slice none 0 0)] R S sv fv (.slice la kn lc) (hds S kn)) w5) := Lib.hid (by
        have h1 := ((HA6.out.nil 90 11).nil 90 11).nil 90 11
        rw [← HTs.out] at h1
        exact h1.perm (permR _ _ _ _ _ _ _ _ _ _))
      clear HA6 HA3
      generalize hg10 : g1 + 1 = g10 at *
      generalize hg12 : g10 + 1 = g12 at *
      go_wp2_with fail
      go_loopw [53] (fun iv wr => RcR w fp pn n kn S g1 zg1 zc1 fs1 g10 g12 ts1 R sv fv (.slice la kn lc) iv wr) (fun iv _ => n - (intOf iv).toNat)
      case atStart =>
        refine ⟨0, S, K, d, zs1, _, Nat.zero_le _, rfl, HZl1.out, rfl, fun j x hx => rck_start (HZ1.out j x hx) (by omega), fun j x u hx hu => ?_, HD.out, rfl, rfl, HA7.out⟩
        rw [(HZ1.out j x hx).2.2.1]
        have := List.mem_of_getElem? hu
        simp at this
        rw [this]
      case round =>
        clear HA7 HZ1 HZl1 HD
        obtain ⟨i, S', K', d', y1, us, hi, rfl, hl1, hlu, hy1, hru, hD', hb', hs', hA⟩ := hrel
        by_cases hin : i < n
        · have hbel := hA.below
          obtain ⟨ob, oo, rfl, hol, hc⟩ := H.out (by omega)
          obtain ⟨q0, q1, q2, q3, q4⟩ := hc i hin
          have hok := HO.out i
          have hsz := hs20 i hin
          generalize f i = opn at q0 q1 q2 q3 q4 hok hsz
          obtain ⟨k0, a0, b0, c0, os⟩ := opn
          unfold Opn.ok at hok
          (try simp only at q0 q1 q2 q3 q4 hok hsz)
          obtain ⟨k0, rfl⟩ := Int.eq_ofNat_of_zero_le hok.1.1
          obtain ⟨a0, rfl⟩ := Int.eq_ofNat_of_zero_le hok.2.1.1
          obtain ⟨b0, rfl⟩ := Int.eq_ofNat_of_zero_le hok.2.2.1.1
          obtain ⟨c0, rfl⟩ := Int.eq_ofNat_of_zero_le hok.2.2.2.1
          obtain ⟨sl0, rfl⟩ : ∃ sl0 : List UInt8, os = ⟨sl0.toArray⟩ := ⟨os.data.toList, rfl⟩
          have hsl0 : sl0.length ≤ 20 := by
            have : (⟨sl0.toArray⟩ : ByteArray).size = sl0.length := by show sl0.toArray.size = _; simp
            omega
          have q0 := cell_keep hbel q0
          have q1 := cell_keep hbel q1
          have q2 := cell_keep hbel q2
          have q3 := cell_keep hbel q3
          have q4 := cell_keep hbel q4
          have HMu := Lib.hid (mutate_tg (N := kn) hD' (show All w.heap.size w (trO R S' sv fv :: gl (.slice la kn lc) (hds S' kn) :: (stF g1 (.slice (some ⟨zg1, 0, none⟩) 3 zc1) 3 y1 ++ (fo fs1 :: RcZ g10 g12 ts1 us))) wr from by rw [hds_same hb' hs']; exact hA) (HT.out.below hbel) k0 a0 b0 c0 (by omega) (by omega) (by omega) (by omega) sl0 (by omega) (by omega))
          simp only [strV] at HMu
          have HL1 := Lib.hid hl1
          have HLu := Lib.hid hlu
          have HY1 := Lib.hid hy1
          have HRu := Lib.hid hru
          clear hA hc hok hsz hbel hl1 hlu hy1 hru hD'
          go_wp2_with fail
          refine HMu.out.mono ?_
          rintro e w9 ⟨S2, K2, d2, v, rs, rfl, hD2, hb2, hs2, hgd, hrs2, hpos, hA9⟩
          rw [hds_same hb' hs'] at hA9
          have hb3 : S2.b = S.b := hb2.trans hb'
          have hs3 : S2.s = S.s := hs2.trans hs'
          have hA10 : All w.heap.size w (NgO g1 zg1 y1.length zc1 3 y1 fs1 R S2 sv fv v rs (gl (.slice la kn lc) (hds S kn) :: RcZ g10 g12 ts1 us)) w9 := by
            rw [HL1.out]
            exact hA9.perm (permD2 _ _ _ _ _ _)
          have HN1 := Lib.hid (note_any hD2 hA10 hgd (dsk_ok (fun j x hx => (HY1.out j x hx).1) (by omega)) (fun hne => dsk_tg (fun j x hx => (HY1.out j x hx).1) (hpos hne) hb3 hs3) (by omega) (by rw [HL1.out]; omega))
          rw [HL1.out] at HN1
          have HD2 := Lib.hid hD2
          have HB3 := Lib.hid hb3
          have HS3 := Lib.hid hs3
          have HGd := Lib.hid hgd
          have HPos := Lib.hid hpos
          clear hA9 hA10 HMu hD2 hb2 hs2 hb' hs' hb3 hs3 hgd hpos q0 q1 q2 q3 q4
          go_wp2_with fail
          refine HN1.out.mono ?_
          rintro e w10 ⟨y1', rfl, he1, hA11⟩
          have hl1' : y1'.length = 3 := by rw [up_len he1, HL1.out]
          have HL1' := Lib.hid hl1'
          have HE1 := Lib.hid he1
          have HA11 := Lib.hid (show All w.heap.size w (stF g1 (.slice (some ⟨zg1, 0, none⟩) 3 zc1) 3 y1' ++ (fo fs1 :: trO R S2 sv fv :: rl v rs :: (gl (.slice la kn lc) (hds S kn) :: RcZ g10 g12 ts1 us))) w10 from hA11)
          clear hA11 HN1 he1 hl1'
          go_wp2_with fail
          go_loopw [66] (fun iv wr2 => RcI w (covB S2 d2 kn) (fun j => plW (hds S kn) fp j pn) us g1 zg1 zc1 y1' fs1 g10 g12 ts1 R S2 sv fv v (.slice la kn lc) rs (hds S kn) iv wr2) (fun iv _ => 3 - (intOf iv).toNat)
          case atStart => exact ⟨0, us, by omega, rfl, HLu.out, (fun j u u' hu hu' => by rw [hu] at hu'; cases hu'; simp), HA11.out⟩
          case round =>
            clear HA11
            obtain ⟨k, us', hk, rfl, hlu', huu, hA⟩ := hrel
            by_cases hkl : k < 3
            · obtain ⟨⟨U, uv⟩, huk⟩ : ∃ u, us'[k]? = some u := ⟨_, List.getElem?_eq_getElem (by omega)⟩
              obtain ⟨⟨L, wv⟩, htk⟩ : ∃ t, ts1[k]? = some t := ⟨_, List.getElem?_eq_getElem (by rw [HTl.out]; omega)⟩
              obtain ⟨⟨U0, uv0⟩, hu0⟩ : ∃ u, us[k]? = some u := ⟨_, List.getElem?_eq_getElem (by rw [HLu.out]; omega)⟩
              obtain ⟨htk1, htk2⟩ := HTw.out k _ htk
              have hU := huu k _ _ hu0 huk
              rw [if_neg (Nat.lt_irrefl _), List.append_nil] at hU
              simp only at htk1 htk2 hU
              have hOw : Own wr 44 7 wv L.length (rows encW L) := hA.P (sl 44 7 wv L.length (rows encW L)) (by
                simp only [RcZ, twO, List.mem_append, List.mem_cons, List.mem_map]
                exact .inr (.inr (.inr (.inr (.inr (.inr (.inr (.inl ⟨(L, wv), List.mem_of_getElem? htk, rfl⟩))))))))
              have hOu : Own wr 90 11 uv U.length (rows encR U) := hA.P (rl uv U) (by
                simp only [RcZ, toR, List.mem_append, List.mem_cons, List.mem_map]
                exact .inr (.inr (.inr (.inr (.inr (.inr (.inr (.inr ⟨(U, uv), List.mem_of_getElem? huk, rfl⟩))))))))
              have hOv : Own wr 90 11 v rs.length (rows encR rs) := hA.P (rl v rs) (by simp)
              have k10 : Blk wr g10 (tws ts1) 57 := hA.P (bk g10 (tws ts1) 57) (by simp [RcZ])
              have k12 : Blk wr g12 (tus us') 60 := hA.P (bk g12 (tus us') 60) (by simp [RcZ])
              have q10 := (k10.cell k).trans (show (tws ts1)[k]? = some wv from by unfold tws; rw [List.getElem?_map, htk]; rfl)
              have hc12 : (tus us')[k]? = some uv := by unfold tus; rw [List.getElem?_map, huk]; rfl
              have q12 := (k12.cell k).trans hc12
              obtain ⟨wa, wc, rfl⟩ := own_shape hOw
              obtain ⟨ua, uc, rfl⟩ := own_shape hOu
              have hLl : L.length ≤ 20 := by
                have h1 := plW_len (hds S kn) fp k pn
                rw [← htk1, List.length_map] at h1
                omega
              have hUl : U.length ≤ 120 := by
                obtain ⟨x, hx⟩ : ∃ x, y1[k]? = some x := ⟨_, List.getElem?_eq_getElem (by rw [HL1.out]; omega)⟩
                have h1 := HRu.out k x _ hx hu0
                have h2 := (HY1.out k x hx).1.2.2.2.2.2.1
                simp only at h1
                rw [hU, h1]
                omega
              have HNt := Lib.hid (fun (wx : World) (hb : Below wr.heap.size wr wx) => noted_any (fs := fs1) HD2.out ((show TAt 0 R S2 sv fv wr from hA.P (trO R S2 sv fv) (by simp)).below hb) (own_below hOw hb) ((hA.still hb).P (fo fs1) (by simp)) htk2 (fun hne => (show OfP (hds S kn) ⟨0, 0, L, []⟩ from fun x hx => (tw_of htk1 x hx).1).tg (HPos.out hne) HB3.out HS3.out) (fun x hx => Nat.le_trans (tw_of htk1 x hx).2 (by omega)) (own_below hOv hb) HGd.out (by omega) (by omega))
              have hk3i : (k : Int) < 3 := by omega
              have HA := Lib.hid hA
              have HUU := Lib.hid huu
              have HLu' := Lib.hid hlu'
              have HU := Lib.hid hU
              have HU0 := Lib.hid hu0
              have HTk1 := Lib.hid htk1
              have htl := toldL_len (covB S2 d2 kn) (L.map Wt.bare) rs
              rw [htk1] at htl HNt
              generalize hTT : toldL (covB S2 d2 kn) (plW (hds S kn) fp k pn) rs = TT at *
              have HTT := Lib.hid hTT
              obtain ⟨u1, u2, rfl, hku⟩ := split_at huk
              have HKu := Lib.hid hku
              have HC12 := Lib.hid hc12
              clear hA hOw hOu hOv k10 k12 hc12 huk htk huu hlu' hU hu0 htk1 htk2 hTT hku
              go_upto_region 16 with fail
              go_region_law (first
                | (go_simp; go_at_call 16; refine (HNt.out _ ((Below.refl _ _).drew)).mono ?_; rintro e w6 ⟨v', rfl, hA9⟩; have ho9 : Own _ _ _ _ _ _ := hA9.head; obtain ⟨ta, tc, rfl⟩ := own_shape ho9; have T2 := Lib.hid ho9; have T1 := Lib.hid (rc_mid (HA.out.drew.after hA9)); have k12 : Blk w6 g12 (tus (u1 ++ (U, .slice ua U.length uc) :: u2)) 60 := T1.out.P (bk g12 (tus (u1 ++ (U, .slice ua U.length uc) :: u2)) 60) (by simp); have q12b := (k12.cell k).trans HC12.out; clear hA9 ho9 k12)
                | (refine step_append_all etR (_ :: (_ ++ (_ :: _ :: _ :: _ :: _ :: _ :: (_ ++ _)))) T1.out T2.out (rows_one encR_one TT) (by omega) (by omega) (by rfl) _ _ (by rfl) (by rfl) (by rfl) ?_; intro v2 w7 hA13; have ho : Own _ _ _ _ _ _ := hA13.P (sl 90 11 v2 (U.length + TT.length) (rows encR U ++ rows encR TT)) (by simp); obtain ⟨ea, ec, rfl⟩ := own_shape ho; have k12 : Blk w7 g12 (tus (u1 ++ (U, .slice ua U.length uc) :: u2)) 60 := hA13.P (bk g12 (tus (u1 ++ (U, .slice ua U.length uc) :: u2)) 60) (by simp); have q12c := (k12.cell k).trans HC12.out; have f12c := k12.free k; have HA13 := Lib.hid hA13; clear hA13 ho k12))
              all_goals
                go_wp2_with fail
                have h1 := HA13.out
                generalize Value.slice ea (U.length + TT.length) ec = V at h1 ⊢
                rw [← rows_append, ← List.length_append] at h1
                refine ⟨⟨k + 1, u1 ++ (U ++ TT, V) :: u2, by omega, by go_num, by rw [← HLu'.out]; simp, fun j u u' hu hu' => ?_, rc_back HKu.out h1⟩, by simp [intOf]; omega⟩
                rcases get_upd (x := (U, .slice ua U.length uc)) hu' with ⟨hj, rfl⟩ | ⟨hj, hu'⟩
                · rw [HKu.out] at hj
                  subst hj
                  rw [HU0.out] at hu
                  cases hu
                  rw [if_pos (Nat.lt_succ_self _)]
                  show U ++ TT = U0 ++ toldL (covB S2 d2 kn) (plW (hds S kn) fp j pn) rs
                  rw [HU.out, HTT.out]
                · rw [HKu.out] at hj
                  rw [HUU.out j u u' hu hu']
                  by_cases hjk : j < k
                  · rw [if_pos hjk, if_pos (by omega)]
                  · rw [if_neg hjk, if_neg (by omega)]
            · obtain rfl : k = 3 := by omega
              have HA := Lib.hid hA
              have HUU := Lib.hid huu
              clear hA huu
              go_wp2_with fail
              refine ⟨⟨i + 1, S2, K2, d2, y1', us', by omega, by go_num, HL1'.out, hlu', rck_up HY1.out HE1.out hrs2, fun j x u hx hu => ?_, HD2.out, HB3.out, HS3.out, (HA.out.perm (permD2 _ _ _ _ _ _).symm).tail⟩, by simp [intOf]; omega⟩
              obtain ⟨y, hy, e⟩ := up_at HE1.out hx
              have hj3 : j < 3 := by have := (List.getElem?_eq_some_iff.1 hu).1; omega
              obtain ⟨u0, hu0⟩ : ∃ u0, us[j]? = some u0 := ⟨_, List.getElem?_eq_getElem (by rw [HLu.out]; exact hj3)⟩
              have h1 := HUU.out j u0 u hu0 hu
              rw [if_pos hj3] at h1
              rw [h1, HRu.out j y u0 hy hu0, e]
              show y.1.rs ++ toldL (covB S2 d2 kn) (plW (hds S kn) fp j pn) rs = y.1.rs ++ toldL (covB S2 d2 kn) (y.1.ws.map Wt.bare) rs
              rw [(HY1.out j y hy).2]
        · obtain rfl : i = n := by omega
          have hA2 := (show All w.heap.size w ([trO R S' sv fv, gl (.slice la kn lc) (hds S kn)] ++ (stF g1 (.slice (some ⟨zg1, 0, none⟩) 3 zc1) 3 y1 ++ (fo fs1 :: RcZ g10 g12 ts1 us))) wr from hA).perm (List.perm_append_comm_assoc _ _ _)
          have HA2 := Lib.hid hA2
          have HY1 := Lib.hid hy1
          have HRu := Lib.hid hru
          have HLu := Lib.hid hlu
          clear hA hA2 hy1 hru hlu hD' hb' hs'
          go_wp2_with fail
          go_loopw [83] (fun iv wr2 => RcT w us g1 zg1 zc1 ([trO R S' sv fv, gl (.slice la kn lc) (hds S kn)] ++ (fo fs1 :: RcZ g10 g12 ts1 us)) iv wr2) (fun iv _ => 3 - (intOf iv).toNat)
          case atStart =>
            refine ⟨0, y1, [], by omega, rfl, hl1, fun j x u hx hu => ⟨(HY1.out j x hx).1.1, ?_⟩, HA2.out⟩
            rw [if_neg (Nat.not_lt_zero _)]
            exact (HRu.out j x u hx hu).symm
          case round =>
            clear HA2
            obtain ⟨k, y2, l', hk, rfl, hl2, hy2, hA⟩ := hrel
            by_cases hkl : k < 3
            · obtain ⟨⟨z, a, b⟩, hz⟩ : ∃ x, y2[k]? = some x := ⟨_, List.getElem?_eq_getElem (by omega)⟩
              obtain ⟨⟨U, uv⟩, hu⟩ : ∃ u, us[k]? = some u := ⟨_, List.getElem?_eq_getElem (by rw [HLu.out]; omega)⟩
              obtain ⟨hid, hrs⟩ := hy2 k _ _ hz hu
              rw [if_neg (Nat.lt_irrefl _)] at hrs
              simp only at hid hrs
              obtain ⟨zz1, zz2, rfl, hzl⟩ := split_at hz
              have hA3 : All w.heap.size w (stF g1 (.slice (some ⟨zg1, 0, none⟩) (zz1 ++ (z, a, b) :: zz2).length zc1) 3 (zz1 ++ (z, a, b) :: zz2) ++ (l' ++ ([trO R S' sv fv, gl (.slice la kn lc) (hds S kn)] ++ (fo fs1 :: RcZ g10 g12 ts1 us)))) wr := by
                rw [hl2]
                exact hA
              have hn1 : ∀ y ∈ zz1, y.1.id ≠ z.id := fun y hy => by
                obtain ⟨j, hj⟩ := List.mem_iff_getElem?.1 hy
                have hjl : j < zz1.length := (List.getElem?_eq_some_iff.1 hj).1
                obtain ⟨u, hu⟩ : ∃ u, us[j]? = some u := ⟨_, List.getElem?_eq_getElem (by rw [HLu.out]; omega)⟩
                have := (hy2 j y u (by rw [List.getElem?_append_left hjl]; exact hj) hu).1
                rw [this, hid]
                omega
              have HT1 := Lib.hid (take_obF (z := z) hA3 hn1 (by rw [hl2]; omega))
              have HY2 := Lib.hid hy2
              have HL2 := Lib.hid hl2
              have HZl := Lib.hid hzl
              have HN1 := Lib.hid hn1
              have HU := Lib.hid hu
              have HRs := Lib.hid hrs
              have HId := Lib.hid hid
              rw [hid] at HT1
              clear hA hA3 hy2 hl2 hzl hn1 hz hu hrs
              go_wp2_with fail
              refine HT1.out.mono ?_
              rintro e w9 ⟨rfl, hA4⟩
              rw [HL2.out] at hA4
              obtain ⟨z', hid', hrs', hA4⟩ : ∃ z' : Ov, z'.id = (k : Int) + 1 ∧ z'.rs = [] ∧ All w.heap.size w (stF g1 (.slice (some ⟨zg1, 0, none⟩) 3 zc1) 3 (zz1 ++ (z', a, .slice none 0 0) :: zz2) ++ ((rl b z.rs :: l') ++ ([trO R S' sv fv, gl (.slice la kn lc) (hds S kn)] ++ (fo fs1 :: RcZ g10 g12 ts1 us)))) w9 := ⟨⟨(k : Int) + 1, z.cb, z.ws, []⟩, rfl, rfl, hA4⟩
              have el : (zz1 ++ (z', a, Value.slice none 0 0) :: zz2).length = 3 := by rw [← HL2.out]; simp
              have hA5 : All w.heap.size w (stF g1 (.slice (some ⟨zg1, 0, none⟩) (zz1 ++ (z', a, .slice none 0 0) :: zz2).length zc1) 3 (zz1 ++ (z', a, .slice none 0 0) :: zz2) ++ ((rl b z.rs :: l') ++ ([trO R S' sv fv, gl (.slice la kn lc) (hds S kn)] ++ (fo fs1 :: RcZ g10 g12 ts1 us)))) w9 := by
                rw [el]
                exact hA4
              have HT2 := Lib.hid (take_obF (z := z') hA5 (fun y hy => by rw [hid', ← HId.out]; exact HN1.out y hy) (by rw [el]; omega))
              rw [hid'] at HT2
              have HEl := Lib.hid el
              clear hA4 hA5 HT1 el
              go_wp2_with fail
              refine HT2.out.mono ?_
              rintro e w10 ⟨rfl, hA6⟩
              rw [HEl.out] at hA6
              obtain ⟨z2, hid2, hrs2, hA6⟩ : ∃ z2 : Ov, z2.id = (k : Int) + 1 ∧ z2.rs = [] ∧ All w.heap.size w (stF g1 (.slice (some ⟨zg1, 0, none⟩) 3 zc1) 3 (zz1 ++ (z2, a, .slice none 0 0) :: zz2) ++ ((rl (.slice none 0 0) z'.rs :: rl b z.rs :: l') ++ ([trO R S' sv fv, gl (.slice la kn lc) (hds S kn)] ++ (fo fs1 :: RcZ g10 g12 ts1 us)))) w10 := ⟨⟨(k : Int) + 1, z'.cb, z'.ws, []⟩, rfl, rfl, hA6⟩
              have hOb : Own w10 90 11 b z.rs.length (rows encR z.rs) := hA6.P (rl b z.rs) (by simp)
              have hOu : Own w10 90 11 uv U.length (rows encR U) := hA6.P (rl uv U) (by
                simp only [RcZ, toR, List.mem_append, List.mem_cons, List.mem_map]
                exact .inr (.inr (.inr (.inr (.inr (.inr (.inr ⟨(U, uv), List.mem_of_getElem? HU.out, rfl⟩)))))))
              have k12 : Blk w10 g12 (tus us) 60 := hA6.P (bk g12 (tus us) 60) (by simp [RcZ])
              have q12 := (k12.cell k).trans (show (tus us)[k]? = some uv from by unfold tus; rw [List.getElem?_map, HU.out]; rfl)
              rw [HRs.out] at hOb
              obtain ⟨ba, bc, rfl⟩ := own_shape hOb
              obtain ⟨ua, uc, rfl⟩ := own_shape hOu
              have hUl : U.length ≤ 1000000 := by
                obtain ⟨x, hx⟩ : ∃ x, y1[k]? = some x := ⟨_, List.getElem?_eq_getElem (by omega)⟩
                have h1 := HRu.out k x _ hx HU.out
                have h2 := (HY1.out k x hx).1.2.2.2.2.2.1
                simp only at h1
                rw [h1]
                omega
              have HSm := Lib.hid (same_any hOb hOu hUl)
              have hk3i : (k : Int) < 3 := by omega
              have HA6 := Lib.hid hA6
              clear hA6 hOb hOu k12 HT2
              go_wp2_with fail
              refine HSm.out.mono ?_
              rintro e w11 ⟨rfl, m11, hw11⟩
              have HA7 := Lib.hid (HA6.out.drewN m11)
              rw [← hw11] at HA7
              clear hw11 HA6 q12
              go_wp2_with fail
              refine ⟨⟨k + 1, zz1 ++ (z2, a, .slice none 0 0) :: zz2, rl (.slice none 0 0) z'.rs :: rl (.slice ba U.length bc) z.rs :: l', by omega, by go_num, by rw [← HL2.out]; simp, fun j x u hx hu => ?_, HA7.out⟩, by simp [intOf]; omega⟩
              rcases get_upd (x := (z, a, Value.slice ba U.length bc)) hx with ⟨hj, rfl⟩ | ⟨hj, hx⟩
              · rw [HZl.out] at hj
                subst hj
                exact ⟨hid2, by rw [if_pos (Nat.lt_succ_self _)]; exact hrs2⟩
              · rw [HZl.out] at hj
                obtain ⟨e1, e2⟩ := HY2.out j x u hx hu
                refine ⟨e1, ?_⟩
                rw [e2]
                by_cases hjk : j < k
                · rw [if_pos hjk, if_pos (by omega)]
                · rw [if_neg hjk, if_neg (by omega)]
            · obtain rfl : k = 3 := by omega
              have hu3 : ∀ (j : Nat) (x : Oz), y2[j]? = some x → x.1.id = (j : Int) + 1 ∧ x.1.rs = [] ∧ j < 3 := fun j x hx => by
                have hj3 : j < 3 := by have := (List.getElem?_eq_some_iff.1 hx).1; omega
                obtain ⟨u, hu⟩ : ∃ u, us[j]? = some u := ⟨_, List.getElem?_eq_getElem (by rw [HLu.out]; exact hj3)⟩
                obtain ⟨e1, e2⟩ := hy2 j x u hx hu
                rw [if_pos hj3] at e2
                exact ⟨e1, e2, hj3⟩
              have HNo := Lib.hid (take_no hA 4 (fun y hy => by
                obtain ⟨j, hj⟩ := List.mem_iff_getElem?.1 hy
                obtain ⟨h1, _, h2⟩ := hu3 j y hj
                rw [h1]
                omega) (by rw [hl2]; omega))
              have HPn := Lib.hid (pending_no (show All w.heap.size w (stF g1 (.slice (some ⟨zg1, 0, none⟩) y2.length zc1) 3 y2 ++ _) wr from by rw [hl2]; exact hA) (fun y hy => by
                obtain ⟨j, hj⟩ := List.mem_iff_getElem?.1 hy
                exact (hu3 j y hj).2.1) (by rw [hl2]; omega))
              have HB := Lib.hid hA.below
              clear hA hy2 hl2 hu3
              go_wp2_with fail
              refine HNo.out.mono ?_
              rintro e w9 ⟨rfl, hw9⟩
              rw [← hw9]
              clear hw9
              go_wp2_with fail
              refine HPn.out.mono ?_
              rintro e w10 ⟨rfl, hb10⟩
              go_wp2_with fail
              go_ret
              exact ⟨rfl, bthen HB.out hb10⟩
end Go.Proofs.YtfdofkokiaapoaaDoor.W
end
section
/- What the row's list gives a walk (Laid), and a world for the witness. -/
namespace Go.Proofs.YtfdofkokiaapoaaDoor.W
open Go.ChangeShapes Go.WideShapes Go.ChangeAt Go.RowKit Go.Joins Go.Shelf
set_option linter.unusedVariables false

/-- the list of the row -/
def lst : List (String × DataW Unit) := [("unicode/utf8.acceptRanges", Rows.laid_unicode_utf8_acceptRanges), ("unicode/utf8.first", Rows.laid_unicode_utf8_first)]
theorem first_eq : Rows.laid_unicode_utf8_first = Lib.firstData := by kernel_rfl
theorem accept_eq : (Rows.laid_unicode_utf8_acceptRanges : DataW Unit) = Lib.acceptData := by kernel_rfl

set_option maxRecDepth 100000 in
theorem laid_of {w : World} (h : laidMetH Tryd.prog lst w) (hs : w.ShapedOpen Tryd.prog) : Laid w := by
  have h1 := Lib.laidMet.reads h (.tail _ (.head _))
  have h2 := Lib.laidMet.reads h (.head _)
  rw [first_eq] at h1
  rw [accept_eq] at h2
  exact ⟨utf8Tabs_of_readsT (U8Types.of196 Tryd.laysValid) ⟨by kernel_rfl, by kernel_rfl, by kernel_rfl, by kernel_rfl, by kernel_rfl, by kernel_rfl, by kernel_rfl⟩ h1 h2⟩

/-- A WORLD FOR THE WITNESS: the settled world, the two variables holding what the list says. -/
noncomputable def laidWorld (os : Os) : World :=
  let w0 := World.holding Tryd.prog os ⟨#[], #[], []⟩
  let put (h : Array Obj) (g : Nat) (cs : Array Value) : Array Obj := h.modify g fun
    | .cells _ t frozen => .cells cs t frozen
    | o => o
  let h1 := put w0.heap 0 (Lib.firstTab.map fun z => Value.int .u8 z).toArray
  let h2 := put h1 1 ((List.range 16).flatMap fun i => [Value.int .u8 (Lib.accLo i), Value.int .u8 (Lib.accHi i)]).toArray
  { w0 with heap := h2 }
theorem laid_met (os : Os) (args : Array Value) : laidMet Tryd.prog lst ((laidWorld os).forCall (fun _ _ => 0) ⟨#[], args, []⟩).memory :=
  (LaidIn.of_run (l := lst) [0, 1] 8 (by kernel_rfl) (by kernel_rfl) (by kernel_rfl) (by kernel_rfl)).met
end Go.Proofs.YtfdofkokiaapoaaDoor.W
end
