/- Texts joined: Cov Note Flt CovG. -/
import Derived.Test.YtfdofkokiaapoaaGreatDoorGv11
import Derived.Test.YtfdofkokiaapoaaGreatDoorGv12
import Derived.Lib.SlicesS
import Derived.BigQuiet
section
/- covers at a watch of everything. -/
namespace Go.Proofs.YtfdofkokiaapoaaGreatDoor.W
open Go.RowKit
set_option linter.unusedVariables false
set_option linter.unusedSimpArgs false

/-- a watch of everything -/
def full (t : Int) : Wt := ⟨t, true, true, true, true, true, [], .slice none 0 0⟩

set_option maxRecDepth 100000 in
set_option maxHeartbeats 4000000 in
theorem covers_full {R : Nat} {S : Tr} {sv fv : Value} {N : Nat} {K : Nat → List Nat} {d : Nat → Nat} {w : World} (hD : Dc S K d N) (h : TAt 0 R S sv fv w) (t : Int) (ht : ∃ i, i ≤ N ∧ t = S.hd i) (r : Rc) (hr : Good S N r) :
    Calls Tryz.prog 28 #[.agg #[.int .i64 t, .bool true, .bool true, .bool true, .bool true, .bool true, .slice none 0 0], .pointer (some ⟨R, 0, none⟩), .agg (encR r).toArray] w fun e w' => ∃ c : Bool, e = .returned (.bool c) ∧ (t = r.target → c = true) ∧ Below w.heap.size w w' := by
  obtain ⟨⟨j, hj, hjt⟩, hk⟩ := hr
  obtain ⟨i, hi, rfl⟩ := ht
  obtain ⟨ni, hni⟩ := Option.isSome_iff_exists.1 (hD.used i (by rw [hD.len]; omega))
  obtain ⟨nj, hnj⟩ := Option.isSome_iff_exists.1 (hD.used j (by rw [hD.len]; omega))
  obtain ⟨g, cap, rfl⟩ := slots_some h (by rw [hD.len]; omega)
  have HC := Lib.hid (fun wx (hb : Below w.heap.size w wx) => contains_any (h.below hb) hD.lk i j ni nj hni hnj)
  generalize contB S i (d j) (some j) = cb at *
  obtain ⟨kd, tg, nd, pr, nx, ix, nm, ol, hd, ct, sz⟩ := r
  simp only at hjt hk
  subst hjt
  have hbx : Below w.heap.size w ((w.alloc (.cells #[.int .i64 (S.hd i), .bool true, .bool true, .bool true, .bool true, .bool true, .slice none 0 0] 58)).alloc (.cells #[.int .i64 kd, .int .i64 (S.hd j), .int .i64 nd, .int .i64 pr, .int .i64 nx, .int .i64 ix, .string ⟨nm.toArray⟩, .string ⟨ol.toArray⟩, .bool hd, .int .i64 ct, .int .i64 sz] 86)) :=
    ((Below.refl _ _).alloc (Nat.le_refl _) _).alloc (by simp) _
  clear h hD hni hnj
  simp only [encR, recC, strV]
  generalize S.hd i = hi' at *
  generalize S.hd j = hj' at *
  by_cases he : hi' = hj'
  · subst he
    rcases hk with rfl | rfl | rfl | rfl
    all_goals
      go_enter Tryz.func28, Tryz.ntmps28
      go_wp2_with fail
      go_ret
      exact ⟨true, rfl, fun _ => rfl, hbx⟩
  · have e1 : (hj' == hi') = false := by simpa using fun e => he e.symm
    rcases hk with rfl | rfl | rfl | rfl
    all_goals
      go_enter Tryz.func28, Tryz.ntmps28
      go_wp2_with fail
      refine (HC.out _ hbx).mono ?_
      rintro e w2 ⟨rfl, hb2⟩
      have hc0 := (bcell hb2).1
      cases cb
      · go_wp2_with fail
        go_ret
        exact ⟨false, rfl, fun e => absurd e he, hbx.trans (hb2.mono hbx.size)⟩
      · skip
        go_wp2_with fail
        go_ret
        exact ⟨true, rfl, fun _ => rfl, hbx.trans (hb2.mono hbx.size)⟩
end Go.Proofs.YtfdofkokiaapoaaGreatDoor.W
end
section
/- Note, where the one observer watches everything. -/
namespace Go.Proofs.YtfdofkokiaapoaaGreatDoor.W
open Go.RowKit
set_option linter.unusedVariables false
set_option linter.unusedSimpArgs false

/-- the objects, as long as Note runs -/
def NtO (g zg zc : Nat) (nx : Int) (z : Ov) (a b : Value) (R : Nat) (S : Tr) (sv fv v : Value) (rs : List Rc) (l : List Ob) : List Ob :=
  stM g (.slice (some ⟨zg, 0, none⟩) 1 zc) nx [(z, a, b)] ++ (trO R S sv fv :: rl v rs :: l)
def Ov.noted (z : Ov) (l : List Rc) : Ov := { z with rs := z.rs ++ l }
def NtR (B : Nat) (w0 : World) (g zg zc : Nat) (nx : Int) (z : Ov) (a : Value) (R : Nat) (S : Tr) (sv fv v : Value) (rs : List Rc) (l : List Ob) (iv : Value) (wr : World) : Prop :=
  ∃ (m : Nat) (b : Value), m ≤ rs.length ∧ iv = .int .i64 (m : Int) ∧ All B w0 (NtO g zg zc nx (z.noted (rs.take m)) a b R S sv fv v rs l) wr
def Nt2 (B : Nat) (w0 : World) (g zg zc : Nat) (nx : Int) (z : Ov) (a b : Value) (R : Nat) (S : Tr) (sv fv v : Value) (rs : List Rc) (l : List Ob) (r : Rc) (r7 : Nat) (iv : Value) (wr : World) : Prop :=
  (iv = .int .i64 0 ∧ All B w0 (bk r7 (encR r) 86 :: NtO g zg zc nx z a b R S sv fv v rs l) wr) ∨
  (iv = .int .i64 1 ∧ ∃ b', All B w0 (bk r7 (encR r) 86 :: NtO g zg zc nx (z.noted [r]) a b' R S sv fv v rs l) wr)
def Nt3 (ws : List Wt) (r : Rc) (wS : World) (cv ov iv : Value) (wr : World) : Prop :=
  ∃ (j : Nat) (c : Bool), j ≤ ws.length ∧ iv = .int .i64 (j : Int) ∧ cv = .bool c ∧ ov = .bool c ∧ (∀ i x, i < j → ws[i]? = some x → x.target = r.target → c = true) ∧ Below wS.heap.size wS wr

set_option maxRecDepth 100000 in
set_option maxHeartbeats 8000000 in
theorem note_one {B : Nat} {w0 w : World} {g zg zc : Nat} {nx : Int} {z : Ov} {a b : Value} {R : Nat} {S : Tr} {sv fv v : Value} {N : Nat} {K : Nat → List Nat} {d : Nat → Nat} {rs : List Rc} {l : List Ob} (hD : Dc S K d N) (h : All B w0 (NtO g zg zc nx z a b R S sv fv v rs l) w)
    (hgood : ∀ r ∈ rs, Good S N r) (hws : ∀ x ∈ z.ws, ∃ i, i ≤ N ∧ x = full (S.hd i)) (hcov : ∀ r ∈ rs, ∃ x ∈ z.ws, x.target = r.target) (hl1 : rs.length ≤ 1000) (hl2 : z.ws.length ≤ 100000) (hl3 : z.rs.length ≤ 100000) :
    Calls Tryz.prog 9 #[.pointer (some ⟨g, 0, none⟩), .pointer (some ⟨R, 0, none⟩), v] w fun e w' => ∃ b', e = .returned (.tuple #[]) ∧ All B w0 (NtO g zg zc nx (z.noted rs) a b' R S sv fv v rs l) w' := by
  have hv : Own w _ _ _ _ _ := h.P (rl v rs) (by simp [NtO])
  obtain ⟨va, vc, rfl⟩ := own_shape hv
  have H := Lib.hid h
  have HG := Lib.hid hgood
  have HW := Lib.hid hws
  have HCv := Lib.hid hcov
  have HD := Lib.hid hD
  clear h hv hgood hws hcov hD
  go_enter Tryz.func9, Tryz.ntmps9
  go_wp2_with fail
  go_loopw [17] (fun iv wr => NtR B w0 g zg zc nx z a R S sv fv (.slice va rs.length vc) rs l iv wr) (fun iv _ => rs.length - (intOf iv).toNat)
  case atStart => exact ⟨0, b, Nat.zero_le _, rfl, by simpa [Ov.noted] using H.out⟩
  case round =>
    obtain ⟨m, b1, hm, rfl, hA⟩ := hrel
    by_cases hml : m < rs.length
    · obtain ⟨r, hr⟩ : ∃ r, rs[m]? = some r := ⟨_, List.getElem?_eq_getElem hml⟩
      have hv : Own wr _ _ _ _ _ := hA.P (rl (.slice va rs.length vc) rs) (by simp [NtO])
      obtain ⟨vg, vc', he, _⟩ := own_some hv (by omega)
      simp only [Value.slice.injEq] at he
      obtain ⟨rfl, _, rfl⟩ := he
      have hq : ∀ j, j < 11 → wr.cell? ⟨vg, m * 11 + j, none⟩ = (encR r)[j]? := fun j hj => by
        rw [hv.cellAt (m * 11 + j) (by omega)]
        exact rows_at (enc := encR) encR_len rs m r hr j hj
      have q0 := hq 0 (by omega)
      have q1 := hq 1 (by omega)
      have q2 := hq 2 (by omega)
      have q3 := hq 3 (by omega)
      have q4 := hq 4 (by omega)
      have q5 := hq 5 (by omega)
      have q6 := hq 6 (by omega)
      have q7 := hq 7 (by omega)
      have q8 := hq 8 (by omega)
      have q9 := hq 9 (by omega)
      have q10 := hq 10 (by omega)
      have HGr := Lib.hid (HG.out r (List.mem_of_getElem? hr))
      have HCr := Lib.hid (HCv.out r (List.mem_of_getElem? hr))
      have HRr := Lib.hid hr
      have hnw := hA.newBkA wr.heap.size rfl (encR r) 86
      simp only [encR, recC, strV, List.getElem?_cons_zero, List.getElem?_cons_succ, Nat.add_zero] at q0 q1 q2 q3 q4 q5 q6 q7 q8 q9 q10
      have hst : Blk _ _ _ _ := (show All B w0 (bk wr.heap.size (encR r) 86 :: bk g [.slice (some ⟨zg, 0, none⟩) 1 zc, .slice none 0 0, .int .i64 nx] 34 :: _) _ from hnw).tail.head
      have g0 := hst.cell 0
      simp only [List.getElem?_cons_zero] at g0
      have HN := Lib.hid hnw
      clear hq hv hA hnw hr hst
      go_upto_region 3 with fail
      clear q0 q1 q2 q3 q4 q5 q6 q7 q8 q9 q10
      simp only [encR, recC, strV] at HN g0
      generalize hr7 : wr.heap.size = r7 at *
      have HN1 := Lib.hid HN.out
      generalize wr.alloc (.cells #[.int .i64 r.kind, .int .i64 r.target, .int .i64 r.node, .int .i64 r.prev, .int .i64 r.next, .int .i64 r.index, .string ⟨r.name.toArray⟩, .string ⟨r.old.toArray⟩, .bool r.had, .int .i64 r.count, .int .i64 r.size] 86) = w1 at *
      change Hid (All B w0 (bk r7 _ _ :: _) w1) at HN1
      have g1 : w1.cell? ⟨g, 0, none⟩ = some (.slice (some ⟨zg, 0, none⟩) 1 zc) := by
        have hst : Blk _ _ _ _ := (show All B w0 (_ :: bk g [.slice (some ⟨zg, 0, none⟩) 1 zc, .slice none 0 0, .int .i64 nx] 34 :: _) _ from HN1.out).tail.head
        exact hst.cell 0
      clear HN g0
      go_wp2_with fail
      go_loopw [26] (fun iv wr2 => Nt2 B w0 g zg zc nx (z.noted (rs.take m)) a b1 R S sv fv (.slice (some ⟨vg, 0, none⟩) rs.length vc) rs l r r7 iv wr2) (fun iv _ => 2 - (intOf iv).toNat)
      case atStart => exact .inl ⟨rfl, HN1.out⟩
      case round =>
        rcases hrel with ⟨rfl, hA⟩ | ⟨rfl, b2, hA⟩
        · have hA' : All B w0 (bk r7 (encR r) 86 :: bk g [.slice (some ⟨zg, 0, none⟩) 1 zc, .slice none 0 0, .int .i64 nx] 34 :: sl 60 4 (.slice (some ⟨zg, 0, none⟩) 1 zc) 1 (encO (z.noted (rs.take m), a, b1)) :: wl a z.ws :: rl b1 (z.noted (rs.take m)).rs :: trO R S sv fv :: rl (.slice (some ⟨vg, 0, none⟩) rs.length vc) rs :: l) _ := hA
          have k7 : Blk _ _ _ _ := hA'.head
          have hst : Blk _ _ _ _ := hA'.tail.head
          have g2 := hst.cell 0
          have hob : Own _ _ _ _ _ _ := hA'.tail.tail.head
          have o2 := hob.cellAt 2 (by omega)
          simp only [encO, List.getElem?_cons_zero, List.getElem?_cons_succ] at g2 o2
          have hwl := hA'.tail.tail.tail.head
          have hwo : Own _ 58 7 a z.ws.length (rows encW z.ws) := hwl.1
          obtain ⟨aa, ac, rfl⟩ := own_shape hwo
          have hT : TAt 0 R S sv fv _ := hA'.tail.tail.tail.tail.tail.head
          have HT := Lib.hid hT
          have HK7 := Lib.hid k7
          have HWo := Lib.hid hwo
          have HA := Lib.hid hA'
          clear hA hA' k7 hst hob hwl hwo hT
          generalize wr = w2s at *
          go_wp2_with fail
          go_loopw [10, 11, 40] (fun cv ov iv wr3 => Nt3 z.ws r w2s cv ov iv wr3) (fun _ _ iv _ => z.ws.length - (intOf iv).toNat)
          case atStart => exact ⟨0, false, Nat.zero_le _, rfl, rfl, rfl, fun i x hi => absurd hi (Nat.not_lt_zero i), Below.refl _ _⟩
          case round =>
            obtain ⟨j, c, hj, rfl, rfl, rfl, hcj, hB⟩ := hrel
            have HCj := Lib.hid hcj
            clear hcj
            by_cases hjl : j < z.ws.length
            · obtain ⟨x, hx⟩ : ∃ x, z.ws[j]? = some x := ⟨_, List.getElem?_eq_getElem hjl⟩
              obtain ⟨ti, hti, hxf⟩ := HW.out x (List.mem_of_getElem? hx)
              have hO := own_below HWo.out hB
              obtain ⟨ag, ac', he, _⟩ := own_some hO (by omega)
              simp only [Value.slice.injEq] at he
              obtain ⟨rfl, _, rfl⟩ := he
              have hq : ∀ j', j' < 7 → wr.cell? ⟨ag, j * 7 + j', none⟩ = (encW x)[j']? := fun j' hj' => by
                rw [hO.cellAt (j * 7 + j') (by omega)]
                exact rows_at (enc := encW) encW_len z.ws j x hx j' hj'
              have q0 := hq 0 (by omega)
              have q1 := hq 1 (by omega)
              have q2 := hq 2 (by omega)
              have q3 := hq 3 (by omega)
              have q4 := hq 4 (by omega)
              have q5 := hq 5 (by omega)
              have q6 := hq 6 (by omega)
              rw [hxf] at q0 q1 q2 q3 q4 q5 q6
              simp only [encW, full, List.getElem?_cons_zero, List.getElem?_cons_succ, Nat.add_zero] at q0 q1 q2 q3 q4 q5 q6
              have HX := Lib.hid hx
              have HXf := Lib.hid hxf
              have k7 := HK7.out.below hB
              have p0 := k7.cell 0
              have p1 := k7.cell 1
              have p2 := k7.cell 2
              have p3 := k7.cell 3
              have p4 := k7.cell 4
              have p5 := k7.cell 5
              have p6 := k7.cell 6
              have p7 := k7.cell 7
              have p8 := k7.cell 8
              have p9 := k7.cell 9
              have p10 := k7.cell 10
              simp only [encR, recC, strV, List.getElem?_cons_zero, List.getElem?_cons_succ] at p0 p1 p2 p3 p4 p5 p6 p7 p8 p9 p10
              have hr7l := k7.lt
              have hba : Below w2s.heap.size w2s (wr.alloc (.cells #[.int .i64 (S.hd ti), .bool true, .bool true, .bool true, .bool true, .bool true, .slice none 0 0] 58)) := hB.alloc hB.size _
              have HCf := Lib.hid (covers_full HD.out (HT.out.below hba) (S.hd ti) ⟨ti, hti, rfl⟩ r HGr.out)
              simp only [encR, recC, strV] at HCf
              clear hO hx hq hxf k7
              go_wp2_with fail
              have k13 : Blk (wr.alloc (.cells #[.int .i64 (S.hd ti), .bool true, .bool true, .bool true, .bool true, .bool true, .slice none 0 0] 58)) wr.heap.size [.int .i64 (S.hd ti), .bool true, .bool true, .bool true, .bool true, .bool true, .slice none 0 0] 58 := Blk.new wr _ _
              have HK13 := Lib.hid k13
              clear k13 p0 p1 p2 p3 p4 p5 p6 p7 p8 p9 p10 q0 q1 q2 q3 q4 q5 q6
              refine HCf.out.mono ?_
              rintro e w5 ⟨cc, rfl, hcc, hb5⟩
              have hB5 := hba.trans (hb5.mono hba.size)
              have k5 := (HK13.out.below hb5).cell 5
              simp only [List.getElem?_cons_zero, List.getElem?_cons_succ] at k5
              have HB5 := Lib.hid hB5
              have Hcc := Lib.hid hcc
              clear HCf HK13 hba hb5 hB5 hcc
              cases cc
              · go_wp2_with fail
                refine ⟨⟨j + 1, c, by omega, by go_num, rfl, rfl, fun i y hi hy hyt => ?_, HB5.out⟩, by simp [intOf]; omega⟩
                by_cases e : i = j
                · subst e
                  rw [HX.out] at hy
                  cases hy
                  have := Hcc.out (by rw [HXf.out] at hyt; exact hyt)
                  cases this
                · exact HCj.out i y (by omega) hy hyt
              · cases c
                · go_wp2_with fail
                  exact ⟨⟨j + 1, true, by omega, by go_num, rfl, rfl, fun _ _ _ _ _ => rfl, HB5.out⟩, by simp [intOf]; omega⟩
                · go_wp2_with fail
                  exact ⟨⟨j + 1, true, by omega, by go_num, rfl, rfl, fun _ _ _ _ _ => rfl, HB5.out⟩, by simp [intOf]; omega⟩
            · obtain ⟨x, hx, hxt⟩ := HCr.out
              obtain ⟨jx, hjx⟩ := List.mem_iff_getElem?.1 hx
              have hc1 : c = true := HCj.out jx x (by have := (List.getElem?_eq_some_iff.1 hjx).1; omega) hjx hxt
              subst hc1
              have k7 := HK7.out.below hB
              have p0 := k7.cell 0
              have p1 := k7.cell 1
              have p2 := k7.cell 2
              have p3 := k7.cell 3
              have p4 := k7.cell 4
              have p5 := k7.cell 5
              have p6 := k7.cell 6
              have p7 := k7.cell 7
              have p8 := k7.cell 8
              have p9 := k7.cell 9
              have p10 := k7.cell 10
              simp only [encR, recC, strV, List.getElem?_cons_zero, List.getElem?_cons_succ] at p0 p1 p2 p3 p4 p5 p6 p7 p8 p9 p10
              clear hx hxt hjx k7 HCj
              go_upto_region 19 with fail
              have hA6 := (HA.out.still hB).alloc (.cells #[.int .i64 r.kind, .int .i64 r.target, .int .i64 r.node, .int .i64 r.prev, .int .i64 r.next, .int .i64 r.index, .string ⟨r.name.toArray⟩, .string ⟨r.old.toArray⟩, .bool r.had, .int .i64 r.count, .int .i64 r.size] 86)
              have k14 : Blk (wr.alloc (.cells #[.int .i64 r.kind, .int .i64 r.target, .int .i64 r.node, .int .i64 r.prev, .int .i64 r.next, .int .i64 r.index, .string ⟨r.name.toArray⟩, .string ⟨r.old.toArray⟩, .bool r.had, .int .i64 r.count, .int .i64 r.size] 86)) wr.heap.size [.int .i64 r.kind, .int .i64 r.target, .int .i64 r.node, .int .i64 r.prev, .int .i64 r.next, .int .i64 r.index, .string ⟨r.name.toArray⟩, .string ⟨r.old.toArray⟩, .bool r.had, .int .i64 r.count, .int .i64 r.size] 86 := Blk.new wr _ _
              clear p0 p1 p2 p3 p4 p5 p6 p7 p8 p9 p10
              generalize hr14 : wr.heap.size = r14 at *
              generalize wr.alloc (.cells #[.int .i64 r.kind, .int .i64 r.target, .int .i64 r.node, .int .i64 r.prev, .int .i64 r.next, .int .i64 r.index, .string ⟨r.name.toArray⟩, .string ⟨r.old.toArray⟩, .bool r.had, .int .i64 r.count, .int .i64 r.size] 86) = w6 at *
              have p0 := k14.cell 0
              have p1 := k14.cell 1
              have p2 := k14.cell 2
              have p3 := k14.cell 3
              have p4 := k14.cell 4
              have p5 := k14.cell 5
              have p6 := k14.cell 6
              have p7 := k14.cell 7
              have p8 := k14.cell 8
              have p9 := k14.cell 9
              have p10 := k14.cell 10
              simp only [List.getElem?_cons_zero, List.getElem?_cons_succ] at p0 p1 p2 p3 p4 p5 p6 p7 p8 p9 p10
              have hob : Own _ _ _ _ _ _ := hA6.tail.tail.head
              have o3 := hob.cellAt 3 (by omega)
              have hzl := own_lt hob (k := zg) rfl
              simp only [encO, List.getElem?_cons_zero, List.getElem?_cons_succ] at o3
              have hrl : Own _ _ _ _ _ _ := hA6.tail.tail.tail.tail.head
              obtain ⟨ba, bc, rfl⟩ := own_shape hrl
              have hzr : (z.noted (rs.take m)).rs.length ≤ 101000 := by simp [Ov.noted]; omega
              have ea : ∀ o, (w6.alloc o).cell? ⟨zg, 3, none⟩ = some (.slice ba (z.noted (rs.take m)).rs.length bc) := fun o => (World.cell?_alloc_lt _ _ _ hzl).trans o3
              have T1 := Lib.hid ((hA6.alloc (.cells #[.int .i64 r.kind, .int .i64 r.target, .int .i64 r.node, .int .i64 r.prev, .int .i64 r.next, .int .i64 r.index, .string ⟨r.name.toArray⟩, .string ⟨r.old.toArray⟩, .bool r.had, .int .i64 r.count, .int .i64 r.size] 86)).drew)
              have T2 := Lib.hid (own_at (w := (w6.alloc (.cells #[.int .i64 r.kind, .int .i64 r.target, .int .i64 r.node, .int .i64 r.prev, .int .i64 r.next, .int .i64 r.index, .string ⟨r.name.toArray⟩, .string ⟨r.old.toArray⟩, .bool r.had, .int .i64 r.count, .int .i64 r.size] 86)).drew) (g := w6.heap.size) (n := 1) (size := 11) (show Blk _ _ _ _ from Blk.new w6 [.int .i64 r.kind, .int .i64 r.target, .int .i64 r.node, .int .i64 r.prev, .int .i64 r.next, .int .i64 r.index, .string ⟨r.name.toArray⟩, .string ⟨r.old.toArray⟩, .bool r.had, .int .i64 r.count, .int .i64 r.size] 86) rfl (by omega))
              have T3 := Lib.hid (encR_one r)
              simp only [encR, recC, strV] at T3
              clear hA6 hob hrl k14
              go_region_law (refine step_append_all etR [_, _, _, _] T1.out T2.out T3.out (by omega) (by omega) (by rfl) _ _ (by rfl) (by rfl) (by rfl) ?_; intro v' w7 hA7; have ho : Own _ _ _ _ _ _ := hA7.tail.tail.tail.tail.head; obtain ⟨va, vc2, rfl⟩ := own_shape ho; have hr5 : Own _ _ _ _ _ _ := hA7.tail.tail.head; have d1 := hr5.cellAt 3 (by omega); simp only [encO, List.getElem?_cons_zero, List.getElem?_cons_succ] at d1; have df := hr5.frozenAt 3; have HB7 := Lib.hid hA7; clear hA7 ho hr5)
              all_goals
                go_wp2_with fail
                refine ⟨.inr ⟨rfl, .slice va ((z.noted (rs.take m)).rs.length + 1) vc2, ?_⟩, by simp [intOf]⟩
                have h9 := HB7.out.setSl [_, _] 3 (.slice va ((z.noted (rs.take m)).rs.length + 1) vc2)
                have e1 : rows encR ((z.noted (rs.take m)).noted [r]).rs = rows encR (z.noted (rs.take m)).rs ++ [.int .i64 r.kind, .int .i64 r.target, .int .i64 r.node, .int .i64 r.prev, .int .i64 r.next, .int .i64 r.index, .string ⟨r.name.toArray⟩, .string ⟨r.old.toArray⟩, .bool r.had, .int .i64 r.count, .int .i64 r.size] := rows_snoc _ _
                have e2 : ((z.noted (rs.take m)).noted [r]).rs.length = (z.noted (rs.take m)).rs.length + 1 := by simp [Ov.noted]; omega
                rw [← e1] at h9
                show All B w0 (_ :: bk g _ _ :: sl _ _ _ _ _ :: wl _ _ :: sl 86 11 _ ((z.noted (rs.take m)).noted [r]).rs.length _ :: _) _
                rw [e2]
                exact h9
        · clear g1
          go_wp2_with fail
          refine ⟨⟨m + 1, b2, by omega, by go_num, ?_⟩, by simp [intOf]; omega⟩
          have e : (z.noted (rs.take m)).noted [r] = z.noted (rs.take (m + 1)) := by
            unfold Ov.noted
            simp only []
            rw [List.take_add_one, HRr.out]
            simp
          rw [e] at hA
          exact hA.tail
    · obtain rfl : m = rs.length := by omega
      rw [List.take_length] at hA
      have HA := Lib.hid hA
      clear hA
      go_wp2_with fail
      go_end0
      exact ⟨b1, rfl, HA.out⟩
end Go.Proofs.YtfdofkokiaapoaaGreatDoor.W
end
section
/- Observers whose watches have filters: the filters lie in one object of their own; an observer found, its fields written, Take. Plain: what an observer is told. -/
namespace Go.Proofs.YtfdofkokiaapoaaGreatDoor.W
open Go.RowKit
set_option linter.unusedVariables false
set_option linter.unusedSimpArgs false

/-- a watch, wherever its filter lies -/
structure Wb where
  target : Int
  kids : Bool
  attrs : Bool
  data : Bool
  sub : Bool
  old : Bool
  flt : List (List UInt8)
def Wt.bare (x : Wt) : Wb := ⟨x.target, x.kids, x.attrs, x.data, x.sub, x.old, x.flt⟩
/-- filters -/
abbrev Fl := Value × List (List UInt8)
def fo (fs : List Fl) : Ob where
  P := fun w => ∀ x ∈ fs, Own w 9 1 x.1 x.2.length (x.2.map strV)
  F := fun k => ∃ x ∈ fs, x.1.ownBlock = some k
  here := fun w h k hk => by obtain ⟨x, hx, hk⟩ := hk; exact own_lt (h x hx) hk
  loc := fun w w' h k x hx => own_kept (h x hx) (fun g hg => k g ⟨x, hx, hg⟩)
theorem All.addF {B : Nat} {w0 w w' : World} {fs : List Fl} {v : Value} {f : List (List UInt8)} (l1 : List Ob) {l2 : List Ob} (h : All B w0 (l1 ++ fo fs :: l2) w) (ho : Own w' 9 1 v f.length (f.map strV)) (hb : Below w.heap.size w w') (hk : ∀ k, v.ownBlock = some k → w.heap.size ≤ k) :
    All B w0 (l1 ++ fo ((v, f) :: fs) :: l2) w' := by
  have h2 := (h.still hb).mid
  refine h.step l1 (o' := fo ((v, f) :: fs)) (fun x hx => ?_) (Chg.of_below hb) (fun k hk' => ?_)
  · rcases List.mem_cons.1 hx with rfl | hx
    · exact ho
    · exact h2 x hx
  · obtain ⟨x, hx, hk'⟩ := hk'
    rcases List.mem_cons.1 hx with rfl | hx
    · exact .inr (hk k hk')
    · exact .inl ⟨x, hx, hk'⟩
/-- no filter -/
theorem All.fo0 {B : Nat} {w0 w : World} {l : List Ob} (h : All B w0 l w) : All B w0 (fo [(.slice none 0 0, [])] :: l) w :=
  h.new (o := fo [(.slice none 0 0, [])]) (fun x hx => by simp only [List.mem_singleton] at hx; subst hx; exact World.ownsRow_nil _ _ _ _) (Below.refl _ _) (by rintro k ⟨x, hx, hk⟩; simp only [List.mem_singleton] at hx; subst hx; cases hk)
/-- every filter of these watches lies among fs -/
def FIn (fs : List Fl) (ws : List Wt) : Prop := ∀ x ∈ ws, (x.fv, x.flt) ∈ fs
theorem FIn.more {fs : List Fl} {ws : List Wt} (h : FIn fs ws) (x : Fl) : FIn (x :: fs) ws := fun y hy => List.mem_cons_of_mem _ (h y hy)

def obF (zs : List Oz) : List Ob := zs.flatMap fun x => [sl 58 7 x.2.1 x.1.ws.length (rows encW x.1.ws), rl x.2.2 x.1.rs]
theorem obF_split (z1 : List Oz) (x : Oz) (z2 : List Oz) (l : List Ob) : obF (z1 ++ x :: z2) ++ l = obF z1 ++ (sl 58 7 x.2.1 x.1.ws.length (rows encW x.1.ws) :: rl x.2.2 x.1.rs :: (obF z2 ++ l)) := by simp [obF]
/-- the objects of a State without observers of sizes; the filters lie elsewhere -/
def stF (g : Nat) (zv : Value) (nx : Int) (zs : List Oz) : List Ob := bk g [zv, .slice none 0 0, .int .i64 nx] 34 :: sl 60 4 zv zs.length (rows encO zs) :: obF zs

set_option maxRecDepth 100000 in
theorem observer_atF {B : Nat} {w0 w : World} {g zg zc : Nat} {nx : Int} {z1 z2 : List Oz} {z : Oz} {l : List Ob} (h : All B w0 (stF g (.slice (some ⟨zg, 0, none⟩) (z1 ++ z :: z2).length zc) nx (z1 ++ z :: z2) ++ l) w) (hn : ∀ y ∈ z1, y.1.id ≠ z.1.id) (hl : (z1 ++ z :: z2).length ≤ 1000000) :
    Calls Tryz.prog 41 #[.pointer (some ⟨g, 0, none⟩), .int .i64 z.1.id] w fun e w' => e = .returned (.pointer (some ⟨zg, z1.length * 4, none⟩)) ∧ w = w' := by
  have hb : Blk _ _ _ _ := h.head
  have hs : Own _ _ _ _ _ _ := h.tail.head
  have c1 := hb.cell 0
  simp only [List.getElem?_cons_zero, List.getElem?_cons_succ] at c1
  have HS := Lib.hid hs
  have HN := Lib.hid hn
  have hlt : z1.length < (z1 ++ z :: z2).length := by simp
  have hcell : ∀ k y, (z1 ++ z :: z2)[k]? = some y → w.cell? ⟨zg, k * 4, none⟩ = some (.int .i64 y.1.id) := fun k y hy => by
    have h1 := hs.cellAt (k * 4) (by have := (List.getElem?_eq_some_iff.1 hy).1; omega)
    have h2 := rows_at (enc := encO) encO_len _ k y hy 0 (by decide)
    rw [Nat.add_zero] at h2
    rw [h1, h2]
    rfl
  have HC := Lib.hid hcell
  clear hb hs h hn hcell
  obtain ⟨n, hnn⟩ : ∃ n, (z1 ++ z :: z2).length = n := ⟨_, rfl⟩
  rw [hnn] at c1 hlt hl
  have HNN := Lib.hid hnn
  clear hnn
  go_enter Tryz.func41, Tryz.ntmps41
  go_wp2_with fail
  go_loop [11] (fun iv => ∃ k : Nat, k ≤ z1.length ∧ iv = .int .i64 (k : Int)) (fun iv => n - (intOf iv).toNat)
  case atStart => exact ⟨0, Nat.zero_le _, rfl⟩
  case round =>
    obtain ⟨k, hk, rfl⟩ := hrel
    by_cases hkl : k < z1.length
    · have hy : (z1 ++ z :: z2)[k]? = some z1[k] := by rw [List.getElem?_append_left hkl, List.getElem?_eq_getElem hkl]
      have q0 := HC.out k _ hy
      have hne := HN.out z1[k] (List.getElem_mem hkl)
      generalize z1[k].1.id = y at *
      have e1 : (y == z.1.id) = false := by simpa using hne
      clear hy hne
      go_wp2_with fail
      go_round
      case rel => exact ⟨k + 1, by omega, by go_num⟩
      case measure => simp [intOf]; omega
    · obtain rfl : k = z1.length := by omega
      have q0 := HC.out z1.length z (get_mid z1 z z2)
      go_wp2_with fail
      go_ret
      exact ⟨rfl, rfl⟩

set_option maxRecDepth 100000 in
theorem observer_noF {B : Nat} {w0 w : World} {g : Nat} {zv : Value} {nx : Int} {zs : List Oz} {l : List Ob} (h : All B w0 (stF g zv nx zs ++ l) w) (id : Int) (hn : ∀ y ∈ zs, y.1.id ≠ id) (hl : zs.length ≤ 1000000) :
    Calls Tryz.prog 41 #[.pointer (some ⟨g, 0, none⟩), .int .i64 id] w fun e w' => e = .returned (.pointer none) ∧ w = w' := by
  have hb : Blk _ _ _ _ := h.head
  have hs : Own _ _ _ _ _ _ := h.tail.head
  obtain ⟨za, zc, rfl⟩ := own_shape hs
  have c1 := hb.cell 0
  simp only [List.getElem?_cons_zero, List.getElem?_cons_succ] at c1
  have HS := Lib.hid hs
  have HN := Lib.hid hn
  clear hb hs h hn
  go_enter Tryz.func41, Tryz.ntmps41
  go_wp2_with fail
  go_loop [11] (fun iv => ∃ k : Nat, k ≤ zs.length ∧ iv = .int .i64 (k : Int)) (fun iv => zs.length - (intOf iv).toNat)
  case atStart => exact ⟨0, Nat.zero_le _, rfl⟩
  case round =>
    obtain ⟨k, hk, rfl⟩ := hrel
    by_cases hkl : k < zs.length
    · have hy : zs[k]? = some zs[k] := List.getElem?_eq_getElem hkl
      obtain ⟨zg, zc', he, _⟩ := own_some HS.out (by omega)
      simp only [Value.slice.injEq] at he
      obtain ⟨rfl, _, rfl⟩ := he
      have q0 := HS.out.cellAt (k * 4) (by omega)
      have q1 := rows_at (enc := encO) encO_len _ k _ hy 0 (by decide)
      rw [Nat.add_zero] at q1
      rw [q1] at q0
      simp only [encO, List.getElem?_cons_zero] at q0
      have hne := HN.out zs[k] (List.getElem_mem hkl)
      generalize zs[k].1.id = y at *
      have e1 : (y == id) = false := by simpa using hne
      clear hy hne q1
      go_wp2_with fail
      go_round
      case rel => exact ⟨k + 1, by omega, by go_num⟩
      case measure => simp [intOf]; omega
    · go_wp2_with fail
      go_ret
      exact ⟨rfl, rfl⟩

theorem stF_split (g : Nat) (zv : Value) (nx : Int) (z1 : List Oz) (z : Oz) (z2 : List Oz) (l : List Ob) :
    stF g zv nx (z1 ++ z :: z2) ++ l = [bk g [zv, .slice none 0 0, .int .i64 nx] 34, sl 60 4 zv (z1 ++ z :: z2).length (rows encO (z1 ++ z :: z2))] ++ obF z1 ++ (sl 58 7 z.2.1 z.1.ws.length (rows encW z.1.ws) :: rl z.2.2 z.1.rs :: (obF z2 ++ l)) := by
  unfold stF
  simp only [List.cons_append, List.nil_append]
  rw [obF_split]

/-- a field of an observer written: the watches -/
theorem om_set2F {B : Nat} {w0 w : World} {g zg zc N : Nat} {nx : Int} {z1 z2 : List Oz} {z z' : Ov} {a b a' : Value} {l : List Ob}
    (h : All B w0 ([bk g [.slice (some ⟨zg, 0, none⟩) N zc, .slice none 0 0, .int .i64 nx] 34, sl 60 4 (.slice (some ⟨zg, 0, none⟩) N zc) N (rows encO (z1 ++ (z, a, b) :: z2))] ++ obF z1 ++ (sl 58 7 a' z'.ws.length (rows encW z'.ws) :: rl b z'.rs :: (obF z2 ++ l))) w)
    (hN : (z1 ++ (z, a, b) :: z2).length = N) (h1 : z'.id = z.id) (h2 : z'.cb = z.cb) : All B w0 (stF g (.slice (some ⟨zg, 0, none⟩) N zc) nx (z1 ++ (z', a', b) :: z2) ++ l) (w.setCell ⟨zg, z1.length * 4 + 2, none⟩ a') := by
  rw [stF_split]
  have hr := rows_field (enc := encO) encO_len (z1 ++ (z, a, b) :: z2) z1.length 2 _ (z', a', b) a' (get_mid _ _ _) (by decide) (by simp [encO, h1, h2])
  rw [set_mid] at hr
  have hN' : (z1 ++ (z', a', b) :: z2).length = N := by rw [← hN]; simp
  rw [hr, hN']
  exact h.setSl [_] (z1.length * 4 + 2) a'

/-- a field of an observer written: the records -/
theorem om_set3F {B : Nat} {w0 w : World} {g zg zc N : Nat} {nx : Int} {z1 z2 : List Oz} {z z' : Ov} {a b b' : Value} {l : List Ob}
    (h : All B w0 ([bk g [.slice (some ⟨zg, 0, none⟩) N zc, .slice none 0 0, .int .i64 nx] 34, sl 60 4 (.slice (some ⟨zg, 0, none⟩) N zc) N (rows encO (z1 ++ (z, a, b) :: z2))] ++ obF z1 ++ (sl 58 7 a z'.ws.length (rows encW z'.ws) :: rl b' z'.rs :: (obF z2 ++ l))) w)
    (hN : (z1 ++ (z, a, b) :: z2).length = N) (h1 : z'.id = z.id) (h2 : z'.cb = z.cb) : All B w0 (stF g (.slice (some ⟨zg, 0, none⟩) N zc) nx (z1 ++ (z', a, b') :: z2) ++ l) (w.setCell ⟨zg, z1.length * 4 + 3, none⟩ b') := by
  rw [stF_split]
  have hr := rows_field (enc := encO) encO_len (z1 ++ (z, a, b) :: z2) z1.length 3 _ (z', a, b') b' (get_mid _ _ _) (by decide) (by simp [encO, h1, h2])
  rw [set_mid] at hr
  have hN' : (z1 ++ (z', a, b') :: z2).length = N := by rw [← hN]; simp
  rw [hr, hN']
  exact h.setSl [_] (z1.length * 4 + 3) b'

/-- the cells of one observer -/
theorem om_cellsF {B : Nat} {w0 w : World} {g zg zc : Nat} {nx : Int} {z1 z2 : List Oz} {z : Ov} {a b : Value} {l : List Ob} (h : All B w0 (stF g (.slice (some ⟨zg, 0, none⟩) (z1 ++ (z, a, b) :: z2).length zc) nx (z1 ++ (z, a, b) :: z2) ++ l) w) :
    (w.cell? ⟨zg, z1.length * 4, none⟩ = some (.int .i64 z.id) ∧ w.cell? ⟨zg, z1.length * 4 + 1, none⟩ = some (.int .i64 z.cb) ∧ w.cell? ⟨zg, z1.length * 4 + 2, none⟩ = some a ∧ w.cell? ⟨zg, z1.length * 4 + 3, none⟩ = some b) ∧
    (∀ j, w.frozen? ⟨zg, j, none⟩ = false) ∧ zg < w.heap.size ∧ w.cell? ⟨g, 0, none⟩ = some (.slice (some ⟨zg, 0, none⟩) (z1 ++ (z, a, b) :: z2).length zc) ∧ w.cell? ⟨g, 1, none⟩ = some (.slice none 0 0) ∧ Own w 58 7 a z.ws.length (rows encW z.ws) ∧ Own w 86 11 b z.rs.length (rows encR z.rs) := by
  have hb : Blk _ _ _ _ := h.head
  have hr : Own _ _ _ _ _ _ := h.tail.head
  have c0 := hb.cell 0
  have c1 := hb.cell 1
  simp only [List.getElem?_cons_zero, List.getElem?_cons_succ] at c0 c1
  have hlt : z1.length * 4 + 4 ≤ (z1 ++ (z, a, b) :: z2).length * 4 := by simp; omega
  have r0 := rows_at (enc := encO) encO_len _ z1.length _ (get_mid z1 (z, a, b) z2) 0 (by decide)
  have r1 := rows_at (enc := encO) encO_len _ z1.length _ (get_mid z1 (z, a, b) z2) 1 (by decide)
  have r2 := rows_at (enc := encO) encO_len _ z1.length _ (get_mid z1 (z, a, b) z2) 2 (by decide)
  have r3 := rows_at (enc := encO) encO_len _ z1.length _ (get_mid z1 (z, a, b) z2) 3 (by decide)
  have q0 := hr.cellAt (z1.length * 4 + 0) (by omega)
  have q1 := hr.cellAt (z1.length * 4 + 1) (by omega)
  have q2 := hr.cellAt (z1.length * 4 + 2) (by omega)
  have q3 := hr.cellAt (z1.length * 4 + 3) (by omega)
  rw [r0] at q0
  rw [r1] at q1
  rw [r2] at q2
  rw [r3] at q3
  simp only [encO, List.getElem?_cons_zero, List.getElem?_cons_succ] at q0 q1 q2 q3
  have hA := h.P (sl 58 7 a z.ws.length (rows encW z.ws)) (by rw [stF_split]; simp)
  have hB' : Own _ _ _ _ _ _ := h.P (rl b z.rs) (by rw [stF_split]; simp)
  exact ⟨⟨q0, q1, q2, q3⟩, fun j => hr.frozenAt j, own_lt hr (k := zg) rfl, c0, c1, hA, hB'⟩

set_option maxRecDepth 100000 in
set_option maxHeartbeats 4000000 in
theorem take_obF {B : Nat} {w0 w : World} {g zg zc : Nat} {nx : Int} {z1 z2 : List Oz} {z : Ov} {a b : Value} {l : List Ob} (h : All B w0 (stF g (.slice (some ⟨zg, 0, none⟩) (z1 ++ (z, a, b) :: z2).length zc) nx (z1 ++ (z, a, b) :: z2) ++ l) w)
    (hn : ∀ y ∈ z1, y.1.id ≠ z.id) (hl : (z1 ++ (z, a, b) :: z2).length ≤ 1000000) :
    Calls Tryz.prog 14 #[.pointer (some ⟨g, 0, none⟩), .int .i64 z.id] w fun e w' => e = .returned (.tuple #[b, .int .i64 0]) ∧
      All B w0 (stF g (.slice (some ⟨zg, 0, none⟩) (z1 ++ (z, a, b) :: z2).length zc) nx (z1 ++ ({ z with rs := [] }, a, .slice none 0 0) :: z2) ++ (rl b z.rs :: l)) w' := by
  have HSz := Lib.hid (observer_atF (z := (z, a, b)) h hn hl)
  obtain ⟨⟨_, _, _, q3⟩, qf, hzlt, _, _, _, hb⟩ := om_cellsF h
  obtain ⟨ba, bc, rfl⟩ := own_shape hb
  rw [stF_split] at h
  have h1 := (h.nil 86 11)
  have H := Lib.hid h1
  clear h h1 hb hn hl
  generalize hk : z1.length = k at *
  have HKk := Lib.hid hk
  clear hk
  generalize hN : (z1 ++ (z, a, Value.slice ba z.rs.length bc) :: z2).length = N at *
  have HN := Lib.hid hN
  clear hN
  go_enter Tryz.func14, Tryz.ntmps14
  go_wp2_with fail
  refine HSz.out.mono ?_
  rintro e w1 ⟨rfl, hw⟩
  rw [← hw]
  clear hw
  go_wp2_with fail
  go_ret2
  have hkk := HKk.out
  subst hkk
  refine ⟨rfl, ?_⟩
  refine om_set3F (z := z) (a := a) (b := .slice ba z.rs.length bc) (z' := { z with rs := [] }) ?_ HN.out rfl rfl
  have h2 := H.out
  exact h2.perm (perm_dlM _ _ _ _ _ _)

/-- the node t contains r, told by their handles -/
noncomputable def contH (S : Tr) (d : Nat → Nat) (N : Nat) (t r : Int) : Bool := @decide (∃ i j, i ≤ N ∧ j ≤ N ∧ t = S.hd i ∧ r = S.hd j ∧ contB S i (d j) (some j) = true) (Classical.propDecidable _)
theorem hd_inj {S : Tr} {K : Nat → List Nat} {d : Nat → Nat} {N : Nat} (hD : Dc S K d N) {i j : Nat} (hi : i ≤ N) (hj : j ≤ N) (e : S.hd i = S.hd j) : i = j := by
  have hfw := hD.lk.few
  have hln := hD.len
  exact hdl_inj (b := S.b) (s := S.s) (i := i) (j := j) (by omega) (by omega) e
theorem contH_eq {S : Tr} {K : Nat → List Nat} {d : Nat → Nat} {N : Nat} (hD : Dc S K d N) {i j : Nat} (hi : i ≤ N) (hj : j ≤ N) : contH S d N (S.hd i) (S.hd j) = contB S i (d j) (some j) := by
  unfold contH
  cases h : contB S i (d j) (some j) with
  | true => exact @decide_eq_true _ (Classical.propDecidable _) ⟨i, j, hi, hj, rfl, rfl, h⟩
  | false =>
    refine @decide_eq_false _ (Classical.propDecidable _) ?_
    rintro ⟨i', j', hi', hj', e1, e2, h'⟩
    obtain rfl := hd_inj hD hi hi' e1
    obtain rfl := hd_inj hD hj hj' e2
    rw [h] at h'
    cases h'
/-- a watch covers a record, if their nodes are near -/
def kindB (x : Wb) (r : Rc) : Bool := if r.kind = 3 then x.attrs && (x.flt.isEmpty || x.flt.contains r.name) else if r.kind = 4 then x.data else x.kids
noncomputable def covB (S : Tr) (d : Nat → Nat) (N : Nat) (x : Wb) (r : Rc) : Bool := (x.target == r.target || (x.sub && contH S d N x.target r.target)) && kindB x r
/-- what an observer with these watches is told of a record, and of several -/
def toldR (c : Wb → Rc → Bool) (ws : List Wb) (r : Rc) : List Rc := if ws.any (fun x => c x r) = true then [if ws.any (fun x => c x r && x.old) = true then r else { r with old := [] }] else []
def toldL (c : Wb → Rc → Bool) (ws : List Wb) (rs : List Rc) : List Rc := rs.flatMap (toldR c ws)
theorem toldL_snoc (c : Wb → Rc → Bool) (ws : List Wb) (rs : List Rc) (r : Rc) : toldL c ws (rs ++ [r]) = toldL c ws rs ++ toldR c ws r := by simp [toldL]
theorem toldR_len (c : Wb → Rc → Bool) (ws : List Wb) (r : Rc) : (toldR c ws r).length ≤ 1 := by unfold toldR; split <;> simp
theorem toldL_len (c : Wb → Rc → Bool) (ws : List Wb) : ∀ rs : List Rc, (toldL c ws rs).length ≤ rs.length
  | [] => by simp [toldL]
  | r :: rs => by
    have h1 := toldL_len c ws rs
    have h2 := toldR_len c ws r
    have e : toldL c ws (r :: rs) = toldR c ws r ++ toldL c ws rs := by simp [toldL]
    rw [e, List.length_append, List.length_cons]
    omega
theorem split_at {α : Type} {l : List α} {k : Nat} {x : α} (h : l[k]? = some x) : ∃ l1 l2, l = l1 ++ x :: l2 ∧ l1.length = k := by
  obtain ⟨hk, hx⟩ := List.getElem?_eq_some_iff.1 h
  refine ⟨l.take k, l.drop (k + 1), ?_, by simp; omega⟩
  rw [← hx]
  simp
end Go.Proofs.YtfdofkokiaapoaaGreatDoor.W
end
section
/- covers, of the program and of the law: both say covB. -/
namespace Go.Proofs.YtfdofkokiaapoaaGreatDoor.W
open Go.RowKit
set_option linter.unusedVariables false
set_option linter.unusedSimpArgs false

theorem contains_flt (flt : List (List UInt8)) (nm : List UInt8) : Lib.containsS ((flt.map fun f => (⟨f.toArray⟩ : ByteArray)).take flt.length) ⟨nm.toArray⟩ = flt.contains nm := by
  rw [List.take_of_length_le (by simp)]
  have h : Lib.containsS (flt.map fun f => (⟨f.toArray⟩ : ByteArray)) ⟨nm.toArray⟩ = true ↔ flt.contains nm = true := by
    rw [Lib.containsS_iff, List.mem_map, List.contains_iff_mem]
    constructor
    · rintro ⟨f, hf, e⟩
      simp only [ByteArray.mk.injEq] at e
      have e2 : f = nm := by rw [← f.toList_toArray, e]
      exact e2 ▸ hf
    · intro h
      exact ⟨nm, h, rfl⟩
  cases h1 : Lib.containsS (flt.map fun f => (⟨f.toArray⟩ : ByteArray)) ⟨nm.toArray⟩ <;> cases h2 : flt.contains nm <;> simp_all
theorem flt_cells {w : World} {fa : Option Addr} {fc : Nat} {flt : List (List UInt8)} (h : Own w 9 1 (.slice fa flt.length fc) flt.length (flt.map strV)) (hn : 0 < flt.length) : ∃ g, fa = some ⟨g, 0, none⟩ ∧ g < w.heap.size ∧ ∀ j, j < flt.length → w.cell? ⟨g, j, none⟩ = some (.string ⟨(flt.getD j []).toArray⟩) := by
  obtain ⟨g, c, he, _⟩ := own_some h hn
  simp only [Value.slice.injEq] at he
  obtain ⟨rfl, _, rfl⟩ := he
  refine ⟨g, rfl, own_lt h (k := g) rfl, fun j hj => ?_⟩
  rw [h.cellAt j (by omega), List.getElem?_map, List.getElem?_eq_getElem hj]
  simp [strV, hj]
theorem contains_call {w : World} {fa : Option Addr} {fc : Nat} {flt : List (List UInt8)} (h : Own w 9 1 (.slice fa flt.length fc) flt.length (flt.map strV)) (hn : 0 < flt.length) (hl : flt.length ≤ 100000) (nm : List UInt8) :
    Calls Tryz.prog 66 #[.slice fa flt.length fc, .string ⟨nm.toArray⟩] w fun e w' => e = .returned (.bool (flt.contains nm)) ∧ w' = w := by
  obtain ⟨g, rfl, _, hc⟩ := flt_cells h hn
  rw [← contains_flt]
  refine Tryz.slices_Contains_string g 0 flt.length fc (flt.map fun f => (⟨f.toArray⟩ : ByteArray)) ⟨nm.toArray⟩ w (by simp) (by omega) (fun j hj => ?_)
  rw [List.length_map] at hj
  rw [Nat.zero_add, hc j hj]
  simp [hj]

section
variable {S : Tr} {d : Nat → Nat} {N : Nat} {x : Wb} {r : Rc}
theorem cov_eq (h : x.target = r.target) : covB S d N x r = kindB x r := by unfold covB; simp [h]
theorem cov_no (h : x.target ≠ r.target) (hs : x.sub = false) : covB S d N x r = false := by unfold covB; simp [h, hs]
theorem cov_sub (h : x.target ≠ r.target) (hs : x.sub = true) : covB S d N x r = (contH S d N x.target r.target && kindB x r) := by
  have e : (x.target == r.target) = false := by simpa using h
  unfold covB
  rw [e, hs, Bool.false_or, Bool.true_and]
end

set_option maxRecDepth 100000 in
set_option maxHeartbeats 4000000 in
theorem covers_any {R : Nat} {S : Tr} {sv fv : Value} {N : Nat} {K : Nat → List Nat} {d : Nat → Nat} {w : World} (hD : Dc S K d N) (h : TAt 0 R S sv fv w) (x : Wt) (hx : ∃ i, i ≤ N ∧ x.target = S.hd i) (r : Rc) (hr : Good S N r) (hf : FltAt w x) (hl : x.flt.length ≤ 100000) :
    Calls Tryz.prog 28 #[.agg (encW x).toArray, .pointer (some ⟨R, 0, none⟩), .agg (encR r).toArray] w fun e w' => e = .returned (.bool (covB S d N x.bare r)) ∧ Below w.heap.size w w' := by
  obtain ⟨⟨j, hj, hjt⟩, hk⟩ := hr
  obtain ⟨i, hi, hit⟩ := hx
  obtain ⟨ni, hni⟩ := Option.isSome_iff_exists.1 (hD.used i (by rw [hD.len]; omega))
  obtain ⟨nj, hnj⟩ := Option.isSome_iff_exists.1 (hD.used j (by rw [hD.len]; omega))
  obtain ⟨g, cap, rfl⟩ := slots_some h (by rw [hD.len]; omega)
  obtain ⟨t, ki, at', da, su, ol, flt, fvv⟩ := x
  obtain ⟨kd, tg, nd, pr, nx, ix, nm, od, hd, ct, sz⟩ := r
  simp only at hjt hit hk hl
  have HC := Lib.hid (fun wx (hb : Below w.heap.size w wx) => contains_any (h.below hb) hD.lk i j ni nj hni hnj)
  rw [← contH_eq hD hi hj, ← hjt, ← hit] at HC
  change Own w 9 1 fvv flt.length (flt.map strV) at hf
  obtain ⟨fa, fc, rfl⟩ := own_shape hf
  have HF := Lib.hid (fun wx (hb : Below w.heap.size w wx) (hn : 0 < flt.length) => contains_call (own_below hf hb) hn hl nm)
  have HL := Lib.hid hl
  have hbx : Below w.heap.size w ((w.alloc (.cells #[.int .i64 t, .bool ki, .bool at', .bool da, .bool su, .bool ol, .slice fa flt.length fc] 58)).alloc (.cells #[.int .i64 kd, .int .i64 tg, .int .i64 nd, .int .i64 pr, .int .i64 nx, .int .i64 ix, .string ⟨nm.toArray⟩, .string ⟨od.toArray⟩, .bool hd, .int .i64 ct, .int .i64 sz] 86)) :=
    ((Below.refl _ _).alloc (Nat.le_refl _) _).alloc (by simp) _
  clear h hD hni hnj hf hl hit hjt
  simp only [encR, recC, strV, encW, Wt.bare]
  by_cases he : t = tg
  · rw [cov_eq (by exact he)]
    subst he
    rcases hk with rfl | rfl | rfl | rfl
    · go_enter Tryz.func28, Tryz.ntmps28
      go_wp2_with fail
      go_ret
      exact ⟨rfl, hbx⟩
    · go_enter Tryz.func28, Tryz.ntmps28
      go_wp2_with fail
      go_ret
      exact ⟨rfl, hbx⟩
    · cases at'
      · go_enter Tryz.func28, Tryz.ntmps28
        go_wp2_with fail
        go_ret
        exact ⟨rfl, hbx⟩
      · by_cases hz : flt = []
        · subst hz
          go_enter Tryz.func28, Tryz.ntmps28
          go_wp2_with fail
          go_ret
          exact ⟨rfl, hbx⟩
        · have hpos : 0 < flt.length := List.length_pos_iff.2 hz
          have hkb : kindB ⟨t, ki, true, da, su, ol, flt⟩ ⟨3, t, nd, pr, nx, ix, nm, od, hd, ct, sz⟩ = flt.contains nm := by simp [kindB, hz]
          rw [hkb]
          have e0 : ((flt.length : Int) == 0) = false := by simpa using hz
          have HP := Lib.hid hpos
          generalize flt.contains nm = fb at *
          clear hkb hz hpos
          go_enter Tryz.func28, Tryz.ntmps28
          go_wp2_with fail
          refine (HF.out _ hbx HP.out).mono ?_
          rintro e w2 ⟨rfl, hw⟩
          rw [hw]
          clear hw
          go_wp2_with fail
          go_ret
          exact ⟨rfl, hbx⟩
    · go_enter Tryz.func28, Tryz.ntmps28
      go_wp2_with fail
      go_ret
      exact ⟨rfl, hbx⟩
  · have e1 : (tg == t) = false := by simpa using fun e => he e.symm
    cases su
    · rw [cov_no (by exact he) (by rfl)]
      go_enter Tryz.func28, Tryz.ntmps28
      go_wp2_with fail
      go_ret
      exact ⟨rfl, hbx⟩
    · rw [cov_sub (by exact he) (by rfl)]
      generalize contH S d N t tg = cb at *
      cases cb
      · go_enter Tryz.func28, Tryz.ntmps28
        go_wp2_with fail
        refine (HC.out _ hbx).mono ?_
        rintro e w2 ⟨rfl, hb2⟩
        have hc0 := (bcell hb2).1
        go_wp2_with fail
        go_ret
        exact ⟨rfl, hbx.trans (hb2.mono hbx.size)⟩
      · rw [Bool.true_and]
        rcases hk with rfl | rfl | rfl | rfl
        · go_enter Tryz.func28, Tryz.ntmps28
          go_wp2_with fail
          refine (HC.out _ hbx).mono ?_
          rintro e w2 ⟨rfl, hb2⟩
          have hc0 := (bcell hb2).1
          go_wp2_with fail
          go_ret
          exact ⟨rfl, hbx.trans (hb2.mono hbx.size)⟩
        · go_enter Tryz.func28, Tryz.ntmps28
          go_wp2_with fail
          refine (HC.out _ hbx).mono ?_
          rintro e w2 ⟨rfl, hb2⟩
          have hc0 := (bcell hb2).1
          go_wp2_with fail
          go_ret
          exact ⟨rfl, hbx.trans (hb2.mono hbx.size)⟩
        · cases at'
          · go_enter Tryz.func28, Tryz.ntmps28
            go_wp2_with fail
            refine (HC.out _ hbx).mono ?_
            rintro e w2 ⟨rfl, hb2⟩
            have hc0 := (bcell hb2).1
            go_wp2_with fail
            go_ret
            exact ⟨rfl, hbx.trans (hb2.mono hbx.size)⟩
          · by_cases hz : flt = []
            · subst hz
              go_enter Tryz.func28, Tryz.ntmps28
              go_wp2_with fail
              refine (HC.out _ hbx).mono ?_
              rintro e w2 ⟨rfl, hb2⟩
              have hc0 := (bcell hb2).1
              go_wp2_with fail
              go_ret
              exact ⟨rfl, hbx.trans (hb2.mono hbx.size)⟩
            · have hpos : 0 < flt.length := List.length_pos_iff.2 hz
              have hkb : kindB ⟨t, ki, true, da, true, ol, flt⟩ ⟨3, tg, nd, pr, nx, ix, nm, od, hd, ct, sz⟩ = flt.contains nm := by simp [kindB, hz]
              rw [hkb]
              have e0 : ((flt.length : Int) == 0) = false := by simpa using hz
              have HP := Lib.hid hpos
              generalize flt.contains nm = fb at *
              clear hkb hz hpos
              go_enter Tryz.func28, Tryz.ntmps28
              go_wp2_with fail
              refine (HC.out _ hbx).mono ?_
              rintro e w2 ⟨rfl, hb2⟩
              have hc0 := (bcell hb2).1
              have hb3 := hbx.trans (hb2.mono hbx.size)
              go_wp2_with fail
              refine (HF.out _ hb3 HP.out).mono ?_
              rintro e w3 ⟨rfl, hw⟩
              rw [hw]
              clear hw
              go_wp2_with fail
              go_ret
              exact ⟨rfl, hb3⟩
        · go_enter Tryz.func28, Tryz.ntmps28
          go_wp2_with fail
          refine (HC.out _ hbx).mono ?_
          rintro e w2 ⟨rfl, hb2⟩
          have hc0 := (bcell hb2).1
          go_wp2_with fail
          go_ret
          exact ⟨rfl, hbx.trans (hb2.mono hbx.size)⟩
end Go.Proofs.YtfdofkokiaapoaaGreatDoor.W
end
