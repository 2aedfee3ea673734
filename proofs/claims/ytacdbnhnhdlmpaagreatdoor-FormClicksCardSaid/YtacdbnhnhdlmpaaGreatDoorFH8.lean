/- Texts joined: Grp Tou Fcs. -/
import Derived.Test.YtacdbnhnhdlmpaaGreatDoorFH7
import Derived.BigQuiet
set_option maxRecDepth 100000
set_option maxHeartbeats 40000000
set_option linter.unusedVariables false
set_option linter.unusedSimpArgs false
section
namespace Go.Proofs.YtacdbnhnhdlmpaaGreatDoor.W
open Go.RowKit
attribute [local go_sem] Oper.semAt_some
def VTw (h0 : Int) : List Value → Value → Prop
  | [], v => v = .int .i64 h0
  | _, v => VWk [] v
def FTw (R : Nat) (h0 : Int) (B : Nat) : List Value → World → Prop
  | [v, _], w' => FWk R h0 B [v] w'
  | _, _ => True
theorem ftw_below {R B : Nat} {h0 : Int} (k : List Value) (w1 w2 : World) (h : FTw R h0 B k w1) (hb : Below w1.heap.size w1 w2) : FTw R h0 B k w2 := by
  match k, h with
  | [], _ => trivial
  | [_], _ => trivial
  | [v, _], h => exact fwk_below [v] w1 w2 h hb
  | _ :: _ :: _ :: _, _ => trivial
section
variable {R : Nat} {S : Tr} {sv fv : Value} {w : World} {K : Nat → List Nat} {d : Nat → Nat}
set_option maxRecDepth 100000 in
set_option maxHeartbeats 16000000 in
theorem group_any (D : DcOk S K d) (h : TAt 0 R S sv fv w) (i : Nat) (n : Nd) (hi : S.at i = some n) :
    Calls Tryz.prog 77 #[.pointer (some ⟨R, 0, none⟩), .int .i64 (S.hd i)] w fun e w' => ∃ v, e = .returned v ∧ w'.ownsRow w.heap.size 3 1 v (grp S K d i n).length (hdC S (grp S K d i n)) ∧ Below w.heap.size w w' := by
  obtain ⟨g, cap, rfl⟩ := slots_some h (by have := at_lt hi; omega)
  have HAt := Lib.hid (fun (x : Nat) (nx : Nd) (hx : S.at x = some nx) (wx : World) (hb : Below w.heap.size w wx) => attr_at (h.below hb) D.lk x nx hx (D.al x nx hx) sName)
  have HKi := Lib.hid (fun (x : Nat) (nx : Nd) (hx : S.at x = some nx) (wx : World) (hb : Below w.heap.size w wx) => kind_any (h.below hb) D.lk x nx hx (D.al x nx hx))
  have HOw := Lib.hid (fun (x : Nat) (nx : Nd) (hx : S.at x = some nx) (wx : World) (hb : Below w.heap.size w wx) => owner_any (h.below hb) D.lk D.al D.nm x nx hx)
  have HTo := Lib.hid (fun (wx : World) (hb : Below w.heap.size w wx) => top_some (h.below hb) D.lk i n hi)
  rw [D.top _ i rfl (by rw [hi]; rfl)] at HTo
  have HT := Lib.hid (fun (wx : World) (hb : Below w.heap.size w wx) => h.below hb)
  obtain ⟨n0, hn0⟩ := Option.isSome_iff_exists.1 D.live0
  have HN0 := Lib.hid hn0
  have HD := Lib.hid D
  have HIs := Lib.hid (fun (x : Nat) (nx : Nd) (hx : S.at x = some nx) (ow : Int) (nm : List UInt8) => (show isR S d ow nm x = (kindN nx == 4 && hO S (ownI S d x) == ow && nmV nx == nm) from by unfold isR; rw [hx]))
  have hol := D.ord_len
  have HA1 := Lib.hid (HAt.out i n hi)
  have HO1 := Lib.hid (HOw.out i n hi)
  obtain ⟨gr, hgr⟩ : ∃ gr, grp S K d i n = gr := ⟨_, rfl⟩
  rw [hgr]
  unfold grp at hgr
  have hnm0 : nmV n = (attV n sName).getD [] := rfl
  rw [← hnm0] at HA1
  generalize nmV n = nm at *
  generalize hO S (ownI S d i) = ow at *
  have HGr := Lib.hid hgr
  clear hgr
  have k1 := Blk.new w [.pointer (some ⟨R, 0, none⟩)] 25
  have hb1 : Below w.heap.size w (w.alloc (.cells #[.pointer (some ⟨R, 0, none⟩)] 25)) := (Below.refl _ _).alloc (Nat.le_refl _) _
  have HK1 := Lib.hid k1
  have HB1 := Lib.hid hb1
  have c0 := k1.cell 0
  simp only [List.getElem?_cons_zero] at c0
  clear h hi hn0 k1 hb1 hnm0 D
  refine (callsIn_wide (n := 8)).1 ?_
  refine callsIn_of_wp_marks Tryz.func77 rfl trivial ?_ rfl
  simp only [Tryz.ntmps77, List.size_toArray, List.length_cons, List.length_nil, Nat.reduceAdd, Nat.reduceSub, Array.replicate_succ, Array.replicate_zero, List.push_toArray, List.append_toArray, List.nil_append, List.cons_append]
  refine wpIn_wide.2 ?_
  go_wp2_with fail
  refine (HA1.out _ HB1.out).mono ?_
  rintro e w2 ⟨rfl, hb2⟩
  have HB2 := Lib.hid (bthen HB1.out hb2)
  have HK2 := Lib.hid (HK1.out.below hb2)
  have kn := Blk.new w2 [.string ⟨nm.toArray⟩] 9
  have n0c := kn.cell 0
  simp only [List.getElem?_cons_zero] at n0c
  have HKn := Lib.hid kn
  clear hb2 HK1 c0 kn HA1
  by_cases hn : nm = []
  · have HG := Lib.hid (show gr = [i] from by rw [← HGr.out, if_pos hn])
    subst hn
    clear HGr
    go_wp2_with fail
    refine ⟨_, by simp [results, Tryz.f77, go_sem]; rfl, _, rfl, ?_, ?_⟩
    · rw [HG.out]
      have hz : (w2.alloc (.cells #[.string ⟨#[]⟩] 9)).heap.size = w2.heap.size + 1 := by simp
      have kz := Blk.new (w2.alloc (.cells #[.string ⟨#[]⟩] 9)) [.int .i64 (S.hd i)] 3
      rw [hz] at kz
      exact own_base' (own_at (n := 1) (size := 1) kz rfl (by omega)) (fun k hk => by cases hk; have := HB2.out.size; show w.heap.size ≤ w2.heap.size + 1; omega)
    · exact (HB2.out.alloc HB2.out.size _).alloc (by have := HB2.out.size; simp; omega) _
  · have HG := Lib.hid (show gr = (ord K d).filter (isR S d ow nm) from by rw [← HGr.out, if_neg hn])
    have e0 : (nm == []) = false := beqF hn
    have hb3 := HB2.out.alloc HB2.out.size (.cells #[.string ⟨nm.toArray⟩] 9)
    have HB3 := Lib.hid hb3
    have HO3 := Lib.hid (HO1.out _ hb3)
    have kt := HK2.out.alloc (.cells #[.string ⟨nm.toArray⟩] 9)
    have c0 := kt.cell 0
    simp only [List.getElem?_cons_zero] at c0
    have HKt := Lib.hid kt
    clear hn hb3 kt HO1 HGr
    go_wp2_with fail
    refine HO3.out.mono ?_
    rintro e w3 ⟨rfl, hb3⟩
    have HB4 := Lib.hid ((bthen HB3.out hb3).alloc (bthen HB3.out hb3).size (.cells #[.int .i64 ow] 3))
    have HKt4 := Lib.hid ((HKt.out.below hb3).alloc (.cells #[.int .i64 ow] 3))
    have HKn4 := Lib.hid ((HKn.out.below hb3).alloc (.cells #[.int .i64 ow] 3))
    have HKo4 := Lib.hid (Blk.new w3 [.int .i64 ow] 3)
    clear hb3 HB3 HKt HKn HO3 c0 n0c HB2 HK2 HB1
    go_upto_region 6 with fail
    have hs4 : w3.heap.size + 1 = (w3.alloc (.cells #[.int .i64 ow] 3)).heap.size := by simp
    generalize w3.alloc (.cells #[.int .i64 ow] 3) = w4 at *
    rw [hs4]
    clear hs4
    have ko := HKo4.out
    have hol3 := HKo4.out.lt
    have kb5 := Blk.new w4 [.slice none 0 0] 60
    have hb5 : Below w4.heap.size w4 (w4.alloc (.cells #[.slice none 0 0] 60)) := (Below.refl _ _).alloc (Nat.le_refl _) _
    generalize hw5 : w4.alloc (.cells #[.slice none 0 0] 60) = w5 at *
    have hs5 : w5.heap.size = w4.heap.size + 1 := by rw [← hw5]; simp
    have HB5 := Lib.hid hb5
    have HKb5 := Lib.hid kb5
    have hne := stb_ne w5
    have y0 := fun (x : InS (StB w5)) => (HKt4.out.below (bthen HB5.out x.h)).cell 0
    simp only [List.getElem?_cons_zero] at y0
    clear ko kb5 hb5 hw5
    refine reg_f (FTw R (S.hd 0) w5.heap.size) (fun k v => VTw (S.hd 0) k v) 5 (by kernel_rfl) (by kernel_rfl) ftw_below trivial ?_
    simp only [List.take_succ_cons, List.take_zero, List.drop_succ_cons, List.drop_zero]
    repeat (first
      | (refine RV.m_held (by rfl) (by rfl) (fun K hK => ?_); go_big_quiet_step (fail); refine wpQuiet_nil ?_; refine hK.out _ ?_; clear hK K)
      | (refine RV.m_skip (by rfl) ?_; simp only [Act.put, List.setIfInBounds_toArray, List.set_cons_zero, List.set_cons_succ]))
    refine RV.m_call (by rfl) (by rfl) (fun w => by go_simp; exact ⟨rfl, rfl⟩) (⟨_, rfl⟩) (fun X wx hx => ?_) (fun v hv => ?_)
    · refine (HTo.out wx (bthen HB4.out (bthen HB5.out hx.1))).mono ?_
      rintro e wy ⟨rfl, hb⟩
      exact ⟨_, rfl, rfl, bthen hx.1 hb, trivial⟩
    obtain rfl : v = .int .i64 (S.hd 0) := hv
    simp only [Act.put, List.setIfInBounds_toArray, List.set_cons_zero, List.set_cons_succ]
    repeat (first
      | (refine RV.m_held (by rfl) (by rfl) (fun K hK => ?_); go_big_quiet_step (fail); refine wpQuiet_nil ?_; refine hK.out _ ?_; clear hK K)
      | (refine RV.m_skip (by rfl) ?_; simp only [Act.put, List.setIfInBounds_toArray, List.set_cons_zero, List.set_cons_succ]))
    refine RV.m_call (by rfl) (by rfl) (fun w => by go_simp; exact ⟨rfl, rfl⟩) (⟨_, 0, rfl⟩) (fun X wx hx => ?_) (fun v hv => ?_)
    · refine (walk_any R (S.hd 0) wx).mono ?_
      rintro e wy ⟨rfl, hw⟩
      have hbw : Below wx.heap.size wx wy := by rw [hw]; exact ((Below.refl _ _).alloc (Nat.le_refl _) _).alloc (by simp) _
      refine ⟨_, rfl, ⟨_, rfl⟩, bthen hx.1 hbw, fun m e => ?_⟩
      have em : m = wx.heap.size := by simp at e; omega
      subst em
      refine ⟨hx.1.size, ?_, ?_⟩
      · rw [hw]; exact (Blk.new wx [.pointer (some ⟨R, 0, none⟩)] 25).alloc _
      · have k2 := Blk.new (wx.alloc (.cells #[.pointer (some ⟨R, 0, none⟩)] 25)) [.int .i64 (S.hd 0)] 3
        rw [show (wx.alloc (.cells #[.pointer (some ⟨R, 0, none⟩)] 25)).heap.size = wx.heap.size + 1 by simp] at k2
        rw [hw]; exact k2
    obtain ⟨mw, rfl⟩ := hv
    simp only [Act.put, List.setIfInBounds_toArray, List.set_cons_zero, List.set_cons_succ]
    repeat (first
      | (refine RV.m_held (by rfl) (by rfl) (fun K hK => ?_); go_big_quiet_step (fail); refine wpQuiet_nil ?_; refine hK.out _ ?_; clear hK K)
      | (refine RV.m_skip (by rfl) ?_; simp only [Act.put, List.setIfInBounds_toArray, List.set_cons_zero, List.set_cons_succ]))
    refine RV.m_nil ?_
    intro w6 hb6 hF6
    obtain ⟨hm1, hBs, hBh⟩ := hF6 mw rfl
    have hb6 : Below w5.heap.size w5 w6 := hb6
    have hI := colP_start (S := S) (p := isR S d ow nm) (HKb5.out.below hb6) (bthen HB5.out hb6)
    have HI := Lib.hid hI
    have HSq := Lib.hid (fun m => walk1_l (n := m) (HT.out _ HB4.out) HD.out.lk n0 HN0.out (colP_wki hI) hBs hBh)
    have hs6 := hb6.size
    clear y0 hne hb6 hF6 hBs hBh hI HTo
    go_wp2_with fail
    refine (wpIn_wide (n := 8)).1 ?_
    refine rangeFunc_put (α := Sl S) (fun x a => { tmps := (a.tmps.setIfInBounds 30 (.int .i64 (S.hd x.1))).setIfInBounds 9 (.int .i64 (S.hd x.1)), defers := [] }) (by omega) (gf := 136) (lb := #[.pointer (some ⟨mw, 0, none⟩), .pointer (some ⟨mw + 1, 0, none⟩)]) rfl (enters_of Tryz.func136 (by kernel_rfl) rfl) (HSq.out 7) KpS.trans (fun W l o o' hl h hc _ => KpS.put2 l o o' h hc (by omega)) (fun _ => rfl)
      (fun pre W => ColP S (isR S d ow nm) w4 pre W) (fun c pre W => False) ?own (fun _ _ _ _ _ hs _ _ => hs) HI.out ?assign ?body ?done ?stop
    case own =>
      intro pre W W' row hI hg hr
      exact colP_own hI hg (fun k e => ⟨by have := (hr k e).1; omega, (hr k e).2⟩)
    case assign =>
      intro l x W K hK
      gi_wp2
      exact hK
    case stop =>
      intro D c pre W hD hs hx
      cases hx
    case body =>
      rintro l' pre ⟨x, hxs⟩ W hI hlt'
      obtain ⟨nx, hnx⟩ := Option.isSome_iff_exists.1 hxs
      have hbW : Below w4.heap.size w4 W := by obtain ⟨_, _, _, h⟩ := hI; exact h
      have hbw := bthen HB4.out hbW
      have HKx := Lib.hid (fun wx (hb : Below W.heap.size W wx) => HKi.out x nx hnx wx (bthen hbw hb))
      have HOx := Lib.hid (fun wx (hb : Below W.heap.size W wx) => HOw.out x nx hnx wx (bthen hbw hb))
      have HAx := Lib.hid (fun wx (hb : Below W.heap.size W wx) => HAt.out x nx hnx wx (bthen hbw hb))
      have hisr := HIs.out x nx hnx ow nm
      have hnmx : (attV nx sName).getD [] = nmV nx := rfl
      rw [hnmx] at HAx
      have ct := (HKt4.out.below hbW).cell 0
      have cn := (HKn4.out.below hbW).cell 0
      have co := (HKo4.out.below hbW).cell 0
      simp only [List.getElem?_cons_zero] at ct cn co
      have HI := Lib.hid hI
      have HIr := Lib.hid hisr
      have HBW := Lib.hid hbW
      generalize nmV nx = nmx at *
      generalize hO S (ownI S d x) = owx at *
      generalize kindN nx = kx at *
      have hbl := colP_lt hI
      have hne := stb_ne W
      have y0 := fun (q : InS (StB W)) => cell_keep q.h ct
      have y1 := fun (q : InS (StB W)) => cell_keep q.h co
      clear hI hbW hbw hisr hnmx HKt4 HKn4 HKo4 HSq
      simp only [List.setIfInBounds_toArray, List.set_cons_zero, List.set_cons_succ]
      refine wpIn_block (wpIn_seq (wpIn_seq ?_))
      by_cases h4 : kx = 4
      · have e4 : ((kx : Int) != 4) = false := by simp [h4]
        by_cases h5 : owx = ow
        · have e5 : (owx != ow) = false := by simp [h5]
          refine reg_fX (fun _ _ => True) (fun k v => match k with | [] => v = .int .i64 (kx : Int) | _ => v = .int .i64 owx) 11 (by kernel_rfl) (by kernel_rfl) (by kernel_rfl) (fun _ _ _ _ _ => trivial) trivial ?_
          simp only [List.take_succ_cons, List.take_zero, List.drop_succ_cons, List.drop_zero]
          repeat (first
            | (refine RZ.m_held (by rfl) (by rfl) (fun K hK => ?_); go_big_quiet_step (fail); refine wpQuiet_nil ?_; refine hK.out _ ?_; clear hK K)
            | (refine RZ.m_skip (by rfl) ?_; simp only [Act.put, List.setIfInBounds_toArray, List.set_cons_zero, List.set_cons_succ]))
          refine RZ.m_call (by rfl) (by rfl) (fun w => by go_simp; exact ⟨rfl, rfl⟩) (⟨_, rfl⟩) (fun X wx hx => ?_) (fun v hv => ?_)
          · refine (HKx.out _ hx.1).mono ?_
            rintro e wy ⟨rfl, hb⟩
            exact ⟨_, rfl, rfl, bthen hx.1 hb, trivial⟩
          obtain rfl : v = .int .i64 (kx : Int) := hv
          simp only [Act.put, List.setIfInBounds_toArray, List.set_cons_zero, List.set_cons_succ]
          repeat (first
            | (refine RZ.m_held (by rfl) (by rfl) (fun K hK => ?_); go_big_quiet_step (fail); refine wpQuiet_nil ?_; refine hK.out _ ?_; clear hK K)
            | (refine RZ.m_skip (by rfl) ?_; simp only [Act.put, List.setIfInBounds_toArray, List.set_cons_zero, List.set_cons_succ]))
          refine RZ.m_call (by rfl) (by rfl) (fun w => by go_simp; exact ⟨rfl, rfl⟩) (⟨_, rfl⟩) (fun X wx hx => ?_) (fun v hv => ?_)
          · refine (HOx.out _ hx.1).mono ?_
            rintro e wy ⟨rfl, hb⟩
            exact ⟨_, rfl, rfl, bthen hx.1 hb, trivial⟩
          obtain rfl : v = .int .i64 owx := hv
          simp only [Act.put, List.setIfInBounds_toArray, List.set_cons_zero, List.set_cons_succ]
          repeat (first
            | (refine RZ.m_held (by rfl) (by rfl) (fun K hK => ?_); go_big_quiet_step (fail); refine wpQuiet_nil ?_; refine hK.out _ ?_; clear hK K)
            | (refine RZ.m_skip (by rfl) ?_; simp only [Act.put, List.setIfInBounds_toArray, List.set_cons_zero, List.set_cons_succ]))
          refine RZ.m_nil ?_
          intro w7 hb7 _
          have hb7 : Below W.heap.size W w7 := hb7
          have HA7 := Lib.hid (HAx.out _ hb7)
          have ct7 := cell_keep hb7 ct
          have cn7 := cell_keep hb7 cn
          have Hb7 := Lib.hid hb7
          clear y0 y1 hne hb7 HKx HOx HAx ct cn co
          gi_wp2_with fail
          refine ⟨trivial, (CallsIn.inRound l' (callsIn_wide.2 HA7.out)).mono ?_⟩
          rintro e w8 ⟨rfl, hb8⟩
          have cn8 := cell_keep hb8 cn7
          have hbz := bthen Hb7.out hb8
          have Hbz := Lib.hid hbz
          have hI8 := colP_below HI.out hbz
          clear hb8 hbz HA7 ct7 cn7 Hb7
          by_cases h6 : nmx = nm
          · have e6 : (nmx == nm) = true := beqT h6
            have HP := Lib.hid (show isR S d ow nm x = true from by rw [HIr.out]; simp [h4, h5, h6])
            clear h4 h5 h6 e4 e5
            have hpl : ((pre.map (fun y => y.1)).filter (isR S d ow nm)).length ≤ 100 := by
              have := List.length_filter_le (isR S d ow nm) (pre.map (fun y => y.1))
              have h2 := wlk_len HD.out.lk (128 - d 0) 0 HD.out.live0
              have h3 := HD.out.len
              rw [List.length_map] at this
              omega
            obtain ⟨v, hbx, ho, hB⟩ := hI8
            obtain ⟨va, vc, rfl⟩ := own_shapeB ho
            have HO := Lib.hid ho
            have HBx := Lib.hid hbx
            have HB := Lib.hid hB
            have hbl8 := hbx.lt
            have d0 := hbx.cell 0
            have g0 := hbx.free 0
            simp only [List.getElem?_cons_zero] at d0
            have hfs := filter_snoc (isR S d ow nm) (pre.map (fun y => y.1)) x
            rw [if_pos HP.out] at hfs
            have HFs := Lib.hid (show ((pre ++ [(⟨x, hxs⟩ : Sl S)]).map (fun y => y.1)).filter (isR S d ow nm) = (pre.map (fun y => y.1)).filter (isR S d ow nm) ++ [x] from by rw [List.map_append, List.map_singleton]; exact hfs)
            generalize (pre.map (fun y => y.1)).filter (isR S d ow nm) = fl at *
            have hb9 : Below w8.heap.size w8 (w8.alloc (.cells #[.int .i64 (S.hd x)] 3)) := (Below.refl _ _).alloc (Nat.le_refl _) _
            have HB9 := Lib.hid hb9
            have hsz8 := HB.out.size
            clear hbx ho hB hb9 hfs
            gi_wp2_with (first
              | (gi_at_builtin; refine wpListIn_append_B etI (own_keepB HO.out HB9.out) (by simp; omega) (own_at (n := 1) (size := 1) (Blk.new w8 [.int .i64 (S.hd x)] 3) rfl (by omega)) (by intro u hu; simp at hu; subst hu; rfl) (by omega) (by omega) rfl _ _ rfl rfl rfl ?_; intro v' w10 ho2 hg2 hv2;
                  obtain ⟨va', vc', rfl⟩ := own_shapeB ho2; have kb2 := (Blk.below HBx.out HB9.out).kept (hg2.block w4.heap.size (by simp; omega) (fun e => by
                    obtain ⟨cur, hc⟩ := own_ty HO.out e.symm
                    exact blk_ne hc HBx.out (by decide) rfl));
                  have d1 := kb2.cell 0; have e1 := kb2.free 0; simp only [List.getElem?_cons_zero] at d1; have HO2 := Lib.hid ho2; have HG2 := Lib.hid hg2; have HV2 := Lib.hid hv2; have HK2b := Lib.hid kb2; clear ho2 hg2 hv2 kb2)
              | gi_in)
            have hO1 := own_keepB HO.out HB9.out
            have hg := HG2.out
            have hw9 : (w8.alloc (.cells #[.int .i64 (S.hd x)] 3)).heap.size = w8.heap.size + 1 := by simp
            have kb3 := HK2b.out.set 0 (.slice va' (fl.length + 1) vc')
            simp only [List.set_cons_zero] at kb3
            have e1 : slB w4.heap.size w8 = (Value.slice va fl.length vc).ownBlock := by unfold slB; rw [d0]; rfl
            have e3 : slB w4.heap.size (w10.setCell ⟨w4.heap.size, 0, none⟩ (.slice va' (fl.length + 1) vc')) = (Value.slice va' (fl.length + 1) vc').ownBlock := by
              unfold slB
              have := kb3.cell 0
              simp only [List.getElem?_cons_zero] at this
              rw [this]; rfl
            have hne2 : ∀ k, (Value.slice va' (fl.length + 1) vc').ownBlock = some k → k ≠ w4.heap.size := fun k hk e => by
              obtain ⟨cur, hc⟩ := own_ty HO2.out hk
              subst e
              exact blk_ne hc HK2b.out (by decide) rfl
            refine ⟨(keeps_below Hbz.out).trans ((keeps_below HB9.out).trans (KeepsOthers.trans ⟨hg.size, fun k o hk ho => (hg.block k (Array.getElem?_eq_some_iff.1 hk).1 (fun e => by
              obtain ⟨cur, hc⟩ := own_ty hO1 e.symm
              rw [hc] at hk; cases hk; cases ho)).trans hk⟩ (KeepsOthers.setCell _ _ _))), (KpS.below hbl Hbz.out).trans ⟨?_, ?_, ?_⟩, ?_⟩
            · have := hg.size
              simp only [World.setCell, Array.size_modify]
              omega
            · intro k cs t fr hk h1 h2
              rw [e1] at h2
              have hkl := (Array.getElem?_eq_some_iff.1 hk).1
              exact (Below.heap_setCell _ _ _ _ h1).trans ((hg.block k (by omega) (fun e => h2 e.symm)).trans ((HB9.out.block k hkl).trans hk))
            · rw [e1, e3]
              rcases HV2.out with e | e
              · exact .inl e
              · refine .inr (fun k hk => ?_)
                rw [e] at hk
                cases hk
                refine ⟨by omega, ?_⟩
                have := (HO2.out.lt _ e).2
                simpa [World.setCell] using this
            · refine ⟨.slice va' (fl.length + 1) vc', kb3, ?_, ?_⟩
              · rw [HFs.out, show (fl ++ [x]).length = fl.length + 1 by simp, ← hdC_app]
                exact own_kB HO2.out (fun k hk => Below.heap_setCell _ _ _ _ (hne2 k hk))
              · exact ((HB.out.alloc HB.out.size (.cells #[.int .i64 (S.hd x)] 3)).grown hg (by have := HB.out.size; omega) (fun k e => (hO1.lt k e).1)).setCell (p := ⟨w4.heap.size, 0, none⟩) (Nat.le_refl _) _
          · have e6 : (nmx == nm) = false := beqF h6
            have HP := Lib.hid (show isR S d ow nm x = false from by rw [HIr.out]; simp [h6])
            have HI8 := Lib.hid hI8
            clear h4 h5 h6 e4 e5 hI8
            gi_wp2_with fail
            exact ⟨keeps_below Hbz.out, KpS.below hbl Hbz.out, colP_no HI8.out HP.out⟩
        · have e5 : (owx != ow) = true := by simpa using h5
          refine reg_fX (fun _ _ => True) (fun k v => match k with | [] => v = .int .i64 (kx : Int) | _ => v = .int .i64 owx) 11 (by kernel_rfl) (by kernel_rfl) (by kernel_rfl) (fun _ _ _ _ _ => trivial) trivial ?_
          simp only [List.take_succ_cons, List.take_zero, List.drop_succ_cons, List.drop_zero]
          repeat (first
            | (refine RZ.m_held (by rfl) (by rfl) (fun K hK => ?_); go_big_quiet_step (fail); refine wpQuiet_nil ?_; refine hK.out _ ?_; clear hK K)
            | (refine RZ.m_skip (by rfl) ?_; simp only [Act.put, List.setIfInBounds_toArray, List.set_cons_zero, List.set_cons_succ]))
          refine RZ.m_call (by rfl) (by rfl) (fun w => by go_simp; exact ⟨rfl, rfl⟩) (⟨_, rfl⟩) (fun X wx hx => ?_) (fun v hv => ?_)
          · refine (HKx.out _ hx.1).mono ?_
            rintro e wy ⟨rfl, hb⟩
            exact ⟨_, rfl, rfl, bthen hx.1 hb, trivial⟩
          obtain rfl : v = .int .i64 (kx : Int) := hv
          simp only [Act.put, List.setIfInBounds_toArray, List.set_cons_zero, List.set_cons_succ]
          repeat (first
            | (refine RZ.m_held (by rfl) (by rfl) (fun K hK => ?_); go_big_quiet_step (fail); refine wpQuiet_nil ?_; refine hK.out _ ?_; clear hK K)
            | (refine RZ.m_skip (by rfl) ?_; simp only [Act.put, List.setIfInBounds_toArray, List.set_cons_zero, List.set_cons_succ]))
          refine RZ.m_call (by rfl) (by rfl) (fun w => by go_simp; exact ⟨rfl, rfl⟩) (⟨_, rfl⟩) (fun X wx hx => ?_) (fun v hv => ?_)
          · refine (HOx.out _ hx.1).mono ?_
            rintro e wy ⟨rfl, hb⟩
            exact ⟨_, rfl, rfl, bthen hx.1 hb, trivial⟩
          obtain rfl : v = .int .i64 owx := hv
          simp only [Act.put, List.setIfInBounds_toArray, List.set_cons_zero, List.set_cons_succ]
          repeat (first
            | (refine RZ.m_held (by rfl) (by rfl) (fun K hK => ?_); go_big_quiet_step (fail); refine wpQuiet_nil ?_; refine hK.out _ ?_; clear hK K)
            | (refine RZ.m_skip (by rfl) ?_; simp only [Act.put, List.setIfInBounds_toArray, List.set_cons_zero, List.set_cons_succ]))
          refine RZ.m_nil ?_
          intro w7 hb7 _
          have Hb7 := Lib.hid (show Below W.heap.size W w7 from hb7)
          have HP := Lib.hid (show isR S d ow nm x = false from by rw [HIr.out]; simp [h5])
          clear y0 y1 hne hb7 HKx HOx HAx ct cn co h4 h5
          gi_wp2_with fail
          exact ⟨keeps_below Hb7.out, KpS.below hbl Hb7.out, colP_no (colP_below HI.out Hb7.out) HP.out⟩
      · have e4 : ((kx : Int) != 4) = true := by simp; omega
        refine reg_fX (fun _ _ => True) (fun k v => v = .int .i64 (kx : Int)) 11 (by kernel_rfl) (by kernel_rfl) (by kernel_rfl) (fun _ _ _ _ _ => trivial) trivial ?_
        simp only [List.take_succ_cons, List.take_zero, List.drop_succ_cons, List.drop_zero]
        repeat (first
          | (refine RZ.m_held (by rfl) (by rfl) (fun K hK => ?_); go_big_quiet_step (fail); refine wpQuiet_nil ?_; refine hK.out _ ?_; clear hK K)
          | (refine RZ.m_skip (by rfl) ?_; simp only [Act.put, List.setIfInBounds_toArray, List.set_cons_zero, List.set_cons_succ]))
        refine RZ.m_call (by rfl) (by rfl) (fun w => by go_simp; exact ⟨rfl, rfl⟩) (⟨_, rfl⟩) (fun X wx hx => ?_) (fun v hv => ?_)
        · refine (HKx.out _ hx.1).mono ?_
          rintro e wy ⟨rfl, hb⟩
          exact ⟨_, rfl, rfl, bthen hx.1 hb, trivial⟩
        obtain rfl : v = .int .i64 (kx : Int) := hv
        simp only [Act.put, List.setIfInBounds_toArray, List.set_cons_zero, List.set_cons_succ]
        repeat (first
          | (refine RZ.m_held (by rfl) (by rfl) (fun K hK => ?_); go_big_quiet_step (fail); refine wpQuiet_nil ?_; refine hK.out _ ?_; clear hK K)
          | (refine RZ.m_skip (by rfl) ?_; simp only [Act.put, List.setIfInBounds_toArray, List.set_cons_zero, List.set_cons_succ]))
        refine RZ.m_nil ?_
        intro w7 hb7 _
        have Hb7 := Lib.hid (show Below W.heap.size W w7 from hb7)
        have HP := Lib.hid (show isR S d ow nm x = false from by rw [HIr.out, show (kx == 4) = false by simpa using h4]; rfl)
        clear y0 y1 hne hb7 HKx HOx HAx ct cn co h4
        gi_wp2_with fail
        exact ⟨keeps_below Hb7.out, KpS.below hbl Hb7.out, colP_no (colP_below HI.out Hb7.out) HP.out⟩
    case done =>
      rintro Dn ys W hDn hys hI hK
      obtain ⟨v, hbx, ho, hB⟩ := hI
      rw [hys] at ho
      obtain ⟨va, vc, rfl⟩ := own_shapeB ho
      have d0 := hbx.cell 0
      simp only [List.getElem?_cons_zero] at d0
      have HO := Lib.hid ho
      have HB := Lib.hid hB
      have HKD := Lib.hid hK
      have hDl : Dn < W.heap.size := (Array.getElem?_eq_some_iff.1 hK).1
      have hsz := hB.size
      have HGo := Lib.hid (show gr = (wlk K (128 - d 0) 0).filter (isR S d ow nm) from HG.out)
      clear hbx ho hB hK HSq HG hys
      go_wp2_with fail
      refine one_mark HKD.out ?_
      refine ⟨.slice va ((wlk K (128 - d 0) 0).filter (isR S d ow nm)).length vc, ?_, .slice va ((wlk K (128 - d 0) 0).filter (isR S d ow nm)).length vc, rfl, ?_, below_put _ (bthen HB4.out HB.out) (by have := HB4.out.size; omega) hDl⟩
      · simp [results, Tryz.f77, go_sem]
      · rw [HGo.out]
        refine own_low (own_kB HO.out (fun k hk => World.putObj_heap_other (fun e => ?_))) HB4.out.size
        obtain ⟨cur, hc⟩ := own_ty HO.out hk
        rw [e, HKD.out] at hc
        cases hc
end
end Go.Proofs.YtacdbnhnhdlmpaaGreatDoor.W
end
section
namespace Go.Proofs.YtacdbnhnhdlmpaaGreatDoor.W
open Go.RowKit
set_option maxRecDepth 100000 in
set_option maxHeartbeats 4000000 in
theorem touch_any {B : Nat} {w0 w : World} {Q : Nat} {fa : Value} {foc : Int} {X : List FX} {l : List Ob} (h : All B w0 (fsL Q fa foc X ++ l) w) (hd : Int) (on : Bool) (hl : X.length ≤ 100000) :
    Calls Tryz.prog 76 #[.pointer (some ⟨Q, 0, none⟩), .int .i64 hd, .bool on] w fun e w' => e = .returned (.tuple #[]) ∧ ∃ fa', All B w0 (fsL Q fa' foc (touX X hd on) ++ l) w' := by
  have HFi := Lib.hid (field_any h hd hl)
  clear h
  have hi := up_at X hd (getX X hd)
  have hset : ∀ y z, (upX X hd z).set (idxX X hd) y = upX X hd y := fun y z => up_set X hd z y
  have hat : ∀ y, (upX X hd y)[idxX X hd]? = some y := fun y => up_at X hd y
  have hlen : ∀ y, (upX X hd y).length = (upX X hd (getX X hd)).length := fun y => by rw [← hset y (getX X hd), List.length_set]
  unfold touX
  generalize getX X hd = x at *
  go_enter Tryz.func76, Tryz.ntmps76
  go_wp2_with fail
  refine HFi.out.mono ?_
  rintro e w1 ⟨g, cap, rfl, hA⟩
  obtain ⟨c3, f3⟩ := st_cell hA hi (j := 3) (by omega)
  obtain ⟨c4, f4⟩ := st_cell hA hi (j := 4) (by omega)
  rw [show (fxC x)[3]? = some (.bool x.touched) from rfl] at c3
  rw [show (fxC x)[4]? = some (.bool x.checked) from rfl] at c4
  have hA2 := fs_set hA rfl hi { x with touched := true } 3 (.bool true) (by omega) (by rfl)
  rw [hset] at hA2
  have hA3 := fs_set hA2 (hlen _).symm (hat _) (toX x on) 4 (.bool on) (by omega) (by rfl)
  rw [hset] at hA3
  have HA := Lib.hid hA3
  clear hA hA2 hA3 hi hat hset hlen HFi
  go_wp2_with fail
  go_end0
  exact ⟨rfl, _, HA.out⟩
end Go.Proofs.YtacdbnhnhdlmpaaGreatDoor.W
end
section
namespace Go.Proofs.YtacdbnhnhdlmpaaGreatDoor.W
open Go.RowKit
def sDisabled : List UInt8 := [100, 105, 115, 97, 98, 108, 101, 100]
theorem focusable_fd {B R : Nat} {S : Tr} {sv fv : Value} {w : World} {K d} (h : TAt B R S sv fv w) (hL : Lk S K d) (i : Nat) (n : Nd) (hi : S.at i = some n) (hl : n.attrs.length ≤ 1000) (hk : kindN n = 1 ∨ kindN n = 2) (hd : attV n sDisabled = none) :
    Calls Tryz.prog 98 #[.pointer (some ⟨R, 0, none⟩), .int .i64 (S.hd i)] w fun e w' => e = .returned (.bool true) ∧ Below w.heap.size w w' := by
  have HN := Lib.hid (node_some h (S.hd i) (hd_ok hL hi).1 (hd_ix hL hi) (at_slot hi) hl)
  have HK := Lib.hid (fun wx (hb : Below w.heap.size w wx) => kind_any (h.below hb) hL i n hi hl)
  have HH := Lib.hid (fun wx (hb : Below w.heap.size w wx) => has_any (h.below hb) hL i n hi hl sDisabled)
  rw [hd] at HH
  simp only [Option.isSome_none] at HH
  generalize kindN n = k at *
  obtain ⟨nk, nm, nav, nal, nda, np, nf, nl, npv, nx⟩ := n
  simp only at HN hl
  have e0 : ((k : Int) != 0) = true := by simp; omega
  have e5 : ((k : Int) != 5) = true := by simp; omega
  clear h hi hd hk
  go_enter Tryz.func98, Tryz.ntmps98
  go_wp2_with fail
  refine HN.out.mono ?_
  rintro e w1 ⟨v', rfl, ho, hb1⟩
  obtain ⟨va, vc, rfl⟩ := own_shapeB ho
  clear ho
  simp only [ndC, strV]
  have hb2 := hb1.alloc hb1.size (.cells #[.int .i64 nk, .string ⟨nm.toArray⟩, .slice va nal.length vc, .string ⟨nda.toArray⟩, .int .i64 np, .int .i64 nf, .int .i64 nl, .int .i64 npv, .int .i64 nx] 135)
  clear hb1
  go_wp2_with fail
  refine (HK.out _ hb2).mono ?_
  rintro e w2 ⟨rfl, hb3⟩
  have hb4 := bthen hb2 hb3
  clear hb3 hb2
  go_wp2_with fail
  refine (HH.out _ hb4).mono ?_
  rintro e w3 ⟨rfl, hb5⟩
  have HB := Lib.hid (bthen hb4 hb5)
  clear hb4 hb5
  go_wp2_with fail
  go_ret
  exact ⟨rfl, HB.out⟩
end Go.Proofs.YtacdbnhnhdlmpaaGreatDoor.W
end
