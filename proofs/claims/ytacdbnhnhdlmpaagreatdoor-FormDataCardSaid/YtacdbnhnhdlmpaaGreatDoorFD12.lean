/- Texts joined: SdA. -/
import Derived.Test.YtacdbnhnhdlmpaaGreatDoorFD11
import Derived.LoopTactic
import Derived.RegionTactic
set_option maxRecDepth 100000
set_option maxHeartbeats 40000000
set_option linter.unusedVariables false
set_option linter.unusedSimpArgs false
section
namespace Go.Proofs.YtacdbnhnhdlmpaaGreatDoor.W
open Go.RowKit
section
variable {B R : Nat} {S : Tr} {sv fv : Value} {w : World} {K : Nat → List Nat} {d : Nat → Nat}
set_option maxRecDepth 100000 in
set_option maxHeartbeats 32000000 in
theorem sdata_any (D : DcOk S K d) (h : TAt B R S sv fv w) {va vb : Value} {M : List (Int × Bool)} (hm : MkAt w va vb M) (hl : M.length ≤ 100000) (i : Nat) (n : Nd) (hi : S.at i = some n) (by_ : Int) :
    Calls Tryz.prog 43 #[.pointer (some ⟨R, 0, none⟩), .agg #[va, vb], .int .i64 (S.hd i), .int .i64 by_] w fun e w' => ∃ v, e = .returned v ∧ w'.ownsRow w.heap.size 85 2 v ((ord K d).filter (dtP S d (fun x => chkd (gH S K d) (rdH S) (atH S) (lastM M) (S.hd x)) (S.hd i) by_)).length (attrC (((ord K d).filter (dtP S d (fun x => chkd (gH S K d) (rdH S) (atH S) (lastM M) (S.hd x)) (S.hd i) by_)).map (dtA S K d))) ∧ Below w.heap.size w w' := by
  obtain ⟨aa, ac, rfl⟩ := own_shapeB hm.nodes
  obtain ⟨ba, bc, rfl⟩ := own_shapeB hm.on
  obtain ⟨ck, hck⟩ : ∃ ck : Nat → Bool, (fun x => chkd (gH S K d) (rdH S) (atH S) (lastM M) (S.hd x)) = ck := ⟨_, rfl⟩
  rw [hck]
  have hckx : ∀ x, chkd (gH S K d) (rdH S) (atH S) (lastM M) (S.hd x) = ck x := fun x => by rw [← hck]
  have HKi := Lib.hid (fun (x : Nat) (nx : Nd) (hx : S.at x = some nx) (wx : World) (hb : Below w.heap.size w wx) => skind_any (h.below hb) D.lk x nx hx (D.al x nx hx) (D.nm x nx hx))
  have HSa := Lib.hid (fun (x : Nat) (nx : Nd) (hx : S.at x = some nx) (ky : List UInt8) (wx : World) (hb : Below w.heap.size w wx) => sattr_any (h.below hb) D.lk x nx hx (D.al x nx hx) ky)
  have HAv := Lib.hid (fun (x : Nat) (nx : Nd) (hx : S.at x = some nx) (ky : List UInt8) => D.attL hx ky)
  have HOw := Lib.hid (fun (x : Nat) (nx : Nd) (hx : S.at x = some nx) (wx : World) (hb : Below w.heap.size w wx) => sowner_any (h.below hb) D.lk D.al D.nm x nx hx)
  have HCh := Lib.hid (fun (x : Nat) (nx : Nd) (hx : S.at x = some nx) (wx : World) (hb : Below w.heap.size w wx) => mchecked_any D (h.below hb) (hm.below hb) hl x nx hx)
  have HVa := Lib.hid (fun (x : Nat) (nx : Nd) (hx : S.at x = some nx) (wx : World) (hb : Below w.heap.size w wx) => svalue_any (h.below hb) D.lk D.al (fun x n hx => by have := (D.ok.nd x n hx).dl; omega) (by have := D.len; omega) x nx hx (D.nm x nx hx))
  have HOr := Lib.hid (fun (wx : World) (hb : Below w.heap.size w wx) => order_any D (h.below hb))
  have HIs := Lib.hid (fun (x : Nat) (nx : Nd) (hx : S.at x = some nx) (fm : Int) => (show dtP S d ck fm by_ x = (!(kindN nx == 0) && (!(kindN nx == 7) && (!(nmV nx == []) && (!(attV nx sDisab).isSome && (hO S (ownI S d x) == fm && (!(isCk nx && !ck x) && !(kindN nx == 6 && S.hd x != by_))))))) from by unfold dtP; rw [hx]))
  have HDa := Lib.hid (fun (x : Nat) (nx : Nd) (hx : S.at x = some nx) => (show dtA S K d x = (nmV nx, valN S K d x nx) from by unfold dtA; rw [hx]))
  have HCkx := Lib.hid hckx
  have hlv : ∀ x ∈ ord K d, ∃ nx, S.at x = some nx := fun x hx => Option.isSome_iff_exists.1 (D.ord_live hx)
  have hol := D.ord_len
  have kb1 := Blk.new w [.slice aa M.length ac, .slice ba M.length bc] 65
  have hb1 := (Below.refl w.heap.size w).alloc (Nat.le_refl _) (.cells #[.slice aa M.length ac, .slice ba M.length bc] 65)
  have HKb := Lib.hid kb1
  have HB1 := Lib.hid hb1
  generalize hmm : M.length = ml at *
  clear h hm hck hckx hi D kb1 hb1 hl hmm
  generalize ord K d = ol at *
  generalize S.hd i = fm at *
  go_enter Tryz.func43, Tryz.ntmps43
  go_upto_region 1 with fail
  generalize w.alloc (.cells #[.slice aa ml ac, .slice ba ml bc] 65) = w1 at *
  go_wp2_with fail
  refine (HOr.out _ HB1.out).mono ?_
  rintro e w2 ⟨v, rfl, hv, hb2⟩
  obtain ⟨oa, oc, rfl⟩ := own_shapeB hv
  have HV := Lib.hid (own_low hv HB1.out.size)
  have HV2 := Lib.hid hv
  have HB2 := Lib.hid (bthen HB1.out hb2)
  have HKb2 := Lib.hid (HKb.out.below hb2)
  clear hv hb2 HKb HOr
  go_wp2_with fail
  go_loopw [9, 21] (fun ov iv wr => ∃ (t : Nat), t ≤ ol.length ∧ iv = .int .i64 (t : Int) ∧ wr.ownsRow w2.heap.size 85 2 ov ((ol.take t).filter (dtP S d ck fm by_)).length (attrC (((ol.take t).filter (dtP S d ck fm by_)).map (dtA S K d))) ∧ Below w2.heap.size w2 wr) (fun _ iv _ => ol.length - (intOf iv).toNat)
  case atStart => exact ⟨0, by omega, rfl, World.ownsRow_nil _ _ _ _, Below.refl _ _⟩
  case round =>
    obtain ⟨t, ht, rfl, hown, hb⟩ := hrel
    obtain ⟨ra, rc, rfl⟩ := own_shapeB hown
    have HO := Lib.hid hown
    have HBr := Lib.hid hb
    clear hown hb
    by_cases htl : t < ol.length
    · obtain ⟨k, hk⟩ : ∃ k, ol[t]? = some k := ⟨_, List.getElem?_eq_getElem htl⟩
      obtain ⟨nk, hnk⟩ := hlv k (List.mem_of_getElem? hk)
      obtain ⟨vg, rfl, _, hvc, ck0⟩ := hdC_get (own_keepB HV2.out HBr.out) hk
      have hbw := bthen HB2.out HBr.out
      have HK1 := Lib.hid (HKi.out k nk hnk _ hbw)
      have HA1 := Lib.hid (fun wx (hb : Below wr.heap.size wr wx) => HSa.out k nk hnk sName wx (bthen hbw hb))
      rw [HAv.out k nk hnk sName] at HA1
      have HA2 := Lib.hid (fun wx (hb : Below wr.heap.size wr wx) => HSa.out k nk hnk sDisab wx (bthen hbw hb))
      rw [HAv.out k nk hnk sDisab] at HA2
      have HO1 := Lib.hid (fun wx (hb : Below wr.heap.size wr wx) => HOw.out k nk hnk wx (bthen hbw hb))
      have HC1 := Lib.hid (fun wx (hb : Below wr.heap.size wr wx) => HCh.out k nk hnk wx (bthen hbw hb))
      have HV1 := Lib.hid (fun wx (hb : Below wr.heap.size wr wx) => HVa.out k nk hnk wx (bthen hbw hb))
      rw [HCkx.out k] at HC1
      have hisr := HIs.out k nk hnk fm
      have hda := HDa.out k nk hnk
      have hnmx : (attV nk sName).getD [] = nmV nk := rfl
      rw [hnmx] at HA1
      have hisk : isCk nk = (kindN nk == 3 || kindN nk == 4) := rfl
      rw [hisk] at hisr
      have hfs := filter_snoc (dtP S d ck fm by_) (ol.take t) k
      rw [show ol.take t ++ [k] = ol.take (t + 1) by rw [List.take_add_one, hk]; rfl] at hfs
      have hfl : ((ol.take t).filter (dtP S d ck fm by_)).length ≤ 100 := by
        have := List.length_filter_le (dtP S d ck fm by_) (ol.take t)
        rw [List.length_take] at this
        omega
      have b0 := (HKb2.out.below HBr.out).cell 0
      have b1 := (HKb2.out.below HBr.out).cell 1
      simp only [List.getElem?_cons_zero, List.getElem?_cons_succ] at b0 b1
      have HFs := Lib.hid hfs
      have HIr := Lib.hid hisr
      have HDx := Lib.hid hda
      generalize (ol.take t).filter (dtP S d ck fm by_) = fl at *
      generalize hpk : dtP S d ck fm by_ k = pk at *
      generalize nmV nk = nmx at *
      generalize (attV nk sName).isSome = nmb at *
      generalize (attV nk sDisab).getD [] = dsv at *
      generalize (attV nk sDisab).isSome = dis at *
      generalize hO S (ownI S d k) = owx at *
      generalize kindN nk = kx at *
      generalize valN S K d k nk = vx at *
      generalize ck k = cx at *
      clear hbw hk hnk hisr hda hnmx hisk hfs hpk
      go_wp2_with fail
      refine HK1.out.mono ?_
      rintro e w4 ⟨rfl, hb4⟩
      have ck4 := cell_keep hb4 ck0
      have HA4 := Lib.hid (HA1.out _ hb4)
      have Hb4 := Lib.hid hb4
      clear hb4 HK1 HA1 ck0
      go_wp2_with fail
      refine HA4.out.mono ?_
      rintro e w5 ⟨rfl, hb5⟩
      have hbr5 := bthen Hb4.out hb5
      have ck5 := cell_keep hb5 ck4
      have HA5 := Lib.hid (HA2.out _ hbr5)
      have Hb5 := Lib.hid hbr5
      clear hb5 HA4 HA2 Hb4 ck4 hbr5
      go_wp2_with fail
      refine HA5.out.mono ?_
      rintro e w6 ⟨rfl, hb6⟩
      have hbr6 := bthen Hb5.out hb6
      have ck6 := cell_keep hb6 ck5
      have b0 := cell_keep hbr6 b0
      have b1 := cell_keep hbr6 b1
      have Hb6 := Lib.hid hbr6
      have hne := stb_ne w6
      have y1 := fun (q : InS (StB w6)) => cell_keep q.h ck6
      have y2 := fun (q : InS (StB w6)) => cell_keep q.h b0
      have y3 := fun (q : InS (StB w6)) => cell_keep q.h b1
      clear hb6 HA5 Hb5 ck5 hbr6 b0 b1
      go_upto_region 9 with fail
      by_cases h0 : kx = 0
      · have e0 : ((kx : Int) == 0) = true := by simp [h0]
        as_aux_lemma =>
          refine reg_f (fun _ _ => True) (fun k v => match k with | [] => v = .int .i64 owx | _ => v = .bool cx) 53 (by kernel_rfl) (by kernel_rfl) (fun _ _ _ _ _ => trivial) trivial ?_
          simp only [List.take_succ_cons, List.take_zero, List.drop_succ_cons, List.drop_zero]
          repeat (first
            | (refine RV.m_held (by rfl) (by rfl) (fun K hK => ?_); go_big_quiet_step (fail); refine wpQuiet_nil ?_; refine hK.out _ ?_; clear hK K)
            | (refine RV.m_skip (by rfl) ?_; simp only [Act.put, List.setIfInBounds_toArray, List.set_cons_zero, List.set_cons_succ]))
          refine RV.m_nil ?_
          intro w9 hb9 _
          have ck9 := cell_keep hb9 ck6
          have Hb9 := Lib.hid (bthen Hb6.out (show Below w6.heap.size w6 w9 from hb9))
          clear y1 y2 y3 hne hb9 ck6 HO1 HC1
          have HP := Lib.hid (show pk = false from by rw [HIr.out]; simp [h0])
          have HO9 := Lib.hid (own_keepB HO.out Hb9.out)
          have HBz := Lib.hid (bthen HBr.out Hb9.out)
          go_wp2_with fail
          go_roundw
          case rel =>
            refine ⟨t + 1, by omega, by go_num, ?_, HBz.out⟩
            rw [HFs.out, HP.out]
            exact HO9.out
          case measure => simp [intOf]; omega
      · have e0 : ((kx : Int) == 0) = false := by simp; omega
        by_cases h7 : kx = 7
        · have e7 : ((kx : Int) == 7) = true := by simp [h7]
          as_aux_lemma =>
            refine reg_f (fun _ _ => True) (fun k v => match k with | [] => v = .int .i64 owx | _ => v = .bool cx) 53 (by kernel_rfl) (by kernel_rfl) (fun _ _ _ _ _ => trivial) trivial ?_
            simp only [List.take_succ_cons, List.take_zero, List.drop_succ_cons, List.drop_zero]
            repeat (first
              | (refine RV.m_held (by rfl) (by rfl) (fun K hK => ?_); go_big_quiet_step (fail); refine wpQuiet_nil ?_; refine hK.out _ ?_; clear hK K)
              | (refine RV.m_skip (by rfl) ?_; simp only [Act.put, List.setIfInBounds_toArray, List.set_cons_zero, List.set_cons_succ]))
            refine RV.m_nil ?_
            intro w9 hb9 _
            have ck9 := cell_keep hb9 ck6
            have Hb9 := Lib.hid (bthen Hb6.out (show Below w6.heap.size w6 w9 from hb9))
            clear y1 y2 y3 hne hb9 ck6 HO1 HC1
            have HP := Lib.hid (show pk = false from by rw [HIr.out]; simp [h7])
            have HO9 := Lib.hid (own_keepB HO.out Hb9.out)
            have HBz := Lib.hid (bthen HBr.out Hb9.out)
            go_wp2_with fail
            go_roundw
            case rel =>
              refine ⟨t + 1, by omega, by go_num, ?_, HBz.out⟩
              rw [HFs.out, HP.out]
              exact HO9.out
            case measure => simp [intOf]; omega
        · have e7 : ((kx : Int) == 7) = false := by simp; omega
          by_cases hn : nmx = []
          · have en : (nmx == []) = true := by simp [hn]
            have en2 : nmx.isEmpty = true := by simp [hn]
            as_aux_lemma =>
              refine reg_f (fun _ _ => True) (fun k v => match k with | [] => v = .int .i64 owx | _ => v = .bool cx) 53 (by kernel_rfl) (by kernel_rfl) (fun _ _ _ _ _ => trivial) trivial ?_
              simp only [List.take_succ_cons, List.take_zero, List.drop_succ_cons, List.drop_zero]
              repeat (first
                | (refine RV.m_held (by rfl) (by rfl) (fun K hK => ?_); go_big_quiet_step (fail); refine wpQuiet_nil ?_; refine hK.out _ ?_; clear hK K)
                | (refine RV.m_skip (by rfl) ?_; simp only [Act.put, List.setIfInBounds_toArray, List.set_cons_zero, List.set_cons_succ]))
              refine RV.m_nil ?_
              intro w9 hb9 _
              have ck9 := cell_keep hb9 ck6
              have Hb9 := Lib.hid (bthen Hb6.out (show Below w6.heap.size w6 w9 from hb9))
              clear y1 y2 y3 hne hb9 ck6 HO1 HC1
              have HP := Lib.hid (show pk = false from by rw [HIr.out]; simp [hn])
              have HO9 := Lib.hid (own_keepB HO.out Hb9.out)
              have HBz := Lib.hid (bthen HBr.out Hb9.out)
              go_wp2_with fail
              go_roundw
              case rel =>
                refine ⟨t + 1, by omega, by go_num, ?_, HBz.out⟩
                rw [HFs.out, HP.out]
                exact HO9.out
              case measure => simp [intOf]; omega
          · have en : (nmx == []) = false := by simpa using hn
            have en2 : nmx.isEmpty = false := by simpa using hn
            cases dis with
            | true =>
              as_aux_lemma =>
                refine reg_f (fun _ _ => True) (fun k v => match k with | [] => v = .int .i64 owx | _ => v = .bool cx) 53 (by kernel_rfl) (by kernel_rfl) (fun _ _ _ _ _ => trivial) trivial ?_
                simp only [List.take_succ_cons, List.take_zero, List.drop_succ_cons, List.drop_zero]
                repeat (first
                  | (refine RV.m_held (by rfl) (by rfl) (fun K hK => ?_); go_big_quiet_step (fail); refine wpQuiet_nil ?_; refine hK.out _ ?_; clear hK K)
                  | (refine RV.m_skip (by rfl) ?_; simp only [Act.put, List.setIfInBounds_toArray, List.set_cons_zero, List.set_cons_succ]))
                refine RV.m_nil ?_
                intro w9 hb9 _
                have ck9 := cell_keep hb9 ck6
                have Hb9 := Lib.hid (bthen Hb6.out (show Below w6.heap.size w6 w9 from hb9))
                clear y1 y2 y3 hne hb9 ck6 HO1 HC1
                have HP := Lib.hid (show pk = false from by rw [HIr.out]; simp [h0])
                have HO9 := Lib.hid (own_keepB HO.out Hb9.out)
                have HBz := Lib.hid (bthen HBr.out Hb9.out)
                go_wp2_with fail
                go_roundw
                case rel =>
                  refine ⟨t + 1, by omega, by go_num, ?_, HBz.out⟩
                  rw [HFs.out, HP.out]
                  exact HO9.out
                case measure => simp [intOf]; omega
            | false =>
              by_cases ho : owx = fm
              · have eo : (owx != fm) = false := by simp [ho]
                by_cases h3 : kx = 3
                · have e3 : ((kx : Int) == 3) = true := by simp [h3]
                  have e6 : ((kx : Int) == 6) = false := by simp; omega
                  have h6 : ¬ kx = 6 := by omega
                  cases cx with
                  | false =>
                    as_aux_lemma =>
                      refine reg_f (fun _ _ => True) (fun k v => match k with | [] => v = .int .i64 owx | _ => v = .bool false) 53 (by kernel_rfl) (by kernel_rfl) (fun _ _ _ _ _ => trivial) trivial ?_
                      simp only [List.take_succ_cons, List.take_zero, List.drop_succ_cons, List.drop_zero]
                      repeat (first
                        | (refine RV.m_held (by rfl) (by rfl) (fun K hK => ?_); go_big_quiet_step (fail); refine wpQuiet_nil ?_; refine hK.out _ ?_; clear hK K)
                        | (refine RV.m_skip (by rfl) ?_; simp only [Act.put, List.setIfInBounds_toArray, List.set_cons_zero, List.set_cons_succ]))
                      refine RV.m_call (by rfl) (by rfl) (fun w => by go_simp; exact ⟨rfl, rfl⟩) (⟨_, rfl⟩) (fun X wx hx => ?_) (fun v hv => ?_)
                      · refine (HO1.out _ (bthen Hb6.out hx.1)).mono ?_
                        rintro e wy ⟨rfl, hb⟩
                        exact ⟨_, rfl, rfl, bthen hx.1 hb, trivial⟩
                      obtain rfl : v = .int .i64 owx := hv
                      simp only [Act.put, List.setIfInBounds_toArray, List.set_cons_zero, List.set_cons_succ]
                      repeat (first
                        | (refine RV.m_held (by rfl) (by rfl) (fun K hK => ?_); go_big_quiet_step (fail); refine wpQuiet_nil ?_; refine hK.out _ ?_; clear hK K)
                        | (refine RV.m_skip (by rfl) ?_; simp only [Act.put, List.setIfInBounds_toArray, List.set_cons_zero, List.set_cons_succ]))
                      refine RV.m_call (by rfl) (by rfl) (fun w => by go_simp; exact ⟨rfl, rfl⟩) (⟨_, rfl⟩) (fun X wx hx => ?_) (fun v hv => ?_)
                      · refine (HC1.out _ (bthen Hb6.out hx.1)).mono ?_
                        rintro e wy ⟨rfl, hb⟩
                        exact ⟨_, rfl, rfl, bthen hx.1 hb, trivial⟩
                      obtain rfl : v = .bool false := hv
                      simp only [Act.put, List.setIfInBounds_toArray, List.set_cons_zero, List.set_cons_succ]
                      repeat (first
                        | (refine RV.m_held (by rfl) (by rfl) (fun K hK => ?_); go_big_quiet_step (fail); refine wpQuiet_nil ?_; refine hK.out _ ?_; clear hK K)
                        | (refine RV.m_skip (by rfl) ?_; simp only [Act.put, List.setIfInBounds_toArray, List.set_cons_zero, List.set_cons_succ]))
                      refine RV.m_nil ?_
                      intro w9 hb9 _
                      have ck9 := cell_keep hb9 ck6
                      have Hb9 := Lib.hid (bthen Hb6.out (show Below w6.heap.size w6 w9 from hb9))
                      clear y1 y2 y3 hne hb9 ck6 HO1 HC1
                      have HP := Lib.hid (show pk = false from by rw [HIr.out]; simp [h3])
                      have HO9 := Lib.hid (own_keepB HO.out Hb9.out)
                      have HBz := Lib.hid (bthen HBr.out Hb9.out)
                      go_wp2_with fail
                      go_roundw
                      case rel =>
                        refine ⟨t + 1, by omega, by go_num, ?_, HBz.out⟩
                        rw [HFs.out, HP.out]
                        exact HO9.out
                      case measure => simp [intOf]; omega
                  | true =>
                    as_aux_lemma =>
                      have HP := Lib.hid (show pk = true from by rw [HIr.out]; simp [h0, h7, hn, ho, h6])
                      refine reg_f (fun _ _ => True) (fun k v => match k with | [] => v = .int .i64 owx | _ => v = .bool true) 53 (by kernel_rfl) (by kernel_rfl) (fun _ _ _ _ _ => trivial) trivial ?_
                      simp only [List.take_succ_cons, List.take_zero, List.drop_succ_cons, List.drop_zero]
                      repeat (first
                        | (refine RV.m_held (by rfl) (by rfl) (fun K hK => ?_); go_big_quiet_step (fail); refine wpQuiet_nil ?_; refine hK.out _ ?_; clear hK K)
                        | (refine RV.m_skip (by rfl) ?_; simp only [Act.put, List.setIfInBounds_toArray, List.set_cons_zero, List.set_cons_succ]))
                      refine RV.m_call (by rfl) (by rfl) (fun w => by go_simp; exact ⟨rfl, rfl⟩) (⟨_, rfl⟩) (fun X wx hx => ?_) (fun v hv => ?_)
                      · refine (HO1.out _ (bthen Hb6.out hx.1)).mono ?_
                        rintro e wy ⟨rfl, hb⟩
                        exact ⟨_, rfl, rfl, bthen hx.1 hb, trivial⟩
                      obtain rfl : v = .int .i64 owx := hv
                      simp only [Act.put, List.setIfInBounds_toArray, List.set_cons_zero, List.set_cons_succ]
                      repeat (first
                        | (refine RV.m_held (by rfl) (by rfl) (fun K hK => ?_); go_big_quiet_step (fail); refine wpQuiet_nil ?_; refine hK.out _ ?_; clear hK K)
                        | (refine RV.m_skip (by rfl) ?_; simp only [Act.put, List.setIfInBounds_toArray, List.set_cons_zero, List.set_cons_succ]))
                      refine RV.m_call (by rfl) (by rfl) (fun w => by go_simp; exact ⟨rfl, rfl⟩) (⟨_, rfl⟩) (fun X wx hx => ?_) (fun v hv => ?_)
                      · refine (HC1.out _ (bthen Hb6.out hx.1)).mono ?_
                        rintro e wy ⟨rfl, hb⟩
                        exact ⟨_, rfl, rfl, bthen hx.1 hb, trivial⟩
                      obtain rfl : v = .bool true := hv
                      simp only [Act.put, List.setIfInBounds_toArray, List.set_cons_zero, List.set_cons_succ]
                      repeat (first
                        | (refine RV.m_held (by rfl) (by rfl) (fun K hK => ?_); go_big_quiet_step (fail); refine wpQuiet_nil ?_; refine hK.out _ ?_; clear hK K)
                        | (refine RV.m_skip (by rfl) ?_; simp only [Act.put, List.setIfInBounds_toArray, List.set_cons_zero, List.set_cons_succ]))
                      refine RV.m_nil ?_
                      intro w9 hb9 _
                      have ck9 := cell_keep hb9 ck6
                      have Hb9 := Lib.hid (bthen Hb6.out (show Below w6.heap.size w6 w9 from hb9))
                      clear y1 y2 y3 hne hb9 ck6 HO1 HC1
                      have HVy := Lib.hid (HV1.out _ Hb9.out)
                      clear HV1 ho
                      go_wp2_with fail
                      refine HVy.out.mono ?_
                      rintro e w10 ⟨rfl, hb10⟩
                      have hbr10 := bthen Hb9.out hb10
                      have HO10 := Lib.hid (own_keepB HO.out hbr10)
                      have HWx := Lib.hid (own_at (n := 1) (size := 2) (Blk.new w10 (attrC [(nmx, vx)]) 85) rfl (by omega))
                      have HO11 := Lib.hid (own_keepB HO10.out ((Below.refl w10.heap.size w10).alloc (Nat.le_refl _) (.cells #[.string ⟨nmx.toArray⟩, .string ⟨vx.toArray⟩] 85)))
                      have hB11 := bthen (bthen HBr.out hbr10) ((Below.refl w10.heap.size w10).alloc (Nat.le_refl _) (.cells #[.string ⟨nmx.toArray⟩, .string ⟨vx.toArray⟩] 85))
                      have HB11 := Lib.hid hB11
                      have hsz := hB11.size
                      have hlt4 := fun g (hg : (Value.slice ra fl.length rc).ownBlock = some g) => (HO11.out.lt g hg).1
                      clear hB11 hbr10 hb10 HVy ck9 Hb9
                      go_wp2_with (at_builtin; refine wpList_append_B etT HO11.out hsz HWx.out (attrC_one _) (by omega) (by omega) rfl _ _ rfl rfl rfl ?_)
                      intro v' w12 ho12 hg12 _
                      have HO12 := Lib.hid ho12
                      have HB12 := Lib.hid (HB11.out.grown hg12 hsz (fun k hk => hlt4 k hk))
                      clear ho12 hg12 hlt4
                      go_wp2_with fail
                      go_roundw
                      case rel =>
                        refine ⟨t + 1, by omega, by go_num, ?_, HB12.out⟩
                        rw [HFs.out, if_pos HP.out, List.length_append, List.map_append, attrC_app, List.map_singleton, HDx.out]
                        exact HO12.out
                      case measure => simp [intOf]; omega
                · have e3 : ((kx : Int) == 3) = false := by simp; omega
                  by_cases h4 : kx = 4
                  · have e4 : ((kx : Int) == 4) = true := by simp [h4]
                    have e6 : ((kx : Int) == 6) = false := by simp; omega
                    have h6 : ¬ kx = 6 := by omega
                    cases cx with
                    | false =>
                      as_aux_lemma =>
                        refine reg_f (fun _ _ => True) (fun k v => match k with | [] => v = .int .i64 owx | _ => v = .bool false) 53 (by kernel_rfl) (by kernel_rfl) (fun _ _ _ _ _ => trivial) trivial ?_
                        simp only [List.take_succ_cons, List.take_zero, List.drop_succ_cons, List.drop_zero]
                        repeat (first
                          | (refine RV.m_held (by rfl) (by rfl) (fun K hK => ?_); go_big_quiet_step (fail); refine wpQuiet_nil ?_; refine hK.out _ ?_; clear hK K)
                          | (refine RV.m_skip (by rfl) ?_; simp only [Act.put, List.setIfInBounds_toArray, List.set_cons_zero, List.set_cons_succ]))
                        refine RV.m_call (by rfl) (by rfl) (fun w => by go_simp; exact ⟨rfl, rfl⟩) (⟨_, rfl⟩) (fun X wx hx => ?_) (fun v hv => ?_)
                        · refine (HO1.out _ (bthen Hb6.out hx.1)).mono ?_
                          rintro e wy ⟨rfl, hb⟩
                          exact ⟨_, rfl, rfl, bthen hx.1 hb, trivial⟩
                        obtain rfl : v = .int .i64 owx := hv
                        simp only [Act.put, List.setIfInBounds_toArray, List.set_cons_zero, List.set_cons_succ]
                        repeat (first
                          | (refine RV.m_held (by rfl) (by rfl) (fun K hK => ?_); go_big_quiet_step (fail); refine wpQuiet_nil ?_; refine hK.out _ ?_; clear hK K)
                          | (refine RV.m_skip (by rfl) ?_; simp only [Act.put, List.setIfInBounds_toArray, List.set_cons_zero, List.set_cons_succ]))
                        refine RV.m_call (by rfl) (by rfl) (fun w => by go_simp; exact ⟨rfl, rfl⟩) (⟨_, rfl⟩) (fun X wx hx => ?_) (fun v hv => ?_)
                        · refine (HC1.out _ (bthen Hb6.out hx.1)).mono ?_
                          rintro e wy ⟨rfl, hb⟩
                          exact ⟨_, rfl, rfl, bthen hx.1 hb, trivial⟩
                        obtain rfl : v = .bool false := hv
                        simp only [Act.put, List.setIfInBounds_toArray, List.set_cons_zero, List.set_cons_succ]
                        repeat (first
                          | (refine RV.m_held (by rfl) (by rfl) (fun K hK => ?_); go_big_quiet_step (fail); refine wpQuiet_nil ?_; refine hK.out _ ?_; clear hK K)
                          | (refine RV.m_skip (by rfl) ?_; simp only [Act.put, List.setIfInBounds_toArray, List.set_cons_zero, List.set_cons_succ]))
                        refine RV.m_nil ?_
                        intro w9 hb9 _
                        have ck9 := cell_keep hb9 ck6
                        have Hb9 := Lib.hid (bthen Hb6.out (show Below w6.heap.size w6 w9 from hb9))
                        clear y1 y2 y3 hne hb9 ck6 HO1 HC1
                        have HP := Lib.hid (show pk = false from by rw [HIr.out]; simp [h4])
                        have HO9 := Lib.hid (own_keepB HO.out Hb9.out)
                        have HBz := Lib.hid (bthen HBr.out Hb9.out)
                        go_wp2_with fail
                        go_roundw
                        case rel =>
                          refine ⟨t + 1, by omega, by go_num, ?_, HBz.out⟩
                          rw [HFs.out, HP.out]
                          exact HO9.out
                        case measure => simp [intOf]; omega
                    | true =>
                      as_aux_lemma =>
                        have HP := Lib.hid (show pk = true from by rw [HIr.out]; simp [h0, h7, hn, ho, h6])
                        refine reg_f (fun _ _ => True) (fun k v => match k with | [] => v = .int .i64 owx | _ => v = .bool true) 53 (by kernel_rfl) (by kernel_rfl) (fun _ _ _ _ _ => trivial) trivial ?_
                        simp only [List.take_succ_cons, List.take_zero, List.drop_succ_cons, List.drop_zero]
                        repeat (first
                          | (refine RV.m_held (by rfl) (by rfl) (fun K hK => ?_); go_big_quiet_step (fail); refine wpQuiet_nil ?_; refine hK.out _ ?_; clear hK K)
                          | (refine RV.m_skip (by rfl) ?_; simp only [Act.put, List.setIfInBounds_toArray, List.set_cons_zero, List.set_cons_succ]))
                        refine RV.m_call (by rfl) (by rfl) (fun w => by go_simp; exact ⟨rfl, rfl⟩) (⟨_, rfl⟩) (fun X wx hx => ?_) (fun v hv => ?_)
                        · refine (HO1.out _ (bthen Hb6.out hx.1)).mono ?_
                          rintro e wy ⟨rfl, hb⟩
                          exact ⟨_, rfl, rfl, bthen hx.1 hb, trivial⟩
                        obtain rfl : v = .int .i64 owx := hv
                        simp only [Act.put, List.setIfInBounds_toArray, List.set_cons_zero, List.set_cons_succ]
                        repeat (first
                          | (refine RV.m_held (by rfl) (by rfl) (fun K hK => ?_); go_big_quiet_step (fail); refine wpQuiet_nil ?_; refine hK.out _ ?_; clear hK K)
                          | (refine RV.m_skip (by rfl) ?_; simp only [Act.put, List.setIfInBounds_toArray, List.set_cons_zero, List.set_cons_succ]))
                        refine RV.m_call (by rfl) (by rfl) (fun w => by go_simp; exact ⟨rfl, rfl⟩) (⟨_, rfl⟩) (fun X wx hx => ?_) (fun v hv => ?_)
                        · refine (HC1.out _ (bthen Hb6.out hx.1)).mono ?_
                          rintro e wy ⟨rfl, hb⟩
                          exact ⟨_, rfl, rfl, bthen hx.1 hb, trivial⟩
                        obtain rfl : v = .bool true := hv
                        simp only [Act.put, List.setIfInBounds_toArray, List.set_cons_zero, List.set_cons_succ]
                        repeat (first
                          | (refine RV.m_held (by rfl) (by rfl) (fun K hK => ?_); go_big_quiet_step (fail); refine wpQuiet_nil ?_; refine hK.out _ ?_; clear hK K)
                          | (refine RV.m_skip (by rfl) ?_; simp only [Act.put, List.setIfInBounds_toArray, List.set_cons_zero, List.set_cons_succ]))
                        refine RV.m_nil ?_
                        intro w9 hb9 _
                        have ck9 := cell_keep hb9 ck6
                        have Hb9 := Lib.hid (bthen Hb6.out (show Below w6.heap.size w6 w9 from hb9))
                        clear y1 y2 y3 hne hb9 ck6 HO1 HC1
                        have HVy := Lib.hid (HV1.out _ Hb9.out)
                        clear HV1 ho
                        go_wp2_with fail
                        refine HVy.out.mono ?_
                        rintro e w10 ⟨rfl, hb10⟩
                        have hbr10 := bthen Hb9.out hb10
                        have HO10 := Lib.hid (own_keepB HO.out hbr10)
                        have HWx := Lib.hid (own_at (n := 1) (size := 2) (Blk.new w10 (attrC [(nmx, vx)]) 85) rfl (by omega))
                        have HO11 := Lib.hid (own_keepB HO10.out ((Below.refl w10.heap.size w10).alloc (Nat.le_refl _) (.cells #[.string ⟨nmx.toArray⟩, .string ⟨vx.toArray⟩] 85)))
                        have hB11 := bthen (bthen HBr.out hbr10) ((Below.refl w10.heap.size w10).alloc (Nat.le_refl _) (.cells #[.string ⟨nmx.toArray⟩, .string ⟨vx.toArray⟩] 85))
                        have HB11 := Lib.hid hB11
                        have hsz := hB11.size
                        have hlt4 := fun g (hg : (Value.slice ra fl.length rc).ownBlock = some g) => (HO11.out.lt g hg).1
                        clear hB11 hbr10 hb10 HVy ck9 Hb9
                        go_wp2_with (at_builtin; refine wpList_append_B etT HO11.out hsz HWx.out (attrC_one _) (by omega) (by omega) rfl _ _ rfl rfl rfl ?_)
                        intro v' w12 ho12 hg12 _
                        have HO12 := Lib.hid ho12
                        have HB12 := Lib.hid (HB11.out.grown hg12 hsz (fun k hk => hlt4 k hk))
                        clear ho12 hg12 hlt4
                        go_wp2_with fail
                        go_roundw
                        case rel =>
                          refine ⟨t + 1, by omega, by go_num, ?_, HB12.out⟩
                          rw [HFs.out, if_pos HP.out, List.length_append, List.map_append, attrC_app, List.map_singleton, HDx.out]
                          exact HO12.out
                        case measure => simp [intOf]; omega
                  · have e4 : ((kx : Int) == 4) = false := by simp; omega
                    by_cases h6 : kx = 6
                    · have e6 : ((kx : Int) == 6) = true := by simp [h6]
                      by_cases hby : S.hd k = by_
                      · have eby : (S.hd k != by_) = false := by simp [hby]
                        as_aux_lemma =>
                          have HP := Lib.hid (show pk = true from by rw [HIr.out]; simp [h0, h7, hn, ho, h3, h4, hby])
                          clear hby
                          refine reg_f (fun _ _ => True) (fun k v => match k with | [] => v = .int .i64 owx | _ => v = .bool cx) 53 (by kernel_rfl) (by kernel_rfl) (fun _ _ _ _ _ => trivial) trivial ?_
                          simp only [List.take_succ_cons, List.take_zero, List.drop_succ_cons, List.drop_zero]
                          repeat (first
                            | (refine RV.m_held (by rfl) (by rfl) (fun K hK => ?_); go_big_quiet_step (fail); refine wpQuiet_nil ?_; refine hK.out _ ?_; clear hK K)
                            | (refine RV.m_skip (by rfl) ?_; simp only [Act.put, List.setIfInBounds_toArray, List.set_cons_zero, List.set_cons_succ]))
                          refine RV.m_call (by rfl) (by rfl) (fun w => by go_simp; exact ⟨rfl, rfl⟩) (⟨_, rfl⟩) (fun X wx hx => ?_) (fun v hv => ?_)
                          · refine (HO1.out _ (bthen Hb6.out hx.1)).mono ?_
                            rintro e wy ⟨rfl, hb⟩
                            exact ⟨_, rfl, rfl, bthen hx.1 hb, trivial⟩
                          obtain rfl : v = .int .i64 owx := hv
                          simp only [Act.put, List.setIfInBounds_toArray, List.set_cons_zero, List.set_cons_succ]
                          repeat (first
                            | (refine RV.m_held (by rfl) (by rfl) (fun K hK => ?_); go_big_quiet_step (fail); refine wpQuiet_nil ?_; refine hK.out _ ?_; clear hK K)
                            | (refine RV.m_skip (by rfl) ?_; simp only [Act.put, List.setIfInBounds_toArray, List.set_cons_zero, List.set_cons_succ]))
                          refine RV.m_nil ?_
                          intro w9 hb9 _
                          have ck9 := cell_keep hb9 ck6
                          have Hb9 := Lib.hid (bthen Hb6.out (show Below w6.heap.size w6 w9 from hb9))
                          clear y1 y2 y3 hne hb9 ck6 HO1 HC1
                          have HVy := Lib.hid (HV1.out _ Hb9.out)
                          clear HV1 ho 
                          go_wp2_with fail
                          refine HVy.out.mono ?_
                          rintro e w10 ⟨rfl, hb10⟩
                          have hbr10 := bthen Hb9.out hb10
                          have HO10 := Lib.hid (own_keepB HO.out hbr10)
                          have HWx := Lib.hid (own_at (n := 1) (size := 2) (Blk.new w10 (attrC [(nmx, vx)]) 85) rfl (by omega))
                          have HO11 := Lib.hid (own_keepB HO10.out ((Below.refl w10.heap.size w10).alloc (Nat.le_refl _) (.cells #[.string ⟨nmx.toArray⟩, .string ⟨vx.toArray⟩] 85)))
                          have hB11 := bthen (bthen HBr.out hbr10) ((Below.refl w10.heap.size w10).alloc (Nat.le_refl _) (.cells #[.string ⟨nmx.toArray⟩, .string ⟨vx.toArray⟩] 85))
                          have HB11 := Lib.hid hB11
                          have hsz := hB11.size
                          have hlt4 := fun g (hg : (Value.slice ra fl.length rc).ownBlock = some g) => (HO11.out.lt g hg).1
                          clear hB11 hbr10 hb10 HVy ck9 Hb9
                          go_wp2_with (at_builtin; refine wpList_append_B etT HO11.out hsz HWx.out (attrC_one _) (by omega) (by omega) rfl _ _ rfl rfl rfl ?_)
                          intro v' w12 ho12 hg12 _
                          have HO12 := Lib.hid ho12
                          have HB12 := Lib.hid (HB11.out.grown hg12 hsz (fun k hk => hlt4 k hk))
                          clear ho12 hg12 hlt4
                          go_wp2_with fail
                          go_roundw
                          case rel =>
                            refine ⟨t + 1, by omega, by go_num, ?_, HB12.out⟩
                            rw [HFs.out, if_pos HP.out, List.length_append, List.map_append, attrC_app, List.map_singleton, HDx.out]
                            exact HO12.out
                          case measure => simp [intOf]; omega
                      · have eby : (S.hd k != by_) = true := by simpa using hby
                        as_aux_lemma =>
                          refine reg_f (fun _ _ => True) (fun k v => match k with | [] => v = .int .i64 owx | _ => v = .bool cx) 53 (by kernel_rfl) (by kernel_rfl) (fun _ _ _ _ _ => trivial) trivial ?_
                          simp only [List.take_succ_cons, List.take_zero, List.drop_succ_cons, List.drop_zero]
                          repeat (first
                            | (refine RV.m_held (by rfl) (by rfl) (fun K hK => ?_); go_big_quiet_step (fail); refine wpQuiet_nil ?_; refine hK.out _ ?_; clear hK K)
                            | (refine RV.m_skip (by rfl) ?_; simp only [Act.put, List.setIfInBounds_toArray, List.set_cons_zero, List.set_cons_succ]))
                          refine RV.m_call (by rfl) (by rfl) (fun w => by go_simp; exact ⟨rfl, rfl⟩) (⟨_, rfl⟩) (fun X wx hx => ?_) (fun v hv => ?_)
                          · refine (HO1.out _ (bthen Hb6.out hx.1)).mono ?_
                            rintro e wy ⟨rfl, hb⟩
                            exact ⟨_, rfl, rfl, bthen hx.1 hb, trivial⟩
                          obtain rfl : v = .int .i64 owx := hv
                          simp only [Act.put, List.setIfInBounds_toArray, List.set_cons_zero, List.set_cons_succ]
                          repeat (first
                            | (refine RV.m_held (by rfl) (by rfl) (fun K hK => ?_); go_big_quiet_step (fail); refine wpQuiet_nil ?_; refine hK.out _ ?_; clear hK K)
                            | (refine RV.m_skip (by rfl) ?_; simp only [Act.put, List.setIfInBounds_toArray, List.set_cons_zero, List.set_cons_succ]))
                          refine RV.m_nil ?_
                          intro w9 hb9 _
                          have ck9 := cell_keep hb9 ck6
                          have Hb9 := Lib.hid (bthen Hb6.out (show Below w6.heap.size w6 w9 from hb9))
                          clear y1 y2 y3 hne hb9 ck6 HO1 HC1
                          have HP := Lib.hid (show pk = false from by rw [HIr.out]; simp [h6, hby])
                          have HO9 := Lib.hid (own_keepB HO.out Hb9.out)
                          have HBz := Lib.hid (bthen HBr.out Hb9.out)
                          go_wp2_with fail
                          go_roundw
                          case rel =>
                            refine ⟨t + 1, by omega, by go_num, ?_, HBz.out⟩
                            rw [HFs.out, HP.out]
                            exact HO9.out
                          case measure => simp [intOf]; omega
                    · have e6 : ((kx : Int) == 6) = false := by simp; omega
                      as_aux_lemma =>
                        have HP := Lib.hid (show pk = true from by rw [HIr.out]; simp [h0, h7, hn, ho, h3, h4, h6])
                        refine reg_f (fun _ _ => True) (fun k v => match k with | [] => v = .int .i64 owx | _ => v = .bool cx) 53 (by kernel_rfl) (by kernel_rfl) (fun _ _ _ _ _ => trivial) trivial ?_
                        simp only [List.take_succ_cons, List.take_zero, List.drop_succ_cons, List.drop_zero]
                        repeat (first
                          | (refine RV.m_held (by rfl) (by rfl) (fun K hK => ?_); go_big_quiet_step (fail); refine wpQuiet_nil ?_; refine hK.out _ ?_; clear hK K)
                          | (refine RV.m_skip (by rfl) ?_; simp only [Act.put, List.setIfInBounds_toArray, List.set_cons_zero, List.set_cons_succ]))
                        refine RV.m_call (by rfl) (by rfl) (fun w => by go_simp; exact ⟨rfl, rfl⟩) (⟨_, rfl⟩) (fun X wx hx => ?_) (fun v hv => ?_)
                        · refine (HO1.out _ (bthen Hb6.out hx.1)).mono ?_
                          rintro e wy ⟨rfl, hb⟩
                          exact ⟨_, rfl, rfl, bthen hx.1 hb, trivial⟩
                        obtain rfl : v = .int .i64 owx := hv
                        simp only [Act.put, List.setIfInBounds_toArray, List.set_cons_zero, List.set_cons_succ]
                        repeat (first
                          | (refine RV.m_held (by rfl) (by rfl) (fun K hK => ?_); go_big_quiet_step (fail); refine wpQuiet_nil ?_; refine hK.out _ ?_; clear hK K)
                          | (refine RV.m_skip (by rfl) ?_; simp only [Act.put, List.setIfInBounds_toArray, List.set_cons_zero, List.set_cons_succ]))
                        refine RV.m_nil ?_
                        intro w9 hb9 _
                        have ck9 := cell_keep hb9 ck6
                        have Hb9 := Lib.hid (bthen Hb6.out (show Below w6.heap.size w6 w9 from hb9))
                        clear y1 y2 y3 hne hb9 ck6 HO1 HC1
                        have HVy := Lib.hid (HV1.out _ Hb9.out)
                        clear HV1 ho
                        go_wp2_with fail
                        refine HVy.out.mono ?_
                        rintro e w10 ⟨rfl, hb10⟩
                        have hbr10 := bthen Hb9.out hb10
                        have HO10 := Lib.hid (own_keepB HO.out hbr10)
                        have HWx := Lib.hid (own_at (n := 1) (size := 2) (Blk.new w10 (attrC [(nmx, vx)]) 85) rfl (by omega))
                        have HO11 := Lib.hid (own_keepB HO10.out ((Below.refl w10.heap.size w10).alloc (Nat.le_refl _) (.cells #[.string ⟨nmx.toArray⟩, .string ⟨vx.toArray⟩] 85)))
                        have hB11 := bthen (bthen HBr.out hbr10) ((Below.refl w10.heap.size w10).alloc (Nat.le_refl _) (.cells #[.string ⟨nmx.toArray⟩, .string ⟨vx.toArray⟩] 85))
                        have HB11 := Lib.hid hB11
                        have hsz := hB11.size
                        have hlt4 := fun g (hg : (Value.slice ra fl.length rc).ownBlock = some g) => (HO11.out.lt g hg).1
                        clear hB11 hbr10 hb10 HVy ck9 Hb9
                        go_wp2_with (at_builtin; refine wpList_append_B etT HO11.out hsz HWx.out (attrC_one _) (by omega) (by omega) rfl _ _ rfl rfl rfl ?_)
                        intro v' w12 ho12 hg12 _
                        have HO12 := Lib.hid ho12
                        have HB12 := Lib.hid (HB11.out.grown hg12 hsz (fun k hk => hlt4 k hk))
                        clear ho12 hg12 hlt4
                        go_wp2_with fail
                        go_roundw
                        case rel =>
                          refine ⟨t + 1, by omega, by go_num, ?_, HB12.out⟩
                          rw [HFs.out, if_pos HP.out, List.length_append, List.map_append, attrC_app, List.map_singleton, HDx.out]
                          exact HO12.out
                        case measure => simp [intOf]; omega
              · have eo : (owx != fm) = true := by simpa using ho
                as_aux_lemma =>
                  refine reg_f (fun _ _ => True) (fun k v => match k with | [] => v = .int .i64 owx | _ => v = .bool cx) 53 (by kernel_rfl) (by kernel_rfl) (fun _ _ _ _ _ => trivial) trivial ?_
                  simp only [List.take_succ_cons, List.take_zero, List.drop_succ_cons, List.drop_zero]
                  repeat (first
                    | (refine RV.m_held (by rfl) (by rfl) (fun K hK => ?_); go_big_quiet_step (fail); refine wpQuiet_nil ?_; refine hK.out _ ?_; clear hK K)
                    | (refine RV.m_skip (by rfl) ?_; simp only [Act.put, List.setIfInBounds_toArray, List.set_cons_zero, List.set_cons_succ]))
                  refine RV.m_call (by rfl) (by rfl) (fun w => by go_simp; exact ⟨rfl, rfl⟩) (⟨_, rfl⟩) (fun X wx hx => ?_) (fun v hv => ?_)
                  · refine (HO1.out _ (bthen Hb6.out hx.1)).mono ?_
                    rintro e wy ⟨rfl, hb⟩
                    exact ⟨_, rfl, rfl, bthen hx.1 hb, trivial⟩
                  obtain rfl : v = .int .i64 owx := hv
                  simp only [Act.put, List.setIfInBounds_toArray, List.set_cons_zero, List.set_cons_succ]
                  repeat (first
                    | (refine RV.m_held (by rfl) (by rfl) (fun K hK => ?_); go_big_quiet_step (fail); refine wpQuiet_nil ?_; refine hK.out _ ?_; clear hK K)
                    | (refine RV.m_skip (by rfl) ?_; simp only [Act.put, List.setIfInBounds_toArray, List.set_cons_zero, List.set_cons_succ]))
                  refine RV.m_nil ?_
                  intro w9 hb9 _
                  have ck9 := cell_keep hb9 ck6
                  have Hb9 := Lib.hid (bthen Hb6.out (show Below w6.heap.size w6 w9 from hb9))
                  clear y1 y2 y3 hne hb9 ck6 HO1 HC1
                  have HP := Lib.hid (show pk = false from by rw [HIr.out]; simp [ho])
                  have HO9 := Lib.hid (own_keepB HO.out Hb9.out)
                  have HBz := Lib.hid (bthen HBr.out Hb9.out)
                  go_wp2_with fail
                  go_roundw
                  case rel =>
                    refine ⟨t + 1, by omega, by go_num, ?_, HBz.out⟩
                    rw [HFs.out, HP.out]
                    exact HO9.out
                  case measure => simp [intOf]; omega
    · obtain rfl : t = ol.length := by omega
      rw [List.take_length] at HO ⊢
      go_wp2_with fail
      go_ret
      exact ⟨_, rfl, own_low HO.out HB2.out.size, bthen HB2.out HBr.out⟩
end
end Go.Proofs.YtacdbnhnhdlmpaaGreatDoor.W
end
