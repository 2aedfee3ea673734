/- Texts joined: Mkl. -/
import Derived.Test.YtacdbnhnhdlmpaaGreatDoorFH3
set_option maxRecDepth 100000
set_option maxHeartbeats 40000000
set_option linter.unusedVariables false
set_option linter.unusedSimpArgs false
section
namespace Go.Proofs.YtacdbnhnhdlmpaaGreatDoor.W
open Go.RowKit
def mrN (M : List (Int × Bool)) : List Value := M.map fun p => Value.int .i64 p.1
def mrB (M : List (Int × Bool)) : List Value := M.map fun p => Value.bool p.2
structure MkAt (w : World) (va vb : Value) (M : List (Int × Bool)) : Prop where
  nodes : Own w 3 1 va M.length (mrN M)
  on : Own w 4 1 vb M.length (mrB M)
theorem MkAt.below {w w' : World} {va vb : Value} {M : List (Int × Bool)} (h : MkAt w va vb M) (hb : Below w.heap.size w w') : MkAt w' va vb M := ⟨own_keepB h.nodes hb, own_keepB h.on hb⟩
theorem lastM_some {M : List (Int × Bool)} {k : Nat} {h : Int} {b : Bool} (h1 : lastM (M.drop k) h = some b) : lastM M h = some b := by
  rw [← List.take_append_drop k M, lastM_app, h1]
theorem lastM_get {M : List (Int × Bool)} {k : Nat} {p : Int × Bool} (hk : M[k]? = some p) (h : Int) : lastM (M.drop k) h = match lastM (M.drop (k + 1)) h with | some b => some b | none => if p.1 = h then some p.2 else none := by
  obtain ⟨hl, rfl⟩ := List.getElem?_eq_some_iff.1 hk
  rw [List.drop_eq_getElem_cons hl]
  rfl
set_option maxRecDepth 100000 in
set_option maxHeartbeats 4000000 in
theorem mark_any {w : World} {va vb : Value} {M : List (Int × Bool)} (h : MkAt w va vb M) (hd : Int) (hl : M.length ≤ 100000) :
    Calls Tryz.prog 82 #[.agg #[va, vb], .int .i64 hd] w fun e w' => e = .returned (.tuple #[.bool ((lastM M hd).getD false), .bool (lastM M hd).isSome]) ∧ Below w.heap.size w w' := by
  obtain ⟨aa, ac, rfl⟩ := own_shapeB h.nodes
  obtain ⟨ba, bc, rfl⟩ := own_shapeB h.on
  obtain ⟨n, hn⟩ : ∃ n, M.length = n := ⟨_, rfl⟩
  rw [hn] at h hl ⊢
  have hb := (Below.refl w.heap.size w).alloc (Nat.le_refl _) (.cells #[.slice aa n ac, .slice ba n bc] 65)
  have kb := Blk.new w [.slice aa n ac, .slice ba n bc] 65
  have c0 := kb.cell 0
  have c1 := kb.cell 1
  simp only [List.getElem?_cons_succ, List.getElem?_cons_zero] at c0 c1
  have HM := Lib.hid (h.below hb)
  have HB := Lib.hid hb
  have HN := Lib.hid hn
  clear h hb kb hn
  go_enter Tryz.func82, Tryz.ntmps82
  go_wp2_with fail
  generalize w.alloc (.cells #[.slice aa n ac, .slice ba n bc] 65) = w1 at *
  go_loop [6] (fun iv => ∃ k : Nat, k ≤ n ∧ iv = .int .i64 ((k : Int) - 1) ∧ lastM (M.drop k) hd = none) (fun iv => (intOf iv + 1).toNat)
  case atStart => exact ⟨n, Nat.le_refl _, rfl, by rw [← HN.out, List.drop_length]; rfl⟩
  case round =>
    obtain ⟨k, hk, he, hno⟩ := hrel
    rcases k with _ | m
    · subst he
      have HR := Lib.hid (show lastM M hd = none from hno)
      clear hno
      go_wp2_with fail
      go_ret2
      rw [HR.out]
      exact ⟨rfl, HB.out⟩
    · rw [show ((m + 1 : Nat) : Int) - 1 = (m : Int) by omega] at he
      subst he
      obtain ⟨p, hp⟩ : ∃ p, M[m]? = some p := ⟨_, List.getElem?_eq_getElem (by rw [HN.out]; omega)⟩
      have hg := lastM_get hp hd
      rw [hno] at hg
      obtain ⟨ga, ca, e1, _⟩ := own_some HM.out.nodes (by rw [HN.out]; omega)
      obtain ⟨gb, cb, e2, _⟩ := own_some HM.out.on (by rw [HN.out]; omega)
      have hno2 := HM.out.nodes
      have hon2 := HM.out.on
      rw [HN.out] at e1 e2 hno2 hon2
      cases e1
      cases e2
      have d0 := hno2.cellAt m (by omega)
      have d1 := hon2.cellAt m (by omega)
      rw [show (mrN M)[m]? = some (.int .i64 p.1) by unfold mrN; rw [List.getElem?_map, hp]; rfl] at d0
      rw [show (mrB M)[m]? = some (.bool p.2) by unfold mrB; rw [List.getElem?_map, hp]; rfl] at d1
      obtain ⟨pn, pb⟩ := p
      simp only at d0 d1 hg
      by_cases hx : pn = hd
      · have HR := Lib.hid (show lastM M hd = some pb from by rw [if_pos hx] at hg; exact lastM_some hg)
        subst hx
        clear hno hp hg hno2 hon2
        go_wp2_with fail
        go_ret2
        rw [HR.out]
        exact ⟨rfl, HB.out⟩
      · have e0 : (pn == hd) = false := by simpa using hx
        rw [if_neg hx] at hg
        have HG := Lib.hid hg
        clear hno hp hg hx hno2 hon2
        go_wp2_with fail
        go_round
        case rel => exact ⟨m, by omega, by go_num, HG.out⟩
        case measure => simp [intOf]
theorem lastA_snoc (u : Int → Option Bool) (at_ : Int → Bool) (l : List Int) (x z : Int) : lastA u at_ (l ++ [x]) z = if at_ x = true ∧ u x = none then x else lastA u at_ l z := by
  induction l generalizing z with
  | nil => rfl
  | cons y l ih => exact ih _
section
variable {B R : Nat} {S : Tr} {sv fv : Value} {w : World} {K : Nat → List Nat} {d : Nat → Nat}
set_option maxRecDepth 100000 in
set_option maxHeartbeats 8000000 in
theorem mchecked_any (D : DcOk S K d) (h : TAt B R S sv fv w) {va vb : Value} {M : List (Int × Bool)} (hm : MkAt w va vb M) (hl : M.length ≤ 100000) (i : Nat) (n : Nd) (hi : S.at i = some n) :
    Calls Tryz.prog 35 #[.agg #[va, vb], .pointer (some ⟨R, 0, none⟩), .int .i64 (S.hd i)] w fun e w' => e = .returned (.bool (chkd (gH S K d) (rdH S) (atH S) (lastM M) (S.hd i))) ∧ Below w.heap.size w w' := by
  obtain ⟨aa, ac, rfl⟩ := own_shapeB hm.nodes
  obtain ⟨ba, bc, rfl⟩ := own_shapeB hm.on
  have hgh := gH_hd D hi
  have hrd := rdH_hd D hi
  have hat := atH_hd D hi
  have HMk := Lib.hid (fun (hd : Int) (wx : World) (hb : Below w.heap.size w wx) => mark_any (hm.below hb) hd hl)
  have HSa := Lib.hid (fun (x : Nat) (nx : Nd) (hx : S.at x = some nx) (wx : World) (hb : Below w.heap.size w wx) => sattr_any (h.below hb) D.lk x nx hx (D.al x nx hx) sChecked)
  have HKi := Lib.hid (fun (wx : World) (hb : Below w.heap.size w wx) => skindL_any (h.below hb) D.lk i n hi (D.al i n hi))
  have HGr := Lib.hid (fun (wx : World) (hb : Below w.heap.size w wx) => sgroup_any D (h.below hb) i n hi)
  have HSi := Lib.hid (HSa.out i n hi)
  rw [D.attL hi] at HSi
  have hty := tyN_radio (D.nm i n hi)
  have hgl := grp_len D i n
  have HLv := Lib.hid (fun x (hx : x ∈ grp S K d i n) => (show ∃ nx, S.at x = some nx ∧ (attL nx.attrs sChecked).isSome = atH S (S.hd x) from by
    obtain ⟨nx, hnx⟩ := Option.isSome_iff_exists.1 (grp_live D hi x hx)
    exact ⟨nx, hnx, by rw [atH_hd D hnx, D.attL hnx]⟩))
  obtain ⟨kk, hkk⟩ : ∃ kk, chkd (gH S K d) (rdH S) (atH S) (lastM M) (S.hd i) = kk := ⟨_, rfl⟩
  rw [hkk]
  unfold chkd at hkk
  rw [hgh, hrd, hat, ← hty] at hkk
  have hb1 := (Below.refl w.heap.size w).alloc (Nat.le_refl _) (.cells #[.slice aa M.length ac, .slice ba M.length bc] 65)
  have kb := Blk.new w [.slice aa M.length ac, .slice ba M.length bc] 65
  generalize grp S K d i n = gl at *
  generalize tyN n = ty at *
  generalize attV n sChecked = ck at *
  generalize hu : lastM M = u at *
  generalize S.hd i = hd at *
  have HKK := Lib.hid hkk
  clear hkk
  have HB1 := Lib.hid hb1
  have HKb := Lib.hid kb
  clear h hm hi hgh hrd hat hty hb1 kb hl
  generalize M.length = ml at *
  have k0 := HKb.out.cell 0
  have k1 := HKb.out.cell 1
  simp only [List.getElem?_cons_succ, List.getElem?_cons_zero] at k0 k1
  cases hur : u hd with
  | some b =>
    have HU := Lib.hid hur
    have HR := Lib.hid (show kk = b from by rw [← HKK.out, hur])
    clear hur HKK
    go_enter Tryz.func35, Tryz.ntmps35
    go_wp2_with fail
    refine (HMk.out _ _ HB1.out).mono ?_
    rintro e w2 ⟨rfl, hb2⟩
    rw [HU.out]
    simp only [Option.getD_some, Option.isSome_some]
    have HB2 := Lib.hid (bthen HB1.out hb2)
    clear hb2 k0 k1
    go_wp2_with fail
    go_ret
    rw [HR.out]
    exact ⟨rfl, HB2.out⟩
  | none =>
    have HU := Lib.hid hur
    have hkn := HKK.out
    rw [hur] at hkn
    simp only [] at hkn
    clear HKK
    have HKK := Lib.hid hkn
    clear hur hkn
    go_enter Tryz.func35, Tryz.ntmps35
    go_wp2_with fail
    refine (HMk.out _ _ HB1.out).mono ?_
    rintro e w2 ⟨rfl, hb2⟩
    rw [HU.out]
    simp only [Option.getD_none, Option.isSome_none]
    have HB2 := Lib.hid (bthen HB1.out hb2)
    have HKb2 := Lib.hid (HKb.out.below hb2)
    have HS2 := Lib.hid (HSi.out _ HB2.out)
    clear hb2 k0 k1 HKb HSi
    go_wp2_with fail
    refine HS2.out.mono ?_
    rintro e w3 ⟨rfl, hb3⟩
    have HB3 := Lib.hid (bthen HB2.out hb3)
    have HKb3 := Lib.hid (HKb2.out.below hb3)
    have HK3 := Lib.hid (HKi.out _ HB3.out)
    clear hb3 HKb2 HS2 HKi
    generalize hcs : ck.isSome = cs at *
    go_wp2_with fail
    refine HK3.out.mono ?_
    rintro e w4 ⟨rfl, hb4⟩
    have HB4 := Lib.hid (bthen HB3.out hb4)
    have HKb4 := Lib.hid (HKb3.out.below hb4)
    clear hb4 HKb3 HK3 hcs
    by_cases hr : (ty == sRadio) = true
    · have e1 : (ty == [114, 97, 100, 105, 111]) = true := hr
      have e2 : (ty != [114, 97, 100, 105, 111]) = false := by rw [bne, e1]; rfl
      have hkn := HKK.out
      rw [hr] at hkn
      clear hr HKK
      cases cs with
      | false =>
        have HR := Lib.hid (show kk = false from by rw [← hkn, if_neg (fun q => by cases q.2)])
        clear hkn
        go_wp2_with fail
        go_ret
        rw [HR.out]
        exact ⟨rfl, HB4.out⟩
      | true =>
        rw [if_pos ⟨rfl, rfl⟩] at hkn
        have HKK := Lib.hid hkn
        clear hkn
        have HG4 := Lib.hid (HGr.out _ HB4.out)
        clear HGr
        go_wp2_with fail
        refine HG4.out.mono ?_
        rintro e w5 ⟨v, rfl, hv, hb5⟩
        obtain ⟨va, vc, rfl⟩ := own_shapeB hv
        have HV := Lib.hid hv
        have HB5 := Lib.hid (bthen HB4.out hb5)
        have HKb5 := Lib.hid (HKb4.out.below hb5)
        clear hv hb5 HG4 HKb4
        go_wp2_with fail
        go_loopw [12, 47] (fun zv iv wr => ∃ (t : Nat), t ≤ gl.length ∧ iv = .int .i64 (t : Int) ∧ zv = .int .i64 (lastA u (atH S) ((gl.take t).map S.hd) hd) ∧ (∀ x ∈ gl.take t, u (S.hd x) ≠ some true) ∧ Below w5.heap.size w5 wr) (fun _ iv _ => gl.length - (intOf iv).toNat)
        case atStart => exact ⟨0, by omega, rfl, rfl, fun x hx => by simp at hx, Below.refl _ _⟩
        case round =>
          obtain ⟨t, ht, rfl, rfl, hall, hb⟩ := hrel
          have HBr := Lib.hid hb
          have HAll := Lib.hid hall
          clear hb hall
          by_cases htl : t < gl.length
          · obtain ⟨k, hk⟩ : ∃ k, gl[t]? = some k := ⟨_, List.getElem?_eq_getElem htl⟩
            obtain ⟨nk, hnk, hatk⟩ := HLv.out k (List.mem_of_getElem? hk)
            obtain ⟨vg, rfl, _, hvc, ck⟩ := hdC_get (own_keepB HV.out HBr.out) hk
            have hbw := bthen HB5.out HBr.out
            have kr := HKb5.out.below HBr.out
            have k0 := kr.cell 0
            have k1 := kr.cell 1
            simp only [List.getElem?_cons_succ, List.getElem?_cons_zero] at k0 k1
            have htk : gl.take (t + 1) = gl.take t ++ [k] := by rw [List.take_add_one, hk]; rfl
            have hsn := lastA_snoc u (atH S) ((gl.take t).map S.hd) (S.hd k) hd
            rw [show (gl.take t).map S.hd ++ [S.hd k] = (gl.take (t + 1)).map S.hd by rw [htk, List.map_append]; rfl] at hsn
            have HSn := Lib.hid hsn
            have HTk := Lib.hid htk
            have HMk1 := Lib.hid (fun wx (hb : Below wr.heap.size wr wx) => HMk.out (S.hd k) wx (bthen hbw hb))
            have HS1 := Lib.hid (fun wx (hb : Below wr.heap.size wr wx) => HSa.out k nk hnk wx (bthen hbw hb))
            rw [hatk] at HS1
            generalize lastA u (atH S) ((gl.take t).map S.hd) hd = la at *
            generalize atH S (S.hd k) = ak at *
            have HMem := Lib.hid (List.mem_of_getElem? hk)
            clear hbw hk hnk hatk hsn htk kr
            have y0 := fun (x : InS (StB wr)) => cell_keep x.h k0
            have y1 := fun (x : InS (StB wr)) => cell_keep x.h k1
            have yk := fun (x : InS (StB wr)) => cell_keep x.h ck
            have hne := stb_ne wr
            go_upto_region 12 with fail
            refine reg_f (fun _ _ => True) (fun _ v => v = .tuple #[.bool ((u (S.hd k)).getD false), .bool (u (S.hd k)).isSome]) 11 (by kernel_rfl) (by kernel_rfl) (fun _ _ _ _ _ => trivial) trivial ?_
            simp only [List.take_succ_cons, List.take_zero, List.drop_succ_cons, List.drop_zero]
            repeat (first
              | (refine RV.m_held (by rfl) (by rfl) (fun K hK => ?_); go_big_quiet_step (fail); refine wpQuiet_nil ?_; refine hK.out _ ?_; clear hK K)
              | (refine RV.m_skip (by rfl) ?_; simp only [Act.put, List.setIfInBounds_toArray, List.set_cons_zero, List.set_cons_succ]))
            refine RV.m_call (by rfl) (by rfl) (fun w => by go_simp; exact ⟨rfl, rfl⟩) (⟨_, rfl⟩) (fun X wx hx => ?_) (fun v hv => ?_)
            · refine (HMk1.out _ hx.1).mono ?_
              rintro e wy ⟨rfl, hb⟩
              exact ⟨_, rfl, rfl, bthen hx.1 hb, trivial⟩
            obtain rfl : v = .tuple #[.bool ((u (S.hd k)).getD false), .bool (u (S.hd k)).isSome] := hv
            simp only [Act.put, List.setIfInBounds_toArray, List.set_cons_zero, List.set_cons_succ]
            repeat (first
              | (refine RV.m_held (by rfl) (by rfl) (fun K hK => ?_); go_big_quiet_step (fail); refine wpQuiet_nil ?_; refine hK.out _ ?_; clear hK K)
              | (refine RV.m_skip (by rfl) ?_; simp only [Act.put, List.setIfInBounds_toArray, List.set_cons_zero, List.set_cons_succ]))
            refine RV.m_nil ?_
            intro w6 hb6 _
            have hb6 : Below wr.heap.size wr w6 := hb6
            have ck6 := cell_keep hb6 ck
            have HS6 := Lib.hid (HS1.out _ hb6)
            have HB6 := Lib.hid (bthen HBr.out hb6)
            clear y0 y1 yk hne hb6 k0 k1 HMk1 HS1 ck
            generalize huk : u (S.hd k) = uk at *
            have HUk := Lib.hid huk
            clear huk
            rcases uk with _ | b
            · simp only [Option.getD_none, Option.isSome_none]
              go_wp2_with fail
              refine HS6.out.mono ?_
              rintro e w7 ⟨rfl, hb7⟩
              have ck7 := cell_keep hb7 ck6
              have HB7 := Lib.hid (bthen HB6.out hb7)
              clear hb7 HS6 ck6
              have hall2 : ∀ x ∈ gl.take (t + 1), u (S.hd x) ≠ some true := by
                rw [HTk.out]
                intro x hx
                rcases List.mem_append.1 hx with hx | hx
                · exact HAll.out x hx
                · rw [List.mem_singleton] at hx; subst hx; rw [HUk.out]; simp
              have HAll2 := Lib.hid hall2
              clear hall2
              cases ak with
              | true =>
                have HL := Lib.hid (show lastA u (atH S) ((gl.take (t + 1)).map S.hd) hd = S.hd k from by rw [HSn.out]; simp)
                go_wp2_with fail
                go_roundw
                case rel => exact ⟨t + 1, by omega, by go_num, by rw [HL.out], HAll2.out, HB7.out⟩
                case measure => simp [intOf]; omega
              | false =>
                have HL := Lib.hid (show lastA u (atH S) ((gl.take (t + 1)).map S.hd) hd = la from by rw [HSn.out]; simp)
                go_wp2_with fail
                go_roundw
                case rel => exact ⟨t + 1, by omega, by go_num, by rw [HL.out], HAll2.out, HB7.out⟩
                case measure => simp [intOf]; omega
            · simp only [Option.getD_some, Option.isSome_some]
              cases b with
              | true =>
                go_wp2_with fail
                go_ret
                refine ⟨?_, bthen HB5.out HB6.out⟩
                have : radioS u (atH S) hd (gl.map S.hd) = false := by
                  unfold radioS
                  rw [decide_eq_false (fun q => q (S.hd k) (List.mem_map_of_mem HMem.out) HUk.out)]
                  rfl
                rw [← HKK.out, this]
                rfl
              | false =>
                have HL := Lib.hid (show lastA u (atH S) ((gl.take (t + 1)).map S.hd) hd = la from by rw [HSn.out]; simp)
                have hall2 : ∀ x ∈ gl.take (t + 1), u (S.hd x) ≠ some true := by
                  rw [HTk.out]
                  intro x hx
                  rcases List.mem_append.1 hx with hx | hx
                  · exact HAll.out x hx
                  · rw [List.mem_singleton] at hx; subst hx; rw [HUk.out]; simp
                have HAll2 := Lib.hid hall2
                clear hall2
                go_wp2_with fail
                refine HS6.out.mono ?_
                rintro e w7 ⟨rfl, hb7⟩
                have ck7 := cell_keep hb7 ck6
                have HB7 := Lib.hid (bthen HB6.out hb7)
                clear hb7 HS6 ck6
                cases ak with
                | true =>
                  go_wp2_with fail
                  go_roundw
                  case rel => exact ⟨t + 1, by omega, by go_num, by rw [HL.out], HAll2.out, HB7.out⟩
                  case measure => simp [intOf]; omega
                | false =>
                  go_wp2_with fail
                  go_roundw
                  case rel => exact ⟨t + 1, by omega, by go_num, by rw [HL.out], HAll2.out, HB7.out⟩
                  case measure => simp [intOf]; omega
          · obtain rfl : t = gl.length := by omega
            rw [List.take_length] at HAll ⊢
            have hrs : radioS u (atH S) hd (gl.map S.hd) = (lastA u (atH S) (gl.map S.hd) hd == hd) := by
              unfold radioS
              rw [decide_eq_true (fun x hx => by
                obtain ⟨y, hy, rfl⟩ := List.mem_map.1 hx
                exact HAll.out y hy)]
              rfl
            have HR := Lib.hid (HKK.out.symm.trans hrs)
            generalize lastA u (atH S) (gl.map S.hd) hd = la at *
            clear hrs
            go_wp2_with fail
            go_ret
            refine ⟨?_, bthen HB5.out HBr.out⟩
            rw [HR.out]
            rfl
    · rw [Bool.not_eq_true] at hr
      have e1 : (ty == [114, 97, 100, 105, 111]) = false := hr
      have e2 : (ty != [114, 97, 100, 105, 111]) = true := by rw [bne, e1]; rfl
      have HR := Lib.hid (show kk = cs from by rw [← HKK.out, hr, if_neg (fun q => by cases q.1)])
      clear hr HKK
      go_wp2_with fail
      go_ret
      rw [HR.out]
      exact ⟨rfl, HB4.out⟩
end
end Go.Proofs.YtacdbnhnhdlmpaaGreatDoor.W
end
