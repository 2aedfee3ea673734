/- Texts joined: Sgr Mkl. -/
import Derived.Test.YtacdbnhnhdlmpaaGreatDoorFD3
import Derived.LoopTactic
import Derived.RegionTactic
set_option maxRecDepth 100000
set_option maxHeartbeats 40000000
set_option linter.unusedVariables false
set_option linter.unusedSimpArgs false
section
namespace Go.Proofs.YtacdbnhnhdlmpaaGreatDoor.W
open Go.RowKit
def tyN (n : Nd) : List UInt8 := if n.kind = 2 ∧ n.name = sInput then (attV n sType).getD [] else []
theorem tyN_radio {n : Nd} (hnm : n.kind ≠ 2 → n.name = []) : (tyN n == sRadio) = (kindN n == 4) := by
  unfold tyN kindN kindF
  by_cases h1 : n.name = sInput
  · have hk : n.kind = 2 := Classical.byContradiction fun e => by
      have := hnm e
      rw [h1] at this; cases this
    rw [if_pos ⟨hk, h1⟩, if_pos h1]
    generalize (attV n sType).getD [] = t
    unfold kindI
    by_cases e : t = sRadio
    · subst e; rfl
    · have e1 : (t == sRadio) = false := by simpa using e
      rw [e1, if_neg e]
      repeat' split
      all_goals first | rfl | contradiction
  · rw [if_neg (fun e => h1 e.2), if_neg h1]
    have e0 : (([] : List UInt8) == sRadio) = false := rfl
    rw [e0]
    repeat' split
    all_goals rfl
section
variable {B R : Nat} {S : Tr} {sv fv : Value} {w : World} {K : Nat → List Nat} {d : Nat → Nat}
set_option maxRecDepth 100000 in
set_option maxHeartbeats 4000000 in
theorem skindL_any (h : TAt B R S sv fv w) (hL : Lk S K d) (i : Nat) (n : Nd) (hi : S.at i = some n) (hl : n.attrs.length ≤ 1000) :
    Calls Tryz.prog 78 #[.pointer (some ⟨R, 0, none⟩), .int .i64 (S.hd i)] w fun e w' => e = .returned (.string ⟨(tyN n).toArray⟩) ∧ Below w.heap.size w w' := by
  have HA := Lib.hid (fun wx (hb : Below w.heap.size w wx) => sattr_any (h.below hb) hL i n hi hl sType)
  obtain ⟨g, cap, rfl⟩ := slots_some h (by have := at_lt hi; omega)
  have HN := Lib.hid (snode_some h (S.hd i) (hd_ok hL hi).1 (hd_ix hL hi) (at_slot hi))
  have hAt := h.attrs i n (at_slot hi)
  unfold tyN attV
  obtain ⟨nk, nm, nav, nal, nda, np, nf, nl, npv, nx⟩ := n
  simp only at HN HA hAt hl ⊢
  obtain ⟨va, vc, rfl, _⟩ := hAt
  generalize attL nal sType = t at *
  obtain ⟨kk, hkk⟩ : ∃ kk, (if nk = 2 ∧ nm = sInput then (if nk = 2 then t else none).getD [] else []) = kk := ⟨_, rfl⟩
  rw [hkk]
  have HKK := Lib.hid hkk
  clear h hi hkk
  go_enter Tryz.func78, Tryz.ntmps78
  go_wp2_with fail
  refine HN.out.mono ?_
  rintro e w1 ⟨rfl, hb1⟩
  simp only [ndC, strV]
  have hb2 := hb1.alloc hb1.size (.cells #[.int .i64 nk, .string ⟨nm.toArray⟩, .slice va nal.length vc, .string ⟨nda.toArray⟩, .int .i64 np, .int .i64 nf, .int .i64 nl, .int .i64 npv, .int .i64 nx] 135)
  have kn := Blk.new w1 [.int .i64 nk, .string ⟨nm.toArray⟩, .slice va nal.length vc, .string ⟨nda.toArray⟩, .int .i64 np, .int .i64 nf, .int .i64 nl, .int .i64 npv, .int .i64 nx] 135
  have c0 := kn.cell 0
  have c1 := kn.cell 1
  simp only [List.getElem?_cons_zero, List.getElem?_cons_succ] at c0 c1
  have HB2 := Lib.hid hb2
  clear hb1 hb2 HN kn
  by_cases hk : nk = 2
  · subst hk
    have e0 : ((2 : Int) != 2) = false := rfl
    by_cases h1 : nm = sInput
    · have e1 : (nm == [105, 110, 112, 117, 116]) = true := beqT h1
      have e2 : (nm != [105, 110, 112, 117, 116]) = false := by rw [bne, e1]; rfl
      have HR := Lib.hid (show kk = t.getD [] from by rw [← HKK.out, if_pos ⟨rfl, h1⟩, if_pos rfl])
      clear h1 HKK
      go_wp2_with fail
      refine (HA.out _ HB2.out).mono ?_
      rintro e w2 ⟨rfl, hb3⟩
      have HB := Lib.hid (bthen HB2.out hb3)
      clear hb3
      go_wp2_with fail
      go_ret
      rw [HR.out]
      exact ⟨rfl, HB.out⟩
    · have e1 : (nm == [105, 110, 112, 117, 116]) = false := beqF h1
      have e2 : (nm != [105, 110, 112, 117, 116]) = true := by rw [bne, e1]; rfl
      have HR := Lib.hid (show kk = [] from by rw [← HKK.out, if_neg (fun e => h1 e.2)])
      clear h1 HKK
      go_wp2_with fail
      go_ret
      rw [HR.out]
      exact ⟨rfl, HB2.out⟩
  · have e0 : ((nk : Int) != 2) = true := by simpa using hk
    have HR := Lib.hid (show kk = [] from by rw [← HKK.out, if_neg (fun e => hk e.1)])
    clear hk HKK
    go_wp2_with fail
    go_ret
    rw [HR.out]
    exact ⟨rfl, HB2.out⟩
set_option maxRecDepth 100000 in
set_option maxHeartbeats 8000000 in
theorem sgroup_any (D : DcOk S K d) (h : TAt B R S sv fv w) (i : Nat) (n : Nd) (hi : S.at i = some n) :
    Calls Tryz.prog 36 #[.pointer (some ⟨R, 0, none⟩), .int .i64 (S.hd i)] w fun e w' => ∃ v, e = .returned v ∧ w'.ownsRow w.heap.size 3 1 v (grp S K d i n).length (hdC S (grp S K d i n)) ∧ Below w.heap.size w w' := by
  have HSa := Lib.hid (fun (x : Nat) (nx : Nd) (hx : S.at x = some nx) (wx : World) (hb : Below w.heap.size w wx) => sattr_any (h.below hb) D.lk x nx hx (D.al x nx hx) sName)
  have HKi := Lib.hid (fun (x : Nat) (nx : Nd) (hx : S.at x = some nx) (wx : World) (hb : Below w.heap.size w wx) => skindL_any (h.below hb) D.lk x nx hx (D.al x nx hx))
  have HOw := Lib.hid (fun (x : Nat) (nx : Nd) (hx : S.at x = some nx) (wx : World) (hb : Below w.heap.size w wx) => sowner_any (h.below hb) D.lk D.al D.nm x nx hx)
  have HOr := Lib.hid (fun (wx : World) (hb : Below w.heap.size w wx) => order_any D (h.below hb))
  have HS1 := Lib.hid (HSa.out i n hi w (Below.refl _ _))
  rw [D.attL hi] at HS1
  have HOi := Lib.hid (HOw.out i n hi)
  have hlv : ∀ x ∈ ord K d, ∃ nx, S.at x = some nx := fun x hx => Option.isSome_iff_exists.1 (D.ord_live hx)
  have hol := D.ord_len
  have HIs := Lib.hid (fun (x : Nat) (nx : Nd) (hx : S.at x = some nx) (ow : Int) (nm : List UInt8) => (show isR S d ow nm x = (kindN nx == 4 && hO S (ownI S d x) == ow && nmV nx == nm) from by unfold isR; rw [hx]))
  have HTy := Lib.hid (fun (x : Nat) (nx : Nd) (hx : S.at x = some nx) => (show (tyN nx == sRadio) = (kindN nx == 4) ∧ (attL nx.attrs sName).getD [] = nmV nx from ⟨tyN_radio (D.nm x nx hx), by rw [D.attL hx]; rfl⟩))
  unfold grp
  have hnm0 : nmV n = (attV n sName).getD [] := rfl
  rw [← hnm0] at HS1
  generalize nmV n = nm at *
  generalize hO S (ownI S d i) = ow at *
  have hW := (Below.refl w.heap.size w)
  clear hnm0 h hi hW
  by_cases hn : nm = []
  · subst hn
    rw [if_pos rfl]
    clear HSa HKi HOw HOr HIs HTy hlv
    go_enter Tryz.func36, Tryz.ntmps36
    go_wp2_with fail
    refine HS1.out.mono ?_
    rintro e w1 ⟨rfl, hb1⟩
    have HB1 := Lib.hid hb1
    clear hb1
    go_wp2_with fail
    go_ret
    exact ⟨_, rfl, own_base' (own_at (n := 1) (size := 1) (Blk.new w1 [.int .i64 (S.hd i)] 3) rfl (by omega)) (fun k hk => by cases hk; exact HB1.out.size), HB1.out.alloc HB1.out.size _⟩
  · rw [if_neg hn]
    have e0 : (nm == []) = false := beqF hn
    generalize ord K d = ol at *
    clear hn
    go_enter Tryz.func36, Tryz.ntmps36
    go_wp2_with fail
    refine HS1.out.mono ?_
    rintro e w1 ⟨rfl, hb1⟩
    have HR := Lib.hid (HOr.out _ hb1)
    have HB1 := Lib.hid hb1
    clear hb1 HOr HS1
    go_wp2_with fail
    refine HR.out.mono ?_
    rintro e w2 ⟨v, rfl, hv, hb2⟩
    obtain ⟨va, vc, rfl⟩ := own_shapeB hv
    have HV := Lib.hid hv
    have HB2 := Lib.hid (bthen HB1.out hb2)
    clear hv hb2 HR
    go_wp2_with fail
    go_loopw [7, 26] (fun ov iv wr => ∃ (t : Nat), t ≤ ol.length ∧ iv = .int .i64 (t : Int) ∧ wr.ownsRow w2.heap.size 3 1 ov ((ol.take t).filter (isR S d ow nm)).length (hdC S ((ol.take t).filter (isR S d ow nm))) ∧ Below w2.heap.size w2 wr) (fun _ iv _ => ol.length - (intOf iv).toNat)
    case atStart => exact ⟨0, by omega, rfl, World.ownsRow_nil _ _ _ _, Below.refl _ _⟩
    case round =>
      obtain ⟨t, ht, rfl, hown, hb⟩ := hrel
      obtain ⟨oa, oc, rfl⟩ := own_shapeB hown
      have HO := Lib.hid hown
      have HBr := Lib.hid hb
      clear hown hb
      by_cases htl : t < ol.length
      · obtain ⟨k, hk⟩ : ∃ k, ol[t]? = some k := ⟨_, List.getElem?_eq_getElem htl⟩
        obtain ⟨nk, hnk⟩ := hlv k (List.mem_of_getElem? hk)
        obtain ⟨vg, rfl, _, hvc, ck⟩ := hdC_get (own_keepB HV.out HBr.out) hk
        have hbw := bthen HB2.out HBr.out
        have HA1 := Lib.hid (HSa.out k nk hnk _ hbw)
        obtain ⟨hty, hnme⟩ := HTy.out k nk hnk
        rw [hnme] at HA1
        have HK1 := Lib.hid (fun wx (hb : Below wr.heap.size wr wx) => HKi.out k nk hnk wx (bthen hbw hb))
        have HO1 := Lib.hid (fun wx (hb : Below wr.heap.size wr wx) => HOw.out k nk hnk wx (bthen hbw hb))
        have HO2 := Lib.hid (fun wx (hb : Below wr.heap.size wr wx) => HOi.out wx (bthen hbw hb))
        have hisr := HIs.out k nk hnk ow nm
        have hfs := filter_snoc (isR S d ow nm) (ol.take t) k
        rw [show ol.take t ++ [k] = ol.take (t + 1) by rw [List.take_add_one, hk]; rfl, hisr] at hfs
        have hfl : ((ol.take t).filter (isR S d ow nm)).length ≤ 100 := by
          have := List.length_filter_le (isR S d ow nm) (ol.take t)
          rw [List.length_take] at this
          omega
        have HFs := Lib.hid hfs
        generalize (ol.take t).filter (isR S d ow nm) = fl at *
        generalize nmV nk = nmk at *
        generalize hO S (ownI S d k) = owk at *
        generalize tyN nk = ty at *
        generalize kindN nk = kd at *
        clear hbw hk hnk hisr hnme hfs
        go_wp2_with fail
        refine HA1.out.mono ?_
        rintro e w4 ⟨rfl, hb4⟩
        have ck4 := cell_keep hb4 ck
        have HK4 := Lib.hid (HK1.out _ hb4)
        have Hb4 := Lib.hid hb4
        clear hb4 HA1 HK1 ck
        go_wp2_with fail
        refine HK4.out.mono ?_
        rintro e w5 ⟨rfl, hb5⟩
        have hbr5 := bthen Hb4.out hb5
        have ck5 := cell_keep hb5 ck4
        have HBr5 := Lib.hid hbr5
        have HO5a := Lib.hid (HO1.out _ hbr5)
        clear hb5 HK4 Hb4 ck4 hbr5
        by_cases h4 : kd = 4
        · have e4 : (ty == [114, 97, 100, 105, 111]) = true := hty.trans (by simp [h4])
          by_cases h5 : nmk = nm
          · have e5 : (nmk == nm) = true := beqT h5
            go_wp2_with fail
            refine HO5a.out.mono ?_
            rintro e w6 ⟨rfl, hb6⟩
            have hbr6 := bthen HBr5.out hb6
            have HO6 := Lib.hid (HO2.out _ hbr6)
            have ck6 := cell_keep hb6 ck5
            have HBr6 := Lib.hid hbr6
            clear hb6 hbr6 ck5
            go_wp2_with fail
            refine HO6.out.mono ?_
            rintro e w7 ⟨rfl, hb7⟩
            have hbr7 := bthen HBr6.out hb7
            have ck7 := cell_keep hb7 ck6
            have HO7 := Lib.hid (own_keepB HO.out hbr7)
            have HBr7 := Lib.hid (bthen HBr.out hbr7)
            clear hb7 hbr7 ck6 HO6 HO5a HO1 HO2
            by_cases h6 : owk = ow
            · have e6 : (owk == ow) = true := by simpa using h6
              have HS := Lib.hid (show (ol.take (t + 1)).filter (isR S d ow nm) = fl ++ [k] from by rw [HFs.out, h4, e6, e5]; rfl)
              clear h4 h5 h6 HFs hty
              have HWx := Lib.hid (own_at (n := 1) (size := 1) (Blk.new w7 [.int .i64 (S.hd k)] 3) rfl (by omega))
              have HO8 := Lib.hid (own_keepB HO7.out ((Below.refl w7.heap.size w7).alloc (Nat.le_refl _) (.cells #[.int .i64 (S.hd k)] 3)))
              have hB8 := bthen HBr7.out ((Below.refl w7.heap.size w7).alloc (Nat.le_refl _) (.cells #[.int .i64 (S.hd k)] 3))
              have HB8 := Lib.hid hB8
              have hsz := hB8.size
              have hlt4 := fun g (hg : (Value.slice oa fl.length oc).ownBlock = some g) => (HO8.out.lt g hg).1
              clear hB8
              go_wp2_with (at_builtin; refine wpList_append_B etI HO8.out hsz HWx.out (by intro u hu; simp at hu; subst hu; rfl) (by omega) (by omega) rfl _ _ rfl rfl rfl ?_)
              intro v' w9 ho9 hg9 _
              have HO9 := Lib.hid ho9
              have HB9 := Lib.hid (HB8.out.grown hg9 hsz (fun k hk => hlt4 k hk))
              clear ho9 hg9 hlt4
              go_wp2_with fail
              go_roundw
              case rel =>
                refine ⟨t + 1, by omega, by go_num, ?_, HB9.out⟩
                rw [HS.out, List.length_append, ← hdC_app]
                exact HO9.out
              case measure => simp [intOf]; omega
            · have e6 : (owk == ow) = false := by simpa using h6
              have HS := Lib.hid (show (ol.take (t + 1)).filter (isR S d ow nm) = fl from by rw [HFs.out, e6]; simp)
              clear h4 h5 h6 HFs hty
              go_wp2_with fail
              go_roundw
              case rel =>
                refine ⟨t + 1, by omega, by go_num, ?_, HBr7.out⟩
                rw [HS.out]
                exact HO7.out
              case measure => simp [intOf]; omega
          · have e5 : (nmk == nm) = false := beqF h5
            have HO7 := Lib.hid (own_keepB HO.out HBr5.out)
            have HBr7 := Lib.hid (bthen HBr.out HBr5.out)
            have HS := Lib.hid (show (ol.take (t + 1)).filter (isR S d ow nm) = fl from by rw [HFs.out, e5]; simp)
            clear h4 h5 HFs hty HO5a HO1 HO2
            go_wp2_with fail
            go_roundw
            case rel =>
              refine ⟨t + 1, by omega, by go_num, ?_, HBr7.out⟩
              rw [HS.out]
              exact HO7.out
            case measure => simp [intOf]; omega
        · have e4 : (ty == [114, 97, 100, 105, 111]) = false := hty.trans (by simpa using h4)
          have e4k : (kd == 4) = false := by simpa using h4
          have HO7 := Lib.hid (own_keepB HO.out HBr5.out)
          have HBr7 := Lib.hid (bthen HBr.out HBr5.out)
          have HS := Lib.hid (show (ol.take (t + 1)).filter (isR S d ow nm) = fl from by rw [HFs.out, e4k]; simp)
          clear h4 HFs hty HO5a HO1 HO2 e4k
          go_wp2_with fail
          go_roundw
          case rel =>
            refine ⟨t + 1, by omega, by go_num, ?_, HBr7.out⟩
            rw [HS.out]
            exact HO7.out
          case measure => simp [intOf]; omega
      · obtain rfl : t = ol.length := by omega
        rw [List.take_length] at HO ⊢
        go_wp2_with fail
        go_ret
        exact ⟨_, rfl, own_low HO.out HB2.out.size, bthen HB2.out HBr.out⟩
end
end Go.Proofs.YtacdbnhnhdlmpaaGreatDoor.W
end
section
namespace Go.Proofs.YtacdbnhnhdlmpaaGreatDoor.W
open Go.RowKit
def mrN (M : List (Int × Bool)) : List Value := M.map fun p => Value.int .i64 p.1
def mrB (M : List (Int × Bool)) : List Value := M.map fun p => Value.bool p.2
structure MkAt (w : World) (va vb : Value) (M : List (Int × Bool)) : Prop where
  nodes : Own w 3 1 va M.length (mrN M)
  on : Own w 4 1 vb M.length (mrB M)
theorem MkAt.below {w w' : World} {va vb : Value} {M : List (Int × Bool)} (h : MkAt w va vb M) (hb : Below w.heap.size w w') : MkAt w' va vb M := ⟨own_keepB h.nodes hb, own_keepB h.on hb⟩
theorem lastM_some {M : List (Int × Bool)} {k : Nat} {h : Int} {b : Bool} (h1 : lastM (M.drop k) h = some b) : lastM M h = some b := by
  rw [← List.take_append_drop k M, lastM_app, h1]
theorem lastM_get {M : List (Int × Bool)} {k : Nat} {p : Int × Bool} (hk : M[k]? = some p) (h : Int) : lastM (M.drop k) h = match lastM (M.drop (k + 1)) h with | some b => some b | none => if p.1 = h then some p.2 else none := by
  obtain ⟨hl, rfl⟩ := List.getElem?_eq_some_iff.1 hk
  rw [List.drop_eq_getElem_cons hl]
  rfl
set_option maxRecDepth 100000 in
set_option maxHeartbeats 4000000 in
theorem mark_any {w : World} {va vb : Value} {M : List (Int × Bool)} (h : MkAt w va vb M) (hd : Int) (hl : M.length ≤ 100000) :
    Calls Tryz.prog 82 #[.agg #[va, vb], .int .i64 hd] w fun e w' => e = .returned (.tuple #[.bool ((lastM M hd).getD false), .bool (lastM M hd).isSome]) ∧ Below w.heap.size w w' := by
  obtain ⟨aa, ac, rfl⟩ := own_shapeB h.nodes
  obtain ⟨ba, bc, rfl⟩ := own_shapeB h.on
  obtain ⟨n, hn⟩ : ∃ n, M.length = n := ⟨_, rfl⟩
  rw [hn] at h hl ⊢
  have hb := (Below.refl w.heap.size w).alloc (Nat.le_refl _) (.cells #[.slice aa n ac, .slice ba n bc] 65)
  have kb := Blk.new w [.slice aa n ac, .slice ba n bc] 65
  have c0 := kb.cell 0
  have c1 := kb.cell 1
  simp only [List.getElem?_cons_succ, List.getElem?_cons_zero] at c0 c1
  have HM := Lib.hid (h.below hb)
  have HB := Lib.hid hb
  have HN := Lib.hid hn
  clear h hb kb hn
  go_enter Tryz.func82, Tryz.ntmps82
  go_wp2_with fail
  generalize w.alloc (.cells #[.slice aa n ac, .slice ba n bc] 65) = w1 at *
  go_loop [6] (fun iv => ∃ k : Nat, k ≤ n ∧ iv = .int .i64 ((k : Int) - 1) ∧ lastM (M.drop k) hd = none) (fun iv => (intOf iv + 1).toNat)
  case atStart => exact ⟨n, Nat.le_refl _, rfl, by rw [← HN.out, List.drop_length]; rfl⟩
  case round =>
    obtain ⟨k, hk, he, hno⟩ := hrel
    rcases k with _ | m
    · subst he
      have HR := Lib.hid (show lastM M hd = none from hno)
      clear hno
      go_wp2_with fail
      go_ret2
      rw [HR.out]
      exact ⟨rfl, HB.out⟩
    · rw [show ((m + 1 : Nat) : Int) - 1 = (m : Int) by omega] at he
      subst he
      obtain ⟨p, hp⟩ : ∃ p, M[m]? = some p := ⟨_, List.getElem?_eq_getElem (by rw [HN.out]; omega)⟩
      have hg := lastM_get hp hd
      rw [hno] at hg
      obtain ⟨ga, ca, e1, _⟩ := own_some HM.out.nodes (by rw [HN.out]; omega)
      obtain ⟨gb, cb, e2, _⟩ := own_some HM.out.on (by rw [HN.out]; omega)
      have hno2 := HM.out.nodes
      have hon2 := HM.out.on
      rw [HN.out] at e1 e2 hno2 hon2
      cases e1
      cases e2
      have d0 := hno2.cellAt m (by omega)
      have d1 := hon2.cellAt m (by omega)
      rw [show (mrN M)[m]? = some (.int .i64 p.1) by unfold mrN; rw [List.getElem?_map, hp]; rfl] at d0
      rw [show (mrB M)[m]? = some (.bool p.2) by unfold mrB; rw [List.getElem?_map, hp]; rfl] at d1
      obtain ⟨pn, pb⟩ := p
      simp only at d0 d1 hg
      by_cases hx : pn = hd
      · have HR := Lib.hid (show lastM M hd = some pb from by rw [if_pos hx] at hg; exact lastM_some hg)
        subst hx
        clear hno hp hg hno2 hon2
        go_wp2_with fail
        go_ret2
        rw [HR.out]
        exact ⟨rfl, HB.out⟩
      · have e0 : (pn == hd) = false := by simpa using hx
        rw [if_neg hx] at hg
        have HG := Lib.hid hg
        clear hno hp hg hx hno2 hon2
        go_wp2_with fail
        go_round
        case rel => exact ⟨m, by omega, by go_num, HG.out⟩
        case measure => simp [intOf]
theorem lastA_snoc (u : Int → Option Bool) (at_ : Int → Bool) (l : List Int) (x z : Int) : lastA u at_ (l ++ [x]) z = if at_ x = true ∧ u x = none then x else lastA u at_ l z := by
  induction l generalizing z with
  | nil => rfl
  | cons y l ih => exact ih _
section
variable {B R : Nat} {S : Tr} {sv fv : Value} {w : World} {K : Nat → List Nat} {d : Nat → Nat}
set_option maxRecDepth 100000 in
set_option maxHeartbeats 8000000 in
theorem mchecked_any (D : DcOk S K d) (h : TAt B R S sv fv w) {va vb : Value} {M : List (Int × Bool)} (hm : MkAt w va vb M) (hl : M.length ≤ 100000) (i : Nat) (n : Nd) (hi : S.at i = some n) :
    Calls Tryz.prog 35 #[.agg #[va, vb], .pointer (some ⟨R, 0, none⟩), .int .i64 (S.hd i)] w fun e w' => e = .returned (.bool (chkd (gH S K d) (rdH S) (atH S) (lastM M) (S.hd i))) ∧ Below w.heap.size w w' := by
  obtain ⟨aa, ac, rfl⟩ := own_shapeB hm.nodes
  obtain ⟨ba, bc, rfl⟩ := own_shapeB hm.on
  have hgh := gH_hd D hi
  have hrd := rdH_hd D hi
  have hat := atH_hd D hi
  have HMk := Lib.hid (fun (hd : Int) (wx : World) (hb : Below w.heap.size w wx) => mark_any (hm.below hb) hd hl)
  have HSa := Lib.hid (fun (x : Nat) (nx : Nd) (hx : S.at x = some nx) (wx : World) (hb : Below w.heap.size w wx) => sattr_any (h.below hb) D.lk x nx hx (D.al x nx hx) sChecked)
  have HKi := Lib.hid (fun (wx : World) (hb : Below w.heap.size w wx) => skindL_any (h.below hb) D.lk i n hi (D.al i n hi))
  have HGr := Lib.hid (fun (wx : World) (hb : Below w.heap.size w wx) => sgroup_any D (h.below hb) i n hi)
  have HSi := Lib.hid (HSa.out i n hi)
  rw [D.attL hi] at HSi
  have hty := tyN_radio (D.nm i n hi)
  have hgl := grp_len D i n
  have HLv := Lib.hid (fun x (hx : x ∈ grp S K d i n) => (show ∃ nx, S.at x = some nx ∧ (attL nx.attrs sChecked).isSome = atH S (S.hd x) from by
    obtain ⟨nx, hnx⟩ := Option.isSome_iff_exists.1 (grp_live D hi x hx)
    exact ⟨nx, hnx, by rw [atH_hd D hnx, D.attL hnx]⟩))
  obtain ⟨kk, hkk⟩ : ∃ kk, chkd (gH S K d) (rdH S) (atH S) (lastM M) (S.hd i) = kk := ⟨_, rfl⟩
  rw [hkk]
  unfold chkd at hkk
  rw [hgh, hrd, hat, ← hty] at hkk
  have hb1 := (Below.refl w.heap.size w).alloc (Nat.le_refl _) (.cells #[.slice aa M.length ac, .slice ba M.length bc] 65)
  have kb := Blk.new w [.slice aa M.length ac, .slice ba M.length bc] 65
  generalize grp S K d i n = gl at *
  generalize tyN n = ty at *
  generalize attV n sChecked = ck at *
  generalize hu : lastM M = u at *
  generalize S.hd i = hd at *
  have HKK := Lib.hid hkk
  clear hkk
  have HB1 := Lib.hid hb1
  have HKb := Lib.hid kb
  clear h hm hi hgh hrd hat hty hb1 kb hl
  generalize M.length = ml at *
  have k0 := HKb.out.cell 0
  have k1 := HKb.out.cell 1
  simp only [List.getElem?_cons_succ, List.getElem?_cons_zero] at k0 k1
  cases hur : u hd with
  | some b =>
    have HU := Lib.hid hur
    have HR := Lib.hid (show kk = b from by rw [← HKK.out, hur])
    clear hur HKK
    go_enter Tryz.func35, Tryz.ntmps35
    go_wp2_with fail
    refine (HMk.out _ _ HB1.out).mono ?_
    rintro e w2 ⟨rfl, hb2⟩
    rw [HU.out]
    simp only [Option.getD_some, Option.isSome_some]
    have HB2 := Lib.hid (bthen HB1.out hb2)
    clear hb2 k0 k1
    go_wp2_with fail
    go_ret
    rw [HR.out]
    exact ⟨rfl, HB2.out⟩
  | none =>
    have HU := Lib.hid hur
    have hkn := HKK.out
    rw [hur] at hkn
    simp only [] at hkn
    clear HKK
    have HKK := Lib.hid hkn
    clear hur hkn
    go_enter Tryz.func35, Tryz.ntmps35
    go_wp2_with fail
    refine (HMk.out _ _ HB1.out).mono ?_
    rintro e w2 ⟨rfl, hb2⟩
    rw [HU.out]
    simp only [Option.getD_none, Option.isSome_none]
    have HB2 := Lib.hid (bthen HB1.out hb2)
    have HKb2 := Lib.hid (HKb.out.below hb2)
    have HS2 := Lib.hid (HSi.out _ HB2.out)
    clear hb2 k0 k1 HKb HSi
    go_wp2_with fail
    refine HS2.out.mono ?_
    rintro e w3 ⟨rfl, hb3⟩
    have HB3 := Lib.hid (bthen HB2.out hb3)
    have HKb3 := Lib.hid (HKb2.out.below hb3)
    have HK3 := Lib.hid (HKi.out _ HB3.out)
    clear hb3 HKb2 HS2 HKi
    generalize hcs : ck.isSome = cs at *
    go_wp2_with fail
    refine HK3.out.mono ?_
    rintro e w4 ⟨rfl, hb4⟩
    have HB4 := Lib.hid (bthen HB3.out hb4)
    have HKb4 := Lib.hid (HKb3.out.below hb4)
    clear hb4 HKb3 HK3 hcs
    by_cases hr : (ty == sRadio) = true
    · have e1 : (ty == [114, 97, 100, 105, 111]) = true := hr
      have e2 : (ty != [114, 97, 100, 105, 111]) = false := by rw [bne, e1]; rfl
      have hkn := HKK.out
      rw [hr] at hkn
      clear hr HKK
      cases cs with
      | false =>
        have HR := Lib.hid (show kk = false from by rw [← hkn, if_neg (fun q => by cases q.2)])
        clear hkn
        go_wp2_with fail
        go_ret
        rw [HR.out]
        exact ⟨rfl, HB4.out⟩
      | true =>
        rw [if_pos ⟨rfl, rfl⟩] at hkn
        have HKK := Lib.hid hkn
        clear hkn
        have HG4 := Lib.hid (HGr.out _ HB4.out)
        clear HGr
        go_wp2_with fail
        refine HG4.out.mono ?_
        rintro e w5 ⟨v, rfl, hv, hb5⟩
        obtain ⟨va, vc, rfl⟩ := own_shapeB hv
        have HV := Lib.hid hv
        have HB5 := Lib.hid (bthen HB4.out hb5)
        have HKb5 := Lib.hid (HKb4.out.below hb5)
        clear hv hb5 HG4 HKb4
        go_wp2_with fail
        go_loopw [12, 47] (fun zv iv wr => ∃ (t : Nat), t ≤ gl.length ∧ iv = .int .i64 (t : Int) ∧ zv = .int .i64 (lastA u (atH S) ((gl.take t).map S.hd) hd) ∧ (∀ x ∈ gl.take t, u (S.hd x) ≠ some true) ∧ Below w5.heap.size w5 wr) (fun _ iv _ => gl.length - (intOf iv).toNat)
        case atStart => exact ⟨0, by omega, rfl, rfl, fun x hx => by simp at hx, Below.refl _ _⟩
        case round =>
          obtain ⟨t, ht, rfl, rfl, hall, hb⟩ := hrel
          have HBr := Lib.hid hb
          have HAll := Lib.hid hall
          clear hb hall
          by_cases htl : t < gl.length
          · obtain ⟨k, hk⟩ : ∃ k, gl[t]? = some k := ⟨_, List.getElem?_eq_getElem htl⟩
            obtain ⟨nk, hnk, hatk⟩ := HLv.out k (List.mem_of_getElem? hk)
            obtain ⟨vg, rfl, _, hvc, ck⟩ := hdC_get (own_keepB HV.out HBr.out) hk
            have hbw := bthen HB5.out HBr.out
            have kr := HKb5.out.below HBr.out
            have k0 := kr.cell 0
            have k1 := kr.cell 1
            simp only [List.getElem?_cons_succ, List.getElem?_cons_zero] at k0 k1
            have htk : gl.take (t + 1) = gl.take t ++ [k] := by rw [List.take_add_one, hk]; rfl
            have hsn := lastA_snoc u (atH S) ((gl.take t).map S.hd) (S.hd k) hd
            rw [show (gl.take t).map S.hd ++ [S.hd k] = (gl.take (t + 1)).map S.hd by rw [htk, List.map_append]; rfl] at hsn
            have HSn := Lib.hid hsn
            have HTk := Lib.hid htk
            have HMk1 := Lib.hid (fun wx (hb : Below wr.heap.size wr wx) => HMk.out (S.hd k) wx (bthen hbw hb))
            have HS1 := Lib.hid (fun wx (hb : Below wr.heap.size wr wx) => HSa.out k nk hnk wx (bthen hbw hb))
            rw [hatk] at HS1
            generalize lastA u (atH S) ((gl.take t).map S.hd) hd = la at *
            generalize atH S (S.hd k) = ak at *
            have HMem := Lib.hid (List.mem_of_getElem? hk)
            clear hbw hk hnk hatk hsn htk kr
            have y0 := fun (x : InS (StB wr)) => cell_keep x.h k0
            have y1 := fun (x : InS (StB wr)) => cell_keep x.h k1
            have yk := fun (x : InS (StB wr)) => cell_keep x.h ck
            have hne := stb_ne wr
            go_upto_region 12 with fail
            refine reg_f (fun _ _ => True) (fun _ v => v = .tuple #[.bool ((u (S.hd k)).getD false), .bool (u (S.hd k)).isSome]) 11 (by kernel_rfl) (by kernel_rfl) (fun _ _ _ _ _ => trivial) trivial ?_
            simp only [List.take_succ_cons, List.take_zero, List.drop_succ_cons, List.drop_zero]
            repeat (first
              | (refine RV.m_held (by rfl) (by rfl) (fun K hK => ?_); go_big_quiet_step (fail); refine wpQuiet_nil ?_; refine hK.out _ ?_; clear hK K)
              | (refine RV.m_skip (by rfl) ?_; simp only [Act.put, List.setIfInBounds_toArray, List.set_cons_zero, List.set_cons_succ]))
            refine RV.m_call (by rfl) (by rfl) (fun w => by go_simp; exact ⟨rfl, rfl⟩) (⟨_, rfl⟩) (fun X wx hx => ?_) (fun v hv => ?_)
            · refine (HMk1.out _ hx.1).mono ?_
              rintro e wy ⟨rfl, hb⟩
              exact ⟨_, rfl, rfl, bthen hx.1 hb, trivial⟩
            obtain rfl : v = .tuple #[.bool ((u (S.hd k)).getD false), .bool (u (S.hd k)).isSome] := hv
            simp only [Act.put, List.setIfInBounds_toArray, List.set_cons_zero, List.set_cons_succ]
            repeat (first
              | (refine RV.m_held (by rfl) (by rfl) (fun K hK => ?_); go_big_quiet_step (fail); refine wpQuiet_nil ?_; refine hK.out _ ?_; clear hK K)
              | (refine RV.m_skip (by rfl) ?_; simp only [Act.put, List.setIfInBounds_toArray, List.set_cons_zero, List.set_cons_succ]))
            refine RV.m_nil ?_
            intro w6 hb6 _
            have hb6 : Below wr.heap.size wr w6 := hb6
            have ck6 := cell_keep hb6 ck
            have HS6 := Lib.hid (HS1.out _ hb6)
            have HB6 := Lib.hid (bthen HBr.out hb6)
            clear y0 y1 yk hne hb6 k0 k1 HMk1 HS1 ck
            generalize huk : u (S.hd k) = uk at *
            have HUk := Lib.hid huk
            clear huk
            rcases uk with _ | b
            · simp only [Option.getD_none, Option.isSome_none]
              go_wp2_with fail
              refine HS6.out.mono ?_
              rintro e w7 ⟨rfl, hb7⟩
              have ck7 := cell_keep hb7 ck6
              have HB7 := Lib.hid (bthen HB6.out hb7)
              clear hb7 HS6 ck6
              have hall2 : ∀ x ∈ gl.take (t + 1), u (S.hd x) ≠ some true := by
                rw [HTk.out]
                intro x hx
                rcases List.mem_append.1 hx with hx | hx
                · exact HAll.out x hx
                · rw [List.mem_singleton] at hx; subst hx; rw [HUk.out]; simp
              have HAll2 := Lib.hid hall2
              clear hall2
              cases ak with
              | true =>
                have HL := Lib.hid (show lastA u (atH S) ((gl.take (t + 1)).map S.hd) hd = S.hd k from by rw [HSn.out]; simp)
                go_wp2_with fail
                go_roundw
                case rel => exact ⟨t + 1, by omega, by go_num, by rw [HL.out], HAll2.out, HB7.out⟩
                case measure => simp [intOf]; omega
              | false =>
                have HL := Lib.hid (show lastA u (atH S) ((gl.take (t + 1)).map S.hd) hd = la from by rw [HSn.out]; simp)
                go_wp2_with fail
                go_roundw
                case rel => exact ⟨t + 1, by omega, by go_num, by rw [HL.out], HAll2.out, HB7.out⟩
                case measure => simp [intOf]; omega
            · simp only [Option.getD_some, Option.isSome_some]
              cases b with
              | true =>
                go_wp2_with fail
                go_ret
                refine ⟨?_, bthen HB5.out HB6.out⟩
                have : radioS u (atH S) hd (gl.map S.hd) = false := by
                  unfold radioS
                  rw [decide_eq_false (fun q => q (S.hd k) (List.mem_map_of_mem HMem.out) HUk.out)]
                  rfl
                rw [← HKK.out, this]
                rfl
              | false =>
                have HL := Lib.hid (show lastA u (atH S) ((gl.take (t + 1)).map S.hd) hd = la from by rw [HSn.out]; simp)
                have hall2 : ∀ x ∈ gl.take (t + 1), u (S.hd x) ≠ some true := by
                  rw [HTk.out]
                  intro x hx
                  rcases List.mem_append.1 hx with hx | hx
                  · exact HAll.out x hx
                  · rw [List.mem_singleton] at hx; subst hx; rw [HUk.out]; simp
                have HAll2 := Lib.hid hall2
                clear hall2
                go_wp2_with fail
                refine HS6.out.mono ?_
                rintro e w7 ⟨rfl, hb7⟩
                have ck7 := cell_keep hb7 ck6
                have HB7 := Lib.hid (bthen HB6.out hb7)
                clear hb7 HS6 ck6
                cases ak with
                | true =>
                  go_wp2_with fail
                  go_roundw
                  case rel => exact ⟨t + 1, by omega, by go_num, by rw [HL.out], HAll2.out, HB7.out⟩
                  case measure => simp [intOf]; omega
                | false =>
                  go_wp2_with fail
                  go_roundw
                  case rel => exact ⟨t + 1, by omega, by go_num, by rw [HL.out], HAll2.out, HB7.out⟩
                  case measure => simp [intOf]; omega
          · obtain rfl : t = gl.length := by omega
            rw [List.take_length] at HAll ⊢
            have hrs : radioS u (atH S) hd (gl.map S.hd) = (lastA u (atH S) (gl.map S.hd) hd == hd) := by
              unfold radioS
              rw [decide_eq_true (fun x hx => by
                obtain ⟨y, hy, rfl⟩ := List.mem_map.1 hx
                exact HAll.out y hy)]
              rfl
            have HR := Lib.hid (HKK.out.symm.trans hrs)
            generalize lastA u (atH S) (gl.map S.hd) hd = la at *
            clear hrs
            go_wp2_with fail
            go_ret
            refine ⟨?_, bthen HB5.out HBr.out⟩
            rw [HR.out]
            rfl
    · rw [Bool.not_eq_true] at hr
      have e1 : (ty == [114, 97, 100, 105, 111]) = false := hr
      have e2 : (ty != [114, 97, 100, 105, 111]) = true := by rw [bne, e1]; rfl
      have HR := Lib.hid (show kk = cs from by rw [← HKK.out, hr, if_neg (fun q => by cases q.1)])
      clear hr HKK
      go_wp2_with fail
      go_ret
      rw [HR.out]
      exact ⟨rfl, HB4.out⟩
end
end Go.Proofs.YtacdbnhnhdlmpaaGreatDoor.W
end
