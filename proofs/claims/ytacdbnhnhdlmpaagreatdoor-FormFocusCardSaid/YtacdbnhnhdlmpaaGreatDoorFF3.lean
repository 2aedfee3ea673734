/- Texts joined: FcS. -/
import Derived.Test.YtacdbnhnhdlmpaaGreatDoorFF2
import Derived.Deep.Cut
set_option maxRecDepth 100000
set_option maxHeartbeats 40000000
set_option linter.unusedVariables false
set_option linter.unusedSimpArgs false
section
namespace Go.Proofs.YtacdbnhnhdlmpaaGreatDoor.W
open Go.RowKit
theorem byte_min {tr : List UInt8} (a : UInt8) : ((a.toNat : Int) != 45) = noMi (a :: tr) := by
  unfold noMi
  rw [show (a :: tr).take 1 = [a] from rfl]
  by_cases e : a = 45
  · subst e; rfl
  · have h1 : ¬ a.toNat = 45 := fun q => e (UInt8.toNat_inj.1 q)
    have h2 : ((a.toNat : Int) != 45) = true := by simpa using (by omega : ¬ (a.toNat : Int) = 45)
    rw [h2]
    have h3 : ([a] == [45]) = false := by simpa using e
    rw [h3]; rfl
section
variable {B R : Nat} {S : Tr} {sv fv : Value} {w : World} {K : Nat → List Nat} {d : Nat → Nat}
set_option maxRecDepth 100000 in
set_option maxHeartbeats 32000000 in
theorem sfocusable_any (D : DcOk S K d) (h : TAt B R S sv fv w) :
    Calls Tryz.prog 52 #[.pointer (some ⟨R, 0, none⟩)] w fun e w' => ∃ v, e = .returned v ∧ w'.ownsRow w.heap.size 3 1 v (focL S K d).length (hdC S (focL S K d)) ∧ Below w.heap.size w w' := by
  obtain ⟨n0, hn0⟩ := Option.isSome_iff_exists.1 D.live0
  obtain ⟨gs, cap, rfl⟩ := slots_some h (by have := at_lt hn0; omega)
  have HKi := Lib.hid (fun (x : Nat) (nx : Nd) (hx : S.at x = some nx) (wx : World) (hb : Below w.heap.size w wx) => skind_any (h.below hb) D.lk x nx hx (D.al x nx hx) (D.nm x nx hx))
  have HSn := Lib.hid (fun (x : Nat) (nx : Nd) (hx : S.at x = some nx) (wx : World) (hb : Below w.heap.size w wx) => snode_some (h.below hb) (S.hd x) (hd_ok D.lk hx).1 (hd_ix D.lk hx) (at_slot hx))
  have HAs := Lib.hid (fun (x : Nat) (nx : Nd) (hx : S.at x = some nx) => h.attrs x nx (at_slot hx))
  have HSa := Lib.hid (fun (x : Nat) (nx : Nd) (hx : S.at x = some nx) (ky : List UInt8) (wx : World) (hb : Below w.heap.size w wx) => sattr_any (h.below hb) D.lk x nx hx (D.al x nx hx) ky)
  have HAv := Lib.hid (fun (x : Nat) (nx : Nd) (hx : S.at x = some nx) (ky : List UInt8) => D.attL hx ky)
  have HNm := Lib.hid (fun (x : Nat) (nx : Nd) (hx : S.at x = some nx) => D.nm x nx hx)
  have HOr := Lib.hid (fun (wx : World) (hb : Below w.heap.size w wx) => order_any D (h.below hb))
  have HIs := Lib.hid (fun (x : Nat) (nx : Nd) (hx : S.at x = some nx) => focP_at hx)
  have hlv : ∀ x ∈ ord K d, ∃ nx, S.at x = some nx := fun x hx => Option.isSome_iff_exists.1 (D.ord_live hx)
  have hol := D.ord_len
  unfold focL
  clear h hn0 D
  generalize ord K d = ol at *
  go_enter Tryz.func52, Tryz.ntmps52
  go_wp2_with fail
  refine (HOr.out _ (Below.refl _ _)).mono ?_
  rintro e w2 ⟨v, rfl, hv, hb2⟩
  obtain ⟨oa, oc, rfl⟩ := own_shapeB hv
  have HV := Lib.hid hv
  have HB2 := Lib.hid hb2
  clear hv hb2 HOr
  go_wp2_with fail
  go_loopw [3, 21] (fun ov iv wr => ∃ (t : Nat), t ≤ ol.length ∧ iv = .int .i64 (t : Int) ∧ wr.ownsRow w2.heap.size 3 1 ov ((ol.take t).filter (focP S)).length (hdC S ((ol.take t).filter (focP S))) ∧ Below w2.heap.size w2 wr) (fun _ iv _ => ol.length - (intOf iv).toNat)
  case atStart => exact ⟨0, by omega, rfl, World.ownsRow_nil _ _ _ _, Below.refl _ _⟩
  case round =>
    obtain ⟨t, ht, rfl, hown, hb⟩ := hrel
    obtain ⟨ra, rc, rfl⟩ := own_shapeB hown
    have HO := Lib.hid hown
    have HBr := Lib.hid hb
    clear hown hb
    by_cases htl : t < ol.length
    · obtain ⟨k, hk⟩ : ∃ k, ol[t]? = some k := ⟨_, List.getElem?_eq_getElem htl⟩
      obtain ⟨nk, hnk⟩ := hlv k (List.mem_of_getElem? hk)
      obtain ⟨vg, rfl, _, hvc, ck0⟩ := hdC_get (own_keepB HV.out HBr.out) hk
      have hbw := bthen HB2.out HBr.out
      have HN1 := Lib.hid (HSn.out k nk hnk _ hbw)
      have HA1 := Lib.hid (fun wx (hb : Below wr.heap.size wr wx) => HSa.out k nk hnk sDisabled wx (bthen hbw hb))
      rw [HAv.out k nk hnk sDisabled] at HA1
      have HA2 := Lib.hid (fun wx (hb : Below wr.heap.size wr wx) => HSa.out k nk hnk sHref wx (bthen hbw hb))
      rw [HAv.out k nk hnk sHref] at HA2
      have HA3 := Lib.hid (fun wx (hb : Below wr.heap.size wr wx) => HSa.out k nk hnk sTabI wx (bthen hbw hb))
      rw [HAv.out k nk hnk sTabI] at HA3
      have HK1 := Lib.hid (fun wx (hb : Below wr.heap.size wr wx) => HKi.out k nk hnk wx (bthen hbw hb))
      have hisr := HIs.out k nk hnk
      have hnmk := HNm.out k nk hnk
      obtain ⟨aa, ac, hav, _⟩ := HAs.out k nk hnk
      have hfs := filter_snoc (focP S) (ol.take t) k
      rw [show ol.take t ++ [k] = ol.take (t + 1) by rw [List.take_add_one, hk]; rfl] at hfs
      have hfl : ((ol.take t).filter (focP S)).length ≤ 100 := by
        have := List.length_filter_le (focP S) (ol.take t)
        rw [List.length_take] at this
        omega
      unfold focN at hisr
      have HFs := Lib.hid hfs
      generalize (ol.take t).filter (focP S) = fl at *
      generalize hpk : focP S k = pk at *
      generalize (attV nk sDisabled).getD [] = dsv at *
      generalize (attV nk sDisabled).isSome = dis at *
      generalize (attV nk sHref).getD [] = hrv at *
      generalize (attV nk sHref).isSome = hr at *
      generalize (attV nk sTabI).getD [] = tv at *
      generalize (attV nk sTabI).isSome = th at *
      generalize kindN nk = kx at *
      obtain ⟨nkk, nm, nav, nal, nda, np, nf, nl, npv, nx⟩ := nk
      simp only at hav hnmk hisr
      subst hav
      have HIr := Lib.hid hisr
      have HNk := Lib.hid hnmk
      clear hbw hk hnk hisr hfs hpk hnmk
      go_wp2_with fail
      refine HN1.out.mono ?_
      rintro e w4 ⟨rfl, hb4⟩
      simp only [ndC, strV]
      have hbr4 := hb4.alloc hb4.size (.cells #[.int .i64 nkk, .string ⟨nm.toArray⟩, .slice aa nal.length ac, .string ⟨nda.toArray⟩, .int .i64 np, .int .i64 nf, .int .i64 nl, .int .i64 npv, .int .i64 nx] 135)
      have HKn := Lib.hid (Blk.new w4 [.int .i64 nkk, .string ⟨nm.toArray⟩, .slice aa nal.length ac, .string ⟨nda.toArray⟩, .int .i64 np, .int .i64 nf, .int .i64 nl, .int .i64 npv, .int .i64 nx] 135)
      have ck4 := cell_keep hbr4 ck0
      have Hb4 := Lib.hid hbr4
      clear hb4 hbr4 HN1 ck0
      go_upto_region 7 with fail
      generalize w4.alloc (.cells #[.int .i64 nkk, .string ⟨nm.toArray⟩, .slice aa nal.length ac, .string ⟨nda.toArray⟩, .int .i64 np, .int .i64 nf, .int .i64 nl, .int .i64 npv, .int .i64 nx] 135) = w5 at *
      generalize w4.heap.size = gn at *
      go_wp2_with fail
      refine (HA1.out _ Hb4.out).mono ?_
      rintro e w6 ⟨rfl, hb6⟩
      have Hb6 := Lib.hid (bthen Hb4.out hb6)
      have HKn6 := Lib.hid (HKn.out.below hb6)
      have ck6 := cell_keep hb6 ck4
      clear hb6 HKn HA1 ck4
      go_wp2_with fail
      refine (HA2.out _ Hb6.out).mono ?_
      rintro e w7 ⟨rfl, hb7⟩
      have Hb7 := Lib.hid (bthen Hb6.out hb7)
      have HKn7 := Lib.hid (HKn6.out.below hb7)
      have ck7 := cell_keep hb7 ck6
      clear hb7 HKn6 HA2 ck6
      go_wp2_with fail
      refine (HA3.out _ Hb7.out).mono ?_
      rintro e w8 ⟨rfl, hb8⟩
      have Hb8 := Lib.hid (bthen Hb7.out hb8)
      have HKn8 := Lib.hid (HKn7.out.below hb8)
      have ck8 := cell_keep hb8 ck7
      clear hb8 HKn7 HA3 ck7
      go_wp2_with fail
      refine (HK1.out _ Hb8.out).mono ?_
      rintro e w9 ⟨rfl, hb9⟩
      have Hb9 := Lib.hid (bthen Hb8.out hb9)
      have ck9 := cell_keep hb9 ck8
      have c0 := (HKn8.out.below hb9).cell 0
      have c1 := (HKn8.out.below hb9).cell 1
      simp only [List.getElem?_cons_zero, List.getElem?_cons_succ] at c0 c1
      clear hb9 HKn8 HK1 ck8 Hb4 Hb6 Hb7 Hb8
      obtain ⟨fld, hfld⟩ : ∃ fld : Bool, (!(kx == 0) && (!(kx == 5) && !dis)) = fld := ⟨_, rfl⟩
      have HFl := Lib.hid hfld
      have hir2 := HIr.out
      rw [hfld] at hir2
      clear hfld HIr
      go_upto_region 11 with fail
      go_cut [15] (fun cv wx => cv = .bool fld ∧ wx = w9)
      case first =>
        by_cases h0 : kx = 0
        · have e0 : ((kx : Int) != 0) = false := by simp [h0]
          have HE := Lib.hid (show fld = false from by rw [← HFl.out]; simp [h0])
          clear h0 HFl hir2
          go_wp2_with fail
          go_meet
          exact ⟨by rw [HE.out], rfl⟩
        · have e0 : ((kx : Int) != 0) = true := by simp; omega
          by_cases h5 : kx = 5
          · have e5 : ((kx : Int) != 5) = false := by simp [h5]
            have HE := Lib.hid (show fld = false from by rw [← HFl.out]; simp [h5])
            clear h0 h5 HFl hir2
            go_wp2_with fail
            go_meet
            exact ⟨by rw [HE.out], rfl⟩
          · have e5 : ((kx : Int) != 5) = true := by simp; omega
            have HE := Lib.hid (show fld = !dis from by rw [← HFl.out, beq_false_of_ne h0, beq_false_of_ne h5]; rfl)
            clear h0 h5 HFl hir2
            go_wp2_with fail
            go_meet
            exact ⟨by rw [HE.out], rfl⟩
      case rest =>
      obtain ⟨rfl, hw⟩ := hcut
      rw [hw]
      clear hw HFl
      obtain ⟨lk, hlk⟩ : ∃ lk : Bool, (nm == sA && hr) = lk := ⟨_, rfl⟩
      have HLk := Lib.hid hlk
      rw [hlk] at hir2
      have HIr := Lib.hid hir2
      clear hlk hir2
      go_upto_region 12 with fail
      go_cut [16] (fun cv wx => cv = .bool lk ∧ wx = w9)
      case first =>
        by_cases hk2 : nkk = 2
        · have e2 : (nkk == 2) = true := by simp [hk2]
          by_cases ha : nm = sA
          · have ea : (nm == [97]) = true := beqT ha
            have HE := Lib.hid (show lk = hr from by rw [← HLk.out, ha]; simp)
            clear hk2 ha HLk
            go_wp2_with fail
            go_meet
            exact ⟨by rw [HE.out], rfl⟩
          · have ea : (nm == [97]) = false := beqF ha
            have HE := Lib.hid (show lk = false from by rw [← HLk.out, show (nm == sA) = false from ea]; rfl)
            clear hk2 ha HLk
            go_wp2_with fail
            go_meet
            exact ⟨by rw [HE.out], rfl⟩
        · have e2 : (nkk == 2) = false := by simpa using hk2
          have HE := Lib.hid (show lk = false from by rw [← HLk.out, HNk.out hk2]; rfl)
          clear hk2 HLk
          go_wp2_with fail
          go_meet
          exact ⟨by rw [HE.out], rfl⟩
      case rest =>
      obtain ⟨rfl, hw⟩ := hcut
      rw [hw]
      clear hw HLk c0 c1 HNk
      go_upto_region 13 with fail
      go_cut [102] (fun cv wx => cv = .bool pk ∧ wx = w9)
      case first =>
        cases fld with
        | true =>
          have HE := Lib.hid (show pk = true from by rw [HIr.out]; rfl)
          clear HIr
          go_wp2_with fail
          go_meet
          exact ⟨by rw [HE.out], rfl⟩
        | false =>
          cases lk with
          | true =>
            have HE := Lib.hid (show pk = true from by rw [HIr.out]; rfl)
            clear HIr
            go_wp2_with fail
            go_meet
            exact ⟨by rw [HE.out], rfl⟩
          | false =>
            cases th with
            | false =>
              have HE := Lib.hid (show pk = false from by rw [HIr.out]; rfl)
              clear HIr
              go_wp2_with fail
              go_meet
              exact ⟨by rw [HE.out], rfl⟩
            | true =>
              have HE := Lib.hid (show pk = noMi tv from by rw [HIr.out]; rfl)
              clear HIr
              cases tv with
              | nil =>
                go_wp2_with fail
                go_meet
                exact ⟨by rw [HE.out]; rfl, rfl⟩
              | cons a tr =>
                go_wp2_with fail
                go_meet
                exact ⟨by rw [HE.out]; exact congrArg Value.bool (byte_min a), rfl⟩
      case rest =>
      obtain ⟨rfl, hw⟩ := hcut
      rw [hw]
      clear hw HIr
      have HO9 := Lib.hid (own_keepB HO.out Hb9.out)
      have HBr9 := Lib.hid (bthen HBr.out Hb9.out)
      cases pk with
      | true =>
        have HWx := Lib.hid (own_at (n := 1) (size := 1) (Blk.new w9 [.int .i64 (S.hd k)] 3) rfl (by omega))
        have HO8 := Lib.hid (own_keepB HO9.out ((Below.refl w9.heap.size w9).alloc (Nat.le_refl _) (.cells #[.int .i64 (S.hd k)] 3)))
        have hB8 := bthen HBr9.out ((Below.refl w9.heap.size w9).alloc (Nat.le_refl _) (.cells #[.int .i64 (S.hd k)] 3))
        have HB8 := Lib.hid hB8
        have hsz := hB8.size
        have hlt4 := fun g (hg : (Value.slice ra fl.length rc).ownBlock = some g) => (HO8.out.lt g hg).1
        clear hB8
        go_wp2_with (at_builtin; refine wpList_append_B etI HO8.out hsz HWx.out (by intro u hu; simp at hu; subst hu; rfl) (by omega) (by omega) rfl _ _ rfl rfl rfl ?_)
        intro v' w10 ho10 hg10 _
        have HO10 := Lib.hid ho10
        have HB10 := Lib.hid (HB8.out.grown hg10 hsz (fun k hk => hlt4 k hk))
        clear ho10 hg10 hlt4
        go_wp2_with fail
        go_roundw
        case rel =>
          refine ⟨t + 1, by omega, by go_num, ?_, HB10.out⟩
          rw [HFs.out, if_pos trivial, List.length_append, ← hdC_app]
          exact HO10.out
        case measure => simp [intOf]; omega
      | false =>
        go_wp2_with fail
        go_roundw
        case rel =>
          refine ⟨t + 1, by omega, by go_num, ?_, HBr9.out⟩
          rw [HFs.out]
          exact HO9.out
        case measure => simp [intOf]; omega
    · obtain rfl : t = ol.length := by omega
      rw [List.take_length] at HO ⊢
      go_wp2_with fail
      go_ret
      exact ⟨_, rfl, own_low HO.out HB2.out.size, bthen HB2.out HBr.out⟩
end
end Go.Proofs.YtacdbnhnhdlmpaaGreatDoor.W
end
