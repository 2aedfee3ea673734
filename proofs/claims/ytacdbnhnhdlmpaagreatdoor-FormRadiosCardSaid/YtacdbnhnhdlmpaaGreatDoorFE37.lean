/- Texts joined: Spw Spc Mut Make MakeT DocM MkA Grw. -/
import Derived.Test.YtacdbnhnhdlmpaaGreatDoorFE33
import Derived.Test.YtacdbnhnhdlmpaaGreatDoorFE36
import Derived.Test.YtacdbnhnhdlmpaaGreatDoorFE17
import Derived.Test.YtacdbnhnhdlmpaaGreatDoorFE28
import Derived.Test.YtacdbnhnhdlmpaaGreatDoorFE18
import Derived.LoopTactic
import Derived.RegionTactic
import Derived.Test.YtacdbnhnhdlmpaaGreatDoorFE34
import Derived.Test.YtacdbnhnhdlmpaaGreatDoorFE6
import Derived.Test.YtacdbnhnhdlmpaaGreatDoorFE13
import Derived.Deep.CutBlock
import Derived.Test.YtacdbnhnhdlmpaaGreatDoorFE12
import Derived.Test.YtacdbnhnhdlmpaaGreatDoorFE9
import Derived.Test.YtacdbnhnhdlmpaaGreatDoorFE20
import Derived.Test.YtacdbnhnhdlmpaaGreatDoorFE32
set_option maxRecDepth 100000
set_option maxHeartbeats 40000000
set_option linter.unusedVariables false
set_option linter.unusedSimpArgs false
section
namespace Go.Proofs.YtacdbnhnhdlmpaaGreatDoor.W
open Go.RowKit
def hdC (S : Tr) (l : List Nat) : List Value := l.map fun i => Value.int .i64 (S.hd i)
theorem hdC_app (S : Tr) (a b : List Nat) : hdC S a ++ hdC S b = hdC S (a ++ b) := by simp [hdC]
theorem hdC_one (S : Tr) (l : List Nat) : ∀ u ∈ hdC S l, u.oneCell' = true := by
  intro u hu
  obtain ⟨i, _, rfl⟩ := List.mem_map.1 hu
  rfl
def sliceN : Value → Nat
  | .slice _ n _ => n
  | _ => 0
theorem hO_none {S : Tr} : hO S none = 0 := rfl
theorem hO_some {S : Tr} {k : Nat} : hO S (some k) = S.hd k := rfl
section
variable {B R : Nat} {S : Tr} {sv fv : Value} {K : Nat → List Nat} {d : Nat → Nat}
set_option maxRecDepth 100000 in
set_option maxHeartbeats 8000000 in
theorem swalk_any (hL : Lk S K d) (hN : ∀ f i n, S.at i = some n → (wlk K f i).length ≤ 100000) (hal : ∀ i n, S.at i = some n → n.attrs.length ≤ 1000) : ∀ (f i : Nat) (n : Nd), S.at i = some n → 128 - d i = f → ∀ w, TAt B R S sv fv w →
    Calls Tryz.prog 126 #[.pointer (some ⟨R, 0, none⟩), .int .i64 (S.hd i)] w fun e w' => ∃ v, e = .returned v ∧ w'.ownsRow w.heap.size 3 1 v (wlk K f i).length (hdC S (wlk K f i)) ∧ Below w.heap.size w w' := by
  intro f
  induction f using Nat.strongRecOn with
  | ind f ih =>
    intro i n hi hf w h
    obtain ⟨g, cap, rfl⟩ := slots_some h (by have := at_lt hi; omega)
    have HNo := Lib.hid (fun (k : Nat) (nk : Nd) (hk : S.at k = some nk) (wx : World) (hx : Below w.heap.size w wx) => snode_some (h.below hx) (S.hd k) (hd_ok hL hk).1 (hd_ix hL hk) (at_slot hk))
    have hkd : ∀ k ∈ K i, ∃ nk, S.at k = some nk := fun k hk => Option.isSome_iff_exists.1 (hL.kin i k hk).2
    have hlow := hL.low i
    have HC := Lib.hid (fun (k : Nat) (hk : k ∈ K i) (wx : World) (hx : Below w.heap.size w wx) => (show
        Calls Tryz.prog 126 #[.pointer (some ⟨R, 0, none⟩), .int .i64 (S.hd k)] wx fun e w' => ∃ v, e = .returned v ∧ w'.ownsRow wx.heap.size 3 1 v (wlk K (f - 1) k).length (hdC S (wlk K (f - 1) k)) ∧ Below wx.heap.size wx w' from by
      obtain ⟨nk, hnk⟩ := hkd k hk
      have h1 := hL.dep i k hk
      have h2 := hL.low k
      exact ih (f - 1) (by omega) k nk hnk (by omega) wx (h.below hx)))
    have hE : wlk K f i = i :: (K i).flatMap (wlk K (f - 1)) := by
      cases f with
      | zero =>
        have hk0 : K i = [] := by
          cases hk : K i with
          | nil => rfl
          | cons k t =>
            have h1 := hL.dep i k (by rw [hk]; simp)
            have h2 := hL.low k
            omega
        rw [hk0]; rfl
      | succ f => rfl
    have hn := hN f i n hi
    rw [hE] at hn ⊢
    have HL := Lib.hid (fun t => (show (((K i).take t).flatMap (wlk K (f - 1))).length ≤ ((K i).flatMap (wlk K (f - 1))).length from by
        rw [← List.take_append_drop t (K i)]
        rw [List.flatMap_append, List.length_append]
        rw [List.take_append_drop]
        omega))
    have HN1 := Lib.hid (fun k (hk : k ∈ K i) => (show (wlk K (f - 1) k).length ≤ 100000 from by
      obtain ⟨nk, hnk⟩ := hkd k hk
      exact hN (f - 1) k nk hnk))
    have HP := Lib.hid (fun (t k : Nat) (hk : (K i)[t]? = some k) => (show ∃ nk, S.at k = some nk ∧ nk.next = hO S (K i)[t + 1]? ∧ nk.attrs.length ≤ 1000 ∧ 1 ≤ S.hd k from by
      obtain ⟨nk, hnk⟩ := hkd k (List.mem_of_getElem? hk)
      exact ⟨nk, hnk, (hL.kid i t k nk hk hnk).2.2, hal k nk hnk, (hd_ok hL hnk).2⟩))
    have hfi := (hL.node i n hi).1
    have HN0 := Lib.hid (HNo.out i n hi w (Below.refl _ _))
    have hav := h.attrs i n (at_slot hi)
    have HAv := Lib.hid (fun (k : Nat) (nk : Nd) (hk : S.at k = some nk) => h.attrs k nk (at_slot hk))
    obtain ⟨nk, nm, nav, nal, nda, np, nf, nl, npv, nx⟩ := n
    simp only at hfi hav HN0
    obtain ⟨va, vc, rfl, _⟩ := hav
    subst hfi
    clear hE h ih hN hi hkd hlow hal
    generalize K i = Ks at *
    go_enter Tryz.func126, Tryz.ntmps126
    go_wp2_with fail
    refine HN0.out.mono ?_
    rintro e w1 ⟨rfl, hb1⟩
    simp only [ndC, strV]
    have hb2 := hb1.alloc hb1.size (.cells #[.int .i64 nk, .string ⟨nm.toArray⟩, .slice va nal.length vc, .string ⟨nda.toArray⟩, .int .i64 np, .int .i64 (hO S Ks[0]?), .int .i64 nl, .int .i64 npv, .int .i64 nx] 135)
    have kn := Blk.new w1 [.int .i64 nk, .string ⟨nm.toArray⟩, .slice va nal.length vc, .string ⟨nda.toArray⟩, .int .i64 np, .int .i64 (hO S Ks[0]?), .int .i64 nl, .int .i64 npv, .int .i64 nx] 135
    clear hb1
    go_upto_region 4 with fail
    generalize w1.alloc (.cells #[.int .i64 nk, .string ⟨nm.toArray⟩, .slice va nal.length vc, .string ⟨nda.toArray⟩, .int .i64 np, .int .i64 (hO S Ks[0]?), .int .i64 nl, .int .i64 npv, .int .i64 nx] 135) = w2 at *
    have hb3 : Below w.heap.size w (w2.alloc (.cells #[.int .i64 (S.hd i)] 3)) := hb2.alloc hb2.size _
    have ho3 : (w2.alloc (.cells #[.int .i64 (S.hd i)] 3)).ownsRow w.heap.size 3 1 (.slice (some ⟨w2.heap.size, 0, none⟩) 1 1) 1 (hdC S [i]) := by
      refine own_base' ?_ (fun k hk => by cases hk; exact hb2.size)
      exact own_at (n := 1) (size := 1) (Blk.new w2 [.int .i64 (S.hd i)] 3) rfl (by omega)
    have c5 := (kn.alloc (.cells #[.int .i64 (S.hd i)] 3)).cell 5
    simp only [List.getElem?_cons_zero, List.getElem?_cons_succ] at c5
    have HO3 := Lib.hid ho3
    have HB3 := Lib.hid hb3
    clear ho3 hb3 kn hb2
    go_wp2_with fail
    generalize w2.alloc (.cells #[.int .i64 (S.hd i)] 3) = w3 at *
    go_loopw [7, 8] (fun ov kv wr => ∃ (t : Nat) (ol : Nat), t ≤ Ks.length ∧ kv = .int .i64 (hO S Ks[t]?) ∧ ol = (i :: (Ks.take t).flatMap (wlk K (f - 1))).length ∧ sliceN ov = ol ∧ wr.ownsRow w.heap.size 3 1 ov ol (hdC S (i :: (Ks.take t).flatMap (wlk K (f - 1)))) ∧ Below w.heap.size w wr) (fun ov _ _ => (i :: Ks.flatMap (wlk K (f - 1))).length - sliceN ov)
    case atStart => exact ⟨0, 1, by omega, rfl, rfl, rfl, HO3.out, HB3.out⟩
    case round =>
      obtain ⟨t, ol, ht, rfl, hol, hsl, hown, hb⟩ := hrel
      obtain ⟨oa, oc, rfl⟩ := own_shapeB hown
      have HO := Lib.hid hown
      have HBr := Lib.hid hb
      have hll := HL.out t
      rw [List.length_cons] at hol
      have hol2 : ol ≤ 100001 := by rw [List.length_cons] at hn; omega
      have HOl := Lib.hid hol
      clear hown hb hol hsl
      by_cases htl : t < Ks.length
      · obtain ⟨k, hk⟩ : ∃ k, Ks[t]? = some k := ⟨_, List.getElem?_eq_getElem htl⟩
        obtain ⟨mk, hmk, hnx, hml, h1⟩ := HP.out t k hk
        rw [hk, hO_some]
        have hne : (S.hd k != 0) = true := by simp; omega
        have HK := Lib.hid (HC.out k (List.mem_of_getElem? hk) _ HBr.out)
        have HM := Lib.hid (HNo.out k mk hmk)
        have hmv := HAv.out k mk hmk
        obtain ⟨mk, mm, mav, mal, mda, mp, mf, ml, mpv, mx⟩ := mk
        simp only at hnx hmv HM hml
        obtain ⟨ma, mc, rfl, _⟩ := hmv
        subst hnx
        have hkn := HN1.out k (List.mem_of_getElem? hk)
        have hkp := wlk_pos K (f - 1) k
        have hl3 := HL.out (t + 1)
        have HS := Lib.hid (flatMap_take_succ hk (wlk K (f - 1)))
        rw [HS.out, List.length_append] at hl3
        generalize (Ks.take t).flatMap (wlk K (f - 1)) = l1 at *
        generalize wlk K (f - 1) k = l2 at *
        generalize hnx : hO S Ks[t + 1]? = nxt at *
        have HNx := Lib.hid hnx
        clear hnx
        clear hk h1 hmk
        go_wp2_with fail
        refine HK.out.mono ?_
        rintro e w4 ⟨v, rfl, hv, hb4⟩
        have hv0 : Own w4 3 1 v l2.length (hdC S l2) := own_low hv (Nat.zero_le _)
        obtain ⟨gv, cv, rfl, _⟩ := own_some hv0 (by omega)
        have HV := Lib.hid hv0
        have HO4 := Lib.hid (own_keepB HO.out hb4)
        have hB4 := bthen HBr.out hb4
        have hlt4 := fun g (hg : (Value.slice oa ol oc).ownBlock = some g) => (HO.out.lt g hg).1
        have HB4 := Lib.hid hB4
        clear hv hv0 hB4 hb4
        have hsz4 : w.heap.size ≤ w4.heap.size := HB4.out.size
        go_wp2_with (at_builtin; refine wpList_append_B etI HO4.out hsz4 HV.out (hdC_one _ _) (by omega) (by omega) rfl _ _ rfl rfl rfl ?_)
        intro v' w5 ho5 hg5 _
        have hb5 := HB4.out.grown hg5 hsz4 (fun k hk => hlt4 k hk)
        obtain ⟨oa5, oc5, rfl⟩ := own_shapeB ho5
        have HO5 := Lib.hid ho5
        have HB5 := Lib.hid hb5
        clear ho5 hg5 HO4 HV hlt4
        go_wp2_with fail
        refine (HM.out _ HB5.out).mono ?_
        rintro e w6 ⟨rfl, hb6⟩
        simp only [ndC, strV]
        have hb7 := (Below.refl w6.heap.size w6).alloc (Nat.le_refl _) (.cells #[.int .i64 mk, .string ⟨mm.toArray⟩, .slice ma mal.length mc, .string ⟨mda.toArray⟩, .int .i64 mp, .int .i64 mf, .int .i64 ml, .int .i64 mpv, .int .i64 nxt] 135)
        have c8 := (Blk.new w6 [.int .i64 mk, .string ⟨mm.toArray⟩, .slice ma mal.length mc, .string ⟨mda.toArray⟩, .int .i64 mp, .int .i64 mf, .int .i64 ml, .int .i64 mpv, .int .i64 nxt] 135).cell 8
        simp only [List.getElem?_cons_zero, List.getElem?_cons_succ] at c8
        have HO7 := Lib.hid (own_keepB (own_keepB HO5.out hb6) hb7)
        have HB7 := Lib.hid (bthen HB5.out (bthen hb6 hb7))
        clear hb6 hb7 hb5
        go_wp2_with fail
        go_roundw
        case rel =>
          refine ⟨t + 1, ol + l2.length, by omega, by rw [HNx.out], ?_, rfl, ?_, HB7.out⟩
          · have := HOl.out; rw [HS.out, List.length_cons, List.length_append]; omega
          · rw [HS.out]
            have := HO7.out
            rw [hdC_app, List.cons_append] at this
            exact this
        case measure => simp only [sliceN]; have := HOl.out; rw [List.length_cons]; omega
      · obtain rfl : t = Ks.length := by omega
        rw [List.take_length] at HO HOl
        rw [List.getElem?_eq_none (Nat.le_refl _), hO_none]
        go_wp2_with fail
        go_ret
        refine ⟨_, rfl, ?_, HBr.out⟩
        rw [← HOl.out]
        exact HO.out
end
section
variable {B R : Nat} {S : Tr} {sv fv : Value} {K : Nat → List Nat} {d : Nat → Nat} {w : World}
theorem hdC_get {w : World} {B n : Nat} {a : Option Addr} {c : Nat} {l : List Nat} (h : w.ownsRow B 3 1 (.slice a n c) l.length (hdC S l)) {t k : Nat} (hk : l[t]? = some k) : ∃ g, a = some ⟨g, 0, none⟩ ∧ n = l.length ∧ l.length ≤ c ∧ w.cell? ⟨g, t, none⟩ = some (.int .i64 (S.hd k)) := by
  have hpos : 0 < l.length := by have := (List.getElem?_eq_some_iff.1 hk).1; omega
  have h0 : Own w 3 1 (.slice a n c) l.length (hdC S l) := own_low h (Nat.zero_le _)
  obtain ⟨g, cap, e, hc⟩ := own_some h0 hpos
  cases e
  refine ⟨g, rfl, rfl, by omega, ?_⟩
  rw [h0.cellAt t (by have := (List.getElem?_eq_some_iff.1 hk).1; omega)]
  simp [hdC, hk]
set_option maxRecDepth 100000 in
set_option maxHeartbeats 8000000 in
theorem scontent_any (h : TAt B R S sv fv w) (hL : Lk S K d) (hal : ∀ i n, S.at i = some n → n.attrs.length ≤ 1000) (hdt : ∀ x n, S.at x = some n → n.data.length ≤ 20000) (hsl : S.slots.length ≤ 10000) (i : Nat) (n : Nd) (hi : S.at i = some n) :
    Calls Tryz.prog 84 #[.pointer (some ⟨R, 0, none⟩), .int .i64 (S.hd i)] w fun e w' => e = .returned (.string ⟨(ctn S (wlk K (128 - d i) i)).toArray⟩) ∧ Below w.heap.size w w' := by
  have HW := Lib.hid (swalk_any (B := B) (R := R) (sv := sv) (fv := fv) hL (fun f i n hi => Nat.le_trans (wlk_len hL f i (by rw [hi]; rfl)) (by omega)) hal (128 - d i) i n hi rfl w h)
  have hlv : ∀ y ∈ wlk K (128 - d i) i, ∃ ny, S.at y = some ny := fun y hy => Option.isSome_iff_exists.1 (wlk_sub hL _ i y (by rw [hi]; rfl) hy).2
  have hll := wlk_len hL (128 - d i) i (by rw [hi]; rfl)
  obtain ⟨g, cap, rfl⟩ := slots_some h (by have := at_lt hi; omega)
  have HNo := Lib.hid (fun (k : Nat) (nk : Nd) (hk : S.at k = some nk) (wx : World) (hx : Below w.heap.size w wx) => snode_some (h.below hx) (S.hd k) (hd_ok hL hk).1 (hd_ix hL hk) (at_slot hk))
  have HAv := Lib.hid (fun (k : Nat) (nk : Nd) (hk : S.at k = some nk) => h.attrs k nk (at_slot hk))
  generalize wlk K (128 - d i) i = l at *
  have hcl := fun l => ctn_len hdt l
  clear h hi hal
  go_enter Tryz.func84, Tryz.ntmps84
  go_wp2_with fail
  refine HW.out.mono ?_
  rintro e w1 ⟨v, rfl, hv, hb1⟩
  obtain ⟨va, vc, rfl⟩ := own_shapeB hv
  have HV := Lib.hid hv
  have HB1 := Lib.hid hb1
  clear hv hb1 HW
  go_wp2_with fail
  go_loopw [5, 15] (fun ov iv wr => ∃ (t : Nat), t ≤ l.length ∧ iv = .int .i64 (t : Int) ∧ ov = .string ⟨(ctn S (l.take t)).toArray⟩ ∧ Below w1.heap.size w1 wr) (fun _ iv _ => l.length - (intOf iv).toNat)
  case atStart => exact ⟨0, by omega, rfl, rfl, Below.refl _ _⟩
  case round =>
    obtain ⟨t, ht, rfl, rfl, hb⟩ := hrel
    have HBr := Lib.hid hb
    clear hb
    by_cases htl : t < l.length
    · obtain ⟨k, hk⟩ : ∃ k, l[t]? = some k := ⟨_, List.getElem?_eq_getElem htl⟩
      obtain ⟨vg, rfl, _, hvc, ck⟩ := hdC_get (own_keepB HV.out HBr.out) hk
      obtain ⟨mk, hmk⟩ := hlv k (List.mem_of_getElem? hk)
      have hctn := ctn_snoc S (l.take t) k mk hmk
      rw [show l.take t ++ [k] = l.take (t + 1) by rw [List.take_add_one, hk]; rfl] at hctn
      have HCt := Lib.hid hctn
      have hdk := hdt k mk hmk
      have hl1 := hcl (l.take t)
      rw [List.length_take] at hl1
      have hl2 : (ctn S (l.take t)).length ≤ 20000 * 10000 := Nat.le_trans hl1 (Nat.mul_le_mul_left _ (by omega))
      have hs1 : ¬ 9223372036854775807 < (ctn S (l.take t)).length + mk.data.length := by omega
      have HM := Lib.hid (HNo.out k mk hmk _ (bthen HB1.out HBr.out))
      have hmv := HAv.out k mk hmk
      obtain ⟨mk, mm, mav, mal, mda, mp, mf, ml, mpv, mx⟩ := mk
      simp only at HCt hmv HM hs1
      obtain ⟨ma, mc, rfl, _⟩ := hmv
      generalize ctn S (l.take t) = ct at *
      clear hk hmk hctn hdk hl1 hl2
      go_wp2_with fail
      refine HM.out.mono ?_
      rintro e w2 ⟨rfl, hb2⟩
      simp only [ndC, strV]
      have k7 := Blk.new w2 [.int .i64 mk, .string ⟨mm.toArray⟩, .slice ma mal.length mc, .string ⟨mda.toArray⟩, .int .i64 mp, .int .i64 mf, .int .i64 ml, .int .i64 mpv, .int .i64 mx] 135
      have c0 := k7.cell 0
      have c3 := k7.cell 3
      simp only [List.getElem?_cons_zero, List.getElem?_cons_succ] at c0 c3
      have HB7 := Lib.hid (bthen HBr.out (hb2.alloc hb2.size (.cells #[.int .i64 mk, .string ⟨mm.toArray⟩, .slice ma mal.length mc, .string ⟨mda.toArray⟩, .int .i64 mp, .int .i64 mf, .int .i64 ml, .int .i64 mpv, .int .i64 mx] 135)))
      clear hb2 HM k7
      by_cases h3 : mk = 3
      · have e3 : ((mk : Int) == 3) = true := by simpa using h3
        have HR := Lib.hid (show ctn S (l.take (t + 1)) = ct ++ mda from by rw [HCt.out, if_pos h3])
        clear h3
        go_wp2_with fail
        go_roundw
        case rel =>
          refine ⟨t + 1, by omega, by go_num, ?_, HB7.out⟩
          rw [HR.out, ← bytes_app]
        case measure => simp [intOf]; omega
      · have e3 : ((mk : Int) == 3) = false := by simpa using h3
        have HR := Lib.hid (show ctn S (l.take (t + 1)) = ct from by rw [HCt.out, if_neg h3, List.append_nil])
        clear h3
        go_wp2_with fail
        go_roundw
        case rel => exact ⟨t + 1, by omega, by go_num, by rw [HR.out], HB7.out⟩
        case measure => simp [intOf]; omega
    · obtain rfl : t = l.length := by omega
      rw [List.take_length]
      go_wp2_with fail
      go_ret
      exact ⟨rfl, bthen HB1.out HBr.out⟩
def valN (S : Tr) (K : Nat → List Nat) (d : Nat → Nat) (i : Nat) (n : Nd) : List UInt8 :=
  if kindN n = 2 then ctn S (wlk K (128 - d i) i) else if attL n.attrs sValue = none ∧ (kindN n = 3 ∨ kindN n = 4) then [111, 110] else (attL n.attrs sValue).getD []
set_option maxRecDepth 100000 in
set_option maxHeartbeats 8000000 in
theorem svalue_any (h : TAt B R S sv fv w) (hL : Lk S K d) (hal : ∀ i n, S.at i = some n → n.attrs.length ≤ 1000) (hdt : ∀ x n, S.at x = some n → n.data.length ≤ 20000) (hsl : S.slots.length ≤ 10000) (i : Nat) (n : Nd) (hi : S.at i = some n) (hnm : n.kind ≠ 2 → n.name = []) :
    Calls Tryz.prog 38 #[.pointer (some ⟨R, 0, none⟩), .int .i64 (S.hd i)] w fun e w' => e = .returned (.string ⟨(valN S K d i n).toArray⟩) ∧ Below w.heap.size w w' := by
  have HK := Lib.hid (skind_any h hL i n hi (hal i n hi) hnm)
  have HC := Lib.hid (fun wx (hb : Below w.heap.size w wx) => scontent_any (h.below hb) hL hal hdt hsl i n hi)
  have HA := Lib.hid (fun wx (hb : Below w.heap.size w wx) => sattr_any (h.below hb) hL i n hi (hal i n hi) sValue)
  unfold valN
  generalize ctn S (wlk K (128 - d i) i) = ct at *
  generalize kindN n = k at *
  generalize attL n.attrs sValue = t at *
  obtain ⟨vv, hvv⟩ : ∃ vv, (if k = 2 then ct else if t = none ∧ (k = 3 ∨ k = 4) then [111, 110] else t.getD []) = vv := ⟨_, rfl⟩
  rw [hvv]
  have HVV := Lib.hid hvv
  clear h hi hal hdt hsl hvv
  go_enter Tryz.func38, Tryz.ntmps38
  go_wp2_with fail
  refine HK.out.mono ?_
  rintro e w1 ⟨rfl, hb1⟩
  by_cases h2 : k = 2
  · have HR := Lib.hid (show vv = ct from by rw [← HVV.out, if_pos h2])
    subst h2
    clear HVV
    go_wp2_with fail
    refine (HC.out _ hb1).mono ?_
    rintro e w2 ⟨rfl, hb2⟩
    have HB := Lib.hid (bthen hb1 hb2)
    clear hb2
    go_wp2_with fail
    go_ret
    rw [HR.out]
    exact ⟨rfl, HB.out⟩
  · have e2 : ((k : Int) == 2) = false := by simp; omega
    have hv2 : (if t = none ∧ (k = 3 ∨ k = 4) then [111, 110] else t.getD []) = vv := by have := HVV.out; rwa [if_neg h2] at this
    have HV2 := Lib.hid hv2
    clear h2 HVV hv2
    go_wp2_with fail
    refine (HA.out _ hb1).mono ?_
    rintro e w2 ⟨rfl, hb2⟩
    have HB := Lib.hid (bthen hb1 hb2)
    clear hb2 HA HC HK
    cases t with
    | some x =>
      have HR := Lib.hid (show vv = x from by rw [← HV2.out, if_neg (by simp)]; rfl)
      simp only [Option.getD_some, Option.isSome_some] at *
      clear HV2
      go_wp2_with fail
      go_ret
      rw [HR.out]
      exact ⟨rfl, HB.out⟩
    | none =>
      simp only [Option.getD_none, Option.isSome_none] at *
      by_cases h3 : k = 3
      · have HR := Lib.hid (show vv = [111, 110] from by rw [← HV2.out, if_pos ⟨by trivial, .inl h3⟩])
        subst h3
        clear HV2
        go_wp2_with fail
        go_ret
        rw [HR.out]
        exact ⟨rfl, HB.out⟩
      · have e3 : ((k : Int) == 3) = false := by simp; omega
        by_cases h4 : k = 4
        · have HR := Lib.hid (show vv = [111, 110] from by rw [← HV2.out, if_pos ⟨by trivial, .inr h4⟩])
          subst h4
          clear HV2
          go_wp2_with fail
          go_ret
          rw [HR.out]
          exact ⟨rfl, HB.out⟩
        · have e4 : ((k : Int) == 4) = false := by simp; omega
          have HR := Lib.hid (show vv = [] from by rw [← HV2.out, if_neg (fun q => by rcases q.2 with q | q; exact h3 q; exact h4 q)])
          clear h3 h4 HV2
          go_wp2_with fail
          go_ret
          rw [HR.out]
          exact ⟨rfl, HB.out⟩
end
def hds (S : Tr) (N : Nat) : List Int := (List.range N).map fun i => S.hd (i + 1)


theorem tree_newA {B : Nat} {w0 w : World} {l : List Ob} (h : All B w0 l w) (b s : Int) :
    Calls Tryz.prog 55 #[.agg #[.int .i64 b, .int .i64 s]] w fun e w' => ∃ R sv, e = .returned (.pointer (some ⟨R, 0, none⟩)) ∧ All B w0 (trO R (newT b s) sv (.slice none 0 0) :: l) w' := by
  refine (tree_new b s w).mono ?_
  rintro e w' ⟨R, sv, rfl, hT, hb⟩
  refine ⟨R, sv, rfl, h.new ⟨hT.blk, own_low hT.slots (Nat.zero_le _), own_low hT.free (Nat.zero_le _), fun i n hi => ?_, Nat.zero_le _, hT.few⟩ hb (fun k hk => ?_)⟩
  · obtain ⟨a, c, e, h'⟩ := hT.attrs i n hi
    exact ⟨a, c, e, h'.imp id fun ⟨g, cur, e1, _, r⟩ => ⟨g, cur, e1, Nat.zero_le _, r⟩⟩
  · rcases hk with rfl | hk | hk | ⟨i, n, hi, hne, hk⟩
    · exact hT.base
    · exact (hT.slots.lt k hk).1
    · cases hk
    · obtain ⟨a, c, e, h'⟩ := hT.attrs i n (at_slot hi)
      rcases h' with h' | ⟨g, cur, rfl, hg, _⟩
      · exact absurd h' hne
      · rw [e] at hk; cases hk; exact hg
theorem mkT_no {B R : Nat} {S : Tr} {sv fv : Value} {w : World} (h : TAt B R S sv fv w) (kind : Int) (h2 : kind ≠ 2) (h3 : kind ≠ 3) (h4 : kind ≠ 4) (name data : List UInt8) (v : Value) (al : List Atr) :
    Calls Tryz.prog 56 #[.pointer (some ⟨R, 0, none⟩), .int .i64 kind, .string ⟨name.toArray⟩, .string ⟨data.toArray⟩, v] w (MakTR B R S sv fv w kind name data al) := by
  have HT := Lib.hid h
  have HM := Lib.hid (MakT.kind (W := w.heap.size) (S := S) (name := name) (data := data) (al := al) h2 h3 h4)
  have d2 : (kind == 2) = false := by simpa using h2
  have d3 : (kind == 3) = false := by simpa using h3
  have d4 : (kind == 4) = false := by simpa using h4
  clear h h2 h3 h4
  go_enter Tryz.func56, Tryz.ntmps56
  go_wp2_with fail
  go_ret2
  exact MakTR.same HT.out ((Below.refl _ _).alloc (Nat.le_refl _) _) HM.out
theorem mkT_any {B R : Nat} {S : Tr} {sv fv : Value} {w : World} (h : TAt B R S sv fv w) (hT : Laid w) (hfr : ∀ i ∈ S.free, S.slots[i]? = some none) (hfl : S.free.length ≤ 1000000) (hl : S.slots.length < 20000) (kind : Int) (name data : List UInt8) (hn : name.length ≤ 1000) (hd : data.length ≤ 1000) (v : Value) (al : List Atr) (hv : Own w 85 2 v al.length (attrC al)) (hal : al.length ≤ 100) (has : ∀ a ∈ al, a.1.length ≤ 1000 ∧ a.2.length ≤ 1000) :
    Calls Tryz.prog 56 #[.pointer (some ⟨R, 0, none⟩), .int .i64 kind, .string ⟨name.toArray⟩, .string ⟨data.toArray⟩, v] w (MakTR B R S sv fv w kind name data al) := by
  by_cases h2 : kind = 2
  · subst h2; exact mkT_el h hT hfr hfl hl name data hn v al hv hal has
  by_cases h3 : kind = 3
  · subst h3; exact mkT_3 h hT hfr hfl hl name data hd v al
  by_cases h4 : kind = 4
  · subst h4; exact mkT_4 h hT hfr hfl hl name data hd v al
  exact mkT_no h kind h2 h3 h4 name data v al
def nI (S : Tr) (x : Nat) : Option (Int × List UInt8 × List Atr × List UInt8) := (S.at x).map fun n => (n.kind, n.name, n.attrs, n.data)
theorem nI_some {S : Tr} {x : Nat} {a : Int} {b : List UInt8} {c : List Atr} {e : List UInt8} (h : nI S x = some (a, b, c, e)) : ∃ n, S.at x = some n ∧ n.kind = a ∧ n.name = b ∧ n.attrs = c ∧ n.data = e := by
  unfold nI at h
  obtain ⟨n, h1, h2⟩ := Option.map_eq_some_iff.1 h
  simp only [Prod.mk.injEq] at h2
  exact ⟨n, h1, h2⟩
section
variable {S S' : Tr} {K : Nat → List Nat} {d : Nat → Nat} {c : Nat}
theorem not_sub (L : Lk S K d) {i : Nat} (hK : K i = []) : ∀ (m p : Nat), d p ≤ m → (S.at p).isSome = true → p ≠ i → subB S d i p = false
  | 0, p, hm, hp, hne => by
    rcases L.parO p with ⟨q, hq⟩ | ht
    · have := L.dep q p hq; omega
    · have := L.one p hp ht; omega
  | m + 1, p, hm, hp, hne => by
    have e : (i == p) = false := by simpa using fun e => hne e.symm
    rcases L.parO p with ⟨q, hq⟩ | ht
    · rw [sub_kid L hq, e, Bool.false_or]
      have hd := L.dep q p hq
      refine not_sub L hK m q (by omega) (L.kin q p hq).1 ?_
      rintro rfl
      rw [hK] at hq; cases hq
    · rw [sub_top L hp ht, e]
structure GMk (c : Nat) (S : Tr) (K : Nat → List Nat) (d : Nat → Nat) (s : Nat) (S' : Tr) (q : Int × List UInt8 × List Atr × List UInt8) : Prop where
  ok : TrOk c S' K (dAdd d s)
  fr : S'.free = []
  len : S'.slots.length = s + 1
  nI : ∀ x, nI S' x = if x = s then some q else nI S x
  hd : ∀ x, S'.hd x = S.hd x
  root : S'.root = S.root
  kid : K s = []
  det : ∀ q, s ∉ K q
theorem gmk_of (T : TrOk c S K d) (hf : S.free = []) (n : Nd) (h1 : n.parent = 0) (h2 : n.first = 0) (h3 : n.last = 0) (h4 : n.prev = 0) (h5 : n.next = 0) (hn : NdOk c n) (hk : n.kind ≠ 1) (hl : S.slots.length < 1000000) : GMk c S K d S.slots.length (S.add n) (n.kind, n.name, n.attrs, n.data) := by
  have ha : S.addI = S.slots.length := by unfold Tr.addI; rw [hf]; rfl
  have k := added_of T.fr T.frnd n
  rw [ha] at k
  have hno := k.no
  refine ⟨T.added k h1 h2 h3 h4 h5 hl hn hk, ?_, ?_, fun x => ?_, k.hd, k.root, T.lk.no_kids hno, fun q hq => ?_⟩
  · rw [List.eq_nil_iff_forall_not_mem]
    intro i hi
    have := (k.free i hi).1
    rw [hf] at this; cases this
  · have := k.len; omega
  · unfold nI
    rw [k.at_]
    split <;> rfl
  · have := (T.lk.kin q _ hq).2
    rw [hno] at this; cases this
def KIn (K : Nat → List Nat) (p i : Nat) (q : Nat) : List Nat := if q = p then K p ++ [i] else K q
structure GIn (c : Nat) (S : Tr) (K : Nat → List Nat) (d : Nat → Nat) (p i : Nat) (S' : Tr) : Prop where
  ok : TrOk c S' (KIn K p i) (fun x => if x = i then d p + 1 else d x)
  fr : S'.free = S.free
  len : S'.slots.length = S.slots.length
  nI : ∀ x, nI S' x = nI S x
  hd : ∀ x, S'.hd x = S.hd x
  root : S'.root = S.root
theorem may_of (L : Lk S K d) {p i : Nat} {np ni : Nd} (hp : S.at p = some np) (hi : S.at i = some ni) (hK : K i = []) (hne : p ≠ i) (hm : (np.kind = 2 ∧ ni.kind ≠ 1) ∨ (np.kind = 1 ∧ ni.kind = 2 ∧ K p = [])) : mayB S K d p i np ni = true := by
  have hs : contB S i (d p) (some p) = false := not_sub L hK (d p) p (Nat.le_refl _) (by rw [hp]; rfl) hne
  unfold mayB
  rw [hs, Bool.or_false]
  rcases hm with ⟨h1, h2⟩ | ⟨h1, h2, h3⟩
  · rw [if_neg (by simpa using h2), if_pos (by rw [h1]; rfl)]
  · rw [h1, h2, h3]; rfl
theorem gin_of (T : TrOk c S K d) {p i : Nat} {np ni : Nd} (hp : S.at p = some np) (hi : S.at i = some ni) (hK : K i = []) (hdet : ∀ q, i ∉ K q) (hne : p ≠ i) (hm : (np.kind = 2 ∧ ni.kind ≠ 1) ∨ (np.kind = 1 ∧ ni.kind = 2 ∧ K p = [])) (hd : d p + 1 ≤ 128)
    {ls : List (List Value)} {er : Int} (h : InsT S K d p i none np ni S' ls er) : er = 0 ∧ GIn c S K d p i S' := by
  have hmay := may_of T.lk hp hi hK hne hm
  have hd1 : d i = 1 := T.lk.one i (by rw [hi]; rfl) hdet
  cases h with
  | no h => rw [hmay] at h; cases h
  | other b h e hb => cases e
  | far h ho hd' => rw [hgt_leaf hK] at hd'; omega
  | ok S' K' ls h ho hd' hout hL =>
    refine ⟨rfl, ?_⟩
    have T' := T.ins hp hi hmay hout hL
    cases hout with
    | att q j t S1 o' h1 h2 h3 h4 h5 h6 h7 => exact absurd (List.mem_of_getElem? h1) (hdet q)
    | det j h1 h2 h3 h4 h5 =>
      obtain rfl : j = (K p).length := by
        rcases h2 with ⟨_, e⟩ | ⟨b, e, _⟩
        · exact e
        · cases e
      have hKe : K' = KIn K p i := by
        rw [h4]
        funext q
        unfold linkK KIn
        rw [List.take_length, List.drop_length]
      have hde : dIns S d p i = fun x => if x = i then d p + 1 else d x := by
        funext x
        unfold dIns
        by_cases hx : x = i
        · subst hx
          have hss : subB S d x x = true := by
            unfold subB
            rw [hd1]
            show (x == x || _) = true
            simp
          rw [if_pos rfl, hi, hss, hd1]
          show 1 - 1 + 1 + d p = d p + 1
          omega
        · rw [if_neg hx]
          cases e : S.at x with
          | none => rfl
          | some nx =>
            rw [not_sub T.lk hK (d x) x (Nat.le_refl _) (by rw [e]; rfl) hx]
            rfl
      rw [hKe, hde] at T'
      refine ⟨T', h3.free, h3.len, fun x => ?_, h3.hd, h3.root⟩
      unfold nI
      rw [h3.at_]
      cases S.at x <;> rfl
theorem newT_ok (b s : Int) : TrOk 1 (newT b s) (fun _ => []) (fun _ => 1) := by
  have hlk : Lk (newT b s) (fun _ => []) (fun _ => 1) := start_lk b s
  have hat : ∀ i n, (newT b s).at i = some n → i = 0 ∧ n = newN 1 [] := fun i n hi => by
    unfold Tr.at newT at hi
    cases i with
    | zero => simp at hi; exact ⟨rfl, hi.symm⟩
    | succ i => simp at hi
  have h0 : (newT b s).at 0 = some (newN 1 []) := rfl
  refine ⟨hlk, fun x n hx => ?_, fun p np _ => .inl rfl, fun i hi => (by cases hi), List.nodup_nil, rfl, ⟨_, h0, rfl⟩, fun x n hx hx0 => absurd (hat x n hx).1 hx0, fun p h => (by cases h)⟩
  rw [(hat x n hx).2]
  exact ⟨.inl rfl, fun e => (by cases e), fun e => (by rcases e with e | e <;> cases e), fun _ => ⟨rfl, rfl, rfl⟩, fun a ha => (by cases ha), List.nodup_nil, by simp [newN], by simp [newN], by simp [newN]⟩
end
section
variable {B : Nat} {w0 w : World} {R c : Nat} {S : Tr} {sv fv : Value} {K : Nat → List Nat} {d : Nat → Nat} {l : List Ob}
theorem make_all (h : All B w0 (trO R S sv fv :: l) w) (hT : Laid w) (T : TrOk c S K d) (hf : S.free = []) (hl : S.slots.length ≤ 1000) (kind : Int) (name data : List UInt8) (hn : name.length ≤ 1000) (hd : data.length ≤ 1000) (v : Value) (al : List Atr) (hv : Own w 85 2 v al.length (attrC al)) (hal : al.length ≤ 100) (has : ∀ a ∈ al, a.1.length ≤ 1000 ∧ a.2.length ≤ 1000) :
    Calls Tryz.prog 56 #[.pointer (some ⟨R, 0, none⟩), .int .i64 kind, .string ⟨name.toArray⟩, .string ⟨data.toArray⟩, v] w fun e w' => ∃ S' sv' fv' hh er, MakT w.heap.size S kind name data al S' hh er ∧ e = .returned (.tuple #[.int .i64 hh, .int .i64 er]) ∧ All B w0 (trO R S' sv' fv' :: l) w' := by
  have hA : TAt 0 R S sv fv w := h.head
  refine (mkT_any hA hT T.fr (by rw [hf]; simp) (by omega) kind name data hn hd v al hv hal has).mono ?_
  intro e w' hm
  obtain ⟨S', sv', fv', hh, er, h1, rfl, k⟩ := mak_out hm T.fr T.frnd
  exact ⟨S', sv', fv', hh, er, h1, rfl, h.step [] (o := trO R S sv fv) (o' := trO R S' sv' fv') k.at_ k.chg k.new⟩
theorem make_el (h : All B w0 (trO R S sv fv :: l) w) (hT : Laid w) (T : TrOk c S K d) (hf : S.free = []) (hl : S.slots.length ≤ 1000) (s : Nat) (hs : S.slots.length = s) (name : List UInt8) (hn : name.length ≤ 200) (v : Value) (al : List Atr) (hv : Own w 85 2 v al.length (attrC al)) (hal : al.length ≤ 64) (has : ∀ a ∈ al, a.1.length ≤ 200 ∧ a.2.length ≤ 1000 ∧ (fix a.2).length ≤ 200) (hb : (elmB name && namesB al) = true) :
    Calls Tryz.prog 56 #[.pointer (some ⟨R, 0, none⟩), .int .i64 2, .string ⟨name.toArray⟩, .string ⟨#[]⟩, v] w fun e w' => ∃ S' sv' fv', e = .returned (.tuple #[.int .i64 (S.hd s), .int .i64 0]) ∧ All B w0 (trO R S' sv' fv' :: l) w' ∧ GMk c S K d s S' (2, name, al.map (fun a => (a.1, fix a.2)), []) := by
  subst hs
  refine (make_all h hT T hf hl 2 name [] (by omega) (by simp) v al hv (by omega) (fun a ha => ⟨by have := has a ha; omega, (has a ha).2.1⟩)).mono ?_
  rintro e w' ⟨S', sv', fv', hh, er, hm, rfl, hA⟩
  cases hm with
  | kind a _ _ => exact absurd rfl a
  | arg _ a => rw [hb] at a; cases a
  | many _ _ a => omega
  | tx a => rcases a with a | a <;> cases a
  | el av _ _ _ hfr =>
    have ha : S.addI = S.slots.length := by unfold Tr.addI; rw [hf]; rfl
    rw [ha]
    rw [Bool.and_eq_true] at hb
    obtain ⟨h1, h2⟩ := namesB_parts hb.2
    refine ⟨_, sv', fv', rfl, hA, gmk_of T hf _ rfl rfl rfl rfl rfl ?_ (by show (2 : Int) ≠ 1; omega) (by omega)⟩
    refine ⟨.inr (.inl rfl), fun _ => ⟨rfl, hb.1⟩, fun e => (by rcases e with e | e <;> cases e), fun e => (by cases e), fun a hm => ?_, ?_, (by simpa [mkN] using hal), (by simp [mkN]), hn⟩
    · obtain ⟨b, hb', rfl⟩ := List.mem_map.1 hm
      have := has b hb'
      exact ⟨h1 b hb', fix_valid _, this.1, this.2.2⟩
    · have e : ((mkN 2 name av (al.map fun a => (a.1, fix a.2)) []).attrs.map (·.1)) = al.map (·.1) := by simp [mkN, List.map_map, Function.comp_def]
      rw [e]
      exact h2
theorem make_tx (h : All B w0 (trO R S sv fv :: l) w) (hT : Laid w) (T : TrOk c S K d) (hf : S.free = []) (hl : S.slots.length ≤ 1000) (s : Nat) (hs : S.slots.length = s) (data : List UInt8) (hd : data.length ≤ 1000) (hc : (fix data).length ≤ 200 * (c + 1)) :
    Calls Tryz.prog 56 #[.pointer (some ⟨R, 0, none⟩), .int .i64 3, .string ⟨#[]⟩, .string ⟨data.toArray⟩, .slice none 0 0] w fun e w' => ∃ S' sv' fv', e = .returned (.tuple #[.int .i64 (S.hd s), .int .i64 0]) ∧ All B w0 (trO R S' sv' fv' :: l) w' ∧ GMk c S K d s S' (3, [], [], fix data) := by
  subst hs
  refine (make_all h hT T hf hl 3 [] data (by simp) hd (.slice none 0 0) [] (World.ownsRow_nil _ _ _ _) (by simp) (fun a ha => by cases ha)).mono ?_
  rintro e w' ⟨S', sv', fv', hh, er, hm, rfl, hA⟩
  cases hm with
  | kind _ a _ => exact absurd rfl a
  | arg a _ => cases a
  | many a _ _ => cases a
  | el av a _ _ _ => cases a
  | tx a =>
    have ha : S.addI = S.slots.length := by unfold Tr.addI; rw [hf]; rfl
    rw [ha]
    refine ⟨_, sv', fv', rfl, hA, gmk_of T hf _ rfl rfl rfl rfl rfl ?_ (by show (3 : Int) ≠ 1; omega) (by omega)⟩
    refine ⟨.inr (.inr (.inl rfl)), fun e => (by cases e), fun _ => ⟨rfl, rfl, fix_valid _⟩, fun e => (by cases e), fun a hm => (by cases hm), List.nodup_nil, (by simp [mkN]), hc, (by simp [mkN])⟩
theorem ins_all (h : All B w0 (trO R S sv fv :: l) w) (T : TrOk c S K d) (p i : Nat) (np ni : Nd) (hp : S.at p = some np) (hi : S.at i = some ni) (hK : K i = []) (hdet : ∀ q, i ∉ K q) (hne : p ≠ i) (hm : (np.kind = 2 ∧ ni.kind ≠ 1) ∨ (np.kind = 1 ∧ ni.kind = 2 ∧ K p = [])) (hd : d p + 1 ≤ 128) :
    Calls Tryz.prog 57 #[.pointer (some ⟨R, 0, none⟩), .int .i64 (S.hd p), .int .i64 (S.hd i), .int .i64 0] w fun e w' => ∃ S' sv' fv' v, e = .returned (.tuple #[v, .int .i64 0]) ∧ All B w0 (trO R S' sv' fv' :: l) w' ∧ GIn c S K d p i S' := by
  have hA : TAt 0 R S sv fv w := h.head
  refine (tins_any hA T.lk p i none np ni hp hi (fun b e => by cases e)).mono ?_
  rintro e w' ⟨S', sv', fv', v, ls, er, hres, rfl, _, k, _⟩
  obtain ⟨rfl, hg⟩ := gin_of T hp hi hK hdet hne hm hd hres
  exact ⟨S', sv', fv', v, rfl, h.step [] (o := trO R S sv fv) (o' := trO R S' sv' fv') k.at_ k.chg k.new, hg⟩
end
end Go.Proofs.YtacdbnhnhdlmpaaGreatDoor.W
end
