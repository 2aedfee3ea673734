/- Texts joined: LwU LaidW. -/
import Derived.Test.YtacdbnhnhdlmpaaGreatDoorFU32
import Derived.Test.YtacdbnhnhdlmpaaGreatDoorFU33
import Derived.Deep.RegionLaw
import Derived.Deep.CutBlock
import Derived.Test.YtacdbnhnhdlmpaaGreatDoorFU12
import Derived.Test.YtacdbnhnhdlmpaaGreatDoorCards
import Derived.Test.YtacdbnhnhdlmpaaGreatDoorTie
import Derived.Shelf.Vars
import Derived.Lib.LaidU8T
import Derived.Shelf.Unicode.ValidAny
import Derived.Lib.LaidIn
import Derived.Deep.DeepHandedRow
import Derived.Deep.DeepWitnessRowRef
import Derived.SizedLaws
set_option maxRecDepth 100000
set_option maxHeartbeats 40000000
set_option linter.unusedVariables false
set_option linter.unusedSimpArgs false
section
namespace Go.Proofs.YtacdbnhnhdlmpaaGreatDoor.W
open Go.RowKit
section
variable {B : Nat} {w0 w : World} {Q R : Nat} {foc hd : Int} {l : List Ob} {v : List UInt8} {F : FT}
theorem FsAt.new {w' : World} {o : Ob} (h : FsAt B w0 Q foc hd v l F w) (hp : o.P w') (hb : Below w.heap.size w w') (hk : ∀ k, o.F k → w.heap.size ≤ k) : FsAt B w0 Q foc hd v (o :: l) F w' := by
  obtain ⟨fa, X, u, r, h1, h2, h3, h4, h5⟩ := h
  refine ⟨fa, X, u, r, h1, h2, h3, h4, ?_⟩
  have h6 := h5.new hp hb hk
  rw [← List.append_assoc] at h6 ⊢
  exact h6.perm List.perm_middle.symm
theorem FsAt.app {e : TypeId} {size : Nat} {dv : Value} {n : Nat} {xs : List Value} (h : FsAt B w0 Q foc hd v (sl e size dv n xs :: l) F w) :
    ∃ l1, All B w0 (l1 ++ sl e size dv n xs :: l) w ∧ ∀ v' n' xs' w', All B w0 (l1 ++ sl e size v' n' xs' :: l) w' → FsAt B w0 Q foc hd v (sl e size v' n' xs' :: l) F w' := by
  obtain ⟨fa, X, u, r, h1, h2, h3, h4, h5⟩ := h
  rw [← List.append_assoc] at h5
  refine ⟨_, h5, fun v' n' xs' w' h6 => ⟨fa, X, u, r, h1, h2, h3, h4, ?_⟩⟩
  rw [← List.append_assoc]
  exact h6
end
theorem etStr : ET Tryz.prog 34 9 1 16 := ET.mk' (z := .string ⟨#[]⟩) Tryz.underlying34 (by kernel_rfl) rfl (by omega)
abbrev vsl (vg vc : Nat) (vs : List (List UInt8)) : Ob := sl 9 1 (.slice (some ⟨vg, 0, none⟩) vs.length vc) vs.length (vs.map strV)
theorem vsl_snoc (vg vc : Nat) (vs : List (List UInt8)) (x : List UInt8) : vsl vg vc (vs ++ [x]) = sl 9 1 (.slice (some ⟨vg, 0, none⟩) (vs.length + 1) vc) (vs.length + 1) (vs.map strV ++ [strV x]) := by
  unfold vsl
  rw [List.length_append, List.length_singleton, List.map_append]
  rfl
theorem vsl_cell {w : World} {vg vc : Nat} {vs : List (List UInt8)} (h : (vsl vg vc vs).P w) {j : Nat} {x : List UInt8} (hj : vs[j]? = some x) : w.cell? ⟨vg, j, none⟩ = some (.string ⟨x.toArray⟩) := by
  have hs : Own w 9 1 (.slice (some ⟨vg, 0, none⟩) vs.length vc) vs.length (vs.map strV) := h
  rw [hs.cellAt j (by have := (List.getElem?_eq_some_iff.1 hj).1; omega), List.getElem?_map, hj]
  rfl
def UnR (w : World) (Q : Nat) (O : Ob) (hd : Int) (dv : List UInt8) (n : Nat) (vv iv : Value) (wr : World) : Prop :=
  ∃ (k : Nat) (vs : List (List UInt8)) (F : FT) (E : RE) (vg vc : Nat), k ≤ n ∧ iv = .int .i64 (k : Int) ∧ vv = .slice (some ⟨vg, 0, none⟩) vs.length vc ∧ Us (300 + 80 * k) vs F E ∧ vs.length ≤ k + 1 ∧ FsAt w.heap.size w Q 0 hd dv [vsl vg vc vs, O] F wr
def BkR (w : World) (Q : Nat) (O : Ob) (hd : Int) (dv : List UInt8) (vg vc : Nat) (vs : List (List UInt8)) (m N : Nat) (E : Nat → RE) (iv : Value) (wr : World) : Prop :=
  ∃ (k : Nat) (F : FT), k ≤ m ∧ iv = .int .i64 (k : Int) ∧ Ag N F (E k) ∧ FsAt w.heap.size w Q 0 hd dv [vsl vg vc vs, O] F wr
set_option maxRecDepth 100000 in
set_option maxHeartbeats 40000000 in
theorem undoes_any (w : World) (hT : Laid w) (area : Bool) (x : List UInt8) (hxs : (⟨x.toArray⟩ : ByteArray).size ≤ 9223372036854775807) (A : Option Addr) (n c : Nat) (f : Nat → OpF) (h : InF w A n f) (hn : n ≤ 9223372036854775807) (hf : ∀ j, (f j).In) :
    Calls Tryz.prog 3 #[.bool area, .string ⟨x.toArray⟩, .slice A n c] w fun e w' => e = .returned (.bool true) ∧ Below w.heap.size w w' := by
  have HT := Lib.hid hT
  have hL : ∀ wx, Below w.heap.size w wx → Laid wx := fun wx hb => hT.below hb
  have HL := Lib.hid hL
  have HAw := Lib.hid (fun wx (hb : Below w.heap.size w wx) => awake_any wx (hT.below hb))
  have HFw := Lib.hid (fun wx (hb : Below w.heap.size w wx) => few_any x hxs A n c f (h.below hb) hn)
  have HIn := Lib.hid (fun wx (hb : Below w.heap.size w wx) => h.below hb)
  have HOp := Lib.hid hf
  clear h hT hL hf
  go_enter Tryz.func3, Tryz.ntmps3
  go_wp2_with fail
  refine (HAw.out _ (Below.refl _ _)).mono ?_
  rintro e w1 ⟨rfl, hb1⟩
  go_wp2_with fail
  refine (HFw.out _ hb1).mono ?_
  rintro e w2 ⟨b, rfl, hfew, rfl⟩
  cases b with
  | false =>
    go_wp2_with fail
    refine (HAw.out _ hb1).mono ?_
    rintro e w3 ⟨rfl, hb3⟩
    go_wp2_with fail
    go_ret
    exact ⟨rfl, bthen hb1 hb3⟩
  | true =>
  obtain ⟨hx, hn150, hfl⟩ := hfew rfl
  have HFl := Lib.hid hfl
  clear hfew HFw HAw hxs hn hfl
  have HS := Lib.hid (single_any ((All.start w).still hb1) HL.out area x hx)
  go_wp2_with fail
  refine HS.out.mono ?_
  rintro e w3 ⟨R, S, sv, fv, K, d, rfl, hA3, hg⟩
  have hF : FdOk w.heap.size w R (trO R S sv fv) (S.hd 2) (if area then 2 else 1) (fix x) := sg_fd area hg
  obtain ⟨hk, hka⟩ := sg_k area
  have hvd : Vd (fix x) := by rw [fix_rfix]; exact rfix_rfix x
  have hvl : (fix x).length ≤ 180 := by have := fix_len3 x; omega
  clear hg HS hb1
  generalize hkk : (if area then 2 else 1 : Nat) = kk at *
  generalize trO R S sv fv = O at *
  generalize S.hd 2 = hd at *
  generalize fix x = dv at *
  have HF := Lib.hid hF
  have hQ := FsAt.start (hA3.newBkA w3.heap.size rfl [.slice none 0 0, .int .i64 0] 30) hd dv
  have HV := Lib.hid (value_one hQ (by simp) hF hk)
  have HQ := Lib.hid hQ
  clear hA3 hQ hF hkk
  generalize hQe : w3.heap.size = Q at *
  go_wp2_with fail
  refine HV.out.mono ?_
  rintro e w4 ⟨rfl, hb4⟩
  have hQ4 := HQ.out.still hb4
  have hU0 : Us (300 + 80 * 0) [dv] (FT.of dv) ⟨⟨dv, nL dv, nL dv⟩, [], []⟩ := Us.of hvd (by omega)
  have hS4 : FsAt w.heap.size w Q 0 hd dv [vsl w4.heap.size 1 [dv], O] (FT.of dv) (w4.alloc (.cells #[.string ⟨dv.toArray⟩] 9)) := hQ4.new (own_at (n := 1) (size := 1) (Blk.new w4 [strV dv] 9) rfl (by omega)) ((Below.refl _ _).alloc (Nat.le_refl _) _) (fun k hk => Nat.le_of_eq (by simpa [sl, Value.ownBlock] using hk))
  have HS4 := Lib.hid hS4
  have HU0 := Lib.hid hU0
  clear hQ4 hS4 hU0 hb4 HQ HV hQe
  have hdv7 : dv.length ≤ 10000000 := by omega
  go_wp2_with fail
  go_loopw [12, 63] (fun vv iv wr => UnR w Q O hd dv n vv iv wr) (fun _ iv _ => n - (intOf iv).toNat)
  case atStart => exact ⟨0, [dv], _, _, _, _, Nat.zero_le _, rfl, rfl, HU0.out, Nat.le_refl _, HS4.out⟩
  case round =>
    obtain ⟨k, vs, F, E, vg, vc, hkn, rfl, rfl, hU, hvl2, hS⟩ := hrel
    by_cases hkl : k < n
    · have hok := hU.ag.ok
      have hn9 : 300 + 80 * k ≤ 900000 := by omega
      have hfn := hok.n
      have HSt := Lib.hid hS
      have HU := Lib.hid hU
      have HVa := Lib.hid (fun wx (hb : Below wr.heap.size wr wx) => value_one (hS.still hb) (by simp) HF.out hk)
      have HSe := Lib.hid (fun wx (hb : Below wr.heap.size wr wx) => selection_one (hS.still hb) (by simp) HF.out hk (by have := hok.le; have := hok.in_; omega) hok.in_ (by omega))
      have hbw : Below w.heap.size w wr := hS.rest.below
      obtain ⟨gb, off, rfl, hgb, hc⟩ := HIn.out w (Below.refl _ _) (by omega)
      have HC := Lib.hid (fun wx (hb : Below w.heap.size w wx) => show _ ∧ _ ∧ _ ∧ _ from ⟨cell_keep hb (hc k hkl).1, cell_keep hb (hc k hkl).2.1, cell_keep hb (hc k hkl).2.2.1, cell_keep hb (hc k hkl).2.2.2⟩)
      have hoi := HOp.out k
      have hsl := HFl.out k hkl
      have hk4 : ((f k).k : Int) % 4 = (((f k).k % 4 : Nat) : Int) := by omega
      have hk5 : Int.tmod ((f k).k : Int) 4 = (((f k).k % 4 : Nat) : Int) := by rw [Int.tmod_eq_emod_of_nonneg (by omega)]; exact hk4
      have hk255 : ((f k).k : Int) ≤ 255 := by have := hoi.k; omega
      have hin4 : (f k).k % 4 < 4 := Nat.mod_lt _ (by omega)
      clear hS hc hU hok
      go_wp2_with fail
      refine (HVa.out _ (Below.refl _ _)).mono ?_
      rintro e w5 ⟨rfl, hb5⟩
      go_wp2_with fail
      refine (HSe.out _ hb5).mono ?_
      rintro e w6 ⟨rfl, hb6⟩
      have hb6' := bthen hb5 hb6
      have hS6 := HSt.out.still hb6'
      have HS6 := Lib.hid hS6
      have hbw6 : Below w.heap.size w w6 := hS6.rest.below
      obtain ⟨q0, q1, q2, q3⟩ := HC.out _ hbw6
      have HIns := Lib.hid (insert_one hS6 (by simp) HF.out hk hdv7 HL.out HU.out.ag.ok hn9 (f k).s (by omega))
      rw [hka] at HIns
      have HDel := Lib.hid (fun fw => delete_one hS6 (by simp) HF.out hk hdv7 HL.out HU.out.ag.ok hn9 fw)
      have HSel := Lib.hid (fun a b wx (hb : Below w6.heap.size w6 wx) => select_one (hS6.still hb) (by simp) HF.out hk hdv7 (by omega) a b)
      have HCl := Lib.hid (fun wx => rclean_any (f k).s area wx (by omega))
      have hcl := clean_len area (f k).s
      have hcv := clean_vd area (f k).s
      generalize cleanL area (f k).s = y at *
      clear hb5 hb6 hb6' HVa HSe HSt hS6 hbw hbw6
      generalize hkm : (f k).k % 4 = km at *
      rcases (show km = 0 ∨ km = 1 ∨ km = 2 ∨ km = 3 by omega) with rfl | rfl | rfl | rfl
      · clear HDel HSel q1 q2
        go_wp2_with fail
        refine HIns.out.mono ?_
        rintro e w7 ⟨rfl, hS7⟩
        have hag : Ag (300 + 80 * (k + 1)) (F.ins y) (E.ins y) := HU.out.ag.ins hcv (by omega)
        obtain ⟨_, _, _, q3'⟩ := HC.out w7 hS7.rest.below
        have HS7 := Lib.hid hS7
        clear hS7 q3 HIns
        rcases ins_case HU.out.ag y with ⟨hst, hy, he⟩ | ⟨hne, c, he⟩
        · have hse : ((F.st : Int) == (F.en : Int)) = true := by simp [hst]
          have HUk := Lib.hid (HU.out.keep hag he)
          rw [he] at HUk
          subst hy
          clear hst he hag
          go_wp2_with fail
          refine (HCl.out _).mono ?_
          rintro e w8 ⟨rfl, hb8⟩
          have HS8 := Lib.hid (HS7.out.still hb8)
          clear hb8
          go_wp2_with fail
          go_roundw
          case rel => exact ⟨k + 1, vs, F.ins [], E, vg, vc, by omega, by go_num, rfl, HUk.out, by omega, HS8.out⟩
          case measure => simp [intOf]; omega
        · have HUk := Lib.hid (HU.out.push hag he)
          have HVb := Lib.hid (fun wx (hb : Below w7.heap.size w7 wx) => value_one (HS7.out.still hb) (by simp) HF.out hk)
          by_cases hst : F.st = F.en
          · have hy : y ≠ [] := fun e => hne ⟨hst, e⟩
            have hse : ((F.st : Int) == (F.en : Int)) = true := by simp [hst]
            have hys : ((((⟨y.toArray⟩ : ByteArray).size : Nat) : Int) == 0) = false := by
              have : (⟨y.toArray⟩ : ByteArray).size = y.length := by show y.toArray.size = _; simp
              rw [this]
              have := List.length_pos_iff.2 hy
              simp; exact hy
            clear hst he hag hne hy
            go_wp2_with fail
            refine (HCl.out _).mono ?_
            rintro e w8 ⟨rfl, hb8⟩
            have hb7 : Below w7.heap.size w7 w8 := hb8
            generalize (⟨y.toArray⟩ : ByteArray) = yv at *
            clear hb8
            go_wp2_with fail
            refine (HVb.out _ hb7).mono ?_
            rintro e w9 ⟨rfl, hb9⟩
            have hS9 := HS7.out.still (bthen hb7 hb9)
            obtain ⟨l1, hA9, hback⟩ := FsAt.app hS9
            have HA9 := Lib.hid (hA9.alloc (.cells #[.string ⟨(F.ins y).val.toArray⟩] 9))
            have HBk := Lib.hid hback
            clear hS9 hA9 hback hb9 hb7 HVb HCl
            go_wp2_with (at_builtin; refine wpList_append_all etStr l1 HA9.out (own_at (n := 1) (size := 1) (Blk.new w9 [strV (F.ins y).val] 9) rfl (by omega)) (by intro u hu; simp at hu; subst hu; rfl) (by omega) (by omega) rfl _ _ rfl rfl rfl ?_; intro v' wA hAA; obtain ⟨vg2, vc2, rfl, _⟩ := own_some (show Own wA 9 1 v' (vs.length + 1) _ from hAA.mid) (by omega); have HSA := Lib.hid (HBk.out _ _ _ _ hAA); clear hAA)
            go_roundw
            case rel =>
              refine ⟨k + 1, vs ++ [(F.ins y).val], _, _, vg2, vc2, by omega, by go_num, by simp, HUk.out, by simp; omega, ?_⟩
              rw [vsl_snoc]
              exact HSA.out
            case measure => simp [intOf]; omega
          · have hse : ((F.st : Int) == (F.en : Int)) = false := by simp; omega
            have hb7 : Below w7.heap.size w7 w7 := Below.refl _ _
            clear hst he hag hne
            go_wp2_with fail
            refine (HVb.out _ hb7).mono ?_
            rintro e w9 ⟨rfl, hb9⟩
            have hS9 := HS7.out.still (bthen hb7 hb9)
            obtain ⟨l1, hA9, hback⟩ := FsAt.app hS9
            have HA9 := Lib.hid (hA9.alloc (.cells #[.string ⟨(F.ins y).val.toArray⟩] 9))
            have HBk := Lib.hid hback
            clear hS9 hA9 hback hb9 hb7 HVb HCl
            go_wp2_with (at_builtin; refine wpList_append_all etStr l1 HA9.out (own_at (n := 1) (size := 1) (Blk.new w9 [strV (F.ins y).val] 9) rfl (by omega)) (by intro u hu; simp at hu; subst hu; rfl) (by omega) (by omega) rfl _ _ rfl rfl rfl ?_; intro v' wA hAA; obtain ⟨vg2, vc2, rfl, _⟩ := own_some (show Own wA 9 1 v' (vs.length + 1) _ from hAA.mid) (by omega); have HSA := Lib.hid (HBk.out _ _ _ _ hAA); clear hAA)
            go_roundw
            case rel =>
              refine ⟨k + 1, vs ++ [(F.ins y).val], _, _, vg2, vc2, by omega, by go_num, by simp, HUk.out, by simp; omega, ?_⟩
              rw [vsl_snoc]
              exact HSA.out
            case measure => simp [intOf]; omega
      · clear HDel HIns q3
        go_upto_region 20 with fail
        go_region_law (go_simp; go_at_call 19; refine (HSel.out _ _ _ (Below.refl _ _).drew).mono ?_; rintro e w7 ⟨rfl, hS7⟩; have HS7 := Lib.hid hS7; clear hS7)
        all_goals
          go_wp2_with fail
          go_roundw
          case rel => exact ⟨k + 1, vs, _, E.sel _ _, vg, vc, by omega, by go_num, rfl, (HU.out.sel _ _).mono (by omega), by omega, HS7.out⟩
          case measure => simp [intOf]; omega
      · clear HSel HIns q1 q2 q3 HCl
        have hfw : true = true := rfl
        go_wp2_with fail
        refine (HDel.out true).mono ?_
        rintro e w7 ⟨rfl, hS7⟩
        have hag : Ag (300 + 80 * (k + 1)) (F.del true) (E.del true) := (HU.out.ag.del true).mono (by omega)
        have HS7 := Lib.hid hS7
        have HVb := Lib.hid (fun wx (hb : Below w7.heap.size w7 wx) => value_one (HS7.out.still hb) (by simp) HF.out hk)
        clear hS7 HDel
        go_wp2_with fail
        refine (HVb.out _ (Below.refl _ _)).mono ?_
        rintro e w8 ⟨rfl, hb7⟩
        rcases del_case HU.out.ag true with ⟨hst, he⟩ | ⟨c, he, hne⟩
        · have hse : ((F.st : Int) == (F.en : Int)) = true := by simp [hst]
          have hve : (F.del true).val = F.val := by rw [← hag.val, he]; exact HU.out.ag.val
          have hvb : ((F.del true).val == F.val) = true := by simpa using hve
          have HUk := Lib.hid (HU.out.keep hag he)
          rw [he] at HUk
          have HS8 := Lib.hid (HS7.out.still hb7)
          clear hst he hag hve hb7 HVb
          generalize F.del true = FN at *
          go_wp2_with fail
          go_roundw
          case rel => exact ⟨k + 1, vs, FN, E, vg, vc, by omega, by go_num, rfl, HUk.out, by omega, HS8.out⟩
          case measure => simp [intOf]; omega
        · have HUk := Lib.hid (HU.out.push hag he)
          have hcv2 : c.val = (F.del true).val := by rw [← hag.val, he]
          by_cases hst : F.st = F.en
          · have hse : ((F.st : Int) == (F.en : Int)) = true := by simp [hst]
            have hvb : ((F.del true).val == F.val) = false := by
              have : (F.del true).val ≠ F.val := fun e => hne ⟨hst, hcv2.trans e⟩
              simpa using this
            clear hst he hag hne hcv2
            generalize F.del true = FN at *
            go_wp2_with fail
            refine (HVb.out _ hb7).mono ?_
            rintro e w9 ⟨rfl, hb9⟩
            have hS9 := HS7.out.still (bthen hb7 hb9)
            obtain ⟨l1, hA9, hback⟩ := FsAt.app hS9
            have HA9 := Lib.hid (hA9.alloc (.cells #[.string ⟨FN.val.toArray⟩] 9))
            have HBk := Lib.hid hback
            clear hS9 hA9 hback hb9 hb7 HVb
            go_wp2_with (at_builtin; refine wpList_append_all etStr l1 HA9.out (own_at (n := 1) (size := 1) (Blk.new w9 [strV FN.val] 9) rfl (by omega)) (by intro u hu; simp at hu; subst hu; rfl) (by omega) (by omega) rfl _ _ rfl rfl rfl ?_; intro v' wA hAA; obtain ⟨vg2, vc2, rfl, _⟩ := own_some (show Own wA 9 1 v' (vs.length + 1) _ from hAA.mid) (by omega); have HSA := Lib.hid (HBk.out _ _ _ _ hAA); clear hAA)
            go_roundw
            case rel =>
              refine ⟨k + 1, vs ++ [FN.val], _, _, vg2, vc2, by omega, by go_num, by simp, HUk.out, by simp; omega, ?_⟩
              rw [vsl_snoc]
              exact HSA.out
            case measure => simp [intOf]; omega
          · have hse : ((F.st : Int) == (F.en : Int)) = false := by simp; omega
            clear hst he hag hne hcv2
            generalize F.del true = FN at *
            go_wp2_with fail
            refine (HVb.out _ hb7).mono ?_
            rintro e w9 ⟨rfl, hb9⟩
            have hS9 := HS7.out.still (bthen hb7 hb9)
            obtain ⟨l1, hA9, hback⟩ := FsAt.app hS9
            have HA9 := Lib.hid (hA9.alloc (.cells #[.string ⟨FN.val.toArray⟩] 9))
            have HBk := Lib.hid hback
            clear hS9 hA9 hback hb9 hb7 HVb
            go_wp2_with (at_builtin; refine wpList_append_all etStr l1 HA9.out (own_at (n := 1) (size := 1) (Blk.new w9 [strV FN.val] 9) rfl (by omega)) (by intro u hu; simp at hu; subst hu; rfl) (by omega) (by omega) rfl _ _ rfl rfl rfl ?_; intro v' wA hAA; obtain ⟨vg2, vc2, rfl, _⟩ := own_some (show Own wA 9 1 v' (vs.length + 1) _ from hAA.mid) (by omega); have HSA := Lib.hid (HBk.out _ _ _ _ hAA); clear hAA)
            go_roundw
            case rel =>
              refine ⟨k + 1, vs ++ [FN.val], _, _, vg2, vc2, by omega, by go_num, by simp, HUk.out, by simp; omega, ?_⟩
              rw [vsl_snoc]
              exact HSA.out
            case measure => simp [intOf]; omega
      · clear HSel HIns q1 q2 q3 HCl
        have hfw : false = false := rfl
        go_wp2_with fail
        refine (HDel.out false).mono ?_
        rintro e w7 ⟨rfl, hS7⟩
        have hag : Ag (300 + 80 * (k + 1)) (F.del false) (E.del false) := (HU.out.ag.del false).mono (by omega)
        have HS7 := Lib.hid hS7
        have HVb := Lib.hid (fun wx (hb : Below w7.heap.size w7 wx) => value_one (HS7.out.still hb) (by simp) HF.out hk)
        clear hS7 HDel
        go_wp2_with fail
        refine (HVb.out _ (Below.refl _ _)).mono ?_
        rintro e w8 ⟨rfl, hb7⟩
        rcases del_case HU.out.ag false with ⟨hst, he⟩ | ⟨c, he, hne⟩
        · have hse : ((F.st : Int) == (F.en : Int)) = true := by simp [hst]
          have hve : (F.del false).val = F.val := by rw [← hag.val, he]; exact HU.out.ag.val
          have hvb : ((F.del false).val == F.val) = true := by simpa using hve
          have HUk := Lib.hid (HU.out.keep hag he)
          rw [he] at HUk
          have HS8 := Lib.hid (HS7.out.still hb7)
          clear hst he hag hve hb7 HVb
          generalize F.del false = FN at *
          go_wp2_with fail
          go_roundw
          case rel => exact ⟨k + 1, vs, FN, E, vg, vc, by omega, by go_num, rfl, HUk.out, by omega, HS8.out⟩
          case measure => simp [intOf]; omega
        · have HUk := Lib.hid (HU.out.push hag he)
          have hcv2 : c.val = (F.del false).val := by rw [← hag.val, he]
          by_cases hst : F.st = F.en
          · have hse : ((F.st : Int) == (F.en : Int)) = true := by simp [hst]
            have hvb : ((F.del false).val == F.val) = false := by
              have : (F.del false).val ≠ F.val := fun e => hne ⟨hst, hcv2.trans e⟩
              simpa using this
            clear hst he hag hne hcv2
            generalize F.del false = FN at *
            go_wp2_with fail
            refine (HVb.out _ hb7).mono ?_
            rintro e w9 ⟨rfl, hb9⟩
            have hS9 := HS7.out.still (bthen hb7 hb9)
            obtain ⟨l1, hA9, hback⟩ := FsAt.app hS9
            have HA9 := Lib.hid (hA9.alloc (.cells #[.string ⟨FN.val.toArray⟩] 9))
            have HBk := Lib.hid hback
            clear hS9 hA9 hback hb9 hb7 HVb
            go_wp2_with (at_builtin; refine wpList_append_all etStr l1 HA9.out (own_at (n := 1) (size := 1) (Blk.new w9 [strV FN.val] 9) rfl (by omega)) (by intro u hu; simp at hu; subst hu; rfl) (by omega) (by omega) rfl _ _ rfl rfl rfl ?_; intro v' wA hAA; obtain ⟨vg2, vc2, rfl, _⟩ := own_some (show Own wA 9 1 v' (vs.length + 1) _ from hAA.mid) (by omega); have HSA := Lib.hid (HBk.out _ _ _ _ hAA); clear hAA)
            go_roundw
            case rel =>
              refine ⟨k + 1, vs ++ [FN.val], _, _, vg2, vc2, by omega, by go_num, by simp, HUk.out, by simp; omega, ?_⟩
              rw [vsl_snoc]
              exact HSA.out
            case measure => simp [intOf]; omega
          · have hse : ((F.st : Int) == (F.en : Int)) = false := by simp; omega
            clear hst he hag hne hcv2
            generalize F.del false = FN at *
            go_wp2_with fail
            refine (HVb.out _ hb7).mono ?_
            rintro e w9 ⟨rfl, hb9⟩
            have hS9 := HS7.out.still (bthen hb7 hb9)
            obtain ⟨l1, hA9, hback⟩ := FsAt.app hS9
            have HA9 := Lib.hid (hA9.alloc (.cells #[.string ⟨FN.val.toArray⟩] 9))
            have HBk := Lib.hid hback
            clear hS9 hA9 hback hb9 hb7 HVb
            go_wp2_with (at_builtin; refine wpList_append_all etStr l1 HA9.out (own_at (n := 1) (size := 1) (Blk.new w9 [strV FN.val] 9) rfl (by omega)) (by intro u hu; simp at hu; subst hu; rfl) (by omega) (by omega) rfl _ _ rfl rfl rfl ?_; intro v' wA hAA; obtain ⟨vg2, vc2, rfl, _⟩ := own_some (show Own wA 9 1 v' (vs.length + 1) _ from hAA.mid) (by omega); have HSA := Lib.hid (HBk.out _ _ _ _ hAA); clear hAA)
            go_roundw
            case rel =>
              refine ⟨k + 1, vs ++ [FN.val], _, _, vg2, vc2, by omega, by go_num, by simp, HUk.out, by simp; omega, ?_⟩
              rw [vsl_snoc]
              exact HSA.out
            case measure => simp [intOf]; omega
    · obtain rfl : k = n := by omega
      have hm := hU.vs.len
      have hvs1 : 0 < vs.length := List.length_pos_iff.2 hU.vs.1
      have hat := fun j => hU.vs.at (j := j)
      have hch := hU.ag.chain
      have hbk := bkN_is E hU.red
      have hfwd := fwN_is E hU.red hch
      have hN9 : 300 + 80 * k ≤ 900000 := by omega
      clear hch
      generalize hmm : E.undo.length = m at *
      have hmn : min ((vs.length : Int) - 1) 100 = (m : Int) := by omega
      rw [← hm] at hat
      have hag0 := hU.ag
      have HS0 := Lib.hid hS
      have HAt := Lib.hid hat
      have HBk := Lib.hid hbk
      have HFw := Lib.hid hfwd
      have hmv : m + 1 ≤ vs.length := by omega
      have hag0' := Lib.hid hag0
      have HMM := Lib.hid hmm
      generalize 300 + 80 * k = N at *
      clear hS hU hat hbk hfwd hag0 hm hmm HU0 HS4 HIn HOp HFl
      go_wp2_with fail
      go_loopw [166] (fun iv wr => BkR w Q O hd dv vg vc vs m N (E.bkN) iv wr) (fun iv _ => m - (intOf iv).toNat)
      case atStart => exact ⟨0, F, Nat.zero_le _, rfl, hag0'.out, HS0.out⟩
      case round =>
        obtain ⟨i, Fi, him, rfl, hag, hS⟩ := hrel
        have hfn := hag.n
        by_cases hil : i < m
        · have hne : Fi.undo ≠ [] := fun e => by
            have h1 := hag.back.2.1 e
            rw [(HBk.out i (by omega)).1] at h1
            have := congrArg List.length h1
            rw [List.length_take, HMM.out] at this
            simp at this; omega
          obtain ⟨us, xx, hu, hxa, hx1, hx2⟩ := hag.undo_ok hne
          have HUn := Lib.hid (undo_one hS (by simp) HF.out hk HL.out hag.ok hN9 us xx hu hxa (by omega) (by omega))
          have hagb : Ag N Fi.back (E.bkN (i + 1)) := hag.back.1
          have hval : vs[vs.length - 2 - i]? = some Fi.back.val := by
            have h1 := (HBk.out (i + 1) (by omega)).2.2
            rw [HAt.out, hagb.val] at h1
            rw [← h1]
            congr 1
            omega
          have hidx : (vs.length : Int) - 2 - (i : Int) = ((vs.length - 2 - i : Nat) : Int) := by omega
          have HVl := Lib.hid hval
          have HAg := Lib.hid hagb
          clear hS hne hu hxa hx1 hx2 hval hag hagb
          generalize Fi.back = Fj at *
          go_wp2_with fail
          refine HUn.out.mono ?_
          rintro e w5 ⟨rfl, hS5⟩
          have HV5 := Lib.hid (value_one hS5 (by simp) HF.out hk)
          have HS5 := Lib.hid hS5
          clear hS5 HUn
          go_wp2_with fail
          refine HV5.out.mono ?_
          rintro e w6 ⟨rfl, hb6⟩
          have hS6 := HS5.out.still hb6
          have hcell := vsl_cell (hS6.rest.head) HVl.out
          have HS6 := Lib.hid hS6
          have hvne : (Fj.val != Fj.val) = false := by simp
          clear hS6 hb6 HV5 HS5
          go_wp2_with fail
          go_roundw
          case rel => exact ⟨i + 1, Fj, by omega, by go_num, HAg.out, HS6.out⟩
          case measure => simp [intOf]; omega
        · obtain rfl : i = m := by omega
          have hue : Fi.undo = [] := by
            rw [hag.back.2, (HBk.out i (Nat.le_refl _)).1, Nat.sub_self, List.take_zero]
          have HUn := Lib.hid (undo_no hS (by simp) HF.out hk hue)
          have HSi := Lib.hid hS
          have HAg := Lib.hid hag
          clear hS hue hag HBk
          go_wp2_with fail
          refine HUn.out.mono ?_
          rintro e w5 ⟨rfl, hb5⟩
          have HS5 := Lib.hid (HSi.out.still hb5)
          clear hb5 HUn HSi
          go_wp2_with fail
          go_loopw [204] (fun iv wr => BkR w Q O hd dv vg vc vs i N (fun j => (E.bkN i).fwN j) iv wr) (fun iv _ => i - (intOf iv).toNat)
          case atStart => exact ⟨0, Fi, Nat.zero_le _, rfl, HAg.out, HS5.out⟩
          case round =>
            obtain ⟨j, Fj, hjm, rfl, hag, hS⟩ := hrel
            have hfn2 := hag.n
            have hfj := HFw.out j (by omega)
            by_cases hjl : j < i
            · have hne : Fj.redo ≠ [] := fun e => by
                have h1 := hag.forth.2.1 e
                simp only [] at h1
                rw [hfj.2.1] at h1
                have := congrArg List.length h1
                rw [List.length_reverse, List.length_drop, HMM.out] at this
                simp at this; omega
              obtain ⟨us, xx, hu, hxa, hx1, hx2⟩ := hag.redo_ok hne
              have HUn := Lib.hid (redo_one hS (by simp) HF.out hk HL.out hag.ok hN9 us xx hu hxa (by omega) (by omega))
              have hagb : Ag N Fj.forth ((E.bkN i).fwN (j + 1)) := hag.forth.1
              have hval : vs[vs.length - i + j]? = some Fj.forth.val := by
                have h1 := (HFw.out (j + 1) (by omega)).2.2
                rw [HAt.out, hagb.val] at h1
                rw [← h1]
                congr 1
                omega
              have hidx : (vs.length : Int) - (i : Int) + (j : Int) = ((vs.length - i + j : Nat) : Int) := by omega
              have HVl := Lib.hid hval
              have HAg2 := Lib.hid hagb
              clear hS hne hu hxa hx1 hx2 hval hag hagb hfj
              generalize Fj.forth = Fk at *
              go_wp2_with fail
              refine HUn.out.mono ?_
              rintro e w6 ⟨rfl, hS6⟩
              have HV6 := Lib.hid (value_one hS6 (by simp) HF.out hk)
              have HS6 := Lib.hid hS6
              clear hS6 HUn
              go_wp2_with fail
              refine HV6.out.mono ?_
              rintro e w7 ⟨rfl, hb7⟩
              have hS7 := HS6.out.still hb7
              have hcell := vsl_cell (hS7.rest.head) HVl.out
              have HS7 := Lib.hid hS7
              clear hS7 hb7 HV6 HS6
              go_wp2_with fail
              go_roundw
              case rel => exact ⟨j + 1, Fk, by omega, by go_num, HAg2.out, HS7.out⟩
              case measure => simp [intOf]; omega
            · obtain rfl : j = i := by omega
              have hue : Fj.redo = [] := by
                rw [hag.forth.2, hfj.2.1, ← HMM.out, List.drop_length]; rfl
              have HUn := Lib.hid (redo_no hS (by simp) HF.out hk hue)
              have HSj := Lib.hid hS
              clear hS hue hag hfj
              go_wp2_with fail
              refine HUn.out.mono ?_
              rintro e w6 ⟨rfl, hb6⟩
              have HS6 := Lib.hid (HSj.out.still hb6)
              clear hb6
              go_wp2_with fail
              go_ret
              exact ⟨rfl, HS6.out.rest.below⟩
end Go.Proofs.YtacdbnhnhdlmpaaGreatDoor.W
end
section
namespace Go.Proofs.YtacdbnhnhdlmpaaGreatDoor.W
open Go.ChangeShapes Go.WideShapes Go.ChangeAt Go.RowKit Go.Joins Go.Shelf
def lst : List (String × DataW Unit) := [("unicode/utf8.acceptRanges", Rows.laid_unicode_utf8_acceptRanges), ("unicode/utf8.first", Rows.laid_unicode_utf8_first)]
theorem first_eq : Rows.laid_unicode_utf8_first = Lib.firstData := by kernel_rfl
theorem accept_eq : (Rows.laid_unicode_utf8_acceptRanges : DataW Unit) = Lib.acceptData := by kernel_rfl
set_option maxRecDepth 100000 in
theorem laid_of {w : World} (h : laidMetH Tryz.prog lst w) (hs : w.ShapedOpen Tryz.prog) : Laid w := by
  have h1 := Lib.laidMet.reads h (.tail _ (.head _))
  have h2 := Lib.laidMet.reads h (.head _)
  rw [first_eq] at h1
  rw [accept_eq] at h2
  exact ⟨utf8Tabs_of_readsT (U8Types.of196 Tryz.laysValid) ⟨by kernel_rfl, by kernel_rfl, by kernel_rfl, by kernel_rfl, by kernel_rfl, by kernel_rfl, by kernel_rfl⟩ h1 h2⟩
noncomputable def laidWorld (os : Os) : World :=
  let w0 := World.holding Tryz.prog os ⟨#[], #[], []⟩
  let put (h : Array Obj) (g : Nat) (cs : Array Value) : Array Obj := h.modify g fun
    | .cells _ t frozen => .cells cs t frozen
    | o => o
  let h1 := put w0.heap 0 (Lib.firstTab.map fun z => Value.int .u8 z).toArray
  let h2 := put h1 1 ((List.range 16).flatMap fun i => [Value.int .u8 (Lib.accLo i), Value.int .u8 (Lib.accHi i)]).toArray
  { w0 with heap := h2 }
theorem laid_met (os : Os) (args : Array Value) : laidMet Tryz.prog lst ((laidWorld os).forCall (fun _ _ => 0) ⟨#[], args, []⟩).memory :=
  (LaidIn.of_run (l := lst) [0, 1] 8 (by kernel_rfl) (by kernel_rfl) (by kernel_rfl) (by kernel_rfl)).met
end Go.Proofs.YtacdbnhnhdlmpaaGreatDoor.W
end
