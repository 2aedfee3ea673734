/- Texts joined: LwD LaidW. -/
import Derived.Test.YtacdbnhnhdlmpaaGreatDoorFD12
import Derived.Deep.CutBlock
import Derived.Test.YtacdbnhnhdlmpaaGreatDoorCards
import Derived.Test.YtacdbnhnhdlmpaaGreatDoorTie
import Derived.Shelf.Vars
import Derived.Lib.LaidU8T
import Derived.Shelf.Unicode.ValidAny
import Derived.Lib.LaidIn
import Derived.Deep.DeepHandedRow
import Derived.Deep.DeepWitnessRowRef
import Derived.SizedLaws
set_option maxRecDepth 100000
set_option maxHeartbeats 40000000
set_option linter.unusedVariables false
set_option linter.unusedSimpArgs false
section
namespace Go.Proofs.YtacdbnhnhdlmpaaGreatDoor.W
open Go.RowKit
theorem atC_get {w : World} {B n : Nat} {a : Option Addr} {c : Nat} {l : List Atr} (h : w.ownsRow B 85 2 (.slice a n c) l.length (attrC l)) {t : Nat} {p : Atr} (hk : l[t]? = some p) : ∃ g, a = some ⟨g, 0, none⟩ ∧ n = l.length ∧ l.length ≤ c ∧ w.cell? ⟨g, t * 2, none⟩ = some (strV p.1) ∧ w.cell? ⟨g, t * 2 + 1, none⟩ = some (strV p.2) := by
  have hl := (List.getElem?_eq_some_iff.1 hk).1
  have h0 : Own w 85 2 (.slice a n c) l.length (attrC l) := own_low h (Nat.zero_le _)
  obtain ⟨g, cap, e, hc⟩ := own_some h0 (by omega)
  cases e
  obtain ⟨h1, h2⟩ := attrC_at l t p hk
  refine ⟨g, rfl, rfl, hc, ?_, ?_⟩
  · rw [h0.cellAt (t * 2) (by omega), Nat.mul_comm]; exact h1
  · rw [h0.cellAt (t * 2 + 1) (by omega), Nat.mul_comm]; exact h2
def VDt (m : Nat) : List Value → Value → Prop := fun _ v => ∃ a c, v = .slice a m c
def FDt (B m : Nat) (al : List Atr) : List Value → World → Prop
  | [v], w' => w'.ownsRow B 85 2 v m (attrC al)
  | [v, u], w' => w'.ownsRow B 85 2 v m (attrC al) ∧ w'.ownsRow B 85 2 u m (attrC al)
  | _, _ => True
theorem fdt_below {B m : Nat} {al : List Atr} (k : List Value) (w1 w2 : World) (h : FDt B m al k w1) (hb : Below w1.heap.size w1 w2) : FDt B m al k w2 := by
  match k, h with
  | [], _ => trivial
  | [v], h => exact own_keepB h hb
  | [v, u], h => exact ⟨own_keepB h.1 hb, own_keepB h.2 hb⟩
  | _ :: _ :: _ :: _, _ => trivial
set_option maxRecDepth 100000 in
set_option maxHeartbeats 40000000 in
theorem datas_any (w : World) (hT : Laid w) (A1 : Option Addr) (n1 c1 : Nat) (f1 : Nat → PtF) (h1 : InPt w A1 n1 f1) (hf1 : ∀ j, (f1 j).In) (A2 : Option Addr) (n2 c2 : Nat) (f2 : Nat → MkF) (h2 : InMk w A2 n2 f2) (hf2 : ∀ j, (f2 j).at_ ≤ 255) (sb : Nat) (hsb : sb ≤ 255) :
    Calls Tryz.prog 8 #[.slice A1 n1 c1, .slice A2 n2 c2, .int .u8 (sb : Int)] w fun e w' => e = .returned (.bool true) ∧ Below w.heap.size w w' := by
  have hL : ∀ wx, Below w.heap.size w wx → Laid wx := fun wx hb => hT.below hb
  have HL := Lib.hid hL
  have HAw := Lib.hid (fun wx (hb : Below w.heap.size w wx) => awake_any wx (hT.below hb))
  have HP := Lib.hid (fun wx (hb : Below w.heap.size w wx) => h1.below hb)
  have HMi := Lib.hid (fun wx (hb : Below w.heap.size w wx) => h2.below hb)
  have HF1 := Lib.hid hf1
  have HF2 := Lib.hid hf2
  have HFw := Lib.hid (fun wx => fewp_any A1 n1 c1 wx)
  clear hT hL h1 h2 hf1 hf2
  by_cases hn1 : n1 ≤ 25
  · rw [decide_eq_true hn1] at HFw
    by_cases hn2 : n2 ≤ 20
    · have d2 : decide (20 < n2) = false := by simp; omega
      have d2' : decide ((20 : Int) < (n2 : Int)) = false := by simp; omega
      go_enter Tryz.func8, Tryz.ntmps8
      go_wp2_with fail
      refine (HAw.out _ (Below.refl _ _)).mono ?_
      rintro e w1 ⟨rfl, hb1⟩
      go_wp2_with fail
      refine (HFw.out _).mono ?_
      rintro e w2 ⟨rfl, rfl⟩
      have HDo := Lib.hid (document_any ((All.start w).still hb1) HL.out A1 n1 c1 f1 HP.out hn1 HF1.out)
      clear hb1 HFw HAw
      go_wp2_with fail
      refine HDo.out.mono ?_
      rintro e w3 ⟨R, S, sv, fv, K, d, L, lv, rfl, hA3, hD, hLl⟩
      have hA5 := rd_start ((hA3.newBkA w3.heap.size rfl [.slice none 0 0, .int .i64 0] 30).newBkA (w3.heap.size + 1) (by simp) [.slice none 0 0, .slice none 0 0] 65)
      obtain ⟨la, lc, rfl⟩ := own_shape (rd_row hA5)
      have HA5 := Lib.hid hA5
      have HD := Lib.hid hD
      have HLl := Lib.hid hLl
      clear hA3 hA5 hD hLl HDo
      by_cases hn0 : n1 = 0
      · obtain rfl : L = [] := List.eq_nil_of_length_eq_zero (by rw [HLl.out]; exact hn0)
        have HB5 := Lib.hid HA5.out.below
        clear HLl HD HA5 hn0
        simp only [List.length_nil]
        go_wp2_with fail
        go_loopw [38] (fun iv wr => ∃ k : Nat, k ≤ n2 ∧ iv = .int .i64 (k : Int) ∧ Below w.heap.size w wr) (fun iv _ => n2 - (intOf iv).toNat)
        case atStart => exact ⟨0, by omega, rfl, HB5.out⟩
        case round =>
          obtain ⟨k, hk, rfl, hb⟩ := hrel
          have HB := Lib.hid hb
          clear hb
          by_cases hkl : k < n2
          all_goals
            first | (have hkk : (k : Int) < (n2 : Int) := (by omega)) | (obtain rfl : k = n2 := by omega)
            go_wp2_with fail
            go_loopw [88] (fun iv wr => iv = .int .i64 0 ∧ Below w.heap.size w wr) (fun _ _ => 0)
            case atStart => exact ⟨rfl, HB.out⟩
            case round =>
              obtain ⟨rfl, hb⟩ := hrel
              have HB2 := Lib.hid hb
              clear hb
              go_wp2_with fail
              go_ret
              exact ⟨rfl, HB2.out⟩
      · have hLp : 0 < L.length := by rw [HLl.out]; omega
        have hLb : L.length ≤ 25 := by rw [HLl.out]; exact hn1
        have hL0 : ¬ (L.length : Int) = 0 := by omega
        have gL0 : ((L.length : Int) == 0) = false := beq_eq_false_iff_ne.2 hL0
        have HEl := Lib.hid HD.out.el
        have HDk := Lib.hid HD.out.ok
        have HM0 := Lib.hid (MkOk.start (S := S) (K := K) (d := d))
        clear HLl hn0 HD
        go_wp2_with fail
        generalize w3.heap.size + 1 = Z at *
        generalize w3.heap.size = Q at *
        go_loopw [38] (fun iv wr => ∃ (k : Nat) (X : List FX) (fa va vb : Value) (M : List (Int × Bool)), k ≤ n2 ∧ iv = .int .i64 (k : Int) ∧ MkOk S K d X M ∧ X.length ≤ 101 * k ∧ M.length ≤ 101 * k ∧ All w.heap.size w (fsL Q fa 0 X ++ rdL Z R S sv fv va vb (.slice la L.length lc) L M) wr) (fun iv _ => n2 - (intOf iv).toNat)
        case atStart => exact ⟨0, [], _, _, _, [], Nat.zero_le _, rfl, HM0.out, Nat.zero_le _, Nat.zero_le _, HA5.out⟩
        case round =>
          obtain ⟨k, X, fa, va, vb, M, hk2, rfl, hmk, hXl, hMl, hA⟩ := hrel
          have HA := Lib.hid hA
          have HMk := Lib.hid hmk
          clear hmk
          by_cases hkl : k < n2
          · obtain ⟨na, nc, rfl⟩ := own_shapeB (rd_mk hA).nodes
            obtain ⟨oa, oc, rfl⟩ := own_shapeB (rd_mk hA).on
            obtain ⟨gm, off, rfl, hgm, hc⟩ := HMi.out _ hA.below (by omega)
            obtain ⟨q0, q1⟩ := hc k hkl
            have HMi2 := Lib.hid (fun wx (hb : Below w.heap.size w wx) => (show wx.cell? ⟨gm, off + k * 2 + 1, none⟩ = some (.bool (f2 k).on) from by
              obtain ⟨b, off', e, _, hc'⟩ := HMi.out wx hb (by omega)
              cases e
              exact (hc' k hkl).2))
            generalize hma : (f2 k).at_ = ma at *
            have hma2 := HF2.out k
            rw [hma] at hma2
            generalize (f2 k).on = on at *
            obtain ⟨j, hj⟩ : ∃ j, ma % L.length = j := ⟨_, rfl⟩
            have hjL : j < L.length := by rw [← hj]; exact Nat.mod_lt _ hLp
            have hmj : Int.tmod (ma : Int) (L.length : Int) = (j : Int) := by rw [← hj]; exact tmod_nat ma L.length
            have hjL2 : (j : Int) < (L.length : Int) := by omega
            obtain ⟨q, hq⟩ : ∃ q, L[j]? = some q := ⟨_, List.getElem?_eq_getElem hjL⟩
            obtain ⟨nq, hnq, _⟩ := HEl.out q (List.mem_of_getElem? hq)
            obtain ⟨vg, e, _, hvc, ck⟩ := hdC_get (B := 0) (rd_row hA) hq
            subst e
            have HNq := Lib.hid hnq
            clear hc hma hj hq hnq hA hgm
            have hA7 := HA.out
            generalize wr = w7 at *
            have HA7 := Lib.hid hA7
            clear hA7 HA
            by_cases hck : isCk nq = true
            · have HSc := Lib.hid (setChecked_yes HDk.out HA7.out rd_tr q nq HNq.out hck on (by omega))
              have hkk : kindN nq = 3 ∨ kindN nq = 4 := by unfold isCk at hck; simpa using hck
              generalize kindN nq = kx at *
              clear hck
              go_wp2_with fail
              refine HSc.out.mono ?_
              rintro e w8 ⟨rfl, fa8, hA8⟩
              have HA8 := Lib.hid hA8
              have q1 := HMi2.out w8 hA8.below
              have kz := rd_bk hA8
              have y0 := fun (x : InS (StB w8)) => (kz.below x.h).cell 0
              have y1 := fun (x : InS (StB w8)) => (kz.below x.h).cell 1
              have ym := fun (x : InS (StB w8)) => cell_keep x.h q1
              simp only [List.getElem?_cons_succ, List.getElem?_cons_zero] at y0 y1
              have hne := stb_ne w8
              have HMs := Lib.hid (fun wx (hb : Below w8.heap.size w8 wx) => mset_any HDk.out (rd_tree (hA8.still hb)) (rd_mk (hA8.still hb)) (by omega) q nq HNq.out on)
              have hX8 := setX_len HDk.out X (S.hd q) on
              have hM8 := setM_len HDk.out M (S.hd q) on
              have HMk8 := Lib.hid (HMk.out.set HDk.out (S.hd q) on)
              generalize setX (gH S K d) (rdH S) X (S.hd q) on = X8 at *
              generalize setM (gH S K d) (rdH S) M (S.hd q) on = M8 at *
              clear hA8 kz HSc HA7 q1
              clear hkk
              go_upto_region 12 with fail
              refine reg_f (FMs w8.heap.size M8) VMs 9 (by kernel_rfl) (by kernel_rfl) fms_below trivial ?_
              simp only [List.take_succ_cons, List.take_zero, List.drop_succ_cons, List.drop_zero]
              repeat (first
                | (refine RV.m_held (by rfl) (by rfl) (fun K hK => ?_); go_big_quiet_step (fail); refine wpQuiet_nil ?_; refine hK.out _ ?_; clear hK K)
                | (refine RV.m_skip (by rfl) ?_; simp only [Act.put, List.setIfInBounds_toArray, List.set_cons_zero, List.set_cons_succ]))
              refine RV.m_call (by rfl) (by rfl) (fun w => by go_simp; exact ⟨rfl, rfl⟩) (⟨_, none, 0, 0, none, 0, 0, rfl⟩) (fun X wx hx => ?_) (fun v hv => ?_)
              · refine (HMs.out _ hx.1).mono ?_
                rintro e wy ⟨x, y, rfl, r1, r2, hb⟩
                obtain ⟨a1, b1, rfl⟩ := own_shapeB r1
                obtain ⟨a2, b2, rfl⟩ := own_shapeB r2
                refine ⟨_, rfl, ⟨_, _, _, _, _, _, rfl⟩, bthen hx.1 hb, fun x y e => ?_⟩
                cases e
                exact ⟨own_low r1 hx.1.size, own_low r2 hx.1.size⟩
              obtain ⟨a9, m9, b9, a9', m9', b9', rfl⟩ := hv
              simp only [Act.put, List.setIfInBounds_toArray, List.set_cons_zero, List.set_cons_succ]
              repeat (first
                | (refine RV.m_held (by rfl) (by rfl) (fun K hK => ?_); go_big_quiet_step (fail); refine wpQuiet_nil ?_; refine hK.out _ ?_; clear hK K)
                | (refine RV.m_skip (by rfl) ?_; simp only [Act.put, List.setIfInBounds_toArray, List.set_cons_zero, List.set_cons_succ]))
              refine RV.m_nil ?_
              intro w9 hb9 hF9
              have hb9 : Below w8.heap.size w8 w9 := hb9
              obtain ⟨r1, r2⟩ := hF9 _ _ rfl
              have hA9 := rd_put HA8.out hb9 r1 r2
              have HA9 := Lib.hid hA9
              have kz := rd_bk (HA8.out.still hb9)
              have z0 := kz.cell 0
              have z1 := kz.cell 1
              have g0 := kz.free 0
              have g1 := kz.free 1
              simp only [List.getElem?_cons_succ, List.getElem?_cons_zero] at z0 z1
              clear hA9 kz r1 r2 hF9 hb9 y0 y1 ym hne HMs
              go_wp2_with fail
              go_roundw
              case rel => exact ⟨k + 1, X8, fa8, _, _, M8, by omega, by go_num, HMk8.out, by omega, by omega, HA9.out⟩
              case measure => simp [intOf]; omega
            · rw [Bool.not_eq_true] at hck
              have HSc := Lib.hid (setChecked_no HDk.out HA7.out rd_tr q nq HNq.out hck on)
              have hkk : ¬ kindN nq = 3 ∧ ¬ kindN nq = 4 := by unfold isCk at hck; simpa using hck
              generalize kindN nq = kx at *
              have e3 : ((kx : Int) == 3) = false := by simp; omega
              have e4 : ((kx : Int) == 4) = false := by simp; omega
              clear hck hkk
              go_wp2_with fail
              refine HSc.out.mono ?_
              rintro e w8 ⟨rfl, hb8⟩
              have HA8 := Lib.hid (HA7.out.still hb8)
              clear hb8 HSc q1
              go_wp2_with fail
              go_roundw
              case rel => exact ⟨k + 1, X, fa, _, _, M, by omega, by go_num, HMk.out, by omega, by omega, HA8.out⟩
              case measure => simp [intOf]; omega
          · obtain rfl : k = n2 := by omega
            obtain ⟨na, nc, rfl⟩ := own_shapeB (rd_mk hA).nodes
            obtain ⟨oa, oc, rfl⟩ := own_shapeB (rd_mk hA).on
            have hu := HMk.out.eq
            have HRow := Lib.hid (rd_row hA)
            have HBw := Lib.hid hA.below
            have HKz := Lib.hid (rd_bk hA)
            have HDt := Lib.hid (fun (x : Nat) (nx : Nd) (hx : S.at x = some nx) (bi : Int) wx (hb : Below wr.heap.size wr wx) => data_any HDk.out (HA.out.still hb) rd_tr HMk.out.nod (by omega) x nx hx bi)
            have HSd := Lib.hid (fun (x : Nat) (nx : Nd) (hx : S.at x = some nx) (bi : Int) wx (hb : Below wr.heap.size wr wx) => sdata_any HDk.out (rd_tree (HA.out.still hb)) (rd_mk (HA.out.still hb)) (by omega) x nx hx bi)
            rw [← hu] at HSd
            generalize uX X = u at *
            have hol := HDk.out.ord_len
            generalize wr = w2 at *
            obtain ⟨j, hj⟩ : ∃ j, sb % L.length = j := ⟨_, rfl⟩
            have hjL : j < L.length := by rw [← hj]; exact Nat.mod_lt _ hLp
            have hmj : Int.tmod (sb : Int) (L.length : Int) = (j : Int) := by rw [← hj]; exact tmod_nat sb L.length
            have hjL2 : (j : Int) < (L.length : Int) := by omega
            have hLp2 : (0 : Int) < (L.length : Int) := by omega
            have hLd : decide (0 < L.length) = true := by simpa using hLp
            obtain ⟨q, hq⟩ : ∃ q, L[j]? = some q := ⟨_, List.getElem?_eq_getElem hjL⟩
            obtain ⟨vg, e, _, hvc, ck⟩ := hdC_get (B := 0) HRow.out hq
            subst e
            generalize S.hd q = bi at *
            clear hA hu HMk HA HA5 HM0 hXl hMl hj hq
            go_wp2_with fail
            clear ck
            go_loopw [88] (fun iv wx => ∃ t : Nat, t ≤ L.length ∧ iv = .int .i64 (t : Int) ∧ Below w2.heap.size w2 wx) (fun iv _ => L.length - (intOf iv).toNat)
            case atStart => exact ⟨0, Nat.zero_le _, rfl, Below.refl _ _⟩
            case round =>
              obtain ⟨t, ht, rfl, hbt⟩ := hrel
              have HBt := Lib.hid hbt
              clear hbt
              by_cases htl : t < L.length
              · obtain ⟨q, hq⟩ : ∃ q, L[t]? = some q := ⟨_, List.getElem?_eq_getElem htl⟩
                obtain ⟨nq, hnq, _⟩ := HEl.out q (List.mem_of_getElem? hq)
                obtain ⟨vg2, e, _, hvc2, ck⟩ := hdC_get (own_belowM HRow.out HBt.out) hq
                cases e
                have HD1 := Lib.hid (fun wx (hb : Below wr.heap.size wr wx) => HDt.out q nq hnq bi wx (bthen HBt.out hb))
                have HS1 := Lib.hid (fun wx (hb : Below wr.heap.size wr wx) => HSd.out q nq hnq bi wx (bthen HBt.out hb))
                have hfl := List.length_filter_le (dtP S d (fun x => chkd (gH S K d) (rdH S) (atH S) u (S.hd x)) (S.hd q) bi) (ord K d)
                generalize (ord K d).filter (dtP S d (fun x => chkd (gH S K d) (rdH S) (atH S) u (S.hd x)) (S.hd q) bi) = fl at *
                have hml : (fl.map (dtA S K d)).length = fl.length := List.length_map _
                generalize fl.map (dtA S K d) = al at *
                obtain ⟨m, hm⟩ : ∃ m, fl.length = m := ⟨_, rfl⟩
                rw [hm] at HD1 HS1 hml hfl
                have Hml := Lib.hid hml
                have hmb : m ≤ 100 := by omega
                have y0 := fun (x : InS (StB wr)) => (HKz.out.below (bthen HBt.out x.h)).cell 0
                have y1 := fun (x : InS (StB wr)) => (HKz.out.below (bthen HBt.out x.h)).cell 1
                have yk := fun (x : InS (StB wr)) => cell_keep x.h ck
                simp only [List.getElem?_cons_succ, List.getElem?_cons_zero] at y0 y1
                have hne := stb_ne wr
                have gmm : ((m : Int) != (m : Int)) = false := by simp
                clear hq hm hml hfl hnq
                go_upto_region 20 with fail
                refine reg_f (FDt wr.heap.size m al) (VDt m) 17 (by kernel_rfl) (by kernel_rfl) fdt_below trivial ?_
                simp only [List.take_succ_cons, List.take_zero, List.drop_succ_cons, List.drop_zero]
                repeat (first
                  | (refine RV.m_held (by rfl) (by rfl) (fun K hK => ?_); go_big_quiet_step (fail); refine wpQuiet_nil ?_; refine hK.out _ ?_; clear hK K)
                  | (refine RV.m_skip (by rfl) ?_; simp only [Act.put, List.setIfInBounds_toArray, List.set_cons_zero, List.set_cons_succ]))
                refine RV.m_call (by rfl) (by rfl) (fun w => by go_simp; exact ⟨rfl, rfl⟩) (⟨_, none, 0, rfl⟩) (fun X wx hx => ?_) (fun v hv => ?_)
                · refine (HD1.out _ hx.1).mono ?_
                  rintro e wy ⟨v, rfl, hr, hb⟩
                  obtain ⟨a1, b1, rfl⟩ := own_shapeB hr
                  exact ⟨_, rfl, ⟨_, _, rfl⟩, bthen hx.1 hb, own_low hr hx.1.size⟩
                obtain ⟨a8, c8, rfl⟩ := hv
                simp only [Act.put, List.setIfInBounds_toArray, List.set_cons_zero, List.set_cons_succ]
                repeat (first
                  | (refine RV.m_held (by rfl) (by rfl) (fun K hK => ?_); go_big_quiet_step (fail); refine wpQuiet_nil ?_; refine hK.out _ ?_; clear hK K)
                  | (refine RV.m_skip (by rfl) ?_; simp only [Act.put, List.setIfInBounds_toArray, List.set_cons_zero, List.set_cons_succ]))
                refine RV.m_call (by rfl) (by rfl) (fun w => by go_simp; exact ⟨rfl, rfl⟩) (⟨_, none, 0, rfl⟩) (fun X wx hx => ?_) (fun v hv => ?_)
                · refine (HS1.out _ hx.1).mono ?_
                  rintro e wy ⟨v, rfl, hr, hb⟩
                  obtain ⟨a1, b1, rfl⟩ := own_shapeB hr
                  exact ⟨_, rfl, ⟨_, _, rfl⟩, bthen hx.1 hb, own_low hr hx.1.size, own_keepB hx.2 hb⟩
                obtain ⟨a9, c9, rfl⟩ := hv
                simp only [Act.put, List.setIfInBounds_toArray, List.set_cons_zero, List.set_cons_succ]
                repeat (first
                  | (refine RV.m_held (by rfl) (by rfl) (fun K hK => ?_); go_big_quiet_step (fail); refine wpQuiet_nil ?_; refine hK.out _ ?_; clear hK K)
                  | (refine RV.m_skip (by rfl) ?_; simp only [Act.put, List.setIfInBounds_toArray, List.set_cons_zero, List.set_cons_succ]))
                refine RV.m_nil ?_
                intro w9 hb9 hF9
                obtain ⟨r2, r1⟩ := hF9
                rw [← Hml.out] at r1 r2
                have HR1 := Lib.hid r1
                have HR2 := Lib.hid r2
                have HB9 := Lib.hid (show Below wr.heap.size wr w9 from hb9)
                clear y0 y1 yk hne hb9 r1 r2 HD1 HS1 ck
                go_wp2_with fail
                go_loopw [113] (fun iv wx => ∃ j : Nat, j ≤ m ∧ iv = .int .i64 (j : Int) ∧ Below w9.heap.size w9 wx) (fun iv _ => m - (intOf iv).toNat)
                case atStart => exact ⟨0, Nat.zero_le _, rfl, Below.refl _ _⟩
                case round =>
                  obtain ⟨j, hjl, rfl, hbj⟩ := hrel
                  rename_i wq
                  have HBj := Lib.hid hbj
                  clear hbj
                  by_cases hjg : j < m
                  · obtain ⟨x, hx⟩ : ∃ x, al[j]? = some x := ⟨_, List.getElem?_eq_getElem (by rw [Hml.out]; exact hjg)⟩
                    have hrr1 := own_keepB HR1.out HBj.out
                    have hrr2 := own_keepB HR2.out HBj.out
                    rw [Hml.out] at hrr1 hrr2
                    obtain ⟨g1, e1, _, hc1, k1, k2⟩ := atC_get (by rw [Hml.out]; exact hrr1) hx
                    obtain ⟨g2, e2, _, hc2, k3, k4⟩ := atC_get (by rw [Hml.out]; exact hrr2) hx
                    subst e1
                    subst e2
                    rw [Hml.out] at hc1 hc2
                    clear hx hrr1 hrr2
                    have hjj : (j : Int) < (m : Int) := by omega
                    obtain ⟨p1, p2⟩ := x
                    simp only [strV] at k1 k2 k3 k4
                    have y1 := fun (q : InS (StB wr)) => cell_keep q.h k1
                    have y2 := fun (q : InS (StB wr)) => cell_keep q.h k2
                    have y3 := fun (q : InS (StB wr)) => cell_keep q.h k3
                    have y4 := fun (q : InS (StB wr)) => cell_keep q.h k4
                    have hne := stb_ne wr
                    have ep1 : (p1 != p1) = false := by simp
                    have ep2 : (p2 != p2) = false := by simp
                    go_upto_region 26 with fail
                    refine reg_f (fun _ _ => True) (fun _ _ => True) 9 (by kernel_rfl) (by kernel_rfl) (fun _ _ _ _ _ => trivial) trivial ?_
                    simp only [List.take_succ_cons, List.take_zero, List.drop_succ_cons, List.drop_zero]
                    repeat (first
                      | (refine RV.m_held (by rfl) (by rfl) (fun K hK => ?_); go_big_quiet_step (fail); refine wpQuiet_nil ?_; refine hK.out _ ?_; clear hK K)
                      | (refine RV.m_skip (by rfl) ?_; simp only [Act.put, List.setIfInBounds_toArray, List.set_cons_zero, List.set_cons_succ]))
                    refine RV.m_nil ?_
                    intro w11 hb11 _
                    have HB11 := Lib.hid (bthen HBj.out (show Below wr.heap.size wr w11 from hb11))
                    clear y1 y2 y3 y4 k1 k2 k3 k4 hne hb11
                    go_wp2_with fail
                    go_roundw
                    case rel => exact ⟨j + 1, by omega, by go_num, HB11.out⟩
                    case measure => simp [intOf]; omega
                  · obtain rfl : j = m := by omega
                    go_wp2_with fail
                    go_roundw
                    case rel => exact ⟨t + 1, by omega, by go_num, bthen HBt.out (bthen HB9.out HBj.out)⟩
                    case measure => simp [intOf]; omega
              · obtain rfl : t = L.length := by omega
                go_wp2_with fail
                go_ret
                exact ⟨rfl, bthen HBw.out HBt.out⟩
    · have d2 : decide (20 < n2) = true := by simp; omega
      have d2' : decide ((20 : Int) < (n2 : Int)) = true := by simp; omega
      go_enter Tryz.func8, Tryz.ntmps8
      go_wp2_with fail
      refine (HAw.out _ (Below.refl _ _)).mono ?_
      rintro e w1 ⟨rfl, hb1⟩
      go_wp2_with fail
      refine (HFw.out _).mono ?_
      rintro e w2 ⟨rfl, rfl⟩
      go_wp2_with fail
      refine (HAw.out _ hb1).mono ?_
      rintro e w3 ⟨rfl, hb3⟩
      go_wp2_with fail
      go_ret
      exact ⟨rfl, bthen hb1 hb3⟩
  · rw [decide_eq_false hn1] at HFw
    go_enter Tryz.func8, Tryz.ntmps8
    go_wp2_with fail
    refine (HAw.out _ (Below.refl _ _)).mono ?_
    rintro e w1 ⟨rfl, hb1⟩
    go_wp2_with fail
    refine (HFw.out _).mono ?_
    rintro e w2 ⟨rfl, rfl⟩
    go_wp2_with fail
    refine (HAw.out _ hb1).mono ?_
    rintro e w3 ⟨rfl, hb3⟩
    go_wp2_with fail
    go_ret
    exact ⟨rfl, bthen hb1 hb3⟩
end Go.Proofs.YtacdbnhnhdlmpaaGreatDoor.W
end
section
namespace Go.Proofs.YtacdbnhnhdlmpaaGreatDoor.W
open Go.ChangeShapes Go.WideShapes Go.ChangeAt Go.RowKit Go.Joins Go.Shelf
def lst : List (String × DataW Unit) := [("unicode/utf8.acceptRanges", Rows.laid_unicode_utf8_acceptRanges), ("unicode/utf8.first", Rows.laid_unicode_utf8_first)]
theorem first_eq : Rows.laid_unicode_utf8_first = Lib.firstData := by kernel_rfl
theorem accept_eq : (Rows.laid_unicode_utf8_acceptRanges : DataW Unit) = Lib.acceptData := by kernel_rfl
set_option maxRecDepth 100000 in
theorem laid_of {w : World} (h : laidMetH Tryz.prog lst w) (hs : w.ShapedOpen Tryz.prog) : Laid w := by
  have h1 := Lib.laidMet.reads h (.tail _ (.head _))
  have h2 := Lib.laidMet.reads h (.head _)
  rw [first_eq] at h1
  rw [accept_eq] at h2
  exact ⟨utf8Tabs_of_readsT (U8Types.of196 Tryz.laysValid) ⟨by kernel_rfl, by kernel_rfl, by kernel_rfl, by kernel_rfl, by kernel_rfl, by kernel_rfl, by kernel_rfl⟩ h1 h2⟩
noncomputable def laidWorld (os : Os) : World :=
  let w0 := World.holding Tryz.prog os ⟨#[], #[], []⟩
  let put (h : Array Obj) (g : Nat) (cs : Array Value) : Array Obj := h.modify g fun
    | .cells _ t frozen => .cells cs t frozen
    | o => o
  let h1 := put w0.heap 0 (Lib.firstTab.map fun z => Value.int .u8 z).toArray
  let h2 := put h1 1 ((List.range 16).flatMap fun i => [Value.int .u8 (Lib.accLo i), Value.int .u8 (Lib.accHi i)]).toArray
  { w0 with heap := h2 }
theorem laid_met (os : Os) (args : Array Value) : laidMet Tryz.prog lst ((laidWorld os).forCall (fun _ _ => 0) ⟨#[], args, []⟩).memory :=
  (LaidIn.of_run (l := lst) [0, 1] 8 (by kernel_rfl) (by kernel_rfl) (by kernel_rfl) (by kernel_rfl)).met
end Go.Proofs.YtacdbnhnhdlmpaaGreatDoor.W
end
