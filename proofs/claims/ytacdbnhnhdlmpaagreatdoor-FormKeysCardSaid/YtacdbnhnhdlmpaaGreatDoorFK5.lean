/- Texts joined: LwK. -/
import Derived.Test.YtacdbnhnhdlmpaaGreatDoorFK4
import Derived.Deep.CutBlock
set_option maxRecDepth 100000
set_option maxHeartbeats 40000000
set_option linter.unusedVariables false
set_option linter.unusedSimpArgs false
section
namespace Go.Proofs.YtacdbnhnhdlmpaaGreatDoor.W
open Go.RowKit
theorem keyOf_mem (z : Int) : keyOf z ∈ keyN := by
  unfold keyOf
  have hm : z.toNat % 14 < keyN.length := Nat.mod_lt _ (by decide)
  rw [List.getD_eq_getElem?_getD, List.getElem?_eq_getElem hm]
  exact List.getElem_mem hm
theorem keyN_ok : ∀ k ∈ keyN, k.length ≤ 20 ∧ k ≠ sTab ∧ k ≠ sShift := by decide
abbrev KR (R1 R2 : Nat) (O1 O2 : Ob) (va : Option Addr) (vc n : Nat) (ks : List (List UInt8)) : List Ob := [sl 9 1 (.slice va n vc) n (ks.map strV), O2, O1]
set_option maxRecDepth 100000 in
set_option maxHeartbeats 40000000 in
theorem keysL_any (w : World) (hT : Laid w) (area : Bool) (x : List UInt8) (A : Option Addr) (n c : Nat) (f : Nat → Int) (h : InB w A n f) (hf : ∀ j, 0 ≤ f j ∧ f j ≤ 255) :
    Calls Tryz.prog 10 #[.bool area, .string ⟨x.toArray⟩, .slice A n c] w fun e w' => e = .returned (.bool true) ∧ Below w.heap.size w w' := by
  have hL : ∀ wx, Below w.heap.size w wx → Laid wx := fun wx hb => hT.below hb
  have HL := Lib.hid hL
  have HAw := Lib.hid (fun wx (hb : Below w.heap.size w wx) => awake_any wx (hT.below hb))
  have hsz : (⟨x.toArray⟩ : ByteArray).size = x.length := by show x.toArray.size = _; simp
  have HKs := Lib.hid (fun wx (hb : Below w.heap.size w wx) (hn : n ≤ 100) => keys_any (c := c) (h.below hb) hf hn)
  have HFb := Lib.hid hf
  by_cases hx : x.length ≤ 60
  · have d1 : decide (60 < (⟨x.toArray⟩ : ByteArray).size) = false := by rw [hsz]; simp; omega
    have d1' : decide ((60 : Int) < (((⟨x.toArray⟩ : ByteArray).size : Nat) : Int)) = false := by rw [hsz]; simp; omega
    by_cases hn : n ≤ 100
    · have d2 : decide (100 < n) = false := by simp; omega
      have d2' : decide ((100 : Int) < (n : Int)) = false := by simp; omega
      clear h hT hf hL hsz
      go_enter Tryz.func10, Tryz.ntmps10
      go_wp2_with fail
      refine (HAw.out _ (Below.refl _ _)).mono ?_
      rintro e w1 ⟨rfl, hb1⟩
      have HS := Lib.hid (single_any ((All.start w).still hb1) HL.out area x hx)
      go_wp2_with fail
      refine HS.out.mono ?_
      rintro e w3 ⟨R1, S1, sv1, fv1, K1, e1, rfl, hA3, hg1⟩
      have HS2 := Lib.hid (single_any hA3 HL.out area x hx)
      clear hA3 HS HAw d1 d1' d2 d2'
      go_wp2_with fail
      refine HS2.out.mono ?_
      rintro e w4 ⟨R2, S2, sv2, fv2, K2, e2, rfl, hA4, hg2⟩
      have hF1 : FdOk w.heap.size w R1 (trO R1 S1 sv1 fv1) (S1.hd 2) (if area then 2 else 1) (fix x) := sg_fd area hg1
      have hF2 : FdOk w.heap.size w R2 (trO R2 S2 sv2 fv2) (S2.hd 2) (if area then 2 else 1) (fix x) := sg_fd area hg2
      have hFc : FcOk w.heap.size w R1 (trO R1 S1 sv1 fv1) (S1.hd 2) := sg_fc hg1
      have hOw : OwNo w.heap.size w R1 (trO R1 S1 sv1 fv1) (S1.hd 2) := sg_ow hg1
      obtain ⟨hk, hka⟩ := sg_k area
      have hvd : Vd (fix x) := by rw [fix_rfix]; exact rfix_rfix x
      have hvl : (fix x).length ≤ 180 := by have := fix_len3 x; omega
      have hA5 := (hA4.newBkA w4.heap.size rfl [.slice none 0 0, .int .i64 0] 30).newBkA (w4.heap.size + 1) (by simp) [.slice none 0 0, .int .i64 0] 30
      clear hg1 hg2 HS2 hA4
      generalize hkk : (if area then 2 else 1 : Nat) = kk at *
      generalize trO R1 S1 sv1 fv1 = O1 at *
      generalize trO R2 S2 sv2 fv2 = O2 at *
      generalize S1.hd 2 = h at *
      generalize S2.hd 2 = g at *
      generalize fix x = dv at *
      obtain ⟨l2, hl2, hA6⟩ := (FsAt.start hA5 g dv).lens
      have hQ := FsAt.start (hA6.perm List.perm_middle) h dv
      have HSf := Lib.hid (setFocus_one hQ (O := O1) (by simp) hFc)
      have HF1 := Lib.hid hF1
      have HF2 := Lib.hid hF2
      have HFc := Lib.hid hFc
      have HOw := Lib.hid hOw
      have HL2 := Lib.hid hl2
      clear hA5 hA6 hQ hF1 hF2 hFc hOw hkk hl2
      go_wp2_with fail
      generalize w4.heap.size + 1 = P at *
      generalize w4.heap.size = Q at *
      refine HSf.out.mono ?_
      rintro e w5 ⟨rfl, h5⟩
      obtain ⟨l1, hl1, hA7⟩ := h5.lens
      have hK7 : Ky2 w.heap.size w Q P h g dv (FT.of dv) (FT.of dv) [O2, O1] w5 := ⟨l1, l2, hl1, HL2.out, hA7⟩
      have HK7 := Lib.hid hK7
      have HKy := Lib.hid (HKs.out _ hK7.below hn)
      clear h5 hl1 hA7 hK7 HSf HL2 HKs
      go_wp2_with fail
      refine HKy.out.mono ?_
      rintro e w6 ⟨vk, rfl, hrow, hb6⟩
      obtain ⟨va, vc, rfl⟩ := own_shapeB hrow
      have hK8 : Ky2 w.heap.size w Q P h g dv (FT.of dv) (FT.of dv) (KR R1 R2 O1 O2 va vc n (keysL f n)) w6 := HK7.out.new (o := sl 9 1 (.slice va n vc) n ((keysL f n).map strV)) (own_low hrow (Nat.zero_le _)) hb6 (fun i hi => (hrow.lt i hi).1)
      have HK8 := Lib.hid hK8
      have HAg0 := Lib.hid (Ag.of hvd (show dv.length ≤ 300 by omega))
      have hdv7 : dv.length ≤ 10000000 := by omega
      clear hrow hb6 hK8 HK7 HKy
      go_wp2_with fail
      go_loopw [66] (fun iv wr => ∃ (k : Nat) (F : FT) (E : RE), k ≤ n ∧ iv = .int .i64 (k : Int) ∧ Ag (300 + 80 * k) F E ∧ Ky2 w.heap.size w Q P h g dv F F (KR R1 R2 O1 O2 va vc n (keysL f n)) wr) (fun iv _ => n - (intOf iv).toNat)
      case atStart => exact ⟨0, _, _, Nat.zero_le _, rfl, HAg0.out, HK8.out⟩
      case round =>
        obtain ⟨k, F, E, hkn, rfl, hag, hS⟩ := hrel
        by_cases hkl : k < n
        · have hfn := hag.n
          have hle := hag.le
          have hin := hag.in_
          have hnn := nL_le F.val
          have HAg := Lib.hid hag
          have HKc := Lib.hid (fun wx F1 F2 (hb : Ky2 w.heap.size w Q P h g dv F1 F2 (KR R1 R2 O1 O2 va vc n (keysL f n)) wx) => (show ∃ gk, va = some ⟨gk, 0, none⟩ ∧ wx.cell? ⟨gk, k, none⟩ = some (.string ⟨(keyOf (f k)).toArray⟩) from by
            have ho : Own wx 9 1 (.slice va n vc) n ((keysL f n).map strV) := hb.mem (o := sl 9 1 (.slice va n vc) n ((keysL f n).map strV)) (by simp [KR])
            obtain ⟨gk, cc, he, _⟩ := own_some ho (by omega)
            cases he
            refine ⟨gk, rfl, ?_⟩
            rw [ho.cellAt k (by omega)]
            simp [keysL, hkl, strV]))
          obtain ⟨gk, rfl, ck⟩ := HKc.out _ _ _ hS
          have hmem := keyOf_mem (f k)
          obtain ⟨hkl20, hk1, hk2⟩ := keyN_ok _ hmem
          have HKc2 := Lib.hid (fun wx F1 F2 (hb : Ky2 w.heap.size w Q P h g dv F1 F2 (KR R1 R2 O1 O2 (some ⟨gk, 0, none⟩) vc n (keysL f n)) wx) => (show wx.cell? ⟨gk, k, none⟩ = some (.string ⟨(keyOf (f k)).toArray⟩) from by
            obtain ⟨gk2, e, hc⟩ := HKc.out _ _ _ hb
            cases e
            exact hc))
          clear HKc
          generalize keyOf (f k) = ky at *
          generalize keysL f n = ks at *
          obtain ⟨lu, hlu, hFu, hbu⟩ := hS.u
          have HV := Lib.hid (value_one hFu (hlu O2 (by simp [KR])) HF2.out hk)
          have HSe := Lib.hid (fun wx (hb : Below wr.heap.size wr wx) => selection_one (hFu.still hb) (hlu O2 (by simp [KR])) HF2.out hk (by omega) hin (by omega))
          have HLe := Lib.hid (fun wx => rlen_any F.val hag.vd wx (by omega))
          have HSt := Lib.hid hS
          clear hS hag hFu hbu hlu
          go_wp2_with fail
          refine HV.out.mono ?_
          rintro e w7 ⟨rfl, hb7⟩
          go_wp2_with fail
          refine (HSe.out _ hb7).mono ?_
          rintro e w8 ⟨rfl, hb8⟩
          go_wp2_with fail
          refine (HLe.out _).mono ?_
          rintro e w9 ⟨rfl, hb9⟩
          have hS9 := HSt.out.still (bthen hb7 (bthen hb8 hb9))
          have ck9 := HKc2.out _ _ _ hS9
          have HS9 := Lib.hid hS9
          clear hb7 hb8 hb9 hS9 HV HSe HLe HSt ck
          go_upto_block 2 with fail
          go_cut [21] (fun ev wx => ∃ b : Bool, ev = .bool b ∧ b = (!decide (isMv ky)) ∧ Ky2 w.heap.size w Q P h g dv F (keyF area F ky) (KR R1 R2 O1 O2 (some ⟨gk, 0, none⟩) vc n ks) wx)
          case first =>
            obtain ⟨lu, hlu, hFu, hbu⟩ := HS9.out.u
            have HO2 := hlu O2 (by simp [KR])
            have HBu := Lib.hid hbu
            have HDe := Lib.hid (fun fw => delete_one hFu HO2 HF2.out hk hdv7 HL.out HAg.out.ok (by omega) fw)
            have HUn := Lib.hid (fs_undoF hFu HO2 HF2.out hk HL.out HAg.out (by omega))
            have HRe := Lib.hid (fs_redoF hFu HO2 HF2.out hk HL.out HAg.out (by omega))
            have HSl := Lib.hid (fun a => select_one hFu HO2 HF2.out hk hdv7 (by omega) a a)
            have HIn := Lib.hid (fun (ky : List UInt8) (hl : ky.length ≤ 20) => insert_one hFu HO2 HF2.out hk hdv7 HL.out HAg.out.ok (by omega) ky (by omega))
            rw [hka] at HIn
            clear hFu hbu hlu HKc2 hk1 hk2 hkl20
            simp only [keyN, sBack, sDel, sLeft, sRight, sHome, sEnd, sUndo, sRedo, sEnterK, List.mem_cons, List.not_mem_nil, or_false] at hmem
            rcases hmem with rfl | rfl | rfl | rfl | rfl | rfl | rfl | rfl | rfl | rfl | rfl | rfl | rfl | rfl
            · as_aux_lemma =>
                have HR := Lib.hid (HDe.out false)
                have he0 := kf_back (ar := area) (F := F)
                unfold sBack at he0
                have HE := Lib.hid he0
                clear he0
                clear HDe HUn HRe HSl HIn
                go_wp2_with fail
                refine HR.out.mono ?_
                rintro e w10 ⟨rfl, h10⟩
                have H10 := Lib.hid (HBu.out _ _ h10)
                clear h10 HR
                go_wp2_with fail
                go_meet
                refine ⟨_, rfl, by simp [isMv, sLeft, sRight, sHome, sEnd, sBack, sDel, sUndo, sRedo, sEnterK], ?_⟩
                rw [HE.out]
                exact H10.out
            · as_aux_lemma =>
                have HR := Lib.hid (HDe.out true)
                have he0 := kf_del (ar := area) (F := F)
                unfold sDel at he0
                have HE := Lib.hid he0
                clear he0
                clear HDe HUn HRe HSl HIn
                go_wp2_with fail
                refine HR.out.mono ?_
                rintro e w10 ⟨rfl, h10⟩
                have H10 := Lib.hid (HBu.out _ _ h10)
                clear h10 HR
                go_wp2_with fail
                go_meet
                refine ⟨_, rfl, by simp [isMv, sLeft, sRight, sHome, sEnd, sBack, sDel, sUndo, sRedo, sEnterK], ?_⟩
                rw [HE.out]
                exact H10.out
            · as_aux_lemma =>
                by_cases hse : F.st = F.en
                · as_aux_lemma =>
                    have HQ := Lib.hid hse
                    have g1 : ((F.st : Int) == (F.en : Int)) = true := by simp [hse]
                    by_cases hpp : 0 < F.st
                    · as_aux_lemma =>
                        have g2 : decide (0 < F.st) = true := by simpa using hpp
                        have he0 := kf_left1 (ar := area) hse hpp
                        unfold sLeft at he0
                        have HE := Lib.hid he0
                        clear he0
                        clear HDe HUn HRe HIn hse hpp
                        go_wp2_with fail
                        refine (HSl.out _).mono ?_
                        rintro e w10 ⟨rfl, h10⟩
                        have H10 := Lib.hid (HBu.out _ _ h10)
                        clear h10 HSl
                        go_wp2_with fail
                        go_meet
                        refine ⟨_, rfl, by simp [isMv, sLeft, sRight, sHome, sEnd], ?_⟩
                        rw [HE.out]
                        have h9 := H10.out
                        first
                          | exact h9
                          | (rw [HQ.out] at h9; exact h9)
                          | (rw [HQ.out]; exact h9)
                          | (rw [← HQ.out]; exact h9)
                    · as_aux_lemma =>
                        have g2 : decide (0 < F.st) = false := by simpa using hpp
                        have he0 := kf_left0 (ar := area) hle (fun q => hpp q.2)
                        unfold sLeft at he0
                        have HE := Lib.hid he0
                        clear he0
                        clear HDe HUn HRe HIn hse hpp
                        go_wp2_with fail
                        refine (HSl.out _).mono ?_
                        rintro e w10 ⟨rfl, h10⟩
                        have H10 := Lib.hid (HBu.out _ _ h10)
                        clear h10 HSl
                        go_wp2_with fail
                        go_meet
                        refine ⟨_, rfl, by simp [isMv, sLeft, sRight, sHome, sEnd], ?_⟩
                        rw [HE.out]
                        have h9 := H10.out
                        first
                          | exact h9
                          | (rw [HQ.out] at h9; exact h9)
                          | (rw [HQ.out]; exact h9)
                          | (rw [← HQ.out]; exact h9)
                · as_aux_lemma =>
                    have HQ := Lib.hid (show F.st = F.st from rfl)
                    have hpp : True := trivial
                    have g1 : ((F.st : Int) == (F.en : Int)) = false := by simp; omega
                    have he0 := kf_left0 (ar := area) hle (fun q => hse q.1)
                    unfold sLeft at he0
                    have HE := Lib.hid he0
                    clear he0
                    clear HDe HUn HRe HIn hse hpp
                    go_wp2_with fail
                    refine (HSl.out _).mono ?_
                    rintro e w10 ⟨rfl, h10⟩
                    have H10 := Lib.hid (HBu.out _ _ h10)
                    clear h10 HSl
                    go_wp2_with fail
                    go_meet
                    refine ⟨_, rfl, by simp [isMv, sLeft, sRight, sHome, sEnd], ?_⟩
                    rw [HE.out]
                    have h9 := H10.out
                    first
                      | exact h9
                      | (rw [HQ.out] at h9; exact h9)
                      | (rw [HQ.out]; exact h9)
                      | (rw [← HQ.out]; exact h9)
            · as_aux_lemma =>
                by_cases hse : F.st = F.en
                · as_aux_lemma =>
                    have HQ := Lib.hid hse
                    have g1 : ((F.st : Int) == (F.en : Int)) = true := by simp [hse]
                    by_cases hpp : F.st < nL F.val
                    · as_aux_lemma =>
                        have g2 : decide (F.st < nL F.val) = true := by simpa using hpp
                        have he0 := kf_right1 (ar := area) hse hpp
                        unfold sRight at he0
                        have HE := Lib.hid he0
                        clear he0
                        clear HDe HUn HRe HIn hse hpp
                        go_wp2_with fail
                        refine (HSl.out _).mono ?_
                        rintro e w10 ⟨rfl, h10⟩
                        have H10 := Lib.hid (HBu.out _ _ h10)
                        clear h10 HSl
                        go_wp2_with fail
                        go_meet
                        refine ⟨_, rfl, by simp [isMv, sLeft, sRight, sHome, sEnd], ?_⟩
                        rw [HE.out]
                        have h9 := H10.out
                        first
                          | exact h9
                          | (rw [HQ.out] at h9; exact h9)
                          | (rw [HQ.out]; exact h9)
                          | (rw [← HQ.out]; exact h9)
                    · as_aux_lemma =>
                        have g2 : decide (F.st < nL F.val) = false := by simp; omega
                        have he0 := kf_right0 (ar := area) hle hin (fun q => hpp q.2)
                        unfold sRight at he0
                        have HE := Lib.hid he0
                        clear he0
                        clear HDe HUn HRe HIn hse hpp
                        go_wp2_with fail
                        refine (HSl.out _).mono ?_
                        rintro e w10 ⟨rfl, h10⟩
                        have H10 := Lib.hid (HBu.out _ _ h10)
                        clear h10 HSl
                        go_wp2_with fail
                        go_meet
                        refine ⟨_, rfl, by simp [isMv, sLeft, sRight, sHome, sEnd], ?_⟩
                        rw [HE.out]
                        have h9 := H10.out
                        first
                          | exact h9
                          | (rw [HQ.out] at h9; exact h9)
                          | (rw [HQ.out]; exact h9)
                          | (rw [← HQ.out]; exact h9)
                · as_aux_lemma =>
                    have HQ := Lib.hid (show F.st = F.st from rfl)
                    have hpp : True := trivial
                    have g1 : ((F.st : Int) == (F.en : Int)) = false := by simp; omega
                    have he0 := kf_right0 (ar := area) hle hin (fun q => hse q.1)
                    unfold sRight at he0
                    have HE := Lib.hid he0
                    clear he0
                    clear HDe HUn HRe HIn hse hpp
                    go_wp2_with fail
                    refine (HSl.out _).mono ?_
                    rintro e w10 ⟨rfl, h10⟩
                    have H10 := Lib.hid (HBu.out _ _ h10)
                    clear h10 HSl
                    go_wp2_with fail
                    go_meet
                    refine ⟨_, rfl, by simp [isMv, sLeft, sRight, sHome, sEnd], ?_⟩
                    rw [HE.out]
                    have h9 := H10.out
                    first
                      | exact h9
                      | (rw [HQ.out] at h9; exact h9)
                      | (rw [HQ.out]; exact h9)
                      | (rw [← HQ.out]; exact h9)
            · as_aux_lemma =>
                have HR := Lib.hid (HSl.out 0)
                have he0 := kf_home (ar := area) (F := F)
                unfold sHome at he0
                have HE := Lib.hid he0
                clear he0
                clear HDe HUn HRe HSl HIn
                go_wp2_with fail
                refine HR.out.mono ?_
                rintro e w10 ⟨rfl, h10⟩
                have H10 := Lib.hid (HBu.out _ _ h10)
                clear h10 HR
                go_wp2_with fail
                go_meet
                refine ⟨_, rfl, by simp [isMv, sLeft, sRight, sHome, sEnd, sBack, sDel, sUndo, sRedo, sEnterK], ?_⟩
                rw [HE.out]
                exact H10.out
            · as_aux_lemma =>
                have HR := Lib.hid (HSl.out (nL F.val : Int))
                have he0 := kf_end (ar := area) (F := F)
                unfold sEnd at he0
                have HE := Lib.hid he0
                clear he0
                clear HDe HUn HRe HSl HIn
                go_wp2_with fail
                refine HR.out.mono ?_
                rintro e w10 ⟨rfl, h10⟩
                have H10 := Lib.hid (HBu.out _ _ h10)
                clear h10 HR
                go_wp2_with fail
                go_meet
                refine ⟨_, rfl, by simp [isMv, sLeft, sRight, sHome, sEnd, sBack, sDel, sUndo, sRedo, sEnterK], ?_⟩
                rw [HE.out]
                exact H10.out
            · as_aux_lemma =>
                have HR := Lib.hid (HUn.out)
                have he0 := kf_undo (ar := area) (F := F)
                unfold sUndo at he0
                have HE := Lib.hid he0
                clear he0
                clear HDe HUn HRe HSl HIn
                go_wp2_with fail
                refine HR.out.mono ?_
                rintro e w10 ⟨rfl, h10⟩
                have H10 := Lib.hid (HBu.out _ _ h10)
                clear h10 HR
                go_wp2_with fail
                go_meet
                refine ⟨_, rfl, by simp [isMv, sLeft, sRight, sHome, sEnd, sBack, sDel, sUndo, sRedo, sEnterK], ?_⟩
                rw [HE.out]
                exact H10.out
            · as_aux_lemma =>
                have HR := Lib.hid (HRe.out)
                have he0 := kf_redo (ar := area) (F := F)
                unfold sRedo at he0
                have HE := Lib.hid he0
                clear he0
                clear HDe HUn HRe HSl HIn
                go_wp2_with fail
                refine HR.out.mono ?_
                rintro e w10 ⟨rfl, h10⟩
                have H10 := Lib.hid (HBu.out _ _ h10)
                clear h10 HR
                go_wp2_with fail
                go_meet
                refine ⟨_, rfl, by simp [isMv, sLeft, sRight, sHome, sEnd, sBack, sDel, sUndo, sRedo, sEnterK], ?_⟩
                rw [HE.out]
                exact H10.out
            · as_aux_lemma =>
                cases area with
                | true =>
                  as_aux_lemma =>
                    have HR := Lib.hid (HIn.out [10] (by decide))
                    have he0 := kf_enter1 (F := F)
                    unfold sEnter at he0
                    have HE := Lib.hid he0
                    clear he0
                    clear HDe HUn HRe HSl HIn
                    go_wp2_with fail
                    refine HR.out.mono ?_
                    rintro e w10 ⟨rfl, h10⟩
                    have H10 := Lib.hid (HBu.out _ _ h10)
                    clear h10 HR
                    go_wp2_with fail
                    go_meet
                    refine ⟨_, rfl, by simp [isMv, sLeft, sRight, sHome, sEnd, sBack, sDel, sUndo, sRedo, sEnterK], ?_⟩
                    rw [HE.out]
                    exact H10.out
                | false =>
                  as_aux_lemma =>
                    have he0 := kf_enter0 (F := F)
                    unfold sEnter at he0
                    have HE := Lib.hid he0
                    clear he0
                    have H10 := Lib.hid HS9.out
                    clear HDe HUn HRe HSl HIn
                    go_wp2_with fail
                    go_meet
                    refine ⟨_, rfl, by simp [isMv, sLeft, sRight, sHome, sEnd, sEnterK], ?_⟩
                    rw [HE.out]
                    exact H10.out
            · as_aux_lemma =>
                have HR := Lib.hid (HIn.out [97] (by decide))
                have HE := Lib.hid (kf_ins (ar := area) (F := F) (key := [97]) (by decide) (by decide) (by decide) (by decide) (by decide) (by decide) v_a.1 v_a.2)
                clear HDe HUn HRe HSl HIn
                go_wp2_with fail
                refine HR.out.mono ?_
                rintro e w10 ⟨rfl, h10⟩
                have H10 := Lib.hid (HBu.out _ _ h10)
                clear h10 HR
                go_wp2_with fail
                go_meet
                refine ⟨_, rfl, by simp [isMv, sLeft, sRight, sHome, sEnd, sBack, sDel, sUndo, sRedo, sEnterK], ?_⟩
                rw [HE.out]
                exact H10.out
            · as_aux_lemma =>
                have HR := Lib.hid (HIn.out [98] (by decide))
                have HE := Lib.hid (kf_ins (ar := area) (F := F) (key := [98]) (by decide) (by decide) (by decide) (by decide) (by decide) (by decide) v_b.1 v_b.2)
                clear HDe HUn HRe HSl HIn
                go_wp2_with fail
                refine HR.out.mono ?_
                rintro e w10 ⟨rfl, h10⟩
                have H10 := Lib.hid (HBu.out _ _ h10)
                clear h10 HR
                go_wp2_with fail
                go_meet
                refine ⟨_, rfl, by simp [isMv, sLeft, sRight, sHome, sEnd, sBack, sDel, sUndo, sRedo, sEnterK], ?_⟩
                rw [HE.out]
                exact H10.out
            · as_aux_lemma =>
                have HR := Lib.hid (HIn.out [195, 169] (by decide))
                have HE := Lib.hid (kf_ins (ar := area) (F := F) (key := [195, 169]) (by decide) (by decide) (by decide) (by decide) (by decide) (by decide) v_e.1 v_e.2)
                clear HDe HUn HRe HSl HIn
                go_wp2_with fail
                refine HR.out.mono ?_
                rintro e w10 ⟨rfl, h10⟩
                have H10 := Lib.hid (HBu.out _ _ h10)
                clear h10 HR
                go_wp2_with fail
                go_meet
                refine ⟨_, rfl, by simp [isMv, sLeft, sRight, sHome, sEnd, sBack, sDel, sUndo, sRedo, sEnterK], ?_⟩
                rw [HE.out]
                exact H10.out
            · as_aux_lemma =>
                have HE := Lib.hid (kf_ab (ar := area) (F := F))
                have H10 := Lib.hid HS9.out
                clear HDe HUn HRe HSl HIn
                go_wp2_with fail
                go_meet
                refine ⟨_, rfl, by simp [isMv, sLeft, sRight, sHome, sEnd, sEnterK], ?_⟩
                rw [HE.out]
                exact H10.out
            · as_aux_lemma =>
                have HR := Lib.hid (HIn.out [32] (by decide))
                have HE := Lib.hid (kf_ins (ar := area) (F := F) (key := [32]) (by decide) (by decide) (by decide) (by decide) (by decide) (by decide) v_s.1 v_s.2)
                clear HDe HUn HRe HSl HIn
                go_wp2_with fail
                refine HR.out.mono ?_
                rintro e w10 ⟨rfl, h10⟩
                have H10 := Lib.hid (HBu.out _ _ h10)
                clear h10 HR
                go_wp2_with fail
                go_meet
                refine ⟨_, rfl, by simp [isMv, sLeft, sRight, sHome, sEnd, sBack, sDel, sUndo, sRedo, sEnterK], ?_⟩
                rw [HE.out]
                exact H10.out
          case rest =>
            obtain ⟨bm, rfl, hbm, hS⟩ := hcut
            have HBm := Lib.hid hbm
            clear hbm
            have hck := HKc2.out _ _ _ hS
            obtain ⟨E2, hag2⟩ := key_ag (ar := area) HAg.out ky hkl20
            have hfn2 := hag2.n
            have HKA := Lib.hid (show keyA area h F ky = keyA area h F ky from rfl)
            obtain ⟨F2, hF2e⟩ : ∃ F2, keyF area F ky = F2 := ⟨_, rfl⟩
            rw [hF2e] at hS hag2 hfn2
            obtain ⟨lu, hlu, hFu, hbu⟩ := hS.u
            have HV := Lib.hid (value_one hFu (hlu O2 (by simp [KR])) HF2.out hk)
            have HSe := Lib.hid (fun wx (hb : Below wc.heap.size wc wx) => selection_one (hFu.still hb) (hlu O2 (by simp [KR])) HF2.out hk (by have := hag2.le; have := hag2.in_; omega) hag2.in_ (by omega))
            have HF2e := Lib.hid hF2e
            have HAg2 := Lib.hid hag2
            have HSt := Lib.hid hS
            clear hS hag2 hFu hbu hlu hF2e HS9 ck9 hck HKA
            go_wp2_with fail
            refine HV.out.mono ?_
            rintro e w10 ⟨rfl, hb10⟩
            go_wp2_with fail
            refine (HSe.out _ hb10).mono ?_
            rintro e w11 ⟨rfl, hb11⟩
            have hS11 := (HSt.out.still (bthen hb10 hb11)).new (o := bk w11.heap.size [.int .i64 0, .int .i64 0, .int .i64 0] 91) (Blk.new w11 [.int .i64 0, .int .i64 0, .int .i64 0] 91) ((Below.refl _ _).alloc (Nat.le_refl _) _) (fun i hi => Nat.le_of_eq hi.symm)
            have HS11 := Lib.hid hS11
            clear hb10 hb11 hS11 HSt HV HSe
            go_upto_region 48 with fail
            generalize hw12 : w11.alloc (.cells #[.int .i64 0, .int .i64 0, .int .i64 0] 91) = w12 at *
            clear hw12
            generalize w11.heap.size = rb at *
            have kb0 : Blk w12 rb [.int .i64 0, .int .i64 0, .int .i64 0] 91 := HS11.out.mem (o := bk rb [.int .i64 0, .int .i64 0, .int .i64 0] 91) (by simp)
            have z0 := kb0.cell 0
            have z1 := kb0.cell 1
            have z2 := kb0.cell 2
            have f0 := kb0.free 0
            have f1 := kb0.free 1
            have f2 := kb0.free 2
            simp only [List.getElem?_cons_succ, List.getElem?_cons_zero] at z0 z1 z2
            clear kb0
            by_cases hmv : isMv ky
            · obtain rfl : bm = false := by rw [HBm.out, decide_eq_true hmv]; rfl
              have hA0 : keyA area h F ky = (if F2.st ≠ F.st ∨ F2.en ≠ F.en then actV 2 h 0 else actV 0 0 0) := by
                have := HF2e.out
                unfold keyF at this
                rw [if_pos hmv] at this
                unfold keyA
                rw [if_pos hmv, this]
              have HA0 := Lib.hid hA0
              clear hA0 hmv HBm
              by_cases hs : F2.st ≠ F.st
              · as_aux_lemma =>
                  have g1 : ((F.st : Int) != (F2.st : Int)) = true := by simp; omega
                  have HKv := Lib.hid (HA0.out.trans (if_pos (.inl hs)))
                  clear HA0
                  have hS12 := ((HS11.out.setB 0 (.int .i64 (2))).setB 1 (.int .i64 (h))).setB 2 (.int .i64 (0))
                  go_upto_region 52 with fail
                  generalize hw13 : ((w12.setCell ⟨rb, 0, none⟩ (.int .i64 (2))).setCell ⟨rb, 1, none⟩ (.int .i64 (h))).setCell ⟨rb, 2, none⟩ (.int .i64 (0)) = w13 at *
                  clear hw13
                  have hS12 : Ky2 w.heap.size w Q P h g dv F F2 (bk rb [.int .i64 (2), .int .i64 (h), .int .i64 (0)] 91 :: KR R1 R2 O1 O2 (some ⟨gk, 0, none⟩) vc n ks) w13 := hS12
                  obtain ⟨ls, hls, hFs, hbs⟩ := hS12.s
                  have hck := HKc2.out _ _ _ hS12.drop
                  have HKe := Lib.hid (key_one hFs (hls O1 (by simp [KR])) HF1.out HFc.out HOw.out hk hka hdv7 HL.out HAg.out (by omega) ky (by omega) hk1 hk2)
                  rw [HKv.out, HF2e.out] at HKe
                  simp only [actV] at HKe
                  have HBs := Lib.hid hbs
                  clear hS12 hFs hbs hls HS11 z0 z1 z2 f0 f1 f2
                  go_wp2_with fail
                  refine HKe.out.mono ?_
                  rintro e w14 ⟨rfl, h14⟩
                  have hS14 := (HBs.out _ _ h14).still ((Below.refl w14.heap.size w14).alloc (Nat.le_refl _) (.cells #[.int .i64 (2), .int .i64 (h), .int .i64 (0)] 91))
                  have kg := Blk.new w14 [.int .i64 (2), .int .i64 (h), .int .i64 (0)] 91
                  obtain ⟨ls, hls, hFs, hbs⟩ := hS14.s
                  have HV1 := Lib.hid (value_one hFs (hls O1 (by simp [KR])) HF1.out hk)
                  have HS1 := Lib.hid (fun wx (hb : Below (w14.alloc (.cells #[.int .i64 (2), .int .i64 (h), .int .i64 (0)] 91)).heap.size (w14.alloc (.cells #[.int .i64 (2), .int .i64 (h), .int .i64 (0)] 91)) wx) => selection_one (hFs.still hb) (hls O1 (by simp [KR])) HF1.out hk (by have := HAg2.out.le; have := HAg2.out.in_; omega) HAg2.out.in_ (by omega))
                  have HS14 := Lib.hid hS14
                  clear h14 hS14 hFs hbs hls HKe HBs
                  go_wp2_with fail
                  refine HV1.out.mono ?_
                  rintro e w15 ⟨rfl, hb15⟩
                  go_wp2_with fail
                  refine (HS1.out _ hb15).mono ?_
                  rintro e w16 ⟨rfl, hb16⟩
                  have hb := bthen hb15 hb16
                  have hS16 := HS14.out.still hb
                  have kg6 := kg.below hb
                  have kw6 : Blk w16 rb [.int .i64 (2), .int .i64 (h), .int .i64 (0)] 91 := hS16.mem (o := bk rb [.int .i64 (2), .int .i64 (h), .int .i64 (0)] 91) (by simp)
                  have y0 := kg6.cell 0
                  have x0 := kw6.cell 0
                  have y1 := kg6.cell 1
                  have x1 := kw6.cell 1
                  have y2 := kg6.cell 2
                  have x2 := kw6.cell 2
                  simp only [List.getElem?_cons_succ, List.getElem?_cons_zero] at y0 y1 y2 x0 x1 x2
                  have HS16 := Lib.hid hS16.drop
                  have v1 : (F2.val != F2.val) = false := by simp
                  clear hb15 hb16 hb hS16 kg kg6 kw6 HV1 HS1 HS14
                  go_wp2_with fail
                  go_roundw
                  case rel =>
                    refine ⟨k + 1, F2, E2, by omega, by go_num, ?_, HS16.out⟩
                    have := HAg2.out
                    rwa [show 300 + 80 * k + 80 = 300 + 80 * (k + 1) by omega] at this
                  case measure => simp [intOf]; omega
              · as_aux_lemma =>
                  have g1 : ((F.st : Int) != (F2.st : Int)) = false := by simp; omega
                  by_cases he : F2.en ≠ F.en
                  · as_aux_lemma =>
                      have g2 : ((F.en : Int) != (F2.en : Int)) = true := by simp; omega
                      have HKv := Lib.hid (HA0.out.trans (if_pos (.inr he)))
                      clear HA0
                      have hS12 := ((HS11.out.setB 0 (.int .i64 (2))).setB 1 (.int .i64 (h))).setB 2 (.int .i64 (0))
                      go_upto_region 52 with fail
                      generalize hw13 : ((w12.setCell ⟨rb, 0, none⟩ (.int .i64 (2))).setCell ⟨rb, 1, none⟩ (.int .i64 (h))).setCell ⟨rb, 2, none⟩ (.int .i64 (0)) = w13 at *
                      clear hw13
                      have hS12 : Ky2 w.heap.size w Q P h g dv F F2 (bk rb [.int .i64 (2), .int .i64 (h), .int .i64 (0)] 91 :: KR R1 R2 O1 O2 (some ⟨gk, 0, none⟩) vc n ks) w13 := hS12
                      obtain ⟨ls, hls, hFs, hbs⟩ := hS12.s
                      have hck := HKc2.out _ _ _ hS12.drop
                      have HKe := Lib.hid (key_one hFs (hls O1 (by simp [KR])) HF1.out HFc.out HOw.out hk hka hdv7 HL.out HAg.out (by omega) ky (by omega) hk1 hk2)
                      rw [HKv.out, HF2e.out] at HKe
                      simp only [actV] at HKe
                      have HBs := Lib.hid hbs
                      clear hS12 hFs hbs hls HS11 z0 z1 z2 f0 f1 f2
                      go_wp2_with fail
                      refine HKe.out.mono ?_
                      rintro e w14 ⟨rfl, h14⟩
                      have hS14 := (HBs.out _ _ h14).still ((Below.refl w14.heap.size w14).alloc (Nat.le_refl _) (.cells #[.int .i64 (2), .int .i64 (h), .int .i64 (0)] 91))
                      have kg := Blk.new w14 [.int .i64 (2), .int .i64 (h), .int .i64 (0)] 91
                      obtain ⟨ls, hls, hFs, hbs⟩ := hS14.s
                      have HV1 := Lib.hid (value_one hFs (hls O1 (by simp [KR])) HF1.out hk)
                      have HS1 := Lib.hid (fun wx (hb : Below (w14.alloc (.cells #[.int .i64 (2), .int .i64 (h), .int .i64 (0)] 91)).heap.size (w14.alloc (.cells #[.int .i64 (2), .int .i64 (h), .int .i64 (0)] 91)) wx) => selection_one (hFs.still hb) (hls O1 (by simp [KR])) HF1.out hk (by have := HAg2.out.le; have := HAg2.out.in_; omega) HAg2.out.in_ (by omega))
                      have HS14 := Lib.hid hS14
                      clear h14 hS14 hFs hbs hls HKe HBs
                      go_wp2_with fail
                      refine HV1.out.mono ?_
                      rintro e w15 ⟨rfl, hb15⟩
                      go_wp2_with fail
                      refine (HS1.out _ hb15).mono ?_
                      rintro e w16 ⟨rfl, hb16⟩
                      have hb := bthen hb15 hb16
                      have hS16 := HS14.out.still hb
                      have kg6 := kg.below hb
                      have kw6 : Blk w16 rb [.int .i64 (2), .int .i64 (h), .int .i64 (0)] 91 := hS16.mem (o := bk rb [.int .i64 (2), .int .i64 (h), .int .i64 (0)] 91) (by simp)
                      have y0 := kg6.cell 0
                      have x0 := kw6.cell 0
                      have y1 := kg6.cell 1
                      have x1 := kw6.cell 1
                      have y2 := kg6.cell 2
                      have x2 := kw6.cell 2
                      simp only [List.getElem?_cons_succ, List.getElem?_cons_zero] at y0 y1 y2 x0 x1 x2
                      have HS16 := Lib.hid hS16.drop
                      have v1 : (F2.val != F2.val) = false := by simp
                      clear hb15 hb16 hb hS16 kg kg6 kw6 HV1 HS1 HS14
                      go_wp2_with fail
                      go_roundw
                      case rel =>
                        refine ⟨k + 1, F2, E2, by omega, by go_num, ?_, HS16.out⟩
                        have := HAg2.out
                        rwa [show 300 + 80 * k + 80 = 300 + 80 * (k + 1) by omega] at this
                      case measure => simp [intOf]; omega
                  · as_aux_lemma =>
                      have g2 : ((F.en : Int) != (F2.en : Int)) = false := by simp; omega
                      have HKv := Lib.hid (HA0.out.trans (if_neg (fun q => q.elim hs he)))
                      clear HA0
                      have hS12 := HS11.out
                      go_upto_region 52 with fail
                      generalize hw13 : w12 = w13 at *
                      clear hw13
                      have hS12 : Ky2 w.heap.size w Q P h g dv F F2 (bk rb [.int .i64 (0), .int .i64 (0), .int .i64 (0)] 91 :: KR R1 R2 O1 O2 (some ⟨gk, 0, none⟩) vc n ks) w13 := hS12
                      obtain ⟨ls, hls, hFs, hbs⟩ := hS12.s
                      have hck := HKc2.out _ _ _ hS12.drop
                      have HKe := Lib.hid (key_one hFs (hls O1 (by simp [KR])) HF1.out HFc.out HOw.out hk hka hdv7 HL.out HAg.out (by omega) ky (by omega) hk1 hk2)
                      rw [HKv.out, HF2e.out] at HKe
                      simp only [actV] at HKe
                      have HBs := Lib.hid hbs
                      clear hS12 hFs hbs hls HS11 z0 z1 z2 f0 f1 f2
                      go_wp2_with fail
                      refine HKe.out.mono ?_
                      rintro e w14 ⟨rfl, h14⟩
                      have hS14 := (HBs.out _ _ h14).still ((Below.refl w14.heap.size w14).alloc (Nat.le_refl _) (.cells #[.int .i64 (0), .int .i64 (0), .int .i64 (0)] 91))
                      have kg := Blk.new w14 [.int .i64 (0), .int .i64 (0), .int .i64 (0)] 91
                      obtain ⟨ls, hls, hFs, hbs⟩ := hS14.s
                      have HV1 := Lib.hid (value_one hFs (hls O1 (by simp [KR])) HF1.out hk)
                      have HS1 := Lib.hid (fun wx (hb : Below (w14.alloc (.cells #[.int .i64 (0), .int .i64 (0), .int .i64 (0)] 91)).heap.size (w14.alloc (.cells #[.int .i64 (0), .int .i64 (0), .int .i64 (0)] 91)) wx) => selection_one (hFs.still hb) (hls O1 (by simp [KR])) HF1.out hk (by have := HAg2.out.le; have := HAg2.out.in_; omega) HAg2.out.in_ (by omega))
                      have HS14 := Lib.hid hS14
                      clear h14 hS14 hFs hbs hls HKe HBs
                      go_wp2_with fail
                      refine HV1.out.mono ?_
                      rintro e w15 ⟨rfl, hb15⟩
                      go_wp2_with fail
                      refine (HS1.out _ hb15).mono ?_
                      rintro e w16 ⟨rfl, hb16⟩
                      have hb := bthen hb15 hb16
                      have hS16 := HS14.out.still hb
                      have kg6 := kg.below hb
                      have kw6 : Blk w16 rb [.int .i64 (0), .int .i64 (0), .int .i64 (0)] 91 := hS16.mem (o := bk rb [.int .i64 (0), .int .i64 (0), .int .i64 (0)] 91) (by simp)
                      have y0 := kg6.cell 0
                      have x0 := kw6.cell 0
                      have y1 := kg6.cell 1
                      have x1 := kw6.cell 1
                      have y2 := kg6.cell 2
                      have x2 := kw6.cell 2
                      simp only [List.getElem?_cons_succ, List.getElem?_cons_zero] at y0 y1 y2 x0 x1 x2
                      have HS16 := Lib.hid hS16.drop
                      have v1 : (F2.val != F2.val) = false := by simp
                      clear hb15 hb16 hb hS16 kg kg6 kw6 HV1 HS1 HS14
                      go_wp2_with fail
                      go_roundw
                      case rel =>
                        refine ⟨k + 1, F2, E2, by omega, by go_num, ?_, HS16.out⟩
                        have := HAg2.out
                        rwa [show 300 + 80 * k + 80 = 300 + 80 * (k + 1) by omega] at this
                      case measure => simp [intOf]; omega
            · obtain rfl : bm = true := by rw [HBm.out, decide_eq_false hmv]; rfl
              have hkA : keyA area h F ky = (if F2.val ≠ F.val then actV 1 h 0 else actV 0 0 0) := by
                unfold keyA
                rw [if_neg hmv]
                by_cases he : ky = sEnter ∧ area = false
                · rw [if_pos he]
                  have := HF2e.out
                  rw [he.1, he.2, kf_enter0] at this
                  rw [this, if_neg (fun q => q rfl)]
                · rw [if_neg he, HF2e.out]
              have HA0 := Lib.hid hkA
              clear hkA hmv HBm
              by_cases hs : F2.val = F.val
              · as_aux_lemma =>
                  have g1 : (F2.val == F.val) = true := beqT hs
                  have g2 : (F2.val != F.val) = false := by simp [hs]
                  have HKv := Lib.hid (HA0.out.trans (if_neg (fun q => q hs)))
                  clear HA0
                  have hS12 := HS11.out
                  go_upto_region 52 with fail
                  generalize hw13 : w12 = w13 at *
                  clear hw13
                  have hS12 : Ky2 w.heap.size w Q P h g dv F F2 (bk rb [.int .i64 (0), .int .i64 (0), .int .i64 (0)] 91 :: KR R1 R2 O1 O2 (some ⟨gk, 0, none⟩) vc n ks) w13 := hS12
                  obtain ⟨ls, hls, hFs, hbs⟩ := hS12.s
                  have hck := HKc2.out _ _ _ hS12.drop
                  have HKe := Lib.hid (key_one hFs (hls O1 (by simp [KR])) HF1.out HFc.out HOw.out hk hka hdv7 HL.out HAg.out (by omega) ky (by omega) hk1 hk2)
                  rw [HKv.out, HF2e.out] at HKe
                  simp only [actV] at HKe
                  have HBs := Lib.hid hbs
                  clear hS12 hFs hbs hls HS11 z0 z1 z2 f0 f1 f2
                  go_wp2_with fail
                  refine HKe.out.mono ?_
                  rintro e w14 ⟨rfl, h14⟩
                  have hS14 := (HBs.out _ _ h14).still ((Below.refl w14.heap.size w14).alloc (Nat.le_refl _) (.cells #[.int .i64 (0), .int .i64 (0), .int .i64 (0)] 91))
                  have kg := Blk.new w14 [.int .i64 (0), .int .i64 (0), .int .i64 (0)] 91
                  obtain ⟨ls, hls, hFs, hbs⟩ := hS14.s
                  have HV1 := Lib.hid (value_one hFs (hls O1 (by simp [KR])) HF1.out hk)
                  have HS1 := Lib.hid (fun wx (hb : Below (w14.alloc (.cells #[.int .i64 (0), .int .i64 (0), .int .i64 (0)] 91)).heap.size (w14.alloc (.cells #[.int .i64 (0), .int .i64 (0), .int .i64 (0)] 91)) wx) => selection_one (hFs.still hb) (hls O1 (by simp [KR])) HF1.out hk (by have := HAg2.out.le; have := HAg2.out.in_; omega) HAg2.out.in_ (by omega))
                  have HS14 := Lib.hid hS14
                  clear h14 hS14 hFs hbs hls HKe HBs
                  go_wp2_with fail
                  refine HV1.out.mono ?_
                  rintro e w15 ⟨rfl, hb15⟩
                  go_wp2_with fail
                  refine (HS1.out _ hb15).mono ?_
                  rintro e w16 ⟨rfl, hb16⟩
                  have hb := bthen hb15 hb16
                  have hS16 := HS14.out.still hb
                  have kg6 := kg.below hb
                  have kw6 : Blk w16 rb [.int .i64 (0), .int .i64 (0), .int .i64 (0)] 91 := hS16.mem (o := bk rb [.int .i64 (0), .int .i64 (0), .int .i64 (0)] 91) (by simp)
                  have y0 := kg6.cell 0
                  have x0 := kw6.cell 0
                  have y1 := kg6.cell 1
                  have x1 := kw6.cell 1
                  have y2 := kg6.cell 2
                  have x2 := kw6.cell 2
                  simp only [List.getElem?_cons_succ, List.getElem?_cons_zero] at y0 y1 y2 x0 x1 x2
                  have HS16 := Lib.hid hS16.drop
                  have v1 : (F2.val != F2.val) = false := by simp
                  clear hb15 hb16 hb hS16 kg kg6 kw6 HV1 HS1 HS14
                  go_wp2_with fail
                  go_roundw
                  case rel =>
                    refine ⟨k + 1, F2, E2, by omega, by go_num, ?_, HS16.out⟩
                    have := HAg2.out
                    rwa [show 300 + 80 * k + 80 = 300 + 80 * (k + 1) by omega] at this
                  case measure => simp [intOf]; omega
              · as_aux_lemma =>
                  have g1 : (F2.val == F.val) = false := beqF hs
                  have g2 : (F2.val != F.val) = true := by simpa using hs
                  have HKv := Lib.hid (HA0.out.trans (if_pos hs))
                  clear HA0
                  have hS12 := ((HS11.out.setB 0 (.int .i64 (1))).setB 1 (.int .i64 (h))).setB 2 (.int .i64 (0))
                  go_upto_region 52 with fail
                  generalize hw13 : ((w12.setCell ⟨rb, 0, none⟩ (.int .i64 (1))).setCell ⟨rb, 1, none⟩ (.int .i64 (h))).setCell ⟨rb, 2, none⟩ (.int .i64 (0)) = w13 at *
                  clear hw13
                  have hS12 : Ky2 w.heap.size w Q P h g dv F F2 (bk rb [.int .i64 (1), .int .i64 (h), .int .i64 (0)] 91 :: KR R1 R2 O1 O2 (some ⟨gk, 0, none⟩) vc n ks) w13 := hS12
                  obtain ⟨ls, hls, hFs, hbs⟩ := hS12.s
                  have hck := HKc2.out _ _ _ hS12.drop
                  have HKe := Lib.hid (key_one hFs (hls O1 (by simp [KR])) HF1.out HFc.out HOw.out hk hka hdv7 HL.out HAg.out (by omega) ky (by omega) hk1 hk2)
                  rw [HKv.out, HF2e.out] at HKe
                  simp only [actV] at HKe
                  have HBs := Lib.hid hbs
                  clear hS12 hFs hbs hls HS11 z0 z1 z2 f0 f1 f2
                  go_wp2_with fail
                  refine HKe.out.mono ?_
                  rintro e w14 ⟨rfl, h14⟩
                  have hS14 := (HBs.out _ _ h14).still ((Below.refl w14.heap.size w14).alloc (Nat.le_refl _) (.cells #[.int .i64 (1), .int .i64 (h), .int .i64 (0)] 91))
                  have kg := Blk.new w14 [.int .i64 (1), .int .i64 (h), .int .i64 (0)] 91
                  obtain ⟨ls, hls, hFs, hbs⟩ := hS14.s
                  have HV1 := Lib.hid (value_one hFs (hls O1 (by simp [KR])) HF1.out hk)
                  have HS1 := Lib.hid (fun wx (hb : Below (w14.alloc (.cells #[.int .i64 (1), .int .i64 (h), .int .i64 (0)] 91)).heap.size (w14.alloc (.cells #[.int .i64 (1), .int .i64 (h), .int .i64 (0)] 91)) wx) => selection_one (hFs.still hb) (hls O1 (by simp [KR])) HF1.out hk (by have := HAg2.out.le; have := HAg2.out.in_; omega) HAg2.out.in_ (by omega))
                  have HS14 := Lib.hid hS14
                  clear h14 hS14 hFs hbs hls HKe HBs
                  go_wp2_with fail
                  refine HV1.out.mono ?_
                  rintro e w15 ⟨rfl, hb15⟩
                  go_wp2_with fail
                  refine (HS1.out _ hb15).mono ?_
                  rintro e w16 ⟨rfl, hb16⟩
                  have hb := bthen hb15 hb16
                  have hS16 := HS14.out.still hb
                  have kg6 := kg.below hb
                  have kw6 : Blk w16 rb [.int .i64 (1), .int .i64 (h), .int .i64 (0)] 91 := hS16.mem (o := bk rb [.int .i64 (1), .int .i64 (h), .int .i64 (0)] 91) (by simp)
                  have y0 := kg6.cell 0
                  have x0 := kw6.cell 0
                  have y1 := kg6.cell 1
                  have x1 := kw6.cell 1
                  have y2 := kg6.cell 2
                  have x2 := kw6.cell 2
                  simp only [List.getElem?_cons_succ, List.getElem?_cons_zero] at y0 y1 y2 x0 x1 x2
                  have HS16 := Lib.hid hS16.drop
                  have v1 : (F2.val != F2.val) = false := by simp
                  clear hb15 hb16 hb hS16 kg kg6 kw6 HV1 HS1 HS14
                  go_wp2_with fail
                  go_roundw
                  case rel =>
                    refine ⟨k + 1, F2, E2, by omega, by go_num, ?_, HS16.out⟩
                    have := HAg2.out
                    rwa [show 300 + 80 * k + 80 = 300 + 80 * (k + 1) by omega] at this
                  case measure => simp [intOf]; omega
        · obtain rfl : k = n := by omega
          have HB := Lib.hid hS.below
          clear hS hag
          go_wp2_with fail
          go_ret
          exact ⟨rfl, HB.out⟩
    · have d2 : decide (100 < n) = true := by simp; omega
      have d2' : decide ((100 : Int) < (n : Int)) = true := by simp; omega
      clear h hT hf hL hsz HKs
      go_enter Tryz.func10, Tryz.ntmps10
      go_wp2_with fail
      refine (HAw.out _ (Below.refl _ _)).mono ?_
      rintro e w1 ⟨rfl, hb1⟩
      go_wp2_with fail
      refine (HAw.out _ hb1).mono ?_
      rintro e w3 ⟨rfl, hb3⟩
      go_wp2_with fail
      go_ret
      exact ⟨rfl, bthen hb1 hb3⟩
  · have d1 : decide (60 < (⟨x.toArray⟩ : ByteArray).size) = true := by rw [hsz]; simp; omega
    have d1' : decide ((60 : Int) < (((⟨x.toArray⟩ : ByteArray).size : Nat) : Int)) = true := by rw [hsz]; simp; omega
    clear h hT hf hL hsz HKs
    generalize (⟨x.toArray⟩ : ByteArray) = xv at *
    go_enter Tryz.func10, Tryz.ntmps10
    go_wp2_with fail
    refine (HAw.out _ (Below.refl _ _)).mono ?_
    rintro e w1 ⟨rfl, hb1⟩
    go_wp2_with fail
    refine (HAw.out _ hb1).mono ?_
    rintro e w3 ⟨rfl, hb3⟩
    go_wp2_with fail
    go_ret
    exact ⟨rfl, bthen hb1 hb3⟩
end Go.Proofs.YtacdbnhnhdlmpaaGreatDoor.W
end
