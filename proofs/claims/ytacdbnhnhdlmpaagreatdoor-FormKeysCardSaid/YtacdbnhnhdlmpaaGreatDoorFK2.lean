/- Texts joined: Edk Own Sgc. -/
import Derived.Test.YtacdbnhnhdlmpaaGreatDoorFK1
import Derived.LoopTactic
set_option maxRecDepth 100000
set_option maxHeartbeats 40000000
set_option linter.unusedVariables false
set_option linter.unusedSimpArgs false
section
namespace Go.Proofs.YtacdbnhnhdlmpaaGreatDoor.W
open Go.RowKit
def sBack : List UInt8 := [66, 97, 99, 107, 115, 112, 97, 99, 101]
def sDel : List UInt8 := [68, 101, 108, 101, 116, 101]
def sUndo : List UInt8 := [85, 110, 100, 111]
def sRedo : List UInt8 := [82, 101, 100, 111]
def edK (ar : Bool) (F : FT) (key : List UInt8) : FT :=
  if key = sBack then F.del false else if key = sDel then F.del true else if key = sUndo then F.back else if key = sRedo then F.forth
  else if Lib.validD key = true ∧ nL key = 1 then F.ins (cleanL ar key) else F
section
variable {B : Nat} {w0 w : World} {Q R k N : Nat} {ar : Bool} {foc hd : Int} {v : List UInt8} {l : List Ob} {O : Ob} {F : FT}
theorem fs_undoF (h : FsAt B w0 Q foc hd v l F w) (hO : O ∈ l) (hF : FdOk B w0 R O hd k v) (hk : k = 1 ∨ k = 2) (hL : ∀ wx, Below B w0 wx → Laid wx) {E0 : RE} (hag : Ag N F E0) (hN : N ≤ 100000) :
    Calls Tryz.prog 21 #[.pointer (some ⟨Q, 0, none⟩), .pointer (some ⟨R, 0, none⟩), .int .i64 hd] w fun e w' => e = .returned (.tuple #[.bool (decide (F.undo ≠ [])), .int .i64 0]) ∧ FsAt B w0 Q foc hd v l F.back w' := by
  by_cases hu : F.undo = []
  · rw [show decide (F.undo ≠ []) = false by simpa using hu]
    refine (undo_no h hO hF hk hu).mono ?_
    rintro e w' ⟨he, hbw⟩
    have hE : F.back = F := by unfold FT.back; rw [hu]; rfl
    rw [hE]
    exact ⟨he, h.still hbw⟩
  · rw [show decide (F.undo ≠ []) = true by simpa using hu]
    obtain ⟨us, x, e1, e2, e3, e4⟩ := hag.undo_ok hu
    exact undo_one h hO hF hk hL hag.ok (by omega) us x e1 e2 (by omega) (by omega)
theorem fs_redoF (h : FsAt B w0 Q foc hd v l F w) (hO : O ∈ l) (hF : FdOk B w0 R O hd k v) (hk : k = 1 ∨ k = 2) (hL : ∀ wx, Below B w0 wx → Laid wx) {E0 : RE} (hag : Ag N F E0) (hN : N ≤ 100000) :
    Calls Tryz.prog 22 #[.pointer (some ⟨Q, 0, none⟩), .pointer (some ⟨R, 0, none⟩), .int .i64 hd] w fun e w' => e = .returned (.tuple #[.bool (decide (F.redo ≠ [])), .int .i64 0]) ∧ FsAt B w0 Q foc hd v l F.forth w' := by
  by_cases hu : F.redo = []
  · rw [show decide (F.redo ≠ []) = false by simpa using hu]
    refine (redo_no h hO hF hk hu).mono ?_
    rintro e w' ⟨he, hbw⟩
    have hE : F.forth = F := by unfold FT.forth; rw [hu]; rfl
    rw [hE]
    exact ⟨he, h.still hbw⟩
  · rw [show decide (F.redo ≠ []) = true by simpa using hu]
    obtain ⟨us, x, e1, e2, e3, e4⟩ := hag.redo_ok hu
    exact redo_one h hO hF hk hL hag.ok (by omega) us x e1 e2 (by omega) (by omega)
set_option maxRecDepth 100000 in
set_option maxHeartbeats 16000000 in
theorem edit_one (h : FsAt B w0 Q foc hd v l F w) (hO : O ∈ l) (hF : FdOk B w0 R O hd k v) (hk : k = 1 ∨ k = 2) (hka : decide (k = 2) = ar) (hv : v.length ≤ 10000000) (hL : ∀ wx, Below B w0 wx → Laid wx) {E0 : RE} (hag : Ag N F E0) (hN : N ≤ 100000) (key : List UInt8) (hkl : key.length ≤ 100) :
    Calls Tryz.prog 101 #[.pointer (some ⟨Q, 0, none⟩), .pointer (some ⟨R, 0, none⟩), .int .i64 hd, .string ⟨key.toArray⟩] w fun e w' => e = .returned (if (edK ar F key).val ≠ F.val then actV 1 hd 0 else actV 0 0 0) ∧ FsAt B w0 Q foc hd v l (edK ar F key) w' := by
  have hn := hag.n
  have h1 := h.new (o := bk w.heap.size [.int .i64 0, .int .i64 0, .int .i64 0] 91) (Blk.new w [.int .i64 0, .int .i64 0, .int .i64 0] 91) ((Below.refl _ _).alloc (Nat.le_refl _) _) (fun k hk => Nat.le_of_eq hk.symm)
  have hO1 : O ∈ bk w.heap.size [.int .i64 0, .int .i64 0, .int .i64 0] 91 :: l := List.mem_cons_of_mem _ hO
  have HV1 := Lib.hid (value_one h1 hO1 hF hk)
  have HV2 := Lib.hid (fun F2 wx (h5 : FsAt B w0 Q foc hd v (bk w.heap.size [.int .i64 0, .int .i64 0, .int .i64 0] 91 :: l) F2 wx) => value_one h5 hO1 hF hk)
  have HDe := Lib.hid (fun fw wx (h5 : FsAt B w0 Q foc hd v (bk w.heap.size [.int .i64 0, .int .i64 0, .int .i64 0] 91 :: l) F wx) => delete_one h5 hO1 hF hk hv hL hag.ok (by omega) fw)
  have HUn := Lib.hid (fun wx (h5 : FsAt B w0 Q foc hd v (bk w.heap.size [.int .i64 0, .int .i64 0, .int .i64 0] 91 :: l) F wx) => fs_undoF h5 hO1 hF hk hL hag hN)
  have HRe := Lib.hid (fun wx (h5 : FsAt B w0 Q foc hd v (bk w.heap.size [.int .i64 0, .int .i64 0, .int .i64 0] 91 :: l) F wx) => fs_redoF h5 hO1 hF hk hL hag hN)
  have HIn := Lib.hid (fun wx (h5 : FsAt B w0 Q foc hd v (bk w.heap.size [.int .i64 0, .int .i64 0, .int .i64 0] 91 :: l) F wx) => insert_one h5 hO1 hF hk hv hL hag.ok (by omega) key (by omega))
  rw [hka] at HIn
  have hsz : (⟨key.toArray⟩ : ByteArray).size = key.length := by show key.toArray.size = _; simp
  have HVd := Lib.hid (fun wx (h5 : FsAt B w0 Q foc hd v (bk w.heap.size [.int .i64 0, .int .i64 0, .int .i64 0] 91 :: l) F wx) => show Calls Tryz.prog 131 #[.string ⟨key.toArray⟩] wx fun e w' => e = .returned (.bool (Lib.validD key)) ∧ Below wx.heap.size wx w' from by
    have := valid_any ⟨key.toArray⟩ wx (by rw [hsz]; omega) (hL wx h5.rest.below)
    simpa using this)
  have HRc := Lib.hid (fun wx => show Calls Tryz.prog 117 #[.string ⟨key.toArray⟩] wx fun e w' => e = .returned (.int .i64 (nL key : Int)) ∧ Below wx.heap.size wx w' from by
    refine (Tryz.utf8_RuneCountInString ⟨key.toArray⟩ wx (by rw [hsz]; omega)).mono ?_
    rintro e w' ⟨rfl, pos, rfl⟩
    rw [runeCount_is]
    exact ⟨rfl, (Below.refl _ _).alloc (Nat.le_refl _) _⟩)
  have H1 := Lib.hid h1
  obtain ⟨F2, hF2⟩ : ∃ F2, edK ar F key = F2 := ⟨_, rfl⟩
  rw [hF2]
  have HF2 := Lib.hid hF2
  obtain ⟨av, hav⟩ : ∃ av, (if F2.val ≠ F.val then actV 1 hd 0 else actV 0 0 0) = av := ⟨_, rfl⟩
  rw [hav]
  have HAv := Lib.hid hav
  clear h hO hF hk h1 hka hag hsz hF2 hav hL
  generalize hw1 : w.alloc (.cells #[.int .i64 0, .int .i64 0, .int .i64 0] 91) = w1 at *
  have HW1 := Lib.hid hw1
  clear hw1
  go_enter Tryz.func101, Tryz.ntmps101
  go_upto_region 1 with fail
  rw [HW1.out]
  go_wp2_with fail
  refine HV1.out.mono ?_
  rintro e w2 ⟨rfl, hb2⟩
  have H2 := Lib.hid (H1.out.still hb2)
  clear hb2
  by_cases q0 : key = sBack
  · have b1 : (key == [68, 101, 108, 101, 116, 101]) = false := beqF (fun e => by rw [q0] at e; cases e)
    have b0 : (key == [66, 97, 99, 107, 115, 112, 97, 99, 101]) = true := beqT q0
    have HE := Lib.hid (show F2 = F.del false from by rw [← HF2.out]; unfold edK; rw [if_pos q0])
    clear q0 HF2
    go_wp2_with fail
    refine (HDe.out false _ H2.out).mono ?_
    rintro e w5 ⟨rfl, h5⟩
    rw [← HE.out] at h5
    have H5 := Lib.hid h5
    clear h5
    have HV3 := Lib.hid (HV2.out _ _ H5.out)
    clear HV2
    go_wp2_with fail
    refine HV3.out.mono ?_
    rintro e w6 ⟨rfl, hb6⟩
    have h6 := H5.out.still hb6
    have kb : Blk w6 w.heap.size [.int .i64 0, .int .i64 0, .int .i64 0] 91 := h6.rest.head
    have z0 := kb.cell 0
    have z1 := kb.cell 1
    have z2 := kb.cell 2
    have f0 := kb.free 0
    have f1 := kb.free 1
    have f2 := kb.free 2
    simp only [List.getElem?_cons_succ, List.getElem?_cons_zero] at z0 z1 z2
    have H6 := Lib.hid h6
    clear h6 kb hb6 H5 HV3
    generalize w.heap.size = r at *
    by_cases hs : F2.val = F.val
    · have e1 : (F2.val == F.val) = true := beqT hs
      have e2 : (F2.val != F.val) = false := by simp [hs]
      have HA := Lib.hid (show av = actV 0 0 0 from by rw [← HAv.out, if_neg (fun q => q hs)])
      have h9 := ((H6.out.setB 0 (.int .i64 0)).setB 1 (.int .i64 0)).setB 2 (.int .i64 0)
      have H9 := Lib.hid h9
      clear h9 hs HAv
      go_wp2_with fail
      refine bodyPost_ret (res_ac (j := 8) (by rfl) (by rfl) (show Blk _ r [.int .i64 0, .int .i64 0, .int .i64 0] _ from H9.out.rest.head)) rfl ?_
      rw [HA.out]
      exact ⟨rfl, H9.out.tailO⟩
    · have e1 : (F2.val == F.val) = false := beqF hs
      have e2 : (F2.val != F.val) = true := by simpa using hs
      have HA := Lib.hid (show av = actV 1 hd 0 from by rw [← HAv.out, if_pos hs])
      have h9 := ((H6.out.setB 0 (.int .i64 1)).setB 1 (.int .i64 hd)).setB 2 (.int .i64 0)
      have H9 := Lib.hid h9
      clear h9 hs HAv
      go_wp2_with fail
      refine bodyPost_ret (res_ac (j := 8) (by rfl) (by rfl) (show Blk _ r [.int .i64 1, .int .i64 hd, .int .i64 0] _ from H9.out.rest.head)) rfl ?_
      rw [HA.out]
      exact ⟨rfl, H9.out.tailO⟩
  · skip
    by_cases q1 : key = sDel
    · have b0 : (key == [66, 97, 99, 107, 115, 112, 97, 99, 101]) = false := beqF q0
      have b1 : (key == [68, 101, 108, 101, 116, 101]) = true := beqT q1
      have HE := Lib.hid (show F2 = F.del true from by rw [← HF2.out]; unfold edK; rw [if_neg q0]; rw [if_pos q1])
      clear q0 q1 HF2
      go_wp2_with fail
      refine (HDe.out true _ H2.out).mono ?_
      rintro e w5 ⟨rfl, h5⟩
      rw [← HE.out] at h5
      have H5 := Lib.hid h5
      clear h5
      have HV3 := Lib.hid (HV2.out _ _ H5.out)
      clear HV2
      go_wp2_with fail
      refine HV3.out.mono ?_
      rintro e w6 ⟨rfl, hb6⟩
      have h6 := H5.out.still hb6
      have kb : Blk w6 w.heap.size [.int .i64 0, .int .i64 0, .int .i64 0] 91 := h6.rest.head
      have z0 := kb.cell 0
      have z1 := kb.cell 1
      have z2 := kb.cell 2
      have f0 := kb.free 0
      have f1 := kb.free 1
      have f2 := kb.free 2
      simp only [List.getElem?_cons_succ, List.getElem?_cons_zero] at z0 z1 z2
      have H6 := Lib.hid h6
      clear h6 kb hb6 H5 HV3
      generalize w.heap.size = r at *
      by_cases hs : F2.val = F.val
      · have e1 : (F2.val == F.val) = true := beqT hs
        have e2 : (F2.val != F.val) = false := by simp [hs]
        have HA := Lib.hid (show av = actV 0 0 0 from by rw [← HAv.out, if_neg (fun q => q hs)])
        have h9 := ((H6.out.setB 0 (.int .i64 0)).setB 1 (.int .i64 0)).setB 2 (.int .i64 0)
        have H9 := Lib.hid h9
        clear h9 hs HAv
        go_wp2_with fail
        refine bodyPost_ret (res_ac (j := 8) (by rfl) (by rfl) (show Blk _ r [.int .i64 0, .int .i64 0, .int .i64 0] _ from H9.out.rest.head)) rfl ?_
        rw [HA.out]
        exact ⟨rfl, H9.out.tailO⟩
      · have e1 : (F2.val == F.val) = false := beqF hs
        have e2 : (F2.val != F.val) = true := by simpa using hs
        have HA := Lib.hid (show av = actV 1 hd 0 from by rw [← HAv.out, if_pos hs])
        have h9 := ((H6.out.setB 0 (.int .i64 1)).setB 1 (.int .i64 hd)).setB 2 (.int .i64 0)
        have H9 := Lib.hid h9
        clear h9 hs HAv
        go_wp2_with fail
        refine bodyPost_ret (res_ac (j := 8) (by rfl) (by rfl) (show Blk _ r [.int .i64 1, .int .i64 hd, .int .i64 0] _ from H9.out.rest.head)) rfl ?_
        rw [HA.out]
        exact ⟨rfl, H9.out.tailO⟩
    · skip
      by_cases q2 : key = sUndo
      · have b0 : (key == [66, 97, 99, 107, 115, 112, 97, 99, 101]) = false := beqF q0
        have b1 : (key == [68, 101, 108, 101, 116, 101]) = false := beqF q1
        have b2 : (key == [85, 110, 100, 111]) = true := beqT q2
        have HE := Lib.hid (show F2 = F.back from by rw [← HF2.out]; unfold edK; rw [if_neg q0]; rw [if_neg q1]; rw [if_pos q2])
        clear q0 q1 q2 HF2
        go_wp2_with fail
        refine (HUn.out _ H2.out).mono ?_
        rintro e w5 ⟨rfl, h5⟩
        rw [← HE.out] at h5
        have H5 := Lib.hid h5
        clear h5
        have HV3 := Lib.hid (HV2.out _ _ H5.out)
        clear HV2
        go_wp2_with fail
        refine HV3.out.mono ?_
        rintro e w6 ⟨rfl, hb6⟩
        have h6 := H5.out.still hb6
        have kb : Blk w6 w.heap.size [.int .i64 0, .int .i64 0, .int .i64 0] 91 := h6.rest.head
        have z0 := kb.cell 0
        have z1 := kb.cell 1
        have z2 := kb.cell 2
        have f0 := kb.free 0
        have f1 := kb.free 1
        have f2 := kb.free 2
        simp only [List.getElem?_cons_succ, List.getElem?_cons_zero] at z0 z1 z2
        have H6 := Lib.hid h6
        clear h6 kb hb6 H5 HV3
        generalize w.heap.size = r at *
        by_cases hs : F2.val = F.val
        · have e1 : (F2.val == F.val) = true := beqT hs
          have e2 : (F2.val != F.val) = false := by simp [hs]
          have HA := Lib.hid (show av = actV 0 0 0 from by rw [← HAv.out, if_neg (fun q => q hs)])
          have h9 := ((H6.out.setB 0 (.int .i64 0)).setB 1 (.int .i64 0)).setB 2 (.int .i64 0)
          have H9 := Lib.hid h9
          clear h9 hs HAv
          go_wp2_with fail
          refine bodyPost_ret (res_ac (j := 8) (by rfl) (by rfl) (show Blk _ r [.int .i64 0, .int .i64 0, .int .i64 0] _ from H9.out.rest.head)) rfl ?_
          rw [HA.out]
          exact ⟨rfl, H9.out.tailO⟩
        · have e1 : (F2.val == F.val) = false := beqF hs
          have e2 : (F2.val != F.val) = true := by simpa using hs
          have HA := Lib.hid (show av = actV 1 hd 0 from by rw [← HAv.out, if_pos hs])
          have h9 := ((H6.out.setB 0 (.int .i64 1)).setB 1 (.int .i64 hd)).setB 2 (.int .i64 0)
          have H9 := Lib.hid h9
          clear h9 hs HAv
          go_wp2_with fail
          refine bodyPost_ret (res_ac (j := 8) (by rfl) (by rfl) (show Blk _ r [.int .i64 1, .int .i64 hd, .int .i64 0] _ from H9.out.rest.head)) rfl ?_
          rw [HA.out]
          exact ⟨rfl, H9.out.tailO⟩
      · skip
        by_cases q3 : key = sRedo
        · have b0 : (key == [66, 97, 99, 107, 115, 112, 97, 99, 101]) = false := beqF q0
          have b1 : (key == [68, 101, 108, 101, 116, 101]) = false := beqF q1
          have b2 : (key == [85, 110, 100, 111]) = false := beqF q2
          have b3 : (key == [82, 101, 100, 111]) = true := beqT q3
          have HE := Lib.hid (show F2 = F.forth from by rw [← HF2.out]; unfold edK; rw [if_neg q0]; rw [if_neg q1]; rw [if_neg q2]; rw [if_pos q3])
          clear q0 q1 q2 q3 HF2
          go_wp2_with fail
          refine (HRe.out _ H2.out).mono ?_
          rintro e w5 ⟨rfl, h5⟩
          rw [← HE.out] at h5
          have H5 := Lib.hid h5
          clear h5
          have HV3 := Lib.hid (HV2.out _ _ H5.out)
          clear HV2
          go_wp2_with fail
          refine HV3.out.mono ?_
          rintro e w6 ⟨rfl, hb6⟩
          have h6 := H5.out.still hb6
          have kb : Blk w6 w.heap.size [.int .i64 0, .int .i64 0, .int .i64 0] 91 := h6.rest.head
          have z0 := kb.cell 0
          have z1 := kb.cell 1
          have z2 := kb.cell 2
          have f0 := kb.free 0
          have f1 := kb.free 1
          have f2 := kb.free 2
          simp only [List.getElem?_cons_succ, List.getElem?_cons_zero] at z0 z1 z2
          have H6 := Lib.hid h6
          clear h6 kb hb6 H5 HV3
          generalize w.heap.size = r at *
          by_cases hs : F2.val = F.val
          · have e1 : (F2.val == F.val) = true := beqT hs
            have e2 : (F2.val != F.val) = false := by simp [hs]
            have HA := Lib.hid (show av = actV 0 0 0 from by rw [← HAv.out, if_neg (fun q => q hs)])
            have h9 := ((H6.out.setB 0 (.int .i64 0)).setB 1 (.int .i64 0)).setB 2 (.int .i64 0)
            have H9 := Lib.hid h9
            clear h9 hs HAv
            go_wp2_with fail
            refine bodyPost_ret (res_ac (j := 8) (by rfl) (by rfl) (show Blk _ r [.int .i64 0, .int .i64 0, .int .i64 0] _ from H9.out.rest.head)) rfl ?_
            rw [HA.out]
            exact ⟨rfl, H9.out.tailO⟩
          · have e1 : (F2.val == F.val) = false := beqF hs
            have e2 : (F2.val != F.val) = true := by simpa using hs
            have HA := Lib.hid (show av = actV 1 hd 0 from by rw [← HAv.out, if_pos hs])
            have h9 := ((H6.out.setB 0 (.int .i64 1)).setB 1 (.int .i64 hd)).setB 2 (.int .i64 0)
            have H9 := Lib.hid h9
            clear h9 hs HAv
            go_wp2_with fail
            refine bodyPost_ret (res_ac (j := 8) (by rfl) (by rfl) (show Blk _ r [.int .i64 1, .int .i64 hd, .int .i64 0] _ from H9.out.rest.head)) rfl ?_
            rw [HA.out]
            exact ⟨rfl, H9.out.tailO⟩
        · skip
          have b0 : (key == [66, 97, 99, 107, 115, 112, 97, 99, 101]) = false := beqF q0
          have b1 : (key == [68, 101, 108, 101, 116, 101]) = false := beqF q1
          have b2 : (key == [85, 110, 100, 111]) = false := beqF q2
          have b3 : (key == [82, 101, 100, 111]) = false := beqF q3
          have HFe := Lib.hid (show F2 = if Lib.validD key = true ∧ nL key = 1 then F.ins (cleanL ar key) else F from by rw [← HF2.out]; unfold edK; rw [if_neg q0, if_neg q1, if_neg q2, if_neg q3])
          clear q0 q1 q2 q3 HF2
          go_wp2_with fail
          refine (HVd.out _ H2.out).mono ?_
          rintro e w3 ⟨rfl, hb3⟩
          have H3 := Lib.hid (H2.out.still hb3)
          clear hb3
          cases hvd : Lib.validD key with
          | false =>
            have HE := Lib.hid (show F2 = F from by rw [HFe.out, if_neg (fun q => by rw [hvd] at q; cases q.1)])
            clear hvd HFe
            have h5 := H3.out
            rw [← HE.out] at h5
            have H5 := Lib.hid h5
            clear h5
            have HV3 := Lib.hid (HV2.out _ _ H5.out)
            clear HV2
            go_wp2_with fail
            refine HV3.out.mono ?_
            rintro e w6 ⟨rfl, hb6⟩
            have h6 := H5.out.still hb6
            have kb : Blk w6 w.heap.size [.int .i64 0, .int .i64 0, .int .i64 0] 91 := h6.rest.head
            have z0 := kb.cell 0
            have z1 := kb.cell 1
            have z2 := kb.cell 2
            have f0 := kb.free 0
            have f1 := kb.free 1
            have f2 := kb.free 2
            simp only [List.getElem?_cons_succ, List.getElem?_cons_zero] at z0 z1 z2
            have H6 := Lib.hid h6
            clear h6 kb hb6 H5 HV3
            generalize w.heap.size = r at *
            by_cases hs : F2.val = F.val
            · have e1 : (F2.val == F.val) = true := beqT hs
              have e2 : (F2.val != F.val) = false := by simp [hs]
              have HA := Lib.hid (show av = actV 0 0 0 from by rw [← HAv.out, if_neg (fun q => q hs)])
              have h9 := ((H6.out.setB 0 (.int .i64 0)).setB 1 (.int .i64 0)).setB 2 (.int .i64 0)
              have H9 := Lib.hid h9
              clear h9 hs HAv
              go_wp2_with fail
              refine bodyPost_ret (res_ac (j := 8) (by rfl) (by rfl) (show Blk _ r [.int .i64 0, .int .i64 0, .int .i64 0] _ from H9.out.rest.head)) rfl ?_
              rw [HA.out]
              exact ⟨rfl, H9.out.tailO⟩
            · have e1 : (F2.val == F.val) = false := beqF hs
              have e2 : (F2.val != F.val) = true := by simpa using hs
              have HA := Lib.hid (show av = actV 1 hd 0 from by rw [← HAv.out, if_pos hs])
              have h9 := ((H6.out.setB 0 (.int .i64 1)).setB 1 (.int .i64 hd)).setB 2 (.int .i64 0)
              have H9 := Lib.hid h9
              clear h9 hs HAv
              go_wp2_with fail
              refine bodyPost_ret (res_ac (j := 8) (by rfl) (by rfl) (show Blk _ r [.int .i64 1, .int .i64 hd, .int .i64 0] _ from H9.out.rest.head)) rfl ?_
              rw [HA.out]
              exact ⟨rfl, H9.out.tailO⟩
          | true =>
            go_wp2_with fail
            refine (HRc.out _).mono ?_
            rintro e w4 ⟨rfl, hb4⟩
            have H4 := Lib.hid (H3.out.still hb4)
            clear hb4
            by_cases hc : nL key = 1
            · have c1 : ((nL key : Int) == 1) = true := by simp [hc]
              have HE := Lib.hid (show F2 = F.ins (cleanL ar key) from by rw [HFe.out, if_pos ⟨hvd, hc⟩])
              clear hc hvd HFe
              go_wp2_with fail
              refine (HIn.out _ H4.out).mono ?_
              rintro e w5 ⟨rfl, h5⟩
              rw [← HE.out] at h5
              have H5 := Lib.hid h5
              clear h5
              have HV3 := Lib.hid (HV2.out _ _ H5.out)
              clear HV2
              go_wp2_with fail
              refine HV3.out.mono ?_
              rintro e w6 ⟨rfl, hb6⟩
              have h6 := H5.out.still hb6
              have kb : Blk w6 w.heap.size [.int .i64 0, .int .i64 0, .int .i64 0] 91 := h6.rest.head
              have z0 := kb.cell 0
              have z1 := kb.cell 1
              have z2 := kb.cell 2
              have f0 := kb.free 0
              have f1 := kb.free 1
              have f2 := kb.free 2
              simp only [List.getElem?_cons_succ, List.getElem?_cons_zero] at z0 z1 z2
              have H6 := Lib.hid h6
              clear h6 kb hb6 H5 HV3
              generalize w.heap.size = r at *
              by_cases hs : F2.val = F.val
              · have e1 : (F2.val == F.val) = true := beqT hs
                have e2 : (F2.val != F.val) = false := by simp [hs]
                have HA := Lib.hid (show av = actV 0 0 0 from by rw [← HAv.out, if_neg (fun q => q hs)])
                have h9 := ((H6.out.setB 0 (.int .i64 0)).setB 1 (.int .i64 0)).setB 2 (.int .i64 0)
                have H9 := Lib.hid h9
                clear h9 hs HAv
                go_wp2_with fail
                refine bodyPost_ret (res_ac (j := 8) (by rfl) (by rfl) (show Blk _ r [.int .i64 0, .int .i64 0, .int .i64 0] _ from H9.out.rest.head)) rfl ?_
                rw [HA.out]
                exact ⟨rfl, H9.out.tailO⟩
              · have e1 : (F2.val == F.val) = false := beqF hs
                have e2 : (F2.val != F.val) = true := by simpa using hs
                have HA := Lib.hid (show av = actV 1 hd 0 from by rw [← HAv.out, if_pos hs])
                have h9 := ((H6.out.setB 0 (.int .i64 1)).setB 1 (.int .i64 hd)).setB 2 (.int .i64 0)
                have H9 := Lib.hid h9
                clear h9 hs HAv
                go_wp2_with fail
                refine bodyPost_ret (res_ac (j := 8) (by rfl) (by rfl) (show Blk _ r [.int .i64 1, .int .i64 hd, .int .i64 0] _ from H9.out.rest.head)) rfl ?_
                rw [HA.out]
                exact ⟨rfl, H9.out.tailO⟩
            · have c1 : ((nL key : Int) == 1) = false := by simp; omega
              have HE := Lib.hid (show F2 = F from by rw [HFe.out, if_neg (fun q => hc q.2)])
              clear hc hvd HFe
              have h5 := H4.out
              rw [← HE.out] at h5
              have H5 := Lib.hid h5
              clear h5
              have HV3 := Lib.hid (HV2.out _ _ H5.out)
              clear HV2
              go_wp2_with fail
              refine HV3.out.mono ?_
              rintro e w6 ⟨rfl, hb6⟩
              have h6 := H5.out.still hb6
              have kb : Blk w6 w.heap.size [.int .i64 0, .int .i64 0, .int .i64 0] 91 := h6.rest.head
              have z0 := kb.cell 0
              have z1 := kb.cell 1
              have z2 := kb.cell 2
              have f0 := kb.free 0
              have f1 := kb.free 1
              have f2 := kb.free 2
              simp only [List.getElem?_cons_succ, List.getElem?_cons_zero] at z0 z1 z2
              have H6 := Lib.hid h6
              clear h6 kb hb6 H5 HV3
              generalize w.heap.size = r at *
              by_cases hs : F2.val = F.val
              · have e1 : (F2.val == F.val) = true := beqT hs
                have e2 : (F2.val != F.val) = false := by simp [hs]
                have HA := Lib.hid (show av = actV 0 0 0 from by rw [← HAv.out, if_neg (fun q => q hs)])
                have h9 := ((H6.out.setB 0 (.int .i64 0)).setB 1 (.int .i64 0)).setB 2 (.int .i64 0)
                have H9 := Lib.hid h9
                clear h9 hs HAv
                go_wp2_with fail
                refine bodyPost_ret (res_ac (j := 8) (by rfl) (by rfl) (show Blk _ r [.int .i64 0, .int .i64 0, .int .i64 0] _ from H9.out.rest.head)) rfl ?_
                rw [HA.out]
                exact ⟨rfl, H9.out.tailO⟩
              · have e1 : (F2.val == F.val) = false := beqF hs
                have e2 : (F2.val != F.val) = true := by simpa using hs
                have HA := Lib.hid (show av = actV 1 hd 0 from by rw [← HAv.out, if_pos hs])
                have h9 := ((H6.out.setB 0 (.int .i64 1)).setB 1 (.int .i64 hd)).setB 2 (.int .i64 0)
                have H9 := Lib.hid h9
                clear h9 hs HAv
                go_wp2_with fail
                refine bodyPost_ret (res_ac (j := 8) (by rfl) (by rfl) (show Blk _ r [.int .i64 1, .int .i64 hd, .int .i64 0] _ from H9.out.rest.head)) rfl ?_
                rw [HA.out]
                exact ⟨rfl, H9.out.tailO⟩
end
end Go.Proofs.YtacdbnhnhdlmpaaGreatDoor.W
end
section
namespace Go.Proofs.YtacdbnhnhdlmpaaGreatDoor.W
open Go.RowKit
def sForm : List UInt8 := [102, 111, 114, 109]
def ownF (S : Tr) : Nat → Option Nat → Option Nat
  | 0, _ => none
  | _, none => none
  | f + 1, some x => if (S.at x).map (fun n => n.name) = some sForm then some x else ownF S f (pr S x)
def ownI (S : Tr) (d : Nat → Nat) (i : Nat) : Option Nat := ownF S (dO d (pr S i)) (pr S i)
theorem ownF_none (S : Tr) (f : Nat) : ownF S f none = none := by cases f <;> rfl
set_option maxRecDepth 100000 in
set_option maxHeartbeats 4000000 in
theorem owner_any {B R : Nat} {S : Tr} {sv fv : Value} {w : World} {K : Nat → List Nat} {d : Nat → Nat} (h : TAt B R S sv fv w) (hL : Lk S K d) (hal : ∀ i n, S.at i = some n → n.attrs.length ≤ 1000) (hnm : ∀ i n, S.at i = some n → n.kind ≠ 2 → n.name = []) (i : Nat) (n : Nd) (hi : S.at i = some n) :
    Calls Tryz.prog 32 #[.pointer (some ⟨R, 0, none⟩), .int .i64 (S.hd i)] w fun e w' => e = .returned (.int .i64 (hO S (ownI S d i))) ∧ Below w.heap.size w w' := by
  have HN := Lib.hid (fun (k : Nat) (nk : Nd) (hk : S.at k = some nk) (wx : World) (hb : Below w.heap.size w wx) => node_some (h.below hb) (S.hd k) (hd_ok hL hk).1 (hd_ix hL hk) (at_slot hk) (hal k nk hk))
  have HAv := Lib.hid (fun (k : Nat) (nk : Nd) (hk : S.at k = some nk) => h.attrs k nk (at_slot hk))
  obtain ⟨o0, hpar, hu0, _, _⟩ := par_of hL hi
  have hpr := pr_of hL hi hpar hu0
  have HT := Lib.hid (show ownI S d i = ownF S (dO d o0) o0 from by unfold ownI; rw [hpr])
  have HN0 := Lib.hid (HN.out i n hi w (Below.refl _ _))
  have hat := HAv.out i n hi
  have HL := Lib.hid hL
  have HNm := Lib.hid hnm
  generalize ownI S d i = tg at *
  obtain ⟨nk, nm, nav, nal, nda, np, nf, nl, npv, nx⟩ := n
  simp only at HN0 hpar hat
  obtain ⟨ta, tc, rfl, _⟩ := hat
  subst hpar
  clear h hL hal hnm hi hpr
  go_enter Tryz.func32, Tryz.ntmps32
  go_wp2_with fail
  refine HN0.out.mono ?_
  rintro e w1 ⟨v', rfl, ho, hb1⟩
  obtain ⟨va, vc, rfl⟩ := own_shapeB ho
  clear ho
  simp only [ndC, strV]
  have c4 := (Blk.new w1 [.int .i64 nk, .string ⟨nm.toArray⟩, .slice va nal.length vc, .string ⟨nda.toArray⟩, .int .i64 (hO S o0), .int .i64 nf, .int .i64 nl, .int .i64 npv, .int .i64 nx] 135).cell 4
  simp only [List.getElem?_cons_zero, List.getElem?_cons_succ] at c4
  have HB2 := Lib.hid (hb1.alloc hb1.size (.cells #[.int .i64 nk, .string ⟨nm.toArray⟩, .slice va nal.length vc, .string ⟨nda.toArray⟩, .int .i64 (hO S o0), .int .i64 nf, .int .i64 nl, .int .i64 npv, .int .i64 nx] 135))
  clear hb1
  go_wp2_with fail
  go_loopw [7] (fun kv wr => ∃ o : Option Nat, UsedO S o ∧ kv = .int .i64 (hO S o) ∧ tg = ownF S (dO d o) o ∧ Below w.heap.size w wr) (fun kv _ => dO d (S.ix (hnum kv)))
  case atStart => exact ⟨o0, hu0, rfl, HT.out, HB2.out⟩
  case round =>
    obtain ⟨o, hu, rfl, hc, hB⟩ := hrel
    cases o with
    | none =>
      have HC := Lib.hid (hc.trans (ownF_none S _))
      clear hc
      rw [show hO S none = 0 from rfl]
      go_wp2_with fail
      go_ret
      exact ⟨by rw [HC.out]; rfl, hB⟩
    | some x =>
      obtain ⟨y, hx⟩ := Option.isSome_iff_exists.1 (hu x rfl)
      obtain ⟨o2, hpar, hu2, hn1, hn2⟩ := par_of HL.out hx
      have hpr := pr_of HL.out hx hpar hu2
      have hdd : d x = dO d o2 + 1 := by
        cases o2 with
        | none => exact (hn1 rfl).1
        | some p => exact (hn2 p rfl).2
      have hstep : ownF S (dO d (Option.some x)) (Option.some x) = if y.name = sForm then Option.some x else ownF S (dO d o2) o2 := by
        show ownF S (d x) (Option.some x) = _
        rw [hdd]
        show (if (S.at x).map (fun n => n.name) = Option.some sForm then Option.some x else ownF S (dO d o2) (pr S x)) = _
        rw [hpr, hx]
        simp
      have HStep := Lib.hid (hc.trans hstep)
      have hix := hd_ix HL.out hx
      have hix2 := hO_ix HL.out hu2
      have hpos := (hd_ok HL.out hx).2
      have HX := Lib.hid (HN.out x y hx wr hB)
      have hat := HAv.out x y hx
      have hnk := HNm.out x y hx
      obtain ⟨yk, ym, yav, yal, yda, yp, yf, yl, ypv, yx⟩ := y
      simp only at HStep hpar HX hat hnk
      obtain ⟨ua, uc, rfl, _⟩ := hat
      subst hpar
      rw [show hO S (Option.some x) = S.hd x from rfl]
      have hne : (S.hd x != 0) = true := by simp; omega
      have hms : dO d o2 < dO d (Option.some x) := by show dO d o2 < d x; omega
      clear hc hstep hpr hdd hx hpos
      go_wp2_with fail
      refine HX.out.mono ?_
      rintro e w2 ⟨v', rfl, ho, hb2⟩
      obtain ⟨wa, wc, rfl⟩ := own_shapeB ho
      clear ho
      simp only [ndC, strV]
      have kb := Blk.new w2 [.int .i64 yk, .string ⟨ym.toArray⟩, .slice wa yal.length wc, .string ⟨yda.toArray⟩, .int .i64 (hO S o2), .int .i64 yf, .int .i64 yl, .int .i64 ypv, .int .i64 yx] 135
      have c0 := kb.cell 0
      have c1 := kb.cell 1
      have c4 := kb.cell 4
      simp only [List.getElem?_cons_zero, List.getElem?_cons_succ] at c0 c1 c4
      have HB3 := Lib.hid (bthen hB (hb2.alloc hb2.size (.cells #[.int .i64 yk, .string ⟨ym.toArray⟩, .slice wa yal.length wc, .string ⟨yda.toArray⟩, .int .i64 (hO S o2), .int .i64 yf, .int .i64 yl, .int .i64 ypv, .int .i64 yx] 135)))
      clear hb2 kb hB
      by_cases hf : ym = sForm
      · have e1 : (ym == [102, 111, 114, 109]) = true := beqT hf
        have HR := Lib.hid (HStep.out.trans (if_pos hf))
        clear hf hnk
        go_wp2_with fail
        go_ret
        exact ⟨by rw [HR.out]; rfl, HB3.out⟩
      · have e1 : (ym == [102, 111, 114, 109]) = false := beqF hf
        have HR := Lib.hid (HStep.out.trans (if_neg hf))
        clear hf
        clear hnk
        go_wp2_with fail
        go_roundw
        case rel => exact ⟨o2, hu2, rfl, HR.out, HB3.out⟩
        case measure =>
          show dO d (S.ix (hO S o2)) < dO d (S.ix (S.hd x))
          rw [hix2, hix]
          exact hms
end Go.Proofs.YtacdbnhnhdlmpaaGreatDoor.W
end
section
namespace Go.Proofs.YtacdbnhnhdlmpaaGreatDoor.W
open Go.RowKit
section
variable {B : Nat} {w0 : World} {R : Nat} {S : Tr} {sv fv : Value} {K : Nat → List Nat} {d : Nat → Nat} {x : List UInt8} {area : Bool}
theorem sg_pr (g : SgOk area x S K d) : pr S 2 = some 1 ∧ pr S 1 = some 0 := by
  obtain ⟨n1, h1, _⟩ := nI_some g.n1
  obtain ⟨n2, h2, _⟩ := nI_some g.n2
  obtain ⟨n0, h0, _⟩ := nI_some g.n0
  have p2 := (g.ok.lk.kid 1 0 2 n2 (by rw [g.k1]; rfl) h2).1
  have p1 := (g.ok.lk.kid 0 0 1 n1 (by rw [g.k0]; rfl) h1).1
  exact ⟨pr_of g.ok.lk h2 (o := some 1) p2 (fun y hy => by cases hy; rw [h1]; rfl), pr_of g.ok.lk h1 (o := some 0) p1 (fun y hy => by cases hy; rw [h0]; rfl)⟩
theorem sg_fc (g : SgOk area x S K d) : FcOk B w0 R (trO R S sv fv) (S.hd 2) := by
  obtain ⟨n2, h2, hk, hnm, hat, hdt⟩ := nI_some g.n2
  obtain ⟨n0, h0, _⟩ := nI_some g.n0
  obtain ⟨q2, q1⟩ := sg_pr g
  have hl : n2.attrs.length ≤ 1000 := by rw [hat]; split <;> simp
  refine ⟨(hd_ok g.ok.lk h2).2, fun w hp _ => ?_, S.hd 0, fun w hp => ?_, fun w hp _ => ?_⟩
  · refine focusable_fd (show TAt 0 R S sv fv w from hp) g.ok.lk 2 n2 h2 hl ?_ ?_
    · unfold kindN
      rw [hnm]
      cases area with
      | true => exact .inr rfl
      | false =>
        refine .inl ?_
        have : attV n2 sType = none := by unfold attV attL; rw [if_pos hk, hat]; rfl
        rw [this]; rfl
    · unfold attV attL
      rw [if_pos hk, hat]
      cases area <;> rfl
  · have := (show TAt 0 R S sv fv w from hp).blk.cell 5
    simp only [List.getElem?_cons_succ, List.getElem?_cons_zero] at this
    rw [this, g.ok.root]
  · have hT : TAt 0 R S sv fv w := hp
    obtain ⟨gg, cap, rfl⟩ := slots_some hT (by have := at_lt h2; omega)
    have := contains_any hT g.ok.lk 0 2 n0 n2 h0 h2
    have e : contB S 0 (d 2) (some 2) = true := by
      rw [g.d2]
      unfold contB
      rw [q2]
      unfold contB
      rw [q1]
      rfl
    rwa [e] at this
end
end Go.Proofs.YtacdbnhnhdlmpaaGreatDoor.W
end
