/- Texts joined: Key Kys Clo Clz. -/
import Derived.Test.YtacdbnhnhdlmpaaGreatDoorFK2
import Derived.Lib.SmallJoins
import Derived.Deep.Slices
import Derived.LoopTactic
set_option maxRecDepth 100000
set_option maxHeartbeats 40000000
set_option linter.unusedVariables false
set_option linter.unusedSimpArgs false
section
namespace Go.Proofs.YtacdbnhnhdlmpaaGreatDoor.W
open Go.RowKit
def sEnter : List UInt8 := [69, 110, 116, 101, 114]
def sTab : List UInt8 := [84, 97, 98]
def sShift : List UInt8 := [83, 104, 105, 102, 116, 84, 97, 98]
abbrev isMv (key : List UInt8) : Prop := key = sLeft ∨ key = sRight ∨ key = sHome ∨ key = sEnd
def keyF (ar : Bool) (F : FT) (key : List UInt8) : FT :=
  if isMv key then F.sel (movTo F key) (movTo F key) else if key = sEnter then (if ar = true then edK ar F [10] else F) else edK ar F key
def keyA (ar : Bool) (hd : Int) (F : FT) (key : List UInt8) : Value :=
  if isMv key then (if (F.sel (movTo F key) (movTo F key)).st ≠ F.st ∨ (F.sel (movTo F key) (movTo F key)).en ≠ F.en then actV 2 hd 0 else actV 0 0 0)
  else if key = sEnter ∧ ar = false then actV 0 0 0 else if (keyF ar F key).val ≠ F.val then actV 1 hd 0 else actV 0 0 0
def OwNo (B : Nat) (w0 : World) (R : Nat) (O : Ob) (hd : Int) : Prop := ∀ w, O.P w → Below B w0 w → Calls Tryz.prog 32 #[.pointer (some ⟨R, 0, none⟩), .int .i64 hd] w fun e w' => e = .returned (.int .i64 0) ∧ Below w.heap.size w w'
theorem sg_ow {B : Nat} {w0 : World} {R : Nat} {S : Tr} {sv fv : Value} {K : Nat → List Nat} {d : Nat → Nat} {x : List UInt8} {area : Bool} (g : SgOk area x S K d) : OwNo B w0 R (trO R S sv fv) (S.hd 2) := by
  intro w hp _
  obtain ⟨n2, h2, _⟩ := nI_some g.n2
  obtain ⟨n1, h1, _, m1, _⟩ := nI_some g.n1
  obtain ⟨n0, h0, _, m0, _⟩ := nI_some g.n0
  obtain ⟨q2, q1⟩ := sg_pr g
  have hnm : ∀ i n, S.at i = some n → n.kind ≠ 2 → n.name = [] := fun i n hi hk => by
    rcases (g.ok.nd i n hi).kd with e | e | e | e
    · exact ((g.ok.nd i n hi).dc e).1
    · exact absurd e hk
    · exact ((g.ok.nd i n hi).tx (.inl e)).1
    · exact ((g.ok.nd i n hi).tx (.inr e)).1
  have := owner_any (show TAt 0 R S sv fv w from hp) g.ok.lk (fun i n hi => by have := (g.ok.nd i n hi).al; omega) hnm 2 n2 h2
  have e : ownI S d 2 = none := by
    unfold ownI
    rw [q2, show dO d (some 1) = 2 from g.d1]
    unfold ownF
    rw [h1, if_neg (by simp only [Option.map_some, m1]; decide), q1]
    unfold ownF
    rw [h0, if_neg (by simp only [Option.map_some, m0]; decide)]
    rfl
  rwa [e] at this
theorem submit_no {w : World} {R : Nat} {hd : Int} (ho : ∀ wx, Below w.heap.size w wx → Calls Tryz.prog 32 #[.pointer (some ⟨R, 0, none⟩), .int .i64 hd] wx fun e w' => e = .returned (.int .i64 0) ∧ Below wx.heap.size wx w') :
    Calls Tryz.prog 96 #[.pointer (some ⟨R, 0, none⟩), .int .i64 hd] w fun e w' => e = .returned (actV 0 0 0) ∧ Below w.heap.size w w' := by
  have hb1 : Below w.heap.size w (w.alloc (.cells #[.int .i64 0, .int .i64 0, .int .i64 0] 91)) := (Below.refl _ _).alloc (Nat.le_refl _) _
  have k1 := Blk.new w [.int .i64 0, .int .i64 0, .int .i64 0] 91
  have HO := Lib.hid (ho _ hb1)
  have HB1 := Lib.hid hb1
  clear ho hb1
  go_enter Tryz.func96, Tryz.ntmps96
  go_wp2_with fail
  refine HO.out.mono ?_
  rintro e w2 ⟨rfl, hb2⟩
  have kb := k1.below hb2
  have z0 := kb.cell 0
  have z1 := kb.cell 1
  have z2 := kb.cell 2
  have f0 := kb.free 0
  have f1 := kb.free 1
  have f2 := kb.free 2
  simp only [List.getElem?_cons_succ, List.getElem?_cons_zero] at z0 z1 z2
  have HK := Lib.hid kb
  have HB := Lib.hid (bthen HB1.out hb2)
  clear kb k1 hb2 HO HB1
  go_wp2_with fail
  refine bodyPost_ret (res_ac (j := 4) (by rfl) (by rfl) (show Blk _ w.heap.size [.int .i64 0, .int .i64 0, .int .i64 0] _ from ((HK.out.set 0 (.int .i64 0)).set 1 (.int .i64 0)).set 2 (.int .i64 0))) rfl ⟨rfl, ?_⟩
  exact ((HB.out.setCell (p := ⟨w.heap.size, 0, none⟩) (Nat.le_refl _) _).setCell (p := ⟨w.heap.size, 1, none⟩) (Nat.le_refl _) _).setCell (p := ⟨w.heap.size, 2, none⟩) (Nat.le_refl _) _
section
variable {B : Nat} {w0 w : World} {Q R k N : Nat} {ar : Bool} {hd : Int} {v : List UInt8} {l : List Ob} {O : Ob} {F : FT}
theorem act_is (c : Prop) [Decidable c] (a b : Int) : ∃ a1 a2 a3, (if c then actV a b 0 else actV 0 0 0) = actV a1 a2 a3 := by
  split
  · exact ⟨_, _, _, rfl⟩
  · exact ⟨_, _, _, rfl⟩
set_option maxRecDepth 100000 in
set_option maxHeartbeats 16000000 in
theorem key_one (h : FsAt B w0 Q hd hd v l F w) (hO : O ∈ l) (hF : FdOk B w0 R O hd k v) (hFc : FcOk B w0 R O hd) (hOw : OwNo B w0 R O hd) (hk : k = 1 ∨ k = 2) (hka : decide (k = 2) = ar) (hv : v.length ≤ 10000000) (hL : ∀ wx, Below B w0 wx → Laid wx) {E0 : RE} (hag : Ag N F E0) (hN : N ≤ 100000) (key : List UInt8) (hkl : key.length ≤ 100) (ht1 : key ≠ sTab) (ht2 : key ≠ sShift) :
    Calls Tryz.prog 50 #[.pointer (some ⟨Q, 0, none⟩), .pointer (some ⟨R, 0, none⟩), .string ⟨key.toArray⟩] w fun e w' => e = .returned (keyA ar hd F key) ∧ FsAt B w0 Q hd hd v l (keyF ar F key) w' := by
  have h1 := h.new (o := bk w.heap.size [.int .i64 0, .int .i64 0, .int .i64 0] 91) (Blk.new w [.int .i64 0, .int .i64 0, .int .i64 0] 91) ((Below.refl _ _).alloc (Nat.le_refl _) _) (fun k hk => Nat.le_of_eq hk.symm)
  have hO1 : O ∈ bk w.heap.size [.int .i64 0, .int .i64 0, .int .i64 0] 91 :: l := List.mem_cons_of_mem _ hO
  have HFo := Lib.hid (focused_one h1 hO1 hFc)
  have HKi := Lib.hid (fun wx (h5 : FsAt B w0 Q hd hd v (bk w.heap.size [.int .i64 0, .int .i64 0, .int .i64 0] 91 :: l) F wx) => hF.kindA hO1 h5.rest)
  have HWr := Lib.hid (written_yes hk)
  have HMv := Lib.hid (fun wx (h5 : FsAt B w0 Q hd hd v (bk w.heap.size [.int .i64 0, .int .i64 0, .int .i64 0] 91 :: l) F wx) (hm : isMv key) => move_one h5 hO1 hF hk hv hag.ok (by omega) key hm)
  have HEd := Lib.hid (fun (key : List UInt8) (hkl : key.length ≤ 100) wx (h5 : FsAt B w0 Q hd hd v (bk w.heap.size [.int .i64 0, .int .i64 0, .int .i64 0] 91 :: l) F wx) => edit_one h5 hO1 hF hk hka hv hL hag hN key hkl)
  have HSu := Lib.hid (fun wx (h5 : FsAt B w0 Q hd hd v (bk w.heap.size [.int .i64 0, .int .i64 0, .int .i64 0] 91 :: l) F wx) => submit_no (w := wx) (R := R) (hd := hd) (fun wy hb => hOw wy ((h5.still hb).rest.P O hO1) (h5.still hb).rest.below))
  have H1 := Lib.hid h1
  have t1 : (key == [84, 97, 98]) = false := beqF ht1
  have t2 : (key == [83, 104, 105, 102, 116, 84, 97, 98]) = false := beqF ht2
  have hp := hFc.pos
  have hz : (hd == 0) = false := by simp; omega
  obtain ⟨F2, hF2⟩ : ∃ F2, keyF ar F key = F2 := ⟨_, rfl⟩
  rw [hF2]
  have HF2 := Lib.hid hF2
  obtain ⟨av, hav⟩ : ∃ av, keyA ar hd F key = av := ⟨_, rfl⟩
  rw [hav]
  have HAv := Lib.hid hav
  have HKl := Lib.hid hkl
  clear h hO hF hFc hOw h1 hag hF2 hav hL ht1 ht2 hp hkl
  generalize hw1 : w.alloc (.cells #[.int .i64 0, .int .i64 0, .int .i64 0] 91) = w1 at *
  have HW1 := Lib.hid hw1
  clear hw1
  go_enter Tryz.func50, Tryz.ntmps50
  go_upto_region 1 with fail
  rw [HW1.out]
  go_wp2_with fail
  refine HFo.out.mono ?_
  rintro e w2 ⟨rfl, hb2⟩
  have H2 := Lib.hid (H1.out.still hb2)
  clear hb2 HFo H1
  go_wp2_with fail
  refine (HKi.out _ H2.out).mono ?_
  rintro e w3 ⟨rfl, hb3⟩
  have H3 := Lib.hid (H2.out.still hb3)
  clear hb3 HKi H2
  go_wp2_with fail
  refine (HWr.out _).mono ?_
  rintro e w4 ⟨rfl, rfl⟩
  by_cases q0 : key = sLeft
  · have b0 : (key == [76, 101, 102, 116]) = true := beqT q0
    have hmv : isMv key := .inl q0
    have HE := Lib.hid (show F2 = F.sel (movTo F key) (movTo F key) from by rw [← HF2.out]; unfold keyF; rw [if_pos hmv])
    have hA0 : av = (if (F.sel (movTo F key) (movTo F key)).st ≠ F.st ∨ (F.sel (movTo F key) (movTo F key)).en ≠ F.en then actV 2 hd 0 else actV 0 0 0) := by rw [← HAv.out]; unfold keyA; rw [if_pos hmv]
    have HM := Lib.hid (HMv.out _ H3.out hmv)
    obtain ⟨a1, a2, a3, hi⟩ := act_is ((F.sel (movTo F key) (movTo F key)).st ≠ F.st ∨ (F.sel (movTo F key) (movTo F key)).en ≠ F.en) 2 hd
    rw [hi] at HM hA0
    have HA := Lib.hid hA0
    clear q0 hmv HF2 HAv hA0 hi HMv HEd HSu
    simp only [actV] at HM
    go_wp2_with fail
    refine HM.out.mono ?_
    rintro e w5 ⟨rfl, h5⟩
    rw [← HE.out] at h5
    have H5 := Lib.hid h5
    clear h5 HM
    have kb : Blk w5 w.heap.size [.int .i64 0, .int .i64 0, .int .i64 0] 91 := H5.out.rest.head
    have z0 := kb.cell 0
    have z1 := kb.cell 1
    have z2 := kb.cell 2
    have f0 := kb.free 0
    have f1 := kb.free 1
    have f2 := kb.free 2
    simp only [List.getElem?_cons_succ, List.getElem?_cons_zero] at z0 z1 z2
    have h9 := ((H5.out.setB 0 (.int .i64 a1)).setB 1 (.int .i64 a2)).setB 2 (.int .i64 a3)
    have H9 := Lib.hid h9
    clear h9 kb H5
    generalize w.heap.size = r at *
    go_wp2_with fail
    refine bodyPost_ret (res_ac (j := 6) (by rfl) (by rfl) (show Blk _ r [.int .i64 a1, .int .i64 a2, .int .i64 a3] _ from H9.out.rest.head)) rfl ?_
    rw [HA.out]
    exact ⟨rfl, H9.out.tailO⟩
  · skip
    by_cases q1 : key = sRight
    · have b0 : (key == [76, 101, 102, 116]) = false := beqF q0
      have b1 : (key == [82, 105, 103, 104, 116]) = true := beqT q1
      have hmv : isMv key := .inr (.inl q1)
      have HE := Lib.hid (show F2 = F.sel (movTo F key) (movTo F key) from by rw [← HF2.out]; unfold keyF; rw [if_pos hmv])
      have hA0 : av = (if (F.sel (movTo F key) (movTo F key)).st ≠ F.st ∨ (F.sel (movTo F key) (movTo F key)).en ≠ F.en then actV 2 hd 0 else actV 0 0 0) := by rw [← HAv.out]; unfold keyA; rw [if_pos hmv]
      have HM := Lib.hid (HMv.out _ H3.out hmv)
      obtain ⟨a1, a2, a3, hi⟩ := act_is ((F.sel (movTo F key) (movTo F key)).st ≠ F.st ∨ (F.sel (movTo F key) (movTo F key)).en ≠ F.en) 2 hd
      rw [hi] at HM hA0
      have HA := Lib.hid hA0
      clear q0 q1 hmv HF2 HAv hA0 hi HMv HEd HSu
      simp only [actV] at HM
      go_wp2_with fail
      refine HM.out.mono ?_
      rintro e w5 ⟨rfl, h5⟩
      rw [← HE.out] at h5
      have H5 := Lib.hid h5
      clear h5 HM
      have kb : Blk w5 w.heap.size [.int .i64 0, .int .i64 0, .int .i64 0] 91 := H5.out.rest.head
      have z0 := kb.cell 0
      have z1 := kb.cell 1
      have z2 := kb.cell 2
      have f0 := kb.free 0
      have f1 := kb.free 1
      have f2 := kb.free 2
      simp only [List.getElem?_cons_succ, List.getElem?_cons_zero] at z0 z1 z2
      have h9 := ((H5.out.setB 0 (.int .i64 a1)).setB 1 (.int .i64 a2)).setB 2 (.int .i64 a3)
      have H9 := Lib.hid h9
      clear h9 kb H5
      generalize w.heap.size = r at *
      go_wp2_with fail
      refine bodyPost_ret (res_ac (j := 6) (by rfl) (by rfl) (show Blk _ r [.int .i64 a1, .int .i64 a2, .int .i64 a3] _ from H9.out.rest.head)) rfl ?_
      rw [HA.out]
      exact ⟨rfl, H9.out.tailO⟩
    · skip
      by_cases q2 : key = sHome
      · have b0 : (key == [76, 101, 102, 116]) = false := beqF q0
        have b1 : (key == [82, 105, 103, 104, 116]) = false := beqF q1
        have b2 : (key == [72, 111, 109, 101]) = true := beqT q2
        have hmv : isMv key := .inr (.inr (.inl q2))
        have HE := Lib.hid (show F2 = F.sel (movTo F key) (movTo F key) from by rw [← HF2.out]; unfold keyF; rw [if_pos hmv])
        have hA0 : av = (if (F.sel (movTo F key) (movTo F key)).st ≠ F.st ∨ (F.sel (movTo F key) (movTo F key)).en ≠ F.en then actV 2 hd 0 else actV 0 0 0) := by rw [← HAv.out]; unfold keyA; rw [if_pos hmv]
        have HM := Lib.hid (HMv.out _ H3.out hmv)
        obtain ⟨a1, a2, a3, hi⟩ := act_is ((F.sel (movTo F key) (movTo F key)).st ≠ F.st ∨ (F.sel (movTo F key) (movTo F key)).en ≠ F.en) 2 hd
        rw [hi] at HM hA0
        have HA := Lib.hid hA0
        clear q0 q1 q2 hmv HF2 HAv hA0 hi HMv HEd HSu
        simp only [actV] at HM
        go_wp2_with fail
        refine HM.out.mono ?_
        rintro e w5 ⟨rfl, h5⟩
        rw [← HE.out] at h5
        have H5 := Lib.hid h5
        clear h5 HM
        have kb : Blk w5 w.heap.size [.int .i64 0, .int .i64 0, .int .i64 0] 91 := H5.out.rest.head
        have z0 := kb.cell 0
        have z1 := kb.cell 1
        have z2 := kb.cell 2
        have f0 := kb.free 0
        have f1 := kb.free 1
        have f2 := kb.free 2
        simp only [List.getElem?_cons_succ, List.getElem?_cons_zero] at z0 z1 z2
        have h9 := ((H5.out.setB 0 (.int .i64 a1)).setB 1 (.int .i64 a2)).setB 2 (.int .i64 a3)
        have H9 := Lib.hid h9
        clear h9 kb H5
        generalize w.heap.size = r at *
        go_wp2_with fail
        refine bodyPost_ret (res_ac (j := 6) (by rfl) (by rfl) (show Blk _ r [.int .i64 a1, .int .i64 a2, .int .i64 a3] _ from H9.out.rest.head)) rfl ?_
        rw [HA.out]
        exact ⟨rfl, H9.out.tailO⟩
      · skip
        by_cases q3 : key = sEnd
        · have b0 : (key == [76, 101, 102, 116]) = false := beqF q0
          have b1 : (key == [82, 105, 103, 104, 116]) = false := beqF q1
          have b2 : (key == [72, 111, 109, 101]) = false := beqF q2
          have b3 : (key == [69, 110, 100]) = true := beqT q3
          have hmv : isMv key := .inr (.inr (.inr q3))
          have HE := Lib.hid (show F2 = F.sel (movTo F key) (movTo F key) from by rw [← HF2.out]; unfold keyF; rw [if_pos hmv])
          have hA0 : av = (if (F.sel (movTo F key) (movTo F key)).st ≠ F.st ∨ (F.sel (movTo F key) (movTo F key)).en ≠ F.en then actV 2 hd 0 else actV 0 0 0) := by rw [← HAv.out]; unfold keyA; rw [if_pos hmv]
          have HM := Lib.hid (HMv.out _ H3.out hmv)
          obtain ⟨a1, a2, a3, hi⟩ := act_is ((F.sel (movTo F key) (movTo F key)).st ≠ F.st ∨ (F.sel (movTo F key) (movTo F key)).en ≠ F.en) 2 hd
          rw [hi] at HM hA0
          have HA := Lib.hid hA0
          clear q0 q1 q2 q3 hmv HF2 HAv hA0 hi HMv HEd HSu
          simp only [actV] at HM
          go_wp2_with fail
          refine HM.out.mono ?_
          rintro e w5 ⟨rfl, h5⟩
          rw [← HE.out] at h5
          have H5 := Lib.hid h5
          clear h5 HM
          have kb : Blk w5 w.heap.size [.int .i64 0, .int .i64 0, .int .i64 0] 91 := H5.out.rest.head
          have z0 := kb.cell 0
          have z1 := kb.cell 1
          have z2 := kb.cell 2
          have f0 := kb.free 0
          have f1 := kb.free 1
          have f2 := kb.free 2
          simp only [List.getElem?_cons_succ, List.getElem?_cons_zero] at z0 z1 z2
          have h9 := ((H5.out.setB 0 (.int .i64 a1)).setB 1 (.int .i64 a2)).setB 2 (.int .i64 a3)
          have H9 := Lib.hid h9
          clear h9 kb H5
          generalize w.heap.size = r at *
          go_wp2_with fail
          refine bodyPost_ret (res_ac (j := 6) (by rfl) (by rfl) (show Blk _ r [.int .i64 a1, .int .i64 a2, .int .i64 a3] _ from H9.out.rest.head)) rfl ?_
          rw [HA.out]
          exact ⟨rfl, H9.out.tailO⟩
        · skip
          have hmv : ¬ isMv key := fun q => by rcases q with q | q | q | q; exact q0 q; exact q1 q; exact q2 q; exact q3 q
          have b0 : (key == [76, 101, 102, 116]) = false := beqF q0
          have b1 : (key == [82, 105, 103, 104, 116]) = false := beqF q1
          have b2 : (key == [72, 111, 109, 101]) = false := beqF q2
          have b3 : (key == [69, 110, 100]) = false := beqF q3
          by_cases q4 : key = sEnter
          · have b4 : (key == [69, 110, 116, 101, 114]) = true := beqT q4
            rcases hk with rfl | rfl
            · have har : ar = false := by rw [← hka]; rfl
              have HE := Lib.hid (show F2 = F from by rw [← HF2.out]; unfold keyF; rw [if_neg hmv, if_pos q4, har]; rfl)
              have HA := Lib.hid (show av = actV 0 0 0 from by rw [← HAv.out]; unfold keyA; rw [if_neg hmv, if_pos ⟨q4, har⟩])
              have HM := Lib.hid (HSu.out _ H3.out)
              obtain ⟨a1, ha1⟩ : ∃ a1 : Int, a1 = 0 := ⟨_, rfl⟩
              simp only [actV] at HM
              clear q0 q1 q2 q3 q4 hmv HF2 HAv HMv HEd HSu har hka
              go_wp2_with fail
              refine HM.out.mono ?_
              rintro e w5 ⟨rfl, hb5⟩
              have h5 := H3.out.still hb5
              rw [← HE.out] at h5
              have H5 := Lib.hid h5
              clear h5 HM hb5 ha1
              have kb : Blk w5 w.heap.size [.int .i64 0, .int .i64 0, .int .i64 0] 91 := H5.out.rest.head
              have z0 := kb.cell 0
              have z1 := kb.cell 1
              have z2 := kb.cell 2
              have f0 := kb.free 0
              have f1 := kb.free 1
              have f2 := kb.free 2
              simp only [List.getElem?_cons_succ, List.getElem?_cons_zero] at z0 z1 z2
              have h9 := ((H5.out.setB 0 (.int .i64 0)).setB 1 (.int .i64 0)).setB 2 (.int .i64 0)
              have H9 := Lib.hid h9
              clear h9 kb H5
              generalize w.heap.size = r at *
              go_wp2_with fail
              refine bodyPost_ret (res_ac (j := 6) (by rfl) (by rfl) (show Blk _ r [.int .i64 0, .int .i64 0, .int .i64 0] _ from H9.out.rest.head)) rfl ?_
              rw [HA.out]
              exact ⟨rfl, H9.out.tailO⟩
            · have har : ar = true := by rw [← hka]; rfl
              have hkf : keyF ar F key = edK ar F [10] := by unfold keyF; rw [if_neg hmv, if_pos q4, if_pos har]
              have HE := Lib.hid (show F2 = edK ar F [10] from by rw [← HF2.out, hkf])
              have hA0 : av = (if (edK ar F [10]).val ≠ F.val then actV 1 hd 0 else actV 0 0 0) := by rw [← HAv.out]; unfold keyA; rw [if_neg hmv, if_neg (fun q => by rw [har] at q; cases q.2), hkf]
              have HM := Lib.hid (HEd.out [10] (by decide) _ H3.out)
              obtain ⟨a1, a2, a3, hi⟩ := act_is ((edK ar F [10]).val ≠ F.val) 1 hd
              rw [hi] at HM hA0
              have HA := Lib.hid hA0
              simp only [actV] at HM
              clear q0 q1 q2 q3 q4 hmv HF2 HAv hA0 hi HMv HEd HSu har hkf hka
              go_wp2_with fail
              refine HM.out.mono ?_
              rintro e w5 ⟨rfl, h5⟩
              rw [← HE.out] at h5
              have H5 := Lib.hid h5
              clear h5 HM
              have kb : Blk w5 w.heap.size [.int .i64 0, .int .i64 0, .int .i64 0] 91 := H5.out.rest.head
              have z0 := kb.cell 0
              have z1 := kb.cell 1
              have z2 := kb.cell 2
              have f0 := kb.free 0
              have f1 := kb.free 1
              have f2 := kb.free 2
              simp only [List.getElem?_cons_succ, List.getElem?_cons_zero] at z0 z1 z2
              have h9 := ((H5.out.setB 0 (.int .i64 a1)).setB 1 (.int .i64 a2)).setB 2 (.int .i64 a3)
              have H9 := Lib.hid h9
              clear h9 kb H5
              generalize w.heap.size = r at *
              go_wp2_with fail
              refine bodyPost_ret (res_ac (j := 6) (by rfl) (by rfl) (show Blk _ r [.int .i64 a1, .int .i64 a2, .int .i64 a3] _ from H9.out.rest.head)) rfl ?_
              rw [HA.out]
              exact ⟨rfl, H9.out.tailO⟩
          · have b4 : (key == [69, 110, 116, 101, 114]) = false := beqF q4
            have hkf : keyF ar F key = edK ar F key := by unfold keyF; rw [if_neg hmv, if_neg q4]
            have HE := Lib.hid (show F2 = edK ar F key from by rw [← HF2.out, hkf])
            have hA0 : av = (if (edK ar F key).val ≠ F.val then actV 1 hd 0 else actV 0 0 0) := by rw [← HAv.out]; unfold keyA; rw [if_neg hmv, if_neg (fun q => q4 q.1), hkf]
            have HM := Lib.hid (HEd.out key HKl.out _ H3.out)
            obtain ⟨a1, a2, a3, hi⟩ := act_is ((edK ar F key).val ≠ F.val) 1 hd
            rw [hi] at HM hA0
            have HA := Lib.hid hA0
            simp only [actV] at HM
            clear q0 q1 q2 q3 q4 hmv HF2 HAv hA0 hi HMv HEd HSu hkf hka
            go_wp2_with fail
            refine HM.out.mono ?_
            rintro e w5 ⟨rfl, h5⟩
            rw [← HE.out] at h5
            have H5 := Lib.hid h5
            clear h5 HM
            have kb : Blk w5 w.heap.size [.int .i64 0, .int .i64 0, .int .i64 0] 91 := H5.out.rest.head
            have z0 := kb.cell 0
            have z1 := kb.cell 1
            have z2 := kb.cell 2
            have f0 := kb.free 0
            have f1 := kb.free 1
            have f2 := kb.free 2
            simp only [List.getElem?_cons_succ, List.getElem?_cons_zero] at z0 z1 z2
            have h9 := ((H5.out.setB 0 (.int .i64 a1)).setB 1 (.int .i64 a2)).setB 2 (.int .i64 a3)
            have H9 := Lib.hid h9
            clear h9 kb H5
            generalize w.heap.size = r at *
            go_wp2_with fail
            refine bodyPost_ret (res_ac (j := 6) (by rfl) (by rfl) (show Blk _ r [.int .i64 a1, .int .i64 a2, .int .i64 a3] _ from H9.out.rest.head)) rfl ?_
            rw [HA.out]
            exact ⟨rfl, H9.out.tailO⟩
end
end Go.Proofs.YtacdbnhnhdlmpaaGreatDoor.W
end
section
namespace Go.Proofs.YtacdbnhnhdlmpaaGreatDoor.W
section
open Go.ChangeShapes Go.WideShapes Go.ChangeAt Go.RowKit Go.Joins Go.Deep
def InB (w : World) (A : Option Addr) (n : Nat) (f : Nat → Int) : Prop := 0 < n → ∃ b off, A = some ⟨b, off, none⟩ ∧ b < w.heap.size ∧ ∀ j, j < n → w.cell? ⟨b, off + j, none⟩ = some (.int .u8 (f j))
theorem byte_in {x : Int} (h : (Lit.int .u8 x).wf = true) : 0 ≤ x ∧ x ≤ 255 := by
  have := bounds_u8 h
  omega
theorem InB.below {w w' : World} {A : Option Addr} {n : Nat} {f : Nat → Int} (h : InB w A n f) (hb : Below w.heap.size w w') : InB w' A n f := fun hn => by
  obtain ⟨b, off, e, hl, hc⟩ := h hn
  exact ⟨b, off, e, Nat.lt_of_lt_of_le hl hb.size, fun j hj => cell_keep hb (hc j hj)⟩
variable {H : Type} {enc : TypeId × Value → H} {P : Program} {w : World}
theorem open_bytes {r : Reach} {b0 : Nat} {t e : TypeId} {v : Value} {d : DataW H} {ps : List MemPlace} (ht : P.underlying t = some (.slice e)) (he : P.underlying e = some (.int .u8)) (hc : P.cellsOf e = 1)
    (hval : Value.okWide P w r b0 t v) (h : DataW.Trod enc P w 0 (fun _ => true) true t v d ps) :
    ∃ A n c, ∃ f : Nat → Int, v = .slice A n c ∧ n ≤ 9223372036854775807 ∧ InB w A n f ∧ ∀ j, 0 ≤ f j ∧ f j ≤ 255 := by
  obtain ⟨A, n, c, rfl⟩ := okWide_slice ht hval
  obtain ⟨fuel, hf⟩ := h
  rcases open_ints ht he hc hf with ⟨hcs, _⟩ | ⟨a, len, cap, zs, hcs, _, hl, hmx, hzl, _, hcell, hwf⟩
  · simp [Value.cells] at hcs
    obtain ⟨rfl, rfl, rfl⟩ := hcs
    exact ⟨none, 0, 0, fun _ => 0, rfl, Nat.zero_le _, fun h => absurd h (by omega), fun _ => by simp⟩
  · simp [Value.cells] at hcs
    obtain ⟨rfl, rfl, rfl⟩ := hcs
    simp only [if_true] at hzl
    refine ⟨some a, n, c, fun j => zs.getD j 0, rfl, by unfold maxLen at hmx; omega, fun hn => ?_, fun j => byte_in ?_⟩
    · obtain ⟨b, off, rfl, hc⟩ := ints_at hcell (by omega)
      exact ⟨b, off, rfl, World.block_lt_of_cell? _ _ (hc 0 (by omega)), fun j hj => hc j (by omega)⟩
    · show (Lit.int .u8 (zs.getD j 0)).wf = true
      by_cases hj : j < zs.length
      · rw [List.getD_eq_getElem?_getD, List.getElem?_eq_getElem hj]
        exact hwf _ (List.getElem_mem hj)
      · rw [List.getD_eq_getElem?_getD, List.getElem?_eq_none (by omega)]
        decide
end
open Go.RowKit
def sEnterK : List UInt8 := [69, 110, 116, 101, 114]
def keyN : List (List UInt8) := [sBack, sDel, sLeft, sRight, sHome, sEnd, sUndo, sRedo, sEnterK, [97], [98], [195, 169], [97, 98], [32]]
def keyOf (z : Int) : List UInt8 := keyN.getD (z.toNat % 14) []
def keysL (f : Nat → Int) (n : Nat) : List (List UInt8) := (List.range n).map fun j => keyOf (f j)
theorem keysL_succ (f : Nat → Int) (n : Nat) : keysL f (n + 1) = keysL f n ++ [keyOf (f n)] := by unfold keysL; rw [List.range_succ, List.map_append]; rfl
theorem etSt : ET Tryz.prog 34 9 1 16 := ET.mk' (z := .string ⟨#[]⟩) Tryz.underlying34 (by kernel_rfl) rfl (by omega)
set_option maxRecDepth 100000 in
set_option maxHeartbeats 8000000 in
theorem keys_any {w : World} {A : Option Addr} {n c : Nat} {f : Nat → Int} (h : InB w A n f) (hf : ∀ j, 0 ≤ f j ∧ f j ≤ 255) (hn : n ≤ 100) :
    Calls Tryz.prog 48 #[.slice A n c] w fun e w' => ∃ v, e = .returned v ∧ w'.ownsRow w.heap.size 9 1 v n ((keysL f n).map strV) ∧ Below w.heap.size w w' := by
  have HI := Lib.hid (fun wx (hb : Below w.heap.size w wx) => h.below hb)
  have HFb := Lib.hid hf
  clear h hf
  go_enter Tryz.func48, Tryz.ntmps48
  go_wp2_with fail
  have HB0 := Lib.hid ((Below.refl w.heap.size w).alloc (Nat.le_refl _) (.cells (keyN.map strV).toArray 9))
  have HK := Lib.hid (Blk.new w (keyN.map strV) 9)
  generalize hw1 : w.alloc (.cells (keyN.map strV).toArray 9) = w1 at *
  rw [show w.alloc (.cells #[.string ⟨#[66, 97, 99, 107, 115, 112, 97, 99, 101]⟩, .string ⟨#[68, 101, 108, 101, 116, 101]⟩, .string ⟨#[76, 101, 102, 116]⟩, .string ⟨#[82, 105, 103, 104, 116]⟩, .string ⟨#[72, 111, 109, 101]⟩, .string ⟨#[69, 110, 100]⟩, .string ⟨#[85, 110, 100, 111]⟩, .string ⟨#[82, 101, 100, 111]⟩, .string ⟨#[69, 110, 116, 101, 114]⟩, .string ⟨#[97]⟩, .string ⟨#[98]⟩, .string ⟨#[195, 169]⟩, .string ⟨#[97, 98]⟩, .string ⟨#[32]⟩] 9) = w1 from hw1]
  clear hw1
  go_loopw [4, 9] (fun ov iv wr => ∃ k : Nat, k ≤ n ∧ iv = .int .i64 (k : Int) ∧ wr.ownsRow w1.heap.size 9 1 ov k ((keysL f k).map strV) ∧ Below w1.heap.size w1 wr) (fun _ iv _ => n - (intOf iv).toNat)
  case atStart => exact ⟨0, by omega, rfl, World.ownsRow_nil _ _ _ _, Below.refl _ _⟩
  case round =>
    obtain ⟨k, hkn, rfl, hown, hb1⟩ := hrel
    have hb := bthen HB0.out hb1
    obtain ⟨oa, oc, rfl⟩ := own_shapeB hown
    have HO := Lib.hid hown
    have HB := Lib.hid hb
    have HB1 := Lib.hid hb1
    clear hown hb hb1
    by_cases hkl : k < n
    · obtain ⟨gb, off, rfl, hgb, hc⟩ := HI.out _ HB.out (by omega)
      have ck := hc k hkl
      obtain ⟨f0, f1⟩ := HFb.out k
      have hmod : Int.tmod (f k) 14 = (((f k).toNat % 14 : Nat) : Int) := by
        rw [Int.tmod_eq_emod_of_nonneg f0]
        omega
      have hm14 : (f k).toNat % 14 < 14 := Nat.mod_lt _ (by omega)
      have hcell : wr.cell? ⟨w.heap.size, (f k).toNat % 14, none⟩ = some (.string ⟨(keyOf (f k)).toArray⟩) := by
        have := (HK.out.below HB1.out).cell ((f k).toNat % 14)
        rw [this, List.getElem?_map]
        unfold keyOf
        rw [List.getD_eq_getElem?_getD, List.getElem?_eq_getElem (show (f k).toNat % 14 < keyN.length from hm14)]
        rfl
      have HSu := Lib.hid (keysL_succ f k)
      generalize keyOf (f k) = ky at *
      generalize (f k).toNat % 14 = m at *
      clear hc
      have HWx := Lib.hid (own_at (n := 1) (size := 1) (Blk.new wr [strV ky] 9) rfl (by omega))
      have HO2 := Lib.hid (own_keepB HO.out ((Below.refl wr.heap.size wr).alloc (Nat.le_refl _) (.cells #[.string ⟨ky.toArray⟩] 9)))
      have hB3 := bthen HB1.out ((Below.refl wr.heap.size wr).alloc (Nat.le_refl _) (.cells #[.string ⟨ky.toArray⟩] 9))
      have HB3 := Lib.hid hB3
      have hsz := hB3.size
      have hlt4 := fun g (hg : (Value.slice oa k oc).ownBlock = some g) => (HO2.out.lt g hg).1
      clear hB3
      go_wp2_with (at_builtin; refine wpList_append_B etSt HO2.out hsz HWx.out (by intro u hu; simp at hu; subst hu; rfl) (by omega) (by omega) rfl _ _ rfl rfl rfl ?_)
      intro v' w5 ho5 hg5 _
      have HO5 := Lib.hid ho5
      have HB5 := Lib.hid (HB3.out.grown hg5 hsz (fun k hk => hlt4 k hk))
      clear ho5 hg5 hlt4
      go_wp2_with fail
      go_roundw
      case rel =>
        refine ⟨k + 1, by omega, by go_num, ?_, HB5.out⟩
        rw [HSu.out, List.map_append]
        exact HO5.out
      case measure => simp [intOf]; omega
    · obtain rfl : k = n := by omega
      go_wp2_with fail
      go_ret
      exact ⟨_, rfl, own_low HO.out HB0.out.size, HB.out⟩
end Go.Proofs.YtacdbnhnhdlmpaaGreatDoor.W
end
section
namespace Go.Proofs.YtacdbnhnhdlmpaaGreatDoor.W
open Go.RowKit
def FsL (B : Nat) (w0 : World) (Q : Nat) (foc hd : Int) (v : List UInt8) (F : FT) (l1 : List Ob) : Prop := ∀ l w, All B w0 (l1 ++ l) w → FsAt B w0 Q foc hd v l F w
section
variable {B : Nat} {w0 w : World} {Q : Nat} {foc hd : Int} {v : List UInt8} {l : List Ob} {F : FT}
theorem FsAt.lens (h : FsAt B w0 Q foc hd v l F w) : ∃ l1, FsL B w0 Q foc hd v F l1 ∧ All B w0 (l1 ++ l) w := by
  obtain ⟨fa, X, u, r, h1, h2, h3, h4, h5⟩ := h
  rw [← List.append_assoc] at h5
  refine ⟨_, fun l' w' h' => ⟨fa, X, u, r, h1, h2, h3, h4, ?_⟩, h5⟩
  rw [← List.append_assoc]
  exact h'
end
end Go.Proofs.YtacdbnhnhdlmpaaGreatDoor.W
end
section
namespace Go.Proofs.YtacdbnhnhdlmpaaGreatDoor.W
open Go.RowKit
theorem pmC {α : Type} (a : α) (p q m : List α) : (a :: (p ++ (q ++ m))).Perm (p ++ (q ++ a :: m)) := ((List.Perm.append_left p List.perm_middle).trans List.perm_middle).symm
end Go.Proofs.YtacdbnhnhdlmpaaGreatDoor.W
end
