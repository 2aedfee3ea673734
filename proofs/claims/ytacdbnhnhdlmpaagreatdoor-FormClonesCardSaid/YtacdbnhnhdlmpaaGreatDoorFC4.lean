/- Texts joined: LwC. -/
import Derived.Test.YtacdbnhnhdlmpaaGreatDoorFC3
set_option maxRecDepth 100000
set_option maxHeartbeats 40000000
set_option linter.unusedVariables false
set_option linter.unusedSimpArgs false
section
namespace Go.Proofs.YtacdbnhnhdlmpaaGreatDoor.W
open Go.RowKit
theorem pmC {α : Type} (a : α) (p q m : List α) : (a :: (p ++ (q ++ m))).Perm (p ++ (q ++ a :: m)) := ((List.Perm.append_left p List.perm_middle).trans List.perm_middle).symm
theorem clean_zzz : (cleanL true [122, 122, 122]).length ≤ 12 := clean_len true [122, 122, 122]
def bk3 : Nat → FT → FT
  | 0, F => F
  | k + 1, F => (bk3 k F).back
def bkE3 : Nat → RE → RE
  | 0, E => E
  | k + 1, E => (bkE3 k E).back
theorem bk3_ag {N : Nat} {F : FT} {E : RE} (h : Ag N F E) (k : Nat) : Ag N (bk3 k F) (bkE3 k E) := by
  induction k with
  | zero => exact h
  | succ k ih => exact ih.back.1
set_option maxRecDepth 100000 in
set_option maxHeartbeats 40000000 in
theorem clones_any (w : World) (hT : Laid w) (x : List UInt8) (hxs : (⟨x.toArray⟩ : ByteArray).size ≤ 9223372036854775807) (A : Option Addr) (n c : Nat) (f : Nat → OpF) (h : InF w A n f) (hn : n ≤ 9223372036854775807) (hf : ∀ j, (f j).In) (t : Nat) (ht : t ≤ 255) :
    Calls Tryz.prog 7 #[.string ⟨x.toArray⟩, .slice A n c, .int .u8 (t : Int)] w fun e w' => e = .returned (.bool true) ∧ Below w.heap.size w w' := by
  have hL : ∀ wx, Below w.heap.size w wx → Laid wx := fun wx hb => hT.below hb
  have HL := Lib.hid hL
  have HAw := Lib.hid (fun wx (hb : Below w.heap.size w wx) => awake_any wx (hT.below hb))
  have HFw := Lib.hid (fun wx (hb : Below w.heap.size w wx) => few_any x hxs A n c f (h.below hb) hn)
  have HIn := Lib.hid (fun wx (hb : Below w.heap.size w wx) => h.below hb)
  have HOp := Lib.hid hf
  clear h hT hL hf
  go_enter Tryz.func7, Tryz.ntmps7
  go_wp2_with fail
  refine (HAw.out _ (Below.refl _ _)).mono ?_
  rintro e w1 ⟨rfl, hb1⟩
  go_wp2_with fail
  refine (HFw.out _ hb1).mono ?_
  rintro e w2 ⟨b, rfl, hfew, rfl⟩
  cases b with
  | false =>
    go_wp2_with fail
    refine (HAw.out _ hb1).mono ?_
    rintro e w3 ⟨rfl, hb3⟩
    go_wp2_with fail
    go_ret
    exact ⟨rfl, bthen hb1 hb3⟩
  | true =>
  obtain ⟨hx, hn150, hfl⟩ := hfew rfl
  have HFl := Lib.hid hfl
  clear hfew HFw HAw hxs hn hfl
  have HS := Lib.hid (single_any ((All.start w).still hb1) HL.out true x hx)
  go_wp2_with fail
  refine HS.out.mono ?_
  rintro e w3 ⟨R, S, sv, fv, K, d, rfl, hA3, hg⟩
  obtain ⟨kk, hk, hka, hF⟩ : ∃ kk : Nat, (kk = 1 ∨ kk = 2) ∧ decide (kk = 2) = true ∧ FdOk w.heap.size w R (trO R S sv fv) (S.hd 2) kk (fix x) := ⟨2, .inr rfl, rfl, sg_fd true hg⟩
  have hvd : Vd (fix x) := by rw [fix_rfix]; exact rfix_rfix x
  have hvl : (fix x).length ≤ 180 := by have := fix_len3 x; omega
  have hQ0 := hA3.newBkA w3.heap.size rfl [.slice none 0 0, .int .i64 0] 30
  have hQ := FsAt.start hQ0 (S.hd 2) (fix x)
  have HBg := Lib.hid (begun_any (show TAt 0 R S sv fv _ from hQ.rest.head) hg hx)
  clear hg HS hb1 hQ0
  generalize trO R S sv fv = O at *
  generalize S.hd 2 = hd at *
  generalize fix x = dv at *
  have HF := Lib.hid hF
  have HQ := Lib.hid hQ
  clear hA3 hQ hF
  generalize hQe : w3.heap.size = Q at *
  go_wp2_with fail
  refine HBg.out.mono ?_
  rintro e w4 ⟨rfl, hb4⟩
  have hE4 := FeAt.start (HQ.out.still hb4) true ⟨dv, nL dv, nL dv⟩
  have HE4 := Lib.hid hE4
  have HAg := Lib.hid (fun k (hk : k ≤ n) => Ag.ops (Ag.of hvd (show dv.length ≤ 300 by omega)) true f (by omega) k (fun j hj => HFl.out j (by omega)))
  have hdv7 : dv.length ≤ 10000000 := by omega
  clear hE4 hb4 HQ HBg hQe
  simp only [edC, strV] at HE4 ⊢
  have hmod : Int.tmod (t : Int) ((n : Int) + 1) = ((t % (n + 1) : Nat) : Int) := by
    rw [Int.tmod_eq_emod_of_nonneg (by omega)]
    norm_cast
  have hmn : t % (n + 1) ≤ n := by have := Nat.mod_lt t (show 0 < n + 1 by omega); omega
  have hmod2 : (t : Int) % ((n : Int) + 1) = ((t % (n + 1) : Nat) : Int) := by norm_cast
  generalize t % (n + 1) = m at *
  go_wp2_with fail
  generalize w4.heap.size = Z at *
  go_loopw [45] (fun iv wr => ∃ (k : Nat) (L : List (Value × List (Mo × Mo))), k ≤ m ∧ iv = .int .i64 (k : Int) ∧ FeAt w.heap.size w Q Z true 0 hd dv [O] ((FT.of dv).ops true f k) (RE.ops true ⟨⟨dv, nL dv, nL dv⟩, [], []⟩ f k) L wr) (fun iv _ => m - (intOf iv).toNat)
  case atStart => exact ⟨0, _, Nat.zero_le _, rfl, HE4.out⟩
  case round =>
    obtain ⟨k, L, hkm, rfl, hS⟩ := hrel
    have hag := HAg.out k (by omega)
    by_cases hkl : k < m
    · have HnF := Lib.hid (show (FT.of dv).ops true f (k + 1) = ((FT.of dv).ops true f k).op true (f k) from rfl)
      have HnE := Lib.hid (show RE.ops true ⟨⟨dv, nL dv, nL dv⟩, [], []⟩ f (k + 1) = (RE.ops true ⟨⟨dv, nL dv, nL dv⟩, [], []⟩ f k).op true (f k) from rfl)
      generalize (FT.of dv).ops true f k = F at *
      generalize RE.ops true ⟨⟨dv, nL dv, nL dv⟩, [], []⟩ f k = E at *
      have HAc := Lib.hid (act_any hS (by simp) HF.out hk hka hdv7 HL.out hag (by omega) (f k) (HOp.out k) (HFl.out k (by omega)))
      have hbw : Below w.heap.size w wr := hS.below
      obtain ⟨gb, off, rfl, hgb, hc⟩ := HIn.out w (Below.refl _ _) (by omega)
      obtain ⟨q0, q1, q2, q3⟩ := hc k (by omega)
      have q0 := cell_keep hbw q0
      have q1 := cell_keep hbw q1
      have q2 := cell_keep hbw q2
      have q3 := cell_keep hbw q3
      clear hc hag hS hbw
      go_wp2_with fail
      refine HAc.out.mono ?_
      rintro e w6 ⟨rfl, L6, _, h6⟩
      rw [← HnF.out, ← HnE.out] at h6
      have H6 := Lib.hid h6
      clear h6 HAc
      go_wp2_with fail
      go_roundw
      case rel => exact ⟨k + 1, L6, by omega, by go_num, H6.out⟩
      case measure => simp [intOf]; omega
    · obtain rfl : k = m := by omega
      have HnF := Lib.hid (show (FT.of dv).ops true f k = (FT.of dv).ops true f k from rfl)
      obtain ⟨uv, rv, hFs, hu, hr⟩ := hS
      have hfew := hag.few
      have HC1 := Lib.hid (clone_one hFs (by omega))
      have HU := Lib.hid (And.intro hu hr)
      clear hFs hu hr
      go_wp2_with fail
      refine HC1.out.mono ?_
      rintro e w5 ⟨ca, cn, cc, l2, rfl, hC, l1, hl1, hA5⟩
      have hQ5 := hl1 _ _ (hA5.perm (List.perm_append_comm_assoc ..))
      have HC2 := Lib.hid (clone_one hQ5 (by omega))
      have HC := Lib.hid hC
      clear hC hl1 hA5 hQ5 HC1
      go_wp2_with fail
      refine HC2.out.mono ?_
      rintro e w6 ⟨pa, pn, pc, l3, rfl, hP, l1, hl1, hA6⟩
      have hA7 := (hA6.newBkA w6.heap.size rfl [.slice ca cn cc, .int .i64 0] 30).newBkA (w6.heap.size + 1) (by simp) [.slice pa pn pc, .int .i64 0] 30
      obtain ⟨l7, hl7⟩ : ∃ l7, l7 = l1 ++ (l2 ++ bk w6.heap.size [.slice ca cn cc, .int .i64 0] 30 :: (bk Z (edC true (RE.ops true ⟨⟨dv, nL dv, nL dv⟩, [], []⟩ f k) uv rv) 51 :: co L :: [O])) := ⟨_, rfl⟩
      have hP7 := hP (w6.heap.size + 1) l7 _ (by rw [hl7]; exact hA7.perm ((pmC _ _ _ _).cons _ |>.trans (by
        refine List.Perm.cons _ (List.Perm.append_left _ (List.Perm.append_left _ ?_))
        exact List.perm_middle.symm)))
      have hO7 : O ∈ l7 := by rw [hl7]; simp
      have hC7 := HC.out w6.heap.size
      have hcz := clean_zzz
      have hcv := clean_vd true [122, 122, 122]
      have hok := hag.ok
      have HIz := Lib.hid (insert_one hP7 hO7 HF.out hk hdv7 HL.out hok (by omega) [122, 122, 122] (by simp))
      rw [hka] at HIz
      have hagz : Ag (300 + 80 * k + 12) (FT.ins _ (cleanL true [122, 122, 122])) (RE.ins _ (cleanL true [122, 122, 122])) := hag.ins hcv (by omega)
      have HAz := Lib.hid hagz
      have HC7 := Lib.hid hC7
      have HL1 := Lib.hid hl1
      clear hA6 hA7 hP hP7 hC7 hok hagz hl1 hcv hcz HC2 HC
      generalize cleanL true [122, 122, 122] = y at *
      go_wp2_with fail
      generalize w6.heap.size + 1 = P at *
      generalize w6.heap.size = C at *
      refine HIz.out.mono ?_
      rintro e w7 ⟨rfl, h7⟩
      have H7 := Lib.hid h7
      clear h7 HIz
      have HL7 := Lib.hid hl7
      clear hl7
      go_wp2_with fail
      go_loopw [61] (fun iv wr => ∃ j : Nat, j ≤ 3 ∧ iv = .int .i64 (j : Int) ∧ FsAt w.heap.size w P 0 hd dv l7 (bk3 j (FT.ins ((FT.of dv).ops true f k) y)) wr) (fun iv _ => 3 - (intOf iv).toNat)
      case atStart => exact ⟨0, by omega, rfl, H7.out⟩
      case round =>
        obtain ⟨j, hj, rfl, hS⟩ := hrel
        by_cases hjl : j < 3
        · have HUn := Lib.hid (fs_undo hS hO7 HF.out hk HL.out (bk3_ag HAz.out j) (by omega))
          clear hS
          go_wp2_with fail
          refine HUn.out.mono ?_
          rintro e w8 ⟨rfl, h8⟩
          have H8 := Lib.hid h8
          clear h8 HUn
          go_wp2_with fail
          go_roundw
          case rel => exact ⟨j + 1, by omega, by go_num, H8.out⟩
          case measure => simp [intOf]; omega
        · obtain rfl : j = 3 := by omega
          have HDr := Lib.hid (fs_drop hS)
          clear hS
          go_wp2_with fail
          refine HDr.out.mono ?_
          rintro e w8 ⟨rfl, h8⟩
          rw [HL7.out] at h8
          have hC8 : Cl2 w.heap.size w Q C Z hd dv O ((FT.of dv).ops true f k) (RE.ops true ⟨⟨dv, nL dv, nL dv⟩, [], []⟩ f k) w8 := ⟨l1, bk C [.slice ca cn cc, .int .i64 0] 30 :: l2, uv, rv, L, HL1.out, HC7.out, HU.out.1, HU.out.2, h8.perm (List.Perm.append_left _ (List.perm_middle.trans (List.Perm.refl _)))⟩
          have H8 := Lib.hid hC8
          clear h8 hC8 HDr HU HC7 HL1 HAz H7 HL7
          go_wp2_with fail
          go_loopw [15] (fun iv wr => ∃ j : Nat, k ≤ j ∧ j ≤ n ∧ iv = .int .i64 (j : Int) ∧ Cl2 w.heap.size w Q C Z hd dv O ((FT.of dv).ops true f j) (RE.ops true ⟨⟨dv, nL dv, nL dv⟩, [], []⟩ f j) wr) (fun iv _ => n - (intOf iv).toNat)
          case atStart => exact ⟨k, Nat.le_refl _, hmn, rfl, H8.out⟩
          case round =>
            obtain ⟨j, hkj, hjn, rfl, hS⟩ := hrel
            have hagj := HAg.out j hjn
            by_cases hjl : j < n
            · have hag1 := HAg.out (j + 1) (by omega)
              have HnF := Lib.hid (show (FT.of dv).ops true f (j + 1) = ((FT.of dv).ops true f j).op true (f j) from rfl)
              have HnE := Lib.hid (show RE.ops true ⟨⟨dv, nL dv, nL dv⟩, [], []⟩ f (j + 1) = (RE.ops true ⟨⟨dv, nL dv, nL dv⟩, [], []⟩ f j).op true (f j) from rfl)
              generalize hF1 : (FT.of dv).ops true f (j + 1) = F1 at *
              generalize hE1 : RE.ops true ⟨⟨dv, nL dv, nL dv⟩, [], []⟩ f (j + 1) = E1 at *
              have HF1 := Lib.hid hF1
              have HE1 := Lib.hid hE1
              clear hF1 hE1
              generalize (FT.of dv).ops true f j = Fj at *
              generalize RE.ops true ⟨⟨dv, nL dv, nL dv⟩, [], []⟩ f j = Ej at *
              have hbw : Below w.heap.size w wr := hS.below
              obtain ⟨m1, m2, ua, un, uc, ra, rn, rc, Lj, k1, k2, k3, k4, k5, hed⟩ := hS.edc
              have c0 := hed.cell 0
              have c1 := hed.cell 1
              have c2 := hed.cell 2
              have c3 := hed.cell 3
              have c4 := hed.cell 4
              have c5 := hed.cell 5
              simp only [List.getElem?_cons_zero, List.getElem?_cons_succ] at c0 c1 c2 c3 c4 c5
              have hA0 := cl_a k1 k3 k4 k5
              have hb9 := hA0.below
              have HA0 := Lib.hid (act_any hA0 (by simp) HF.out hk hka hdv7 HL.out hagj (by omega) (f j) (HOp.out j) (HFl.out j hjl))
              obtain ⟨gb, off, rfl, hgb, hc⟩ := HIn.out w (Below.refl _ _) (by omega)
              obtain ⟨q0, q1, q2, q3⟩ := hc j hjl
              have HQ0 := Lib.hid (fun wx (hb : Below w.heap.size w wx) => (show _ ∧ _ ∧ _ ∧ _ from ⟨cell_keep hb q0, cell_keep hb q1, cell_keep hb q2, cell_keep hb q3⟩))
              obtain ⟨q0, q1, q2, q3⟩ := HQ0.out _ hb9
              have HK := Lib.hid (And.intro k2 (And.intro k3 k4))
              simp only [edC, strV] at HA0 q0 q1 q2 q3
              clear hc hS hed hA0 hb9 k1 k2 k3 k4 k5 hbw
              go_wp2_with fail
              generalize wr.heap.size = Zx at *
              refine HA0.out.mono ?_
              rintro e w9 ⟨rfl, L9, hs9, h9⟩
              rw [← HnF.out, ← HnE.out] at h9
              obtain ⟨m3, uv9, rv9, r1, r2, r3, h10⟩ := cl_b HK.out.1 HK.out.2.1 HK.out.2.2 hs9 h9
              have HAc := Lib.hid (act_any h10 (by simp) HF.out hk hka hdv7 HL.out hagj (by omega) (f j) (HOp.out j) (HFl.out j hjl))
              rw [← HnF.out, ← HnE.out] at HAc
              obtain ⟨q0, q1, q2, q3⟩ := HQ0.out _ h10.below
              have HR := Lib.hid (And.intro r1 (And.intro r2 r3))
              clear h9 h10 r1 r2 r3 hs9 HA0
              go_wp2_with fail
              refine HAc.out.mono ?_
              rintro e w10 ⟨rfl, L10, hs10, h11⟩
              have hS := cl_c HR.out.1 HR.out.2.1 HR.out.2.2 hs10 h11
              have HS := Lib.hid hS
              obtain ⟨ls, hOs, hFs⟩ := hS.s
              have hfn := hag1.n
              have HVs := Lib.hid (value_one hFs hOs HF.out hk)
              clear hs10 h11 hFs hOs hS HAc HR HK HQ0
              go_wp2_with fail
              refine HVs.out.mono ?_
              rintro e w11 ⟨rfl, hb11⟩
              obtain ⟨lc, hOc, hFc⟩ := (HS.out.still hb11).c
              have HVc := Lib.hid (value_one hFc hOc HF.out hk)
              clear hFc hOc HVs
              go_wp2_with fail
              refine HVc.out.mono ?_
              rintro e w12 ⟨rfl, hb12⟩
              have hS := HS.out.still (bthen hb11 hb12)
              obtain ⟨lc, hOc, hFc⟩ := hS.c
              obtain ⟨m1, m2, ua, un, uc, ra, rn, rc, Lj, _, _, _, _, _, hed⟩ := hS.edc
              rw [hag1.val, hag1.st, hag1.en] at hed
              have c0 := hed.cell 0
              have c1 := hed.cell 1
              have c2 := hed.cell 2
              have c3 := hed.cell 3
              have c4 := hed.cell 4
              have c5 := hed.cell 5
              simp only [List.getElem?_cons_zero, List.getElem?_cons_succ] at c0 c1 c2 c3 c4 c5
              have HSm := Lib.hid (same_one hFc hOc HF.out hk hag1.le hag1.in_ (by omega) true ua ra un uc rn rc)
              have HS2 := Lib.hid hS
              have hvne : (F1.val != F1.val) = false := by simp
              clear hS hFc hOc hed hb11 hb12 HVc HS
              go_wp2_with fail
              refine HSm.out.mono ?_
              rintro e w13 ⟨rfl, hb13⟩
              have HS3 := Lib.hid (HS2.out.still hb13)
              clear hb13 HSm HS2
              go_wp2_with fail
              go_roundw
              case rel =>
                refine ⟨j + 1, by omega, by omega, by go_num, ?_⟩
                rw [HF1.out, HE1.out]
                exact HS3.out
              case measure => simp [intOf]; omega
            · obtain rfl : j = n := by omega
              have HB := Lib.hid hS.below
              clear hS hagj
              go_wp2_with fail
              go_ret
              exact ⟨rfl, HB.out⟩
end Go.Proofs.YtacdbnhnhdlmpaaGreatDoor.W
end
