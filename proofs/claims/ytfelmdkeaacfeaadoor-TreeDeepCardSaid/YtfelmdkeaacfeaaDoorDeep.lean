/- The law TreeDeep, the walk. -/
import Derived.Test.YtfelmdkeaacfeaaDoorDeepL
namespace Go.Proofs.YtfelmdkeaacfeaaDoor.W
open Go.RowKit
set_option linter.unusedVariables false
set_option linter.unusedSimpArgs false

theorem TAt.low {B B' R : Nat} {S : Tr} {sv fv : Value} {w : World} (h : TAt B R S sv fv w) (hb : B' ≤ B) : TAt B' R S sv fv w := by
  refine ⟨h.blk, own_low h.slots hb, own_low h.free hb, fun i n hi => ?_, Nat.le_trans hb h.base, h.few⟩
  obtain ⟨a, cp, e, hx⟩ := h.attrs i n hi
  exact ⟨a, cp, e, hx.imp id fun ⟨g', cur', e1, e2, e3, e4⟩ => ⟨g', cur', e1, Nat.le_trans hb e2, e3, e4⟩⟩
/-- the first loop -/
def D1R (w : World) (R n : Nat) (hv iv : Value) (wr : World) : Prop :=
  ∃ (i : Nat) (S : Tr) (K : Nat → List Nat) (d : Nat → Nat) (p : Nat) (sv : Value), i ≤ n ∧ iv = .int .i64 (i : Int) ∧ hv = .int .i64 (hdl 0 0 p) ∧ S.b = 0 ∧ S.s = 0 ∧ C1 S K d p i ∧ TAt w.heap.size R S sv (.slice none 0 0) wr ∧ Below w.heap.size w wr
/-- the second loop -/
def D2R (w : World) (R m p D N : Nat) (yv iv : Value) (wr : World) : Prop :=
  ∃ (y : Nat) (S : Tr) (K : Nat → List Nat) (d : Nat → Nat) (sv : Value), y - N + 1 ≤ max m 1 ∧ iv = .int .i64 ((y - N + 1 : Nat) : Int) ∧ yv = .int .i64 (hdl 0 0 y) ∧ S.b = 0 ∧ S.s = 0 ∧ C2 S K d p D N y ∧ TAt w.heap.size R S sv (.slice none 0 0) wr ∧ Below w.heap.size w wr
theorem hd0 {S : Tr} (hb : S.b = 0) (hs : S.s = 0) (i : Nat) : S.hd i = hdl 0 0 i := by unfold Tr.hd; rw [hb, hs]

theorem valid_dp {B R g cap : Nat} {S : Tr} {fv : Value} {w : World} {K : Nat → List Nat} {d : Nat → Nat} (hD : Dp S K d) (h : TAt B R S (.slice (some ⟨g, 0, none⟩) S.slots.length cap) fv w) (hlen : S.slots.length ≤ 20000) :
    Calls Tryd.prog 8 #[.pointer (some ⟨R, 0, none⟩)] w fun e w' => e = .returned (.bool true) ∧ Below w.heap.size w w' := by
  obtain ⟨n, hn, hdoc⟩ := hD.doc
  exact valid_ok h hD.lk hD.root hn hdoc.1 (fun i m hi h0 => by rw [(hD.el i m h0 hi).1]; decide) (Nat.le_trans (List.length_filter_le _ _) hlen) (formed_dp hD) (fun p k np nk hk hp hn => hD.may hk hp hn)
set_option maxRecDepth 100000 in
set_option maxHeartbeats 8000000 in
theorem deep_law (n m : Nat) (hn : n ≤ 255) (hm : m ≤ 255) (w : World) : Calls Tryd.prog 3 #[.int .u8 (n : Int), .int .u8 (m : Int)] w fun e w' => e = .returned (.bool true) ∧ Below w.heap.size w w' := by
  go_enter Tryd.func3, Tryd.ntmps3
  go_wp2_with fail
  refine (awake_any w).mono ?_
  rintro e w1 ⟨rfl, hb1⟩
  go_wp2_with fail
  refine (tree_new 0 0 w1).mono ?_
  rintro e w2 ⟨R, sv, rfl, hT2, hb2⟩
  have r5 := hT2.blk.cell 5
  simp only [List.getElem?_cons_succ, List.getElem?_cons_zero] at r5
  have hT2' : TAt w.heap.size R (newT 0 0) sv (.slice none 0 0) w2 := hT2.low hb1.size
  have HB2 := Lib.hid (hb1.trans (hb2.mono hb1.size))
  have HT2 := Lib.hid hT2'
  clear hT2 hT2' hb1 hb2
  go_wp2_with fail
  go_loopw [6, 7] (fun hv iv wr => D1R w R n hv iv wr) (fun _ iv _ => n - (intOf iv).toNat)
  case atStart => exact ⟨0, newT 0 0, _, _, 0, sv, Nat.zero_le _, rfl, rfl, rfl, rfl, start_c1 0 0, HT2.out, HB2.out⟩
  case round =>
    clear r5
    obtain ⟨i, S, K, d, p, sv1, hi, rfl, rfl, hb, hs, hC, hT, hB⟩ := hrel
    by_cases hlt : i < n
    · have hlen := hC.len
      have HM := Lib.hid (make_one hT hC.dp.free (by omega) 98 ltr_b)
      rw [hd0 hb hs, hlen] at HM
      have HT := Lib.hid hT
      have HB := Lib.hid hB
      obtain ⟨a1, a2, a3, a4, a5, a6, a7⟩ := C1.made ltr_b hC (by omega)
      obtain ⟨np, hp⟩ := Option.isSome_iff_exists.1 a2
      have hmay := C1.may ltr_b hC (by omega) hp a7
      have hh1 : (newC 98 S).hd p = hdl 0 0 p := hd0 hb hs p
      have hh2 : (newC 98 S).hd (i + 1) = hdl 0 0 (i + 1 : Nat) := hd0 hb hs (i + 1)
      by_cases h128 : i + 2 ≤ 128
      · have hlk := C1.lk ltr_b hC (by omega) h128
        have HI := Lib.hid (fun g cap wx (hx : TAt w.heap.size R (newC 98 S) (.slice (some ⟨g, 0, none⟩) (newC 98 S).slots.length cap) (.slice none 0 0) wx) => insert_end hx a1.lk p (i + 1) np _ hp a7 a4 a5 hmay (by rw [a3, hgt_leaf a6]; omega) hlk)
        rw [hh1, hh2] at HI
        have HN := Lib.hid (fun S' (hl : Linked (newC 98 S) S' (K p) p (K p).length (i + 1)) => C1.hung ltr_b hC (by omega) h128 hl)
        have d128 : decide ((128 : Int) < (i : Int) + 2) = false := by simp; omega
        have HBS := Lib.hid (show S.b = 0 ∧ S.s = 0 from ⟨hb, hs⟩)
        clear hC hT hB hlen a1 a2 a3 a4 a5 a6 a7 hp hmay hh1 hh2 hlk
        generalize hdl 0 0 p = hp1 at *
        generalize hx1 : hdl 0 0 ((i + 1 : Nat) : Int) = hx at *
        go_wp2_with fail
        refine HM.out.mono ?_
        rintro e w3 ⟨sv2, rfl, hT3, hC3, _⟩
        obtain ⟨g, cap, rfl⟩ := hT3.sl (by rw [snoc_len]; omega)
        have hB3 := chg_low HT.out HB.out hC3
        have HT3 := Lib.hid hT3
        have HB3 := Lib.hid hB3
        clear hT3 hB3 hC3 HM HT HB
        go_wp2_with fail
        refine (HI.out g cap w3 HT3.out).mono ?_
        rintro e w4 ⟨S', v, hlk, rfl, _, hT4, hC4⟩
        have HB4 := Lib.hid (chg_low1 HT3.out HB3.out hC4)
        have HT4 := Lib.hid hT4
        have HL4 := Lib.hid hlk
        clear hT4 hC4 hlk HI HT3 HB3
        go_wp2_with fail
        subst hx1
        exact ⟨⟨i + 1, S', _, _, i + 1, _, by omega, by go_num, rfl, HL4.out.b.trans HBS.out.1, HL4.out.s.trans HBS.out.2, HN.out S' HL4.out, HT4.out, HB4.out⟩, by simp [intOf]; omega⟩
      · have HI := Lib.hid (fun g cap wx (hx : TAt w.heap.size R (newC 98 S) (.slice (some ⟨g, 0, none⟩) (newC 98 S).slots.length cap) (.slice none 0 0) wx) => insert_deep hx a1.lk p (i + 1) np _ hp a7 hmay (by rw [a3, hgt_leaf a6]; omega))
        rw [hh1, hh2] at HI
        have HN := Lib.hid (C1.stay ltr_b hC (by omega) (by omega))
        have d128 : decide ((128 : Int) < (i : Int) + 2) = true := by simp; omega
        have HBS := Lib.hid (show S.b = 0 ∧ S.s = 0 from ⟨hb, hs⟩)
        clear hC hT hB hlen a1 a2 a3 a4 a5 a6 a7 hp hmay hh1 hh2
        generalize hp1e : hdl 0 0 p = hp1 at *
        generalize hdl 0 0 ((i + 1 : Nat) : Int) = hx at *
        go_wp2_with fail
        refine HM.out.mono ?_
        rintro e w3 ⟨sv2, rfl, hT3, hC3, _⟩
        obtain ⟨g, cap, rfl⟩ := hT3.sl (by rw [snoc_len]; omega)
        have hB3 := chg_low HT.out HB.out hC3
        have HT3 := Lib.hid hT3
        have HB3 := Lib.hid hB3
        clear hT3 hB3 hC3 HM HT HB
        go_wp2_with fail
        refine (HI.out g cap w3 HT3.out).mono ?_
        rintro e w4 ⟨rfl, hb4⟩
        have HB4 := Lib.hid (HB3.out.trans (hb4.mono HB3.out.size))
        have HT4 := Lib.hid (HT3.out.below hb4)
        clear hb4 HI HT3 HB3
        go_wp2_with fail
        subst hp1e
        exact ⟨⟨i + 1, newC 98 S, _, _, p, _, by omega, by go_num, rfl, HBS.out.1, HBS.out.2, HN.out, HT4.out, HB4.out⟩, by simp [intOf]; omega⟩
    · obtain rfl : i = n := by omega
      have hlen := hC.len
      have HM := Lib.hid (make_one hT hC.dp.free (by omega) 105 ltr_i)
      rw [hd0 hb hs, hlen] at HM
      have HT := Lib.hid hT
      have HB := Lib.hid hB
      have HC2 := Lib.hid (hC.second (by omega))
      have HBS := Lib.hid (show S.b = 0 ∧ S.s = 0 from ⟨hb, hs⟩)
      have HZ := Lib.hid hC.zero
      clear hC hT hB hlen
      generalize hp1e : hdl 0 0 p = hp1 at *
      generalize hxe : hdl 0 0 ((i + 1 : Nat) : Int) = hx at *
      go_wp2_with fail
      refine HM.out.mono ?_
      rintro e w3 ⟨sv2, rfl, hT3, hC3, _⟩
      have HB3 := Lib.hid (chg_low HT.out HB.out hC3)
      have HT3 := Lib.hid hT3
      clear hT3 hC3 HM HT HB
      go_wp2_with fail
      go_loopw [15, 16] (fun yv iv wr => D2R w R (m % 128) p (min (i + 1) 128) (i + 1) yv iv wr) (fun _ iv _ => 1000 - (intOf iv).toNat)
      case atStart => exact ⟨i + 1, newI S, _, _, sv2, by omega, by simp, by rw [hxe], HBS.out.1, HBS.out.2, HC2.out, HT3.out, HB3.out⟩
      case round =>
        obtain ⟨y, S2, K2, d2, sv3, hy, rfl, rfl, hb2, hs2, hC2, hT2, hB2⟩ := hrel
        have hNy := hC2.Ny
        have hmod : (m : Int) % 128 = ((m % 128 : Nat) : Int) := by omega
        have hm2 : m % 128 < 128 := Nat.mod_lt _ (by omega)
        by_cases hlt2 : y - (i + 1) + 1 < m % 128
        · have dlt : decide (((y - (i + 1) + 1 : Nat) : Int) < (m : Int) % 128) = true := by rw [hmod]; simp; omega
          clear hmod
          have hlen := hC2.len
          have HM := Lib.hid (make_one hT2 hC2.dp.free (by omega) 105 ltr_i)
          rw [hd0 hb2 hs2, hlen] at HM
          have HT := Lib.hid hT2
          have HB := Lib.hid hB2
          obtain ⟨a1, a2, a3, a5, a6, a7⟩ := hC2.made (by omega)
          obtain ⟨np, hp⟩ := Option.isSome_iff_exists.1 a2
          have hmay := hC2.may (by omega) hp a7
          have hh1 : (newI S2).hd y = hdl 0 0 y := hd0 hb2 hs2 y
          have hh2 : (newI S2).hd (y + 1) = hdl 0 0 (y + 1 : Nat) := hd0 hb2 hs2 (y + 1)
          have hlk := hC2.lk (by omega) (by omega)
          have HI := Lib.hid (fun g cap wx (hx : TAt w.heap.size R (newI S2) (.slice (some ⟨g, 0, none⟩) (newI S2).slots.length cap) (.slice none 0 0) wx) => insert_end hx a1.lk y (y + 1) np _ hp a7 (by omega) a5 hmay (by rw [a3, hgt_leaf a6]; omega) hlk)
          rw [hh1, hh2] at HI
          have HN := Lib.hid (fun S' (hl : Linked (newI S2) S' (K2 y) y (K2 y).length (y + 1)) => hC2.hung (by omega) (by omega) hl)
          have HBS2 := Lib.hid (show S2.b = 0 ∧ S2.s = 0 from ⟨hb2, hs2⟩)
          clear hC2 hT2 hB2 hlen a1 a2 a3 a5 a6 a7 hp hmay hh1 hh2 hlk
          generalize hdl 0 0 (y : Int) = hy1 at *
          generalize hx1 : hdl 0 0 ((y + 1 : Nat) : Int) = hy2 at *
          generalize hj : y - (i + 1) + 1 = j at *
          go_wp2_with fail
          refine HM.out.mono ?_
          rintro e w4 ⟨sv4, rfl, hT4, hC4, _⟩
          obtain ⟨g, cap, rfl⟩ := hT4.sl (by rw [snoc_len]; omega)
          have HB4 := Lib.hid (chg_low HT.out HB.out hC4)
          have HT4 := Lib.hid hT4
          clear hT4 hC4 HM HT HB
          go_wp2_with fail
          refine (HI.out g cap w4 HT4.out).mono ?_
          rintro e w5 ⟨S', v, hlk, rfl, _, hT5, hC5⟩
          have HB5 := Lib.hid (chg_low1 HT4.out HB4.out hC5)
          have HT5 := Lib.hid hT5
          have HL5 := Lib.hid hlk
          clear hT5 hC5 hlk HI HT4 HB4
          go_wp2_with fail
          subst hx1
          exact ⟨⟨y + 1, S', _, _, _, by omega, by congr 1; omega, rfl, HL5.out.b.trans HBS2.out.1, HL5.out.s.trans HBS2.out.2, HN.out S' HL5.out, HT5.out, HB5.out⟩, by simp [intOf]; omega⟩
        · have dlt : decide (((y - (i + 1) + 1 : Nat) : Int) < (m : Int) % 128) = false := by rw [hmod]; simp; omega
          have hmx : y - (i + 1) + 1 = max (m % 128) 1 := by omega
          have r5 := hT2.blk.cell 5
          simp only [List.getElem?_cons_succ, List.getElem?_cons_zero] at r5
          rw [hC2.dp.root, hd0 hb2 hs2, show ((0 : Nat) : Int) = 0 from rfl] at r5
          have HT := Lib.hid hT2
          have HB := Lib.hid hB2
          have HC := Lib.hid hC2
          by_cases hi0 : i = 0
          · have hp0 : p = 0 := HZ.out.2 hi0
            subst hp0
            have e1 : (hp1 == hdl 0 0 0) = true := by rw [← hp1e]; simp
            clear hC2 hT2 hB2 hmod hp1e
            go_wp2_with fail
            go_ret
            exact ⟨rfl, HB.out⟩
          · have hp0 : p ≠ 0 := fun e => hi0 (HZ.out.1 e)
            have hlen := hC2.len
            have hpN := hC2.pN
            have e1 : (hp1 == hdl 0 0 0) = false := by
              rw [← hp1e]
              have : hdl 0 0 (p : Int) ≠ hdl 0 0 0 := fun e => hp0 (hdl_inj (j := 0) (by omega) (by omega) e)
              simpa using this
            obtain ⟨np, hp⟩ := Option.isSome_iff_exists.1 hC2.at_
            obtain ⟨nc, hc⟩ := Option.isSome_iff_exists.1 hC2.atN
            have hmay := hC2.fin_may hp hc
            have hh1 : S2.hd p = hp1 := by rw [← hp1e]; exact hd0 hb2 hs2 p
            have hh2 : S2.hd (i + 1) = hx := by rw [← hxe]; exact hd0 hb2 hs2 (i + 1)
            obtain ⟨g, cap, rfl⟩ := hT2.sl (by omega)
            have hhg := hC2.hgt (128 - d2 (i + 1)) (by rw [hC2.top1]; omega)
            have hdp := hC2.dep
            by_cases hfit : min (i + 1) 128 + (y - (i + 1) + 1) ≤ 128
            · have df : decide ((1 : Int) + min (i : Int) 127 + max ((m : Int) % 128) 1 ≤ 128) = true := by rw [hmod]; simp; omega
              have hlk := hC2.fin_lk hfit
              have HI := Lib.hid (insert_end hT2 hC2.dp.lk p (i + 1) np nc hp hc (by omega) hC2.top hmay (by rw [hhg, hdp]; omega) hlk)
              rw [hh1, hh2] at HI
              have HN := Lib.hid (fun S' (hl : Linked S2 S' (K2 p) p (K2 p).length (i + 1)) => hC2.fin hfit hl)
              have hl2 : S2.slots.length ≤ 20000 := by omega
              clear hC2 hT2 hB2 hmod hp1e hxe hp hc hmay hh1 hh2 hhg hlk HC
              go_wp2_with fail
              refine HI.out.mono ?_
              rintro e w5 ⟨S', v, hlk, rfl, _, hT5, hC5⟩
              have HB5 := Lib.hid (chg_low1 HT.out HB.out hC5)
              have HV := Lib.hid (valid_dp (HN.out S' hlk) hT5 (by rw [hlk.len]; exact hl2))
              clear hT5 hC5 hlk HI HN HT HB
              go_wp2_with fail
              refine HV.out.mono ?_
              rintro e w6 ⟨rfl, hb6⟩
              have HB6 := Lib.hid (HB5.out.trans (hb6.mono HB5.out.size))
              clear hb6
              go_wp2_with fail
              go_ret
              exact ⟨rfl, HB6.out⟩
            · have df : decide ((1 : Int) + min (i : Int) 127 + max ((m : Int) % 128) 1 ≤ 128) = false := by rw [hmod]; simp; omega
              have HI := Lib.hid (insert_deep hT2 hC2.dp.lk p (i + 1) np nc hp hc hmay (by rw [hhg, hdp]; omega))
              rw [hh1, hh2] at HI
              have hl2 : S2.slots.length ≤ 20000 := by omega
              clear hC2 hT2 hB2 hmod hp1e hxe hp hc hmay hh1 hh2 hhg
              go_wp2_with fail
              refine HI.out.mono ?_
              rintro e w5 ⟨rfl, hb5⟩
              have HB5 := Lib.hid (HB.out.trans (hb5.mono HB.out.size))
              have HV := Lib.hid (valid_dp HC.out.dp (HT.out.below hb5) hl2)
              clear hb5 HI HT HB
              go_wp2_with fail
              refine HV.out.mono ?_
              rintro e w6 ⟨rfl, hb6⟩
              have HB6 := Lib.hid (HB5.out.trans (hb6.mono HB5.out.size))
              clear hb6
              go_wp2_with fail
              go_ret
              exact ⟨rfl, HB6.out⟩
end Go.Proofs.YtfelmdkeaacfeaaDoor.W
