/- Texts joined: MkE ADr Nod Rpt Rpa. -/
import Derived.Test.YtacdbnhnhdlmpaaGreatDoorFE19
import Derived.BigRegion
import Derived.Test.YtacdbnhnhdlmpaaGreatDoorFE16
set_option maxRecDepth 100000
set_option maxHeartbeats 40000000
set_option linter.unusedVariables false
set_option linter.unusedSimpArgs false
section
namespace Go.Proofs.YtacdbnhnhdlmpaaGreatDoor.W
open Go.RowKit
theorem etT : ET Tryz.prog 81 85 2 32 := ET.mk' (z := .agg #[.string ⟨#[]⟩, .string ⟨#[]⟩]) Tryz.underlying81 (by kernel_rfl) rfl (by omega)
def tC (name : List UInt8) (av : Value) : List Value := [.int .i64 2, .string ⟨name.toArray⟩, av, .string ⟨#[]⟩, .int .i64 0, .int .i64 0, .int .i64 0, .int .i64 0, .int .i64 0]
def MkL (w : World) (r : Nat) (name : List UInt8) (al : List Atr) (iv : Value) (wr : World) : Prop :=
  ∃ (i : Nat) (sa : Option Addr) (sl' sc : Nat), i ≤ al.length ∧ sl' = i ∧ iv = .int .i64 (i : Int) ∧ Blk wr r (tC name (.slice sa sl' sc)) 135 ∧ wr.ownsRow w.heap.size 85 2 (.slice sa sl' sc) sl' (attrC ((al.take i).map fun a => (a.1, fix a.2))) ∧ Below w.heap.size w wr
set_option maxRecDepth 100000 in
set_option maxHeartbeats 16000000 in
theorem mkT_el {B R : Nat} {S : Tr} {sv fv : Value} {w : World} (h : TAt B R S sv fv w) (hT : Laid w) (hfr : ∀ i ∈ S.free, S.slots[i]? = some none) (hfl : S.free.length ≤ 1000000) (hl : S.slots.length < 20000) (name data : List UInt8) (hn : name.length ≤ 1000) (v : Value) (al : List Atr) (hv : Own w 85 2 v al.length (attrC al)) (hal : al.length ≤ 100) (has : ∀ a ∈ al, a.1.length ≤ 1000 ∧ a.2.length ≤ 1000) :
    Calls Tryz.prog 56 #[.pointer (some ⟨R, 0, none⟩), .int .i64 2, .string ⟨name.toArray⟩, .string ⟨data.toArray⟩, v] w (MakTR B R S sv fv w 2 name data al) := by
  have HRp := Lib.hid (fun (a : Atr) (ha : a ∈ al) wx (hb : Below w.heap.size w wx) => repair_any a.2 wx (by have := (has a ha).2; omega) (hT.below hb))
  have HEl := Lib.hid (fun wx (hb : Below w.heap.size w wx) => elementName_b name (by omega) wx (hT.below hb))
  have HAt := Lib.hid (fun wx (hb : Below w.heap.size w wx) => attrs_any al hal has v wx (hT.below hb) (own_belowM hv hb))
  have HLn := Lib.hid (show ∀ a ∈ (al.map fun a => (a.1, fix a.2)), a.2.length ≤ 1048576 from fun a ha => by
    obtain ⟨b, hb, rfl⟩ := List.mem_map.1 ha
    have := (has b hb).2
    have := fix_len b.2
    show (fix b.2).length ≤ _
    omega)
  have HTt := Lib.hid h
  have hlv : S.live ≤ S.slots.length := List.length_filter_le _ _
  have hlt := h.blk.lt
  have hbs : B ≤ w.heap.size := by have := h.base; omega
  have HA := Lib.hid (fun w9 (hb : Below w.heap.size w w9) (n : Nd) (hn : AttrAt B w9 n.av n.attrs) => add_any (h.below hb) hfr hfl (by omega) n hn)
  have HMa := Lib.hid (fun (c : (elmB name && namesB al) = false) => MakT.arg (W := w.heap.size) (S := S) (data := data) (rfl : (2 : Int) = 2) c)
  have HMm := Lib.hid (fun (c : (elmB name && namesB al) = true) (h2 : 64 < al.length) => MakT.many (W := w.heap.size) (S := S) (data := data) (rfl : (2 : Int) = 2) c h2)
  have HMe := Lib.hid (fun (av : Value) (c : (elmB name && namesB al) = true) (h2 : al.length ≤ 64) (hf : ∀ k, av.ownBlock = some k → w.heap.size ≤ k) => MakT.el (S := S) (data := data) av (rfl : (2 : Int) = 2) c h2 hf)
  obtain ⟨va0, vc0, rfl⟩ := own_shape hv
  have HVc := Lib.hid (fun (j : Nat) (y : Atr) (hy : al[j]? = some y) wx (hb : Below w.heap.size w wx) => (show ∃ ga, va0 = some ⟨ga, 0, none⟩ ∧ ga < w.heap.size ∧ wx.cell? ⟨ga, j * 2, none⟩ = some (.string ⟨y.1.toArray⟩) ∧ wx.cell? ⟨ga, j * 2 + 1, none⟩ = some (.string ⟨y.2.toArray⟩) from by
    have hl := (List.getElem?_eq_some_iff.1 hy).1
    obtain ⟨ga, hga⟩ : ∃ g, va0 = some ⟨g, 0, none⟩ := by
      rcases hv.2 with ⟨e, e2⟩ | ⟨g, cap, cur, e, _⟩
      · omega
      · simp only [Value.slice.injEq] at e; exact ⟨g, e.1⟩
    subst hga
    have ho := own_belowM hv hb
    have h1 := own_news ho (2 * j) _ (attrC_at al j y hy).1
    have h2 := own_news ho (2 * j + 1) _ (attrC_at al j y hy).2
    rw [Go.WideShapes.add_plain, Nat.zero_add] at h1 h2
    exact ⟨ga, rfl, own_lt hv rfl, by rw [Nat.mul_comm]; exact h1, by rw [Nat.mul_comm j]; exact h2⟩))
  clear h hT hfr hfl hv has
  go_enter Tryz.func56, Tryz.ntmps56
  go_wp2_with fail
  have k1 := Blk.new w (tC [] (.slice none 0 0)) 135
  have hb1 := (Below.refl w.heap.size w).alloc (Nat.le_refl _) (.cells (tC [] (.slice none 0 0)).toArray 135)
  refine (HEl.out _ hb1).mono ?_
  rintro e w2 ⟨rfl, hb2⟩
  have HB2 := Lib.hid (bthen hb1 hb2)
  have HK2 := Lib.hid (Blk.below k1 hb2)
  clear k1 hb1 hb2
  cases hel : elmB name
  · go_wp2_with fail
    go_ret2
    exact MakTR.same HTt.out HB2.out (HMa.out (by rw [hel]; rfl))
  have HEx := Lib.hid hel
  clear hel HEl
  go_wp2_with fail
  refine (HAt.out _ HB2.out).mono ?_
  rintro e w3 ⟨rfl, hb3⟩
  have HB3 := Lib.hid (bthen HB2.out hb3)
  have HK3 := Lib.hid (HK2.out.below hb3)
  clear hb3 HB2 HK2
  cases hnm : namesB al
  · go_wp2_with fail
    go_ret2
    exact MakTR.same HTt.out HB3.out (HMa.out (by rw [hnm, Bool.and_false]))
  have HYes := Lib.hid (show (elmB name && namesB al) = true by rw [HEx.out, hnm]; rfl)
  clear hnm HAt HMa
  have c1 := HK3.out.cell 1
  have f1 := HK3.out.free 1
  simp only [tC, List.getElem?_cons_succ, List.getElem?_cons_zero] at c1
  have HK4 := Lib.hid (show Blk (w3.setCell ⟨w.heap.size, 1, none⟩ (.string ⟨name.toArray⟩)) w.heap.size (tC name (.slice none 0 0)) 135 from HK3.out.set 1 (.string ⟨name.toArray⟩))
  have HB4 := Lib.hid (HB3.out.setCell (p := ⟨w.heap.size, 1, none⟩) (Nat.le_refl _) (.string ⟨name.toArray⟩))
  go_upto_region 8 with fail
  clear c1 f1 HK3 HB3
  generalize w3.setCell ⟨w.heap.size, 1, none⟩ (.string ⟨name.toArray⟩) = w4 at *
  go_wp2_with fail
  go_loopw [32] (fun iv wr => MkL w w.heap.size name al iv wr) (fun iv _ => al.length - intN iv)
  case atStart => exact ⟨0, none, 0, 0, by omega, rfl, rfl, HK4.out, World.ownsRow_nil _ _ _ _, HB4.out⟩
  case round =>
    obtain ⟨i, sa, sl', sc, hi, hsl, rfl, hkr, hown, hbr⟩ := hrel
    have HKr := Lib.hid hkr
    have HOr := Lib.hid hown
    have HBr := Lib.hid hbr
    have HSl := Lib.hid hsl
    have hsl2 : sl' ≤ 100 := by omega
    clear hkr hown hbr hsl HB4 HK4
    by_cases hil : i < al.length
    · obtain ⟨y, hy⟩ : ∃ y, al[i]? = some y := ⟨_, List.getElem?_eq_getElem hil⟩
      have hym := List.mem_of_getElem? hy
      obtain ⟨ga, rfl, hga, cn, cv⟩ := HVc.out i y hy _ HBr.out
      have HY := Lib.hid hy
      have HYm := Lib.hid hym
      have hil2 : (i : Int) < (al.length : Int) := by omega
      clear hy hym
      have hW1 : Below wr.heap.size wr (wr.alloc (.cells #[.string ⟨y.1.toArray⟩, .string ⟨y.2.toArray⟩] 85)) := (Below.refl _ _).alloc (Nat.le_refl _) _
      have kb := Blk.new wr [.string ⟨y.1.toArray⟩, .string ⟨y.2.toArray⟩] 85
      have kr1 := HKr.out.below hW1
      have hsz := HBr.out.size
      have ho1 := own_keepB HOr.out hW1
      have hb1 := bthen HBr.out hW1
      have hbr : w.heap.size ≠ wr.heap.size := by have := HKr.out.lt; omega
      go_upto_region 11 with fail
      generalize wr.alloc (.cells #[.string ⟨y.1.toArray⟩, .string ⟨y.2.toArray⟩] 85) = W1 at *
      have q2 := kr1.cell 2
      have qf := kr1.free 2
      have b0 := kb.cell 0
      have b1 := kb.cell 1
      simp only [tC, List.getElem?_cons_succ, List.getElem?_cons_zero] at q2 b0 b1
      have hrl := kr1.lt
      have hbl := kb.lt
      have HKb := Lib.hid kb
      have HK1 := Lib.hid kr1
      have HO1 := Lib.hid ho1
      have HB1 := Lib.hid hb1
      clear kb kr1 ho1 hb1 hW1 cn cv HKr HOr HBr
      have hne : ∀ b, (Value.slice sa sl' sc).ownBlock = some b → b ≠ w.heap.size := fun b hb e => by
        obtain ⟨cur, hcur⟩ := own_blk (show Own W1 _ _ _ _ _ from own_low HO1.out (Nat.zero_le _)) hb
        subst e
        exact blk_ne hcur HK1.out (by decide) rfl
      go_region_law (first
        | (go_simp; go_at_call 89; refine (HRp.out y HYm.out _ HB1.out.drew).mono ?_; rintro e w6 ⟨rfl, hb6⟩;
            have hB6 : Below W1.heap.size W1 w6 := ((Below.refl _ W1).drew).trans (hb6.mono (Nat.le_refl _));
            have q26 : w6.cell? ⟨w.heap.size, 2, none⟩ = some (.slice sa sl' sc) := (HK1.out.below hB6).cell 2; have qf6 : w6.frozen? ⟨w.heap.size, 2, none⟩ = false := (HK1.out.below hB6).free 2;
            have b06 : w6.cell? ⟨wr.heap.size, 0, none⟩ = some (.string ⟨y.1.toArray⟩) := (HKb.out.below hB6).cell 0; have b16 : w6.cell? ⟨wr.heap.size, 1, none⟩ = some (.string ⟨y.2.toArray⟩) := (HKb.out.below hB6).cell 1;
            have hrl6 := (HK1.out.below hB6).lt; have hbl6 := (HKb.out.below hB6).lt; have HB6 := Lib.hid hB6; clear hb6 hB6)
        | (refine step_append_B etT (own_keepB HO1.out (HB6.out.alloc HB6.out.size _)) (by have := HB1.out.size; have := HB6.out.size; simp; omega) (own_at (n := 1) (size := 2) (Blk.new w6 [.string ⟨y.1.toArray⟩, .string ⟨(fix y.2).toArray⟩] 85) rfl (by omega)) (attrC_one' _ _) (by omega) (by omega) (by rfl) _ _ (by rfl) (by rfl) (by rfl) ?_; intro v' w7 ho hgr hvb;
            obtain ⟨va, vc, rfl⟩ := own_shapeB ho; have kr7 := ((HK1.out.below HB6.out).alloc (.cells #[.string ⟨y.1.toArray⟩, .string ⟨(fix y.2).toArray⟩] 85)).kept (hgr.block w.heap.size (by have := hrl6; simp; omega) (fun e => hne _ e.symm rfl)); have e2 : w7.cell? ⟨w.heap.size, 2, none⟩ = some (.slice sa sl' sc) := kr7.cell 2; have ef : w7.frozen? ⟨w.heap.size, 2, none⟩ = false := kr7.free 2;
            have HK7 := Lib.hid kr7; have HO7 := Lib.hid ho; have HG7 := Lib.hid hgr; clear ho hgr hvb kr7))
      all_goals
        have hb6w : Below w.heap.size w w6 := HB1.out.trans (HB6.out.mono HB1.out.size)
        have hb7 : Below w.heap.size w w7 := (hb6w.alloc hb6w.size _).grown HG7.out (by have := hb6w.size; simp; omega) (fun b hb => (HO1.out.lt b hb).1)
        have hk8 := HK7.out.set 2 (.slice va (sl' + 1) vc)
        have ho8 := own_kB HO7.out (w' := w7.setCell ⟨w.heap.size, 2, none⟩ (.slice va (sl' + 1) vc)) (fun b hb => Below.heap_setCell _ _ _ _ (fun e => by
          obtain ⟨cur, hcur⟩ := own_blk (show Own w7 _ _ _ _ _ from own_low HO7.out (Nat.zero_le _)) hb
          rw [show b = w.heap.size from e] at hcur
          exact blk_ne hcur HK7.out (by decide) rfl))
        have hb8 := hb7.setCell (p := ⟨w.heap.size, 2, none⟩) (Nat.le_refl w.heap.size) (.slice va (sl' + 1) vc)
        have HK8 := Lib.hid hk8
        have HO8 := Lib.hid ho8
        have HB8 := Lib.hid hb8
        have HM := Lib.hid (attrC_map al i y HY.out (fun a => (a.1, fix a.2)))
        clear hb6w hb7 hk8 ho8 hb8 e2 ef
        go_wp2_with fail
        exact ⟨⟨i + 1, va, sl' + 1, vc, by omega, by have := HSl.out; omega, by first | rfl | simp, HK8.out, by rw [HM.out]; exact HO8.out, HB8.out⟩, by simp only [intN]; omega⟩
    · obtain rfl : i = al.length := by omega
      rw [List.take_length] at HOr
      have hsl3 := HSl.out
      subst hsl3
      have hat : AttrAt B wr (.slice sa al.length sc) (al.map fun a => (a.1, fix a.2)) := attr_of_own (by rw [List.length_map]; exact HOr.out) hbs
      have HCn := Lib.hid (contains_lng hat (by rw [List.length_map]; omega) HLn.out)
      have HAa := Lib.hid (fun w9 (hb : Below wr.heap.size wr w9) => HA.out w9 (bthen HBr.out hb) (mkN 2 name (.slice sa al.length sc) (al.map fun a => (a.1, fix a.2)) []) (attr_of_own (B' := w.heap.size) (by simp only [mkN]; rw [List.length_map]; exact own_keepB HOr.out hb) hbs))
      have HMo := Lib.hid (fun h2 => HMe.out (.slice sa al.length sc) HYes.out h2 (fun k hk => (HOr.out.lt k hk).1))
      clear hat
      have hT3 := HTt.out.below HBr.out
      have HL := Lib.hid (len_any hT3)
      have x2 := HKr.out.cell 2
      have x3 := HKr.out.cell 3
      simp only [tC, List.getElem?_cons_succ, List.getElem?_cons_zero] at x2 x3
      have zR := hT3.blk.free
      clear hT3
      have d1 : decide ((20000 : Int) ≤ (S.live : Int)) = false := by simp; omega
      go_wp2_with fail
      refine HL.out.mono ?_
      rintro e w5 ⟨rfl, hw⟩
      rw [hw]
      clear hw
      by_cases h64 : 64 < al.length
      · have HMx := Lib.hid (HMm.out HYes.out h64)
        have d2 : decide ((64 : Int) < (al.length : Int)) = true := by simp; omega
        clear HMm HMe HMo h64
        go_wp2_with fail
        go_ret2
        exact MakTR.same HTt.out HBr.out HMx.out
      have HMx := Lib.hid (HMo.out (by omega))
      have d2 : decide ((64 : Int) < (al.length : Int)) = false := by simp; omega
      clear HMm HMe HMo h64
      go_wp2_with fail
      refine (long_any ⟨#[]⟩ (by show 0 ≤ _; omega) _).mono ?_
      rintro e w6 ⟨rfl, hw⟩
      rw [hw, show decide (1048576 < (⟨#[]⟩ : ByteArray).size) = false from rfl]
      clear hw
      go_wp2_with fail
      refine HCn.out.mono ?_
      rintro e w7 ⟨rfl, hw7⟩
      have HK7 := Lib.hid (HKr.out.below hw7)
      have HW7 := Lib.hid hw7
      clear d1 d2 x2 x3 hw7 HCn
      go_upto_region 18 with fail
      have hne := stb_ne w7
      have hgl := HK7.out.lt
      have xs := fun (x : InS (StB w7)) => HK7.out.below x.h
      simp only [tC] at xs
      have z0 := fun x => (xs x).cell 0
      have z1 := fun x => (xs x).cell 1
      have z2 := fun x => (xs x).cell 2
      have z3 := fun x => (xs x).cell 3
      have z4 := fun x => (xs x).cell 4
      have z5 := fun x => (xs x).cell 5
      have z6 := fun x => (xs x).cell 6
      have z7 := fun x => (xs x).cell 7
      have z8 := fun x => (xs x).cell 8
      simp only [List.getElem?_cons_succ, List.getElem?_cons_zero] at z0 z1 z2 z3 z4 z5 z6 z7 z8
      clear xs
      refine reg_b (fun _ => undef) 4 (by kernel_rfl) (by kernel_rfl) ?_
      simp only [List.take_succ_cons, List.take_zero, List.drop_succ_cons, List.drop_zero]
      repeat (first
        | (refine m_held (by rfl) (by rfl) (fun K hK => ?_); go_big_quiet_step (fail); refine wpQuiet_nil ?_; refine hK.out _ ?_; clear hK K)
        | (refine m_skip (by rfl) ?_; simp only [Act.put, List.setIfInBounds_toArray, List.set_cons_zero, List.set_cons_succ]))
      refine m_nil ?_
      intro w8 h8
      clear z0 z1 z2 z3 z4 z5 z6 z7 z8 hne
      go_wp2_with fail
      have h8' : Below wr.heap.size wr w8 := bthen HW7.out h8
      refine (HAa.out _ h8').mono ?_
      rintro e w9 ⟨sv', fv', rfl, hT9, hC9, hsv, hfv⟩
      have H9 := Lib.hid hT9
      have HC := Lib.hid hC9
      have HS := Lib.hid hsv
      have HV9 := Lib.hid hfv
      have H8 := Lib.hid (bthen HBr.out h8')
      clear hT9 hC9 hsv hfv h8' h8
      go_wp2_with fail
      go_ret2
      refine ⟨_, sv', fv', _, 0, HMx.out, rfl, H9.out, (Chg.of_below H8.out).trans HC.out (fun _ _ h => h), ?_, HV9.out⟩
      rcases HS.out with e | ⟨k, e, hk⟩
      · exact .inl e
      · exact .inr ⟨k, e, Nat.le_trans H8.out.size hk⟩

def zeroN : Nd := ⟨0, [], .slice none 0 0, [], [], 0, 0, 0, 0, 0⟩
theorem res_nd {fn : Func} (h : fn.results = #[.cell 4 135, .tmp 5]) {tmps : Array Value} {w : World} {r : Nat} {n : Nd} (hp : tmps.getD 4 undef = .pointer (some ⟨r, 0, none⟩)) (hk : Blk w r (ndC n) 135) :
    (results fn tmps).run Tryz.prog w = .ok (.tuple #[.agg (ndC n).toArray, tmps.getD 5 undef]) w := by
  have c0 := hk.cell 0
  have c1 := hk.cell 1
  have c2 := hk.cell 2
  have c3 := hk.cell 3
  have c4 := hk.cell 4
  have c5 := hk.cell 5
  have c6 := hk.cell 6
  have c7 := hk.cell 7
  have c8 := hk.cell 8
  simp only [ndC, List.getElem?_cons_succ, List.getElem?_cons_zero] at c0 c1 c2 c3 c4 c5 c6 c7 c8
  rw [Array.getD_eq_getD_getElem?] at hp
  simp [results, h, hp, go_sem, ndC, c0, c1, c2, c3, c4, c5, c6, c7, c8]
theorem Blk.over {w : World} {r : Nat} {a : List Value} (n : Nd) (k : Blk w r a 135) (ha : a.length = 9) :
    Blk (((((((((w.setCell ⟨r, 0, none⟩ (.int .i64 n.kind)).setCell ⟨r, 1, none⟩ (strV n.name)).setCell ⟨r, 2, none⟩ n.av).setCell ⟨r, 3, none⟩ (strV n.data)).setCell ⟨r, 4, none⟩ (.int .i64 n.parent)).setCell ⟨r, 5, none⟩ (.int .i64 n.first)).setCell ⟨r, 6, none⟩ (.int .i64 n.last)).setCell ⟨r, 7, none⟩ (.int .i64 n.prev)).setCell ⟨r, 8, none⟩ (.int .i64 n.next)) r (ndC n) 135 := by
  have h9 := ((((((((k.set 0 (.int .i64 n.kind)).set 1 (strV n.name)).set 2 n.av).set 3 (strV n.data)).set 4 (.int .i64 n.parent)).set 5 (.int .i64 n.first)).set 6 (.int .i64 n.last)).set 7 (.int .i64 n.prev)).set 8 (.int .i64 n.next)
  match a, ha with
  | [_, _, _, _, _, _, _, _, _], _ => simpa [ndC] using h9
theorem Below.over {B : Nat} {w0 w : World} {r : Nat} (n : Nd) (h : Below B w0 w) (hr : B ≤ r) :
    Below B w0 (((((((((w.setCell ⟨r, 0, none⟩ (.int .i64 n.kind)).setCell ⟨r, 1, none⟩ (strV n.name)).setCell ⟨r, 2, none⟩ n.av).setCell ⟨r, 3, none⟩ (strV n.data)).setCell ⟨r, 4, none⟩ (.int .i64 n.parent)).setCell ⟨r, 5, none⟩ (.int .i64 n.first)).setCell ⟨r, 6, none⟩ (.int .i64 n.last)).setCell ⟨r, 7, none⟩ (.int .i64 n.prev)).setCell ⟨r, 8, none⟩ (.int .i64 n.next)) :=
  (((((((((h.setCell (p := ⟨r, 0, none⟩) hr _).setCell (p := ⟨r, 1, none⟩) hr _).setCell (p := ⟨r, 2, none⟩) hr _).setCell (p := ⟨r, 3, none⟩) hr _).setCell (p := ⟨r, 4, none⟩) hr _).setCell (p := ⟨r, 5, none⟩) hr _).setCell (p := ⟨r, 6, none⟩) hr _).setCell (p := ⟨r, 7, none⟩) hr _).setCell (p := ⟨r, 8, none⟩) hr _)
theorem get_some {B R g cap : Nat} {S : Tr} {fv : Value} {w : World} (h : TAt B R S (.slice (some ⟨g, 0, none⟩) S.slots.length cap) fv w) (hd : Int) (hh : HOk hd) {k : Nat} (hk : S.ix hd = some k) {n : Nd} (hn : S.slots[k]? = some (some n)) :
    Calls Tryz.prog 125 #[.pointer (some ⟨R, 0, none⟩), .int .i64 hd] w fun e w' => e = .returned (.tuple #[.agg (ndC n).toArray, .bool true]) ∧ Below w.heap.size w w' := by
  obtain ⟨nk, nn, nav, nal, nda, np, nf, nl, npv, nx⟩ := n
  obtain ⟨av, acap, hav, _⟩ := h.attrs k _ hn
  simp only [] at hav
  subst hav
  have HF := Lib.hid (fun wx (hb : Below w.heap.size w wx) => find_some (h.below hb) hd hh hk)
  have HT := Lib.hid h
  have hgl := (h.slots.lt g rfl).2
  obtain ⟨_, hkl, _⟩ := ix_some hk
  have HN := Lib.hid hn
  clear h hk hn
  have hb1 := (Below.refl w.heap.size w).alloc (Nat.le_refl _) (.cells (ndC zeroN).toArray 135)
  have k1 := Blk.new w (ndC zeroN) 135
  go_enter Tryz.func125, Tryz.ntmps125
  go_wp2_with fail
  refine (HF.out _ hb1).mono ?_
  rintro e w2 ⟨rfl, hb2⟩
  have k2 := Blk.below k1 hb2
  have HB2 := Lib.hid (bthen hb1 hb2)
  have hT2 := HT.out.below HB2.out
  have s1 := slot_cell hT2 HN.out 1 (by omega)
  have s2 := slot_cell hT2 HN.out 2 (by omega)
  have s3 := slot_cell hT2 HN.out 3 (by omega)
  have s4 := slot_cell hT2 HN.out 4 (by omega)
  have s5 := slot_cell hT2 HN.out 5 (by omega)
  have s6 := slot_cell hT2 HN.out 6 (by omega)
  have s7 := slot_cell hT2 HN.out 7 (by omega)
  have s8 := slot_cell hT2 HN.out 8 (by omega)
  have s9 := slot_cell hT2 HN.out 9 (by omega)
  simp only [slotC, ndC, strV, List.getElem?_cons_succ, List.getElem?_cons_zero] at s1 s2 s3 s4 s5 s6 s7 s8 s9
  simp only [ndC, zeroN, strV] at k2 ⊢
  have c0 := k2.cell 0
  have c1 := k2.cell 1
  have c2 := k2.cell 2
  have c3 := k2.cell 3
  have c4 := k2.cell 4
  have c5 := k2.cell 5
  have c6 := k2.cell 6
  have c7 := k2.cell 7
  have c8 := k2.cell 8
  have cf := k2.free
  simp only [List.getElem?_cons_succ, List.getElem?_cons_zero] at c0 c1 c2 c3 c4 c5 c6 c7 c8
  have hlt := k2.lt
  have hne : g ≠ w.heap.size := by omega
  have hg2 := (hT2.slots.lt g rfl).2
  clear k1 hb1 hb2 HF hT2
  go_wp2_with fail
  have k9 := Blk.over ⟨nk, nn, .slice av nal.length acap, nal, nda, np, nf, nl, npv, nx⟩ k2 rfl
  have b9 := Below.over ⟨nk, nn, .slice av nal.length acap, nal, nda, np, nf, nl, npv, nx⟩ HB2.out (Nat.le_refl w.heap.size)
  exact bodyPost_ret (res_nd (by rfl) (by rfl) k9) rfl ⟨rfl, b9⟩
theorem attr_below {B : Nat} {w w' : World} {v : Value} {l : List Atr} (h : AttrAt B w v l) (hb : Below w.heap.size w w') : AttrAt B w' v l := by
  obtain ⟨a, c, e, h'⟩ := h
  refine ⟨a, c, e, h'.imp id ?_⟩
  rintro ⟨b, cur, e2, hB, hg, hc⟩
  exact ⟨b, cur, e2, hB, (hb.block b (lt_of_block hg)).trans hg, hc⟩
set_option maxRecDepth 100000 in
set_option maxHeartbeats 4000000 in
theorem node_x {B R : Nat} {w : World} (n : Nd) (b : Bool) (hd : Int) (HG : ∀ wx, Below w.heap.size w wx → Calls Tryz.prog 125 #[.pointer (some ⟨R, 0, none⟩), .int .i64 hd] wx fun e w' => e = .returned (.tuple #[.agg (ndC n).toArray, .bool b]) ∧ Below wx.heap.size wx w')
    (ha : AttrAt B w n.av n.attrs) (hl : n.attrs.length ≤ 1000) (hz : ∀ j, w.frozen? ⟨R, j, none⟩ = false) (hR : R < w.heap.size) :
    Calls Tryz.prog 79 #[.pointer (some ⟨R, 0, none⟩), .int .i64 hd] w fun e w' => ∃ v', e = .returned (.tuple #[.agg (ndC { n with av := v' }).toArray, .bool b]) ∧ w'.ownsRow w.heap.size 85 2 v' n.attrs.length (attrC n.attrs) ∧ Below w.heap.size w w' := by
  obtain ⟨nk, nn, nav, nal, nda, np, nf, nl, npv, nx⟩ := n
  obtain ⟨av, acap, hav, _⟩ := id ha
  simp only [] at hav
  subst hav
  have HGe := Lib.hid HG
  have HA := Lib.hid (fun wx (hb : Below w.heap.size w wx) => (show Calls Tryz.prog 92 #[.slice av nal.length acap] wx _ from clone_attr (attr_below ha hb) hl))
  clear HG ha
  have hb1 := (Below.refl w.heap.size w).alloc (Nat.le_refl _) (.cells (ndC zeroN).toArray 135)
  have k1 := Blk.new w (ndC zeroN) 135
  go_enter Tryz.func79, Tryz.ntmps79
  go_wp2_with fail
  refine (HGe.out _ hb1).mono ?_
  rintro e w2 ⟨rfl, hb2⟩
  simp only [ndC, zeroN, strV] at k1 ⊢
  have k2 := Blk.below k1 hb2
  have hb02 := bthen hb1 hb2
  have k3 := k2.alloc (.cells #[.int .i64 nk, .string ⟨nn.toArray⟩, .slice av nal.length acap, .string ⟨nda.toArray⟩, .int .i64 np, .int .i64 nf, .int .i64 nl, .int .i64 npv, .int .i64 nx] 135)
  have kn := Blk.new w2 [.int .i64 nk, .string ⟨nn.toArray⟩, .slice av nal.length acap, .string ⟨nda.toArray⟩, .int .i64 np, .int .i64 nf, .int .i64 nl, .int .i64 npv, .int .i64 nx] 135
  have hb3 := hb02.alloc hb02.size (.cells #[.int .i64 nk, .string ⟨nn.toArray⟩, .slice av nal.length acap, .string ⟨nda.toArray⟩, .int .i64 np, .int .i64 nf, .int .i64 nl, .int .i64 npv, .int .i64 nx] 135)
  have hl2 := k2.lt
  have hne : w2.heap.size ≠ w.heap.size := by omega
  clear k1 k2 hb1 hb2
  go_wp2_with fail
  generalize hr2 : w2.heap.size = r2 at *
  generalize w2.alloc (.cells #[.int .i64 nk, .string ⟨nn.toArray⟩, .slice av nal.length acap, .string ⟨nda.toArray⟩, .int .i64 np, .int .i64 nf, .int .i64 nl, .int .i64 npv, .int .i64 nx] 135) = w3 at *
  refine (HA.out _ hb3).mono ?_
  rintro e w4 ⟨v', rfl, ho, hb4⟩
  obtain ⟨va, vc, rfl⟩ := own_shapeB ho
  have ho0 : w4.ownsRow w.heap.size 85 2 (.slice va nal.length vc) nal.length (attrC nal) := own_baseB (own_low ho (Nat.zero_le _)) (fun k hk => Nat.le_trans hb3.size (ho.lt k hk).1)
  have HO := Lib.hid ho0
  have kA := Blk.below k3 hb4
  have kN := Blk.below kn hb4
  have HB4 := Lib.hid (bthen hb3 hb4)
  have HKA := Lib.hid kA
  have HKN := Lib.hid kN
  have c0 := kA.cell 0
  have c1 := kA.cell 1
  have c2 := kA.cell 2
  have c3 := kA.cell 3
  have c4 := kA.cell 4
  have c5 := kA.cell 5
  have c6 := kA.cell 6
  have c7 := kA.cell 7
  have c8 := kA.cell 8
  have cf := kA.free
  have d0 := kN.cell 0
  have d1 := kN.cell 1
  have d2 := kN.cell 2
  have d3 := kN.cell 3
  have d4 := kN.cell 4
  have d5 := kN.cell 5
  have d6 := kN.cell 6
  have d7 := kN.cell 7
  have d8 := kN.cell 8
  have df := kN.free
  simp only [List.getElem?_cons_succ, List.getElem?_cons_zero] at c0 c1 c2 c3 c4 c5 c6 c7 c8 d0 d1 d2 d3 d4 d5 d6 d7 d8
  clear hb3 hb4 hb02 k3 kn ho ho0 kA kN
  go_wp2_with fail
  have k5 := HKA.out.setOther ⟨r2, 2, none⟩ (fun e => hne e.symm) (.slice va nal.length vc)
  have k9 := Blk.over ⟨nk, nn, .slice va nal.length vc, nal, nda, np, nf, nl, npv, nx⟩ k5 rfl
  have b9 := Below.over ⟨nk, nn, .slice va nal.length vc, nal, nda, np, nf, nl, npv, nx⟩ (HB4.out.setCell (p := ⟨r2, 2, none⟩) (by show w.heap.size ≤ r2; omega) (.slice va nal.length vc)) (Nat.le_refl w.heap.size)
  refine bodyPost_ret (res_nd (by rfl) (by rfl) k9) rfl ⟨.slice va nal.length vc, rfl, ?_, b9⟩
  refine own_kB HO.out (fun k hk => ?_)
  obtain ⟨cur, hcur⟩ := own_ty HO.out hk
  have n1 : k ≠ w.heap.size := fun e => by subst e; exact blk_ne hcur HKA.out (by decide) rfl
  have n2 : k ≠ r2 := fun e => by subst e; exact blk_ne hcur HKN.out (by decide) rfl
  have e1 : ∀ (wx : World) (j : Nat) (u : Value), (wx.setCell ⟨w.heap.size, j, none⟩ u).heap[k]? = wx.heap[k]? := fun wx j u => Below.heap_setCell _ _ _ _ n1
  have e2 : ∀ (wx : World) (j : Nat) (u : Value), (wx.setCell ⟨r2, j, none⟩ u).heap[k]? = wx.heap[k]? := fun wx j u => Below.heap_setCell _ _ _ _ n2
  simp only [e1, e2]
theorem node_some {B R : Nat} {S : Tr} {sv fv : Value} {w : World} (h : TAt B R S sv fv w) (hd : Int) (hh : HOk hd) {k : Nat} (hk : S.ix hd = some k) {n : Nd} (hn : S.slots[k]? = some (some n)) (hl : n.attrs.length ≤ 1000) :
    Calls Tryz.prog 79 #[.pointer (some ⟨R, 0, none⟩), .int .i64 hd] w fun e w' => ∃ v', e = .returned (.tuple #[.agg (ndC { n with av := v' }).toArray, .bool true]) ∧ w'.ownsRow w.heap.size 85 2 v' n.attrs.length (attrC n.attrs) ∧ Below w.heap.size w w' := by
  obtain ⟨_, hkl, _⟩ := ix_some hk
  obtain ⟨g, cap, rfl⟩ := slots_some h (by omega)
  exact node_x (R := R) n true hd (fun wx hb => get_some (h.below hb) hd hh hk hn) (h.attrs k n hn) hl h.blk.free h.blk.lt
theorem vd_pts {l : List UInt8} (h : Vd l) (hne : l ≠ []) : ptsL l = l.take (Lib.decodeL l).2 :: ptsL (l.drop (Lib.decodeL l).2) ∧ Lib.encodeRune ((Lib.decodeL l).1 : Int) = l.take (Lib.decodeL l).2 ∧ Vd (l.drop (Lib.decodeL l).2) := by
  obtain ⟨h1, h2, _, _⟩ := vd_one h hne
  obtain ⟨h0, _, _, _⟩ := vd_sz h hne
  refine ⟨?_, h1, h2⟩
  have hs : szL l = (Lib.decodeL l).2 := by
    unfold szL at h0 ⊢
    rw [if_neg hne] at h0 ⊢
    split at h0
    · exact absurd rfl h0
    · rename_i hb
      rw [if_neg hb]
  rw [ptsL_step l hne, hs, show max (Lib.decodeL l).2 1 = (Lib.decodeL l).2 by omega]
def PtS (w : World) (s : ByteArray) (y : List UInt8) (ov : Value) (wr : World) : Prop :=
  ∃ (pos : Nat) (acc : List (List UInt8)) (va : Option Addr) (vc : Nat), ov = .slice va acc.length vc ∧ acc.length ≤ pos ∧ wr.heap[w.heap.size]? = some (.stringIter s pos) ∧ wr.ownsRow w.heap.size 9 1 (.slice va acc.length vc) acc.length (sC acc) ∧ acc ++ ptsL (y.drop pos) = ptsL y ∧ Vd (y.drop pos) ∧ pos ≤ s.size ∧ Below w.heap.size w wr
set_option maxRecDepth 100000 in
set_option maxHeartbeats 8000000 in
theorem rpoints_any (y : List UInt8) (hvd : Vd y) (w : World) (hs : y.length ≤ 1000000) :
    Calls Tryz.prog 99 #[.string ⟨y.toArray⟩] w fun e w' => ∃ v, e = .returned v ∧ w'.ownsRow w.heap.size 9 1 v (ptsL y).length (sC (ptsL y)) ∧ Below w.heap.size w w' := by
  have hsz : (⟨y.toArray⟩ : ByteArray).size = y.length := by show y.toArray.size = _; simp
  have hyl : (⟨y.toArray⟩ : ByteArray).data.toList = y := rfl
  obtain ⟨i0, hi0, hz0, hz1, hz2⟩ := info_parts infoT
  generalize hss : (⟨y.toArray⟩ : ByteArray) = s at *
  go_enter Tryz.func99, Tryz.ntmps99
  go_wp2_with fail
  go_loopw [3] (fun ov wr => PtS w s y ov wr) (fun _ wr => s.size - wr.iterPos w.heap.size)
  case atStart =>
    refine ⟨0, [], none, 0, rfl, by simp, ?_, World.ownsRow_nil _ _ _ _, by simp, by simpa using hvd, Nat.zero_le _, (Below.refl _ w).alloc (Nat.le_refl _) _⟩
    have := World.iter_heap w s 0
    simpa using this
  case round =>
    obtain ⟨pos, acc, va, vc, rfl, hal, hit, hown, hacc, hvr, hps, hB⟩ := hrel
    have hszl : w.heap.size < wr.heap.size := (Array.getElem?_eq_some_iff.1 hit).1
    by_cases hp : pos < s.size
    · have hnx : ∀ ty, (Instr.next (.pointer (some ⟨w.heap.size, 0, none⟩)) true ty).run Tryz.prog wr = _ := fun ty => Lib.run_next_any_at wr w.heap.size s pos ty hit hp
      have hwd := width_pos s pos hp
      have hd1 := decode_le s pos
      have hit2 := Lib.iterAt_heap wr w.heap.size s pos (pos + (Utf8.decode s pos).2) hit
      have hB2 := Lib.below_iterAt hB (k := w.heap.size) (by omega) s (pos + (Utf8.decode s pos).2)
      have hown2 : (wr.iterAt w.heap.size s (pos + (Utf8.decode s pos).2)).ownsRow w.heap.size 9 1 (.slice va acc.length vc) acc.length (sC acc) := own_kB hown (fun g hg => by
        obtain ⟨cur, hc⟩ := own_ty hown hg
        have hgne : g ≠ w.heap.size := fun e => by subst e; rw [hit] at hc; cases hc
        exact Lib.iterAt_other wr w.heap.size g s _ hgne)
      have hne : y.drop pos ≠ [] := by intro e; have := congrArg List.length e; rw [List.length_drop] at this; simp at this; omega
      have hdl : Utf8.decode s pos = Lib.decodeL (y.drop pos) := by rw [decodeL_at, hyl]
      obtain ⟨hpt, he, hv2⟩ := vd_pts hvr hne
      rw [← hdl] at he hv2 hpt
      have hen : Utf8.encode ((Utf8.decode s pos).1 : Int) = ⟨((y.drop pos).take (Utf8.decode s pos).2).toArray⟩ := by rw [encode_is, he]
      rw [List.drop_drop] at hv2 hpt
      have hps2 : pos + (Utf8.decode s pos).2 ≤ s.size := by
        have := Lib.decodeL_le _ hne
        rw [← hdl, List.length_drop] at this
        omega
      have hacc2 : (acc ++ [(y.drop pos).take (Utf8.decode s pos).2]) ++ ptsL (y.drop (pos + (Utf8.decode s pos).2)) = ptsL y := by rw [List.append_assoc, ← hacc, hpt]; rfl
      generalize hpc : (y.drop pos).take (Utf8.decode s pos).2 = pc at *
      have HF := Lib.hid (And.intro hacc2 (And.intro hv2 (And.intro hB2 (And.intro hit2 hown2))))
      have hit0 := hit
      clear hacc hvr hne hdl he hacc2 hv2 hit hpc hB2 hit2 hown2 hown hvd hpt hB
      generalize (Utf8.decode s pos).1 = rr at *
      generalize (Utf8.decode s pos).2 = nn at *
      generalize hW : wr.iterAt w.heap.size s (pos + nn) = wi at *
      have hwi : wr.heap.size = wi.heap.size := by rw [← hW, Lib.iterAt_size]
      have HW0 := Lib.hid hW
      clear hW
      go_wp2_with (at_builtin; refine wpList_append_own _ rfl _ _ 34 rfl w.heap.size 9 i0 _ 1 16 Tryz.underlying34 hi0 hz0 hz1 hz2 rfl (by decide) _ acc.length _ rfl (HF.out.2.2.2.2.alloc _) _ 1 1 [.string ⟨pc.toArray⟩] rfl rfl ?cc ?co ?c1 ?c2 ?c3 ?_)
      case cc => exact own_news (own_at (n := 1) (size := 1) (Blk.new wi [.string ⟨pc.toArray⟩] 9) rfl (by omega))
      case co => intro u hu; simp at hu; rcases hu with rfl; rfl
      case c1 => unfold maxLen; omega
      case c2 => omega
      case c3 => have := HF.out.2.2.1.size; simp; omega
      intro v' w5 hown5 hgr5 _
      obtain ⟨va2, vc2, rfl⟩ := own_shapeB hown5
      have hB5 : Below w.heap.size w w5 := (HF.out.2.2.1.alloc HF.out.2.2.1.size _).grown hgr5 (by have := HF.out.2.2.1.size; simp; omega) (fun k hk => (HF.out.2.2.2.2.lt k hk).1)
      have hit5 : w5.heap[w.heap.size]? = some (.stringIter s (pos + nn)) := by
        have hne9 : (Value.slice va acc.length vc).ownBlock ≠ some w.heap.size := fun e => by
          obtain ⟨cur, hc⟩ := own_ty HF.out.2.2.2.2 e
          rw [HF.out.2.2.2.1] at hc; cases hc
        rw [hgr5.block w.heap.size (by simp; omega) (fun e => hne9 e.symm)]
        rw [Below.heap_alloc wi _ _ (by omega)]
        exact HF.out.2.2.2.1
      have HW := Lib.hid hown5
      have HX := Lib.hid (And.intro hB5 hit5)
      clear hown5 hgr5 hB5 hit5
      go_wp2_with fail
      refine ⟨⟨pos + nn, acc ++ [pc], va2, vc2, by simp, by simp; omega, HX.out.2, ?_, HF.out.1, HF.out.2.1, hps2, HX.out.1⟩, ?_⟩
      · have e1 : sC (acc ++ [pc]) = sC acc ++ [.string ⟨pc.toArray⟩] := by simp [sC, strV]
        rw [e1, List.length_append, List.length_singleton]
        exact HW.out
      · simp only [World.iterPos, HX.out.2, hit0]
        omega
    · have hnx : ∀ ty, (Instr.next (.pointer (some ⟨w.heap.size, 0, none⟩)) true ty).run Tryz.prog wr = _ := fun ty => Lib.run_next_end_at wr w.heap.size s pos ty hit hp
      have e : y.drop pos = [] := List.drop_eq_nil_of_le (by omega)
      rw [e, ptsL_nil, List.append_nil] at hacc
      subst hacc
      have HO := Lib.hid hown
      have HBB := Lib.hid hB
      clear hown hB
      go_wp2_with fail
      go_ret
      exact ⟨_, rfl, HO.out, HBB.out⟩
theorem rlen_any (y : List UInt8) (hvd : Vd y) (w : World) (hs : y.length ≤ 1000000) :
    Calls Tryz.prog 49 #[.string ⟨y.toArray⟩] w fun e w' => e = .returned (.int .i64 (nL y : Int)) ∧ Below w.heap.size w w' := by
  have HP := Lib.hid (rpoints_any y hvd w hs)
  have hnl : (ptsL y).length = nL y := rfl
  rw [hnl] at HP
  go_enter Tryz.func49, Tryz.ntmps49
  go_wp2_with fail
  refine HP.out.mono ?_
  rintro e w1 ⟨v, rfl, ho, hb⟩
  obtain ⟨va, vc, rfl⟩ := own_shapeB ho
  go_wp2_with fail
  go_ret
  exact ⟨rfl, hb⟩
def StrAt (w : World) (A : Option Addr) (P : List (List UInt8)) : Prop := 0 < P.length → ∃ g o, A = some ⟨g, o, none⟩ ∧ ∀ (j : Nat) (x : List UInt8), P[j]? = some x → w.cell? ⟨g, o + j, none⟩ = some (.string ⟨x.toArray⟩)
theorem take_flat (P : List (List UInt8)) (k : Nat) (x : List UInt8) (h : P[k]? = some x) : (P.take (k + 1)).flatten = (P.take k).flatten ++ x := by
  rw [List.take_add_one, h, List.flatten_append]; simp
theorem part_any (A : Option Addr) (P : List (List UInt8)) (c : Nat) (w : World) (h : StrAt w A P) (hl : P.length ≤ 1000000) (hf : P.flatten.length ≤ 100000000) :
    Calls Tryz.prog 149 #[.slice A P.length c] w fun e w' => e = .returned (.string ⟨P.flatten.toArray⟩) ∧ w = w' := by
  have H := Lib.hid h
  have HFl := Lib.hid (fun k => flat_len P k)
  obtain ⟨n, hn⟩ : ∃ n, P.length = n := ⟨_, rfl⟩
  have HN := Lib.hid hn
  rw [hn] at hl ⊢
  clear h hn
  go_enter Tryz.func149, Tryz.ntmps149
  go_wp2_with fail
  go_loop [3, 7] (fun ov iv => ∃ k : Nat, k ≤ n ∧ iv = .int .i64 (k : Int) ∧ ov = .string ⟨(P.take k).flatten.toArray⟩) (fun _ iv => n - (intOf iv).toNat)
  case atStart => exact ⟨0, Nat.zero_le _, rfl, rfl⟩
  case round =>
    obtain ⟨k, hk, rfl, rfl⟩ := hrel
    by_cases hkl : k < n
    · obtain ⟨x, hx⟩ : ∃ x, P[k]? = some x := ⟨_, List.getElem?_eq_getElem (by rw [HN.out]; exact hkl)⟩
      obtain ⟨g, o, rfl, hc⟩ := H.out (by rw [HN.out]; omega)
      have q0 := hc k x hx
      have HT := Lib.hid (take_flat P k x hx)
      have hl1 := HFl.out (k + 1)
      rw [HT.out, List.length_append] at hl1
      have hs1 : ¬ 9223372036854775807 < (P.take k).flatten.length + x.length := by omega
      clear hc hx hl1
      generalize hpt : (P.take k).flatten = pt at *
      have HP := Lib.hid hpt
      clear hpt
      go_wp2_with fail
      go_round
      case rel =>
        refine ⟨k + 1, by omega, by go_num, ?_⟩
        rw [HT.out, ← bytes_app]
      case measure => simp [intOf]; omega
    · obtain rfl : k = n := by omega
      have e : P.take k = P := by rw [← HN.out, List.take_length]
      rw [e]
      go_wp2_with fail
      go_ret
      exact ⟨rfl, rfl⟩
end Go.Proofs.YtacdbnhnhdlmpaaGreatDoor.W
end
