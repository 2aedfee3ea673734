/- Texts joined: MkT MkE ADr. -/
import Derived.Test.YtacdbnhnhdlmpaaGreatDoorFB15
import Derived.Test.YtacdbnhnhdlmpaaGreatDoorFB16
import Derived.Test.YtacdbnhnhdlmpaaGreatDoorFB6
import Derived.Deep.CutBlock
import Derived.BigRegion
set_option maxRecDepth 100000
set_option maxHeartbeats 40000000
set_option linter.unusedVariables false
set_option linter.unusedSimpArgs false
section
namespace Go.Proofs.YtacdbnhnhdlmpaaGreatDoor.W
open Go.RowKit
def mkN (kind : Int) (name : List UInt8) (av : Value) (al : List Atr) (data : List UInt8) : Nd := ⟨kind, name, av, al, data, 0, 0, 0, 0, 0⟩
inductive MakT (W : Nat) (S : Tr) (kind : Int) (name data : List UInt8) (al : List Atr) : Tr → Int → Int → Prop
  | kind (h2 : kind ≠ 2) (h3 : kind ≠ 3) (h4 : kind ≠ 4) : MakT W S kind name data al S 0 1
  | arg (h : kind = 2) (hn : (elmB name && namesB al) = false) : MakT W S kind name data al S 0 1
  | many (h : kind = 2) (hn : (elmB name && namesB al) = true) (h2 : 64 < al.length) : MakT W S kind name data al S 0 5
  | el (av : Value) (h : kind = 2) (hn : (elmB name && namesB al) = true) (h2 : al.length ≤ 64) (hfr : ∀ k, av.ownBlock = some k → W ≤ k) : MakT W S kind name data al (S.add (mkN 2 name av (al.map fun a => (a.1, fix a.2)) [])) (S.hd S.addI) 0
  | tx (h : kind = 3 ∨ kind = 4) : MakT W S kind name data al (S.add (mkN kind [] (.slice none 0 0) [] (fix data))) (S.hd S.addI) 0
def MakTR (B R : Nat) (S : Tr) (sv fv : Value) (w : World) (kind : Int) (name data : List UInt8) (al : List Atr) (e : Ending) (w' : World) : Prop :=
  ∃ S' sv' fv' h en, MakT w.heap.size S kind name data al S' h en ∧ e = .returned (.tuple #[.int .i64 h, .int .i64 en]) ∧ TAt B R S' sv' fv' w' ∧ Chg (fun k => k = R ∨ sv.ownBlock = some k) w w' ∧ (sv'.ownBlock = sv.ownBlock ∨ ∃ k, sv'.ownBlock = some k ∧ w.heap.size ≤ k) ∧ fv'.ownBlock = fv.ownBlock
theorem MakTR.same {B R : Nat} {S : Tr} {sv fv : Value} {w w' : World} {kind : Int} {name data : List UInt8} {al : List Atr} (h : TAt B R S sv fv w) (hb : Below w.heap.size w w') {en : Int} (hm : MakT w.heap.size S kind name data al S 0 en) : MakTR B R S sv fv w kind name data al (.returned (.tuple #[.int .i64 0, .int .i64 en])) w' :=
  ⟨S, sv, fv, 0, en, hm, rfl, h.below hb, Chg.of_below hb, .inl rfl, rfl⟩
set_option maxRecDepth 100000 in
set_option maxHeartbeats 8000000 in
theorem mkT_3 {B R : Nat} {S : Tr} {sv fv : Value} {w : World} (h : TAt B R S sv fv w) (hT : Laid w) (hfr : ∀ i ∈ S.free, S.slots[i]? = some none) (hfl : S.free.length ≤ 1000000) (hl : S.slots.length < 20000) (name data : List UInt8) (hd : data.length ≤ 1000) (v : Value) (al : List Atr) :
    Calls Tryz.prog 56 #[.pointer (some ⟨R, 0, none⟩), (.int .i64 3), .string ⟨name.toArray⟩, .string ⟨data.toArray⟩, v] w (MakTR B R S sv fv w 3 name data al) := by
  have HRp := Lib.hid (fun wx (hb : Below w.heap.size w wx) => repair_any data wx (by omega) (hT.below hb))
  have HM := Lib.hid (MakT.tx (W := w.heap.size) (S := S) (name := name) (data := data) (al := al) (kind := 3) (by decide))
  have hfx := fix_len data
  have HTt := Lib.hid h
  have hlv : S.live ≤ S.slots.length := List.length_filter_le _ _
  have hlt := h.blk.lt
  have HA := Lib.hid (fun w9 (hb : Below w.heap.size w w9) => add_any (h.below hb) hfr hfl (by omega) (mkN 3 [] (.slice none 0 0) [] (fix data)) ⟨none, 0, rfl, .inl rfl⟩)
  clear h hT hfr hfl
  go_enter Tryz.func56, Tryz.ntmps56
  go_wp2_with fail
  have hx0 := Blk.new w (ndC (mkN 3 [] (.slice none 0 0) [] [])) 135
  have hb0 := (Below.refl w.heap.size w).alloc (Nat.le_refl _) (.cells (ndC (mkN 3 [] (.slice none 0 0) [] [])).toArray 135)
  refine (HRp.out _ hb0).mono ?_
  rintro e w2 ⟨rfl, hb2⟩
  have hb02 := bthen hb0 hb2
  have hx2 := Blk.below hx0 hb2
  simp only [ndC, mkN, strV] at hx2
  have c2 := hx2.cell 2
  have c3 := hx2.cell 3
  simp only [List.getElem?_cons_succ, List.getElem?_cons_zero] at c2 c3
  have f3 := hx2.free 3
  have HX3 := Lib.hid (hx2.set 3 (.string ⟨(fix data).toArray⟩))
  have HB3 := Lib.hid (hb02.setCell (p := ⟨w.heap.size, 3, none⟩) (Nat.le_refl _) (.string ⟨(fix data).toArray⟩))
  clear hb0 hb2 hb02 hx0 hx2
  go_upto_region 16 with fail
  clear c2 c3 f3
  generalize w2.setCell ⟨w.heap.size, 3, none⟩ (.string ⟨(fix data).toArray⟩) = w3 at *
  have hT3 := HTt.out.below HB3.out
  have HL := Lib.hid (len_any hT3)
  have x2 := HX3.out.cell 2
  have x3 := HX3.out.cell 3
  simp only [List.set_cons_succ, List.set_cons_zero, List.getElem?_cons_succ, List.getElem?_cons_zero] at x2 x3
  have zR := hT3.blk.free
  clear hT3
  have d1 : decide ((20000 : Int) ≤ (S.live : Int)) = false := by simp; omega
  go_wp2_with fail
  refine HL.out.mono ?_
  rintro e w5 ⟨rfl, hw⟩
  rw [hw]
  clear hw
  go_wp2_with fail
  refine (long_any ⟨(fix data).toArray⟩ (by rw [bsz]; omega) _).mono ?_
  rintro e w6 ⟨rfl, hw⟩
  rw [hw, show decide (1048576 < (⟨(fix data).toArray⟩ : ByteArray).size) = false by rw [bsz]; simp; omega]
  clear hw
  go_wp2_with fail
  refine (containsFunc_nil _ _).mono ?_
  rintro e w7 ⟨rfl, hw⟩
  rw [hw]
  clear hw d1 x2 x3
  go_upto_region 18 with fail
  have hne := stb_ne w3
  have hgl := HX3.out.lt
  have xs := fun (x : InS (StB w3)) => HX3.out.below x.h
  simp only [List.set_cons_succ, List.set_cons_zero] at xs
  have z0 := fun x => (xs x).cell 0
  have z1 := fun x => (xs x).cell 1
  have z2 := fun x => (xs x).cell 2
  have z3 := fun x => (xs x).cell 3
  have z4 := fun x => (xs x).cell 4
  have z5 := fun x => (xs x).cell 5
  have z6 := fun x => (xs x).cell 6
  have z7 := fun x => (xs x).cell 7
  have z8 := fun x => (xs x).cell 8
  simp only [List.getElem?_cons_succ, List.getElem?_cons_zero] at z0 z1 z2 z3 z4 z5 z6 z7 z8
  clear xs
  refine reg_b (fun _ => undef) 4 (by kernel_rfl) (by kernel_rfl) ?_
  simp only [List.take_succ_cons, List.take_zero, List.drop_succ_cons, List.drop_zero]
  repeat (first
    | (refine m_held (by rfl) (by rfl) (fun K hK => ?_); go_big_quiet_step (fail); refine wpQuiet_nil ?_; refine hK.out _ ?_; clear hK K)
    | (refine m_skip (by rfl) ?_; simp only [Act.put, List.setIfInBounds_toArray, List.set_cons_zero, List.set_cons_succ]))
  refine m_nil ?_
  intro w8 h8
  clear z0 z1 z2 z3 z4 z5 z6 z7 z8 hne
  go_wp2_with fail
  have h8' : Below w.heap.size w w8 := HB3.out.trans (h8.mono HB3.out.size)
  refine (HA.out _ h8').mono ?_
  rintro e w9 ⟨sv', fv', rfl, hT9, hC9, hsv, hfv⟩
  have H9 := Lib.hid hT9
  have HC := Lib.hid hC9
  have HS := Lib.hid hsv
  clear hT9 hC9 hsv
  go_wp2_with fail
  go_ret2
  refine ⟨_, sv', fv', _, 0, HM.out, rfl, H9.out, (Chg.of_below h8').trans HC.out (fun _ _ h => h), ?_, hfv⟩
  rcases HS.out with e | ⟨k, e, hk⟩
  · exact .inl e
  · exact .inr ⟨k, e, Nat.le_trans h8'.size hk⟩
set_option maxRecDepth 100000 in
set_option maxHeartbeats 8000000 in
theorem mkT_4 {B R : Nat} {S : Tr} {sv fv : Value} {w : World} (h : TAt B R S sv fv w) (hT : Laid w) (hfr : ∀ i ∈ S.free, S.slots[i]? = some none) (hfl : S.free.length ≤ 1000000) (hl : S.slots.length < 20000) (name data : List UInt8) (hd : data.length ≤ 1000) (v : Value) (al : List Atr) :
    Calls Tryz.prog 56 #[.pointer (some ⟨R, 0, none⟩), (.int .i64 4), .string ⟨name.toArray⟩, .string ⟨data.toArray⟩, v] w (MakTR B R S sv fv w 4 name data al) := by
  have HRp := Lib.hid (fun wx (hb : Below w.heap.size w wx) => repair_any data wx (by omega) (hT.below hb))
  have HM := Lib.hid (MakT.tx (W := w.heap.size) (S := S) (name := name) (data := data) (al := al) (kind := 4) (by decide))
  have hfx := fix_len data
  have HTt := Lib.hid h
  have hlv : S.live ≤ S.slots.length := List.length_filter_le _ _
  have hlt := h.blk.lt
  have HA := Lib.hid (fun w9 (hb : Below w.heap.size w w9) => add_any (h.below hb) hfr hfl (by omega) (mkN 4 [] (.slice none 0 0) [] (fix data)) ⟨none, 0, rfl, .inl rfl⟩)
  clear h hT hfr hfl
  go_enter Tryz.func56, Tryz.ntmps56
  go_wp2_with fail
  have hx0 := Blk.new w (ndC (mkN 4 [] (.slice none 0 0) [] [])) 135
  have hb0 := (Below.refl w.heap.size w).alloc (Nat.le_refl _) (.cells (ndC (mkN 4 [] (.slice none 0 0) [] [])).toArray 135)
  refine (HRp.out _ hb0).mono ?_
  rintro e w2 ⟨rfl, hb2⟩
  have hb02 := bthen hb0 hb2
  have hx2 := Blk.below hx0 hb2
  simp only [ndC, mkN, strV] at hx2
  have c2 := hx2.cell 2
  have c3 := hx2.cell 3
  simp only [List.getElem?_cons_succ, List.getElem?_cons_zero] at c2 c3
  have f3 := hx2.free 3
  have HX3 := Lib.hid (hx2.set 3 (.string ⟨(fix data).toArray⟩))
  have HB3 := Lib.hid (hb02.setCell (p := ⟨w.heap.size, 3, none⟩) (Nat.le_refl _) (.string ⟨(fix data).toArray⟩))
  clear hb0 hb2 hb02 hx0 hx2
  go_upto_region 16 with fail
  clear c2 c3 f3
  generalize w2.setCell ⟨w.heap.size, 3, none⟩ (.string ⟨(fix data).toArray⟩) = w3 at *
  have hT3 := HTt.out.below HB3.out
  have HL := Lib.hid (len_any hT3)
  have x2 := HX3.out.cell 2
  have x3 := HX3.out.cell 3
  simp only [List.set_cons_succ, List.set_cons_zero, List.getElem?_cons_succ, List.getElem?_cons_zero] at x2 x3
  have zR := hT3.blk.free
  clear hT3
  have d1 : decide ((20000 : Int) ≤ (S.live : Int)) = false := by simp; omega
  go_wp2_with fail
  refine HL.out.mono ?_
  rintro e w5 ⟨rfl, hw⟩
  rw [hw]
  clear hw
  go_wp2_with fail
  refine (long_any ⟨(fix data).toArray⟩ (by rw [bsz]; omega) _).mono ?_
  rintro e w6 ⟨rfl, hw⟩
  rw [hw, show decide (1048576 < (⟨(fix data).toArray⟩ : ByteArray).size) = false by rw [bsz]; simp; omega]
  clear hw
  go_wp2_with fail
  refine (containsFunc_nil _ _).mono ?_
  rintro e w7 ⟨rfl, hw⟩
  rw [hw]
  clear hw d1 x2 x3
  go_upto_region 18 with fail
  have hne := stb_ne w3
  have hgl := HX3.out.lt
  have xs := fun (x : InS (StB w3)) => HX3.out.below x.h
  simp only [List.set_cons_succ, List.set_cons_zero] at xs
  have z0 := fun x => (xs x).cell 0
  have z1 := fun x => (xs x).cell 1
  have z2 := fun x => (xs x).cell 2
  have z3 := fun x => (xs x).cell 3
  have z4 := fun x => (xs x).cell 4
  have z5 := fun x => (xs x).cell 5
  have z6 := fun x => (xs x).cell 6
  have z7 := fun x => (xs x).cell 7
  have z8 := fun x => (xs x).cell 8
  simp only [List.getElem?_cons_succ, List.getElem?_cons_zero] at z0 z1 z2 z3 z4 z5 z6 z7 z8
  clear xs
  refine reg_b (fun _ => undef) 4 (by kernel_rfl) (by kernel_rfl) ?_
  simp only [List.take_succ_cons, List.take_zero, List.drop_succ_cons, List.drop_zero]
  repeat (first
    | (refine m_held (by rfl) (by rfl) (fun K hK => ?_); go_big_quiet_step (fail); refine wpQuiet_nil ?_; refine hK.out _ ?_; clear hK K)
    | (refine m_skip (by rfl) ?_; simp only [Act.put, List.setIfInBounds_toArray, List.set_cons_zero, List.set_cons_succ]))
  refine m_nil ?_
  intro w8 h8
  clear z0 z1 z2 z3 z4 z5 z6 z7 z8 hne
  go_wp2_with fail
  have h8' : Below w.heap.size w w8 := HB3.out.trans (h8.mono HB3.out.size)
  refine (HA.out _ h8').mono ?_
  rintro e w9 ⟨sv', fv', rfl, hT9, hC9, hsv, hfv⟩
  have H9 := Lib.hid hT9
  have HC := Lib.hid hC9
  have HS := Lib.hid hsv
  clear hT9 hC9 hsv
  go_wp2_with fail
  go_ret2
  refine ⟨_, sv', fv', _, 0, HM.out, rfl, H9.out, (Chg.of_below h8').trans HC.out (fun _ _ h => h), ?_, hfv⟩
  rcases HS.out with e | ⟨k, e, hk⟩
  · exact .inl e
  · exact .inr ⟨k, e, Nat.le_trans h8'.size hk⟩
theorem etT : ET Tryz.prog 81 85 2 32 := ET.mk' (z := .agg #[.string ⟨#[]⟩, .string ⟨#[]⟩]) Tryz.underlying81 (by kernel_rfl) rfl (by omega)
def tC (name : List UInt8) (av : Value) : List Value := [.int .i64 2, .string ⟨name.toArray⟩, av, .string ⟨#[]⟩, .int .i64 0, .int .i64 0, .int .i64 0, .int .i64 0, .int .i64 0]
def MkL (w : World) (r : Nat) (name : List UInt8) (al : List Atr) (iv : Value) (wr : World) : Prop :=
  ∃ (i : Nat) (sa : Option Addr) (sl' sc : Nat), i ≤ al.length ∧ sl' = i ∧ iv = .int .i64 (i : Int) ∧ Blk wr r (tC name (.slice sa sl' sc)) 135 ∧ wr.ownsRow w.heap.size 85 2 (.slice sa sl' sc) sl' (attrC ((al.take i).map fun a => (a.1, fix a.2))) ∧ Below w.heap.size w wr
set_option maxRecDepth 100000 in
set_option maxHeartbeats 16000000 in
theorem mkT_el {B R : Nat} {S : Tr} {sv fv : Value} {w : World} (h : TAt B R S sv fv w) (hT : Laid w) (hfr : ∀ i ∈ S.free, S.slots[i]? = some none) (hfl : S.free.length ≤ 1000000) (hl : S.slots.length < 20000) (name data : List UInt8) (hn : name.length ≤ 1000) (v : Value) (al : List Atr) (hv : Own w 85 2 v al.length (attrC al)) (hal : al.length ≤ 100) (has : ∀ a ∈ al, a.1.length ≤ 1000 ∧ a.2.length ≤ 1000) :
    Calls Tryz.prog 56 #[.pointer (some ⟨R, 0, none⟩), .int .i64 2, .string ⟨name.toArray⟩, .string ⟨data.toArray⟩, v] w (MakTR B R S sv fv w 2 name data al) := by
  have HRp := Lib.hid (fun (a : Atr) (ha : a ∈ al) wx (hb : Below w.heap.size w wx) => repair_any a.2 wx (by have := (has a ha).2; omega) (hT.below hb))
  have HEl := Lib.hid (fun wx (hb : Below w.heap.size w wx) => elementName_b name (by omega) wx (hT.below hb))
  have HAt := Lib.hid (fun wx (hb : Below w.heap.size w wx) => attrs_any al hal has v wx (hT.below hb) (own_belowM hv hb))
  have HLn := Lib.hid (show ∀ a ∈ (al.map fun a => (a.1, fix a.2)), a.2.length ≤ 1048576 from fun a ha => by
    obtain ⟨b, hb, rfl⟩ := List.mem_map.1 ha
    have := (has b hb).2
    have := fix_len b.2
    show (fix b.2).length ≤ _
    omega)
  have HTt := Lib.hid h
  have hlv : S.live ≤ S.slots.length := List.length_filter_le _ _
  have hlt := h.blk.lt
  have hbs : B ≤ w.heap.size := by have := h.base; omega
  have HA := Lib.hid (fun w9 (hb : Below w.heap.size w w9) (n : Nd) (hn : AttrAt B w9 n.av n.attrs) => add_any (h.below hb) hfr hfl (by omega) n hn)
  have HMa := Lib.hid (fun (c : (elmB name && namesB al) = false) => MakT.arg (W := w.heap.size) (S := S) (data := data) (rfl : (2 : Int) = 2) c)
  have HMm := Lib.hid (fun (c : (elmB name && namesB al) = true) (h2 : 64 < al.length) => MakT.many (W := w.heap.size) (S := S) (data := data) (rfl : (2 : Int) = 2) c h2)
  have HMe := Lib.hid (fun (av : Value) (c : (elmB name && namesB al) = true) (h2 : al.length ≤ 64) (hf : ∀ k, av.ownBlock = some k → w.heap.size ≤ k) => MakT.el (S := S) (data := data) av (rfl : (2 : Int) = 2) c h2 hf)
  obtain ⟨va0, vc0, rfl⟩ := own_shape hv
  have HVc := Lib.hid (fun (j : Nat) (y : Atr) (hy : al[j]? = some y) wx (hb : Below w.heap.size w wx) => (show ∃ ga, va0 = some ⟨ga, 0, none⟩ ∧ ga < w.heap.size ∧ wx.cell? ⟨ga, j * 2, none⟩ = some (.string ⟨y.1.toArray⟩) ∧ wx.cell? ⟨ga, j * 2 + 1, none⟩ = some (.string ⟨y.2.toArray⟩) from by
    have hl := (List.getElem?_eq_some_iff.1 hy).1
    obtain ⟨ga, hga⟩ : ∃ g, va0 = some ⟨g, 0, none⟩ := by
      rcases hv.2 with ⟨e, e2⟩ | ⟨g, cap, cur, e, _⟩
      · omega
      · simp only [Value.slice.injEq] at e; exact ⟨g, e.1⟩
    subst hga
    have ho := own_belowM hv hb
    have h1 := own_news ho (2 * j) _ (attrC_at al j y hy).1
    have h2 := own_news ho (2 * j + 1) _ (attrC_at al j y hy).2
    rw [Go.WideShapes.add_plain, Nat.zero_add] at h1 h2
    exact ⟨ga, rfl, own_lt hv rfl, by rw [Nat.mul_comm]; exact h1, by rw [Nat.mul_comm j]; exact h2⟩))
  clear h hT hfr hfl hv has
  go_enter Tryz.func56, Tryz.ntmps56
  go_wp2_with fail
  have k1 := Blk.new w (tC [] (.slice none 0 0)) 135
  have hb1 := (Below.refl w.heap.size w).alloc (Nat.le_refl _) (.cells (tC [] (.slice none 0 0)).toArray 135)
  refine (HEl.out _ hb1).mono ?_
  rintro e w2 ⟨rfl, hb2⟩
  have HB2 := Lib.hid (bthen hb1 hb2)
  have HK2 := Lib.hid (Blk.below k1 hb2)
  clear k1 hb1 hb2
  cases hel : elmB name
  · go_wp2_with fail
    go_ret2
    exact MakTR.same HTt.out HB2.out (HMa.out (by rw [hel]; rfl))
  have HEx := Lib.hid hel
  clear hel HEl
  go_wp2_with fail
  refine (HAt.out _ HB2.out).mono ?_
  rintro e w3 ⟨rfl, hb3⟩
  have HB3 := Lib.hid (bthen HB2.out hb3)
  have HK3 := Lib.hid (HK2.out.below hb3)
  clear hb3 HB2 HK2
  cases hnm : namesB al
  · go_wp2_with fail
    go_ret2
    exact MakTR.same HTt.out HB3.out (HMa.out (by rw [hnm, Bool.and_false]))
  have HYes := Lib.hid (show (elmB name && namesB al) = true by rw [HEx.out, hnm]; rfl)
  clear hnm HAt HMa
  have c1 := HK3.out.cell 1
  have f1 := HK3.out.free 1
  simp only [tC, List.getElem?_cons_succ, List.getElem?_cons_zero] at c1
  have HK4 := Lib.hid (show Blk (w3.setCell ⟨w.heap.size, 1, none⟩ (.string ⟨name.toArray⟩)) w.heap.size (tC name (.slice none 0 0)) 135 from HK3.out.set 1 (.string ⟨name.toArray⟩))
  have HB4 := Lib.hid (HB3.out.setCell (p := ⟨w.heap.size, 1, none⟩) (Nat.le_refl _) (.string ⟨name.toArray⟩))
  go_upto_region 8 with fail
  clear c1 f1 HK3 HB3
  generalize w3.setCell ⟨w.heap.size, 1, none⟩ (.string ⟨name.toArray⟩) = w4 at *
  go_wp2_with fail
  go_loopw [32] (fun iv wr => MkL w w.heap.size name al iv wr) (fun iv _ => al.length - intN iv)
  case atStart => exact ⟨0, none, 0, 0, by omega, rfl, rfl, HK4.out, World.ownsRow_nil _ _ _ _, HB4.out⟩
  case round =>
    obtain ⟨i, sa, sl', sc, hi, hsl, rfl, hkr, hown, hbr⟩ := hrel
    have HKr := Lib.hid hkr
    have HOr := Lib.hid hown
    have HBr := Lib.hid hbr
    have HSl := Lib.hid hsl
    have hsl2 : sl' ≤ 100 := by omega
    clear hkr hown hbr hsl HB4 HK4
    by_cases hil : i < al.length
    · obtain ⟨y, hy⟩ : ∃ y, al[i]? = some y := ⟨_, List.getElem?_eq_getElem hil⟩
      have hym := List.mem_of_getElem? hy
      obtain ⟨ga, rfl, hga, cn, cv⟩ := HVc.out i y hy _ HBr.out
      have HY := Lib.hid hy
      have HYm := Lib.hid hym
      have hil2 : (i : Int) < (al.length : Int) := by omega
      clear hy hym
      have hW1 : Below wr.heap.size wr (wr.alloc (.cells #[.string ⟨y.1.toArray⟩, .string ⟨y.2.toArray⟩] 85)) := (Below.refl _ _).alloc (Nat.le_refl _) _
      have kb := Blk.new wr [.string ⟨y.1.toArray⟩, .string ⟨y.2.toArray⟩] 85
      have kr1 := HKr.out.below hW1
      have hsz := HBr.out.size
      have ho1 := own_keepB HOr.out hW1
      have hb1 := bthen HBr.out hW1
      have hbr : w.heap.size ≠ wr.heap.size := by have := HKr.out.lt; omega
      go_upto_region 11 with fail
      generalize wr.alloc (.cells #[.string ⟨y.1.toArray⟩, .string ⟨y.2.toArray⟩] 85) = W1 at *
      have q2 := kr1.cell 2
      have qf := kr1.free 2
      have b0 := kb.cell 0
      have b1 := kb.cell 1
      simp only [tC, List.getElem?_cons_succ, List.getElem?_cons_zero] at q2 b0 b1
      have hrl := kr1.lt
      have hbl := kb.lt
      have HKb := Lib.hid kb
      have HK1 := Lib.hid kr1
      have HO1 := Lib.hid ho1
      have HB1 := Lib.hid hb1
      clear kb kr1 ho1 hb1 hW1 cn cv HKr HOr HBr
      have hne : ∀ b, (Value.slice sa sl' sc).ownBlock = some b → b ≠ w.heap.size := fun b hb e => by
        obtain ⟨cur, hcur⟩ := own_blk (show Own W1 _ _ _ _ _ from own_low HO1.out (Nat.zero_le _)) hb
        subst e
        exact blk_ne hcur HK1.out (by decide) rfl
      go_region_law (first
        | (go_simp; go_at_call 89; refine (HRp.out y HYm.out _ HB1.out.drew).mono ?_; rintro e w6 ⟨rfl, hb6⟩;
            have hB6 : Below W1.heap.size W1 w6 := ((Below.refl _ W1).drew).trans (hb6.mono (Nat.le_refl _));
            have q26 : w6.cell? ⟨w.heap.size, 2, none⟩ = some (.slice sa sl' sc) := (HK1.out.below hB6).cell 2; have qf6 : w6.frozen? ⟨w.heap.size, 2, none⟩ = false := (HK1.out.below hB6).free 2;
            have b06 : w6.cell? ⟨wr.heap.size, 0, none⟩ = some (.string ⟨y.1.toArray⟩) := (HKb.out.below hB6).cell 0; have b16 : w6.cell? ⟨wr.heap.size, 1, none⟩ = some (.string ⟨y.2.toArray⟩) := (HKb.out.below hB6).cell 1;
            have hrl6 := (HK1.out.below hB6).lt; have hbl6 := (HKb.out.below hB6).lt; have HB6 := Lib.hid hB6; clear hb6 hB6)
        | (refine step_append_B etT (own_keepB HO1.out (HB6.out.alloc HB6.out.size _)) (by have := HB1.out.size; have := HB6.out.size; simp; omega) (own_at (n := 1) (size := 2) (Blk.new w6 [.string ⟨y.1.toArray⟩, .string ⟨(fix y.2).toArray⟩] 85) rfl (by omega)) (attrC_one' _ _) (by omega) (by omega) (by rfl) _ _ (by rfl) (by rfl) (by rfl) ?_; intro v' w7 ho hgr hvb;
            obtain ⟨va, vc, rfl⟩ := own_shapeB ho; have kr7 := ((HK1.out.below HB6.out).alloc (.cells #[.string ⟨y.1.toArray⟩, .string ⟨(fix y.2).toArray⟩] 85)).kept (hgr.block w.heap.size (by have := hrl6; simp; omega) (fun e => hne _ e.symm rfl)); have e2 : w7.cell? ⟨w.heap.size, 2, none⟩ = some (.slice sa sl' sc) := kr7.cell 2; have ef : w7.frozen? ⟨w.heap.size, 2, none⟩ = false := kr7.free 2;
            have HK7 := Lib.hid kr7; have HO7 := Lib.hid ho; have HG7 := Lib.hid hgr; clear ho hgr hvb kr7))
      all_goals
        have hb6w : Below w.heap.size w w6 := HB1.out.trans (HB6.out.mono HB1.out.size)
        have hb7 : Below w.heap.size w w7 := (hb6w.alloc hb6w.size _).grown HG7.out (by have := hb6w.size; simp; omega) (fun b hb => (HO1.out.lt b hb).1)
        have hk8 := HK7.out.set 2 (.slice va (sl' + 1) vc)
        have ho8 := own_kB HO7.out (w' := w7.setCell ⟨w.heap.size, 2, none⟩ (.slice va (sl' + 1) vc)) (fun b hb => Below.heap_setCell _ _ _ _ (fun e => by
          obtain ⟨cur, hcur⟩ := own_blk (show Own w7 _ _ _ _ _ from own_low HO7.out (Nat.zero_le _)) hb
          rw [show b = w.heap.size from e] at hcur
          exact blk_ne hcur HK7.out (by decide) rfl))
        have hb8 := hb7.setCell (p := ⟨w.heap.size, 2, none⟩) (Nat.le_refl w.heap.size) (.slice va (sl' + 1) vc)
        have HK8 := Lib.hid hk8
        have HO8 := Lib.hid ho8
        have HB8 := Lib.hid hb8
        have HM := Lib.hid (attrC_map al i y HY.out (fun a => (a.1, fix a.2)))
        clear hb6w hb7 hk8 ho8 hb8 e2 ef
        go_wp2_with fail
        exact ⟨⟨i + 1, va, sl' + 1, vc, by omega, by have := HSl.out; omega, by first | rfl | simp, HK8.out, by rw [HM.out]; exact HO8.out, HB8.out⟩, by simp only [intN]; omega⟩
    · obtain rfl : i = al.length := by omega
      rw [List.take_length] at HOr
      have hsl3 := HSl.out
      subst hsl3
      have hat : AttrAt B wr (.slice sa al.length sc) (al.map fun a => (a.1, fix a.2)) := attr_of_own (by rw [List.length_map]; exact HOr.out) hbs
      have HCn := Lib.hid (contains_lng hat (by rw [List.length_map]; omega) HLn.out)
      have HAa := Lib.hid (fun w9 (hb : Below wr.heap.size wr w9) => HA.out w9 (bthen HBr.out hb) (mkN 2 name (.slice sa al.length sc) (al.map fun a => (a.1, fix a.2)) []) (attr_of_own (B' := w.heap.size) (by simp only [mkN]; rw [List.length_map]; exact own_keepB HOr.out hb) hbs))
      have HMo := Lib.hid (fun h2 => HMe.out (.slice sa al.length sc) HYes.out h2 (fun k hk => (HOr.out.lt k hk).1))
      clear hat
      have hT3 := HTt.out.below HBr.out
      have HL := Lib.hid (len_any hT3)
      have x2 := HKr.out.cell 2
      have x3 := HKr.out.cell 3
      simp only [tC, List.getElem?_cons_succ, List.getElem?_cons_zero] at x2 x3
      have zR := hT3.blk.free
      clear hT3
      have d1 : decide ((20000 : Int) ≤ (S.live : Int)) = false := by simp; omega
      go_wp2_with fail
      refine HL.out.mono ?_
      rintro e w5 ⟨rfl, hw⟩
      rw [hw]
      clear hw
      by_cases h64 : 64 < al.length
      · have HMx := Lib.hid (HMm.out HYes.out h64)
        have d2 : decide ((64 : Int) < (al.length : Int)) = true := by simp; omega
        clear HMm HMe HMo h64
        go_wp2_with fail
        go_ret2
        exact MakTR.same HTt.out HBr.out HMx.out
      have HMx := Lib.hid (HMo.out (by omega))
      have d2 : decide ((64 : Int) < (al.length : Int)) = false := by simp; omega
      clear HMm HMe HMo h64
      go_wp2_with fail
      refine (long_any ⟨#[]⟩ (by show 0 ≤ _; omega) _).mono ?_
      rintro e w6 ⟨rfl, hw⟩
      rw [hw, show decide (1048576 < (⟨#[]⟩ : ByteArray).size) = false from rfl]
      clear hw
      go_wp2_with fail
      refine HCn.out.mono ?_
      rintro e w7 ⟨rfl, hw7⟩
      have HK7 := Lib.hid (HKr.out.below hw7)
      have HW7 := Lib.hid hw7
      clear d1 d2 x2 x3 hw7 HCn
      go_upto_region 18 with fail
      have hne := stb_ne w7
      have hgl := HK7.out.lt
      have xs := fun (x : InS (StB w7)) => HK7.out.below x.h
      simp only [tC] at xs
      have z0 := fun x => (xs x).cell 0
      have z1 := fun x => (xs x).cell 1
      have z2 := fun x => (xs x).cell 2
      have z3 := fun x => (xs x).cell 3
      have z4 := fun x => (xs x).cell 4
      have z5 := fun x => (xs x).cell 5
      have z6 := fun x => (xs x).cell 6
      have z7 := fun x => (xs x).cell 7
      have z8 := fun x => (xs x).cell 8
      simp only [List.getElem?_cons_succ, List.getElem?_cons_zero] at z0 z1 z2 z3 z4 z5 z6 z7 z8
      clear xs
      refine reg_b (fun _ => undef) 4 (by kernel_rfl) (by kernel_rfl) ?_
      simp only [List.take_succ_cons, List.take_zero, List.drop_succ_cons, List.drop_zero]
      repeat (first
        | (refine m_held (by rfl) (by rfl) (fun K hK => ?_); go_big_quiet_step (fail); refine wpQuiet_nil ?_; refine hK.out _ ?_; clear hK K)
        | (refine m_skip (by rfl) ?_; simp only [Act.put, List.setIfInBounds_toArray, List.set_cons_zero, List.set_cons_succ]))
      refine m_nil ?_
      intro w8 h8
      clear z0 z1 z2 z3 z4 z5 z6 z7 z8 hne
      go_wp2_with fail
      have h8' : Below wr.heap.size wr w8 := bthen HW7.out h8
      refine (HAa.out _ h8').mono ?_
      rintro e w9 ⟨sv', fv', rfl, hT9, hC9, hsv, hfv⟩
      have H9 := Lib.hid hT9
      have HC := Lib.hid hC9
      have HS := Lib.hid hsv
      have HV9 := Lib.hid hfv
      have H8 := Lib.hid (bthen HBr.out h8')
      clear hT9 hC9 hsv hfv h8' h8
      go_wp2_with fail
      go_ret2
      refine ⟨_, sv', fv', _, 0, HMx.out, rfl, H9.out, (Chg.of_below H8.out).trans HC.out (fun _ _ h => h), ?_, HV9.out⟩
      rcases HS.out with e | ⟨k, e, hk⟩
      · exact .inl e
      · exact .inr ⟨k, e, Nat.le_trans H8.out.size hk⟩

end Go.Proofs.YtacdbnhnhdlmpaaGreatDoor.W
end
