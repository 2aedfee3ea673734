/- Texts joined: SetB Nod Non TwS Atr FmP MutA Fst DcP. -/
import Derived.Test.YtacdbnhnhdlmpaaGreatDoorFX1
set_option maxRecDepth 100000
set_option maxHeartbeats 40000000
set_option linter.unusedVariables false
set_option linter.unusedSimpArgs false
section
namespace Go.Proofs.YtacdbnhnhdlmpaaGreatDoor.W
open Go.RowKit
inductive SetX (W : Nat) (S : Tr) (i : Nat) (n : Nd) (name val : List UInt8) : Tr → Value → Int → List (List Value) → Prop
  | kind (h : n.kind ≠ 2) : SetX W S i n name val S (.slice none 0 0) 10 []
  | arg (hk : n.kind = 2) (h : headB name = false) : SetX W S i n name val S (.slice none 0 0) 1 []
  | full (hk : n.kind = 2) (h : headB name = true) (h1 : nmOf n.attrs name = -1) (h2 : 64 ≤ n.attrs.length) : SetX W S i n name val S (.slice none 0 0) 5 []
  | add (v av : Value) (hk : n.kind = 2) (h : headB name = true) (h1 : nmOf n.attrs name = -1) (h2 : n.attrs.length < 64) (hfr : ∀ k, av.ownBlock = some k → W ≤ k) :
      SetX W S i n name val (S.put i { n with av := av, attrs := n.attrs ++ [(name, fix val)] }) v 0 [recC 3 (S.hd i) 0 0 0 0 name [] false 0 0]
  | set (v av : Value) (k : Nat) (y : Atr) (hk : n.kind = 2) (h : headB name = true) (h1 : nmOf n.attrs name = (k : Int)) (h2 : n.attrs[k]? = some y) (hfr : ∀ k, av.ownBlock = some k → W ≤ k) :
      SetX W S i n name val (S.put i { n with av := av, attrs := n.attrs.set k (y.1, fix val) }) v 0 [recC 3 (S.hd i) 0 0 0 0 name y.2 true 0 0]
set_option maxRecDepth 100000 in
set_option maxHeartbeats 8000000 in
theorem setAttr_x {B R g cap : Nat} {S : Tr} {fv : Value} {w : World} {K d} (h : TAt B R S (.slice (some ⟨g, 0, none⟩) S.slots.length cap) fv w) (hL : Lk S K d) (i : Nat) (n : Nd) (hi : S.at i = some n) (hk : n.kind = 2) (hl : n.attrs.length ≤ 64)
    (name val : List UInt8) (hnl : name.length ≤ 1000) (hv : val.length ≤ 1000) (hT : Laid w) :
    Calls Tryz.prog 40 #[.pointer (some ⟨R, 0, none⟩), .int .i64 (S.hd i), strV name, strV val] w fun e w' => ∃ S' v er l, SetX w.heap.size S i n name val S' v er l ∧ e = .returned (.tuple #[v, .int .i64 er]) ∧
      RcAt w' w.heap.size v l ∧ TAt B R S' (.slice (some ⟨g, 0, none⟩) S'.slots.length cap) fv w' ∧ Chg (fun k => k = g) w w' := by
  have HE := Lib.hid (element_el h hL i n hi hk)
  have HN := Lib.hid (fun wx (hb : Below w.heap.size w wx) => attrName_b name (by omega) wx (hT.below hb))
  have HR := Lib.hid (fun wx (hb : Below w.heap.size w wx) => repair_any val wx (by omega) (hT.below hb))
  have HM := Lib.hid (fun wx (hb : Below w.heap.size w wx) => named_any (h.below hb) i n hi name (by omega))
  have HTx := Lib.hid h
  have hnm := hnl
  have hfl := fix_len val
  have Hi := Lib.hid hi
  clear hT h
  unfold strV at *
  have hval : ∃ v, v = fix val := ⟨_, rfl⟩
  obtain ⟨val', hval⟩ := hval
  rw [← hval] at hfl HR
  have HVal := Lib.hid hval
  clear hval
  have hsz : (⟨val'.toArray⟩ : ByteArray).size = val'.length := by show val'.toArray.size = _; simp
  have HLg := Lib.hid (fun wx => long_any ⟨val'.toArray⟩ (by rw [hsz]; omega) wx)
  rw [hsz, decide_eq_false (by omega)] at HLg
  have H2 := Lib.hid (fun wx (hb : Below w.heap.size w wx) => nd_cell (HTx.out.below hb) Hi.out 2 (by omega))
  simp only [ndC, List.getElem?_cons_succ, List.getElem?_cons_zero] at H2
  obtain ⟨va, vc, hva, _⟩ := HTx.out.attrs i n (at_slot hi)
  rw [hva] at H2
  clear hi hL
  go_enter Tryz.func40, Tryz.ntmps40
  go_wp2_with fail
  refine HE.out.mono ?_
  rintro e w1 ⟨rfl, hb1⟩
  go_wp2_with fail
  refine (HN.out _ hb1).mono ?_
  rintro e w2 ⟨rfl, hb2⟩
  have hB2 := bthen hb1 hb2
  have HHb := Lib.hid (show headB name = headB name from rfl)
  cases hhb : headB name
  · have HTz := HTx.out.below hB2
    go_wp2_with fail
    go_ret2
    exact ⟨S, _, 1, [], .arg hk hhb, rfl, World.ownsRow_nil _ _ _ _, HTz, Chg.of_below hB2⟩
  have HHx := Lib.hid hhb
  clear hhb
  go_wp2_with fail
  refine (HR.out _ hB2).mono ?_
  rintro e w3 ⟨rfl, hb3⟩
  have hB3 := bthen hB2 hb3
  go_wp2_with fail
  refine (HM.out _ hB3).mono ?_
  rintro e w4 ⟨rfl, hb4⟩
  have hB4 := bthen hB3 hb4
  have c2 := H2.out _ hB4
  go_wp2_with fail
  refine (HLg.out _).mono ?_
  rintro e w5 ⟨rfl, hw⟩
  rw [hw]
  clear hw
  have hcases := nmOf_cases n.attrs name
  have hnr : ∃ r, r = nmOf n.attrs name := ⟨_, rfl⟩
  obtain ⟨r, hnr⟩ := hnr
  rw [← hnr] at hcases ⊢
  have HNr := Lib.hid hnr
  clear HE HN HR HM HLg hb1 hb2 hb3 hb4 hB2 hB3 hnr
  rcases hcases with rfl | ⟨k, y, rfl, hy⟩
  · by_cases hfull : n.attrs.length = 64
    · have d1 : decide ((64 : Int) ≤ (n.attrs.length : Int)) = true := by simp; omega
      go_wp2_with fail
      go_ret2
      exact ⟨S, _, 5, [], (.full hk HHx.out HNr.out.symm (by omega)), rfl, World.ownsRow_nil _ _ _ _, HTx.out.below hB4, Chg.of_below hB4⟩
    · have d1 : decide ((64 : Int) ≤ (n.attrs.length : Int)) = false := by simp; omega
      go_upto_region 11 with fail
      have k6 : Blk (w4.alloc (.cells #[.int .i64 3, .int .i64 (S.hd i), .int .i64 0, .int .i64 0, .int .i64 0, .int .i64 0, .string ⟨name.toArray⟩, .string ⟨#[]⟩, .bool false, .int .i64 0, .int .i64 0] 152)) w4.heap.size [.int .i64 3, .int .i64 (S.hd i), .int .i64 0, .int .i64 0, .int .i64 0, .int .i64 0, .string ⟨name.toArray⟩, .string ⟨#[]⟩, .bool false, .int .i64 0, .int .i64 0] 152 := Blk.new w4 _ _
      have hB6 : Below w.heap.size w (w4.alloc (.cells #[.int .i64 3, .int .i64 (S.hd i), .int .i64 0, .int .i64 0, .int .i64 0, .int .i64 0, .string ⟨name.toArray⟩, .string ⟨#[]⟩, .bool false, .int .i64 0, .int .i64 0] 152)) := hB4.alloc hB4.size _
      have hr6 : w.heap.size ≤ w4.heap.size := hB4.size
      generalize hrb : w4.heap.size = rb at *
      generalize w4.alloc (.cells #[.int .i64 3, .int .i64 (S.hd i), .int .i64 0, .int .i64 0, .int .i64 0, .int .i64 0, .string ⟨name.toArray⟩, .string ⟨#[]⟩, .bool false, .int .i64 0, .int .i64 0] 152) = w6 at *
      have hT6 := HTx.out.below hB6
      have c6 := H2.out _ hB6
      have HCl := Lib.hid (clone_attr (hva ▸ hT6.attrs i n (at_slot Hi.out)) (by omega))
      have z2 := nd_free hT6 (i * 10 + 1 + 2)
      have HT6 := Lib.hid hT6
      have HK6 := Lib.hid k6
      clear hT6 k6 c2
      go_wp2_with fail
      refine HCl.out.mono ?_
      rintro e w7 ⟨v1, rfl, hown7, hb7⟩
      have hB7 := bthen hB6 hb7
      have hT7 := HTx.out.below hB7
      have c7 := H2.out _ hB7
      have z7 := nd_free hT7 (i * 10 + 1 + 2)
      obtain ⟨a1, cap1, rfl⟩ := own_shapeB hown7
      have HO7 := Lib.hid hown7
      have HT7 := Lib.hid hT7
      have HK7 := Lib.hid (HK6.out.below hb7)
      clear hT7 hown7 HCl z2 c6
      go_upto_region 12 with fail
      have hrow8 := own_setB HT7.out.slots (i * 10 + 1 + 2) (.slice a1 n.attrs.length cap1)
      have hch8 : Chg (fun k => k = g) w (w7.setCell ⟨g, i * 10 + 1 + 2, none⟩ (.slice a1 n.attrs.length cap1)) := (Chg.of_below (F := fun k => k = g) hB7).setCell ⟨g, i * 10 + 1 + 2, none⟩ (fun _ => (rfl : g = g)) _
      have hidx : i * 10 + 1 + 2 < (rowC S.slots).length := by rw [rowC_len]; have := at_lt Hi.out; omega
      have hc8 : (w7.setCell ⟨g, i * 10 + 1 + 2, none⟩ (.slice a1 n.attrs.length cap1)).cell? ⟨g, i * 10 + 1 + 2, none⟩ = some (.slice a1 n.attrs.length cap1) := by
        have := hrow8.cells (g := g) rfl (i * 10 + 1 + 2) (.slice a1 n.attrs.length cap1) (List.getElem?_set_self hidx)
        rwa [Go.WideShapes.add_plain, Nat.zero_add] at this
      have hz8 : (w7.setCell ⟨g, i * 10 + 1 + 2, none⟩ (.slice a1 n.attrs.length cap1)).frozen? ⟨g, i * 10 + 1 + 2, none⟩ = false := by
        rcases hrow8.2 with ⟨e, _⟩ | ⟨g', cap', cur, e, _, hh, _⟩
        · cases e
        · cases e; exact Lib.frozen_of_heap hh _
      have hg0 := (HTx.out.slots.lt g rfl).2
      have HK8 := Lib.hid (HK7.out.setOther ⟨g, i * 10 + 1 + 2, none⟩ (by show rb ≠ g; omega) (.slice a1 n.attrs.length cap1))
      have hne1 : ∀ k, (Value.slice a1 n.attrs.length cap1).ownBlock = some k → k ≠ g := fun k hk e => by have := (HO7.out.lt k hk).1; have := hB6.size; omega
      have HO8 := Lib.hid (own_kB (w' := w7.setCell ⟨g, i * 10 + 1 + 2, none⟩ (.slice a1 n.attrs.length cap1)) HO7.out (fun g' hg' => Below.heap_setCell _ _ _ _ (hne1 g' hg')))
      have HRow8 := Lib.hid hrow8
      have HCh8 := Lib.hid hch8
      have hs8 : w6.heap.size ≤ (w7.setCell ⟨g, i * 10 + 1 + 2, none⟩ (.slice a1 n.attrs.length cap1)).heap.size := by simp [World.setCell]; exact hb7.size
      clear hrow8 hch8 HK7 HO7 HT7 c7 z7 hb7
      generalize w7.setCell ⟨g, i * 10 + 1 + 2, none⟩ (.slice a1 n.attrs.length cap1) = w8 at *
      obtain ⟨i0, hi0, hz0, hz1, hz2⟩ := info_parts infoA
      have HLc := Lib.hid (attrC_len n.attrs)
      have HSn := Lib.hid (show attrC (n.attrs ++ [(name, val')]) = attrC n.attrs ++ [.string ⟨name.toArray⟩, .string ⟨val'.toArray⟩] from attrC_snoc n.attrs (name, val'))
      generalize attrC n.attrs = ys at *
      go_wp2_with (at_builtin; refine wpList_append_own _ rfl _ _ 81 rfl w6.heap.size 85 i0 _ 2 32 Tryz.underlying81 hi0 hz0 hz1 hz2 rfl (by decide) _ n.attrs.length _ rfl (HO8.out.alloc _) _ 1 1 [.string ⟨name.toArray⟩, .string ⟨val'.toArray⟩] rfl rfl ?cc ?co ?c1 ?c2 ?c3 ?_)
      case cc =>
        intro j u hu
        have := (Blk.new w8 [.string ⟨name.toArray⟩, .string ⟨val'.toArray⟩] 85).cell j
        rw [Go.WideShapes.add_plain, Nat.zero_add]
        exact this.trans hu
      case co => intro u hu; simp only [List.mem_cons, List.not_mem_nil, or_false] at hu; rcases hu with rfl | rfl <;> rfl
      case c1 => unfold maxLen; omega
      case c2 => omega
      case c3 => simp; omega
      intro v2 w9 hown9 hgr9 _
      obtain ⟨a2, cap2, rfl⟩ := own_shapeB hown9
      have hC9 : Chg (fun k => (Value.slice a1 n.attrs.length cap1).ownBlock = some k) w8 w9 := ((Chg.refl _ w8).alloc _).grown hgr9 (fun k e _ => e)
      have hrow9 := own_kB (w' := w9) HRow8.out (fun g' hg' => hC9.block g' (HRow8.out.lt g' hg').2 (fun e => by cases hg'; exact hne1 _ e rfl))
      have hk9 : Blk w9 rb _ _ := HK8.out.chg hC9 (fun e => by have := (HO8.out.lt rb e).1; have h1 := HK6.out.lt; omega)
      have hc9 : w9.cell? ⟨g, i * 10 + 1 + 2, none⟩ = some (.slice a1 n.attrs.length cap1) := by
        have := hrow9.cells (g := g) rfl (i * 10 + 1 + 2) (.slice a1 n.attrs.length cap1) (List.getElem?_set_self hidx)
        rwa [Go.WideShapes.add_plain, Nat.zero_add] at this
      have hz9 : w9.frozen? ⟨g, i * 10 + 1 + 2, none⟩ = false := by
        rcases hrow9.2 with ⟨e, _⟩ | ⟨g', cap', cur, e, _, hh, _⟩
        · cases e
        · cases e; exact Lib.frozen_of_heap hh _
      have hch9 : Chg (fun k => k = g) w w9 := HCh8.out.trans hC9 (fun k hk e => by have := (HO8.out.lt k e).1; have := hB6.size; omega)
      have HRow9 := Lib.hid hrow9
      have HCh9 := Lib.hid hch9
      have HK9 := Lib.hid hk9
      have HO9 := Lib.hid hown9
      have hs9 : w6.heap.size ≤ w9.heap.size := Nat.le_trans hs8 hC9.size
      clear hown9 hgr9 hC9 hrow9 hk9 hch9 HRow8 HCh8 HK8 HO8 hc8 hz8 HLc
      go_upto_region 16 with fail
      have hrow10 := own_setB HRow9.out (i * 10 + 1 + 2) (.slice a2 (n.attrs.length + 1) cap2)
      rw [List.set_set] at hrow10
      have hch10 := HCh9.out.setCell ⟨g, i * 10 + 1 + 2, none⟩ (fun _ => (rfl : g = g)) (.slice a2 (n.attrs.length + 1) cap2)
      have hne2 : ∀ k, (Value.slice a2 (n.attrs.length + 1) cap2).ownBlock = some k → k ≠ g := fun k hk e => by have := (HO9.out.lt k hk).1; have := hB6.size; omega
      have hown10 := own_kB (w' := w9.setCell ⟨g, i * 10 + 1 + 2, none⟩ (.slice a2 (n.attrs.length + 1) cap2)) HO9.out (fun g' hg' => Below.heap_setCell _ _ _ _ (hne2 g' hg'))
      have hk10 := HK9.out.setOther ⟨g, i * 10 + 1 + 2, none⟩ (by show rb ≠ g; omega) (.slice a2 (n.attrs.length + 1) cap2)
      have hfr : ∀ k, (Value.slice a2 (n.attrs.length + 1) cap2).ownBlock = some k → w.heap.size ≤ k := fun k hk => Nat.le_trans hB6.size (HO9.out.lt k hk).1
      have hs10 : w6.heap.size ≤ (w9.setCell ⟨g, i * 10 + 1 + 2, none⟩ (.slice a2 (n.attrs.length + 1) cap2)).heap.size := by simp [World.setCell]; exact hs9
      rw [← HSn.out] at hown10
      have HT10 := Lib.hid (HTx.out.setAv Hi.out (.slice a2 (n.attrs.length + 1) cap2) (n.attrs ++ [(name, val')]) hch10 (own_low' hrow10) (attr_of_own (B := B) (by rw [List.length_append, List.length_singleton]; exact hown10) (by have := HTx.out.base; have := HTx.out.blk.lt; have := hB6.size; omega)))
      have HCh10 := Lib.hid hch10
      clear hrow10 hch10 hown10 HRow9 HCh9 HK9 HO9 hc9 hz9
      generalize w9.setCell ⟨g, i * 10 + 1 + 2, none⟩ (.slice a2 (n.attrs.length + 1) cap2) = w10 at *
      have b0 := hk10.cell 0
      have b1 := hk10.cell 1
      have b2 := hk10.cell 2
      have b3 := hk10.cell 3
      have b4 := hk10.cell 4
      have b5 := hk10.cell 5
      have b6 := hk10.cell 6
      have b7 := hk10.cell 7
      have b8 := hk10.cell 8
      have b9 := hk10.cell 9
      have b10 := hk10.cell 10
      simp only [List.getElem?_cons_succ, List.getElem?_cons_zero] at b0 b1 b2 b3 b4 b5 b6 b7 b8 b9 b10
      go_wp2_with fail
      go_ret2
      refine ⟨_, _, 0, _, (by rw [HVal.out]; exact .add _ (.slice a2 (n.attrs.length + 1) cap2) hk HHx.out HNr.out.symm (by omega) hfr), rfl, ?_, HT10.out.below ((Below.refl _ w10).alloc (Nat.le_refl _) _), HCh10.out.alloc _⟩
      exact rc_new w10 _ (Nat.le_trans hB6.size hs10) rfl
  · have d1 : decide ((k : Int) < 0) = false := by simp
    go_upto_region 11 with fail
    have k6 : Blk (w4.alloc (.cells #[.int .i64 3, .int .i64 (S.hd i), .int .i64 0, .int .i64 0, .int .i64 0, .int .i64 0, .string ⟨name.toArray⟩, .string ⟨#[]⟩, .bool false, .int .i64 0, .int .i64 0] 152)) w4.heap.size [.int .i64 3, .int .i64 (S.hd i), .int .i64 0, .int .i64 0, .int .i64 0, .int .i64 0, .string ⟨name.toArray⟩, .string ⟨#[]⟩, .bool false, .int .i64 0, .int .i64 0] 152 := Blk.new w4 _ _
    have hB6 : Below w.heap.size w (w4.alloc (.cells #[.int .i64 3, .int .i64 (S.hd i), .int .i64 0, .int .i64 0, .int .i64 0, .int .i64 0, .string ⟨name.toArray⟩, .string ⟨#[]⟩, .bool false, .int .i64 0, .int .i64 0] 152)) := hB4.alloc hB4.size _
    have hr6 : w.heap.size ≤ w4.heap.size := hB4.size
    generalize hrb : w4.heap.size = rb at *
    generalize w4.alloc (.cells #[.int .i64 3, .int .i64 (S.hd i), .int .i64 0, .int .i64 0, .int .i64 0, .int .i64 0, .string ⟨name.toArray⟩, .string ⟨#[]⟩, .bool false, .int .i64 0, .int .i64 0] 152) = w6 at *
    have hT6 := HTx.out.below hB6
    have c6 := H2.out _ hB6
    have HCl := Lib.hid (clone_attr (hva ▸ hT6.attrs i n (at_slot Hi.out)) (by omega))
    have z2 := nd_free hT6 (i * 10 + 1 + 2)
    have HT6 := Lib.hid hT6
    have HK6 := Lib.hid k6
    clear hT6 k6 c2
    go_wp2_with fail
    refine HCl.out.mono ?_
    rintro e w7 ⟨v1, rfl, hown7, hb7⟩
    have hB7 := bthen hB6 hb7
    have hT7 := HTx.out.below hB7
    have c7 := H2.out _ hB7
    have z7 := nd_free hT7 (i * 10 + 1 + 2)
    obtain ⟨a1, cap1, rfl⟩ := own_shapeB hown7
    have HO7 := Lib.hid hown7
    have HT7 := Lib.hid hT7
    have HK7 := Lib.hid (HK6.out.below hb7)
    clear hT7 hown7 HCl z2 c6
    go_upto_region 12 with fail
    have hrow8 := own_setB HT7.out.slots (i * 10 + 1 + 2) (.slice a1 n.attrs.length cap1)
    have hch8 : Chg (fun k => k = g) w (w7.setCell ⟨g, i * 10 + 1 + 2, none⟩ (.slice a1 n.attrs.length cap1)) := (Chg.of_below (F := fun k => k = g) hB7).setCell ⟨g, i * 10 + 1 + 2, none⟩ (fun _ => (rfl : g = g)) _
    have hidx : i * 10 + 1 + 2 < (rowC S.slots).length := by rw [rowC_len]; have := at_lt Hi.out; omega
    have hc8 : (w7.setCell ⟨g, i * 10 + 1 + 2, none⟩ (.slice a1 n.attrs.length cap1)).cell? ⟨g, i * 10 + 1 + 2, none⟩ = some (.slice a1 n.attrs.length cap1) := by
      have := hrow8.cells (g := g) rfl (i * 10 + 1 + 2) (.slice a1 n.attrs.length cap1) (List.getElem?_set_self hidx)
      rwa [Go.WideShapes.add_plain, Nat.zero_add] at this
    have hz8 : (w7.setCell ⟨g, i * 10 + 1 + 2, none⟩ (.slice a1 n.attrs.length cap1)).frozen? ⟨g, i * 10 + 1 + 2, none⟩ = false := by
      rcases hrow8.2 with ⟨e, _⟩ | ⟨g', cap', cur, e, _, hh, _⟩
      · cases e
      · cases e; exact Lib.frozen_of_heap hh _
    have hg0 := (HTx.out.slots.lt g rfl).2
    have HK8 := Lib.hid (HK7.out.setOther ⟨g, i * 10 + 1 + 2, none⟩ (by show rb ≠ g; omega) (.slice a1 n.attrs.length cap1))
    have hne1 : ∀ k, (Value.slice a1 n.attrs.length cap1).ownBlock = some k → k ≠ g := fun k hk e => by have := (HO7.out.lt k hk).1; have := hB6.size; omega
    have HO8 := Lib.hid (own_kB (w' := w7.setCell ⟨g, i * 10 + 1 + 2, none⟩ (.slice a1 n.attrs.length cap1)) HO7.out (fun g' hg' => Below.heap_setCell _ _ _ _ (hne1 g' hg')))
    have HRow8 := Lib.hid hrow8
    have HCh8 := Lib.hid hch8
    have hs8 : w6.heap.size ≤ (w7.setCell ⟨g, i * 10 + 1 + 2, none⟩ (.slice a1 n.attrs.length cap1)).heap.size := by simp [World.setCell]; exact hb7.size
    clear hrow8 hch8 HK7 HO7 HT7 c7 z7 hb7
    generalize w7.setCell ⟨g, i * 10 + 1 + 2, none⟩ (.slice a1 n.attrs.length cap1) = w8 at *
    have hkl := (List.getElem?_eq_some_iff.1 hy).1
    obtain ⟨ga, hga⟩ : ∃ ga, a1 = some ⟨ga, 0, none⟩ := by
      rcases HO8.out.2 with ⟨e, _⟩ | ⟨ga, cap', cur, e, _⟩
      · simp only [Value.slice.injEq] at e; omega
      · simp only [Value.slice.injEq] at e; exact ⟨ga, e.1⟩
    subst hga
    have hga6 := (HO8.out.lt ga rfl).1
    have hga8 := (HO8.out.lt ga rfl).2
    have hrb6 := HK6.out.lt
    have hyc := (attrC_at n.attrs k y hy).2
    have hat := attrC_len n.attrs
    have q1 : w8.cell? ⟨ga, k * 2 + 1, none⟩ = some (strV y.2) := by
      have := HO8.out.cells (g := ga) rfl (2 * k + 1) _ hyc
      rw [Go.WideShapes.add_plain, Nat.zero_add] at this
      rw [show k * 2 + 1 = 2 * k + 1 by omega]
      exact this
    have p7 := HK8.out.cell 7
    have p8 := HK8.out.cell 8
    simp only [List.getElem?_cons_succ, List.getElem?_cons_zero] at p7 p8
    have zf := HK8.out.free
    unfold strV at q1
    go_upto_region 15 with fail
    have hk9 := (HK8.out.set 7 (.string ⟨y.2.toArray⟩)).set 8 (.bool true)
    simp only [List.set_cons_succ, List.set_cons_zero] at hk9
    have hgrb : g ≠ rb := by omega
    have hgarb : ga ≠ rb := by omega
    have oth : ∀ k', k' ≠ rb → ((w8.setCell ⟨rb, 7, none⟩ (.string ⟨y.2.toArray⟩)).setCell ⟨rb, 8, none⟩ (.bool true)).heap[k']? = w8.heap[k']? := fun k' hk' => (Below.heap_setCell _ _ _ _ hk').trans (Below.heap_setCell _ _ _ _ hk')
    have hrow9 := own_kB HRow8.out (fun g' hg' => oth g' (by cases hg'; exact hgrb))
    have hown9 := own_kB HO8.out (fun g' hg' => oth g' (by cases hg'; exact hgarb))
    have hch9 := (HCh8.out.setCell ⟨rb, 7, none⟩ (fun hk => by have : rb < w.heap.size := hk; omega) (.string ⟨y.2.toArray⟩)).setCell ⟨rb, 8, none⟩ (fun hk => by have : rb < w.heap.size := hk; omega) (.bool true)
    have hs9 : w6.heap.size ≤ ((w8.setCell ⟨rb, 7, none⟩ (.string ⟨y.2.toArray⟩)).setCell ⟨rb, 8, none⟩ (.bool true)).heap.size := by simp [World.setCell]; exact hs8
    clear hc8 hz8 HRow8 HO8 HCh8 HK8 p7 p8 zf q1 oth
    generalize (w8.setCell ⟨rb, 7, none⟩ (.string ⟨y.2.toArray⟩)).setCell ⟨rb, 8, none⟩ (.bool true) = w9 at *
    have hc9 : w9.cell? ⟨g, i * 10 + 1 + 2, none⟩ = some (.slice (some ⟨ga, 0, none⟩) n.attrs.length cap1) := by
      have := hrow9.cells (g := g) rfl (i * 10 + 1 + 2) (.slice (some ⟨ga, 0, none⟩) n.attrs.length cap1) (List.getElem?_set_self hidx)
      rwa [Go.WideShapes.add_plain, Nat.zero_add] at this
    have q9 : w9.cell? ⟨ga, k * 2 + 1, none⟩ = some (strV y.2) := by
      have := hown9.cells (g := ga) rfl (2 * k + 1) _ hyc
      rw [Go.WideShapes.add_plain, Nat.zero_add] at this
      rw [show k * 2 + 1 = 2 * k + 1 by omega]
      exact this
    have hz9 : w9.frozen? ⟨ga, k * 2 + 1, none⟩ = false := by
      rcases hown9.2 with ⟨e, _⟩ | ⟨g', cap', cur, e, _, hh, _⟩
      · cases e
      · cases e; exact Lib.frozen_of_heap hh _
    have HRow9 := Lib.hid hrow9
    have HO9 := Lib.hid hown9
    have HCh9 := Lib.hid hch9
    have HK9 := Lib.hid hk9
    clear hrow9 hown9 hch9 hk9
    unfold strV at q9
    go_upto_region 16 with fail
    have hgag : g ≠ ga := by omega
    have hrow10 := own_kB (w' := w9.setCell ⟨ga, k * 2 + 1, none⟩ (.string ⟨val'.toArray⟩)) HRow9.out (fun g' hg' => Below.heap_setCell _ _ _ _ (by cases hg'; exact hgag))
    have hown10 := own_setB HO9.out (k * 2 + 1) (.string ⟨val'.toArray⟩)
    have hch10 := HCh9.out.setCell ⟨ga, k * 2 + 1, none⟩ (fun hk => by have : ga < w.heap.size := hk; have := hB6.size; omega) (.string ⟨val'.toArray⟩)
    have hfr : ∀ k', (Value.slice (some ⟨ga, 0, none⟩) n.attrs.length cap1).ownBlock = some k' → w.heap.size ≤ k' := fun k' hk' => Nat.le_trans hB6.size (HO9.out.lt k' hk').1
    have hk10 := HK9.out.setOther ⟨ga, k * 2 + 1, none⟩ (by show rb ≠ ga; omega) (.string ⟨val'.toArray⟩)
    have hs10 : w6.heap.size ≤ (w9.setCell ⟨ga, k * 2 + 1, none⟩ (.string ⟨val'.toArray⟩)).heap.size := by simp [World.setCell]; exact hs9
    have e5 : (attrC n.attrs).set (k * 2 + 1) (.string ⟨val'.toArray⟩) = attrC (n.attrs.set k (y.1, val')) := by
      rw [show k * 2 + 1 = 2 * k + 1 by omega]; exact (attrC_set n.attrs k y hy val').symm
    rw [e5] at hown10
    have HT10 := Lib.hid (HTx.out.setAv Hi.out (.slice (some ⟨ga, 0, none⟩) n.attrs.length cap1) (n.attrs.set k (y.1, val')) hch10 (own_low' hrow10) (attr_of_own (B := B) (by rw [List.length_set]; exact hown10) (by have := HTx.out.base; have := HTx.out.blk.lt; have := hB6.size; omega)))
    have HCh10 := Lib.hid hch10
    clear hrow10 hch10 hown10 HRow9 HCh9 HK9 HO9 hc9 hz9 q9
    generalize w9.setCell ⟨ga, k * 2 + 1, none⟩ (.string ⟨val'.toArray⟩) = w10 at *
    have b0 := hk10.cell 0
    have b1 := hk10.cell 1
    have b2 := hk10.cell 2
    have b3 := hk10.cell 3
    have b4 := hk10.cell 4
    have b5 := hk10.cell 5
    have b6 := hk10.cell 6
    have b7 := hk10.cell 7
    have b8 := hk10.cell 8
    have b9 := hk10.cell 9
    have b10 := hk10.cell 10
    simp only [List.getElem?_cons_succ, List.getElem?_cons_zero] at b0 b1 b2 b3 b4 b5 b6 b7 b8 b9 b10
    go_wp2_with fail
    go_ret2
    refine ⟨_, _, 0, _, (by rw [HVal.out]; exact .set _ (.slice (some ⟨ga, 0, none⟩) n.attrs.length cap1) k y hk HHx.out HNr.out.symm hy hfr), rfl, ?_, HT10.out.below ((Below.refl _ w10).alloc (Nat.le_refl _) _), HCh10.out.alloc _⟩
    exact rc_new w10 _ (Nat.le_trans hB6.size hs10) rfl
theorem setAttr_any {B R g cap : Nat} {S : Tr} {fv : Value} {w : World} {K d} (h : TAt B R S (.slice (some ⟨g, 0, none⟩) S.slots.length cap) fv w) (hL : Lk S K d) (i : Nat) (n : Nd) (hi : S.at i = some n) (hl : n.attrs.length ≤ 64)
    (name val : List UInt8) (hnl : name.length ≤ 1000) (hv : val.length ≤ 1000) (hT : Laid w) :
    Calls Tryz.prog 40 #[.pointer (some ⟨R, 0, none⟩), .int .i64 (S.hd i), strV name, strV val] w fun e w' => ∃ S' v er l, SetX w.heap.size S i n name val S' v er l ∧ e = .returned (.tuple #[v, .int .i64 er]) ∧
      RcAt w' w.heap.size v l ∧ TAt B R S' (.slice (some ⟨g, 0, none⟩) S'.slots.length cap) fv w' ∧ Chg (fun k => k = g) w w' := by
  by_cases hk : n.kind = 2
  · exact setAttr_x h hL i n hi hk hl name val hnl hv hT
  · refine (setAttr_no h hL i n hi hk _ _).mono ?_
    rintro e w1 ⟨rfl, hb⟩
    exact ⟨S, _, 10, [], .kind hk, rfl, World.ownsRow_nil _ _ _ _, h.below hb, Chg.of_below hb⟩
end Go.Proofs.YtacdbnhnhdlmpaaGreatDoor.W
end
section
namespace Go.Proofs.YtacdbnhnhdlmpaaGreatDoor.W
open Go.RowKit
theorem get_none {B R : Nat} {S : Tr} {sv fv : Value} {w : World} (h : TAt B R S sv fv w) (hd : Int) (hh : HOk hd) (hk : S.ix hd = none) :
    Calls Tryz.prog 125 #[.pointer (some ⟨R, 0, none⟩), .int .i64 hd] w fun e w' => e = .returned (.tuple #[.agg (ndC zeroN).toArray, .bool false]) ∧ Below w.heap.size w w' := by
  have HF := Lib.hid (fun wx (hb : Below w.heap.size w wx) => find_none (h.below hb) hd hh hk)
  clear h hk
  have hb1 := (Below.refl w.heap.size w).alloc (Nat.le_refl _) (.cells (ndC zeroN).toArray 135)
  have k1 := Blk.new w (ndC zeroN) 135
  go_enter Tryz.func125, Tryz.ntmps125
  go_wp2_with fail
  refine (HF.out _ hb1).mono ?_
  rintro e w2 ⟨rfl, hb2⟩
  have k2 := Blk.below k1 hb2
  have HB2 := Lib.hid (bthen hb1 hb2)
  simp only [ndC, zeroN, strV] at k2 ⊢
  have c0 := k2.cell 0
  have c1 := k2.cell 1
  have c2 := k2.cell 2
  have c3 := k2.cell 3
  have c4 := k2.cell 4
  have c5 := k2.cell 5
  have c6 := k2.cell 6
  have c7 := k2.cell 7
  have c8 := k2.cell 8
  have cf := k2.free
  simp only [List.getElem?_cons_succ, List.getElem?_cons_zero] at c0 c1 c2 c3 c4 c5 c6 c7 c8
  have hlt := k2.lt
  clear k1 hb1 hb2 HF
  go_wp2_with fail
  have k9 := (Blk.over zeroN k2 rfl).alloc (.cells (ndC zeroN).toArray 135)
  have b9 := (Below.over zeroN HB2.out (Nat.le_refl w.heap.size)).alloc (by simp [World.setCell]; omega) (.cells (ndC zeroN).toArray 135)
  exact bodyPost_ret (res_nd (by rfl) (by rfl) k9) rfl ⟨rfl, b9⟩
theorem node_none {B R : Nat} {S : Tr} {sv fv : Value} {w : World} (h : TAt B R S sv fv w) (hd : Int) (hh : HOk hd) (hk : S.ix hd = none) :
    Calls Tryz.prog 79 #[.pointer (some ⟨R, 0, none⟩), .int .i64 hd] w fun e w' => ∃ v', e = .returned (.tuple #[.agg (ndC { zeroN with av := v' }).toArray, .bool false]) ∧ w'.ownsRow w.heap.size 85 2 v' 0 [] ∧ Below w.heap.size w w' :=
  node_x (B := B) (R := R) zeroN false hd (fun wx hb => get_none (h.below hb) hd hh hk) ⟨none, 0, rfl, .inl rfl⟩ (by decide) h.blk.free h.blk.lt
end Go.Proofs.YtacdbnhnhdlmpaaGreatDoor.W
end
section
namespace Go.Proofs.YtacdbnhnhdlmpaaGreatDoor.W
open Go.RowKit
theorem element_none {B R : Nat} {S : Tr} {sv fv : Value} {w : World} (h : TAt B R S sv fv w) (hd : Int) (hh : HOk hd) (hk : S.ix hd = none) :
    Calls Tryz.prog 87 #[.pointer (some ⟨R, 0, none⟩), .int .i64 hd] w fun e w' => e = .returned (.tuple #[.pointer none, .int .i64 6]) ∧ Below w.heap.size w w' := by
  have HA := Lib.hid (at_none h hd hh hk)
  clear h hk
  go_enter Tryz.func87, Tryz.ntmps87
  go_wp2_with fail
  refine HA.out.mono ?_
  rintro e w2 ⟨rfl, hb⟩
  go_wp2_with fail
  go_ret2
  exact ⟨rfl, hb⟩
end Go.Proofs.YtacdbnhnhdlmpaaGreatDoor.W
end
section
namespace Go.Proofs.YtacdbnhnhdlmpaaGreatDoor.W
open Go.RowKit
theorem mem_set_or {α : Type} {l : List α} {k : Nat} {x a : α} (h : a ∈ l.set k x) : a = x ∨ a ∈ l := by
  rcases List.mem_or_eq_of_mem_set h with h | h
  · exact .inr h
  · exact .inl h
theorem nmOf_at {l : List Atr} {x : List UInt8} {k : Nat} {y : Atr} (h : nmOf l x = (k : Int)) (hy : l[k]? = some y) : y.1 = x := by
  unfold nmOf at h
  cases e : l.findIdx? (fun y => y.1 == x) with
  | none => rw [e] at h; simp at h
  | some i =>
    rw [e] at h
    have hik : (i : Int) = (k : Int) := by simpa using h
    have hik : i = k := by omega
    subst hik
    obtain ⟨hi, hp, _⟩ := List.findIdx?_eq_some_iff_getElem.1 e
    rw [List.getElem?_eq_getElem hi] at hy
    cases hy
    simpa using hp
theorem nmOf_neg {l : List Atr} {x : List UInt8} (h : nmOf l x = -1) : x ∉ l.map (·.1) := by
  unfold nmOf at h
  cases e : l.findIdx? (fun y => y.1 == x) with
  | some i => rw [e] at h; simp at h
  | none =>
    rw [List.findIdx?_eq_none_iff] at e
    intro hm
    obtain ⟨y, hy, rfl⟩ := List.mem_map.1 hm
    have := e y hy
    simp at this
theorem map_set_same {l : List Atr} {k : Nat} {y : Atr} (hy : l[k]? = some y) (v : List UInt8) : (l.set k (y.1, v)).map (·.1) = l.map (·.1) := by
  apply List.ext_getElem?
  intro j
  simp only [List.getElem?_map, List.getElem?_set]
  by_cases e : k = j
  · subst e
    have hk := (List.getElem?_eq_some_iff.1 hy).1
    rw [if_pos rfl, if_pos hk, hy]; rfl
  · rw [if_neg e]
theorem NdOk.attrs {c : Nat} {n : Nd} (h : NdOk c n) (hk : n.kind = 2) (av : Value) (l : List Atr) (h1 : ∀ a ∈ l, headB a.1 = true ∧ Lib.validD a.2 = true ∧ a.1.length ≤ 200 ∧ a.2.length ≤ 200) (h2 : (l.map (·.1)).Nodup) (h3 : l.length ≤ 64) : NdOk c { n with av := av, attrs := l } :=
  ⟨h.kd, h.el, fun e => (by have e : n.kind = 3 ∨ n.kind = 4 := e; omega), fun e => (by have e : n.kind = 1 := e; omega), h1, h2, h3, h.dl, h.nl⟩
end Go.Proofs.YtacdbnhnhdlmpaaGreatDoor.W
end
section
namespace Go.Proofs.YtacdbnhnhdlmpaaGreatDoor.W
open Go.RowKit
theorem attr_none {B R : Nat} {S : Tr} {sv fv : Value} {w : World} (h : TAt B R S sv fv w) (hd : Int) (hh : HOk hd) (hk : S.ix hd = none) (x : ByteArray) :
    Calls Tryz.prog 44 #[.pointer (some ⟨R, 0, none⟩), .int .i64 hd, .string x] w fun e w' => e = .returned (.tuple #[.string ⟨#[]⟩, .bool false]) ∧ Below w.heap.size w w' := by
  have HA := Lib.hid (element_none h hd hh hk)
  clear h hk
  go_enter Tryz.func44, Tryz.ntmps44
  go_wp2_with fail
  refine HA.out.mono ?_
  rintro e w2 ⟨rfl, hb⟩
  go_wp2_with fail
  go_ret2
  exact ⟨rfl, hb⟩
end Go.Proofs.YtacdbnhnhdlmpaaGreatDoor.W
end
section
namespace Go.Proofs.YtacdbnhnhdlmpaaGreatDoor.W
open Go.RowKit
/-! ### the program's field -/
def FT.sel (F : FT) (a b : Int) : FT := { F with st := (min (max a 0) (nL F.val : Int)).toNat, en := (max (min (max b 0) (nL F.val : Int)) (min (max a 0) (nL F.val : Int))).toNat }
end Go.Proofs.YtacdbnhnhdlmpaaGreatDoor.W
end
section
namespace Go.Proofs.YtacdbnhnhdlmpaaGreatDoor.W
open Go.RowKit
section
variable {B : Nat} {w0 w : World} {R : Nat} {S : Tr} {sv fv : Value} {N : Nat} {l : List Ob} {K : Nat → List Nat} {d : Nat → Nat}
theorem trF_put {i : Nat} {n n' : Nd} (hi : S.at i = some n) {W : Nat} (hn : ∀ k, n'.av.ownBlock = some k → (n.av.ownBlock = some k ∧ (n'.attrs ≠ [] → n.attrs ≠ [])) ∨ W ≤ k) (k : Nat) (h : trF R (S.put i n') sv fv k) : trF R S sv fv k ∨ W ≤ k := by
  rcases h with h | h | h | ⟨x, m, hx, hne, hk⟩
  · exact .inl (.inl h)
  · exact .inl (.inr (.inl h))
  · exact .inl (.inr (.inr (.inl h)))
  · rw [at_put hi] at hx
    by_cases e : x = i
    · subst e
      rw [if_pos rfl] at hx
      cases hx
      rcases hn k hk with ⟨h1, h2⟩ | h1
      · exact .inl (.inr (.inr (.inr ⟨x, n, hi, h2 hne, h1⟩)))
      · exact .inr h1
    · rw [if_neg e] at hx
      exact .inl (.inr (.inr (.inr ⟨x, m, hx, hne, hk⟩)))
end
end Go.Proofs.YtacdbnhnhdlmpaaGreatDoor.W
end
section
namespace Go.Proofs.YtacdbnhnhdlmpaaGreatDoor.W
open Go.RowKit
theorem up_len (X : List FX) (hd : Int) (x : FX) : X.length ≤ (upX X hd x).length ∧ (upX X hd x).length ≤ X.length + 1 ∧ idxX X hd < (upX X hd x).length := by
  unfold upX idxX
  cases h : fixX X hd with
  | none => simp
  | some i => have := (fix_some h).1; simp; omega
end Go.Proofs.YtacdbnhnhdlmpaaGreatDoor.W
end
section
namespace Go.Proofs.YtacdbnhnhdlmpaaGreatDoor.W
open Go.RowKit
section
variable {S : Tr} {K : Nat → List Nat} {d : Nat → Nat}
theorem DcOk.dt (D : DcOk S K d) : ∀ x n, S.at x = some n → n.data.length ≤ 20000 := fun i n hi => by have := (D.ok.nd i n hi).dl; omega
end
end Go.Proofs.YtacdbnhnhdlmpaaGreatDoor.W
end
