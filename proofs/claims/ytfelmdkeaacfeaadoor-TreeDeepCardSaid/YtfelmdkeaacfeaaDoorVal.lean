/- The contract of Valid at a tree whose links hold and whose nodes are well formed. -/
import Derived.Test.YtfelmdkeaacfeaaDoorValP
import Derived.Test.YtfelmdkeaacfeaaDoorRegB
namespace Go.Proofs.YtfelmdkeaacfeaaDoor.W
open Go.RowKit
set_option linter.unusedVariables false
set_option linter.unusedSimpArgs false
attribute [local go_sem] Oper.semAt_some

set_option maxRecDepth 100000 in
set_option maxHeartbeats 8000000 in
theorem valid_ok {B R g cap r : Nat} {S : Tr} {fv : Value} {w : World} {K : Nat → List Nat} {d : Nat → Nat} {nr : Nd} (h : TAt B R S (.slice (some ⟨g, 0, none⟩) S.slots.length cap) fv w) (hL : Lk S K d)
    (hroot : S.root = S.hd r) (hr : S.at r = some nr) (hrk : nr.kind = 1) (hk : ∀ i n, S.at i = some n → i ≠ r → n.kind ≠ 1) (hlive : S.live ≤ 20000)
    (HF : ∀ i n, S.at i = some n → ∀ wx, TAt B R S (.slice (some ⟨g, 0, none⟩) S.slots.length cap) fv wx → Calls Tryd.prog 39 #[.pointer (some (na g i))] wx fun e w' => e = .returned (.bool true) ∧ Below wx.heap.size wx w')
    (HM : ∀ p k np nk, k ∈ K p → S.at p = some np → S.at k = some nk → mayB S K d p k np nk = true) :
    Calls Tryd.prog 8 #[.pointer (some ⟨R, 0, none⟩)] w fun e w' => e = .returned (.bool true) ∧ Below w.heap.size w w' := by
  have HT := Lib.hid (fun W (k : Agree w W) => h.agree k)
  have HT0 := Lib.hid h
  have HL := Lib.hid hL
  have HAT := Lib.hid (fun W (k : Agree w W) => at_some (h.agree k) (S.hd r) (hd_ok hL hr).1 (hd_ix hL hr))
  have HLN := Lib.hid (fun W (k : Agree w W) => len_any (h.agree k))
  have HW := Lib.hid (fun (i : Nat) (n : Nd) (hi : S.at i = some n) (h0 : n.parent = 0) W (k : Agree w W) => show Calls Tryd.prog 25 #[.pointer (some ⟨R, 0, none⟩), .int .i64 (S.hd i), .int .i64 1] W (fun e w' => e = .returned (.tuple #[.int .i64 (szK K 127 i : Int), .bool true]) ∧ Below W.heap.size W w') from by
    have h1 := hL.one i (by rw [hi]; rfl) ((top_iff hL hi).1 h0)
    have := whole_any hL HF HM _ i n hi rfl W (h.agree k)
    rw [h1] at this
    exact this)
  have hRl := h.blk.lt
  have HR5 := Lib.hid (fun W (k : Agree w W) => ((h.agree k).blk.cell 5).trans (show _ = some (Value.int .i64 (S.hd r)) by rw [← hroot]; rfl))
  have HK0 := Lib.hid (fun W (k : Agree w W) => (nd_cell (h.agree k) hr 0 (by omega)).trans (show _ = some (Value.int .i64 1) by rw [← hrk]; rfl))
  have HKN := Lib.hid hk
  have HRT := Lib.hid (show ∀ n, S.at r = some n → n.kind = 1 from fun n e => by rw [hr] at e; cases e; exact hrk)
  have hfew := hL.few
  clear h hL HF HM hroot hr hrk hk
  refine (callsIn_wide (n := 8)).1 ?_
  refine callsIn_of_wp_marks Tryd.func8 rfl trivial ?_ rfl
  simp only [Tryd.ntmps8, List.size_toArray, List.length_cons, List.length_nil, Nat.reduceAdd, Nat.reduceSub, Array.replicate_succ, Array.replicate_zero, List.push_toArray, List.append_toArray, List.nil_append, List.cons_append]
  gi_wp2_with fail
  have hB1 := ((Below.refl w.heap.size w).alloc (Nat.le_refl _) (.cells #[.pointer (some ⟨R, 0, none⟩)] 23)).alloc (by simp) (.cells #[.bool false] 4)
  have hx1 : Blk ((w.alloc (.cells #[.pointer (some ⟨R, 0, none⟩)] 23)).alloc (.cells #[.bool false] 4)) w.heap.size [.pointer (some ⟨R, 0, none⟩)] 23 := (Blk.new w [_] _).alloc _
  have hy1 : Blk ((w.alloc (.cells #[.pointer (some ⟨R, 0, none⟩)] 23)).alloc (.cells #[.bool false] 4)) (w.heap.size + 1) [.bool false] 4 := by
    have := Blk.new (w.alloc (.cells #[.pointer (some ⟨R, 0, none⟩)] 23)) [.bool false] 4
    rwa [show (w.alloc (.cells #[.pointer (some ⟨R, 0, none⟩)] 23)).heap.size = w.heap.size + 1 by simp] at this
  have HB1 := Lib.hid hB1
  have HX1 := Lib.hid hx1
  have HY1 := Lib.hid hy1
  clear hB1 hx1 hy1
  generalize (w.alloc (.cells #[.pointer (some ⟨R, 0, none⟩)] 23)).alloc (.cells #[.bool false] 4) = W1 at *
  have HA1 := Lib.hid ((Agree.refl w).below HB1.out)
  have x0 := HX1.out.cell 0
  have x5 := HR5.out W1 HA1.out
  simp only [List.getElem?_cons_zero] at x0
  have xl := HX1.out.lt
  have rl : R < W1.heap.size := Nat.lt_of_lt_of_le hRl HB1.out.size
  have y0 := fun x : InS (BlS W1) => (RowKit.Below.cell x.h (p := ⟨w.heap.size, 0, none⟩) xl).trans x0
  have y1 := fun x : InS (BlS W1) => (RowKit.Below.cell x.h (p := ⟨R, 5, none⟩) rl).trans x5
  have hne : Nonempty (InS (BlS W1)) := ⟨⟨W1, Below.refl _ _⟩⟩
  clear x0 x5
  refine reg_mI ⟨BlS W1, fun _ _ w => BlS W1 w, fun _ => .pointer (some (na g r)), fun _ _ => undef, fun _ => [], fun _ => 0⟩ 6 (by kernel_rfl) (by kernel_rfl) (fun _ _ _ h => h) (fun _ _ w cs ty h => RowKit.Below.alloc h h.size _) (fun _ _ _ _ _ h => h) ((Below.refl _ _).drew) ?_
  simp only [List.take_succ_cons, List.take_zero, List.drop_succ_cons, List.drop_zero]
  repeat (first
    | (refine m_held (by rfl) (by rfl) (fun K hK => ?_); go_big_quiet_step (fail); refine wpQuiet_nil ?_; refine hK.out _ ?_; clear hK K)
    | (refine m_skip (by rfl) ?_; simp only [Act.put, List.setIfInBounds_toArray, List.set_cons_zero, List.set_cons_succ]))
  refine m_call (.pointer (some (na g r))) rfl (by rfl) (by rfl) (fun w => by go_simp; exact ⟨rfl, rfl⟩) ?_ ?_
  · intro X w2 h2
    refine (HAT.out w2 (HA1.out.below h2)).mono ?_
    rintro e w3 ⟨rfl, hb⟩
    exact ⟨rfl, RowKit.Below.trans h2 (hb.mono h2.size)⟩
  simp only [Act.put, List.setIfInBounds_toArray, List.set_cons_zero, List.set_cons_succ]
  repeat (first
    | (refine m_held (by rfl) (by rfl) (fun K hK => ?_); go_big_quiet_step (fail); refine wpQuiet_nil ?_; refine hK.out _ ?_; clear hK K)
    | (refine m_skip (by rfl) ?_; simp only [Act.put, List.setIfInBounds_toArray, List.set_cons_zero, List.set_cons_succ]))
  refine m_nil ?_
  intro W2 hw2
  have hb2 : Below W1.heap.size W1 W2 := hw2
  clear y0 y1 hne hw2
  have HA2 := Lib.hid (HA1.out.below hb2)
  have HB2 := Lib.hid (HB1.out.trans (hb2.mono HB1.out.size))
  have HX2 := Lib.hid (HX1.out.below hb2)
  have HY2 := Lib.hid (HY1.out.below hb2)
  clear HX1 HY1 HA1 HB1 hb2 HAT
  have k0 := HK0.out W2 HA2.out
  rw [Nat.add_zero] at k0
  have x0 := HX2.out.cell 0
  simp only [List.getElem?_cons_zero] at x0
  have d0 : decide ((20000 : Int) < (S.live : Int)) = false := by simp; omega
  gi_wp2_with fail
  refine ⟨trivial, (callsIn_wide.2 (HLN.out W2 HA2.out)).mono ?_⟩
  rintro e w3 ⟨rfl, hw⟩
  rw [hw]
  clear hw k0
  have xa := fun o => (World.cell?_alloc_lt W2 o ⟨w.heap.size, 0, none⟩ HX2.out.lt).trans x0
  gi_wp2_with fail
  refine ⟨trivial, (callsIn_wide.2 (all_any R _)).mono ?_⟩
  rintro e w3 ⟨rfl, rfl⟩
  clear xa x0
  have hsz : ((W2.alloc (.cells #[.int .i64 0] 3)).alloc (.cells #[.pointer (some ⟨R, 0, none⟩)] 66)).heap.size = W2.heap.size + 1 + 1 := by simp
  have hc0 : Blk ((W2.alloc (.cells #[.int .i64 0] 3)).alloc (.cells #[.pointer (some ⟨R, 0, none⟩)] 66)) W2.heap.size [.int .i64 0] 3 := (Blk.new W2 [_] _).alloc _
  have hbs : Blk ((W2.alloc (.cells #[.int .i64 0] 3)).alloc (.cells #[.pointer (some ⟨R, 0, none⟩)] 66)) (W2.heap.size + 1) [.pointer (some ⟨R, 0, none⟩)] 66 := by
    have := Blk.new (W2.alloc (.cells #[.int .i64 0] 3)) [.pointer (some ⟨R, 0, none⟩)] 66
    rwa [show (W2.alloc (.cells #[.int .i64 0] 3)).heap.size = W2.heap.size + 1 by simp] at this
  have hb3 : Below W2.heap.size W2 ((W2.alloc (.cells #[.int .i64 0] 3)).alloc (.cells #[.pointer (some ⟨R, 0, none⟩)] 66)) := ((Below.refl _ _).alloc (Nat.le_refl _) _).alloc (by simp) _
  have HC0 := Lib.hid hc0
  have HBS := Lib.hid hbs
  have HSZ := Lib.hid hsz
  have HA3 := Lib.hid (HA2.out.below hb3)
  have HB3 := Lib.hid (HB2.out.trans (hb3.mono HB2.out.size))
  have HX3 := Lib.hid (HX2.out.below hb3)
  have HY3 := Lib.hid (HY2.out.below hb3)
  have hgc : w.heap.size + 1 < W2.heap.size := HY2.out.lt
  have hrs : (W2.alloc (.cells #[.int .i64 0] 3)).heap.size = W2.heap.size + 1 := by simp
  rw [hrs]
  clear hc0 hbs hb3 HX2 HY2 HA2 HB2 hsz hrs
  generalize (W2.alloc (.cells #[.int .i64 0] 3)).alloc (.cells #[.pointer (some ⟨R, 0, none⟩)] 66) = W0 at *
  generalize W2.heap.size = gc at *
  gi_wp2_with fail
  have hstop := all_stops (n := 7) (F := fun k => k = gc) HT0.out HA3.out (by omega) HBS.out (fun k hlt => by omega) (by omega)
  have hz : W0.heap.size = gc + 1 + 1 := HSZ.out
  refine rangeFunc_box (fun x gn a => putB 35 36 5 6 (.int .i64 (S.hd x.1)) (ndV (nodeOf S x.1)) gn a) (fun x gn W => Blk W gn [.int .i64 (nodeOf S x.1).kind, .string ⟨(nodeOf S x.1).name.toArray⟩, (nodeOf S x.1).av, .string ⟨(nodeOf S x.1).data.toArray⟩, .int .i64 (nodeOf S x.1).parent, .int .i64 (nodeOf S x.1).first, .int .i64 (nodeOf S x.1).last, .int .i64 (nodeOf S x.1).prev, .int .i64 (nodeOf S x.1).next] 45)
    (by omega) (gf := 38) (lb := #[.pointer (some ⟨gc + 1, 0, none⟩)]) rfl (enters_of Tryd.func38 (by kernel_rfl) rfl) hstop kpF_t kpF_b (fun _ => rfl)
    (fun pre W => Below w.heap.size w W ∧ KpF W0.heap.size (fun k => k = gc) W0 W ∧ Blk W gc [.int .i64 (cnt S K pre : Int)] 3)
    (fun _ _ _ => False)
    (fun pre W W' row hs hg hr => ⟨hs.1.grown hg hs.1.size (fun k e => by have := (hr k e).1; omega), kpF_t hs.2.1 ⟨hg.size, fun k hk hf => hg.block k (Nat.lt_of_lt_of_le hk hs.2.1.1) (fun e => by have := (hr k e.symm).1; omega)⟩, blk_own hs.2.2 hg hr⟩)
    (fun _ _ _ _ _ hs _ _ => hs) ⟨HB3.out, ⟨Nat.le_refl _, fun _ _ _ => rfl⟩, HC0.out⟩ (fun x gn W W' row hs hg hr => blk_own hs hg hr) ?assign ?body ?done ?stop
  case assign =>
    rintro l pre x W K' ⟨hb, hkp, hcb⟩ hK
    have hWs := hkp.1
    have hK2 := hK W.heap.size (W.alloc (.cells #[.int .i64 (nodeOf S x.1).kind, .string ⟨(nodeOf S x.1).name.toArray⟩, (nodeOf S x.1).av, .string ⟨(nodeOf S x.1).data.toArray⟩, .int .i64 (nodeOf S x.1).parent, .int .i64 (nodeOf S x.1).first, .int .i64 (nodeOf S x.1).last, .int .i64 (nodeOf S x.1).prev, .int .i64 (nodeOf S x.1).next] 45))
      ((keeps_below ((Below.refl _ _).alloc (Nat.le_refl _) _)).from _) (kpF_below hWs ((Below.refl _ _).alloc (Nat.le_refl _) _)) ⟨hb.alloc hb.size _, kpF_t hkp (kpF_below hWs ((Below.refl _ _).alloc (Nat.le_refl _) _)), hcb.alloc _⟩ (Blk.new W [_, _, _, _, _, _, _, _, _] _)
    simp only [putB, ndV, List.setIfInBounds_toArray, List.set_cons_zero, List.set_cons_succ] at hK2
    have hav : ∃ a m c, (nodeOf S x.1).av = .slice a m c := by
      obtain ⟨i, n, hn⟩ := x
      obtain ⟨a, cp, e, _⟩ := HT0.out.attrs i n hn
      exact ⟨a, _, cp, by rw [node_at (at_of hn), e]⟩
    obtain ⟨nav, nal, nac, hav⟩ := hav
    rw [hav] at hK2
    have HK2 := Lib.hid hK2
    have HAV := Lib.hid hav
    clear hK hK2 hstop hb hkp hcb hav
    simp only [encH, ndV, List.zip_toArray, List.zip_cons_cons, List.zip_nil_right, List.size_toArray, List.length_cons, List.length_nil, List.foldl_toArray', List.foldl_toArray, List.foldl_cons, List.foldl_nil, List.setIfInBounds_toArray, List.set_cons_zero, List.set_cons_succ, HAV.out]
    gi_wp2
    exact HK2.out
  case body =>
    rintro l pre ⟨i, n, hn⟩ gn W ⟨hb, hkp, hcb⟩ hbx hlt
    simp only [putB, ndV, List.setIfInBounds_toArray, List.set_cons_zero, List.set_cons_succ]
    have hnn : nodeOf S i = n := node_at (at_of hn)
    simp only [hnn] at hbx ⊢
    have hAg : Agree w W := ⟨hb.size, hb.block⟩
    have hWs := hkp.1
    have bX : Blk W w.heap.size _ _ := HX3.out.kept (hkp.2 _ (by omega) (by omega))
    have x0 := bX.cell 0
    have r5 := HR5.out W hAg
    have z0 := hbx.cell 0
    have z4 := hbx.cell 4
    have z7 := hbx.cell 7
    have z8 := hbx.cell 8
    have c0 := hcb.cell 0
    simp only [List.getElem?_cons_zero, List.getElem?_cons_succ] at x0 z0 z4 z7 z8 c0
    have hcs := cnt_snoc S K pre ⟨i, n, hn⟩
    simp only at hcs
    have hcl := cnt_le HL.out pre
    have hal := addOf_le HL.out (at_of hn)
    have hpl : pre.length ≤ 1000000 := by omega
    have hcl2 : cnt S K pre ≤ 1000000000000 := by omega
    have HC := Lib.hid hcb
    have HBW := Lib.hid hb
    have HKW := Lib.hid hkp
    have HN := Lib.hid hn
    clear hstop hb hkp hcb hbx bX hlt hcl hpl
    by_cases hir : i = r
    · have hk1 : n.kind = 1 := HRT.out n (hir ▸ at_of hn)
      rw [hk1] at z0
      subst hir
      by_cases h0 : n.parent = 0
      · have HW1 := Lib.hid (HW.out i n (at_of hn) h0 W hAg)
        obtain ⟨_, hpv, hnx⟩ := HL.out.top i n (at_of hn) ((top_iff HL.out (at_of hn)).1 h0)
        rw [h0] at z4
        rw [hpv] at z7
        rw [hnx] at z8
        have ho : addOf S K i = szK K 127 i := by unfold addOf; rw [node_at (at_of hn), if_pos h0]
        rw [ho] at hcs hal
        have HCS := Lib.hid hcs
        clear hcs ho h0 hpv hnx
        gi_wp2_with fail
        refine ⟨trivial, (CallsIn.inRound l (callsIn_wide.2 HW1.out)).mono ?_⟩
        rintro e w4 ⟨rfl, hb4⟩
        have c4 := cell_keep hb4 c0
        have e7 := cell_keep hb4 z7
        have e8 := cell_keep hb4 z8
        have cf := (HC.out.below hb4).free 0
        have HB4 := Lib.hid hb4
        have HC4 := Lib.hid ((HC.out.below hb4).set 0 (.int .i64 ((cnt S K pre : Int) + (szK K 127 i : Int))))
        clear hb4 c0 z7 z8
        gi_wp2_with fail
        have hk4 : KpF W0.heap.size (fun k => k = gc) W w4 := kpF_below hWs HB4.out
        have hb9 : Below w.heap.size w w4 := HBW.out.trans (HB4.out.mono HBW.out.size)
        refine ⟨((keeps_below HB4.out).trans (KeepsOthers.setCell _ _ _)).from _, kpF_t hk4 (kpF_set ⟨gc, 0, none⟩ _ rfl), hb9.setCell (p := ⟨gc, 0, none⟩) (by show w.heap.size ≤ gc; omega) _, kpF_t HKW.out (kpF_t hk4 (kpF_set ⟨gc, 0, none⟩ _ rfl)), ?_⟩
        rw [HCS.out]
        exact HC4.out
      · have bp : (n.parent == 0) = false := by simpa using h0
        have ho : addOf S K i = 0 := by unfold addOf; rw [node_at (at_of hn), if_neg h0]
        rw [ho, Nat.add_zero] at hcs
        have HCS := Lib.hid hcs
        clear hcs ho
        gi_wp2_with fail
        refine ⟨KeepsFrom.refl _ _, ⟨Nat.le_refl _, fun _ _ _ => rfl⟩, HBW.out, HKW.out, ?_⟩
        rw [HCS.out]
        exact HC.out
    · have hk1 := HKN.out i n (at_of hn) hir
      have bk : (n.kind == 1) = false := by simpa using hk1
      by_cases h0 : n.parent = 0
      · have HW1 := Lib.hid (HW.out i n (at_of hn) h0 W hAg)
        obtain ⟨_, hpv, hnx⟩ := HL.out.top i n (at_of hn) ((top_iff HL.out (at_of hn)).1 h0)
        rw [h0] at z4
        rw [hpv] at z7
        rw [hnx] at z8
        have ho : addOf S K i = szK K 127 i := by unfold addOf; rw [node_at (at_of hn), if_pos h0]
        rw [ho] at hcs hal
        have HCS := Lib.hid hcs
        clear hcs ho h0 hpv hnx
        gi_wp2_with fail
        refine ⟨trivial, (CallsIn.inRound l (callsIn_wide.2 HW1.out)).mono ?_⟩
        rintro e w4 ⟨rfl, hb4⟩
        have c4 := cell_keep hb4 c0
        have e7 := cell_keep hb4 z7
        have e8 := cell_keep hb4 z8
        have cf := (HC.out.below hb4).free 0
        have HB4 := Lib.hid hb4
        have HC4 := Lib.hid ((HC.out.below hb4).set 0 (.int .i64 ((cnt S K pre : Int) + (szK K 127 i : Int))))
        clear hb4 c0 z7 z8
        gi_wp2_with fail
        have hk4 : KpF W0.heap.size (fun k => k = gc) W w4 := kpF_below hWs HB4.out
        have hb9 : Below w.heap.size w w4 := HBW.out.trans (HB4.out.mono HBW.out.size)
        refine ⟨((keeps_below HB4.out).trans (KeepsOthers.setCell _ _ _)).from _, kpF_t hk4 (kpF_set ⟨gc, 0, none⟩ _ rfl), hb9.setCell (p := ⟨gc, 0, none⟩) (by show w.heap.size ≤ gc; omega) _, kpF_t HKW.out (kpF_t hk4 (kpF_set ⟨gc, 0, none⟩ _ rfl)), ?_⟩
        rw [HCS.out]
        exact HC4.out
      · have bp : (n.parent == 0) = false := by simpa using h0
        have ho : addOf S K i = 0 := by unfold addOf; rw [node_at (at_of hn), if_neg h0]
        rw [ho, Nat.add_zero] at hcs
        have HCS := Lib.hid hcs
        clear hcs ho
        gi_wp2_with fail
        refine ⟨KeepsFrom.refl _ _, ⟨Nat.le_refl _, fun _ _ _ => rfl⟩, HBW.out, HKW.out, ?_⟩
        rw [HCS.out]
        exact HC.out
  case done =>
    rintro D xs W hD rfl ⟨hb, hkp, hcb⟩ hK
    rw [cnt_all HL.out] at hcb
    have hz2 : w.heap.size + 1 < D := by omega
    have hzc : gc < D := by omega
    have hAg : Agree w W := ⟨hb.size, hb.block⟩
    have bX : Blk W w.heap.size _ _ := HX3.out.kept (hkp.2 _ (by omega) (by omega))
    have bY : Blk W (w.heap.size + 1) _ _ := HY3.out.kept (hkp.2 _ (by omega) (by omega))
    have x0 := bX.cell 0
    have c0 := hcb.cell 0
    simp only [List.getElem?_cons_zero] at x0 c0
    have xl := bX.lt
    have cl := hcb.lt
    have y0 := fun x : InS (BlS W) => (RowKit.Below.cell x.h (p := ⟨w.heap.size, 0, none⟩) xl).trans x0
    have y1 := fun x : InS (BlS W) => (RowKit.Below.cell x.h (p := ⟨gc, 0, none⟩) cl).trans c0
    have hne : Nonempty (InS (BlS W)) := ⟨⟨W, Below.refl _ _⟩⟩
    have HAg := Lib.hid hAg
    have HBW := Lib.hid hb
    have HBY := Lib.hid bY
    have HK := Lib.hid hK
    clear hstop hb hkp hcb bX bY x0 c0 hAg hK
    gi_wp2_with fail
    refine reg_mI ⟨BlS W, fun _ _ w => BlS W w, fun _ => .int .i64 (S.live : Int), fun _ _ => undef, fun _ => [], fun _ => 0⟩ 6 (by kernel_rfl) (by kernel_rfl) (fun _ _ _ h => h) (fun _ _ w cs ty h => RowKit.Below.alloc h h.size _) (fun _ _ _ _ _ h => h) ((Below.refl _ _).drew) ?_
    simp only [List.take_succ_cons, List.take_zero, List.drop_succ_cons, List.drop_zero]
    repeat (first
      | (refine m_held (by rfl) (by rfl) (fun K hK => ?_); go_big_quiet_step (fail); refine wpQuiet_nil ?_; refine hK.out _ ?_; clear hK K)
      | (refine m_skip (by rfl) ?_; simp only [Act.put, List.setIfInBounds_toArray, List.set_cons_zero, List.set_cons_succ]))
    refine m_call (.int .i64 (S.live : Int)) rfl (by rfl) (by rfl) (fun w => by go_simp; exact ⟨rfl, rfl⟩) ?_ ?_
    · intro X w8 h8
      refine (HLN.out w8 (HAg.out.below h8)).mono ?_
      rintro e w9 ⟨rfl, rfl⟩
      exact ⟨rfl, h8⟩
    simp only [Act.put, List.setIfInBounds_toArray, List.set_cons_zero, List.set_cons_succ]
    repeat (first
      | (refine m_held (by rfl) (by rfl) (fun K hK => ?_); go_big_quiet_step (fail); refine wpQuiet_nil ?_; refine hK.out _ ?_; clear hK K)
      | (refine m_skip (by rfl) ?_; simp only [Act.put, List.setIfInBounds_toArray, List.set_cons_zero, List.set_cons_succ]))
    refine m_nil ?_
    intro w8 hw8
    have hb8 : Below W.heap.size W w8 := hw8
    have bY8 := HBY.out.below hb8
    have r0 := bY8.cell 0
    have rf := bY8.free 0
    simp only [List.getElem?_cons_zero] at r0
    have HB8 := Lib.hid (HBW.out.trans (hb8.mono HBW.out.size))
    have HK8 := Lib.hid ((keeps_below hb8).same D _ HK.out rfl)
    have HY8 := Lib.hid (bY8.set 0 (.bool true))
    clear y0 y1 hne hw8 hb8 bY8
    gi_wp2_with fail
    have hk1 := (KeepsOthers.setCell w8 ⟨w.heap.size + 1, 0, none⟩ (.bool true)).same D _ HK8.out rfl
    refine one_mark hk1 ?_
    have c5 := HY8.out.cell 0
    simp only [List.set_cons_zero, List.getElem?_cons_zero] at c5
    have c6 := cell_kept c5 (grownBy_putObj' _ D (.deferred none)) (fun r e => by cases e; exact ⟨_, hk1, rfl⟩)
    have hd1 := (Array.getElem?_eq_some_iff.1 hk1).1
    refine ⟨.bool true, ?_, rfl, below_put _ (HB8.out.setCell (p := ⟨w.heap.size + 1, 0, none⟩) (by show _ ≤ w.heap.size + 1; omega) _) (by omega) hd1⟩
    simp [results, Tryd.f8, go_sem, c6]
  case stop => rintro D c pre W hD _ hf _; exact hf.elim
end Go.Proofs.YtfelmdkeaacfeaaDoor.W
