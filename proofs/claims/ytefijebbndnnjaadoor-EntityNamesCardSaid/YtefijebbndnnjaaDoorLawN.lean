/- The walk of EntityNames. -/
import Derived.Test.YtefijebbndnnjaaDoorNames
import Derived.Laws.Cover1
set_option linter.unusedVariables false
set_option linter.unusedSimpArgs false
namespace Go.Proofs.YtefijebbndnnjaaDoor.W
open Go.RowKit

/-- the names in memory -/
structure Nms (w : World) (g : Nat) (wx : World) : Prop where
  laid : Laid wx
  below : Below w.heap.size w wx
  cell : ∀ i x, tabE[i]? = some x → wx.cell? ⟨g, i, none⟩ = some (.string ⟨x.1.toArray⟩)
theorem Nms.next {w : World} {g : Nat} {wx w' : World} (h : Nms w g wx) (hb : Below wx.heap.size wx w') : Nms w g w' :=
  ⟨h.laid.below hb, h.below.trans (hb.mono h.below.size), fun i x hx => cell_keep hb (h.cell i x hx)⟩
theorem lookup_tab : ∀ x ∈ tabE, lookP x.1 = some x.2 ∧ x.2 ≠ [] := by decide +kernel
def NlR (w : World) (g : Nat) (iv : Value) (wr : World) : Prop := ∃ i : Nat, i ≤ 30 ∧ iv = .int .i64 (i : Int) ∧ Nms w g wr
theorem lookupR_is (n : List UInt8) (c : List UInt8) (h : (lookP n).getD [] = c) (w : World) :
    Calls Tryd.prog 19 #[.string ⟨n.toArray⟩] w fun e w' => e = .returned (.string ⟨c.toArray⟩) ∧ Below w.heap.size w w' := by
  rw [← h]; exact lookupR_any ⟨n.toArray⟩ w

set_option maxRecDepth 100000 in
set_option maxHeartbeats 4000000 in
theorem names_law (s : ByteArray) (w : World) (hL : Laid w) :
    Calls Tryd.prog 7 #[.string s] w fun e w' => e = .returned (.bool true) ∧ Below w.heap.size w w' := by
  have HL := Lib.hid hL
  have HA := Lib.hid awake_any
  have HM := Lib.hid names_any
  clear hL
  go_enter Tryd.func7, Tryd.ntmps7
  go_wp2_with fail
  refine (HA.out _ HL.out).mono ?_
  rintro e w1 ⟨rfl, hb⟩
  go_wp2_with fail
  refine (HM.out _ (HL.out.below hb)).mono ?_
  rintro e w2 ⟨v, rfl, hown, hb2⟩
  obtain ⟨g, cap, cur, rfl, hg, hh, hcap, hm, hcs, htk⟩ : ∃ g cap cur, v = .slice (some ⟨g, 0, none⟩) 30 cap ∧ w1.heap.size ≤ g ∧ w2.heap[g]? = some (.cells cur 9 (0, 0)) ∧ 30 ≤ cap ∧ cap ≤ maxLen ∧ cur.size = cap * 1 ∧ cur.toList.take (30 * 1) = nameCells 30 := by
    rcases hown.2 with ⟨_, h⟩ | h
    · cases h
    · exact h
  have hN : Nms w g w2 := ⟨HL.out.below (hb.trans (hb2.mono hb.size)), hb.trans (hb2.mono hb.size), fun i x hx => by
    have hi : i < 30 := (List.getElem?_eq_some_iff.1 hx).1
    rw [Lib.cell_of_heap hh, ← Array.getElem?_toList]
    have := congrArg (·[i]?) htk
    simp only [List.getElem?_take, if_pos (show i < 30 * 1 by omega)] at this
    rw [this]
    simp [nameCells, List.getElem?_take, hi, hx]⟩
  clear hown hh htk hcs
  go_wp2_with fail
  go_loopw [4] (fun iv wr => NlR w g iv wr) (fun iv _ => 30 - (intOf iv).toNat)
  case atStart => exact ⟨0, by omega, rfl, hN⟩
  case round =>
    obtain ⟨i, hi, rfl, hn⟩ := hrel
    have HN := Lib.hid hn
    clear hn hN
    by_cases hlt : i < 30
    · obtain ⟨x, hx⟩ : ∃ x, tabE[i]? = some x := ⟨_, List.getElem?_eq_getElem (by have e : tabE.length = 30 := rfl; omega)⟩
      obtain ⟨hl1, hl2⟩ := lookup_tab x (List.mem_of_getElem? hx)
      have HK := Lib.hid (lookup_is x.1 _ hl1)
      have HR := Lib.hid (lookupR_is x.1 x.2 (by rw [hl1]; rfl))
      have g0 := HN.out.cell i x hx
      go_wp2_with fail
      refine (HK.out _ HN.out.laid).mono ?_
      rintro e w3 ⟨rfl, hb3⟩
      have HN3 := Lib.hid (HN.out.next hb3)
      unfold lookV
      clear g0
      go_upto_region 10 with fail
      have hne : Nonempty (InS (Nms w g)) := ⟨⟨_, HN3.out⟩⟩
      have hx0 : ∀ y : InS (Nms w g), y.w.cell? ⟨g, i, none⟩ = some (.string ⟨x.1.toArray⟩) := fun y => y.h.cell i x hx
      have hx2 : (x.2 == ([] : List UInt8)) = false := by simpa using hl2
      by_cases h0 : i = 0
      · subst h0
        clear hl1 hl2
        refine reg_st (Nms w g) (fun _ => Nms w g) (by kernel_rfl) (by kernel_rfl) (by kernel_rfl) (fun _ _ h => h) (HN3.out.next (Go.Joins.below_draws _ _ 1)) ?_
        repeat (first
          | (refine st_held (by rfl) (fun K hK => ?_); go_big_quiet_step (fail); refine wpQuiet_nil ?_; refine hK.out _ ?_; clear hK K)
          | (refine st_skip (by rfl) ?_; simp only [Act.put, List.setIfInBounds_toArray, List.set_cons_zero, List.set_cons_succ]))
        refine st_call (.string ⟨x.2.toArray⟩) (by rfl) (by rfl) (fun w => by go_simp; exact ⟨rfl, rfl⟩) ?_ ?_
        · rintro wx h
          refine (HR.out wx).mono ?_
          rintro e w4 ⟨rfl, hb4⟩
          exact ⟨rfl, h.next hb4⟩
        simp only [Act.put, List.setIfInBounds_toArray, List.set_cons_zero, List.set_cons_succ]
        repeat (first
          | (refine st_held (by rfl) (fun K hK => ?_); go_big_quiet_step (fail); refine wpQuiet_nil ?_; refine hK.out _ ?_; clear hK K)
          | (refine st_skip (by rfl) ?_; simp only [Act.put, List.setIfInBounds_toArray, List.set_cons_zero, List.set_cons_succ]))
        refine st_nil ?_
        rintro wx h
        go_wp2_with fail
        exact ⟨⟨1, by omega, rfl, h⟩, by decide⟩
      · obtain ⟨y, hy⟩ : ∃ y, tabE[i - 1]? = some y := ⟨_, List.getElem?_eq_getElem (by have e : tabE.length = 30 := rfl; omega)⟩
        have hls : Op.bytesLess y.1 x.1 = true := tab_less hy hx (by omega)
        have hx1 : ∀ z : InS (Nms w g), z.w.cell? ⟨g, i - 1, none⟩ = some (.string ⟨y.1.toArray⟩) := fun z => z.h.cell (i - 1) y hy
        have e0 : (0 : Int) < (i : Int) := by omega
        have e6 : decide (0 < i) = true := decide_eq_true (by omega)
        have e5 : decide ((0 : Int) < (i : Int)) = true := decide_eq_true e0
        have e1 : (0 : Int) ≤ (i : Int) - 1 := by omega
        have e2 : (i : Int) - 1 < 30 := by omega
        have e3 : ((i : Int) - 1).toNat = i - 1 := by omega
        clear hl1 hl2 hx hy h0
        refine reg_st (Nms w g) (fun _ => Nms w g) (by kernel_rfl) (by kernel_rfl) (by kernel_rfl) (fun _ _ h => h) (HN3.out.next (Go.Joins.below_draws _ _ 1)) ?_
        repeat (first
          | (refine st_held (by rfl) (fun K hK => ?_); go_big_quiet_step (fail); refine wpQuiet_nil ?_; refine hK.out _ ?_; clear hK K)
          | (refine st_skip (by rfl) ?_; simp only [Act.put, List.setIfInBounds_toArray, List.set_cons_zero, List.set_cons_succ]))
        refine st_call (.string ⟨x.2.toArray⟩) (by rfl) (by rfl) (fun w => by go_simp; exact ⟨rfl, rfl⟩) ?_ ?_
        · rintro wx h
          refine (HR.out wx).mono ?_
          rintro e w4 ⟨rfl, hb4⟩
          exact ⟨rfl, h.next hb4⟩
        simp only [Act.put, List.setIfInBounds_toArray, List.set_cons_zero, List.set_cons_succ]
        repeat (first
          | (refine st_held (by rfl) (fun K hK => ?_); go_big_quiet_step (fail); refine wpQuiet_nil ?_; refine hK.out _ ?_; clear hK K)
          | (refine st_skip (by rfl) ?_; simp only [Act.put, List.setIfInBounds_toArray, List.set_cons_zero, List.set_cons_succ]))
        refine st_nil ?_
        rintro wx h
        go_wp2_with fail
        exact ⟨⟨i + 1, by omega, by go_num, h⟩, by simp [intOf]; omega⟩
    · obtain rfl : i = 30 := by omega
      have HK := Lib.hid (fun wx hx => lookup_any s wx hx)
      have HR := Lib.hid (fun wx => lookupR_any s wx)
      cases hl : lookP s.data.toList with
      | none =>
        rw [hl] at HK HR
        go_wp2_with fail
        refine (HK.out _ HN.out.laid).mono ?_
        rintro e w3 ⟨rfl, hb3⟩
        have HN3 := Lib.hid (HN.out.next hb3)
        unfold lookV
        go_wp2_with fail
        refine (HR.out _).mono ?_
        rintro e w4 ⟨rfl, hb4⟩
        have HN4 := Lib.hid (HN3.out.next hb4)
        go_wp2_with fail
        go_ret
        exact ⟨by simp, HN4.out.below⟩
      | some c =>
        have hcn : (c == ([] : List UInt8)) = false := by
          unfold lookP at hl
          obtain ⟨p, hp, rfl⟩ := Option.map_eq_some_iff.1 hl
          simpa using (lookup_tab p (List.mem_of_find?_eq_some hp)).2
        rw [hl] at HK HR
        go_wp2_with fail
        refine (HK.out _ HN.out.laid).mono ?_
        rintro e w3 ⟨rfl, hb3⟩
        have HN3 := Lib.hid (HN.out.next hb3)
        unfold lookV
        go_wp2_with fail
        refine (HR.out _).mono ?_
        rintro e w4 ⟨rfl, hb4⟩
        have HN4 := Lib.hid (HN3.out.next hb4)
        go_wp2_with fail
        go_ret
        exact ⟨by simp, HN4.out.below⟩
end Go.Proofs.YtefijebbndnnjaaDoor.W
