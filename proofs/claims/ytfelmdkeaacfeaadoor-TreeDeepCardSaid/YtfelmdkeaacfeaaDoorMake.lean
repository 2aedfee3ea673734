/- The contract of Make for an element with a one-letter name and no attributes. -/
import Derived.Test.YtfelmdkeaacfeaaDoorElem
import Derived.Test.YtfelmdkeaacfeaaDoorRegB
import Derived.Deep.CutBlock
namespace Go.Proofs.YtfelmdkeaacfeaaDoor.W
open Go.RowKit
set_option linter.unusedVariables false
set_option linter.unusedSimpArgs false

set_option maxRecDepth 100000 in
set_option maxHeartbeats 4000000 in
theorem make_one {B R : Nat} {S : Tr} {sv fv : Value} {w : World} (h : TAt B R S sv fv w) (hf : S.free = []) (hl : S.slots.length < 20000) (c : UInt8) (hc : Ltr c) :
    Calls Tryd.prog 6 #[.pointer (some ⟨R, 0, none⟩), .int .i64 2, .string ⟨#[c]⟩, .string ⟨#[]⟩, .slice none 0 0] w fun e w' => ∃ sv', e = .returned (.tuple #[.int .i64 (S.hd S.slots.length), .int .i64 0]) ∧
      TAt B R (S.snoc (newN 2 [c])) sv' fv w' ∧ Chg (fun k => k = R ∨ sv.ownBlock = some k) w w' ∧ (sv'.ownBlock = sv.ownBlock ∨ ∃ k, sv'.ownBlock = some k ∧ w.heap.size ≤ k) := by
  have HE := Lib.hid (elementName_one c hc)
  have HT := Lib.hid h
  have hlv : S.live ≤ S.slots.length := List.length_filter_le _ _
  have hlt := h.blk.lt
  clear h hc
  go_enter Tryd.func6, Tryd.ntmps6
  go_wp2_with fail
  have hb0 := (Below.refl w.heap.size w).alloc (Nat.le_refl _) (.cells #[.int .i64 2, .string ⟨#[]⟩, .slice none 0 0, .string ⟨#[]⟩, .int .i64 0, .int .i64 0, .int .i64 0, .int .i64 0, .int .i64 0] 45)
  have hx0 := Blk.new w [.int .i64 2, .string ⟨#[]⟩, .slice none 0 0, .string ⟨#[]⟩, .int .i64 0, .int .i64 0, .int .i64 0, .int .i64 0, .int .i64 0] 45
  have HB0 := Lib.hid hb0
  have HX0 := Lib.hid (show Blk (w.alloc (.cells #[.int .i64 2, .string ⟨#[]⟩, .slice none 0 0, .string ⟨#[]⟩, .int .i64 0, .int .i64 0, .int .i64 0, .int .i64 0, .int .i64 0] 45)) _ _ _ from hx0)
  clear hb0 hx0
  generalize w.alloc (.cells #[.int .i64 2, .string ⟨#[]⟩, .slice none 0 0, .string ⟨#[]⟩, .int .i64 0, .int .i64 0, .int .i64 0, .int .i64 0, .int .i64 0] 45) = w1 at *
  refine (HE.out _).mono ?_
  rintro e w2 ⟨rfl, hb2⟩
  go_wp2_with fail
  refine (attrs_nil _).mono ?_
  rintro e w3 ⟨rfl, hb3⟩
  have hb13 := bthen hb2 hb3
  have hx3 := HX0.out.below hb13
  have c1 := hx3.cell 1
  simp only [List.getElem?_cons_succ, List.getElem?_cons_zero] at c1
  have f1 := hx3.free 1
  have HX3 := Lib.hid (hx3.set 1 (.string ⟨#[c]⟩))
  have hB3 := HB0.out.trans (hb13.mono HB0.out.size)
  have hB4 := hB3.setCell (p := ⟨w.heap.size, 1, none⟩) (Nat.le_refl _) (.string ⟨#[c]⟩)
  have HB4 := Lib.hid hB4
  clear hx3 hb2 hb3 hb13 hB3 hB4
  go_upto_region 8 with fail
  clear c1 f1
  generalize w3.setCell ⟨w.heap.size, 1, none⟩ (.string ⟨#[c]⟩) = w4 at *
  go_wp2_with fail
  go_loopw [32] (fun iv wr => iv = .int .i64 0 ∧ wr = w4) (fun _ _ => 0)
  case atStart => exact ⟨rfl, rfl⟩
  case round =>
    obtain ⟨rfl, rfl⟩ := hrel
    have hT4 := HT.out.below HB4.out
    have HL := Lib.hid (len_any hT4)
    have x2 := HX3.out.cell 2
    have x3 := HX3.out.cell 3
    simp only [List.set_cons_succ, List.set_cons_zero, List.getElem?_cons_succ, List.getElem?_cons_zero] at x2 x3
    have HT4 := Lib.hid hT4
    clear hT4
    have d1 : decide ((20000 : Int) ≤ (S.live : Int)) = false := by simp; omega
    go_wp2_with fail
    refine HL.out.mono ?_
    rintro e w5 ⟨rfl, hw⟩
    rw [hw]
    clear hw
    go_wp2_with fail
    refine (long_any ⟨#[]⟩ (by show 0 ≤ _; omega) _).mono ?_
    rintro e w6 ⟨rfl, hw⟩
    rw [hw, show decide (1048576 < (⟨#[]⟩ : ByteArray).size) = false from rfl]
    clear hw
    go_wp2_with fail
    refine (containsFunc_nil _ _).mono ?_
    rintro e w7 ⟨rfl, hw⟩
    rw [hw]
    clear hw d1 x2 x3
    go_upto_region 18 with fail
    have hne := stb_ne wr
    have hgl := HX3.out.lt
    have xs := fun (x : InS (StB wr)) => HX3.out.below x.h
    simp only [List.set_cons_succ, List.set_cons_zero] at xs
    have z0 := fun x => (xs x).cell 0
    have z1 := fun x => (xs x).cell 1
    have z2 := fun x => (xs x).cell 2
    have z3 := fun x => (xs x).cell 3
    have z4 := fun x => (xs x).cell 4
    have z5 := fun x => (xs x).cell 5
    have z6 := fun x => (xs x).cell 6
    have z7 := fun x => (xs x).cell 7
    have z8 := fun x => (xs x).cell 8
    simp only [List.getElem?_cons_succ, List.getElem?_cons_zero] at z0 z1 z2 z3 z4 z5 z6 z7 z8
    have HTX := Lib.hid (fun w9 (hb : Below wr.heap.size wr w9) => add_new (HT4.out.below hb) hf (by omega) (newN 2 [c]) ⟨none, 0, rfl, .inl rfl⟩)
    clear xs
    refine reg_b (fun _ => undef) 4 (by kernel_rfl) (by kernel_rfl) ?_
    simp only [List.take_succ_cons, List.take_zero, List.drop_succ_cons, List.drop_zero]
    repeat (first
      | (refine m_held (by rfl) (by rfl) (fun K hK => ?_); go_big_quiet_step (fail); refine wpQuiet_nil ?_; refine hK.out _ ?_; clear hK K)
      | (refine m_skip (by rfl) ?_; simp only [Act.put, List.setIfInBounds_toArray, List.set_cons_zero, List.set_cons_succ]))
    refine m_nil ?_
    intro w8 h8
    clear z0 z1 z2 z3 z4 z5 z6 z7 z8 hne
    go_wp2_with fail
    refine (HTX.out _ h8).mono ?_
    rintro e w9 ⟨sv', rfl, hT9, hC9, hsv⟩
    have H9 := Lib.hid hT9
    have HC := Lib.hid hC9
    have HS := Lib.hid hsv
    clear hT9 hC9 hsv
    go_wp2_with fail
    go_ret2
    have h8' : Below w.heap.size w w8 := HB4.out.trans (h8.mono HB4.out.size)
    refine ⟨sv', rfl, H9.out, (Chg.of_below h8').trans HC.out (fun _ _ h => h), ?_⟩
    rcases HS.out with e | ⟨k, e, hk⟩
    · exact .inl e
    · exact .inr ⟨k, e, Nat.le_trans h8'.size hk⟩
end Go.Proofs.YtfelmdkeaacfeaaDoor.W
