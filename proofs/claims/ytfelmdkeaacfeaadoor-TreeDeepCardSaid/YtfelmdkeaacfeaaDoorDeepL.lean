/- The law TreeDeep, the walk: awake. -/
import Derived.Test.YtfelmdkeaacfeaaDoorVal
import Derived.Test.YtfelmdkeaacfeaaDoorMake
namespace Go.Proofs.YtfelmdkeaacfeaaDoor.W
open Go.RowKit
set_option linter.unusedVariables false
set_option linter.unusedSimpArgs false

theorem TAt.sl {B R : Nat} {S : Tr} {sv fv : Value} {w : World} (h : TAt B R S sv fv w) (hn : 0 < S.slots.length) : ∃ g cap, sv = .slice (some ⟨g, 0, none⟩) S.slots.length cap := slots_some h hn
theorem chg_low {B R : Nat} {S : Tr} {sv fv : Value} {w0 w w' : World} (h : TAt B R S sv fv w) (hb : Below B w0 w) (k : Chg (fun k => k = R ∨ sv.ownBlock = some k) w w') : Below B w0 w' :=
  hb.trans (k.below (Nat.le_trans h.base (Nat.le_of_lt h.blk.lt)) (fun j hj => by
    rcases hj with rfl | e
    · exact h.base
    · exact (h.slots.lt j e).1))
theorem chg_low1 {B R g cap : Nat} {S : Tr} {fv : Value} {w0 w w' : World} (h : TAt B R S (.slice (some ⟨g, 0, none⟩) S.slots.length cap) fv w) (hb : Below B w0 w) (k : Chg (fun k => k = g) w w') : Below B w0 w' :=
  hb.trans (k.below (Nat.le_trans h.base (Nat.le_of_lt h.blk.lt)) (fun j hj => by subst hj; exact (h.slots.lt j rfl).1))

set_option maxRecDepth 100000 in
set_option maxHeartbeats 4000000 in
theorem awake_any (w : World) : Calls Tryd.prog 4 #[] w fun e w' => e = .returned (.bool true) ∧ Below w.heap.size w w' := by
  go_enter Tryd.func4, Tryd.ntmps4
  go_wp2_with fail
  refine (tree_new 0 0 w).mono ?_
  rintro e w1 ⟨R, sv, rfl, hT1, hb1⟩
  have HM := Lib.hid (make_one hT1 rfl (by simp [newT]) 112 ltr_p)
  have HB1 := Lib.hid hb1
  have HT1 := Lib.hid hT1
  clear hb1 hT1
  go_wp2_with fail
  refine HM.out.mono ?_
  rintro e w2 ⟨sv2, rfl, hT2, hC2, _⟩
  obtain ⟨g, cap, rfl⟩ := hT2.sl (by rw [snoc_len]; omega)
  have hB2 := chg_low HT1.out HB1.out hC2
  have h0 := start_c1 0 0
  obtain ⟨a1, a2, a3, a4, a5, a6, a7⟩ := C1.made ltr_p h0 (by omega)
  have hlk := C1.lk ltr_p h0 (by omega) (by omega)
  obtain ⟨np, hp⟩ := Option.isSome_iff_exists.1 a2
  have HI := Lib.hid (insert_end hT2 a1.lk 0 1 np _ hp a7 a4 a5 (C1.may ltr_p h0 (by omega) hp a7) (by rw [a3, hgt_leaf a6]; decide) hlk)
  have r5 := hT2.blk.cell 5
  simp only [List.getElem?_cons_succ, List.getElem?_cons_zero] at r5
  have HT2 := Lib.hid hT2
  have HB2 := Lib.hid hB2
  clear hT2 hB2 hC2 h0 a1 a2 a3 a4 a5 a6 a7 hlk hp HM HT1
  go_wp2_with fail
  refine HI.out.mono ?_
  rintro e w3 ⟨S', v, hlk, rfl, hrc, hT3, hC3⟩
  have hB3 := chg_low1 HT2.out HB2.out hC3
  obtain ⟨gr, cr, rfl, _⟩ := own_some (own_low hrc (Nat.zero_le _)) (by simp)
  have k0 := hrc.cells (g := gr) rfl 0 (.int .i64 1) rfl
  rw [show (⟨gr, 0, none⟩ : Addr).add 0 = ⟨gr, 0, none⟩ by unfold Addr.add; split <;> simp_all] at k0
  have e2 : (newT 0 0).hd (newT 0 0).slots.length = 2 := by decide
  have HB3 := Lib.hid hB3
  simp only [e2, List.length_singleton, List.length_cons, List.length_nil]
  clear hrc hT3 hC3 hlk HI r5 HT2 e2 hB3
  go_wp2_with fail
  go_ret
  exact ⟨rfl, HB3.out⟩
end Go.Proofs.YtfelmdkeaacfeaaDoor.W
