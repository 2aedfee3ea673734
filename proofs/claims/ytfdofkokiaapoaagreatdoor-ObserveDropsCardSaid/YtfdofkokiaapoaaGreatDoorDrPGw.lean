/- ObserveDrops holds: for every input the law returns true and changes nothing. No condition; the three variables that its row lists are tied to the program's text by the given tie. -/
import Derived.Test.YtfdofkokiaapoaaGreatDoorDrOGw
import Derived.Test.YtfdofkokiaapoaaGreatDoorGv25
namespace Go.Proofs.YtfdofkokiaapoaaGreatDoor
open Go.ChangeShapes Go.WideShapes Go.ChangeAt Go.RowKit Go.Joins Go.Deep
set_option linter.unusedVariables false

theorem observeDrops_reads (os : Os) {H : Type} (enc : TypeId × Value → H) : ∃ places, DataW.whole enc Tryz.prog ((W.laidWorld os).forCall (fun _ _ => 0) ⟨#[], #[.slice none 0 0, .slice none 0 0, .slice none 0 0], []⟩).memory Tryz.f4.params.toList Rows.observeDropsSpec.vars false #[Value.slice none 0 0, Value.slice none 0 0, Value.slice none 0 0].toList 8 = some ([.nil, .nil, .nil], [], places) :=
  ⟨[], by kernel_rfl⟩

set_option maxRecDepth 100000 in
theorem observeDrops_lifted (os : Os) (started : os.Started) (H : Type) (enc : TypeId × Value → H) (F : Stop.Interp) :
    ReturnsInHanded {} Tryz.checked os 4 .any ((OpenSpec.ofChange Rows.observeDropsSpec).preRow enc Tryz.prog Tryz.f4 Rows.observeDropsRow.domain false Rows.observeDropsRow.laid) (((OpenSpec.ofChange Rows.observeDropsSpec).at F).post enc Tryz.prog Tryz.f4 false true false false) := by
  obtain ⟨places, hx⟩ := observeDrops_reads os enc
  refine returnsInHanded_of_row (C := Tryz.checked) (s := OpenSpec.ofChange Rows.observeDropsSpec) W.own started (by kernel_rfl) Tryz.func4
    (witness_row_atRef (enc := enc) (C := Tryz.checked) false (W.laidWorld os) #[.slice none 0 0, .slice none 0 0, .slice none 0 0] rfl (by kernel_rfl) (by kernel_rfl) (by kernel_rfl)
      (OpenSpec.preRow_of_cond 8 hx (by kernel_rfl) (fun k hk => by cases hk) (by kernel_rfl) (W.laid_met os _))) ?_
  intro w base args ds gs before hval0 hW _ _ _ hl hs _
  have hL : W.Laid w := W.laid_of hl hs
  have hval : ∀ (j : Nat) t v, Tryz.f4.params[j]? = some t → args[j]? = some v → Value.okWide Tryz.prog w .any base t v := hval0
  have hW' := hW
  obtain ⟨p, q, hA0, hV, rfl, _, _⟩ := hW
  have hA : DataW.TrodAll enc Tryz.prog w 0 (fun _ => true) true Tryz.f4.params.toList args.toList ds p := hA0
  rw [Tryz.params4] at hA hval
  obtain ⟨v0, vs0, d0, ds0, p0, q0, hargs, rfl, rfl, t0, r0⟩ := trodAll_cons hA
  obtain ⟨v1, vs1, d1, ds1, p1, q1, rfl, rfl, rfl, t1, r1⟩ := trodAll_cons r0
  obtain ⟨v2, vs2, d2, ds2, p2, q2, rfl, rfl, rfl, t2, r2⟩ := trodAll_cons r1
  obtain ⟨rfl, rfl, rfl⟩ := trodAll_nil r2
  obtain rfl : args = #[v0, v1, v2] := by cases args; simp_all
  obtain ⟨rfl, rfl⟩ := trodVars_none hV
  obtain ⟨A0, n0, c0, f0, rfl, l0, b0, y0⟩ := W.open_bytes Tryz.underlying22 Tryz.underlying5 (by kernel_rfl) (hval 0 22 v0 rfl rfl) t0
  obtain ⟨A1, n1, c1, f1, rfl, l1, b1, y1⟩ := W.open_plans Tryz.underlying23 Tryz.underlying80 (by kernel_rfl) (by kernel_rfl) Tryz.underlying5 Tryz.underlying5 Tryz.underlying5 Tryz.underlying5 (hval 1 23 v1 rfl rfl) t1
  obtain ⟨A2, n2, c2, f2, rfl, l2, b2, y2⟩ := W.open_opns Tryz.underlying24 Tryz.underlying43 (by kernel_rfl) (by kernel_rfl) Tryz.underlying5 Tryz.underlying5 Tryz.underlying5 Tryz.underlying5 Tryz.underlying9 (hval 2 24 v2 rfl rfl) t2
  refine (W.drp_law hL A0 n0 c0 f0 b0 y0 A1 n1 c1 f1 b1 y1 A2 n2 c2 f2 b2 y2 l0 l1 l2).mono fun e w' ⟨he, hb⟩ => ?_
  subst he
  exact ⟨_, rfl, W.law_post W.laidOut (by rw [Tryz.params4]; decide +kernel) (by kernel_rfl) Tryz.underlying4 rfl rfl rfl rfl hW' hb⟩

theorem observeDrops_said : Rows.ObserveDropsSaid :=
  OpenClaim.holds_of_cond 4 Tryz.f4 rfl rfl rfl rfl rfl rfl rfl ⟨rfl, rfl, rfl, rfl, rfl⟩ rfl rfl rfl rfl rfl (by kernel_rfl) Tryz.func4 (by kernel_rfl)
    (of_decide_eq_true (by kernel_rfl)) (by unfold Func.isWrapper; first | (rw [if_pos (by decide +kernel)]; kernel_rfl) | (rw [if_neg (by decide +kernel)]; exact ⟨rfl, rfl⟩))
    (fun os started H enc _ F => by rw [OpenClaim.pre_eq_preRow]; exact observeDrops_lifted os started H enc F)

theorem observeDrops_plain (f : FuncId) (fn : Func) (hf : Tryz.pinned.checked.prog.funcNamed "knapsack/knapsacklaw39.ObserveDrops" = some f) (hfn : Tryz.pinned.checked.prog.funcs[f]? = some fn) :
    false = Tryz.pinned.checked.prog.looks [] ∧ ∀ (j : Nat) t, fn.params[j]? = some t → Tryz.pinned.checked.prog.wantsStandIn t = false := by
  obtain rfl : f = 4 := Option.some.inj ((show Tryz.prog.funcNamed "knapsack/knapsacklaw39.ObserveDrops" = some 4 by kernel_rfl).symm.trans hf) |>.symm
  obtain rfl : fn = Tryz.f4 := (Option.some.inj (Tryz.func4.symm.trans hfn)).symm
  refine ⟨by kernel_rfl, fun j t ht => ?_⟩
  rw [Tryz.params4] at ht
  have hm : t = 22 ∨ t = 23 ∨ t = 24 := by simpa using Array.mem_of_getElem? ht
  rcases hm with rfl | rfl | rfl
  · exact (show Tryz.prog.wantsStandIn 22 = false by kernel_rfl)
  · exact (show Tryz.prog.wantsStandIn 23 = false by kernel_rfl)
  · exact (show Tryz.prog.wantsStandIn 24 = false by kernel_rfl)

theorem observeDrops_holds : Rows.ObserveDropsCardSaid :=
  Claim7.holds_tied_plain_at .later [] _ _ _ _ observeDrops_said (fun _ h => by cases h) (by kernel_rfl) (fun _ h => by cases h) observeDrops_row_tie rfl ⟨rfl, rfl⟩ (by kernel_rfl) rfl observeDrops_plain (by kernel_rfl)
#print axioms observeDrops_holds
end Go.Proofs.YtfdofkokiaapoaaGreatDoor
