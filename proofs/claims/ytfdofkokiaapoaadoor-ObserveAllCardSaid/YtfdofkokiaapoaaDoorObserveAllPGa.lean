/- Texts joined: ObserveAllP. -/
import Derived.Test.YtfdofkokiaapoaaDoorGa20
/- ObserveAll holds: for every input the law returns true and changes nothing. No condition; the three variables that its row lists are tied to the program's text by the given tie. -/
namespace Go.Proofs.YtfdofkokiaapoaaDoor
open Go.ChangeShapes Go.WideShapes Go.ChangeAt Go.RowKit Go.Joins Go.Deep
set_option linter.unusedVariables false

theorem observeAll_reads (os : Os) {H : Type} (enc : TypeId × Value → H) : ∃ places, DataW.whole enc Tryd.prog ((W.laidWorld os).forCall (fun _ _ => 0) ⟨#[], #[.slice none 0 0, .slice none 0 0], []⟩).memory Tryd.f3.params.toList Rows.observeAllSpec.vars false #[Value.slice none 0 0, Value.slice none 0 0].toList 8 = some ([.nil, .nil], [], places) :=
  ⟨[], by kernel_rfl⟩

set_option maxRecDepth 100000 in
theorem observeAll_lifted (os : Os) (started : os.Started) (H : Type) (enc : TypeId × Value → H) (F : Stop.Interp) :
    ReturnsInHanded {} Tryd.checked os 3 .any ((OpenSpec.ofChange Rows.observeAllSpec).preRow enc Tryd.prog Tryd.f3 Rows.observeAllRow.domain false Rows.observeAllRow.laid) (((OpenSpec.ofChange Rows.observeAllSpec).at F).post enc Tryd.prog Tryd.f3 false true false false) := by
  obtain ⟨places, hx⟩ := observeAll_reads os enc
  refine returnsInHanded_of_row (C := Tryd.checked) (s := OpenSpec.ofChange Rows.observeAllSpec) W.own started (by kernel_rfl) Tryd.func3
    (witness_row_atRef (enc := enc) (C := Tryd.checked) false (W.laidWorld os) #[.slice none 0 0, .slice none 0 0] rfl (by kernel_rfl) (by kernel_rfl) (by kernel_rfl)
      (OpenSpec.preRow_of_cond 8 hx (by kernel_rfl) (fun k hk => by cases hk) (by kernel_rfl) (W.laid_met os _))) ?_
  intro w base args ds gs before hval0 hW _ _ _ hl hs _
  have hL : W.Laid w := W.laid_of hl hs
  have hval : ∀ (j : Nat) t v, Tryd.f3.params[j]? = some t → args[j]? = some v → Value.okWide Tryd.prog w .any base t v := hval0
  have hW' := hW
  obtain ⟨p, q, hA0, hV, rfl, _, _⟩ := hW
  have hA : DataW.TrodAll enc Tryd.prog w 0 (fun _ => true) true Tryd.f3.params.toList args.toList ds p := hA0
  rw [Tryd.params3] at hA hval
  obtain ⟨v0, vs0, d0, ds0, p0, q0, hargs, rfl, rfl, t0, r0⟩ := trodAll_cons hA
  obtain ⟨v1, vs1, d1, ds1, p1, q1, rfl, rfl, rfl, t1, r1⟩ := trodAll_cons r0
  obtain ⟨rfl, rfl, rfl⟩ := trodAll_nil r1
  obtain rfl : args = #[v0, v1] := by cases args; simp_all
  obtain ⟨rfl, rfl⟩ := trodVars_none hV
  obtain ⟨A0, n0, c0, f0, rfl, l0, b0, y0⟩ := W.open_bytes Tryd.underlying22 Tryd.underlying5 (by kernel_rfl) (hval 0 22 v0 rfl rfl) t0
  obtain ⟨A1, n1, c1, f1, rfl, l1, b1, y1⟩ := W.open_opns Tryd.underlying23 Tryd.underlying50 (by kernel_rfl) (by kernel_rfl) Tryd.underlying5 Tryd.underlying5 Tryd.underlying5 Tryd.underlying5 Tryd.underlying9 (hval 1 23 v1 rfl rfl) t1
  refine (W.all_law hL A0 n0 c0 f0 b0 y0 A1 n1 c1 f1 b1 y1 l0 l1).mono fun e w' ⟨he, hb⟩ => ?_
  subst he
  exact ⟨_, rfl, W.law_post W.laidOut (by rw [Tryd.params3]; decide +kernel) (by kernel_rfl) Tryd.underlying4 rfl rfl rfl rfl hW' hb⟩

theorem observeAll_said : Rows.ObserveAllSaid :=
  OpenClaim.holds_of_cond 3 Tryd.f3 rfl rfl rfl rfl rfl rfl rfl ⟨rfl, rfl, rfl, rfl, rfl⟩ rfl rfl rfl rfl rfl (by kernel_rfl) Tryd.func3 (by kernel_rfl)
    (of_decide_eq_true (by kernel_rfl)) (by unfold Func.isWrapper; first | (rw [if_pos (by decide +kernel)]; kernel_rfl) | (rw [if_neg (by decide +kernel)]; exact ⟨rfl, rfl⟩))
    (fun os started H enc _ F => by rw [OpenClaim.pre_eq_preRow]; exact observeAll_lifted os started H enc F)

theorem observeAll_plain (f : FuncId) (fn : Func) (hf : Tryd.pinned.checked.prog.funcNamed "knapsack/knapsacklaw39.ObserveAll" = some f) (hfn : Tryd.pinned.checked.prog.funcs[f]? = some fn) :
    false = Tryd.pinned.checked.prog.looks [] ∧ ∀ (j : Nat) t, fn.params[j]? = some t → Tryd.pinned.checked.prog.wantsStandIn t = false := by
  obtain rfl : f = 3 := Option.some.inj ((show Tryd.prog.funcNamed "knapsack/knapsacklaw39.ObserveAll" = some 3 by kernel_rfl).symm.trans hf) |>.symm
  obtain rfl : fn = Tryd.f3 := (Option.some.inj (Tryd.func3.symm.trans hfn)).symm
  refine ⟨by kernel_rfl, fun j t ht => ?_⟩
  rw [Tryd.params3] at ht
  have hm : t = 22 ∨ t = 23 := by simpa using Array.mem_of_getElem? ht
  rcases hm with rfl | rfl
  · exact (show Tryd.prog.wantsStandIn 22 = false by kernel_rfl)
  · exact (show Tryd.prog.wantsStandIn 23 = false by kernel_rfl)

theorem observeAll_holds : Rows.ObserveAllCardSaid :=
  Claim7.holds_tied_plain_at .later [] _ _ _ _ observeAll_said (fun _ h => by cases h) (by kernel_rfl) (fun _ h => by cases h) observeAll_row_tie rfl ⟨rfl, rfl⟩ (by kernel_rfl) rfl observeAll_plain (by kernel_rfl)
#print axioms observeAll_holds
end Go.Proofs.YtfdofkokiaapoaaDoor
