/- ArenaFresh holds: for every input the law returns true and changes nothing. No condition. -/
import Derived.Test.YtabmmampgmcibaaFresh
import Derived.Test.YtabmmampgmcibaaClose
namespace Go.Proofs.Ytabmmampgmcibaa
open Go.ChangeShapes Go.WideShapes Go.ChangeAt Go.RowKit Go.Joins Go.Deep
set_option linter.unusedVariables false

set_option maxRecDepth 100000 in
theorem fresh_lifted (os : Os) (started : os.Started) (H : Type) (enc : TypeId × Value → H) :
    ReturnsInHanded {} Try.checked os 4 .any (Rows.arenaFreshSpec.pre6 enc Try.prog Try.f4 Rows.arenaFreshRow.domain false) (Rows.arenaFreshSpec.post enc Try.prog Try.f4 false true false false) := by
  refine returnsInHanded_of_change (C := Try.checked) W.own started (by kernel_rfl) Try.func4
    (ChangeSpec.witness6 (enc := enc) (C := Try.checked) false ⟨#[], #[.agg #[.int .i64 0, .int .i64 0], .int .u8 0, .int .u8 0], []⟩ 8 (by kernel_rfl) (by kernel_rfl) (by kernel_rfl) (by kernel_rfl)) ?_
  intro w base args ds gs before hval0 hW _ _
  have hval : ∀ (j : Nat) t v, Try.f4.params[j]? = some t → args[j]? = some v → Value.okWide Try.prog w .any base t v := hval0
  have hW' := hW
  obtain ⟨p, q, hA0, hV, rfl, _, _⟩ := hW
  have hA : DataW.TrodAll enc Try.prog w 0 (fun _ => true) true Try.f4.params.toList args.toList ds p := hA0
  rw [Try.params4] at hA hval
  obtain ⟨v0, vs0, d0, ds0, p0, q0, hargs, rfl, rfl, t0, r0⟩ := trodAll_cons hA
  obtain ⟨v1, vs1, d1, ds1, p1, q1, rfl, rfl, rfl, t1, r1⟩ := trodAll_cons r0
  obtain ⟨v2, vs2, d2, ds2, p2, q2, rfl, rfl, rfl, t2, r2⟩ := trodAll_cons r1
  obtain ⟨rfl, rfl, rfl⟩ := trodAll_nil r2
  obtain rfl : args = #[v0, v1, v2] := by cases args; simp_all
  obtain ⟨rfl, rfl⟩ := trodVars_none hV
  obtain ⟨c0, c1, y0, y1, m, rfl, _, _, hy0, hy1⟩ := open_agg2 Try.underlying23 (by kernel_rfl) (by kernel_rfl) (hval 0 23 v0 rfl rfl) t0
  obtain ⟨a0, ea0, rfl, _⟩ := DataW.trod_int Try.underlying3 hy0
  obtain ⟨b0, eb0, rfl, _⟩ := DataW.trod_int Try.underlying3 hy1
  simp at ea0 eb0
  subst ea0 eb0
  obtain ⟨n1, rfl, _, _, wf1⟩ := open_int Try.underlying5 (hval 1 5 v1 rfl rfl) t1
  have h1 := bounds_u8 wf1
  obtain ⟨n2, rfl, _, _, wf2⟩ := open_int Try.underlying5 (hval 2 5 v2 rfl rfl) t2
  have h2 := bounds_u8 wf2
  refine (W.fresh_any a0 b0 n1 n2 w h1.1 h1.2 h2.1 h2.2).mono fun e w' ⟨he, hb⟩ => ?_
  subst he
  exact ⟨_, rfl, W.law_post W.laidOut (by rw [Try.params4]; decide +kernel) (by kernel_rfl) Try.underlying4 rfl rfl rfl rfl hW' hb⟩

theorem fresh_holds : Rows.ArenaFreshSaid :=
  OpenClaim.holds_of_wide 4 Try.f4 rfl rfl rfl rfl rfl rfl rfl ⟨rfl, rfl, rfl, rfl, rfl⟩ rfl rfl rfl rfl rfl (by kernel_rfl) Try.func4 (by kernel_rfl)
    (of_decide_eq_true (by kernel_rfl)) (by unfold Func.isWrapper; first | (rw [if_pos (by decide +kernel)]; kernel_rfl) | (rw [if_neg (by decide +kernel)]; exact ⟨rfl, rfl⟩))
    (fun os started H enc _ => fresh_lifted os started H enc)

#print axioms fresh_holds
end Go.Proofs.Ytabmmampgmcibaa
