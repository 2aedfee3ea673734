/- ArenaAll holds: for every input the law returns true and changes nothing. No condition. -/
import Derived.Test.YtabmmampgmcibaaAll
import Derived.Test.YtabmmampgmcibaaOpen
namespace Go.Proofs.Ytabmmampgmcibaa
open Go.ChangeShapes Go.WideShapes Go.ChangeAt Go.RowKit Go.Joins Go.Deep
set_option linter.unusedVariables false

set_option maxRecDepth 100000 in
theorem arenaAll_lifted (os : Os) (started : os.Started) (H : Type) (enc : TypeId × Value → H) :
    ReturnsInHanded {} Try.checked os 9 .any (Rows.arenaAllSpec.pre6 enc Try.prog Try.f9 Rows.arenaAllRow.domain false) (Rows.arenaAllSpec.post enc Try.prog Try.f9 false true false false) := by
  refine returnsInHanded_of_change (C := Try.checked) W.own started (by kernel_rfl) Try.func9
    (ChangeSpec.witness6 (enc := enc) (C := Try.checked) false ⟨#[], #[.agg #[.int .i64 0, .int .i64 0], .slice none 0 0, .slice none 0 0], []⟩ 8 (by kernel_rfl) (by kernel_rfl) (by kernel_rfl) (by kernel_rfl)) ?_
  intro w base args ds gs before hval0 hW _ _
  have hval : ∀ (j : Nat) t v, Try.f9.params[j]? = some t → args[j]? = some v → Value.okWide Try.prog w .any base t v := hval0
  have hW' := hW
  obtain ⟨p, q, hA0, hV, rfl, _, _⟩ := hW
  have hA : DataW.TrodAll enc Try.prog w 0 (fun _ => true) true Try.f9.params.toList args.toList ds p := hA0
  rw [Try.params9] at hA hval
  obtain ⟨v0, vs0, d0, ds0, p0, q0, hargs, rfl, rfl, t0, r0⟩ := trodAll_cons hA
  obtain ⟨v1, vs1, d1, ds1, p1, q1, rfl, rfl, rfl, t1, r1⟩ := trodAll_cons r0
  obtain ⟨v2, vs2, d2, ds2, p2, q2, rfl, rfl, rfl, t2, r2⟩ := trodAll_cons r1
  obtain ⟨rfl, rfl, rfl⟩ := trodAll_nil r2
  obtain rfl : args = #[v0, v1, v2] := by cases args; simp_all
  obtain ⟨rfl, rfl⟩ := trodVars_none hV
  obtain ⟨c0, c1, y0, y1, m, rfl, _, _, hy0, hy1⟩ := open_agg2 Try.underlying23 (by kernel_rfl) (by kernel_rfl) (hval 0 23 v0 rfl rfl) t0
  obtain ⟨a0, ea0, rfl, _⟩ := DataW.trod_int Try.underlying3 hy0
  obtain ⟨b0, eb0, rfl, _⟩ := DataW.trod_int Try.underlying3 hy1
  simp at ea0 eb0
  subst ea0 eb0
  obtain ⟨A1, n1, c1, f1, rfl, in1, wf1⟩ := W.open_in Try.underlying58 Try.underlying69 (by kernel_rfl) (by decide) (hval 1 58 v1 rfl rfl) t1
  have h1 := fun j => bounds_i16 (wf1 j)
  obtain ⟨A2, n2, c2, f2, rfl, in2, wf2⟩ := W.open_in Try.underlying38 Try.underlying5 (by kernel_rfl) (by decide) (hval 2 38 v2 rfl rfl) t2
  have h2 := fun j => bounds_u8 (wf2 j)
  refine (W.all_law a0 b0 A1 A2 n1 c1 n2 c2 f1 f2 w in1 in2 (fun j => (h1 j).1) (fun j => (h1 j).2) (fun j => (h2 j).1) (fun j => (h2 j).2)).mono fun e w' ⟨he, hb⟩ => ?_
  subst he
  exact ⟨_, rfl, W.law_post W.laidOut (by rw [Try.params9]; decide +kernel) (by kernel_rfl) Try.underlying4 rfl rfl rfl rfl hW' hb⟩

theorem arenaAll_holds : Rows.ArenaAllSaid :=
  OpenClaim.holds_of_wide 9 Try.f9 rfl rfl rfl rfl rfl rfl rfl ⟨rfl, rfl, rfl, rfl, rfl⟩ rfl rfl rfl rfl rfl (by kernel_rfl) Try.func9 (by kernel_rfl)
    (of_decide_eq_true (by kernel_rfl)) (by unfold Func.isWrapper; first | (rw [if_pos (by decide +kernel)]; kernel_rfl) | (rw [if_neg (by decide +kernel)]; exact ⟨rfl, rfl⟩))
    (fun os started H enc _ => arenaAll_lifted os started H enc)

#print axioms arenaAll_holds
end Go.Proofs.Ytabmmampgmcibaa
