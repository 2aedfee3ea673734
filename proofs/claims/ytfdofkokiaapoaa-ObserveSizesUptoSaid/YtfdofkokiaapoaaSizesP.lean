/- ObserveSizes holds for arguments within the bound of its '..UptoSaid': the law returns true and changes nothing. -/
import Derived.Test.YtfdofkokiaapoaaSizes
import Derived.Test.YtfdofkokiaapoaaOpenS
import Derived.JoinedCond
namespace Go.Proofs.Ytfdofkokiaapoaa
open Go.ChangeShapes Go.WideShapes Go.ChangeAt Go.RowKit Go.Joins Go.Deep
set_option linter.unusedVariables false

theorem sizes_contract (H : Type) (enc : TypeId × Value → H) (w : World) (base : Nat) (args : Array Value) (ds gs : List (DataW H)) (before : List MemPlace)
    (hval0 : ∀ (j : Nat) t v, Try.f4.params[j]? = some t → args[j]? = some v → Value.okWide Try.prog w .any base t v)
    (hW : DataW.Whole enc Try.prog Try.f4.params.toList Rows.observeSizesSpec.vars false w args.toList ds gs before) (hk : Rows.uptoSmall H (ds ++ gs) = true) :
    Calls Try.prog 4 args w fun e W' => ∃ v, e = .returned v ∧ Rows.observeSizesSpec.post enc Try.prog Try.f4 false true false false w args v W' := by
  have hval : ∀ (j : Nat) t v, Try.f4.params[j]? = some t → args[j]? = some v → Value.okWide Try.prog w .any base t v := hval0
  have hW' := hW
  obtain ⟨p, q, hA0, hV, rfl, _, _⟩ := hW
  have hA : DataW.TrodAll enc Try.prog w 0 (fun _ => true) true Try.f4.params.toList args.toList ds p := hA0
  rw [Try.params4] at hA hval
  obtain ⟨v0, vs0, d0, ds0, p0, q0, hargs, rfl, rfl, t0, r0⟩ := trodAll_cons hA
  obtain ⟨rfl, rfl, rfl⟩ := trodAll_nil r0
  obtain rfl : args = #[v0] := by cases args; simp_all
  obtain ⟨rfl, rfl⟩ := trodVars_none hV
  simp only [List.append_nil] at hk
  have hb : Rows.uptoBulkAll [d0] ≤ 1048576 := of_decide_eq_true hk
  have hb0 : Rows.uptoBulk d0 ≤ 1048576 := Nat.le_trans (W.bulk_part (by simp)) hb
  obtain ⟨A0, c0, l0, rfl, in0⟩ := W.open_steps Try.underlying44 Try.underlying49 (by kernel_rfl) (by kernel_rfl) Try.underlying5 Try.underlying5 Try.underlying5
    Try.underlying22 Try.underlying31 Try.underlying5 (by kernel_rfl) (by kernel_rfl) (hval 0 44 v0 rfl rfl) t0 hb0
  refine (W.sizes_law A0 l0 c0 w in0).mono fun e w' ⟨he, hb⟩ => ?_
  subst he
  exact ⟨_, rfl, W.law_post W.laidOut (by rw [Try.params4]; decide +kernel) (by kernel_rfl) Try.underlying4 rfl rfl rfl rfl hW' hb⟩

set_option maxRecDepth 100000 in
theorem sizes_lifted (os : Os) (started : os.Started) (H : Type) (enc : TypeId × Value → H) (F : Stop.Interp) :
    ReturnsInHanded {} Try.checked os 4 .any ((Rows.OpenSpec.upto Rows.observeSizesSpec).pre6 enc Try.prog Try.f4 Rows.observeSizesUptoRow.domain false) (((Rows.OpenSpec.upto Rows.observeSizesSpec).at F).post enc Try.prog Try.f4 false true false false) := by
  refine returnsInHanded_of_cond (C := Try.checked) (s := Rows.OpenSpec.upto Rows.observeSizesSpec) (k := Rows.uptoSmall) rfl W.own started (by kernel_rfl) Try.func4
    (OpenSpec.witness (enc := enc) (C := Try.checked) (s := Rows.OpenSpec.upto Rows.observeSizesSpec) (k := Rows.uptoSmall) rfl false ⟨#[], #[.slice none 0 0], []⟩ 8 (by kernel_rfl) (by kernel_rfl) (by kernel_rfl)
      (x := ([.nil], [], [])) (by kernel_rfl) rfl (by kernel_rfl)) ?_
  intro w base args ds gs before hval hW _ hk _
  exact sizes_contract H enc w base args ds gs before hval hW hk

theorem sizes_holds : Rows.ObserveSizesUptoSaid :=
  OpenClaim.holds_of_cond 4 Try.f4 rfl rfl rfl rfl rfl rfl rfl ⟨rfl, rfl, rfl, rfl, rfl⟩ rfl rfl rfl rfl rfl (by kernel_rfl) Try.func4 (by kernel_rfl)
    (of_decide_eq_true (by kernel_rfl)) (by unfold Func.isWrapper; first | (rw [if_pos (by decide +kernel)]; kernel_rfl) | (rw [if_neg (by decide +kernel)]; exact ⟨rfl, rfl⟩))
    (fun os started H enc _ F => sizes_lifted os started H enc F)

#print axioms sizes_holds
end Go.Proofs.Ytfdofkokiaapoaa
