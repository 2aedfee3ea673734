/- FormKeys holds: for every input the law returns true and changes nothing. No condition; the three variables that its row lists are tied to the program's text by the given tie. -/
import Derived.Test.YtacdbnhnhdlmpaaGreatDoorFK5
namespace Go.Proofs.YtacdbnhnhdlmpaaGreatDoor
open Go.ChangeShapes Go.WideShapes Go.ChangeAt Go.RowKit Go.Joins Go.Deep
theorem formKeys_reads (os : Os) {H : Type} (enc : TypeId × Value → H) : ∃ places, DataW.whole enc Tryz.prog ((W.laidWorld os).forCall (fun _ _ => 0) ⟨#[], #[.bool false, .string ⟨#[]⟩, .slice none 0 0], []⟩).memory Tryz.f10.params.toList Rows.formKeysSpec.vars false #[Value.bool false, Value.string ⟨#[]⟩, Value.slice none 0 0].toList 8 = some ([.lit (.bool false), .lit (.string []), .nil], [], places) :=
  ⟨[], by kernel_rfl⟩
set_option maxRecDepth 100000 in
theorem formKeys_lifted (os : Os) (started : os.Started) (H : Type) (enc : TypeId × Value → H) (F : Stop.Interp) :
    ReturnsInHanded {} Tryz.checked os 10 .any ((OpenSpec.ofChange Rows.formKeysSpec).preRow enc Tryz.prog Tryz.f10 Rows.formKeysRow.domain false Rows.formKeysRow.laid) (((OpenSpec.ofChange Rows.formKeysSpec).at F).post enc Tryz.prog Tryz.f10 false true false false) := by
  obtain ⟨places, hx⟩ := formKeys_reads os enc
  refine returnsInHanded_of_row (C := Tryz.checked) (s := OpenSpec.ofChange Rows.formKeysSpec) W.own started (by kernel_rfl) Tryz.func10
    (witness_row_atRef (enc := enc) (C := Tryz.checked) false (W.laidWorld os) #[.bool false, .string ⟨#[]⟩, .slice none 0 0] rfl (by kernel_rfl) (by kernel_rfl) (by kernel_rfl)
      (OpenSpec.preRow_of_cond 8 hx (by kernel_rfl) (fun k hk => by cases hk) (by kernel_rfl) (W.laid_met os _))) ?_
  intro w base args ds gs before hval0 hW _ _ _ hl hs _
  have hL : W.Laid w := W.laid_of hl hs
  have hval : ∀ (j : Nat) t v, Tryz.f10.params[j]? = some t → args[j]? = some v → Value.okWide Tryz.prog w .any base t v := hval0
  have hW' := hW
  obtain ⟨p, q, hA0, hV, rfl, _, _⟩ := hW
  have hA : DataW.TrodAll enc Tryz.prog w 0 (fun _ => true) true Tryz.f10.params.toList args.toList ds p := hA0
  rw [Tryz.params10] at hA hval
  obtain ⟨v0, vs0, d0, ds0, p0, q0, hargs, rfl, rfl, t0, r0⟩ := trodAll_cons hA
  obtain ⟨v1, vs1, d1, ds1, p1, q1, rfl, rfl, rfl, t1, r1⟩ := trodAll_cons r0
  obtain ⟨v2, vs2, d2, ds2, p2, q2, rfl, rfl, rfl, t2, r2⟩ := trodAll_cons r1
  obtain ⟨rfl, rfl, rfl⟩ := trodAll_nil r2
  obtain rfl : args = #[v0, v1, v2] := by cases args; simp_all
  obtain ⟨rfl, rfl⟩ := trodVars_none hV
  obtain ⟨b0, rfl, _, _⟩ := open_bool Tryz.underlying4 (hval 0 4 v0 rfl rfl) t0
  obtain ⟨s1, rfl, _, _, ws1⟩ := Go.ChangeMaps.open_string Tryz.underlying9 (hval 1 9 v1 rfl rfl) t1
  obtain ⟨A2, n2, c2, f2, rfl, l2, b2, y2⟩ := W.open_bytes Tryz.underlying87 Tryz.underlying5 (by kernel_rfl) (hval 2 87 v2 rfl rfl) t2
  obtain ⟨x1, rfl⟩ : ∃ x : List UInt8, s1 = ⟨x.toArray⟩ := ⟨s1.data.toList, by cases s1; simp⟩
  refine (W.keysL_any w hL b0 x1 A2 n2 c2 f2 b2 y2).mono fun e w' ⟨he, hb⟩ => ?_
  subst he
  exact ⟨_, rfl, W.law_post W.laidOut (by rw [Tryz.params10]; decide +kernel) (by kernel_rfl) Tryz.underlying4 rfl rfl rfl rfl hW' hb⟩
theorem formKeys_said : Rows.FormKeysSaid :=
  OpenClaim.holds_of_cond 10 Tryz.f10 rfl rfl rfl rfl rfl rfl rfl ⟨rfl, rfl, rfl, rfl, rfl⟩ rfl rfl rfl rfl rfl (by kernel_rfl) Tryz.func10 (by kernel_rfl)
    (of_decide_eq_true (by kernel_rfl)) (by unfold Func.isWrapper; first | (rw [if_pos (by decide +kernel)]; kernel_rfl) | (rw [if_neg (by decide +kernel)]; exact ⟨rfl, rfl⟩))
    (fun os started H enc _ F => by rw [OpenClaim.pre_eq_preRow]; exact formKeys_lifted os started H enc F)
theorem formKeys_plain (f : FuncId) (fn : Func) (hf : Tryz.pinned.checked.prog.funcNamed "knapsack/knapsacklaw38.FormKeys" = some f) (hfn : Tryz.pinned.checked.prog.funcs[f]? = some fn) :
    true = Tryz.pinned.checked.prog.looks [] ∧ ∀ (j : Nat) t, fn.params[j]? = some t → Tryz.pinned.checked.prog.wantsStandIn t = false := by
  obtain rfl : f = 10 := Option.some.inj ((show Tryz.prog.funcNamed "knapsack/knapsacklaw38.FormKeys" = some 10 by kernel_rfl).symm.trans hf) |>.symm
  obtain rfl : fn = Tryz.f10 := (Option.some.inj (Tryz.func10.symm.trans hfn)).symm
  refine ⟨by kernel_rfl, fun j t ht => ?_⟩
  rw [Tryz.params10] at ht
  have hm : t = 4 ∨ t = 9 ∨ t = 87 := by simpa using Array.mem_of_getElem? ht
  rcases hm with rfl | rfl | rfl
  · exact (show Tryz.prog.wantsStandIn 4 = false by kernel_rfl)
  · exact (show Tryz.prog.wantsStandIn 9 = false by kernel_rfl)
  · exact (show Tryz.prog.wantsStandIn 87 = false by kernel_rfl)
theorem formKeys_holds : Rows.FormKeysCardSaid :=
  Claim7.holds_tied_plain_at .later [] _ _ _ _ formKeys_said (fun _ h => by cases h) (by kernel_rfl) (fun _ h => by cases h) formKeys_row_tie rfl ⟨rfl, rfl⟩ (by kernel_rfl) rfl formKeys_plain (by kernel_rfl)
#print axioms formKeys_holds
end Go.Proofs.YtacdbnhnhdlmpaaGreatDoor
