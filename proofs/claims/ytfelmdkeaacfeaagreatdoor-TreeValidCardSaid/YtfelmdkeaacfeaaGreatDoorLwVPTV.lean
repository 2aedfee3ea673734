/- TreeValid holds: for every input the law returns true and changes nothing. No condition; the three variables that its row lists are tied to the program's text by the given tie. -/
import Derived.Test.YtfelmdkeaacfeaaGreatDoorTV3
namespace Go.Proofs.YtfelmdkeaacfeaaGreatDoor
open Go.ChangeShapes Go.WideShapes Go.ChangeAt Go.RowKit Go.Joins Go.Deep
theorem BM (os:Os){H:Type}(enc:TypeId×Value→H):∃places,DataW.whole enc Tryz.prog ((W.laidWorld os).forCall (fun _ _=>0) ⟨#[],#[.slice none 0 0],[]⟩).memory Tryz.f8.params.toList Rows.treeValidSpec.vars false #[Value.slice none 0 0].toList 8=some ([.nil],[],places) :=
 ⟨[],by kernel_rfl⟩
set_option maxRecDepth 100000 in
theorem Ai (os:Os) (started:os.Started) (H:Type) (enc:TypeId×Value→H) (F:Stop.Interp) :
  ReturnsInHanded {} Tryz.checked os 8 .any ((OpenSpec.ofChange Rows.treeValidSpec).preRow enc Tryz.prog Tryz.f8 Rows.treeValidRow.domain false Rows.treeValidRow.laid) (((OpenSpec.ofChange Rows.treeValidSpec).at F).post enc Tryz.prog Tryz.f8 false true false false):=by
 obtain⟨places,hx⟩:=BM os enc
 refine returnsInHanded_of_row (C:=Tryz.checked) (s:=OpenSpec.ofChange Rows.treeValidSpec) W.own started (by kernel_rfl) Tryz.func8
  (witness_row_atRef (enc:=enc) (C:=Tryz.checked) false (W.laidWorld os) #[.slice none 0 0] rfl (by kernel_rfl) (by kernel_rfl) (by kernel_rfl)
   (OpenSpec.preRow_of_cond 8 hx (by kernel_rfl) (fun k hk=>by cases hk) (by kernel_rfl) (W.laid_met os _))) ?_
 intro w base args ds gs before hval0 hW _ _ _ hl hs _
 have hL:W.Laid w:=W.RJ hl hs
 have hval:∀(j:Nat) t v,Tryz.f8.params[j]? = some t→args[j]? = some v→Value.okWide Tryz.prog w .any base t v:=hval0
 have hW':=hW
 obtain⟨p,q,hA0,hV,rfl,_,_⟩:=hW
 have hA:DataW.TrodAll enc Tryz.prog w 0 (fun _=>true) true Tryz.f8.params.toList args.toList ds p:=hA0
 rw [Tryz.params8] at hA hval
 obtain⟨v0,vs0,d0,ds0,p0,q0,hargs,rfl,rfl,t0,r0⟩:=trodAll_cons hA
 obtain⟨rfl,rfl,rfl⟩:=trodAll_nil r0
 obtain rfl:args=#[v0]:=by cases args;simp_all
 obtain⟨rfl,rfl⟩:=trodVars_none hV
 obtain⟨A0,n0,c0,f0,rfl,l0,b0,y0⟩:=W.N7 Tryz.underlying22 Tryz.underlying39 (by kernel_rfl) (by kernel_rfl) Tryz.underlying5 Tryz.underlying5 Tryz.underlying5 Tryz.underlying5 Tryz.underlying9 Tryz.underlying9 Tryz.underlying37 Tryz.underlying37 (hval 0 22 v0 rfl rfl) t0
 refine(W.Dv hL A0 n0 c0 f0 b0 l0 y0).mono fun e w' ⟨he,hb⟩=>?_
 subst he
 exact⟨_,rfl,W.Qa W.laidOut (by rw [Tryz.params8];decide +kernel) (by kernel_rfl) Tryz.underlying4 rfl rfl rfl rfl hW' hb⟩
theorem treeValid_said:Rows.TreeValidSaid :=
 OpenClaim.holds_of_cond 8 Tryz.f8 rfl rfl rfl rfl rfl rfl rfl ⟨rfl,rfl,rfl,rfl,rfl⟩ rfl rfl rfl rfl rfl (by kernel_rfl) Tryz.func8 (by kernel_rfl)
  (of_decide_eq_true (by kernel_rfl)) (by unfold Func.isWrapper;first | (rw [if_pos (by decide +kernel)];kernel_rfl) | (rw [if_neg (by decide +kernel)];exact⟨rfl,rfl⟩))
  (fun os started H enc _ F=>by rw [OpenClaim.pre_eq_preRow];exact Ai os started H enc F)
theorem BN (f : FuncId)(fn : Func)(hf : Tryz.pinned.checked.prog.funcNamed "knapsack/knapsacklaw07.TreeValid" = some f)(hfn : Tryz.pinned.checked.prog.funcs[f]? = some fn) :
  false=Tryz.pinned.checked.prog.looks []∧∀(j:Nat) t,fn.params[j]? = some t→Tryz.pinned.checked.prog.wantsStandIn t=false:=by
 obtain rfl : f = 8 := Option.some.inj ((show Tryz.prog.funcNamed "knapsack/knapsacklaw07.TreeValid" = some 8 by kernel_rfl).symm.trans hf) |>.symm
 obtain rfl:fn=Tryz.f8:=(Option.some.inj (Tryz.func8.symm.trans hfn)).symm
 refine⟨by kernel_rfl,fun j t ht=>?_⟩
 rw [Tryz.params8] at ht
 obtain rfl:t=22:=by simpa using Array.mem_of_getElem? ht
 exact(show Tryz.prog.wantsStandIn 22=false by kernel_rfl)
theorem treeValid_holds:Rows.TreeValidCardSaid :=
 Claim7.holds_tied_plain_at .later [] _ _ _ _ treeValid_said (fun _ h=>by cases h) (by kernel_rfl) (fun _ h=>by cases h) treeValid_row_tie rfl ⟨rfl,rfl⟩ (by kernel_rfl) rfl BN (by kernel_rfl)
#print axioms treeValid_holds
end Go.Proofs.YtfelmdkeaacfeaaGreatDoor
