/- TreeSalts holds: for every input the law returns true and changes nothing. No condition; the three variables that its row lists are tied to the program's text by the given tie. -/
import Derived.Test.YtfelmdkeaacfeaaGreatDoorTS3
namespace Go.Proofs.YtfelmdkeaacfeaaGreatDoor
open Go.ChangeShapes Go.WideShapes Go.ChangeAt Go.RowKit Go.Joins Go.Deep
theorem treeSalts_reads (os:Os){H:Type}(enc:TypeId×Value→H):∃places,DataW.whole enc Tryz.prog ((W.laidWorld os).forCall (fun _ _=>0) ⟨#[],#[.slice none 0 0,.agg #[.int .i8 0,.int .i8 0],.agg #[.int .i8 0,.int .i8 0]],[]⟩).memory Tryz.f6.params.toList Rows.treeSaltsSpec.vars false #[Value.slice none 0 0,.agg #[Value.int .i8 0,Value.int .i8 0],.agg #[Value.int .i8 0,Value.int .i8 0]].toList 8=some ([.nil,.agg [.lit (.int .i8 0),.lit (.int .i8 0)],.agg [.lit (.int .i8 0),.lit (.int .i8 0)]],[],places) :=
 ⟨[],by kernel_rfl⟩
set_option maxRecDepth 100000 in
theorem treeSalts_lifted (os:Os) (started:os.Started) (H:Type) (enc:TypeId×Value→H) (F:Stop.Interp) :
  ReturnsInHanded {} Tryz.checked os 6 .any ((OpenSpec.ofChange Rows.treeSaltsSpec).preRow enc Tryz.prog Tryz.f6 Rows.treeSaltsRow.domain false Rows.treeSaltsRow.laid) (((OpenSpec.ofChange Rows.treeSaltsSpec).at F).post enc Tryz.prog Tryz.f6 false true false false):=by
 obtain⟨places,hx⟩:=treeSalts_reads os enc
 refine returnsInHanded_of_row (C:=Tryz.checked) (s:=OpenSpec.ofChange Rows.treeSaltsSpec) W.own started (by kernel_rfl) Tryz.func6
  (witness_row_atRef (enc:=enc) (C:=Tryz.checked) false (W.laidWorld os) #[.slice none 0 0,.agg #[.int .i8 0,.int .i8 0],.agg #[.int .i8 0,.int .i8 0]] rfl (by kernel_rfl) (by kernel_rfl) (by kernel_rfl)
   (OpenSpec.preRow_of_cond 8 hx (by kernel_rfl) (fun k hk=>by cases hk) (by kernel_rfl) (W.laid_met os _))) ?_
 intro w base args ds gs before hval0 hW _ _ _ hl hs _
 have hL:W.Laid w:=W.laid_of hl hs
 have hval:∀(j:Nat) t v,Tryz.f6.params[j]? = some t→args[j]? = some v→Value.okWide Tryz.prog w .any base t v:=hval0
 have hW':=hW
 obtain⟨p,q,hA0,hV,rfl,_,_⟩:=hW
 have hA:DataW.TrodAll enc Tryz.prog w 0 (fun _=>true) true Tryz.f6.params.toList args.toList ds p:=hA0
 rw [Tryz.params6] at hA hval
 obtain⟨v0,vs0,d0,ds0,p0,q0,hargs,rfl,rfl,t0,r0⟩:=trodAll_cons hA
 obtain⟨v1,vs1,d1,ds1,p1,q1,rfl,rfl,rfl,t1,r1⟩:=trodAll_cons r0
 obtain⟨v2,vs2,d2,ds2,p2,q2,rfl,rfl,rfl,t2,r2⟩:=trodAll_cons r1
 obtain⟨rfl,rfl,rfl⟩:=trodAll_nil r2
 obtain rfl:args=#[v0,v1,v2]:=by cases args;simp_all
 obtain⟨rfl,rfl⟩:=trodVars_none hV
 obtain⟨A0,n0,c0,f0,rfl,l0,b0,y0⟩:=W.open_tops Tryz.underlying22 Tryz.underlying39 (by kernel_rfl) (by kernel_rfl) Tryz.underlying5 Tryz.underlying5 Tryz.underlying5 Tryz.underlying5 Tryz.underlying9 Tryz.underlying9 Tryz.underlying37 Tryz.underlying37 (hval 0 22 v0 rfl rfl) t0
 obtain⟨x1,y1,rfl,bx1,by1⟩:=W.open_i8s2 Tryz.underlying73 Tryz.underlying37 (by kernel_rfl) (by kernel_rfl) (hval 1 73 v1 rfl rfl) t1
 obtain⟨x2,y2,rfl,bx2,by2⟩:=W.open_i8s2 Tryz.underlying73 Tryz.underlying37 (by kernel_rfl) (by kernel_rfl) (hval 2 73 v2 rfl rfl) t2
 refine(W.treeSalts_walk hL A0 n0 c0 f0 b0 l0 y0 x1 y1 x2 y2 bx1 by1 bx2 by2).mono fun e w' ⟨he,hb⟩=>?_
 subst he
 exact⟨_,rfl,W.law_post W.laidOut (by rw [Tryz.params6];decide +kernel) (by kernel_rfl) Tryz.underlying4 rfl rfl rfl rfl hW' hb⟩
theorem treeSalts_said:Rows.TreeSaltsSaid :=
 OpenClaim.holds_of_cond 6 Tryz.f6 rfl rfl rfl rfl rfl rfl rfl ⟨rfl,rfl,rfl,rfl,rfl⟩ rfl rfl rfl rfl rfl (by kernel_rfl) Tryz.func6 (by kernel_rfl)
  (of_decide_eq_true (by kernel_rfl)) (by unfold Func.isWrapper;first | (rw [if_pos (by decide +kernel)];kernel_rfl) | (rw [if_neg (by decide +kernel)];exact⟨rfl,rfl⟩))
  (fun os started H enc _ F=>by rw [OpenClaim.pre_eq_preRow];exact treeSalts_lifted os started H enc F)
theorem treeSalts_plain (f : FuncId)(fn : Func)(hf : Tryz.pinned.checked.prog.funcNamed "knapsack/knapsacklaw07.TreeSalts" = some f)(hfn : Tryz.pinned.checked.prog.funcs[f]? = some fn) :
  false=Tryz.pinned.checked.prog.looks []∧∀(j:Nat) t,fn.params[j]? = some t→Tryz.pinned.checked.prog.wantsStandIn t=false:=by
 obtain rfl : f = 6 := Option.some.inj ((show Tryz.prog.funcNamed "knapsack/knapsacklaw07.TreeSalts" = some 6 by kernel_rfl).symm.trans hf) |>.symm
 obtain rfl:fn=Tryz.f6:=(Option.some.inj (Tryz.func6.symm.trans hfn)).symm
 refine⟨by kernel_rfl,fun j t ht=>?_⟩
 rw [Tryz.params6] at ht
 have hm:t=22∨t=73:=by simpa using Array.mem_of_getElem? ht
 rcases hm with rfl | rfl
 ·exact(show Tryz.prog.wantsStandIn 22=false by kernel_rfl)
 ·exact(show Tryz.prog.wantsStandIn 73=false by kernel_rfl)
theorem treeSalts_holds:Rows.TreeSaltsCardSaid :=
 Claim7.holds_tied_plain_at .later [] _ _ _ _ treeSalts_said (fun _ h=>by cases h) (by kernel_rfl) (fun _ h=>by cases h) treeSalts_row_tie rfl ⟨rfl,rfl⟩ (by kernel_rfl) rfl treeSalts_plain (by kernel_rfl)
#print axioms treeSalts_holds
end Go.Proofs.YtfelmdkeaacfeaaGreatDoor
