/- Texts joined: Stt Close OpT Val. -/
import Derived.Test.YtfelmdkeaacfeaaGreatDoorTB1
import Derived.Test.YtfelmdkeaacfeaaGreatDoorTB28
import Derived.Test.YtfelmdkeaacfeaaGreatDoorTB18
import Derived.Test.YtfelmdkeaacfeaaGreatDoorTB9
import Derived.Test.YtfelmdkeaacfeaaGreatDoorTB7
import Derived.Test.YtfelmdkeaacfeaaGreatDoorTB23
import Derived.Test.YtfelmdkeaacfeaaGreatDoorRows
import Derived.WalkKit
import Derived.ProofKit
import Derived.OpenShut
import Derived.Lib.SmallJoins
import Derived.Test.YtfelmdkeaacfeaaGreatDoorTB31
import Derived.Deep.Slices
import Derived.Test.YtfelmdkeaacfeaaGreatDoorTB25
import Derived.Test.YtfelmdkeaacfeaaGreatDoorTB5
set_option maxRecDepth 100000
set_option maxHeartbeats 40000000
set_option linter.unusedVariables false
set_option linter.unusedSimpArgs false
section
namespace Go.Proofs.YtfelmdkeaacfeaaGreatDoor.W
open Go.RowKit
theorem NJ {B:Nat}{w0 w:World}{l:List Ob}(h:All B w0 l w)(b s:Int) :
  Calls Tryz.prog 38 #[.agg #[.int .i64 b,.int .i64 s]] w fun e w'=>∃R sv,e=.returned (.pointer (some ⟨R,0,none⟩))∧All B w0 (Bg R (AA b s) sv (.slice none 0 0) :: l) w':=by
 refine(IG b s w).mono ?_
 rintro e w' ⟨R,sv,rfl,hT,hb⟩
 refine⟨R,sv,rfl,h.new ⟨hT.blk,iD hT.slots (aZ _),iD hT.free (aZ _),fun i n hi=>?_,aZ _,hT.few⟩ hb (fun k hk=>?_)⟩
 ·obtain⟨a,c,e,h'⟩:=hT.attrs i n hi
  exact⟨a,c,e,h'.imp id fun⟨g,cur,e1,_,r⟩=>⟨g,cur,e1,aZ _,r⟩⟩
 ·rcases hk with rfl | hk | hk | ⟨i,n,hi,hne,hk⟩
  ·exact hT.base
  ·exact(hT.slots.lt k hk).1
  ·cases hk
  ·obtain⟨a,c,e,h'⟩:=hT.attrs i n (dN hi)
   rcases h' with h' | ⟨g,cur,rfl,hg,_⟩
   ·exact absurd h' hne
   ·rw [e] at hk;cases hk;exact hg
theorem NI (b s:Int):CX True (fun _=>False) 0 0 (AA b s) (fun _=>[]) (fun _=>1) [kD 1 [] [] []] (fun _=>0):=by
 have hlk:Lk (AA b s) (fun _=>[]) (fun _=>1):=IP b s
 have hat:∀i n,(AA b s).at i=some n→i=0∧n=vO 1 []:=fun i n hi=>by
  unfold Tr.at AA at hi
  cases i with
  | zero=>simp at hi;exact⟨rfl,hi.symm⟩
  | succ i=>simp at hi
 have h0:(AA b s).at 0=some (vO 1 []):=rfl
 have hlv:∀i m,lv [kD 1 [] [] []] i=some m→i=0∧m=kD 1 [] [] []:=fun i m hi=>by
  obtain⟨h1,_⟩:=lV hi
  cases i with
  | zero=>simp at h1;exact⟨rfl,h1.symm⟩
  | succ i=>simp at h1
 have hz:lv [kD 1 [] [] []] 0=some (kD 1 [] [] []):=rfl
 refine⟨⟨hlk,fun x n hx=>?_,fun p np _=>.inl rfl,fun i hi=>(by cases hi),uK,rfl,⟨_,h0,rfl⟩,fun x n hx hx0=>absurd (hat x n hx).1 hx0,fun p h=>(by cases h)⟩,
  ⟨fun i m hi=>?_,fun i m hi=>?_,fun i j mi mj hi hj _=>?_,⟨rfl,_,hz⟩,fun i m p hi hp=>?_,fun p mp k hp hk=>?_,fun i m hi hp q h=>(by cases h),fun x hx=>?_,fun i m hi h=>h,fun i m hi=>?_,by decide⟩,fun p k h=>(by cases h),by show 1≤1+0;omega⟩
 ·rw [(hat x n hx).2]
  exact⟨.inl rfl,fun e=>(by cases e),fun e=>(by rcases e with e | e <;> cases e),fun _=>⟨rfl,rfl,rfl⟩,fun a ha=>(by cases ha),uK,by simp [vO],by simp [vO],by simp [vO]⟩
 ·obtain⟨rfl,rfl⟩:=hlv i m hi
  exact⟨_,h0,rfl,rfl,rfl,fun _=>rfl⟩
 ·obtain⟨rfl,rfl⟩:=hlv i m hi
  rfl
 ·rw [(hlv i mi hi).1,(hlv j mj hj).1]
 ·obtain⟨rfl,rfl⟩:=hlv i m hi
  cases hp
 ·obtain⟨rfl,rfl⟩:=hlv p mp hp
  cases hk
 ·obtain⟨n,hn⟩:=aB.1 hx
  exact .inr ⟨0,_,hz,(hat x n hn).1.symm⟩
 ·obtain⟨rfl,rfl⟩:=hlv i m hi
  exact aZ _
theorem All.conv {B:Nat}{w0 w:World}{o o':Ob}(l1:List Ob){l2:List Ob}(h:All B w0 (l1 ++ o :: l2) w)(hp:o'.P w)(hf:∀k,o'.F k→o.F k):All B w0 (l1 ++ o' :: l2) w :=
 h.step l1 hp (dU.refl _ _) (fun k hk=>.inl (hf k hk))
def QX (B:Nat)(w0:World)(l:List Ob)(R:Nat)(S:Tr)(sv fv:Value):List Value→List Ob→World→Prop
 | [],Y,w'=>All B w0 (Y ++ Bg R S sv fv :: l) w'
 | [v],Y,w'=>∃Q nv X,v=.pointer (some ⟨Q,0,none⟩)∧ms X=[kD 1 [] [] []]∧All B w0 (Y ++ ui Q nv X :: Bg R S sv fv :: l) w'
 | _,_,_=>False
theorem QX.tr {B:Nat}{w0 w:World}{l:List Ob}{R:Nat}{S:Tr}{sv fv:Value}{k:List Value}{Y:List Ob}(h:QX B w0 l R S sv fv k Y w):fZ 0 R S sv fv w:=by
 match k,h with
 | [],h=>exact h.P (Bg R S sv fv) (by simp)
 | [v],⟨Q,nv,X,_,_,h⟩=>exact h.P (Bg R S sv fv) (by simp)
theorem QX.alloc {B:Nat}{w0 w:World}{l:List Ob}{R:Nat}{S:Tr}{sv fv:Value}(k:List Value)(Y:List Ob)(cs:List Value)(ty:TypeId)(h:QX B w0 l R S sv fv k Y w):QX B w0 l R S sv fv k (bk w.heap.size cs ty :: Y) (w.alloc (.cells cs.toArray ty)):=by
 match k,h with
 | [],h=>exact h.sO cs ty
 | [v],⟨Q,nv,X,e1,e2,h⟩=>exact⟨Q,nv,X,e1,e2,h.sO cs ty⟩
theorem QX.perm {B:Nat}{w0 w:World}{l:List Ob}{R:Nat}{S:Tr}{sv fv:Value}(k:List Value)(Y Z:List Ob)(hp:Y.Perm Z)(h:QX B w0 l R S sv fv k Y w):QX B w0 l R S sv fv k Z w:=by
 match k,h with
 | [],h=>exact All.perm (show All B w0 (Y ++ Bg R S sv fv :: l) w from h) (dY _ hp)
 | [v],⟨Q,nv,X,e1,e2,h⟩=>exact⟨Q,nv,X,e1,e2,h.perm (dY _ hp)⟩
theorem NL {B:Nat}{w0 w:World}{l:List Ob}(h:All B w0 l w)(b s:Int) :
  Calls Tryz.prog 12 #[.agg #[.int .i64 b,.int .i64 s]] w fun e w'=>∃g R Q hv sv nv X,e=.returned (.pointer (some ⟨g,0,none⟩))∧ms X=[kD 1 [] [] []] ∧
   All B w0 (kK g R Q hv (iZ (AA b s) (fun _=>0) (ms X)) (AA b s) sv (.slice none 0 0) nv X ++ l) w':=by
 have HA1:=ae (h.alloc (.cells #[.int .i64 b,.int .i64 s] 28))
 have k1:=dD.new w [.int .i64 b,.int .i64 s] 28
 have c0:=k1.cell 0
 have c1:=k1.cell 1
 simp only [fQ,fP] at c0 c1
 have hlt:=k1.lt
 clear h
 go_enter Tryz.func12,Tryz.ntmps12
 go_wp2_with fail
 refine(NJ HA1.out b s).mono ?_
 rintro e w2 ⟨R,sv,rfl,hA2⟩
 have HA2:=ae hA2
 clear c0 c1 hlt k1 hA2
 go_upto_region 2 with fail
 generalize hS:AA b s=S at *
 have hroot:S.root=S.hd 0:=by rw [← hS];rfl
 haveI hne:Nonempty (dS (fun w'=>fZ 0 R S sv (.slice none 0 0) w')):=⟨⟨w2,HA2.out.head⟩⟩
 have y5:=fun(x:dS (fun w'=>fZ 0 R S sv (.slice none 0 0) w'))=>x.h.blk.cell 5
 simp only [fQ,fP] at y5
 refine RV.sH ⟨fun w'=>fZ 0 R S sv (.slice none 0 0) w',QX B w0 l R S sv (.slice none 0 0),fun _ v=>∃Q,v=.pointer (some ⟨Q,0,none⟩),fun _ r=>.slice (some ⟨r,0,none⟩) 1 1,fun _=>[.int .i64 S.root],fun _=>3⟩ 8 (by kernel_rfl) (by kernel_rfl) (fun k Y w h=>h.tr) (fun k Y w cs ty h=>QX.alloc k Y cs ty h) (fun k Y Z w hp h=>QX.perm k Y Z hp h) (HA2.out.drew) ?_
 simp only [mD,mr,l9,lZ]
 repeat (first
  | (refine RV.aN (by rfl) (by rfl) (fun K hK=>?_);go_big_quiet_step (fail);refine az ?_;refine hK.out _ ?_;clear hK K)
  | (refine RV.aK (by rfl) ?_;simp only [Act.put,dL,dK,dJ]))
 refine RV.dM (by rfl) (by rfl) (fun w=>by go_simp;exact⟨rfl,rfl⟩) (⟨_,0,rfl⟩) (fun X wx hx=>?_) (fun v hv=>?_)
 ·refine(PV wx).mono ?_
  rintro e wy ⟨Q,gq,capq,Xm,rfl,hms,hq⟩
  have hx':All B w0 (X ++ Bg R S sv (.slice none 0 0) :: l) wx:=hx
  exact⟨_,rfl,⟨Q,rfl⟩,Q,_,Xm,rfl,hms,(hx'.after hq).perm (by simpa using List.perm_middle.symm)⟩
 obtain⟨Q,rfl⟩:=hv
 simp only [Act.put,dL,dK,dJ]
 repeat (first
  | (refine RV.aN (by rfl) (by rfl) (fun K hK=>?_);go_big_quiet_step (fail);refine az ?_;refine hK.out _ ?_;clear hK K)
  | (refine RV.aK (by rfl) ?_;simp only [Act.put,dL,dK,dJ]))
 refine RV.rY (fun r=>.slice (some ⟨r,0,none⟩) 1 1) [.int .i64 S.root] 3 rfl rfl rfl (by rfl) (by rfl) (fun w=>by go_simp) ?_
 intro r
 simp only [Act.put,dL,dK,dJ]
 repeat (first
  | (refine RV.aN (by rfl) (by rfl) (fun K hK=>?_);go_big_quiet_step (fail);refine az ?_;refine hK.out _ ?_;clear hK K)
  | (refine RV.aK (by rfl) ?_;simp only [Act.put,dL,dK,dJ]))
 refine RV.eH ?_
 rintro w5 ⟨Q',nv,X,e1,hms,hA5⟩
 cases e1
 have HA5:=ae hA5
 clear y5 hne hA5
 go_wp2_with fail
 go_ret
 refine⟨w5.heap.size,R,Q,.slice (some ⟨r,0,none⟩) 1 1,sv,nv,X,rfl,hms,?_⟩
 have h1:=All.conv [] (o':=sl 3 1 (.slice (some ⟨r,0,none⟩) 1 1) 1 (hC [S.hd 0])) HA5.out (by
  have:=HA5.out.P (bk r [.int .i64 S.root] 3) (by simp)
  rw [← hroot]
  exact jg (n:=1) (size:=1) this rfl (by omega)) (fun k hk=>by cases hk;rfl)
 have h2:=h1.sO [.pointer (some ⟨R,0,none⟩),.pointer (some ⟨Q,0,none⟩),.slice (some ⟨r,0,none⟩) 1 1] 33
 rw [hms,hS]
 have h3:iZ S (fun _=>0) [kD 1 [] [] []]=[S.hd 0]:=rfl
 rw [h3]
 exact h2.perm ((List.Perm.cons _ (List.Perm.cons _ (List.Perm.swap _ _ _))))
end Go.Proofs.YtfelmdkeaacfeaaGreatDoor.W
end
section
namespace Go.Proofs.YtfelmdkeaacfeaaGreatDoor.W
open Go.ChangeShapes Go.WideShapes Go.ChangeAt Go.RowKit Go.Joins
theorem own:ownKnob Tryz.prog.godebug=none:=by kernel_rfl
theorem laidOut:laidOutB Tryz.prog=true:=by kernel_rfl
theorem xA {H:Type}{enc:TypeId×Value→H}{P:Program}(hl:laidOutB P=true){W W':World}(hb:Below W.heap.size W W'){sp:Nat→Bool} :
  ∀{ts:List TypeId} {vs:List Value} {ds:List (DataW H)} {ps:List MemPlace},(∀t∈ts,P.readableRec t=true∧t < P.types.size) →
   DataW.TrodAll enc P W 0 (fun _=>true) true ts vs ds ps→(∀p∈ps,p.block < W.heap.size)→(∀p∈ps,sp p.block=true)→DataW.TrodAll enc P W' 0 sp true ts vs ds ps
 | [],[],[],_,_,h,_,_=>h
 | [],_ :: _,_,_,_,h,_,_=>h.elim
 | [],[],_ :: _,_,_,h,_,_=>h.elim
 | _ :: _,[],_,_,_,h,_,_=>h.elim
 | _ :: _,_ :: _,[],_,_,h,_,_=>h.elim
 | t :: ts,v :: vs,d :: ds,ps,hT,⟨p,q,h1,h2,e⟩,hlt,hs=>by
  subst e
  obtain⟨hr,hrow⟩:=hT t (by simp)
  exact⟨p,q,WideElems.Trod_stays hl hr hrow h1 (fun x hx=>hb.same (hlt x (by simp [hx]))) (fun x hx=>hs x (by simp [hx])),
   xA hl hb (fun t ht=>hT t (by simp [ht])) h2 (fun x hx=>hlt x (by simp [hx])) (fun x hx=>hs x (by simp [hx])),rfl⟩
section
variable {H : Type} {enc : TypeId × Value → H} {P : Program}
theorem EH {f:Func}{s:ChangeSpec}{apart fresh handsOn again:Bool}{W W':World}{args:Array Value}{v:Value}{ds gs:List (DataW H)}{before pa pv:List MemPlace}
  (hW:DataW.Whole enc P f.params.toList s.vars apart W args.toList ds gs before)
  (hres:∀(b:Nat) (sp:Nat→Bool) (hd:Bool),DataW.TrodAll enc P W' b sp hd f.resultTypes.toList (v.resultList f.resultTypes.size) (s.fn H (ds ++ gs)).results [])
  (hargs:∀sp:Nat→Bool,(∀p∈before,sp p.block=true)→DataW.TrodAll enc P W' 0 sp true f.params.toList args.toList (s.fn H (ds ++ gs)).args pa)
  (hvars:∀sp:Nat→Bool,(∀p∈before,sp p.block=true)→DataW.TrodVars enc P W' sp s.vars (s.fn H (ds ++ gs)).vars pv)
  (hps:before=pa ++ pv)(hb:Below W.heap.size W W')
  (hok:∀(j:Nat) (t:TypeId) (r:Value),f.resultTypes[j]? = some t→(v.resultList f.resultTypes.size)[j]? = some r→Value.okWide P W' .any 0 t r) :
  s.post enc P f apart fresh handsOn again W args v W':=by
 have hlt:∀p∈before,p.block < W.heap.size:=fun p hp=>hW.lt p hp
 have hold:∀p∈before,(fun b=>decide (b < W.heap.size)) p.block=true:=fun p hp=>by simpa using hlt p hp
 refine⟨ds,gs,before,[],pa,pv,hW,hres _ _ _,hargs _ hold,hvars _ hold,World.keptBut_mono (fun p hp=>⟨hp,?_⟩) (hb.frame (·∈before)),fun _=>?_⟩
 ·rw [hps,cZ] at hp
  exact Or.inr hp
 ·obtain⟨_,_,_,_,_,hz,hn⟩:=hW
  refine⟨hok,_,_,([] ++ pa) ++ pv,⟨[] ++ pa,pv,trodAll_append (hargs _ (fun _ _=>rfl)) (hres _ _ _),hvars _ (fun _ _=>rfl),rfl,?_,?_⟩,?_⟩
  ·intro b off hp
   have hin:MemPlace.cell b off∈before:=by rw [hps];simpa using hp
   rw [hb.frozen (hlt _ hin)]
   exact hz b off hin
  ·intro ha
   have:=hn ha
   rw [hps] at this
   simpa using this
  ·intro p hp _
   rw [hps]
   simpa using hp
theorem Qa {f:Func}{s:ChangeSpec}{fresh handsOn again:Bool}{W W':World}{args:Array Value}{ds gs:List (DataW H)}{before:List MemPlace}{tb:TypeId}
  (hl:laidOutB P=true)(hT:∀t∈f.params.toList,P.readableRec t=true∧t < P.types.size)
  (hr:f.resultTypes=#[tb])(htb:P.underlying tb=some .bool)(hv:s.vars=[])
  (hfn:(s.fn H (ds ++ gs)).results=[.lit (.bool true)])(hfa:(s.fn H (ds ++ gs)).args=ds)(hfv:(s.fn H (ds ++ gs)).vars=[])
  (hW:DataW.Whole enc P f.params.toList s.vars false W args.toList ds gs before)(hb:Below W.heap.size W W') :
  s.post enc P f false fresh handsOn again W args (.bool true) W':=by
 have hlt:∀p∈before,p.block < W.heap.size:=fun p hp=>hW.lt p hp
 have hW':=hW
 obtain⟨p,q,hA,hV,rfl,_,_⟩:=hW
 rw [hv] at hV
 obtain⟨rfl,rfl⟩:=trodVars_none hV
 simp only [aT] at *
 refine EH (pa:=p) (pv:=[]) hW' (fun _ _ _=>?_) (fun sp hs=>?_) (fun sp _=>?_) (by simp) hb (ok_one hr rfl (okWide_bool_mk htb _))
 ·rw [hr]
  simp only [aT]
  rw [hfn]
  exact trodAll_cons_mk (shut_bool htb _) trodAll_mk0
 ·simp only [aT]
  rw [hfa]
  exact xA hl hb hT hA hlt hs
 ·simp only [aT]
  rw [hv,hfv]
  rfl
end
end Go.Proofs.YtfelmdkeaacfeaaGreatDoor.W
end
section
namespace Go.Proofs.YtfelmdkeaacfeaaGreatDoor.W
open Go.ChangeShapes Go.WideShapes Go.ChangeAt Go.RowKit Go.Joins Go.Deep
structure ou.In (o:ou):Prop where
 k:o.k≤255
 a:o.a≤255
 b:o.b≤255
 c:o.c≤255
 n:-128≤o.n∧o.n≤127
 kk:-128≤o.kk∧o.kk≤127
def J5:ou:=⟨0,0,0,0,[],[],0,0⟩
theorem Fa:J5.In:=⟨by decide,by decide,by decide,by decide,by decide,by decide⟩
def UW (w:World)(A:Option Addr)(n:Nat)(f:Nat→ou):Prop:=0 < n→∃b off,A=some ⟨b,off,none⟩∧b < w.heap.size∧∀j,j < n →
 w.cell? ⟨b,off+j*8,none⟩=some (.int .u8 ((f j).k:Int))∧w.cell? ⟨b,off+j*8+1,none⟩=some (.int .u8 ((f j).a:Int))∧w.cell? ⟨b,off+j*8+2,none⟩=some (.int .u8 ((f j).b:Int))∧w.cell? ⟨b,off+j*8+3,none⟩=some (.int .u8 ((f j).c:Int)) ∧
 w.cell? ⟨b,off+j*8+4,none⟩=some (.string ⟨(f j).s.toArray⟩)∧w.cell? ⟨b,off+j*8+5,none⟩=some (.string ⟨(f j).t.toArray⟩)∧w.cell? ⟨b,off+j*8+6,none⟩=some (.int .i8 (f j).n)∧w.cell? ⟨b,off+j*8+7,none⟩=some (.int .i8 (f j).kk)
theorem SI {x:Int}(h:(Lit.int .u8 x).wf=true):0≤x∧x≤255:=by
 have:=bounds_u8 h
 omega
theorem zT {x:Int}(h:(Lit.int .u8 x).wf=true):x.toNat≤255∧((x.toNat:Nat):Int)=x:=by
 have:=SI h
 omega
theorem Py (s:ByteArray):(⟨s.data.toList.toArray⟩:ByteArray)=s:=by
 cases s;simp
section
variable {H : Type} {enc : TypeId × Value → H} {P : Program} {w : World}
theorem N7 {r:Reach}{b0:Nat}{t e:TypeId}{f0 f1 f2 f3 f4 f5 f6 f7:Field}{v:Value}{d:DataW H}{ps:List MemPlace}(ht:P.underlying t=some (.slice e))(he:P.underlying e=some (.struct #[f0,f1,f2,f3,f4,f5,f6,f7]))
  (hone:oneCellFields P #[f0,f1,f2,f3,f4,f5,f6,f7]=true)(hC:P.cellsOf e=8)(e0:P.underlying f0.type=some (.int .u8))(e1:P.underlying f1.type=some (.int .u8))(e2:P.underlying f2.type=some (.int .u8))(e3:P.underlying f3.type=some (.int .u8))(e4:P.underlying f4.type=some .string)(e5:P.underlying f5.type=some .string)(e6:P.underlying f6.type=some (.int .i8))(e7:P.underlying f7.type=some (.int .i8))
  (hval:Value.okWide P w r b0 t v)(h:DataW.Trod enc P w 0 (fun _=>true) true t v d ps) :
  ∃A n c,∃f:Nat→ou,v=.slice A n c∧n≤9223372036854775807∧UW w A n f∧∀j,(f j).In:=by
 obtain⟨A,n,c,rfl⟩:=okWide_slice ht hval
 obtain⟨fuel,hf⟩:=h
 rcases open_slice ht hf with ⟨hcs,_⟩ | ⟨a,len,cap,m,k,D,Pl,hcs,_,hl,hmx,hm,_,hx⟩
 ·simp [Value.cells] at hcs
  obtain⟨rfl,rfl,rfl⟩:=hcs
  exact⟨none,0,0,fun _=>J5,rfl,aZ _,fun h=>absurd h (by omega),fun _=>Fa⟩
 ·simp [Value.cells] at hcs
  obtain⟨rfl,rfl,rfl⟩:=hcs
  simp only [oW] at hm
  subst hm
  rw [hC] at hx
  have each:∀i,∃q:ou,q.In ∧
    (i < n→w.cell? (a.add (i*8))=some (.int .u8 (q.k:Int))∧w.cell? (a.add (i*8+1))=some (.int .u8 (q.a:Int))∧w.cell? (a.add (i*8+2))=some (.int .u8 (q.b:Int))∧w.cell? (a.add (i*8+3))=some (.int .u8 (q.c:Int))∧w.cell? (a.add (i*8+4))=some (.string ⟨q.s.toArray⟩)∧w.cell? (a.add (i*8+5))=some (.string ⟨q.t.toArray⟩)∧w.cell? (a.add (i*8+6))=some (.int .i8 q.n)∧w.cell? (a.add (i*8+7))=some (.int .i8 q.kk)):=by
   intro i
   by_cases hi:i < n
   ·obtain⟨cs,h1,h2⟩:=hx i (by omega)
    obtain⟨_,hlen,hcell⟩:=World.cells?_some h1
    obtain⟨o0,k0⟩:=hone_of hone 0 f0 rfl
    obtain⟨o1,k1⟩:=hone_of hone 1 f1 rfl
    obtain⟨o2,k2⟩:=hone_of hone 2 f2 rfl
    obtain⟨o3,k3⟩:=hone_of hone 3 f3 rfl
    obtain⟨o4,k4⟩:=hone_of hone 4 f4 rfl
    obtain⟨o5,k5⟩:=hone_of hone 5 f5 rfl
    obtain⟨o6,k6⟩:=hone_of hone 6 f6 rfl
    obtain⟨o7,k7⟩:=hone_of hone 7 f7 rfl
    obtain⟨xs,k',_,_,_,hxl,hg⟩:=DataW.trod_struct he h2
    match xs,hxl,cs,hlen with
    | [y0,y1,y2,y3,y4,y5,y6,y7],_,[v0,v1,v2,v3,v4,v5,v6,v7],_ =>
     have g0:=hg 0 f0 rfl
     have g1:=hg 1 f1 rfl
     have g2:=hg 2 f2 rfl
     have g3:=hg 3 f3 rfl
     have g4:=hg 4 f4 rfl
     have g5:=hg 5 f5 rfl
     have g6:=hg 6 f6 rfl
     have g7:=hg 7 f7 rfl
     simp [o0,o1,o2,o3,o4,o5,o6,o7,k0,k1,k2,k3,k4,k5,k6,k7] at g0 g1 g2 g3 g4 g5 g6 g7
     obtain⟨x0,z0,_,w0⟩:=vz e0 g0
     obtain⟨x1,z1,_,w1⟩:=vz e1 g1
     obtain⟨x2,z2,_,w2⟩:=vz e2 g2
     obtain⟨x3,z3,_,w3⟩:=vz e3 g3
     obtain⟨x4,z4,_⟩:=DataW.trod_string e4 g4
     obtain⟨x5,z5,_⟩:=DataW.trod_string e5 g5
     obtain⟨x6,z6,_,w6⟩:=vz e6 g6
     obtain⟨x7,z7,_,w7⟩:=vz e7 g7
     simp at z0 z1 z2 z3 z4 z5 z6 z7
     subst z0 z1 z2 z3 z4 z5 z6 z7
     obtain⟨r0,r0'⟩:=zT w0
     obtain⟨r1,r1'⟩:=zT w1
     obtain⟨r2,r2'⟩:=zT w2
     obtain⟨r3,r3'⟩:=zT w3
     refine⟨⟨x0.toNat,x1.toNat,x2.toNat,x3.toNat,x4.data.toList,x5.data.toList,x6,x7⟩,⟨r0,r1,r2,r3,bounds_i8 w6,bounds_i8 w7⟩,fun _=>?_⟩
     simp only [r0',r1',r2',r3',Py]
     refine⟨?_,?_,?_,?_,?_,?_,?_,?_⟩
     ·have:=hcell 0 (by omega);simpa [Addr.add] using this
     ·have:=hcell 1 (by omega);rw [o9] at this;simpa using this
     ·have:=hcell 2 (by omega);rw [o9] at this;simpa using this
     ·have:=hcell 3 (by omega);rw [o9] at this;simpa using this
     ·have:=hcell 4 (by omega);rw [o9] at this;simpa using this
     ·have:=hcell 5 (by omega);rw [o9] at this;simpa using this
     ·have:=hcell 6 (by omega);rw [o9] at this;simpa using this
     ·have:=hcell 7 (by omega);rw [o9] at this;simpa using this
   ·exact⟨J5,Fa,fun h=>absurd h hi⟩
  obtain⟨F,hF⟩:=Classical.axiomOfChoice each
  refine⟨some a,n,_,F,rfl,by unfold maxLen at hmx;omega,fun hn=>?_,fun j=>(hF j).1⟩
  have hc:=fun i hi=>(hF i).2 hi
  clear hF each
  obtain⟨b,off,el⟩:=a
  have h0:=(hc 0 hn).1
  have hel:el=none:=by simpa [Addr.add] using World.cell?_spot h0
  subst hel
  refine⟨b,off,rfl,?_,fun i hi=>?_⟩
  ·have:=iG _ _ h0
   rw [aP] at this
   exact this
  ·obtain⟨q0,q1,q2,q3,q4,q5,q6,q7⟩:=hc i hi
   rw [aP] at q0 q1 q2 q3 q4 q5 q6 q7
   exact⟨q0,q1,q2,q3,q4,q5,q6,q7⟩
end
def VQ (n:Nat)(f:Nat→ou)(w:World)(e:Ending)(w':World):Prop:=∃b:Bool,e=.returned (.bool b)∧(b=true→n≤60∧∀j,j < n→(f j).s.length≤40∧(f j).t.length≤40)∧w'=w
theorem Ph {w:World}(A:Option Addr)(n c:Nat)(f:Nat→ou)(h:UW w A n f)(hn:n≤9223372036854775807) :
  Calls Tryz.prog 11 #[.slice A n c] w (VQ n f w):=by
 have H:=ae h
 clear h
 go_enter Tryz.func11,Tryz.ntmps11
 go_wp2_with fail
 go_loop [3] (fun iv=>∃k:Nat,k≤n∧iv=.int .i64 (k:Int)∧∀j,j < k→(f j).s.length≤40∧(f j).t.length≤40) (fun iv=>n - (intOf iv).toNat)
 case atStart=>exact⟨0,aZ _,rfl,fun j hj=>absurd hj (Nat.not_lt_zero j)⟩
 case round =>
  obtain⟨k,hkn,rfl,hS⟩:=hrel
  have HS:=ae hS
  clear hS
  by_cases hkl:k < n
  ·obtain⟨b,off,rfl,hb,hc⟩:=H.out (by omega)
   obtain⟨_,_,_,_,q4,q5,_,_⟩:=hc k hkl
   have hs1:(⟨(f k).s.toArray⟩:ByteArray).size=(f k).s.length:=by simp [ByteArray.size]
   have hs2:(⟨(f k).t.toArray⟩:ByteArray).size=(f k).t.length:=by simp [ByteArray.size]
   generalize hq:(⟨(f k).s.toArray⟩:ByteArray)=sk at *
   generalize hq2:(⟨(f k).t.toArray⟩:ByteArray)=tk at *
   clear hc hq hq2
   by_cases h20:40 < sk.size
   ·have d1:decide ((40:Int) < (sk.size:Int))=true:=by simp;omega
    go_wp2_with fail
    go_ret
    exact⟨false,rfl,(fun e=>by cases e),rfl⟩
   ·have d1:decide ((40:Int) < (sk.size:Int))=false:=by simp;omega
    by_cases h21:40 < tk.size
    ·have d2:decide ((40:Int) < (tk.size:Int))=true:=by simp;omega
     go_wp2_with fail
     go_ret
     exact⟨false,rfl,(fun e=>by cases e),rfl⟩
    ·have d2:decide ((40:Int) < (tk.size:Int))=false:=by simp;omega
     go_wp2_with fail
     go_round
     case rel =>
      refine⟨k+1,by omega,by go_num,fun j hj=>?_⟩
      by_cases e:j=k
      ·subst e;omega
      ·exact HS.out j (by omega)
     case measure=>simp [intOf];omega
  ·obtain rfl:k=n:=by omega
   by_cases h2:k≤60
   ·have d2:decide ((k:Int)≤60)=true:=by simp;omega
    go_wp2_with fail
    go_ret
    exact⟨true,rfl,fun _=>⟨h2,HS.out⟩,rfl⟩
   ·have d2:decide ((k:Int)≤60)=false:=by simp;omega
    go_wp2_with fail
    go_ret
    exact⟨false,rfl,(fun e=>by cases e),rfl⟩
end Go.Proofs.YtfelmdkeaacfeaaGreatDoor.W
end
section
namespace Go.Proofs.YtfelmdkeaacfeaaGreatDoor.W
open Go.RowKit
attribute [local go_sem] Oper.semAt_some
end Go.Proofs.YtfelmdkeaacfeaaGreatDoor.W
end
